import Derived.Test.YthgoocdldnkogaaGreatDoorHJ
import Derived.Test.YthgoocdldnkogaaGreatDoorHZ2
namespace Go.Proofs.YthgoocdldnkogaaGreatDoor
set_option linter.unusedVariables false
set_option linter.unusedSimpArgs false
open Go.RowKit
structure MovS where
 tab : Int
 ix : Bool
 id : Int
 dst : Int
structure TInv (t : TabS) : Prop where
 c : (t.cols.map ColS.id).Nodup
 x : (t.idxs.map IdxS.id).Nodup
 cs : ∀ c ∈ t.cols, c.st ≠ 0
 xs : ∀ c ∈ t.idxs, c.st ≠ 0
 sub : ∀ x ∈ t.idxs, ∀ k ∈ x.cols, k ∈ t.cols.map ColS.id

theorem risB_gt {b w : Int} {l : List Int} (h : risB b w l = true) : ∀ x ∈ l, w < x ∧ x < b := by
 induction l generalizing w with
 | nil => intro x hx; cases hx
 | cons y l ih =>
  simp only [risB, Bool.and_eq_true, decide_eq_true_eq] at h
  intro x hx
  rcases List.mem_cons.1 hx with rfl | hx
  ·exact h.1
  ·have := ih h.2 x hx
   omega
theorem risB_pair {b w : Int} {l : List Int} (h : risB b w l = true) : l.Pairwise (· < ·) := by
 induction l generalizing w with
 | nil => exact .nil
 | cons y l ih =>
  simp only [risB, Bool.and_eq_true, decide_eq_true_eq] at h
  exact .cons (fun x hx => (risB_gt h.2 x hx).1) (ih h.2)
theorem risB_nodup {b w : Int} {l : List Int} (h : risB b w l = true) : l.Nodup := (risB_pair h).imp fun h e => by omega
structure SInv (s : SchS) : Prop where
 ids : (s.tabs.map TabS.id).Nodup
 tabs : ∀ t ∈ s.tabs, TInv t
theorem partsOk_mem {ids w l : List Int} (h : partsOk ids w l = true) : ∀ k ∈ l, k ∈ ids := by
 induction l generalizing w with
 | nil => intro k hk; cases hk
 | cons c l ih =>
  simp only [partsOk, Bool.and_eq_true] at h
  intro k hk
  rcases List.mem_cons.1 hk with rfl | hk
  ·have := h.1.1
   simp only [memI, List.any_eq_true, decide_eq_true_eq] at this
   obtain ⟨y, hy, rfl⟩ := this
   exact hy
  ·exact ih h.2 k hk
structure TOk (t : TabS) (next : Int) : Prop where
 nm : nameOk t.name = true
 lc : t.cols.length ≤ 12
 lx : t.idxs.length ≤ 8
 pub : (pubC t.cols).length ≠ 0
 cr : risB next (-1) (t.cols.map ColS.id) = true
 xr : risB next (-1) (t.idxs.map IdxS.id) = true
 cu : unlB [] ((pubC t.cols).map ColS.name) = true
 xu : unlB [] (t.idxs.map IdxS.name) = true
 co : ∀ c ∈ t.cols, colOk c = true
 xo : ∀ x ∈ t.idxs, idxOk t x = true
structure SOk (s : SchS) : Prop where
 ver : 0 ≤ s.ver
 next : 0 ≤ s.next
 len : s.tabs.length ≤ 8
 ids : risB s.next (-1) (s.tabs.map TabS.id) = true
 nms : unlB [] (s.tabs.map TabS.name) = true
 tabs : ∀ t ∈ s.tabs, TOk t s.next
theorem colOk_st {c : ColS} (h : colOk c = true) : 1 ≤ c.st ∧ c.st ≤ 3 := by
 simp only [colOk, Bool.and_eq_true, thereB, decide_eq_true_eq] at h
 exact h.2
theorem idxOk_st {t : TabS} {c : IdxS} (h : idxOk t c = true) : 1 ≤ c.st ∧ c.st ≤ 3 := by
 simp only [idxOk, Bool.and_eq_true, thereB, decide_eq_true_eq] at h
 exact h.1.1.1.2
theorem TOk.inv {t : TabS} {next : Int} (h : TOk t next) : TInv t := by
 refine ⟨risB_nodup h.cr, risB_nodup h.xr, fun c hc e => ?_, fun c hc e => ?_, fun x hx => ?_⟩
 ·have := colOk_st (h.co c hc); omega
 ·have := idxOk_st (h.xo c hc); omega
 ·have := h.xo x hx
  simp only [idxOk, Bool.and_eq_true] at this
  exact partsOk_mem this.2
theorem SOk.inv {s : SchS} (h : SOk s) : SInv s := ⟨risB_nodup h.ids, fun t ht => (h.tabs t ht).inv⟩
noncomputable def good (r : SchS × Int) (b : SchS) : Bool := decide (r.2 = 0) && eqB r.1 b
end Go.Proofs.YthgoocdldnkogaaGreatDoor
