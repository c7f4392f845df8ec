import Derived.Test.YthgoocdldnkogaaGreatDoorHJn
import Derived.Test.YthgoocdldnkogaaGreatDoorHMa
import Derived.Test.YthgoocdldnkogaaGreatDoorHMp
namespace Go.Proofs.YthgoocdldnkogaaGreatDoor
set_option linter.unusedVariables false
set_option linter.unusedSimpArgs false
open Go.RowKit
def mvOf (m : MvS) : MovS := ⟨m.tab, m.ofi, m.item, m.st⟩
theorem nodup_eq {α : Type} {f : α → Int} {l : List α} (h : (l.map f).Nodup) {x y : α} (hx : x ∈ l) (hy : y ∈ l) (e : f x = f y) : x = y := by
 induction l with
 | nil => cases hx
 | cons z l ih =>
  rw [List.map_cons, List.nodup_cons] at h
  rcases List.mem_cons.1 hx with h1 | h1
  ·rcases List.mem_cons.1 hy with h2 | h2
   ·exact h1.trans h2.symm
   ·exact absurd (show f z ∈ l.map f by rw [← h1, e]; exact List.mem_map_of_mem h2) h.1
  ·rcases List.mem_cons.1 hy with h2 | h2
   ·exact absurd (show f z ∈ l.map f by rw [← h2, ← e]; exact List.mem_map_of_mem h1) h.1
   ·exact ih h.2 h1 h2
theorem stOf_x {t : TabS} {n k : Int} (h : stOf t true n = some k) : ∃ x ∈ t.idxs, x.id = n ∧ x.st = k := by
 unfold stOf at h
 rw [if_pos rfl] at h
 obtain ⟨x, h1, h2⟩ := Option.map_eq_some_iff.1 h
 exact ⟨x, List.mem_of_find?_eq_some h1, by simpa using List.find?_some h1, h2⟩
theorem stOf_c {t : TabS} {n k : Int} (h : stOf t false n = some k) : ∃ x ∈ t.cols, x.id = n ∧ x.st = k := by
 unfold stOf at h
 rw [if_neg (by decide)] at h
 obtain ⟨x, h1, h2⟩ := Option.map_eq_some_iff.1 h
 exact ⟨x, List.mem_of_find?_eq_some h1, by simpa using List.find?_some h1, h2⟩
theorem mv_found {t : TabS} (hi : TInv t) {m : MovS} {k : Int} (hs : stOf t m.ix m.id = some k) (hn : nearB k m.dst = true) : (mvR t m).2 = 0 ∨ ((mvR t m).2 = 122 ∧ m.ix = false) := by
 unfold mvR
 cases hix : m.ix with
 | true =>
  rw [hix] at hs
  obtain ⟨x, hx, h1, h2⟩ := stOf_x hs
  have hb : t.idxs.any (fun x => decide (x.id = m.id) && !nearB x.st m.dst) = false := List.any_eq_false.2 fun y hy => by
   by_cases e : y.id = m.id
   ·have : y = x := nodup_eq hi.x hy hx (e.trans h1.symm)
    subst this
    simp [h2, hn]
   ·simp [e]
  have ha : t.idxs.any (fun x => decide (x.id = m.id)) = true := List.any_eq_true.2 ⟨x, hx, by simp [h1]⟩
  rw [if_pos rfl, if_neg (by rw [hb]; decide)]
  simp [ha]
 | false =>
  rw [hix] at hs
  obtain ⟨x, hx, h1, h2⟩ := stOf_c hs
  have hb : t.cols.any (fun x => decide (x.id = m.id) && !nearB x.st m.dst) = false := List.any_eq_false.2 fun y hy => by
   by_cases e : y.id = m.id
   ·have : y = x := nodup_eq hi.c hy hx (e.trans h1.symm)
    subst this
    simp [h2, hn]
   ·simp [e]
  have ha : t.cols.any (fun x => decide (x.id = m.id)) = true := List.any_eq_true.2 ⟨x, hx, by simp [h1]⟩
  rw [if_neg (by decide)]
  cases hh : heldB t m.id with
  | true => right; simp
  | false =>
   left
   rw [if_neg (by decide), if_neg (by rw [hb]; decide)]
   simp [ha]
theorem find_upX (m : MovS) (n : Int) : ∀ l : List IdxS, (∀ x ∈ l, x.st ≠ 0) → ((l.filterMap (upX m)).find? (fun x => decide (x.id = n))).map IdxS.st = if n = m.id then (if m.dst = 0 then none else (l.find? (fun x => decide (x.id = n))).map fun _ => m.dst) else (l.find? (fun x => decide (x.id = n))).map IdxS.st
 | [], _ => by simp
 | x :: l, h => by
  have ih := find_upX m n l fun y hy => h y (by simp [hy])
  have hx0 := h x (by simp)
  rw [List.filterMap_cons]
  by_cases hx : x.id = m.id
  ·by_cases z : m.dst = 0
   ·have e : upX m x = none := by simp [upX, hx, z]
    rw [e]
    simp only
    rw [ih]
    by_cases hn : n = m.id
    ·simp [hn, z]
    ·have : ¬ x.id = n := fun q => hn (q.symm.trans hx)
     simp [hn, List.find?_cons, this]
   ·have e : upX m x = some { x with st := m.dst } := by simp [upX, hx, z]
    rw [e]
    simp only [List.find?_cons]
    by_cases hn : x.id = n
    ·have hn2 : n = m.id := hn.symm.trans hx
     simp [hn, hn2, z]
    ·have hn2 : ¬ n = m.id := fun q => hn (hx.trans q.symm)
     simp only [hn, decide_false]
     exact ih
  ·have e : upX m x = some x := by simp [upX, hx, hx0]
   rw [e]
   simp only [List.find?_cons]
   by_cases hn : x.id = n
   ·have hn2 : ¬ n = m.id := fun q => hx (hn.trans q)
    simp [hn, hn2]
   ·simp only [hn, decide_false]
    exact ih
theorem find_upC (m : MovS) (n : Int) : ∀ l : List ColS, (∀ x ∈ l, x.st ≠ 0) → ((l.filterMap (upC m)).find? (fun x => decide (x.id = n))).map ColS.st = if n = m.id then (if m.dst = 0 then none else (l.find? (fun x => decide (x.id = n))).map fun _ => m.dst) else (l.find? (fun x => decide (x.id = n))).map ColS.st
 | [], _ => by simp
 | x :: l, h => by
  have ih := find_upC m n l fun y hy => h y (by simp [hy])
  have hx0 := h x (by simp)
  rw [List.filterMap_cons]
  by_cases hx : x.id = m.id
  ·by_cases z : m.dst = 0
   ·have e : upC m x = none := by simp [upC, hx, z]
    rw [e]
    simp only
    rw [ih]
    by_cases hn : n = m.id
    ·simp [hn, z]
    ·have : ¬ x.id = n := fun q => hn (q.symm.trans hx)
     simp [hn, List.find?_cons, this]
   ·have e : upC m x = some { x with st := m.dst } := by simp [upC, hx, z]
    rw [e]
    simp only [List.find?_cons]
    by_cases hn : x.id = n
    ·have hn2 : n = m.id := hn.symm.trans hx
     simp [hn, hn2, z]
    ·have hn2 : ¬ n = m.id := fun q => hn (hx.trans q.symm)
     simp only [hn, decide_false]
     exact ih
  ·have e : upC m x = some x := by simp [upC, hx, hx0]
   rw [e]
   simp only [List.find?_cons]
   by_cases hn : x.id = n
   ·have hn2 : ¬ n = m.id := fun q => hx (hn.trans q)
    simp [hn, hn2]
   ·simp only [hn, decide_false]
    exact ih
theorem stOf_mv {t : TabS} (hi : TInv t) {m : MovS} (h0 : (mvR t m).2 = 0) (b : Bool) (n : Int) :
  stOf (mvR t m).1 b n = if b = m.ix ∧ n = m.id then (if m.dst = 0 then none else (stOf t b n).map fun _ => m.dst) else stOf t b n := by
 unfold mvR at h0 ⊢
 cases hix : m.ix with
 | true =>
  simp only [hix, if_true] at h0 ⊢
  split at h0
  ·cases h0
  ·rename_i hb
   rw [if_neg hb]
   cases b with
   | true =>
    simp only [stOf, if_true, true_and]
    rw [find_upX m n t.idxs hi.xs]
    simp [Option.map_map, Function.comp_def]
   | false => simp [stOf]
 | false =>
  simp only [hix, Bool.false_eq_true, if_false] at h0 ⊢
  split at h0
  ·cases h0
  ·rename_i hh
   split at h0
   ·cases h0
   ·rename_i hb
    rw [if_neg hh, if_neg hb]
    cases b with
    | true => simp [stOf]
    | false =>
     simp only [stOf, Bool.false_eq_true, if_false, true_and]
     rw [find_upC m n t.cols hi.cs]
     simp [Option.map_map, Function.comp_def]
def runT : TabS → List MovS → TabS × Int
 | t, [] => (t, 0)
 | t, m :: l => if (mvR t m).2 = 0 then runT (mvR t m).1 l else (t, (mvR t m).2)
theorem stepB_run (T : Int) : ∀ (l : List MovS) (a : List TabS) (t : TabS) (b : List TabS), (∀ x ∈ a, ¬ x.id = T) → t.id = T → (∀ m ∈ l, m.tab = T) → (stepB mvR (a ++ t :: b) l).2 = (runT t l).2 ∧ ((runT t l).2 = 0 → (stepB mvR (a ++ t :: b) l).1 = a ++ (runT t l).1 :: b)
 | [], a, t, b, _, _, _ => ⟨rfl, fun _ => rfl⟩
 | m :: l, a, t, b, ha, ht, hm => by
  have hmT := hm m (by simp)
  have hf : (a ++ t :: b).findIdx? (fun t => decide (t.id = m.tab)) = some a.length := by
   rw [hmT, List.findIdx?_append, List.findIdx?_eq_none_iff.2 fun x hx => by simpa using ha x hx]
   simp [List.findIdx?_cons, ht]
  have hg : (a ++ t :: b)[a.length]? = some t := by simp
  unfold stepB runT
  rw [hf]
  simp only [hg]
  by_cases h0 : (mvR t m).2 = 0
  ·rw [if_pos h0, if_pos h0, set_mid]
   exact stepB_run T l a _ b ha ((mvR_tid t m).1.trans ht) fun x hx => hm x (by simp [hx])
  ·rw [if_neg h0, if_neg h0]
   exact ⟨rfl, fun h => absurd h h0⟩
theorem risB_low {b w x : Int} {l : List Int} (hw : w < x) (h : risB b x l = true) : risB b w l = true := by
 cases l with
 | nil => rfl
 | cons y l =>
  simp only [risB, Bool.and_eq_true, decide_eq_true_eq] at h ⊢
  exact ⟨⟨by omega, h.1.2⟩, h.2⟩
theorem risB_sub {b w : Int} {l l' : List Int} (hs : l'.Sublist l) (h : risB b w l = true) : risB b w l' = true := by
 induction hs generalizing w with
 | slnil => exact h
 | cons x hs ih =>
  simp only [risB, Bool.and_eq_true, decide_eq_true_eq] at h
  exact risB_low h.1.1 (ih h.2)
 | cons_cons x hs ih =>
  simp only [risB, Bool.and_eq_true, decide_eq_true_eq] at h ⊢
  exact ⟨h.1, ih h.2⟩
theorem unlB_mem {w w' : List ByteArray} {l : List ByteArray} (hw : ∀ x ∈ w', x ∈ w) (h : unlB w l = true) : unlB w' l = true := by
 induction l generalizing w w' with
 | nil => rfl
 | cons x l ih =>
  simp only [unlB, Bool.and_eq_true, Bool.not_eq_true'] at h ⊢
  refine ⟨?_, ih (w := w ++ [x]) (fun y hy => ?_) h.2⟩
  ·have h1 := h.1
   simp only [memS, List.any_eq_false] at h1 ⊢
   exact fun y hy => h1 y (hw y hy)
  ·rcases List.mem_append.1 hy with h | h
   ·exact List.mem_append_left _ (hw y h)
   ·exact List.mem_append_right _ h
theorem unlB_sub {w : List ByteArray} {l l' : List ByteArray} (hs : l'.Sublist l) (h : unlB w l = true) : unlB w l' = true := by
 induction hs generalizing w with
 | slnil => exact h
 | cons x hs ih =>
  simp only [unlB, Bool.and_eq_true] at h
  exact unlB_mem (fun y hy => List.mem_append_left _ hy) (ih h.2)
 | cons_cons x hs ih =>
  simp only [unlB, Bool.and_eq_true] at h ⊢
  exact ⟨h.1, ih h.2⟩
theorem TOk.mvx {t : TabS} {next : Int} (h : TOk t next) {m : MovS} (hix : m.ix = true) (hd : 0 ≤ m.dst ∧ m.dst ≤ 3) (h0 : (mvR t m).2 = 0) : TOk (mvR t m).1 next := by
 unfold mvR at h0 ⊢
 rw [if_pos hix] at h0 ⊢
 split at h0
 ·cases h0
 rename_i hb
 rw [if_neg hb]
 have hnm : ∀ a b, upX m a = some b → b.name = a.name := fun a b e => by
  unfold upX at e
  by_cases he : a.id = m.id
  ·by_cases z : m.dst = 0
   ·simp [he, z] at e
   ·simp [he, z] at e; subst e; rfl
  ·by_cases z : a.st = 0
   ·simp [he, z] at e
   ·simp [he, z] at e; subst e; rfl
 have hsub : ∀ l : List IdxS, ((l.filterMap (upX m)).map IdxS.name).Sublist (l.map IdxS.name) := fun l => by
  induction l with
  | nil => exact .slnil
  | cons x l ih =>
   rw [List.filterMap_cons]
   cases e : upX m x with
   | none => exact .cons _ ih
   | some y => simp only [List.map_cons]; rw [hnm x y e]; exact .cons_cons _ ih
 refine ⟨h.nm, h.lc, Nat.le_trans (List.length_filterMap_le ..) h.lx, h.pub, h.cr, risB_sub (filterMap_ids (fun a b e => (upX_id a b e).1) _) h.xr, h.cu, unlB_sub (hsub _) h.xu, h.co, fun x hx => ?_⟩
 obtain ⟨y, hy, e⟩ := List.mem_filterMap.1 hx
 have hyo := h.xo y hy
 simp only [idxOk, Bool.and_eq_true, decide_eq_true_eq, thereB] at hyo ⊢
 obtain ⟨⟨⟨⟨q1, q2⟩, q3⟩, q4⟩, q5⟩ := hyo
 have e2 := upX_id y x e
 have e3 := hnm y x e
 refine ⟨⟨⟨⟨by rw [e3]; exact q1, ?_⟩, by rw [e2.2.1]; exact q3⟩, by rw [e2.2.1]; exact q4⟩, by rw [e2.2.1]; exact q5⟩
 unfold upX at e
 by_cases he : y.id = m.id
 ·by_cases z : m.dst = 0
  ·simp [he, z] at e
  ·simp [he, z] at e; subst e; simp only; omega
 ·by_cases z : y.st = 0
  ·simp [he, z] at e
  ·simp [he, z] at e; subst e; exact q2
theorem step_run {s : SchS} (hs : schOk s = true) {l : List MovS} {T : Int} {t : TabS} (ht : s.tabs.find? (fun t => decide (t.id = T)) = some t) (hl : l ≠ []) (hd : distM l = true) (hm : ∀ m ∈ l, m.tab = T) :
  ((runT t l).2 ≠ 0 → (stepS s l).2 = (runT t l).2) ∧ ((runT t l).2 = 0 → ((stepS s l).2 = 0 ∨ (stepS s l).2 = 122) ∧ (TOk (runT t l).1 s.next → (stepS s l).2 = 0) ∧
   ((stepS s l).2 = 0 → schOk (stepS s l).1 = true ∧ (stepS s l).1.tabs.find? (fun t => decide (t.id = T)) = some (runT t l).1)) := by
 have htT : t.id = T := by simpa using List.find?_some ht
 obtain ⟨_, a, b, hab, ha⟩ := List.find?_eq_some_iff_append.1 ht
 have ha' : ∀ x ∈ a, ¬ x.id = T := fun x hx => by simpa using ha x hx
 obtain ⟨r1, r2⟩ := stepB_run T l a t b ha' htT hm
 have hrid : ∀ (l : List MovS) (t : TabS), (runT t l).1.id = t.id ∧ (runT t l).1.name = t.name := fun l => by
  induction l with
  | nil => intro t; exact ⟨rfl, rfl⟩
  | cons m l ih =>
   intro t
   unfold runT
   split
   ·exact ⟨(ih _).1.trans (mvR_tid t m).1, (ih _).2.trans (mvR_tid t m).2⟩
   ·exact ⟨rfl, rfl⟩
 have hst : stepS s l = if (stepB mvR s.tabs l).2 = 0 then chkS ⟨s.ver + 1, s.next, (stepB mvR s.tabs l).1⟩ 122 else (zeroS, (stepB mvR s.tabs l).2) := by
  unfold stepS stepF
  rw [if_neg (by rw [hs, hd]; rintro (h | h | h); cases h; exact hl h; cases h)]
 rw [← hab] at r1 r2
 constructor
 ·intro h
  rw [hst, if_neg (by rw [r1]; exact h), r1]
 ·intro h
  have r3 := r2 h
  rw [hst, if_pos (by rw [r1]; exact h), r3]
  unfold chkS
  refine ⟨?_, fun hT => ?_, fun h2 => ?_⟩
  ·split
   ·exact .inl rfl
   ·exact .inr rfl
  ·have hso := (schOk_iff s).1 hs
   have hok : schOk ⟨s.ver + 1, s.next, a ++ (runT t l).1 :: b⟩ = true := (schOk_iff _).2 (by
    have e1 : (a ++ (runT t l).1 :: b).map TabS.id = s.tabs.map TabS.id := by rw [hab]; simp [(hrid l t).1]
    have e2 : (a ++ (runT t l).1 :: b).map TabS.name = s.tabs.map TabS.name := by rw [hab]; simp [(hrid l t).2]
    have e3 : (a ++ (runT t l).1 :: b).length = s.tabs.length := by rw [hab]; simp
    refine ⟨by have := hso.ver; simp only; omega, hso.next, by simp only; rw [e3]; exact hso.len, by simp only; rw [e1]; exact hso.ids, by simp only; rw [e2]; exact hso.nms, fun x hx => ?_⟩
    simp only at hx
    rcases List.mem_append.1 hx with h | h
    ·exact hso.tabs x (by rw [hab]; simp [h])
    ·rcases List.mem_cons.1 h with rfl | h
     ·exact hT
     ·exact hso.tabs x (by rw [hab]; simp [h]))
   rw [if_pos hok]
  ·split at h2
   ·rename_i hok
    rw [if_pos hok]
    refine ⟨hok, ?_⟩
    simp only
    rw [List.find?_append, List.find?_eq_none.2 fun x hx => by simpa using ha' x hx]
    simp [List.find?_cons, (hrid l t).1, htT]
   ·cases h2

def downJ (j : JobS) : Prop := j.kind = 1 ∨ j.kind = 3 ∨ j.back = true
instance (j : JobS) : Decidable (downJ j) := inferInstanceAs (Decidable (_ ∨ _))
def plJT (j : JobS) (t : TabS) : NxS := if j.kind = 1 ∨ j.kind = 3 ∨ j.back = true then plDown j t else plUp j t
theorem jNext_tab {j : JobS} {s : SchS} {t : TabS} (hf : j.fin = false) (hk : j.kind ≠ 5) (ht : jTab j s = some t) : jNext j s = plJT j t := by
 unfold jNext plJT
 rw [if_neg (by rw [hf]; decide), ht]
 simp only [if_neg hk]
theorem jNext_none {j : JobS} {s : SchS} (hk : j.kind ≠ 5) (ht : jTab j s = none) : jNext j s = nx3 := by
 unfold jNext
 rw [ht]
 simp [hk]
def stA1 (j : JobS) (t : TabS) : Option Int := stOf t (ofIdx j.kind) j.item
def stB1 (j : JobS) (t : TabS) : Option Int := stOf t false j.other
def TrJ (j : JobS) (t t' : TabS) : Prop :=
 (downJ j ∧ ((stA1 j t = some 3 ∧ stA1 j t' = some 2) ∨ (stA1 j t = some 2 ∧ stA1 j t' = some 1) ∨ (stA1 j t = some 1 ∧ j.full = true ∧ stA1 j t' = none))) ∨
 (¬ downJ j ∧ ((stA1 j t = some 1 ∧ stA1 j t' = some 2) ∨ (stA1 j t = some 2 ∧ j.full = true ∧ stA1 j t' = some 3) ∨
  (j.kind = 4 ∧ stA1 j t = some 3 ∧ stA1 j t' = some 3 ∧ stB1 j t = some 2 ∧ stB1 j t' = some 1) ∨
  (j.kind = 4 ∧ stA1 j t = some 3 ∧ stA1 j t' = some 3 ∧ stB1 j t = some 1 ∧ j.full = true ∧ stB1 j t' = none)))
theorem plDown_eq (j : JobS) (t : TabS) : plDown j t = if stA1 j t = some 3 then ⟨0, [plMove j 2], true⟩ else if stA1 j t = some 2 then ⟨0, [plMove j 1], false⟩ else if stA1 j t = some 1 then plPart j 2 ⟨0, [plMove j 0], false⟩ else nx3 := rfl
theorem plOther_eq (j : JobS) (t : TabS) : plOther j t = if stB1 j t = some 2 then ⟨0, [⟨j.table, false, j.other, 1⟩], false⟩ else if stB1 j t = some 1 then plPart j 2 ⟨0, [⟨j.table, false, j.other, 0⟩], false⟩ else nx3 := rfl
theorem plUp_eq (j : JobS) (t : TabS) : plUp j t = if stA1 j t = none ∧ j.item = -1 then ⟨0, [], false⟩ else if stA1 j t = some 1 then ⟨0, [plMove j 2], false⟩ else if stA1 j t = some 2 then plPart j 1 ⟨0, plMove j 3 :: (if j.kind = 4 ∧ stB1 j t = some 3 then [⟨j.table, false, j.other, 2⟩] else []), true⟩ else if j.kind = 4 ∧ stA1 j t = some 3 then plOther j t else nx3 := rfl
theorem TrJ.ne {j : JobS} {t t' : TabS} (h : TrJ j t t') : plJT j t' ≠ plJT j t := by
 unfold plJT
 rcases h with ⟨hd, h⟩ | ⟨hd, h⟩
 ·have hd1 : j.kind = 1 ∨ j.kind = 3 ∨ j.back = true := hd
  rw [if_pos hd1, if_pos hd1, plDown_eq, plDown_eq]
  rcases h with ⟨h1, h2⟩ | ⟨h1, h2⟩ | ⟨h1, h3, h2⟩
  ·rw [h1, h2]; simp
  ·rw [h1, h2]; unfold plPart; simp; split <;> simp [plMove]
  ·rw [h1, h2]; unfold plPart; simp [h3, nx3]
 ·have hd2 : ¬ (j.kind = 1 ∨ j.kind = 3 ∨ j.back = true) := hd
  rw [if_neg hd2, if_neg hd2, plUp_eq, plUp_eq]
  rcases h with ⟨h1, h2⟩ | ⟨h1, h3, h2⟩ | ⟨hk, h1, h2, h3, h4⟩ | ⟨hk, h1, h2, h3, h5, h4⟩
  ·rw [h1, h2]; unfold plPart; simp; split <;> simp
  ·rw [h1, h2]; unfold plPart; simp [h3]
   by_cases hk : j.kind = 4
   ·rw [if_pos hk, plOther_eq]
    unfold plPart
    simp only [h3, if_true]
    split
    ·simp
    ·split <;> simp [nx3]
   ·simp [hk, nx3]
  ·rw [h1, h2]; simp only [plOther_eq, h3, h4]; unfold plPart; simp [hk]; split <;> simp
  ·rw [h1, h2]; simp only [plOther_eq, h3, h4]; unfold plPart; simp [hk, h5, nx3]
theorem near_of {a b : Int} (h : b = a + 1 ∨ b = a - 1) : nearB a b = true := by simpa [nearB] using h
theorem one_run {t : TabS} (hi : TInv t) {m : MovS} {k : Int} (hs : stOf t m.ix m.id = some k) (hn : nearB k m.dst = true) :
  ((runT t [m]).2 = 0 ∧ (runT t [m]).1 = (mvR t m).1 ∧ (mvR t m).2 = 0 ∧ (∀ b n, stOf (mvR t m).1 b n = if b = m.ix ∧ n = m.id then (if m.dst = 0 then none else some m.dst) else stOf t b n)) ∨ ((runT t [m]).2 = 122 ∧ m.ix = false) := by
 rcases mv_found hi hs hn with h | ⟨h, hx⟩
 ·left
  unfold runT
  rw [if_pos h]
  refine ⟨rfl, rfl, h, fun b n => ?_⟩
  rw [stOf_mv hi h]
  by_cases e : b = m.ix ∧ n = m.id
  ·rw [if_pos e, if_pos e, e.1, e.2, hs]; rfl
  ·rw [if_neg e, if_neg e]
 ·right
  unfold runT
  rw [if_neg (by rw [h]; decide)]
  exact ⟨h, hx⟩
structure PlanEnd (j : JobS) (s : SchS) (n : NxS) (t : TabS) : Prop where
 tabs : ∀ m ∈ n.mv, m.tab = j.table
 run : (∃ m l, n.mv = m :: l ∧ m.ofi = false ∧ (stepS s (n.mv.map mvOf)).2 = 122) ∨ ((stepS s (n.mv.map mvOf)).2 = 0 ∧ schOk (stepS s (n.mv.map mvOf)).1 = true ∧ ∃ t', jTab j (stepS s (n.mv.map mvOf)).1 = some t' ∧ TrJ j t t')
theorem plan_one {j : JobS} {s : SchS} (hs : schOk s = true) {t : TabS} (ht : jTab j s = some t) {m : MvS} {f : Bool} (hm : m.tab = j.table) {k : Int} (hst : stOf t m.ofi m.item = some k) (hn : nearB k m.st = true) (hd : 0 ≤ m.st ∧ m.st ≤ 3)
  (htr : ∀ t', (∀ b n, stOf t' b n = if b = m.ofi ∧ n = m.item then (if m.st = 0 then none else some m.st) else stOf t b n) → TrJ j t t') : PlanEnd j s ⟨0, [m], f⟩ t := by
 have hso := (schOk_iff s).1 hs
 have htm : t ∈ s.tabs := List.mem_of_find?_eq_some ht
 have hTO := hso.tabs t htm
 refine ⟨fun x hx => by rw [List.mem_singleton.1 hx]; exact hm, ?_⟩
 obtain ⟨r1, r2⟩ := step_run hs (l := [mvOf m]) ht (by simp) (by rfl) (fun x hx => by rw [List.mem_singleton.1 hx]; exact hm)
 rcases one_run hTO.inv (m := mvOf m) hst hn with ⟨q1, q2, q3, q4⟩ | ⟨q1, q2⟩
 ·obtain ⟨p1, p2, p3⟩ := r2 q1
  have hfin : (stepS s [mvOf m]).2 = 0 → schOk (stepS s [mvOf m]).1 = true ∧ ∃ t', jTab j (stepS s [mvOf m]).1 = some t' ∧ TrJ j t t' := fun h => by
   obtain ⟨w1, w2⟩ := p3 h
   exact ⟨w1, _, w2, htr _ fun b n => by rw [q2]; exact q4 b n⟩
  cases hix : m.ofi with
  | true =>
   have h0 := p2 (by rw [q2]; exact hTO.mvx (m := mvOf m) hix hd q3)
   exact .inr ⟨h0, hfin h0⟩
  | false =>
   rcases p1 with h | h
   ·exact .inr ⟨h, hfin h⟩
   ·exact .inl ⟨m, [], rfl, hix, h⟩
 ·exact .inl ⟨m, [], rfl, q2, by rw [← q1]; exact r1 (by rw [q1]; decide)⟩
theorem plan_two {j : JobS} {s : SchS} (hs : schOk s = true) {t : TabS} (ht : jTab j s = some t) {m o : MvS} {f : Bool} (hm : m.tab = j.table) (ho : o.tab = j.table) (hmx : m.ofi = false) (hox : o.ofi = false) (hne : ¬ o.item = m.item) {k k2 : Int} (hst : stOf t false m.item = some k) (hn : nearB k m.st = true) (hst2 : stOf t false o.item = some k2) (hn2 : nearB k2 o.st = true) (hz : m.st ≠ 0)
  (htr : ∀ t', stOf t' false m.item = some m.st → TrJ j t t') : PlanEnd j s ⟨0, [m, o], f⟩ t := by
 have hso := (schOk_iff s).1 hs
 have htm : t ∈ s.tabs := List.mem_of_find?_eq_some ht
 have hTO := hso.tabs t htm
 have hne2 : ¬ m.item = o.item := fun h => hne h.symm
 refine ⟨fun x hx => by simp at hx; rcases hx with rfl | rfl; exact hm; exact ho, ?_⟩
 obtain ⟨r1, r2⟩ := step_run hs (l := [mvOf m, mvOf o]) ht (by simp) (by simp [distM, alikeM, mvOf, hne2]) (fun x hx => by simp at hx; rcases hx with rfl | rfl; exact hm; exact ho)
 rcases one_run hTO.inv (m := mvOf m) (by simp only [mvOf, hmx]; exact hst) hn with ⟨q1, q2, q3, q4⟩ | ⟨q1, q2⟩
 ·have hi2 := mvR_inv hTO.inv q3
  have hst3 : stOf (mvR t (mvOf m)).1 (mvOf o).ix (mvOf o).id = some k2 := by
   rw [q4]
   simp only [mvOf, hox, hmx]
   rw [if_neg (by simp [hne])]
   exact hst2
  have hrun : runT t [mvOf m, mvOf o] = runT (mvR t (mvOf m)).1 [mvOf o] := by
   conv => lhs; unfold runT
   rw [if_pos q3]
  rcases one_run hi2 (m := mvOf o) hst3 hn2 with ⟨z1, z2, z3, z4⟩ | ⟨z1, z2⟩
  ·obtain ⟨p1, p2, p3⟩ := r2 (by rw [hrun]; exact z1)
   rcases p1 with h | h
   ·obtain ⟨w1, w2⟩ := p3 h
    refine .inr ⟨h, w1, _, w2, htr _ ?_⟩
    rw [hrun, z2, z4, if_neg (by simp [mvOf, hne2]), q4]
    simp [mvOf, hmx, hz]
   ·exact .inl ⟨m, [o], rfl, hmx, h⟩
  ·exact .inl ⟨m, [o], rfl, hmx, by
    have h := r1 (by rw [hrun, z1]; decide)
    rw [hrun, z1] at h; exact h⟩
 ·have hrun : (runT t [mvOf m, mvOf o]).2 = 122 := by
   unfold runT at q1 ⊢
   split at q1
   ·simp [runT] at q1
   ·rename_i h0
    rw [if_neg h0]; exact q1
  exact .inl ⟨m, [o], rfl, hmx, by rw [← hrun]; exact r1 (by rw [hrun]; decide)⟩
theorem plan_end {j : JobS} {s : SchS} (hs : schOk s = true) {t : TabS} (ht : jTab j s = some t) (hv : (plJT j t).ver = 0) (hm : (plJT j t).mv ≠ []) : PlanEnd j s (plJT j t) t := by
 unfold plJT at hv hm ⊢
 by_cases hd : j.kind = 1 ∨ j.kind = 3 ∨ j.back = true
 ·have hdj : downJ j := hd
  rw [if_pos hd, plDown_eq] at hv hm ⊢
  by_cases h3 : stA1 j t = some 3
  ·rw [if_pos h3]
   exact plan_one hs ht rfl h3 (near_of (.inr rfl)) (by simp [plMove]) fun t' h => .inl ⟨hdj, .inl ⟨h3, by unfold stA1; rw [h]; simp [plMove]⟩⟩
  rw [if_neg h3] at hv hm ⊢
  by_cases h2 : stA1 j t = some 2
  ·rw [if_pos h2]
   exact plan_one hs ht rfl h2 (near_of (.inr rfl)) (by simp [plMove]) fun t' h => .inl ⟨hdj, .inr (.inl ⟨h2, by unfold stA1; rw [h]; simp [plMove]⟩)⟩
  rw [if_neg h2] at hv hm ⊢
  by_cases h1 : stA1 j t = some 1
  ·rw [if_pos h1] at hv hm ⊢
   unfold plPart at hv hm ⊢
   by_cases hf : j.full = true
   ·rw [if_pos hf]
    exact plan_one hs ht rfl h1 (near_of (.inr rfl)) (by simp [plMove]) fun t' h => .inl ⟨hdj, .inr (.inr ⟨h1, hf, by unfold stA1; rw [h]; simp [plMove]⟩)⟩
   ·rw [if_neg hf] at hm; exact absurd rfl hm
  rw [if_neg h1] at hm; exact absurd rfl hm
 ·have hdj : ¬ downJ j := hd
  rw [if_neg hd, plUp_eq] at hv hm ⊢
  by_cases h0 : stA1 j t = none ∧ j.item = -1
  ·rw [if_pos h0] at hm; exact absurd rfl hm
  rw [if_neg h0] at hv hm ⊢
  by_cases h1 : stA1 j t = some 1
  ·rw [if_pos h1]
   exact plan_one hs ht rfl h1 (near_of (.inl rfl)) (by simp [plMove]) fun t' h => .inr ⟨hdj, .inl ⟨h1, by unfold stA1; rw [h]; simp [plMove]⟩⟩
  rw [if_neg h1] at hv hm ⊢
  by_cases h2 : stA1 j t = some 2
  ·rw [if_pos h2] at hv hm ⊢
   unfold plPart at hv hm ⊢
   by_cases hf : j.full = true
   ·rw [if_pos hf]
    by_cases hb : j.kind = 4 ∧ stB1 j t = some 3
    ·rw [if_pos hb]
     have hof : ofIdx j.kind = false := by rw [hb.1]; rfl
     have h2' : stOf t false j.item = some 2 := by have := h2; unfold stA1 at this; rw [hof] at this; exact this
     have h3' : stOf t false j.other = some 3 := hb.2
     refine plan_two hs ht rfl rfl hof rfl (fun h => ?_) h2' (near_of (.inl rfl)) h3' (near_of (.inr rfl)) (by simp [plMove]) fun t' h => .inr ⟨hdj, .inr (.inl ⟨h2, hf, by unfold stA1; rw [hof]; exact h⟩)⟩
     have h : j.other = j.item := h
     rw [h, h2'] at h3'
     cases h3'
    ·rw [if_neg hb]
     exact plan_one hs ht rfl h2 (near_of (.inl rfl)) (by simp [plMove]) fun t' h => .inr ⟨hdj, .inr (.inl ⟨h2, hf, by unfold stA1; rw [h]; simp [plMove]⟩)⟩
   ·rw [if_neg hf] at hm; exact absurd rfl hm
  rw [if_neg h2] at hv hm ⊢
  by_cases h3 : j.kind = 4 ∧ stA1 j t = some 3
  ·rw [if_pos h3, plOther_eq] at hv hm ⊢
   have hof : ofIdx j.kind = false := by rw [h3.1]; rfl
   have h3' : stOf t false j.item = some 3 := by have := h3.2; unfold stA1 at this; rw [hof] at this; exact this
   have hne : ∀ k : Int, k ≠ 3 → stB1 j t = some k → ¬ j.item = j.other := fun k hk hb e => by
    unfold stB1 at hb
    rw [← e, h3'] at hb
    injection hb with hb; exact hk hb.symm
   by_cases b2 : stB1 j t = some 2
   ·rw [if_pos b2]
    exact plan_one hs ht rfl b2 (near_of (.inr rfl)) (by simp) fun t' h => .inr ⟨hdj, .inr (.inr (.inl ⟨h3.1, h3.2, by unfold stA1; rw [h, hof, if_neg (by simp [hne 2 (by decide) b2])]; exact h3', b2, by unfold stB1; rw [h]; simp⟩))⟩
   rw [if_neg b2] at hv hm ⊢
   by_cases b1 : stB1 j t = some 1
   ·rw [if_pos b1] at hv hm ⊢
    unfold plPart at hv hm ⊢
    by_cases hf : j.full = true
    ·rw [if_pos hf]
     exact plan_one hs ht rfl b1 (near_of (.inr rfl)) (by simp) fun t' h => .inr ⟨hdj, .inr (.inr (.inr ⟨h3.1, h3.2, by unfold stA1; rw [h, hof, if_neg (by simp [hne 1 (by decide) b1])]; exact h3', b1, hf, by unfold stB1; rw [h]; simp⟩))⟩
    ·rw [if_neg hf] at hm; exact absurd rfl hm
   rw [if_neg b1] at hm; exact absurd rfl hm
  rw [if_neg h3] at hm; exact absurd rfl hm
end Go.Proofs.YthgoocdldnkogaaGreatDoor
namespace Go.Proofs.YthgoocdldnkogaaGreatDoor
set_option linter.unusedVariables false
set_option linter.unusedSimpArgs false
open Go.RowKit
attribute [local simp] isCut_nil isCut_region isCut_seq isCut_block isCut_loop isCut_cond isCut_skip isCut_exit isCut_ret isCut_range swapK putK altK condK_bool pickP_bool stepP stepO onPure_some onPure_none onImpl_some onImpl_none stepC onGP_some onGP_none onGV_some condG mkG onIt_it nextP_ptr takeP_eq takeV_some takeV_none takeU_some takeU_none takeQ takeW_some takeN_none takeN_some takeG_some takeO_some altO_some pureV binV2 eqF eqOp ovlV ovl2 rowAt capV binV intBin strBin isSh shV fldV ixV sliceV slice3V loadAV nilV lenV callV unV convV viewS cellsH loadV fldCut AV.ung AV.ungs AV.gc AV.cells AS.ev AS.put anyS gcsV gcO lens lnO gV guardV retK RetP_eq resV oneV anyRo loIx hiIx implO callP_clo evL gcsL clearV storeAV AS.push AS.setO appV appZ shortS copyV buildV partsV fillV srcV fzO okV isCell_c isCell_ptr isCell_sl isCell_fs isCell_fp isCell_clo rowZ_one rowZ_zero rowZ_2 rowZ_3 rowZ_4 rowZ_5 rowZ_6 rowZ_7 rowZ_8 rowZ_9 rowZ_10 rowZ_11 rowZ_12 noHo Value.oneCell' max2V min2V lookV updV updK updW cvals mkAt basV lenM msAt afterH putBack frzFrom frzO rebO backIx nilEq_sl nilEq_fs nilEq_ifn nilEq_ifh ifOp_eql ifOp_neq isLit nilOp_eql nilOp_neq AV.reb AV.rebL
attribute [local simp ↓] runK_skip runK_region runK_draw runK_seq runK_cut runK_cond runK_block runK_loop runK_exit runK_label runK_goto runK_ret runK_range contK_nil contK_seq contK_seq_ret contK_seq_exit contK_seq_goto contK_block contK_block_ret contK_block_goto contK_block_exit runO_nil runO_cons roundK_exit roundK_ret roundK_goto exitK_ret cutK_ret cutK_exit runE_done runE_nil runE_take runE_alt condG_true condG_false
set_option maxRecDepth 10000
def thingJ (j : JobS) (s : SchS) : Option Int := (jTab j s).bind fun t => stOf t (ofIdx j.kind) j.item
set_option maxHeartbeats 4000000 in
theorem jbThing_w (j : JobS) (s : SchS) (hl : s.tabs.length ≤ 1000000) (hb : ∀ t ∈ s.tabs, t.cols.length ≤ 1000000 ∧ t.idxs.length ≤ 1000000) : ACalls Tryz.prog 31 [.agg (jobA j), .agg (schA s)] [] (fun _ => false) (fun r h' => r = stA (thingJ j s) ∧ h' = []) := by
 refine acalls mixed Tryz.func31 rfl Tryz.ntmps31 rfl fun E hE hst hho => ?_
 have c1 := jbtable_w j s hl
 have hmem : ∀ t, jTab j s = some t → t ∈ s.tabs := fun t h => List.mem_of_find?_eq_some h
 unfold thingJ
 obtain ⟨o, ho⟩ : ∃ o, o = jTab j s := ⟨_, rfl⟩
 rw [← ho] at c1 hmem ⊢
 clear ho
 rcases o with _ | t
 ·simp (maxSteps := 1000000) [hho, noHo, jobA, schA, -List.reduceReplicate]
  refine call_0 (c1) rfl rfl hho (by simp) ?_
  simp (maxSteps := 1000000) [hho, noHo, tpA, -List.reduceReplicate]
  exact Ret.drop (by rfl) ⟨rfl, rfl⟩
 ·have ht := hb t (hmem t rfl)
  have c2 := jbofIndex_w j.kind
  have c3 := jbstate_w t (ofIdx j.kind) j.item ht.1 ht.2
  simp only [Option.bind_some]
  obtain ⟨o, ho⟩ : ∃ o, o = stOf t (ofIdx j.kind) j.item := ⟨_, rfl⟩
  rw [← ho] at c3 ⊢
  clear ho
  obtain ⟨x, hx⟩ : ∃ x, x = ofIdx j.kind := ⟨_, rfl⟩
  rw [← hx] at c2 c3
  simp (maxSteps := 1000000) [hho, noHo, jobA, schA, -List.reduceReplicate]
  refine call_0 (c1) rfl rfl hho (by simp) ?_
  simp (maxSteps := 1000000) [hho, noHo, tpA, -List.reduceReplicate]
  refine draw_k hho (.take 0 (.take 1 (.take 2 (.take 4 (.take 5 (.alt 3 (.alt 6 (.take 7 (.take 8 (.take 9 (.take 10 (.done))))) (.nil)) (.nil))))))) [0] [] (by decide +kernel) (by simp) ?_
  simp (maxSteps := 1000000) [hho, noHo, roOf, holdOf, wrOf, altK, heldOk, Region.binds, -List.reduceReplicate]
  intro E1
  refine call_h [] (c2) rfl rfl ⟨rfl, rfl⟩ (by simp) (by simp) (by decide) (by simp) (by simp) ?_
  simp (maxSteps := 1000000) [hho, noHo, roOf, holdOf, wrOf, altK, heldOk, Region.binds, -List.reduceReplicate]
  intro E2
  refine call_h [] (c3) rfl rfl ⟨rfl, rfl⟩ (by simp) (by simp) (by decide) (by simp) (by simp) ?_
  rw [stA]
  simp (maxSteps := 1000000) [hho, noHo, roOf, holdOf, wrOf, altK, heldOk, Region.binds, -List.reduceReplicate]
  exact Ret.drop (by rfl) ⟨rfl, rfl⟩
theorem nxA_ne (v : Int) (l : List MvS) (b : Bool) (h : l ≠ []) : nxA ⟨v, l, b⟩ = .agg [.c (.int .i64 v), .fs 4 l.length (mvsA l), .c (.bool b)] := by
 cases l with
 | nil => exact absurd rfl h
 | cons m l => exact nxA_cons v m l b
@[simp] theorem mvsA_len2 (l : List MvS) : (mvsA l).length = l.length * 4 := flat_length jvC 4 (by simp [jvC]) l
theorem mvsA_at2 (l : List MvS) (j : Nat) (hj : j < l.length) : List.take 4 (List.drop (j * 4) (mvsA l)) = jvC l[j] := flat_at jvC 4 (by simp [jvC]) l j hj
theorem mvsA_all2 (l : List MvS) : ∀ x ∈ mvsA l, isD x = true := fun x hx => by
 obtain ⟨m, _, hm⟩ := List.mem_flatMap.1 hx
 simp only [jvC, List.mem_cons, List.not_mem_nil, or_false] at hm
 rcases hm with rfl | rfl | rfl | rfl <;> rfl
def nxB (v : Int) (l : List MvS) (b : Bool) : List AV := [.c (.int .i64 v), .fs 4 l.length (mvsA l), .c (.bool b)]
def snSt (v : Int) (b : Bool) (l1 l2 : List MvS) (k : Nat) : AS := ⟨slotsOf 45 [(2, .ptr 0 0 3), (3, .ptr 1 0 3), (28, .fs 4 l1.length (mvsA l1)), (29, .c (.int .i64 (l1.length : Nat))), (30, .c (.int .i64 (k : Nat)))], [.o .box (nxB v l1 b), .o .box (nxB v l2 b)]⟩
set_option maxHeartbeats 8000000 in
theorem r16Same_ne (a b : NxS) (hne : a ≠ b) (h1 : a.mv ≠ []) (hl : a.mv.length ≤ 1000) (hl2 : b.mv.length ≤ 1000) : ACalls Tryz.prog 30 [nxA a, nxA b] [] (fun _ => false) (fun r h' => r = .c (.bool false) ∧ h' = []) := by
 refine acalls mixed Tryz.func30 rfl Tryz.ntmps30 rfl fun E hE hst hho => ?_
 obtain ⟨v1, l1, u1⟩ := a
 obtain ⟨v2, l2, u2⟩ := b
 simp only at h1 hl hl2
 rw [nxA_ne v1 l1 u1 h1]
 by_cases h2 : l2 = []
 ·subst h2
  have hn : ¬ (l1.length : Int) = 0 := by
   intro h
   exact h1 (List.eq_nil_of_length_eq_zero (by omega))
  have hn' : ¬ l1.length = 0 := by omega
  rw [nxA_nil]
  by_cases hv : v1 = v2
  ·subst hv
   cases u1 <;> cases u2
   all_goals simp (maxSteps := 1000000) [hho, noHo, hn, hn', h1, undef, onGP_none, condG_false, -List.reduceReplicate]
   all_goals exact Ret.drop (by rfl) ⟨rfl, rfl⟩
  ·simp (maxSteps := 1000000) [hho, noHo, hv, undef, onGP_none, condG_false, -List.reduceReplicate]
   exact Ret.drop (by rfl) ⟨rfl, rfl⟩
 rw [nxA_ne v2 l2 u2 h2]
 by_cases hv : v1 = v2
 case neg =>
  simp (maxSteps := 1000000) [hho, noHo, hv, undef, onGP_none, condG_false, -List.reduceReplicate]
  exact Ret.drop (by rfl) ⟨rfl, rfl⟩
 subst hv
 by_cases hu : u1 = u2
 case neg =>
  cases u1 <;> cases u2
  ·exact absurd rfl hu
  ·simp (maxSteps := 1000000) [hho, noHo, undef, onGP_none, condG_false, -List.reduceReplicate]
   exact Ret.drop (by rfl) ⟨rfl, rfl⟩
  ·simp (maxSteps := 1000000) [hho, noHo, undef, onGP_none, condG_false, -List.reduceReplicate]
   exact Ret.drop (by rfl) ⟨rfl, rfl⟩
  ·exact absurd rfl hu
 subst hu
 by_cases hlen : l1.length = l2.length
 case neg =>
  have hlen' : ¬ (l1.length : Int) = l2.length := by omega
  simp (maxSteps := 1000000) [hho, noHo, hlen, hlen', undef, onGP_none, condG_false, -List.reduceReplicate]
  exact Ret.drop (by rfl) ⟨rfl, rfl⟩
 have hlen' : (l1.length : Int) = l2.length := by omega
 have hll : l1 ≠ l2 := fun h => hne (by rw [h])
 simp (maxSteps := 1000000) [hho, noHo, hlen, hlen', undef, onGP_none, condG_false, -List.reduceReplicate]
 refine loop_k mixed (snSt v1 u1 l1 l2) (fun k => l1.length - k) (fun k => k ≤ l1.length ∧ l1.take k = l2.take k) 0 ⟨Nat.zero_le _, by simp⟩ ?_ ?_
 ·exact wk_eq (by simp [hE, lens]) (by simp [snSt, nxB, hlen]) (by simp [livH, livO, AV.livL, AV.liv, wkL, wkV, List.range', snSt, slotsOf, hlen])
 rintro k ⟨hk, hI⟩
 by_cases hkl : k < l1.length
 ·have hkl2 : k < l2.length := by omega
  obtain ⟨m, hm⟩ : ∃ m, m = l1[k] := ⟨_, rfl⟩
  obtain ⟨o, ho⟩ : ∃ o, o = l2[k] := ⟨_, rfl⟩
  have hat := mvsA_at2 l1 k hkl
  have hat2 := mvsA_at2 l2 k hkl2
  rw [← hm] at hat
  rw [← ho] at hat2
  have e0 : k * 4 + 4 ≤ l1.length * 4 := by omega
  have e1 : k * 4 + 4 ≤ l2.length * 4 := by omega
  have ew : IntKind.i64.wrap ((k : Int) + 1) = (k + 1 : Nat) := by rw [IntWalk.i64_in _ (by omega)]; rfl
  have t1 : l1.take (k + 1) = l1.take k ++ [m] := by rw [hm]; exact List.take_succ_eq_append_getElem hkl
  have t2 : l2.take (k + 1) = l2.take k ++ [o] := by rw [ho]; exact List.take_succ_eq_append_getElem hkl2
  have hki : (k : Int) < l1.length := by omega
  have hki2 : (k : Int) < l2.length := by omega
  have hme : jvC m = [.c (.int .i64 m.tab), .c (.bool m.ofi), .c (.int .i64 m.item), .c (.int .i64 m.st)] := rfl
  have hoe : jvC o = [.c (.int .i64 o.tab), .c (.bool o.ofi), .c (.int .i64 o.item), .c (.int .i64 o.st)] := rfl
  simp only [snSt, nxB]
  simp (maxSteps := 1000000) [hho, noHo, slotsOf, hkl, -List.reduceReplicate]
  refine draw_k hho (.take 0 (.take 1 (.take 2 (.take 3 (.take 4 (.take 5 (.take 6 (.take 7 (.take 8 (.take 9 (.take 10 (.done)))))))))))) [0, 1] [] (by decide +kernel) (by simp) ?_
  by_cases hmo : m = o
  ·subst hmo
   simp (maxSteps := 1000000) [hho, noHo, hat, hat2, e0, e1, hki, hki2, hkl, hkl2, hme, roOf, holdOf, wrOf, altK, heldOk, Region.binds, -List.reduceReplicate]
   refine round_next (k + 1) ⟨by omega, by rw [t1, t2, hI]⟩ (by omega) ?_
   exact wk_of 2 0 rfl (by simp [hE, lens]) (by simp [snSt, nxB]) (by simp [livH, livO, AV.livL, AV.liv, wkL, wkV, List.range', snSt, nxB, isD_livL [] (mvsA l1) (mvsA_all2 l1), isD_livL [] (mvsA l2) (mvsA_all2 l2)]) (by simp [livH, livO, AV.livL, AV.liv, wkL, wkV, List.range', snSt, slotsOf, ew])
  ·by_cases q1 : m.tab = o.tab
   case neg =>
    simp (maxSteps := 1000000) [hho, noHo, hat, hat2, e0, e1, hki, hki2, hkl, hkl2, hme, hoe, q1, roOf, holdOf, wrOf, altK, heldOk, Region.binds, -List.reduceReplicate]
    exact Ret.drop (by rfl) ⟨rfl, rfl⟩
   by_cases q3 : m.item = o.item
   case neg =>
    simp (maxSteps := 1000000) [hho, noHo, hat, hat2, e0, e1, hki, hki2, hkl, hkl2, hme, hoe, q3, roOf, holdOf, wrOf, altK, heldOk, Region.binds, -List.reduceReplicate]
    exact Ret.drop (by rfl) ⟨rfl, rfl⟩
   by_cases q4 : m.st = o.st
   case neg =>
    simp (maxSteps := 1000000) [hho, noHo, hat, hat2, e0, e1, hki, hki2, hkl, hkl2, hme, hoe, q4, roOf, holdOf, wrOf, altK, heldOk, Region.binds, -List.reduceReplicate]
    exact Ret.drop (by rfl) ⟨rfl, rfl⟩
   have q2 : ¬ m.ofi = o.ofi := fun h => hmo (by cases m; cases o; simp_all)
   simp (maxSteps := 1000000) [hho, noHo, hat, hat2, e0, e1, hki, hki2, hkl, hkl2, hme, hoe, q2, roOf, holdOf, wrOf, altK, heldOk, Region.binds, -List.reduceReplicate]
   exact Ret.drop (by rfl) ⟨rfl, rfl⟩
 ·obtain rfl : k = l1.length := by omega
  rw [List.take_length, hlen, List.take_length] at hI
  exact absurd hI hll
end Go.Proofs.YthgoocdldnkogaaGreatDoor
