import Derived.Test.YthgoocdldnkogaaGreatDoorHMa
import Derived.Test.YthgoocdldnkogaaGreatDoorHJ
import Derived.Test.YthgoocdldnkogaaGreatDoorHDp
namespace Go.Proofs.YthgoocdldnkogaaGreatDoor
set_option linter.unusedVariables false
set_option linter.unusedSimpArgs false
open Go.RowKit
attribute [local simp] isCut_nil isCut_region isCut_seq isCut_block isCut_loop isCut_cond isCut_skip isCut_exit isCut_ret isCut_range swapK putK altK condK_bool pickP_bool stepP stepO onPure_some onPure_none onImpl_some onImpl_none stepC onGP_some onGP_none onGV_some condG mkG onIt_it nextP_ptr takeP_eq takeV_some takeV_none takeU_some takeU_none takeQ takeW_some takeN_none takeN_some takeG_some takeO_some altO_some pureV binV2 eqF eqOp ovlV ovl2 rowAt capV binV intBin strBin isSh shV fldV ixV sliceV slice3V loadAV nilV lenV callV unV convV viewS cellsH loadV fldCut AV.ung AV.ungs AV.gc AV.cells AS.ev AS.put anyS gcsV gcO lens lnO gV guardV retK RetP_eq resV oneV anyRo loIx hiIx implO callP_clo evL gcsL clearV storeAV AS.push AS.setO appV appZ shortS copyV buildV partsV fillV srcV fzO okV isCell_c isCell_ptr isCell_sl isCell_fs isCell_fp isCell_clo rowZ_one rowZ_zero rowZ_2 rowZ_3 rowZ_4 rowZ_5 rowZ_6 rowZ_7 rowZ_8 rowZ_9 rowZ_10 rowZ_11 rowZ_12 noHo Value.oneCell' max2V min2V lookV updV updK updW cvals mkAt basV lenM msAt afterH putBack frzFrom frzO rebO backIx nilEq_sl nilEq_fs nilEq_ifn nilEq_ifh ifOp_eql ifOp_neq isLit nilOp_eql nilOp_neq AV.reb AV.rebL
attribute [local simp ↓] runK_skip runK_region runK_draw runK_seq runK_cut runK_cond runK_block runK_loop runK_exit runK_label runK_goto runK_ret runK_range contK_nil contK_seq contK_seq_ret contK_seq_exit contK_seq_goto contK_block contK_block_ret contK_block_goto contK_block_exit runO_nil runO_cons roundK_exit roundK_ret roundK_goto exitK_ret cutK_ret cutK_exit runE_done runE_nil runE_take runE_alt condG_true condG_false
set_option maxRecDepth 10000
def movA (m : MovS) : List AV := [.c (.int .i64 m.tab), .c (.bool m.ix), .c (.int .i64 m.id), .c (.int .i64 m.dst)]
@[simp] theorem movA_length (m : MovS) : (movA m).length = 4 := rfl
@[simp] theorem movA_take (m : MovS) : List.take 4 (movA m) = movA m := rfl
def movsA (l : List MovS) : List AV := l.flatMap movA
@[simp] theorem movsA_length (l : List MovS) : (movsA l).length = l.length * 4 := flat_length movA 4 (by simp) l
@[simp] theorem movA_all (x : MovS) : (∀ a ∈ movA x, isD a = true) ↔ True := iff_true_intro <| by simp [movA, isD]
@[simp] theorem movA_cell (x : MovS) : (∀ a ∈ movA x, isCell a = true) ↔ True := iff_true_intro <| by simp [movA, isCell_c, Value.oneCell']
@[simp] theorem movsA_all (l : List MovS) : (∀ x ∈ movsA l, isD x = true) ↔ True := iff_true_intro <| by
 intro x hx
 simp only [movsA, List.mem_flatMap] at hx
 obtain ⟨b, _, hx⟩ := hx
 exact (movA_all b).2 trivial x hx
@[simp] theorem movsA_cell (l : List MovS) : (∀ x ∈ movsA l, isCell x = true) ↔ True := iff_true_intro <| by
 intro x hx
 simp only [movsA, List.mem_flatMap] at hx
 obtain ⟨b, _, hx⟩ := hx
 exact (movA_cell b).2 trivial x hx
theorem clone_tabs (l : List TabS) (hl : l.length ≤ 1000000) : ACalls Tryz.prog 55 [.fs 4 l.length (tabsA l)] [] (fun _ => false) (fun r h' => r = .sl 0 4 0 l.length (l.length * 4) ∧ h' = [.o (.row 28 4) (tabsA l)]) := by
 refine acalls mixed Tryz.func55 rfl Tryz.ntmps55 rfl fun E hE _ hho => ?_
 have hc := (tabsA_cell l).2 trivial
 simp (maxSteps := 1000000) [hho, noHo, -List.reduceReplicate]
 refine ⟨⟨by omega, Ret.same ⟨rfl, rfl⟩⟩, fun h0 => ?_⟩
 subst h0
 refine Ret.wk (h2 := [.o (.row 28 4) []]) (r2 := .sl 0 4 0 0 0) (fun E hE => wk_virt 0 28 4 rfl) (Ret.same ⟨rfl, rfl⟩)
theorem clone_idxs (l : List IdxS) (hl : l.length ≤ 1000000) : ACalls Tryz.prog 57 [.fs 5 l.length (idxsA l)] [] (fun _ => false) (fun r h' => r = .sl 0 5 0 l.length (l.length * 5) ∧ h' = [.o (.row 49 5) (idxsA l)]) := by
 refine acalls mixed Tryz.func57 rfl Tryz.ntmps57 rfl fun E hE _ hho => ?_
 have hc := (idxsA_cell l).2 trivial
 simp (maxSteps := 1000000) [hho, noHo, -List.reduceReplicate]
 refine ⟨⟨by omega, Ret.same ⟨rfl, rfl⟩⟩, fun h0 => ?_⟩
 subst h0
 refine Ret.wk (h2 := [.o (.row 49 5) []]) (r2 := .sl 0 5 0 0 0) (fun E hE => wk_virt 0 49 5 rfl) (Ret.same ⟨rfl, rfl⟩)
theorem clone_ints (l : List Int) (hl : l.length ≤ 1000000) : ACalls Tryz.prog 43 [.fs 1 l.length (intsA l)] [] (fun _ => false) (fun r h' => r = .sl 0 1 0 l.length l.length ∧ h' = [.o (.row 3 1) (intsA l)]) := by
 refine acalls mixed Tryz.func43 rfl Tryz.ntmps43 rfl fun E hE _ hho => ?_
 have hc := (intsA_cell l).2 trivial
 simp (maxSteps := 1000000) [hho, noHo, -List.reduceReplicate]
 refine ⟨⟨by omega, Ret.same ⟨rfl, rfl⟩⟩, fun h0 => ?_⟩
 subst h0
 refine Ret.wk (h2 := [.o (.row 3 1) []]) (r2 := .sl 0 1 0 0 0) (fun E hE => wk_virt 0 3 1 rfl) (Ret.same ⟨rfl, rfl⟩)

def livA (o : Nat) (t : TabS) : List AV := [.c (.int .i64 t.id), .c (.string t.name), .sl o 10 0 t.cols.length (t.cols.length * 10), .sl (o + 1) 5 0 t.idxs.length (t.idxs.length * 5)]
@[simp] theorem livA_length (o : Nat) (t : TabS) : (livA o t).length = 4 := rfl
def livsA : Nat → List TabS → List AV
 | _, [] => []
 | o, t :: l => livA o t ++ livsA (o + 2) l
@[simp] theorem livsA_length : ∀ (l : List TabS) (o : Nat), (livsA o l).length = l.length * 4
 | [], _ => rfl
 | t :: l, o => by simp [livsA, livsA_length l (o + 2)]; omega
def rowX (l : List IdxS) : AObj := .o (.row 49 5) (idxsA l)
def rowL (l : List ColS) : AObj := .o (.row 44 10) (colsA l)
def inner : List TabS → List AObj
 | [] => []
 | t :: l => rowL t.cols :: rowX t.idxs :: inner l
@[simp] theorem inner_length : ∀ l : List TabS, (inner l).length = 2 * l.length
 | [] => rfl
 | t :: l => by simp [inner, inner_length l]; omega
def heapS (o : Nat) (l : List TabS) : List AObj := .o (.row 28 4) (livsA (o + 1) l) :: inner l
@[simp] theorem heapS_length (o : Nat) (l : List TabS) : (heapS o l).length = 1 + 2 * l.length := by simp [heapS]; omega

def hasKC (h : List AObj) (k : Nat) (cs : List AV) : Prop := ∃ kd, h[k]? = some (.o kd cs)
theorem deep_cols {h : List AObj} {ok : Nat → Prop} {k : Nat} {cs : List ColS} (h1 : ok k) (h2 : hasKC h k (colsA cs)) (h3 : cs.length ≤ maxLen) : DeepD h ok (.sl k 10 0 cs.length (cs.length * 10)) (.fs 10 cs.length (colsA cs)) := by
 obtain ⟨kd, h2⟩ := h2
 refine .sl k 10 0 _ _ _ _ _ h1 h2 (by simp) (by omega) h3 (by simp) fun i u u' hu hu' => ?_
 have hi : i < (colsA cs).length := (List.getElem?_eq_some_iff.1 hu').1
 rw [Nat.zero_add, hu'] at hu
 injection hu with hu; subst hu
 exact .d _ ((colsA_all cs).2 trivial _ (List.mem_of_getElem? hu'))
theorem rebL_app (f : Nat → Nat) (a b : List AV) : AV.rebL f (a ++ b) = AV.rebL f a ++ AV.rebL f b := by
 induction a with
 | nil => rfl
 | cons x a ih => simp [AV.rebL, ih]
section
variable {E : Env}
end

def zCol : List AV := [.c (.int .i64 0), .c (.string ByteArray.empty), .c (.int .i64 0), .c (.int .i64 0), .c (.bool false), .c (.int .i64 0), .c (.int .i64 0), .c (.int .i64 0), .c (.string ByteArray.empty), .c (.int .i64 0)]
theorem zCol_all (y : AV) (h : y ∈ zCol) : isD y = true := by simp only [zCol, List.mem_cons, List.not_mem_nil, or_false] at h; rcases h with rfl | rfl | rfl | rfl | rfl | rfl | rfl | rfl | rfl | rfl <;> rfl
def zIdx : List AV := [.c (.int .i64 0), .c (.string ByteArray.empty), .c (.slice none 0 0), .c (.bool false), .c (.int .i64 0)]
theorem zIdx_all (y : AV) (h : y ∈ zIdx) : isD y = true := by simp only [zIdx, List.mem_cons, List.not_mem_nil, or_false] at h; rcases h with rfl | rfl | rfl | rfl | rfl <;> rfl

def cpBox (s : SchS) : AObj := .o .box [.c (.int .i64 s.ver), .c (.int .i64 s.next), .sl 2 4 0 s.tabs.length (s.tabs.length * 4)]
def cpRes : AObj := .o .box [.c (.int .i64 0), .c (.int .i64 0), .c (.slice none 0 0)]
theorem appAt {P X : List AObj} {N : Nat} (h : P.length = N) (k : Nat) : (P ++ X)[N + k]? = X[k]? := by
 rw [← h, List.getElem?_append_right (by omega)]
 congr 1; omega
theorem gq {α : Type} {l : List α} {i : Nat} {x : α} (h : l[i]? = some x) (hi : i < l.length) : l[i] = x := by
 rw [List.getElem?_eq_getElem hi] at h; injection h
theorem frz_no : ∀ (l : List AObj) (i : Nat), frzFrom (fun _ => false) i l = l
 | [], _ => rfl
 | x :: l, i => by simp [frzFrom, frz_no l (i + 1)]
theorem appSet {P X : List AObj} {N : Nat} (h : P.length = N) (k : Nat) (y : AObj) : (P ++ X).set (N + k) y = P ++ X.set k y := by
 rw [← h, List.set_append_right _ _ (by omega)]
 congr 2; omega
section
variable {E : Env}
def skipF (N k : Nat) : Nat := if k < N then k else k + 1
theorem wk_front (m : Nat) {D h : List AObj} {T T' : List AV} (hE : E.ho = noHo) (hst : ∀ k, k < E.ln0.length → E.st k = true → False) (hD : D.length = m) (ht : T = AV.rebL (· + m) T') : Wk E ⟨T, D ++ h.map (rebO (· + m))⟩ ⟨T', h⟩ := by
 have hobj : ∀ (k : Nat) (x : AObj), h[k]? = some x → (D ++ h.map (rebO (· + m)))[k + m]? = some (rebO (· + m) x) := by
  intro k x hk
  rw [List.getElem?_append_right (by omega), show k + m - D.length = k by omega, List.getElem?_map, hk]; rfl
 refine wk_pick (· + m) hE (fun k => ?_) (fun j k _ _ h => by simpa using h) hobj ht (fun k hk hs => (hst k hk hs).elim)
 simp only [lens, List.getElem?_map]
 cases hk : h[k]? with
 | some x => rw [hobj k x hk, Option.map_some, Option.map_some, rebO_ln]
 | none =>
  have hkl := List.getElem?_eq_none_iff.1 hk
  rw [List.getElem?_eq_none_iff.2 (by simp; omega)]
end
theorem rebL_isD' {f : Nat → Nat} {l : List AV} (h : ∀ x ∈ l, isD x = true) : AV.rebL f l = l := rebL_isD (List.all_eq_true.2 h)
theorem take_snoc {α : Type} (l : List α) (j : Nat) (hj : j < l.length) : l.take (j + 1) = l.take j ++ [l[j]] := by
 rw [List.take_add_one, List.getElem?_eq_getElem hj]; rfl
theorem set_split {α : Type} (l : List α) (i : Nat) (y : α) (hi : i < l.length) : l.take i ++ y :: l.drop (i + 1) = l.set i y := by
 rw [List.set_eq_take_append_cons_drop, if_pos hi]
end Go.Proofs.YthgoocdldnkogaaGreatDoor
