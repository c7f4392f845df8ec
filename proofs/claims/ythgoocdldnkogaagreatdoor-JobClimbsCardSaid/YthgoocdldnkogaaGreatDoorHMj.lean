import Derived.Test.YthgoocdldnkogaaGreatDoorHMe
import Derived.Test.YthgoocdldnkogaaGreatDoorHDx
namespace Go.Proofs.YthgoocdldnkogaaGreatDoor
set_option linter.unusedVariables false
set_option linter.unusedSimpArgs false
open Go.RowKit
attribute [local simp] isCut_nil isCut_region isCut_seq isCut_block isCut_loop isCut_cond isCut_skip isCut_exit isCut_ret isCut_range swapK putK altK condK_bool pickP_bool stepP stepO onPure_some onPure_none onImpl_some onImpl_none stepC onGP_some onGP_none onGV_some condG mkG onIt_it nextP_ptr takeP_eq takeV_some takeV_none takeU_some takeU_none takeQ takeW_some takeN_none takeN_some takeG_some takeO_some altO_some pureV binV2 eqF eqOp ovlV ovl2 rowAt capV binV intBin strBin isSh shV fldV ixV sliceV slice3V loadAV nilV lenV callV unV convV viewS cellsH loadV fldCut AV.ung AV.ungs AV.gc AV.cells AS.ev AS.put anyS gcsV gcO lens lnO gV guardV retK RetP_eq resV oneV anyRo loIx hiIx implO callP_clo evL gcsL clearV storeAV AS.push AS.setO appV appZ shortS copyV buildV partsV fillV srcV fzO okV isCell_c isCell_ptr isCell_sl isCell_fs isCell_fp isCell_clo rowZ_one rowZ_zero rowZ_2 rowZ_3 rowZ_4 rowZ_5 rowZ_6 rowZ_7 rowZ_8 rowZ_9 rowZ_10 rowZ_11 rowZ_12 noHo Value.oneCell' max2V min2V lookV updV updK updW cvals mkAt basV lenM msAt afterH putBack frzFrom frzO rebO backIx nilEq_sl nilEq_fs nilEq_ifn nilEq_ifh ifOp_eql ifOp_neq isLit nilOp_eql nilOp_neq AV.reb AV.rebL
attribute [local simp ↓] runK_skip runK_region runK_draw runK_seq runK_cut runK_cond runK_block runK_loop runK_exit runK_label runK_goto runK_ret runK_range contK_nil contK_seq contK_seq_ret contK_seq_exit contK_seq_goto contK_block contK_block_ret contK_block_goto contK_block_exit runO_nil runO_cons roundK_exit roundK_ret roundK_goto exitK_ret cutK_ret cutK_exit runE_done runE_nil runE_take runE_alt condG_true condG_false
set_option maxRecDepth 10000
theorem mvix_1_w (x : IdxS) (m : MovS) : ACalls Tryz.prog 85 [.agg (idxA x), .ptr 0 0 4] [.o .box (movA m)] (fun k => decide (k < 1)) (fun r h' => r = .c (.bool (decide (x.id = m.id))) ∧ h' = [.o .box (movA m)]) := by
 refine acalls mixed Tryz.func85 rfl Tryz.ntmps85 rfl fun E hE hst hho => ?_
 simp (maxSteps := 1000000) [hho, noHo, idxA, movA, -List.reduceReplicate]
 refine Ret.sel [0] (fun _ => false) (ho := by rfl) (ha := by rfl) ?_ ?_ (by decide) (by simp) (fun i _ h => ?_) ⟨?_, rfl⟩
 ·simp
 ·simp
 ·have e : i = 0 := of_decide_eq_true h
  subst e; rfl
 ·rfl
set_option maxHeartbeats 4000000 in
theorem ifl_mov (l : List IdxS) (n : Nat) (hn : n = l.length) (hl : n ≤ 1000000) (m : MovS) : ACalls Tryz.prog 78 [.sl 0 5 0 n (n * 5), .clo (.func 85) [] [.ptr 1 0 4]] [rowX l, .o .box (movA m)] (fun k => decide (k < 2)) (fun r h' => r = .c (.int .i64 (ixF (fun x : IdxS => decide (x.id = m.id)) l)) ∧ h' = [rowX l, .o .box (movA m)]) := by
 refine acalls mixed Tryz.func78 rfl Tryz.ntmps78 rfl fun E hE hst hho => ?_
 have hg : callable Tryz.prog 85 = true := by simp
 obtain ⟨p, hp⟩ : ∃ p : IdxS → Bool, p = fun x : IdxS => decide (x.id = m.id) := ⟨_, rfl⟩
 rw [← hp]
 simp (maxSteps := 1000000) [hho, noHo, rowX, -List.reduceReplicate]
 refine ⟨by omega, ?_⟩
 refine loop_k mixed (fun j : Nat => ⟨slotsOf 19 [(0, .sl 0 5 0 n (n * 5)), (1, .clo (.func 85) [] [.ptr 1 0 4]), (7, .c (.int .i64 n)), (8, .c (.int .i64 (j : Nat)))], [rowX l, .o .box (movA m)]⟩) (fun j => n - j) (fun j => j ≤ n ∧ ∀ k (hk : k < l.length), k < j → p l[k] = false) 0 ⟨Nat.zero_le _, fun k _ h => by omega⟩ ?_ ?_
 ·exact wk_eq (by simp [hE, rowX, lens]) (by simp [rowX]) (by simp [livH, livO, AV.livL, AV.liv, wkL, wkV, List.range', slotsOf])
 ·rintro j ⟨hj, hI⟩
  by_cases hjn : j < n
  ·have hjl : j < l.length := by omega
   have hat := idxsA_at l j hjl
   have ew : IntKind.i64.wrap ((j : Int) + 1) = (j + 1 : Nat) := by rw [IntWalk.i64_in _ (by omega)]; rfl
   have e0 : j * 5 + 5 ≤ n * 5 := by omega
   have hx := mvix_1_w l[j] m
   have hp0 := @ixF_hit _ p l j hjl hI
   have hI1 : p l[j] = false → ∀ k (hk : k < l.length), k < j + 1 → p l[k] = false := fun h k hk hkj => by
    by_cases e : k = j
    ·subst e; exact h
    ·exact hI k hk (by omega)
   obtain ⟨x, hxe⟩ : ∃ x, x = l[j] := ⟨_, rfl⟩
   rw [← hxe] at hat hx hp0 hI1
   have h5 : List.take 5 (idxA x) = idxA x := rfl
   have hln : l.length * 5 = n * 5 := by omega
   have hpx : decide (x.id = m.id) = p x := by rw [hp]
   rw [hpx] at hx
   cases hpc : p x with
   | true =>
    rw [hpc] at hx
    simp (maxSteps := 1000000) [hho, noHo, slotsOf, rowX, hjn, hat, e0, hg, h5, hln, movA, -List.reduceReplicate]
    refine call_x [1] hx rfl rfl ⟨rfl, rfl⟩ hho (by simp) (by decide) (by simp) (by simp) ?_
    simp (maxSteps := 1000000) [hho, noHo, ew, movA, -List.reduceReplicate]
    exact Ret.same ⟨by rw [hp0 hpc], rfl⟩
   | false =>
    rw [hpc] at hx
    simp (maxSteps := 1000000) [hho, noHo, slotsOf, rowX, hjn, hat, e0, hg, h5, hln, movA, -List.reduceReplicate]
    refine call_x [1] hx rfl rfl ⟨rfl, rfl⟩ hho (by simp) (by decide) (by simp) (by simp) ?_
    simp (maxSteps := 1000000) [hho, noHo, ew, movA, -List.reduceReplicate]
    refine round_next (j + 1) ⟨by omega, hI1 hpc⟩ (by omega) ?_
    exact wk_eq (by simp [hE, rowX, lens]) (by simp [rowX, movA]) (by simp [livH, livO, AV.livL, AV.liv, wkL, wkV, List.range', slotsOf])
  ·obtain rfl : j = n := by omega
   simp (maxSteps := 1000000) [hho, noHo, slotsOf, rowX, -List.reduceReplicate]
   exact Ret.same ⟨by rw [ixF_none fun k hk => hI k hk (by omega)], rfl⟩
def focR (pv qv : List Value) (t : TabS) : AObj := .o (.row 28 4) (pv.map .c ++ (livA 1 t ++ qv.map .c))
theorem foc_at (pv qv : List Value) (t : TabS) : List.take 4 (List.drop pv.length (pv.map AV.c ++ (livA 1 t ++ qv.map AV.c))) = livA 1 t := by
 rw [List.drop_append_of_le_length (by simp), List.drop_of_length_le (by simp), List.nil_append, List.take_append_of_le_length (by simp)]
 rfl
theorem foc_get (pv qv : List Value) (t : TabS) (k : Nat) (hk : k < 4) : (pv.map AV.c ++ (livA 1 t ++ qv.map AV.c))[pv.length + k]? = (livA 1 t)[k]? := by
 rw [List.getElem?_append_right (by simp), List.length_map, Nat.add_sub_cancel_left, List.getElem?_append_left (by simpa using hk)]
theorem colA_st (l : List ColS) (i : Nat) (hi : i < l.length) : (colsA l)[i * 10 + 9]? = some (.c (.int .i64 l[i].st)) := by
 have h := colsA_at l i hi
 have : (List.take 10 (List.drop (i * 10) (colsA l)))[9]? = (colsA l)[i * 10 + 9]? := by rw [List.getElem?_take_of_lt (by omega), List.getElem?_drop]
 rw [← this, h]; rfl
theorem colA_setst (l : List ColS) (i : Nat) (hi : i < l.length) (d : Int) : (colsA l).set (i * 10 + 9) (.c (.int .i64 d)) = colsA (l.set i { l[i] with st := d }) := by
 rw [← colsA_set l i hi, List.set_eq_take_append_cons_drop, if_pos (by simp; omega)]
 have e1 : List.take (i * 10 + 9) (colsA l) = List.take (i * 10) (colsA l) ++ (colA l[i]).take 9 := by
  rw [List.take_add, show List.take 9 (List.drop (i * 10) (colsA l)) = List.take 9 (List.take 10 (List.drop (i * 10) (colsA l))) by rw [List.take_take]; rfl, colsA_at l i hi]
 rw [e1, List.append_assoc, show i * 10 + 9 + 1 = i * 10 + 10 by omega]
 rfl
theorem idxA_st (l : List IdxS) (i : Nat) (hi : i < l.length) : (idxsA l)[i * 5 + 4]? = some (.c (.int .i64 l[i].st)) := by
 have h := idxsA_at l i hi
 have : (List.take 5 (List.drop (i * 5) (idxsA l)))[4]? = (idxsA l)[i * 5 + 4]? := by rw [List.getElem?_take_of_lt (by omega), List.getElem?_drop]
 rw [← this, h]; rfl
theorem idxA_setst (l : List IdxS) (i : Nat) (hi : i < l.length) (d : Int) : (idxsA l).set (i * 5 + 4) (.c (.int .i64 d)) = idxsA (l.set i { l[i] with st := d }) := by
 rw [← idxsA_set l i hi, List.set_eq_take_append_cons_drop, if_pos (by simp; omega)]
 have e1 : List.take (i * 5 + 4) (idxsA l) = List.take (i * 5) (idxsA l) ++ (idxA l[i]).take 4 := by
  rw [List.take_add, show List.take 4 (List.drop (i * 5) (idxsA l)) = List.take 4 (List.take 5 (List.drop (i * 5) (idxsA l))) by rw [List.take_take]; rfl, idxsA_at l i hi]
 rw [e1, List.append_assoc, show i * 5 + 4 + 1 = i * 5 + 5 by omega]
 rfl
theorem wkL_refl : ∀ (d : List Nat) (l : List AV), AV.livL d l = true → wkL d l l
 | _, [], _ => trivial
 | d, v :: l, h => by
  simp only [AV.livL, Bool.and_eq_true] at h
  refine ⟨?_, wkL_refl d l h.2⟩
  cases v <;> first | trivial | exact ⟨rfl, h.1⟩
theorem livL_c (d : List Nat) (l : List Value) : AV.livL d (l.map .c) = true := by
 induction l with
 | nil => simp [AV.livL]
 | cons x l ih => simp [AV.livL, AV.liv, ih]
theorem livL_app (d : List Nat) (x y : List AV) : AV.livL d (x ++ y) = (AV.livL d x && AV.livL d y) := by
 induction x with
 | nil => simp [AV.livL]
 | cons u x ih => simp [AV.livL, ih, Bool.and_assoc]
theorem foc_liv (d : List Nat) (pv qv : List Value) (l : List AV) (h : AV.livL d l = true) : AV.livL d (pv.map .c ++ (l ++ qv.map .c)) = true := by
 simp [livL_app, livL_c, h]
def tailF (n m k : Nat) : Nat := if k < n then k else k + m
theorem wk_tail {E : Env} (n m : Nat) {A D : List AObj} {T T' : List AV} (hE : E.ho = noHo) (hst : ∀ k, n ≤ k → k < E.ln0.length → E.st k = false) (hA : A.length = n) (hD : D.length = m) (ht : T = AV.rebL (tailF n m) T') (hA2 : ∀ x ∈ A, rebO (tailF n m) x = x) : Wk E ⟨T, A ++ D⟩ ⟨T', A⟩ := by
 have hobj : ∀ k x, A[k]? = some x → (A ++ D)[tailF n m k]? = some (rebO (tailF n m) x) := by
  intro k x hk
  have hkn : k < n := by have := (List.getElem?_eq_some_iff.1 hk).1; omega
  rw [hA2 x (List.mem_of_getElem? hk), tailF, if_pos hkn, List.getElem?_append_left (by omega)]; exact hk
 refine wk_pick (tailF n m) hE (fun k => ?_) (fun j k _ _ h => by unfold tailF at h; split at h <;> split at h <;> omega) hobj ht (fun k hk hs => by
  by_cases h : k < n
  ·simp [tailF, h]
  ·rw [hst k (by omega) hk] at hs; cases hs)
 simp only [lens, List.getElem?_map]
 cases hk : A[k]? with
 | some x => rw [hobj k x hk, Option.map_some, Option.map_some, rebO_ln]
 | none =>
  have hkl := List.getElem?_eq_none_iff.1 hk
  rw [tailF, if_neg (by omega), List.getElem?_eq_none_iff.2 (by simp; omega)]
theorem rebL_c (f : Nat → Nat) (l : List Value) : AV.rebL f (l.map .c) = l.map .c := by
 induction l with
 | nil => rfl
 | cons x l ih => simp [AV.rebL, AV.reb, ih]
def livJ (t : TabS) (c x : Nat) : List AV := [.c (.int .i64 t.id), .c (.string t.name), .sl 1 10 0 t.cols.length c, .sl 2 5 0 t.idxs.length x]
def focJ (pv qv : List Value) (t : TabS) (c x : Nat) : AObj := .o (.row 28 4) (pv.map .c ++ (livJ t c x ++ qv.map .c))
def rowLJ (l : List ColS) (j : List AV) : AObj := .o (.row 44 10) (colsA l ++ j)
def rowXJ (l : List IdxS) (j : List AV) : AObj := .o (.row 49 5) (idxsA l ++ j)
@[simp] theorem zCol_s : (∀ a ∈ zCol, isD a = true) ↔ True := iff_true_intro zCol_all
@[simp] theorem zIdx_s : (∀ a ∈ zIdx, isD a = true) ↔ True := iff_true_intro zIdx_all
def jC (t t' : TabS) : List AV := if t'.cols.length < t.cols.length then zCol else []
def jX (t t' : TabS) : List AV := if t'.idxs.length < t.idxs.length then zIdx else []
theorem jC_all (t t' : TabS) : ∀ y ∈ jC t t', isD y = true := fun y h => by
 unfold jC at h; split at h
 ·exact zCol_all y h
 ·cases h
theorem jX_all (t t' : TabS) : ∀ y ∈ jX t t', isD y = true := fun y h => by
 unfold jX at h; split at h
 ·exact zIdx_all y h
 ·cases h
def mvO (pv qv : List Value) (t t' : TabS) : List AObj := [focJ pv qv t' (t.cols.length * 10) (t.idxs.length * 5), rowLJ t'.cols (jC t t'), rowXJ t'.idxs (jX t t')]
theorem mvO_same (pv qv : List Value) (t t' : TabS) (h1 : t'.cols.length = t.cols.length) (h2 : t'.idxs.length = t.idxs.length) : mvO pv qv t t' = [focR pv qv t', rowL t'.cols, rowX t'.idxs] := by
 simp [mvO, focJ, focR, livJ, livA, rowLJ, rowXJ, jC, jX, h1, h2, rowL, rowX]
theorem focJ_reb (f : Nat → Nat) (pv qv : List Value) (t : TabS) (c x : Nat) (h1 : f 1 = 1) (h2 : f 2 = 2) : rebO f (focJ pv qv t c x) = focJ pv qv t c x := by
 simp only [focJ, rebO_eq, rebL_app, rebL_c]
 simp [livJ, AV.rebL, AV.reb, h1, h2]
theorem rowLJ_reb (f : Nat → Nat) (l : List ColS) (j : List AV) (hj : ∀ y ∈ j, isD y = true) : rebO f (rowLJ l j) = rowLJ l j := by
 simp only [rowLJ, rebO_eq]
 rw [rebL_isD' fun y hy => ?_]
 rcases List.mem_append.1 hy with h | h
 ·exact (colsA_all _).2 trivial y h
 ·exact hj y h
theorem rowXJ_reb (f : Nat → Nat) (l : List IdxS) (j : List AV) (hj : ∀ y ∈ j, isD y = true) : rebO f (rowXJ l j) = rowXJ l j := by
 simp only [rowXJ, rebO_eq]
 rw [rebL_isD' fun y hy => ?_]
 rcases List.mem_append.1 hy with h | h
 ·exact (idxsA_all _).2 trivial y h
 ·exact hj y h
theorem foc_drop {st : Nat → Bool} {Post : AV → List AObj → Prop} {pv qv : List Value} {t t' : TabS} {x0 x1 x2 bx : AObj} {v : Value} (hst : ∀ k, 3 ≤ k → st k = false) (h0 : [x0, x1, x2] = mvO pv qv t t') (h : Ret st Post (mvO pv qv t t') (.c v)) : Ret st Post [x0, x1, x2, bx] (.c v) := by
 have e : [x0, x1, x2, bx] = mvO pv qv t t' ++ [bx] := by rw [← h0]; rfl
 rw [e]
 refine Ret.wkS (fun E h1 h2 h3 => wk_tail (E := E) 3 1 (A := mvO pv qv t t') (D := [bx]) h2 (fun k hk _ => by rw [h3]; exact hst k hk) rfl rfl rfl fun y hy => ?_) h
 simp only [mvO, List.mem_cons, List.not_mem_nil, or_false] at hy
 rcases hy with rfl | rfl | rfl
 ·exact focJ_reb _ _ _ _ _ _ rfl rfl
 ·exact rowLJ_reb _ _ _ (jC_all _ _)
 ·exact rowXJ_reb _ _ _ (jX_all _ _)
structure MvB (t : TabS) (m : MovS) : Prop where
 lc : t.cols.length ≤ 1000
 lx : t.idxs.length ≤ 1000
 xc : ∀ x ∈ t.idxs, x.cols.length ≤ 1000
 cs : ∀ c ∈ t.cols, -1000 ≤ c.st ∧ c.st ≤ 1000
 xs : ∀ c ∈ t.idxs, -1000 ≤ c.st ∧ c.st ≤ 1000
 d : -9223372036854775808 ≤ m.dst ∧ m.dst ≤ 9223372036854775807
set_option maxHeartbeats 8000000 in
theorem mvix_w (pv qv : List Value) (t : TabS) (m : MovS) (i n : Nat) (hp : pv.length = i * 4) (hn : i * 4 + (4 + qv.length) = n) (hb : MvB t m) : ACalls Tryz.prog 48 [.ptr 0 (i * 4) n, .agg (movA m)] [focR pv qv t, rowL t.cols, rowX t.idxs] (fun k => decide (k < 3)) (fun r h' => r = .c (.int .i64 (mvX t m).2) ∧ h' = mvO pv qv t (mvX t m).1) := by
 refine acalls mixed Tryz.func48 rfl Tryz.ntmps48 rfl fun E hE hst hho => ?_
 have hlc := hb.lc
 have hlx := hb.lx
 have hlen : (pv.map AV.c ++ (livA 1 t ++ qv.map AV.c)).length = n := by simp [hp]; omega
 obtain ⟨C, hC⟩ : ∃ C, C = pv.map AV.c ++ (livA 1 t ++ qv.map AV.c) := ⟨_, rfl⟩
 have g3 : C[i * 4 + 3]? = some (.sl 2 5 0 t.idxs.length (t.idxs.length * 5)) := by rw [hC, ← hp, foc_get pv qv t 3 (by omega)]; rfl
 have hCl : C.length = n := by rw [hC]; exact hlen
 have hif := ifl_mov t.idxs t.idxs.length rfl (by omega) m
 have hfr : focR pv qv t = .o (.row 28 4) C := by rw [hC]; rfl
 have hliv : ∀ d : List Nat, 1 ∉ d → 2 ∉ d → AV.livL d C = true := fun d h1 h2 => by rw [hC]; refine foc_liv _ _ _ _ ?_; simp [livA, AV.livL, AV.liv, h1, h2]
 rw [hfr]
 have hi4 : i * 4 + 4 ≤ n := by omega
 have hi3 : i * 4 + 3 < n := by omega
 have k3 := fun h => gq g3 h
 simp (maxSteps := 1000000) [hho, noHo, movA, rowL, rowX, hCl, k3, hi4, hi3, -List.reduceReplicate]
 simp only [movA, rowX] at hif
 refine call_x [2, 3] hif rfl rfl ⟨rfl, rfl⟩ hho (by simp) (by decide) (by simp) (by simp) ?_
 obtain ⟨p, hpp⟩ : ∃ p : IdxS → Bool, p = fun x : IdxS => decide (x.id = m.id) := ⟨_, rfl⟩
 rw [← hpp]
 rcases ixFC_cases p t.idxs with ⟨j, hj, e1, e2, e3⟩ | ⟨e1, e2⟩
 ·rw [e1]
  have hfind : t.idxs.findIdx? p = some j := by
   rw [List.findIdx?_eq_some_iff_getElem]; exact ⟨hj, e3, fun k hk => by simp [e2 k (by omega) hk]⟩
  obtain ⟨x, hx⟩ : ∃ x, x = t.idxs[j] := ⟨_, rfl⟩
  have hmv : mvX t m = if !nearB x.st m.dst then (t, 122) else if m.dst = 0 then ({ t with idxs := t.idxs.eraseIdx j }, 0) else ({ t with idxs := t.idxs.set j { x with st := m.dst } }, 0) := by
   unfold mvX
   rw [← hpp, hfind]
   simp only [List.getElem?_eq_getElem hj, ← hx]
  have hxs := hb.xs x (by rw [hx]; exact List.getElem_mem hj)
  have hnear := near_w x.st m.dst hxs hb.d
  have hs0 := idxA_st t.idxs j hj
  rw [← hx] at hs0
  have kst := fun h => gq hs0 h
  have hj5 : j * 5 + 4 < t.idxs.length * 5 := by omega
  have hj0 : ¬ (j : Int) < 0 := by omega
  simp (maxSteps := 1000000) [hho, noHo, hCl, k3, hi4, hi3, hj0, -List.reduceReplicate]
  refine draw_k hho (.take 0 (.take 1 (.take 2 (.take 3 (.take 4 (.take 5 (.take 6 (.take 7 (.take 8 (.take 9 (.alt 10 (.take 11 (.take 12 (.done))) (.nil)))))))))))) [0, 2, 3] [] (by decide +kernel) (by simp) ?_
  simp (maxSteps := 1000000) [hho, noHo, hCl, k3, hi4, hi3, kst, hj, hj5, roOf, holdOf, wrOf, altK, heldOk, Region.binds, -List.reduceReplicate]
  refine ⟨by omega, ?_⟩
  intro E1
  refine call_h [] (hnear) rfl rfl ⟨rfl, rfl⟩ (by simp) (by simp) (by decide) (by simp) (by simp) ?_
  cases hnb : nearB x.st m.dst with
  | false =>
   rw [hmv, hnb]
   simp (maxSteps := 1000000) [hho, noHo, hCl, k3, hi4, hi3, kst, hj, hj5, roOf, holdOf, wrOf, altK, heldOk, Region.binds, -List.reduceReplicate]
   rw [hC]
   exact foc_drop (t := t) (t' := t) (fun k hk => decide_eq_false (by omega)) (mvO_same pv qv t t rfl rfl).symm (Ret.same ⟨rfl, rfl⟩)
  | true =>
   have ew : IntKind.i64.wrap ((j : Int) + 1) = ((j + 1 : Nat) : Int) := by rw [IntWalk.i64_in _ (by omega)]; rfl
   rw [hmv, hnb]
   by_cases hz : m.dst = 0
   ·simp (maxSteps := 1000000) [hho, noHo, hCl, k3, hi4, hi3, kst, hj, hj5, hz, roOf, holdOf, wrOf, altK, heldOk, Region.binds, -List.reduceReplicate]
    obtain ⟨A, B, hAB, hAl⟩ : ∃ A B, t.idxs = A ++ x :: B ∧ A.length = j := ⟨t.idxs.take j, t.idxs.drop (j + 1), by rw [hx, List.getElem_cons_drop, List.take_append_drop], by simp; omega⟩
    have hd := delete_idx A B x j B.length t.idxs.length hAl rfl (by rw [hAB]; simp; omega) (by omega)
    rw [← hAB] at hd
    simp only [rowX] at hd
    rw [ew]
    have hst3 : ∀ (c : Nat), List.take (i * 4 + 3) C ++ AV.sl 2 5 0 c (t.idxs.length * 5) :: List.drop (i * 4 + 3 + 1) C = pv.map AV.c ++ ([.c (.int .i64 t.id), .c (.string t.name), .sl 1 10 0 t.cols.length (t.cols.length * 10), .sl 2 5 0 c (t.idxs.length * 5)] ++ qv.map AV.c) := fun c => by
     rw [set_split _ _ _ (by omega), hC, List.set_append_right _ _ (by simp [hp]), List.length_map, hp, Nat.add_sub_cancel_left]; rfl
    refine call_x [2] hd rfl rfl ⟨rfl, rfl⟩ hho (by simp) (by decide) (by simp) (by simp) ?_
    have hAB2 : t.idxs.eraseIdx j = A ++ B := by rw [hAB, ← hAl, erase_mid]
    have hlen2 : (A ++ B).length = j + B.length := by simp [hAl]
    have hlt' : j + B.length < t.idxs.length := by rw [hAB]; simp; omega
    simp (maxSteps := 1000000) [hho, noHo, slotsOf, hCl, hi4, hi3, hst3, -List.reduceReplicate]
    rw [hAB2]
    exact foc_drop (t := t) (t' := { t with idxs := A ++ B }) (fun k hk => decide_eq_false (by omega)) (by simp [mvO, focJ, livJ, rowLJ, rowXJ, jC, jX, hAl, hlt']) (Ret.same ⟨rfl, rfl⟩)
   ·simp (maxSteps := 1000000) [hho, noHo, hCl, k3, hi4, hi3, kst, hj, hj5, hz, roOf, holdOf, wrOf, altK, heldOk, Region.binds, -List.reduceReplicate]
    refine draw_k hho (.take 0 (.take 1 (.take 2 (.take 3 (.take 4 (.take 5 (.take 6 (.take 7 (.take 8 (.alt 9 (.done) (.nil))))))))))) [0, 3] [] (by decide +kernel) (by simp) ?_
    have hj51 : j * 5 + 4 + 1 ≤ t.idxs.length * 5 := by omega
    simp (maxSteps := 1000000) [hho, noHo, hCl, k3, hi4, hi3, kst, hj, hj5, hj51, roOf, holdOf, wrOf, altK, heldOk, Region.binds, -List.reduceReplicate]
    intro E2
    have e9 : focR pv qv t = focR pv qv { t with idxs := t.idxs.set j { x with st := m.dst } } := by simp [focR, livA]
    rw [set_split _ _ _ (by simp; omega), idxA_setst _ _ hj, ← hx, ← hfr, e9]
    exact foc_drop (t := t) (t' := { t with idxs := t.idxs.set j { x with st := m.dst } }) (fun k hk => decide_eq_false (by omega)) (mvO_same pv qv t { t with idxs := t.idxs.set j { x with st := m.dst } } rfl (by simp)).symm (Ret.same ⟨rfl, rfl⟩)
 ·rw [e1]
  have hfind : t.idxs.findIdx? p = none := List.findIdx?_eq_none_iff.2 fun x hx => by obtain ⟨k, hk, rfl⟩ := List.mem_iff_getElem.1 hx; simpa using e2 k hk
  have hmv : mvX t m = (t, 100) := by unfold mvX; rw [← hpp, hfind]
  rw [hmv]
  simp (maxSteps := 1000000) [hho, noHo, hCl, k3, hi4, hi3, -List.reduceReplicate]
  rw [hC]
  exact foc_drop (t := t) (t' := t) (fun k hk => decide_eq_false (by omega)) (mvO_same pv qv t t rfl rfl).symm (Ret.same ⟨rfl, rfl⟩)
set_option maxHeartbeats 8000000 in
theorem mvcol_w (pv qv : List Value) (t : TabS) (m : MovS) (i n : Nat) (hp : pv.length = i * 4) (hn : i * 4 + (4 + qv.length) = n) (hb : MvB t m) : ACalls Tryz.prog 47 [.ptr 0 (i * 4) n, .agg (movA m)] [focR pv qv t, rowL t.cols, rowX t.idxs] (fun k => decide (k < 3)) (fun r h' => r = .c (.int .i64 (mvC t m).2) ∧ h' = mvO pv qv t (mvC t m).1) := by
 refine acalls mixed Tryz.func47 rfl Tryz.ntmps47 rfl fun E hE hst hho => ?_
 have hlc := hb.lc
 have hlx := hb.lx
 have hlen : (pv.map AV.c ++ (livA 1 t ++ qv.map AV.c)).length = n := by simp [hp]; omega
 obtain ⟨C, hC⟩ : ∃ C, C = pv.map AV.c ++ (livA 1 t ++ qv.map AV.c) := ⟨_, rfl⟩
 have g2 : C[i * 4 + 2]? = some (.sl 1 10 0 t.cols.length (t.cols.length * 10)) := by rw [hC, ← hp, foc_get pv qv t 2 (by omega)]; rfl
 have hcell : List.take 4 (List.drop (i * 4) C) = livA 1 t := by rw [hC, ← hp, foc_at]
 have hCl : C.length = n := by rw [hC]; exact hlen
 have hid := scColumnId_w t m.id (by omega)
 have hheld := held_w t m.id (by omega) fun x hx => by have := hb.xc x hx; omega
 have hfr : focR pv qv t = .o (.row 28 4) C := by rw [hC]; rfl
 rw [hfr]
 have hi4 : i * 4 + 4 ≤ n := by omega
 have hi2 : i * 4 + 2 < n := by omega
 have hi2' : i * 4 + 2 + 1 ≤ n := by omega
 have k2 := fun h => gq g2 h
 have hcv : ∀ (h : List AObj), h[1]? = some (rowL t.cols) → h[2]? = some (rowX t.idxs) → ∀ (j : Nat) (u u' : AV), [AV.agg (livA 1 t), .c (.int .i64 m.id)][j]? = some u → [AV.agg (tabA t), .c (.int .i64 m.id)][j]? = some u' → DeepV h (fun _ => True) u u' := fun h e1 e2 j u u' q1 q2 => by
  match j, q1, q2 with
  | 0, q1, q2 => simp at q1 q2; subst q1 q2; exact deep_tabV ⟨trivial, _, e1⟩ ⟨trivial, _, e2⟩ (by unfold maxLen; omega) (by unfold maxLen; omega)
  | 1, q1, q2 => simp at q1 q2; subst q1 q2; exact .d _ _ (.d _ rfl)
  | j + 2, q1, q2 => simp at q1
 simp (maxSteps := 1000000) [hho, noHo, movA, rowL, rowX, hCl, k2, hi4, hi2, hi2', -List.reduceReplicate]
 refine draw_k hho (.take 0 (.take 1 (.take 2 (.take 3 (.take 4 (.alt 5 (.take 6 (.done)) (.nil))))))) [0, 3] [] (by decide +kernel) (by simp) ?_
 simp (maxSteps := 1000000) [hho, noHo, hCl, k2, hi4, hi2, hi2', hcell, roOf, holdOf, wrOf, altK, heldOk, Region.binds, -List.reduceReplicate]
 intro E1
 refine call_data hid rfl (hcv _ rfl rfl) (fun r h' ⟨q1, q2⟩ => ?_)
 subst q1 q2
 refine ⟨rfl, ?_⟩
 obtain ⟨p, hpp⟩ : ∃ p : ColS → Bool, p = fun x : ColS => decide (x.id = m.id) := ⟨_, rfl⟩
 rw [← hpp]
 rcases ixFC_cases p t.cols with ⟨j, hj, e1, e2, e3⟩ | ⟨e1, e2⟩
 ·rw [e1]
  have hfind : t.cols.findIdx? p = some j := by
   rw [List.findIdx?_eq_some_iff_getElem]; exact ⟨hj, e3, fun k hk => by simp [e2 k (by omega) hk]⟩
  obtain ⟨x, hx⟩ : ∃ x, x = t.cols[j] := ⟨_, rfl⟩
  have hmv : mvC t m = if !nearB x.st m.dst || heldB t m.id then (t, 122) else if m.dst = 0 then ({ t with cols := t.cols.eraseIdx j }, 0) else ({ t with cols := t.cols.set j { x with st := m.dst } }, 0) := by
   unfold mvC
   rw [← hpp, hfind]
   simp only [List.getElem?_eq_getElem hj, ← hx]
  have hxs := hb.cs x (by rw [hx]; exact List.getElem_mem hj)
  have hnear := near_w x.st m.dst hxs hb.d
  have hs0 := colA_st t.cols j hj
  rw [← hx] at hs0
  have kst := fun h => gq hs0 h
  have hj10 : j * 10 + 9 < t.cols.length * 10 := by omega
  have hj0 : ¬ (j : Int) < 0 := by omega
  simp (maxSteps := 1000000) [hho, noHo, hCl, k2, hi4, hi2, hi2', hj0, roOf, holdOf, wrOf, altK, heldOk, Region.binds, -List.reduceReplicate]
  refine draw_k hho (.take 0 (.take 1 (.take 2 (.take 3 (.take 4 (.take 5 (.take 6 (.take 7 (.take 8 (.take 9 (.alt 10 (.take 11 (.take 12 (.take 13 (.take 14 (.take 15 (.take 16 (.take 17 (.alt 18 (.take 19 (.take 20 (.done))) (.nil))))))))) (.nil)))))))))))) [0, 1, 3] [] (by decide +kernel) (by simp) ?_
  simp (maxSteps := 1000000) [hho, noHo, hCl, k2, hi4, hi2, hi2', kst, hj, hj10, roOf, holdOf, wrOf, altK, heldOk, Region.binds, -List.reduceReplicate]
  refine ⟨by omega, ?_⟩
  intro E2
  refine call_h [] (hnear) rfl rfl ⟨rfl, rfl⟩ (by simp) (by simp) (by decide) (by simp) (by simp) ?_
  cases hnb : nearB x.st m.dst with
  | false =>
   rw [hmv, hnb]
   simp (maxSteps := 1000000) [hho, noHo, hCl, k2, hi4, hi2, hi2', hcell, undef, onGP_none, condG_false, roOf, holdOf, wrOf, altK, heldOk, Region.binds, -List.reduceReplicate]
   intro E3
   rw [hC]
   exact foc_drop (t := t) (t' := t) (fun k hk => decide_eq_false (by omega)) (mvO_same pv qv t t rfl rfl).symm (Ret.same ⟨rfl, rfl⟩)
  | true =>
   rw [hmv, hnb]
   simp (maxSteps := 1000000) [hho, noHo, hCl, k2, hi4, hi2, hi2', hcell, roOf, holdOf, wrOf, altK, heldOk, Region.binds, -List.reduceReplicate]
   intro E3
   refine call_data hheld rfl (hcv _ rfl rfl) (fun r h' ⟨q1, q2⟩ => ?_)
   subst q1 q2
   refine ⟨rfl, ?_⟩
   cases hhd : heldB t m.id with
   | true =>
    simp (maxSteps := 1000000) [hho, noHo, hCl, k2, hi4, hi2, hi2', hcell, roOf, holdOf, wrOf, altK, heldOk, Region.binds, -List.reduceReplicate]
    rw [hC]
    exact foc_drop (t := t) (t' := t) (fun k hk => decide_eq_false (by omega)) (mvO_same pv qv t t rfl rfl).symm (Ret.same ⟨rfl, rfl⟩)
   | false =>
   have ew : IntKind.i64.wrap ((j : Int) + 1) = ((j + 1 : Nat) : Int) := by rw [IntWalk.i64_in _ (by omega)]; rfl
   by_cases hz : m.dst = 0
   ·simp (maxSteps := 1000000) [hho, noHo, hCl, k2, hi4, hi2, hi2', hj, hz, roOf, holdOf, wrOf, altK, heldOk, Region.binds, -List.reduceReplicate]
    obtain ⟨A, B, hAB, hAl⟩ : ∃ A B, t.cols = A ++ x :: B ∧ A.length = j := ⟨t.cols.take j, t.cols.drop (j + 1), by rw [hx, List.getElem_cons_drop, List.take_append_drop], by simp; omega⟩
    have hd := delete_col A B x j B.length t.cols.length hAl rfl (by rw [hAB]; simp; omega) (by omega)
    rw [← hAB] at hd
    simp only [rowL] at hd
    rw [ew]
    have hst3 : ∀ (c : Nat), List.take (i * 4 + 2) C ++ AV.sl 1 10 0 c (t.cols.length * 10) :: List.drop (i * 4 + 2 + 1) C = pv.map AV.c ++ ([.c (.int .i64 t.id), .c (.string t.name), .sl 1 10 0 c (t.cols.length * 10), .sl 2 5 0 t.idxs.length (t.idxs.length * 5)] ++ qv.map AV.c) := fun c => by
     rw [set_split _ _ _ (by omega), hC, List.set_append_right _ _ (by simp [hp]), List.length_map, hp, Nat.add_sub_cancel_left]; rfl
    refine call_x [1] hd rfl rfl ⟨rfl, rfl⟩ hho (by simp) (by decide) (by simp) (by simp) ?_
    have hAB2 : t.cols.eraseIdx j = A ++ B := by rw [hAB, ← hAl, erase_mid]
    have hlen2 : (A ++ B).length = j + B.length := by simp [hAl]
    have hlt' : j + B.length < t.cols.length := by rw [hAB]; simp; omega
    simp (maxSteps := 1000000) [hho, noHo, slotsOf, hCl, hi4, hi2, hi2', hst3, -List.reduceReplicate]
    rw [hAB2]
    exact foc_drop (t := t) (t' := { t with cols := A ++ B }) (fun k hk => decide_eq_false (by omega)) (by simp [mvO, focJ, livJ, rowLJ, rowXJ, jC, jX, hAl, hlt']) (Ret.same ⟨rfl, rfl⟩)
   ·simp (maxSteps := 1000000) [hho, noHo, hCl, k2, hi4, hi2, hi2', hj, hz, roOf, holdOf, wrOf, altK, heldOk, Region.binds, -List.reduceReplicate]
    refine draw_k hho (.take 0 (.take 1 (.take 2 (.take 3 (.take 4 (.take 5 (.take 6 (.take 7 (.take 8 (.alt 9 (.done) (.nil))))))))))) [0, 3] [] (by decide +kernel) (by simp) ?_
    have hj51 : j * 10 + 9 + 1 ≤ t.cols.length * 10 := by omega
    simp (maxSteps := 1000000) [hho, noHo, hCl, k2, hi4, hi2, hi2', kst, hj, hj51, roOf, holdOf, wrOf, altK, heldOk, Region.binds, -List.reduceReplicate]
    intro E4
    have e9 : focR pv qv t = focR pv qv { t with cols := t.cols.set j { x with st := m.dst } } := by simp [focR, livA]
    rw [set_split _ _ _ (by simp; omega), colA_setst _ _ hj, ← hx, ← hfr, e9]
    exact foc_drop (t := t) (t' := { t with cols := t.cols.set j { x with st := m.dst } }) (fun k hk => decide_eq_false (by omega)) (mvO_same pv qv t { t with cols := t.cols.set j { x with st := m.dst } } (by simp) rfl).symm (Ret.same ⟨rfl, rfl⟩)
 ·rw [e1]
  have hfind : t.cols.findIdx? p = none := List.findIdx?_eq_none_iff.2 fun x hx => by obtain ⟨k, hk, rfl⟩ := List.mem_iff_getElem.1 hx; simpa using e2 k hk
  have hmv : mvC t m = (t, 100) := by unfold mvC; rw [← hpp, hfind]
  rw [hmv]
  simp (maxSteps := 1000000) [hho, noHo, hCl, k2, hi4, hi2, hi2', roOf, holdOf, wrOf, altK, heldOk, Region.binds, -List.reduceReplicate]
  rw [hC]
  exact foc_drop (t := t) (t' := t) (fun k hk => decide_eq_false (by omega)) (mvO_same pv qv t t rfl rfl).symm (Ret.same ⟨rfl, rfl⟩)

@[simp] theorem schA_reb (f : Nat → Nat) (s : SchS) : AV.rebL f (schA s) = schA s := rebL_isD' (by simp [schA, isD])
@[simp] theorem schA_cell (s : SchS) : (∀ a ∈ schA s, isCell a = true) ↔ True := iff_true_intro <| by simp [schA, isCell_c, isCell_fs, Value.oneCell']
@[simp] theorem schA_all (s : SchS) : (∀ a ∈ schA s, isD a = true) ↔ True := iff_true_intro <| by simp [schA, isD]
theorem Ret.conv0 {st : Nat → Bool} {h : List AObj} {r r2 : AV} {Post : AV → List AObj → Prop} (himp : ∀ G F w v, HRel G F h w → RepV G (lens h) F w r v → RepV G (lens h) F w r2 v) (hr : Ret st Post h r2) : Ret st Post h r :=
 Ret.wkS (fun E _ _ _ => wk_slot (E := E) (s := ⟨[r], h⟩) 0 rfl himp) hr
theorem tup_fst {G : Gh} {ln : List Nat} {F : Nat → Prop} {w : World} {a a' b : AV} {v : Value} (h : RepV G ln F w (.tup [a, b]) v) (hi : ∀ x, RepV G ln F w a x → RepV G ln F w a' x) : RepV G ln F w (.tup [a', b]) v := by
 obtain ⟨cs, rfl, h1, h2⟩ := tup_inv h
 refine .tup _ cs (by simpa using h1) fun j u x hu hx => ?_
 match j, hu with
 | 0, hu => simp at hu; subst hu; exact hi x (h2 0 a x rfl hx)
 | 1, hu => simp at hu; subst hu; exact h2 1 b x rfl hx
 | j + 2, hu => simp at hu
theorem zero_sch {G : Gh} {ln : List Nat} {F : Nat → Prop} {w : World} {v : Value} (h : RepV G ln F w (.agg [.c (.int .i64 0), .c (.int .i64 0), .c (.slice none 0 0)]) v) : RepV G ln F w (.agg (schA zeroS)) v := nil_agg (.same _ (.same _ (.slice 4 .nil))) h
theorem ret_zero {h : List AObj} {e : Int} {Post : AV → List AObj → Prop} (hp : Post (.tup [.agg (schA zeroS), .c (.int .i64 e)]) []) : Ret (fun _ => false) Post h (.tup [.agg [.c (.int .i64 0), .c (.int .i64 0), .c (.slice none 0 0)], .c (.int .i64 e)]) :=
 Ret.conv0 (fun G F w v _ hv => tup_fst hv fun x hx => zero_sch hx) (Ret.sel [] (fun _ => false) (ho := by rfl) (ha := by rfl) (by simp) (by simp [schA, zeroS]) (by decide) (by simp) (by simp) hp)
theorem ret_sch {h : List AObj} {s : SchS} {e : Int} {Post : AV → List AObj → Prop} (hp : Post (.tup [.agg (schA s), .c (.int .i64 e)]) []) : Ret (fun _ => false) Post h (.tup [.agg (schA s), .c (.int .i64 e)]) :=
 Ret.sel [] (fun _ => false) (ho := by rfl) (ha := by rfl) (by simp) (by simp [schA]) (by decide) (by simp) (by simp) hp
theorem call_sch {P : Program} {E : Env} {s : AS} {g : FuncId} {args cargs : List AV} {K : AV → AS → Prop} {st : Nat → Bool} {v : AV} {l : List TabS} (n : Nat) (hn : s.h.length = n) {pa : Prop} (hc : ACalls P g cargs [] st (fun r h' => r = v ∧ h' = heapS 0 l))
  (ha : AV.convL [] (fun _ => false) s.h args = some (pa, cargs)) (hE : E.ho = noHo) (hp : pa) (hK : K (v.reb (backIx [] n)) ⟨s.t, s.h ++ heapS n l⟩) : CallG P E g args s K := by
 subst hn
 refine call_x [] hc ha rfl ⟨rfl, rfl⟩ hE (by simp) (by simp) ⟨hp, trivial⟩ (by simp) ?_
 have e : (heapS 0 l).map (rebO (backIx [] s.h.length)) = heapS s.h.length l := by
  have e1 : backIx [] s.h.length = (· + s.h.length) := funext fun i => by simp [backIx, Nat.add_comm]
  rw [e1, heapS_shift, Nat.zero_add]
 have e2 : afterH [] (fun _ => false) s.h (heapS 0 l) = s.h ++ heapS s.h.length l := by
  simp only [afterH, putBack, frz_no, List.drop_zero, List.length_nil]
  rw [e]
 rw [e2]
 exact hK
theorem checked_w (s : SchS) (e : Int) (hl : s.tabs.length ≤ 1000000) (hb : ∀ t ∈ s.tabs, TabBig t) : ACalls Tryz.prog 36 [.agg (schA s), .c (.int .i64 e)] [] (fun _ => false) (fun r h' => r = .tup [.agg (schA (chkS s e).1), .c (.int .i64 (chkS s e).2)] ∧ h' = []) := by
 refine acalls mixed Tryz.func36 rfl Tryz.ntmps36 rfl fun E hE hst hho => ?_
 have hr := right_sc s hl hb
 cases hs : schOk s with
 | true =>
  rw [hs] at hr
  have e1 : chkS s e = (s, 0) := by unfold chkS; rw [if_pos hs]
  rw [e1]
  simp (maxSteps := 1000000) [hho, noHo, schA, -List.reduceReplicate]
  refine call_0 (hr) rfl rfl hho (by simp) ?_
  simp (maxSteps := 1000000) [hho, noHo, schA, -List.reduceReplicate]
  exact ret_sch ⟨rfl, rfl⟩
 | false =>
  rw [hs] at hr
  have e1 : chkS s e = (zeroS, e) := by unfold chkS; rw [if_neg (by rw [hs]; decide)]
  rw [e1]
  simp (maxSteps := 1000000) [hho, noHo, schA, -List.reduceReplicate]
  refine call_0 (hr) rfl rfl hho (by simp) ?_
  simp (maxSteps := 1000000) [hho, noHo, schA, -List.reduceReplicate]
  exact ret_zero ⟨rfl, rfl⟩
def midF (m n p k : Nat) : Nat := if k < n then k + m else k + m + p
theorem wk_mid {E : Env} (m n p : Nat) {D h L : List AObj} {T T' : List AV} (hE : E.ho = noHo) (hst : ∀ k, k < E.ln0.length → E.st k = true → False) (hD : D.length = m) (hh : h.length = n) (hL : L.length = p) (ht : T = AV.rebL (midF m n p) T') : Wk E ⟨T, D ++ (h.map (rebO (midF m n p)) ++ L)⟩ ⟨T', h⟩ := by
 have hobj : ∀ (k : Nat) (x : AObj), h[k]? = some x → (D ++ (h.map (rebO (midF m n p)) ++ L))[midF m n p k]? = some (rebO (midF m n p) x) := by
  intro k x hk
  have hkl : k < n := by have := (List.getElem?_eq_some_iff.1 hk).1; omega
  rw [midF, if_pos hkl, List.getElem?_append_right (by omega), show k + m - D.length = k by omega, List.getElem?_append_left (by simp; omega), List.getElem?_map, hk]; rfl
 refine wk_pick (midF m n p) hE (fun k => ?_) (fun j k hj hk h => ?_) hobj ht (fun k hk hs => (hst k hk hs).elim)
 ·simp only [lens, List.getElem?_map]
  cases hk : h[k]? with
  | some x => rw [hobj k x hk, Option.map_some, Option.map_some, rebO_ln]
  | none =>
   have hkl := List.getElem?_eq_none_iff.1 hk
   rw [midF, if_neg (by omega), List.getElem?_eq_none_iff.2 (by simp; omega)]
 ·simp only at hj hk
  unfold midF at h; split at h <;> split at h <;> omega
theorem heapS_mid (m p : Nat) (l : List TabS) : (heapS 0 l).map (rebO (midF m (1 + 2 * l.length) p)) = heapS m l := by
 have h1 : (inner l).map (rebO (midF m (1 + 2 * l.length) p)) = inner l := by
  conv => rhs; rw [← List.map_id (inner l)]
  exact List.map_congr_left fun x hx => inner_reb _ l x hx
 have h2 : AV.rebL (midF m (1 + 2 * l.length) p) (livsA (0 + 1) l) = livsA (m + 1) l := rebL_livs _ l _ _ fun i hi => by
  simp only [midF]; rw [if_pos (by omega)]; omega
 simp only [heapS, List.map_cons, rebO_eq, h1, h2]
theorem next_w (s : SchS) (hv : s.ver ≤ 2 ^ 62 ∧ 0 ≤ s.ver) (hl : s.tabs.length ≤ 1000000) (hb : ∀ t ∈ s.tabs, t.cols.length ≤ 1000000 ∧ t.idxs.length ≤ 1000000 ∧ ∀ x ∈ t.idxs, x.cols.length ≤ 1000000) :
  ACalls Tryz.prog 35 [.agg (schA s)] [] (fun _ => false) (fun r h' => r = .agg [.c (.int .i64 (s.ver + 1)), .c (.int .i64 s.next), .sl 0 4 0 s.tabs.length (s.tabs.length * 4)] ∧ h' = heapS 0 s.tabs) := by
 refine acalls mixed Tryz.func35 rfl Tryz.ntmps35 rfl fun E hE hst hho => ?_
 have hc := copy_w s hl hb
 simp (maxSteps := 1000000) [hho, noHo, schA, -List.reduceReplicate]
 obtain ⟨H, hH⟩ : ∃ H, H = heapS 2 s.tabs := ⟨_, rfl⟩
 have hHl : H.length = 1 + 2 * s.tabs.length := by rw [hH]; simp
 have e1 : IntKind.i64.wrap (s.ver + 1) = s.ver + 1 := IntWalk.i64_in _ (by omega)
 refine call_sch 2 rfl hc rfl hho (by simp [schA]) ?_
 rw [← hH]
 simp (maxSteps := 1000000) [hho, noHo, backIx, hHl, e1, -List.reduceReplicate]
 refine Ret.wkS (r2 := .agg [.c (.int .i64 (s.ver + 1)), .c (.int .i64 s.next), .sl 0 4 0 s.tabs.length (s.tabs.length * 4)]) (h2 := heapS 0 s.tabs) (fun E h1 h2 h3 => ?_) (Ret.same ⟨rfl, rfl⟩)
 rw [hH, ← heapS_mid 2 1]
 refine wk_mid (E := E) 2 (1 + 2 * s.tabs.length) 1 (D := [_, _]) (h := heapS 0 s.tabs) (L := [_]) h2 (fun k hk hs => by rw [h3] at hs; cases hs) rfl (heapS_length 0 _) rfl ?_
 simp [AV.rebL, AV.reb, midF]
end Go.Proofs.YthgoocdldnkogaaGreatDoor
