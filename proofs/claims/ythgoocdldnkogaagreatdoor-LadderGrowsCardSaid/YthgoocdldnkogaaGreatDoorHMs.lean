import Derived.Test.YthgoocdldnkogaaGreatDoorHMp
import Derived.Test.YthgoocdldnkogaaGreatDoorHMj
namespace Go.Proofs.YthgoocdldnkogaaGreatDoor
set_option linter.unusedVariables false
set_option linter.unusedSimpArgs false
open Go.RowKit
attribute [local simp] isCut_nil isCut_region isCut_seq isCut_block isCut_loop isCut_cond isCut_skip isCut_exit isCut_ret isCut_range swapK putK altK condK_bool pickP_bool stepP stepO onPure_some onPure_none onImpl_some onImpl_none stepC onGP_some onGP_none onGV_some condG mkG onIt_it nextP_ptr takeP_eq takeV_some takeV_none takeU_some takeU_none takeQ takeW_some takeN_none takeN_some takeG_some takeO_some altO_some pureV binV2 eqF eqOp ovlV ovl2 rowAt capV binV intBin strBin isSh shV fldV ixV sliceV slice3V loadAV nilV lenV callV unV convV viewS cellsH loadV fldCut AV.ung AV.ungs AV.gc AV.cells AS.ev AS.put anyS gcsV gcO lens lnO gV guardV retK RetP_eq resV oneV anyRo loIx hiIx implO callP_clo evL gcsL clearV storeAV AS.push AS.setO appV appZ shortS copyV buildV partsV fillV srcV fzO okV isCell_c isCell_ptr isCell_sl isCell_fs isCell_fp isCell_clo rowZ_one rowZ_zero rowZ_2 rowZ_3 rowZ_4 rowZ_5 rowZ_6 rowZ_7 rowZ_8 rowZ_9 rowZ_10 rowZ_11 rowZ_12 noHo Value.oneCell' max2V min2V lookV updV updK updW cvals mkAt basV lenM msAt afterH putBack frzFrom frzO rebO backIx nilEq_sl nilEq_fs nilEq_ifn nilEq_ifh ifOp_eql ifOp_neq isLit nilOp_eql nilOp_neq AV.reb AV.rebL
attribute [local simp ↓] runK_skip runK_region runK_draw runK_seq runK_cut runK_cond runK_block runK_loop runK_exit runK_label runK_goto runK_ret runK_range contK_nil contK_seq contK_seq_ret contK_seq_exit contK_seq_goto contK_block contK_block_ret contK_block_goto contK_block_exit runO_nil runO_cons roundK_exit roundK_ret roundK_goto exitK_ret cutK_ret cutK_exit runE_done runE_nil runE_take runE_alt condG_true condG_false
set_option maxRecDepth 10000
theorem toX_ix (l : List IdxS) (id : Int) : (ixF (fun y : IdxS => decide (y.id = id)) l = -1 ∧ toX l id = 0) ∨ ∃ (i : Nat) (hi : i < l.length), ixF (fun y : IdxS => decide (y.id = id)) l = i ∧ toX l id = l[i].st := by
 rcases ixFC_cases (fun y : IdxS => decide (y.id = id)) l with ⟨i, hi, e1, e2, e3⟩ | ⟨e1, e2⟩
 ·refine .inr ⟨i, hi, e1, ?_⟩
  unfold toX
  have : l.find? (fun y : IdxS => decide (y.id = id)) = some l[i] := List.find?_eq_some_iff_getElem.2 ⟨e3, i, hi, rfl, fun k hk => by have := e2 k (by omega) hk; simpa using this⟩
  rw [this]; rfl
 ·refine .inl ⟨e1, ?_⟩
  unfold toX
  have : l.find? (fun y : IdxS => decide (y.id = id)) = none := List.find?_eq_none.2 fun x hx => by
   obtain ⟨k, hk, rfl⟩ := List.mem_iff_getElem.1 hx
   have := e2 k hk; simpa using this
  rw [this]; rfl
theorem toC_ix (l : List ColS) (id : Int) : (ixF (fun y : ColS => decide (y.id = id)) l = -1 ∧ toC l id = 0) ∨ ∃ (i : Nat) (hi : i < l.length), ixF (fun y : ColS => decide (y.id = id)) l = i ∧ toC l id = l[i].st := by
 rcases ixFC_cases (fun y : ColS => decide (y.id = id)) l with ⟨i, hi, e1, e2, e3⟩ | ⟨e1, e2⟩
 ·refine .inr ⟨i, hi, e1, ?_⟩
  unfold toC
  have : l.find? (fun y : ColS => decide (y.id = id)) = some l[i] := List.find?_eq_some_iff_getElem.2 ⟨e3, i, hi, rfl, fun k hk => by have := e2 k (by omega) hk; simpa using this⟩
  rw [this]; rfl
 ·refine .inl ⟨e1, ?_⟩
  unfold toC
  have : l.find? (fun y : ColS => decide (y.id = id)) = none := List.find?_eq_none.2 fun x hx => by
   obtain ⟨k, hk, rfl⟩ := List.mem_iff_getElem.1 hx
   have := e2 k hk; simpa using this
  rw [this]; rfl
theorem difX_snoc (tid : Int) (l b : List IdxS) (x : IdxS) : difX tid (l ++ [x]) b = difX tid l b ++ (if toX b x.id = x.st then [] else [⟨tid, true, x.id, toX b x.id⟩]) := by
 unfold difX
 rw [List.filterMap_append]
 congr 1
 by_cases h : toX b x.id = x.st <;> simp [h]
theorem difC_snoc (tid : Int) (l b : List ColS) (x : ColS) : difC tid (l ++ [x]) b = difC tid l b ++ (if toC b x.id = x.st then [] else [⟨tid, false, x.id, toC b x.id⟩]) := by
 unfold difC
 rw [List.filterMap_append]
 congr 1
 by_cases h : toC b x.id = x.st <;> simp [h]
theorem difX_len (tid : Int) (l b : List IdxS) : (difX tid l b).length ≤ l.length := List.length_filterMap_le ..
theorem difC_len (tid : Int) (l b : List ColS) : (difC tid l b).length ≤ l.length := List.length_filterMap_le ..
theorem ldix_1_w (y x : IdxS) : ACalls Tryz.prog 143 [.agg (idxA y), .ptr 0 0 5] [.o .box (idxA x)] (fun k => decide (k < 1)) (fun r h' => r = .c (.bool (decide (y.id = x.id))) ∧ h' = [.o .box (idxA x)]) := by
 refine acalls mixed Tryz.func143 rfl Tryz.ntmps143 rfl fun E hE hst hho => ?_
 simp (maxSteps := 1000000) [hho, noHo, idxA, -List.reduceReplicate]
 refine Ret.sel [0] (fun _ => false) (ho := by rfl) (ha := by rfl) ?_ ?_ (by decide) (by simp) (fun i _ h => ?_) ⟨?_, rfl⟩
 ·simp
 ·simp
 ·have e : i = 0 := of_decide_eq_true h
  subst e; rfl
 ·rfl
def dxSt (a b : TabS) (j : Nat) : AS := ⟨slotsOf 44 [(2, .ptr 0 0 4), (3, .ptr 1 0 4), (5, .sl 2 4 0 (difX a.id (a.idxs.take j) b.idxs).length ((difX a.id (a.idxs.take j) b.idxs).length * 4)), (11, .fs 5 a.idxs.length (idxsA a.idxs)), (12, .c (.int .i64 (a.idxs.length : Nat))), (13, .c (.int .i64 (j : Nat)))],
 [.o .box (tabA a), .o .box (tabA b), .o (.row 55 4) (movsA (difX a.id (a.idxs.take j) b.idxs))]⟩
set_option maxHeartbeats 4000000 in
theorem indexes_w (a b : TabS) (ha : a.idxs.length ≤ 1000) (hb : b.idxs.length ≤ 1000) : ACalls Tryz.prog 87 [.agg (tabA a), .agg (tabA b)] [] (fun _ => false) (fun r h' => r = .fs 4 (difX a.id a.idxs b.idxs).length (movsA (difX a.id a.idxs b.idxs)) ∧ h' = []) := by
 refine acalls mixed Tryz.func87 rfl Tryz.ntmps87 rfl fun E hE hst hho => ?_
 have hta : ∀ t : TabS, tabA t = [.c (.int .i64 t.id), .c (.string t.name), .fs 10 t.cols.length (colsA t.cols), .fs 5 t.idxs.length (idxsA t.idxs)] := fun _ => rfl
 simp (maxSteps := 1000000) [hho, noHo, hta, -List.reduceReplicate]
 refine loop_k mixed (dxSt a b) (fun j => a.idxs.length - j) (fun j => j ≤ a.idxs.length) 0 (Nat.zero_le _) ?_ ?_
 ·refine Wk.trans (wk_virt 5 55 4 rfl) ?_
  exact wk_eq (by simp [hE, lens]) (by simp [dxSt, difX, movsA, hta]) (by simp [livH, livO, AV.livL, AV.liv, wkL, wkV, List.range', dxSt, slotsOf, difX])
 intro j hj
 by_cases hjl : j < a.idxs.length
 ·obtain ⟨x, hx⟩ : ∃ x, x = a.idxs[j] := ⟨_, rfl⟩
  have hat := idxsA_at a.idxs j hjl
  rw [← hx] at hat
  have e0 : j * 5 + 5 ≤ a.idxs.length * 5 := by omega
  have ew : IntKind.i64.wrap ((j : Int) + 1) = (j + 1 : Nat) := by rw [IntWalk.i64_in _ (by omega)]; rfl
  have hic := ifc_idx b.idxs (fun y : IdxS => decide (y.id = x.id)) 143 (by simp) (idxA x) 5 rfl (List.all_eq_true.2 ((idxA_all x).2 trivial)) (by omega) fun y _ => ldix_1_w y x
  have hsn := difX_snoc a.id (a.idxs.take j) b.idxs x
  have htk : a.idxs.take (j + 1) = a.idxs.take j ++ [x] := by rw [hx]; exact take_snoc _ _ hjl
  obtain ⟨D, hD⟩ : ∃ D, D = difX a.id (a.idxs.take j) b.idxs := ⟨_, rfl⟩
  have hDl : D.length ≤ 1000 := by rw [hD]; have := difX_len a.id (a.idxs.take j) b.idxs; simp at this; omega
  have hDl' : D.length ≤ 2199023255551 := by omega
  rw [← hD] at hsn
  have hxa : idxA x = [.c (.int .i64 x.id), .c (.string x.name), .fs 1 x.cols.length (intsA x.cols), .c (.bool x.uniq), .c (.int .i64 x.st)] := rfl
  simp only [dxSt]
  rw [← hD]
  simp (maxSteps := 1000000) [hho, noHo, slotsOf, hjl, hat, e0, hta, hxa, -List.reduceReplicate]
  simp only [hxa] at hic
  refine call_x [3] hic rfl rfl ⟨rfl, rfl⟩ hho (by simp) (by decide) (by simp) (by simp) ?_
  rcases toX_ix b.idxs x.id with ⟨h1, h2⟩ | ⟨i, hi, h1, h2⟩
  ·rw [h1]
   rw [h2] at hsn
   by_cases hne : (0 : Int) = x.st
   ·rw [if_pos hne, List.append_nil] at hsn
    have hne' := hne.symm
    simp (maxSteps := 1000000) [hho, noHo, ew, hne', -List.reduceReplicate]
    refine round_next (j + 1) (by omega) (by omega) ?_
    refine wk_of 3 1 rfl (by rw [hE]; simp) ?_ (by simp [livH, livO, AV.livL, AV.liv, wkL, wkV, List.range', dxSt, hta]) ?_
    ·simp [dxSt, htk, hsn, hta]
    ·simp [livH, livO, AV.livL, AV.liv, wkL, wkV, List.range', dxSt, slotsOf, htk, hsn]
   ·rw [if_neg hne] at hsn
    simp (maxSteps := 1000000) [hho, noHo, ew, hne, -List.reduceReplicate]
    refine ⟨by omega, ?_⟩
    refine round_next (j + 1) (by omega) (by omega) ?_
    refine wk_of 3 2 rfl (by rw [hE]; simp) ?_ (by simp [livH, livO, AV.livL, AV.liv, wkL, wkV, List.range', dxSt, hta]) ?_
    ·simp [dxSt, htk, hsn, hta, movsA_app, movsA_one, movA]
    ·simp [livH, livO, AV.livL, AV.liv, wkL, wkV, List.range', dxSt, slotsOf, htk, hsn, Nat.add_mul]
  ·rw [h1]
   rw [h2] at hsn
   have hs0 := idxA_st b.idxs i hi
   have kst := fun h => gq hs0 h
   have hi5 : i * 5 + 4 < b.idxs.length * 5 := by omega
   have hi6 : i * 5 + 4 + 1 ≤ b.idxs.length * 5 := by omega
   have hi0 : (0 : Int) ≤ i := by omega
   by_cases hne : b.idxs[i].st = x.st
   ·rw [if_pos hne, List.append_nil] at hsn
    have hne' := hne.symm
    simp (maxSteps := 1000000) [hho, noHo, ew, hne', hi, hs0, kst, hi5, hi6, hi0, -List.reduceReplicate]
    refine ⟨by omega, ?_⟩
    refine round_next (j + 1) (by omega) (by omega) ?_
    refine wk_of 3 1 rfl (by rw [hE]; simp) ?_ (by simp [livH, livO, AV.livL, AV.liv, wkL, wkV, List.range', dxSt, hta]) ?_
    ·simp [dxSt, htk, hsn, hta]
    ·simp [livH, livO, AV.livL, AV.liv, wkL, wkV, List.range', dxSt, slotsOf, htk, hsn]
   ·rw [if_neg hne] at hsn
    simp (maxSteps := 1000000) [hho, noHo, ew, hne, hi, hs0, kst, hi5, hi6, hi0, -List.reduceReplicate]
    refine ⟨by omega, ?_⟩
    refine ⟨by omega, ?_⟩
    refine round_next (j + 1) (by omega) (by omega) ?_
    refine wk_of 3 2 rfl (by rw [hE]; simp) ?_ (by simp [livH, livO, AV.livL, AV.liv, wkL, wkV, List.range', dxSt, hta]) ?_
    ·simp [dxSt, htk, hsn, hta, movsA_app, movsA_one, movA]
    ·simp [livH, livO, AV.livL, AV.liv, wkL, wkV, List.range', dxSt, slotsOf, htk, hsn, Nat.add_mul]
 ·obtain rfl : j = a.idxs.length := by omega
  simp only [dxSt]
  rw [List.take_length]
  have hDl : (difX a.id a.idxs b.idxs).length ≤ 1000 := by have := difX_len a.id a.idxs b.idxs; omega
  simp (maxSteps := 1000000) [hho, noHo, slotsOf, -List.reduceReplicate]
  refine Ret.sel [] (fun k => k == 2) (ho := by rfl) (ha := by rfl) (by simp) ?_ (by decide) (by simp) (by simp) ⟨?_, rfl⟩
  ·refine ⟨by simp, by omega, by unfold maxLen; omega, List.all_eq_true.2 fun y hy => ?_⟩
   exact (movsA_all _).2 trivial y (List.mem_of_mem_drop (List.mem_of_mem_take hy))
  ·rw [List.drop_zero, List.take_of_length_le (by simp)]
def dcSt (a b : TabS) (j : Nat) : AS := ⟨slotsOf 44 [(2, .ptr 0 0 4), (3, .ptr 1 0 4), (5, .sl 2 4 0 (difC a.id (a.cols.take j) b.cols).length ((difC a.id (a.cols.take j) b.cols).length * 4)), (11, .fs 10 a.cols.length (colsA a.cols)), (12, .c (.int .i64 (a.cols.length : Nat))), (13, .c (.int .i64 (j : Nat)))],
 [.o .box (tabA a), .o .box (tabA b), .o (.row 55 4) (movsA (difC a.id (a.cols.take j) b.cols))]⟩
set_option maxHeartbeats 4000000 in
theorem columns_w (a b : TabS) (ha : a.cols.length ≤ 1000) (hb : b.cols.length ≤ 1000) : ACalls Tryz.prog 88 [.agg (tabA a), .agg (tabA b)] [] (fun _ => false) (fun r h' => r = .fs 4 (difC a.id a.cols b.cols).length (movsA (difC a.id a.cols b.cols)) ∧ h' = []) := by
 refine acalls mixed Tryz.func88 rfl Tryz.ntmps88 rfl fun E hE hst hho => ?_
 have hta : ∀ t : TabS, tabA t = [.c (.int .i64 t.id), .c (.string t.name), .fs 10 t.cols.length (colsA t.cols), .fs 5 t.idxs.length (idxsA t.idxs)] := fun _ => rfl
 simp (maxSteps := 1000000) [hho, noHo, hta, -List.reduceReplicate]
 refine loop_k mixed (dcSt a b) (fun j => a.cols.length - j) (fun j => j ≤ a.cols.length) 0 (Nat.zero_le _) ?_ ?_
 ·refine Wk.trans (wk_virt 5 55 4 rfl) ?_
  exact wk_eq (by simp [hE, lens]) (by simp [dcSt, difC, movsA, hta]) (by simp [livH, livO, AV.livL, AV.liv, wkL, wkV, List.range', dcSt, slotsOf, difC])
 intro j hj
 by_cases hjl : j < a.cols.length
 ·obtain ⟨x, hx⟩ : ∃ x, x = a.cols[j] := ⟨_, rfl⟩
  have hat := colsA_at a.cols j hjl
  rw [← hx] at hat
  have e0 : j * 10 + 10 ≤ a.cols.length * 10 := by omega
  have ew : IntKind.i64.wrap ((j : Int) + 1) = (j + 1 : Nat) := by rw [IntWalk.i64_in _ (by omega)]; rfl
  have hic := scColumnId_w b x.id (by omega)
  have hsn := difC_snoc a.id (a.cols.take j) b.cols x
  have htk : a.cols.take (j + 1) = a.cols.take j ++ [x] := by rw [hx]; exact take_snoc _ _ hjl
  obtain ⟨D, hD⟩ : ∃ D, D = difC a.id (a.cols.take j) b.cols := ⟨_, rfl⟩
  have hDl : D.length ≤ 1000 := by rw [hD]; have := difC_len a.id (a.cols.take j) b.cols; simp at this; omega
  have hDl' : D.length ≤ 2199023255551 := by omega
  rw [← hD] at hsn
  have hxa : colA x = [.c (.int .i64 x.id), .c (.string x.name), .c (.int .i64 x.ty.k), .c (.int .i64 x.ty.s), .c (.bool x.nn), .c (.int .i64 x.dft.k), .c (.int .i64 x.dft.n), .c (.int .i64 x.dft.s), .c (.string x.dft.t), .c (.int .i64 x.st)] := rfl
  simp only [dcSt]
  rw [← hD]
  simp (maxSteps := 1000000) [hho, noHo, slotsOf, hjl, hat, e0, hta, hxa, -List.reduceReplicate]
  simp only [hta] at hic
  refine call_x [] (hic) rfl rfl ⟨rfl, rfl⟩ hho (by simp) (by decide) (by simp) (by simp) ?_
  rcases toC_ix b.cols x.id with ⟨h1, h2⟩ | ⟨i, hi, h1, h2⟩
  ·rw [h1]
   rw [h2] at hsn
   by_cases hne : (0 : Int) = x.st
   ·rw [if_pos hne, List.append_nil] at hsn
    have hne' := hne.symm
    simp (maxSteps := 1000000) [hho, noHo, ew, hne', -List.reduceReplicate]
    refine round_next (j + 1) (by omega) (by omega) ?_
    refine wk_of 3 1 rfl (by rw [hE]; simp) ?_ (by simp [livH, livO, AV.livL, AV.liv, wkL, wkV, List.range', dcSt, hta]) ?_
    ·simp [dcSt, htk, hsn, hta]
    ·simp [livH, livO, AV.livL, AV.liv, wkL, wkV, List.range', dcSt, slotsOf, htk, hsn]
   ·rw [if_neg hne] at hsn
    simp (maxSteps := 1000000) [hho, noHo, ew, hne, -List.reduceReplicate]
    refine ⟨by omega, ?_⟩
    refine round_next (j + 1) (by omega) (by omega) ?_
    refine wk_of 3 2 rfl (by rw [hE]; simp) ?_ (by simp [livH, livO, AV.livL, AV.liv, wkL, wkV, List.range', dcSt, hta]) ?_
    ·simp [dcSt, htk, hsn, hta, movsA_app, movsA_one, movA]
    ·simp [livH, livO, AV.livL, AV.liv, wkL, wkV, List.range', dcSt, slotsOf, htk, hsn, Nat.add_mul]
  ·rw [h1]
   rw [h2] at hsn
   have hs0 := colA_st b.cols i hi
   have kst := fun h => gq hs0 h
   have hi5 : i * 10 + 9 < b.cols.length * 10 := by omega
   have hi6 : i * 10 + 9 + 1 ≤ b.cols.length * 10 := by omega
   have hi0 : (0 : Int) ≤ i := by omega
   by_cases hne : b.cols[i].st = x.st
   ·rw [if_pos hne, List.append_nil] at hsn
    have hne' := hne.symm
    simp (maxSteps := 1000000) [hho, noHo, ew, hne', hi, hs0, kst, hi5, hi6, hi0, -List.reduceReplicate]
    refine ⟨by omega, ?_⟩
    refine round_next (j + 1) (by omega) (by omega) ?_
    refine wk_of 3 1 rfl (by rw [hE]; simp) ?_ (by simp [livH, livO, AV.livL, AV.liv, wkL, wkV, List.range', dcSt, hta]) ?_
    ·simp [dcSt, htk, hsn, hta]
    ·simp [livH, livO, AV.livL, AV.liv, wkL, wkV, List.range', dcSt, slotsOf, htk, hsn]
   ·rw [if_neg hne] at hsn
    simp (maxSteps := 1000000) [hho, noHo, ew, hne, hi, hs0, kst, hi5, hi6, hi0, -List.reduceReplicate]
    refine ⟨by omega, ?_⟩
    refine ⟨by omega, ?_⟩
    refine round_next (j + 1) (by omega) (by omega) ?_
    refine wk_of 3 2 rfl (by rw [hE]; simp) ?_ (by simp [livH, livO, AV.livL, AV.liv, wkL, wkV, List.range', dcSt, hta]) ?_
    ·simp [dcSt, htk, hsn, hta, movsA_app, movsA_one, movA]
    ·simp [livH, livO, AV.livL, AV.liv, wkL, wkV, List.range', dcSt, slotsOf, htk, hsn, Nat.add_mul]
 ·obtain rfl : j = a.cols.length := by omega
  simp only [dcSt]
  rw [List.take_length]
  have hDl : (difC a.id a.cols b.cols).length ≤ 1000 := by have := difC_len a.id a.cols b.cols; omega
  simp (maxSteps := 1000000) [hho, noHo, slotsOf, -List.reduceReplicate]
  refine Ret.sel [] (fun k => k == 2) (ho := by rfl) (ha := by rfl) (by simp) ?_ (by decide) (by simp) (by simp) ⟨?_, rfl⟩
  ·refine ⟨by simp, by omega, by unfold maxLen; omega, List.all_eq_true.2 fun y hy => ?_⟩
   exact (movsA_all _).2 trivial y (List.mem_of_mem_drop (List.mem_of_mem_take hy))
  ·rw [List.drop_zero, List.take_of_length_le (by simp)]
end Go.Proofs.YthgoocdldnkogaaGreatDoor
namespace Go.Proofs.YthgoocdldnkogaaGreatDoor
set_option linter.unusedVariables false
set_option linter.unusedSimpArgs false
open Go.RowKit
attribute [local simp] isCut_nil isCut_region isCut_seq isCut_block isCut_loop isCut_cond isCut_skip isCut_exit isCut_ret isCut_range swapK putK altK condK_bool pickP_bool stepP stepO onPure_some onPure_none onImpl_some onImpl_none stepC onGP_some onGP_none onGV_some condG mkG onIt_it nextP_ptr takeP_eq takeV_some takeV_none takeU_some takeU_none takeQ takeW_some takeN_none takeN_some takeG_some takeO_some altO_some pureV binV2 eqF eqOp ovlV ovl2 rowAt capV binV intBin strBin isSh shV fldV ixV sliceV slice3V loadAV nilV lenV callV unV convV viewS cellsH loadV fldCut AV.ung AV.ungs AV.gc AV.cells AS.ev AS.put anyS gcsV gcO lens lnO gV guardV retK RetP_eq resV oneV anyRo loIx hiIx implO callP_clo evL gcsL clearV storeAV AS.push AS.setO appV appZ shortS copyV buildV partsV fillV srcV fzO okV isCell_c isCell_ptr isCell_sl isCell_fs isCell_fp isCell_clo rowZ_one rowZ_zero rowZ_2 rowZ_3 rowZ_4 rowZ_5 rowZ_6 rowZ_7 rowZ_8 rowZ_9 rowZ_10 rowZ_11 rowZ_12 noHo Value.oneCell' max2V min2V lookV updV updK updW cvals mkAt basV lenM msAt afterH putBack frzFrom frzO rebO backIx nilEq_sl nilEq_fs nilEq_ifn nilEq_ifh ifOp_eql ifOp_neq isLit nilOp_eql nilOp_neq AV.reb AV.rebL
attribute [local simp ↓] runK_skip runK_region runK_draw runK_seq runK_cut runK_cond runK_block runK_loop runK_exit runK_label runK_goto runK_ret runK_range contK_nil contK_seq contK_seq_ret contK_seq_exit contK_seq_goto contK_block contK_block_ret contK_block_goto contK_block_exit runO_nil runO_cons roundK_exit roundK_ret roundK_goto exitK_ret cutK_ret cutK_exit runE_done runE_nil runE_take runE_alt condG_true condG_false
set_option maxRecDepth 10000
structure SB (s : SchS) : Prop where
 len : s.tabs.length ≤ 1000
 big : ∀ t ∈ s.tabs, TabBig t
 ok : s.Ok
theorem SB.tok {s : SchS} (h : SB s) {t : TabS} (ht : t ∈ s.tabs) : t.Ok := h.ok.2.2 t ht
theorem lookT_ix (l : List TabS) (id : Int) : (ixF (fun y : TabS => decide (y.id = id)) l = -1 ∧ lookT l id = none) ∨ ∃ (i : Nat) (hi : i < l.length), ixF (fun y : TabS => decide (y.id = id)) l = i ∧ lookT l id = some l[i] := by
 unfold lookT
 have key : ∀ (p : TabS → Bool), (ixF p l = -1 ∧ l.find? p = none) ∨ ∃ (i : Nat) (hi : i < l.length), ixF p l = i ∧ l.find? p = some l[i] := fun p => by
  cases h : l.findIdx? p with
  | none => exact .inl ⟨by unfold ixF; rw [h], List.find?_eq_none.2 fun x hx => by have := List.findIdx?_eq_none_iff.1 h x hx; simp [this]⟩
  | some i =>
   obtain ⟨hi, h1, h2⟩ := List.findIdx?_eq_some_iff_getElem.1 h
   exact .inr ⟨i, hi, by unfold ixF; rw [h], List.find?_eq_some_iff_getElem.2 ⟨h1, i, hi, rfl, fun k hk => by have := h2 k hk; simpa using this⟩⟩
 exact key _
theorem toX_i64 {l : List IdxS} (h : ∀ x ∈ l, i64v x.st) (id : Int) : i64v (toX l id) := by
 unfold toX
 cases hf : l.find? (fun y => decide (y.id = id)) with
 | none => show i64v 0; unfold i64v; omega
 | some x => exact h x (List.mem_of_find?_eq_some hf)
theorem toC_i64 {l : List ColS} (h : ∀ x ∈ l, i64v x.st) (id : Int) : i64v (toC l id) := by
 unfold toC
 cases hf : l.find? (fun y => decide (y.id = id)) with
 | none => show i64v 0; unfold i64v; omega
 | some x => exact h x (List.mem_of_find?_eq_some hf)
theorem dif_ok {a b : SchS} (ha : SB a) (hb : SB b) : ∀ m ∈ a.tabs.flatMap (difT b.tabs), MovOk m := by
 intro m hm
 obtain ⟨t, ht, hm⟩ := List.mem_flatMap.1 hm
 have hto := ha.tok ht
 unfold difT at hm
 split at hm
 ·cases hm
 ·rename_i u hu
  have hum : u ∈ b.tabs := List.mem_of_find?_eq_some hu
  have huo := hb.tok hum
  rcases List.mem_append.1 hm with h | h
  ·unfold difX at h
   rw [List.mem_filterMap] at h
   obtain ⟨x, hx, h⟩ := h
   split at h
   ·cases h
   ·injection h with h; subst h
    exact ⟨hto.1, (hto.2.2.2 x hx).1, toX_i64 (fun y hy => (huo.2.2.2 y hy).2.2.2) _⟩
  ·unfold difC at h
   rw [List.mem_filterMap] at h
   obtain ⟨x, hx, h⟩ := h
   split at h
   ·cases h
   ·injection h with h; subst h
    exact ⟨hto.1, (hto.2.2.1 x hx).1, toC_i64 (fun y hy => (huo.2.2.1 y hy).2.2.2.2) _⟩
theorem difT_len {bt : List TabS} (t : TabS) : (difT bt t).length ≤ t.idxs.length + t.cols.length := by
 unfold difT
 split
 ·simp
 ·rename_i u _
  have h1 := difX_len t.id t.idxs u.idxs
  have h2 := difC_len t.id t.cols u.cols
  simp; omega
theorem dif_len {bt : List TabS} : ∀ {ts : List TabS}, (∀ t ∈ ts, t.idxs.length + t.cols.length ≤ 20) → (ts.flatMap (difT bt)).length ≤ ts.length * 20
 | [], _ => by simp
 | t :: ts, h => by
  have h1 := difT_len (bt := bt) t
  have h2 := h t (by simp)
  have ih := dif_len (bt := bt) (ts := ts) fun t ht => h t (by simp [ht])
  rw [List.flatMap_cons, List.length_append, List.length_cons]; omega
def Fit2 (s : SchS) : Prop := s = zeroS ∨ schOk s = true
theorem chk_fit (s : SchS) (e : Int) : Fit2 (chkS s e).1 := by
 unfold chkS
 by_cases h : schOk s = true
 ·rw [if_pos h]; exact .inr h
 ·rw [if_neg h]; exact .inl rfl
theorem step_fit (s : SchS) (l : List MovS) : Fit2 (stepF mvP s l).1 := by
 unfold stepF
 split
 ·exact .inl rfl
 ·split
  ·exact chk_fit _ _
  ·exact .inl rfl
theorem atTab_fit {s : SchS} {id : Int} {f : Nat → TabS → SchS × Int} (hf : ∀ i t, Fit2 (f i t).1) : Fit2 (atTab s id f).1 := by
 unfold atTab
 split
 ·exact .inl rfl
 ·split
  ·exact .inl rfl
  ·split
   ·exact .inl rfl
   ·exact hf _ _
theorem grow_fit (s : SchS) (id : Int) (c : ColS) : Fit2 (growS s id c).1 := atTab_fit fun i t => by
 split
 ·exact .inl rfl
 ·exact chk_fit _ _
theorem growX_fit (s : SchS) (id : Int) (c : IdxS) : Fit2 (growX s id c).1 := atTab_fit fun i t => by
 split
 ·exact .inl rfl
 ·split
  ·exact .inl rfl
  ·exact chk_fit _ _
theorem create_fit (s : SchS) (n : ByteArray) (l : List ColS) : Fit2 (createS s n l).1 := by
 unfold createS
 split
 ·exact .inl rfl
 ·split
  ·exact .inl rfl
  ·split
   ·exact .inl rfl
   ·exact chk_fit _ _
theorem same_fit {a : SchS} (b : SchS) (h : Fit2 a) : ACalls Tryz.prog 25 [.agg (schA a), .agg (schA b)] [] (fun _ => false) (fun r h' => r = .c (.bool (eqB a b)) ∧ h' = []) := by
 rcases h with rfl | h
 ·exact same_sc zeroS b (by simp [zeroS]) fun t ht => by simp [zeroS] at ht
 ·have hs := (schOk_iff a).1 h
  exact same_sc a b (by have := hs.len; omega) fun t ht => by
   have ht := hs.tabs t ht
   refine ⟨by have := ht.lc; omega, by have := ht.lx; omega, fun x hx => ?_⟩
   have := ht.xo x hx
   simp only [idxOk, Bool.and_eq_true, decide_eq_true_eq] at this
   omega
def mdSt (a b : SchS) (j : Nat) : AS := ⟨slotsOf 55 [(2, .ptr 0 0 3), (3, .ptr 1 0 3), (5, .sl 2 4 0 ((a.tabs.take j).flatMap (difT b.tabs)).length (((a.tabs.take j).flatMap (difT b.tabs)).length * 4)), (12, .fs 4 a.tabs.length (tabsA a.tabs)), (13, .c (.int .i64 (a.tabs.length : Nat))), (14, .c (.int .i64 (j : Nat)))],
 [.o .box (schA a), .o .box (schA b), .o (.row 55 4) (movsA ((a.tabs.take j).flatMap (difT b.tabs)))]⟩
set_option maxHeartbeats 8000000 in
theorem moved_w (a b : SchS) (ha : SB a) (hb : SB b) (hv : a.ver ≤ 2 ^ 62) (hs : schOk a = true) (hsb : schOk b = true) : ACalls Tryz.prog 51 [.agg (schA a), .agg (schA b)] [] (fun _ => false) (fun r h' => r = .c (.bool (movedP a b)) ∧ h' = []) := by
 refine acalls mixed Tryz.func51 rfl Tryz.ntmps51 rfl fun E hE hst hho => ?_
 obtain ⟨R, hR⟩ : ∃ R, R = movedP a b := ⟨_, rfl⟩
 rw [← hR]
 have hso := (schOk_iff a).1 hs
 have hsob := (schOk_iff b).1 hsb
 have hsc : ∀ s : SchS, schA s = [.c (.int .i64 s.ver), .c (.int .i64 s.next), .fs 4 s.tabs.length (tabsA s.tabs)] := fun _ => rfl
 have hlen := ha.len
 have hlenb := hb.len
 simp (maxSteps := 1000000) [hho, noHo, hsc, -List.reduceReplicate]
 refine loop_k mixed (mdSt a b) (fun j => a.tabs.length - j) (fun j => j ≤ a.tabs.length ∧ (a.tabs.take j).all (fun t => (lookT b.tabs t.id).isSome) = true) 0 ⟨Nat.zero_le _, rfl⟩ ?_ ?_
 ·refine Wk.trans (wk_virt 5 55 4 rfl) ?_
  exact wk_eq (by simp [hE, lens]) (by simp [mdSt, movsA, hsc]) (by simp [livH, livO, AV.livL, AV.liv, wkL, wkV, List.range', mdSt, slotsOf])
 rintro j ⟨hj, hI⟩
 by_cases hjl : j < a.tabs.length
 ·obtain ⟨t, ht⟩ : ∃ t, t = a.tabs[j] := ⟨_, rfl⟩
  have htm : t ∈ a.tabs := by rw [ht]; exact List.getElem_mem hjl
  have hat := tabsA_at a.tabs j hjl
  rw [← ht] at hat
  have e0 : j * 4 + 4 ≤ a.tabs.length * 4 := by omega
  have ew : IntKind.i64.wrap ((j : Int) + 1) = (j + 1 : Nat) := by rw [IntWalk.i64_in _ (by omega)]; rfl
  have hpl := place_w b t.id (by omega)
  have htk : a.tabs.take (j + 1) = a.tabs.take j ++ [t] := by rw [ht]; exact take_snoc _ _ hjl
  obtain ⟨D, hD⟩ : ∃ D, D = (a.tabs.take j).flatMap (difT b.tabs) := ⟨_, rfl⟩
  have hDl : D.length ≤ 1000 := by
   rw [hD]
   have h1 := dif_len (bt := b.tabs) (ts := a.tabs.take j) fun t ht => by have h := hso.tabs t (List.mem_of_mem_take ht); have h2 := h.lc; have h3 := h.lx; omega
   have h4 := hso.len
   rw [List.length_take] at h1; omega
  have hta : tabA t = [.c (.int .i64 t.id), .c (.string t.name), .fs 10 t.cols.length (colsA t.cols), .fs 5 t.idxs.length (idxsA t.idxs)] := rfl
  simp only [mdSt]
  rw [← hD]
  simp (maxSteps := 1000000) [hho, noHo, slotsOf, hjl, hat, e0, hta, hsc, -List.reduceReplicate]
  simp only [hsc] at hpl
  refine call_x [] (hpl) rfl rfl ⟨rfl, rfl⟩ hho (by simp) (by decide) (by simp) (by simp) ?_
  rcases lookT_ix b.tabs t.id with ⟨h1, h2⟩ | ⟨i, hi, h1, h2⟩
  ·rw [h1]
   have hRf : R = false := by
    rw [hR]; unfold movedP
    have : a.tabs.all (fun t => (lookT b.tabs t.id).isSome) = false := by
     rw [List.all_eq_false]; exact ⟨t, htm, by rw [h2]; decide⟩
    rw [this]; rfl
   rw [hRf]
   simp (maxSteps := 1000000) [hho, noHo, -List.reduceReplicate]
   exact Ret.drop (by rfl) ⟨rfl, rfl⟩
  ·rw [h1]
   obtain ⟨u, hu⟩ : ∃ u, u = b.tabs[i] := ⟨_, rfl⟩
   have hub := tabsA_at b.tabs i hi
   rw [← hu] at hub h2
   have hneg : ¬ (i : Int) < 0 := by omega
   have hib : (i : Int) < b.tabs.length := by omega
   have e1 : i * 4 + 4 ≤ b.tabs.length * 4 := by omega
   have hix := indexes_w t u (by have := (hso.tabs t htm).lx; omega) (by have := (hsob.tabs u (by rw [hu]; exact List.getElem_mem hi)).lx; omega)
   have hcx := columns_w t u (by have := (hso.tabs t htm).lc; omega) (by have := (hsob.tabs u (by rw [hu]; exact List.getElem_mem hi)).lc; omega)
   simp (maxSteps := 1000000) [hho, noHo, hneg, -List.reduceReplicate]
   refine draw_k hho (.take 0 (.take 1 (.take 2 (.take 3 (.take 4 (.take 5 (.take 6 (.take 9 (.take 10 (.take 11 (.take 12 (.take 13 (.take 14 (.alt 7 (.alt 8 (.alt 15 (.alt 16 (.take 17 (.done)) (.nil)) (.nil)) (.nil)) (.nil))))))))))))))) [1, 3] [] (by decide +kernel) (by simp) ?_
   simp (maxSteps := 1000000) [hho, noHo, hib, hi, hub, e1, roOf, holdOf, wrOf, altK, heldOk, Region.binds, -List.reduceReplicate]
   intro E1
   simp only [hta] at hix hcx
   refine call_h [] (hix) rfl rfl ⟨rfl, rfl⟩ (by simp) (by simp) (by decide) (by simp) (by simp) ?_
   simp (maxSteps := 1000000) [hho, noHo, roOf, holdOf, wrOf, altK, heldOk, Region.binds, -List.reduceReplicate]
   have hdt : difT b.tabs t = difX t.id t.idxs u.idxs ++ difC t.id t.cols u.cols := by unfold difT; rw [h2]
   obtain ⟨DX, hDX⟩ : ∃ DX, DX = difX t.id t.idxs u.idxs := ⟨_, rfl⟩
   obtain ⟨DC, hDC⟩ : ∃ DC, DC = difC t.id t.cols u.cols := ⟨_, rfl⟩
   have hDXl : DX.length ≤ 1000 := by rw [hDX]; have := difX_len t.id t.idxs u.idxs; have h3 := (hso.tabs t htm).lx; omega
   have hDCl : DC.length ≤ 1000 := by rw [hDC]; have := difC_len t.id t.cols u.cols; have h3 := (hso.tabs t htm).lc; omega
   rw [← hDX, ← hDC] at hdt
   simp only [← hDX]
   rw [← hDC] at hcx
   intro E2
   refine ⟨by omega, ?_⟩
   intro E3
   refine call_h [] (hcx) rfl rfl ⟨rfl, rfl⟩ (by simp) (by simp) (by decide) (by simp) (by simp) ?_
   simp (maxSteps := 1000000) [hho, noHo, roOf, holdOf, wrOf, altK, heldOk, Region.binds, -List.reduceReplicate]
   intro E4
   refine ⟨by omega, ?_⟩
   have hfm : List.flatMap (difT b.tabs) (List.take (j + 1) a.tabs) = D ++ (DX ++ DC) := by rw [htk, List.flatMap_append, ← hD, List.flatMap_cons, List.flatMap_nil, List.append_nil, hdt]
   refine round_next (j + 1) ⟨by omega, fun x hx => by
    rw [htk] at hx
    rcases List.mem_append.1 hx with h | h
    ·exact List.all_eq_true.1 hI x h
    ·simp at h; subst h; rw [h2]; rfl⟩ (by omega) ?_
   refine wk_of 3 1 rfl (by rw [hE]; simp) ?_ (by simp [livH, livO, AV.livL, AV.liv, wkL, wkV, List.range', mdSt, hsc]) ?_
   ·simp [mdSt, hfm, hsc, movsA_app]
   ·simp [livH, livO, AV.livL, AV.liv, wkL, wkV, List.range', mdSt, slotsOf, hfm, ew, Nat.add_mul]
    omega
 ·obtain rfl : j = a.tabs.length := by omega
  simp only [mdSt]
  rw [List.take_length]
  rw [List.take_length] at hI
  obtain ⟨D, hD⟩ : ∃ D, D = a.tabs.flatMap (difT b.tabs) := ⟨_, rfl⟩
  have hDl : D.length ≤ 160 := by
   rw [hD]
   have h1 := dif_len (bt := b.tabs) (ts := a.tabs) fun t ht => by have h := hso.tabs t ht; have h2 := h.lc; have h3 := h.lx; omega
   have h4 := hso.len
   omega
  have hRs : R = good (stepF mvP a D) b := by rw [hR]; unfold movedP; rw [hI, ← hD, stepP_eq]; simp [stepS]
  have hstp := step_w a D hv (by omega) ha.big (by omega) (by rw [hD]; exact dif_ok ha hb)
  rw [← hD]
  obtain ⟨q, hq⟩ : ∃ q, q = stepF mvP a D := ⟨_, rfl⟩
  rw [← hq] at hRs hstp
  have hsm : ACalls Tryz.prog 25 [.agg (schA q.1), .agg (schA b)] [] (fun _ => false) (fun r h' => r = .c (.bool (eqB q.1 b)) ∧ h' = []) := same_fit b (by rw [hq]; exact step_fit a D)
  simp (maxSteps := 1000000) [hho, noHo, slotsOf, -List.reduceReplicate]
  have hml : (movsA D).length = D.length * 4 := by simp
  have htk : List.take (D.length * 4) (List.drop 0 (movsA D)) = movsA D := by rw [List.drop_zero, List.take_of_length_le (by simp)]
  have hmx : D.length ≤ maxLen := by unfold maxLen; omega
  refine call_f [] (fun k => k == 2) hstp rfl rfl ⟨by simp only [htk, hsc], rfl⟩ hho (by simp) (by decide) (by simp) ⟨⟨by simp [hsc], ⟨hml, by omega, hmx, by rw [htk]; exact List.all_eq_true.2 ((movsA_all D).2 trivial)⟩, trivial⟩, trivial⟩ (by simp) ?_
  simp (maxSteps := 1000000) [hho, noHo, -List.reduceReplicate]
  by_cases hz : q.2 = 0
  ·have hRe : R = eqB q.1 b := by rw [hRs]; simp [good, hz]
   rw [hRe]
   simp (maxSteps := 1000000) [hho, noHo, hz, undef, onGP_none, condG_false, -List.reduceReplicate]
   refine call_x [] (hsm) rfl rfl ⟨rfl, rfl⟩ hho (by simp) (by decide) (by simp) (by simp) ?_
   simp (maxSteps := 1000000) [hho, noHo, undef, onGP_none, condG_false, -List.reduceReplicate]
   exact Ret.drop (by rfl) ⟨rfl, rfl⟩
  ·have hRe : R = false := by rw [hRs]; simp [good, hz]
   rw [hRe]
   simp (maxSteps := 1000000) [hho, noHo, hz, undef, onGP_none, condG_false, -List.reduceReplicate]
   exact Ret.drop (by rfl) ⟨rfl, rfl⟩
def gnSt (a b : SchS) (j : Nat) : AS := ⟨slotsOf 91 [(2, .ptr 0 0 3), (3, .ptr 1 0 3), (14, .fs 4 b.tabs.length (tabsA b.tabs)), (15, .c (.int .i64 (b.tabs.length : Nat))), (16, .c (.int .i64 (j : Nat)))], [.o .box (schA a), .o .box (schA b)]⟩
def NoGrow (a b : SchS) : Prop := b.tabs.length ≤ a.tabs.length ∧ ∀ (i : Nat) (o t : TabS), a.tabs[i]? = some o → b.tabs[i]? = some t → t.cols.length ≤ o.cols.length ∧ t.idxs.length ≤ o.idxs.length
set_option maxHeartbeats 8000000 in
theorem grown_g (a b : SchS) (ha : SB a) (hb : SB b) (hv : a.ver ≤ 2 ^ 62) (hnx0 : a.next ≤ 2 ^ 62 ∨ NoGrow a b) : ACalls Tryz.prog 50 [.agg (schA a), .agg (schA b)] [] (fun _ => false) (fun r h' => r = .c (.bool (grownP a b a.tabs b.tabs)) ∧ h' = []) := by
 refine acalls mixed Tryz.func50 rfl Tryz.ntmps50 rfl fun E hE hst hho => ?_
 obtain ⟨R, hR⟩ : ∃ R, R = grownP a b a.tabs b.tabs := ⟨_, rfl⟩
 rw [← hR]
 have hsc : ∀ s : SchS, schA s = [.c (.int .i64 s.ver), .c (.int .i64 s.next), .fs 4 s.tabs.length (tabsA s.tabs)] := fun _ => rfl
 have hlen := ha.len
 have hlenb := hb.len
 simp (maxSteps := 1000000) [hho, noHo, hsc, -List.reduceReplicate]
 refine loop_k mixed (gnSt a b) (fun j => b.tabs.length - j) (fun j => j ≤ b.tabs.length ∧ j ≤ a.tabs.length ∧ R = grownP a b (a.tabs.drop j) (b.tabs.drop j)) 0 ⟨Nat.zero_le _, Nat.zero_le _, hR⟩ ?_ ?_
 ·exact wk_eq (by simp [hE, lens]) (by simp [gnSt, hsc]) (by simp [livH, livO, AV.livL, AV.liv, wkL, wkV, List.range', gnSt, slotsOf])
 rintro j ⟨hj, hja, hI⟩
 by_cases hjl : j < b.tabs.length
 ·obtain ⟨t, ht⟩ : ∃ t, t = b.tabs[j] := ⟨_, rfl⟩
  have htm : t ∈ b.tabs := by rw [ht]; exact List.getElem_mem hjl
  have hat := tabsA_at b.tabs j hjl
  rw [← ht] at hat
  have e0 : j * 4 + 4 ≤ b.tabs.length * 4 := by omega
  have ew : IntKind.i64.wrap ((j : Int) + 1) = (j + 1 : Nat) := by rw [IntWalk.i64_in _ (by omega)]; rfl
  have hta : tabA t = [.c (.int .i64 t.id), .c (.string t.name), .fs 10 t.cols.length (colsA t.cols), .fs 5 t.idxs.length (idxsA t.idxs)] := rfl
  have hdb : b.tabs.drop j = t :: b.tabs.drop (j + 1) := by rw [ht]; exact List.drop_eq_getElem_cons hjl
  rw [hdb] at hI
  have htbig := hb.big t htm
  have hcl := htbig.cl
  have hil := htbig.il
  simp only [gnSt]
  by_cases hjn : j < a.tabs.length
  ·obtain ⟨o, ho⟩ : ∃ o, o = a.tabs[j] := ⟨_, rfl⟩
   have hda : a.tabs.drop j = o :: a.tabs.drop (j + 1) := by rw [ho]; exact List.drop_eq_getElem_cons hjn
   rw [hda] at hI
   unfold grownP at hI
   have hnj : ¬ ((a.tabs.length : Int) ≤ (j : Int)) := by omega
   have hoa : ∀ k, k < 4 → (tabsA a.tabs)[j * 4 + k]? = (tabA o)[k]? := fun k hk => by
    have h := tabsA_at a.tabs j hjn
    rw [← ho] at h
    rw [← h, List.getElem?_take_of_lt hk, List.getElem?_drop]
   have g2 : (tabsA a.tabs)[j * 4 + 2]? = some (.fs 10 o.cols.length (colsA o.cols)) := hoa 2 (by omega)
   have g3 : (tabsA a.tabs)[j * 4 + 3]? = some (.fs 5 o.idxs.length (idxsA o.idxs)) := hoa 3 (by omega)
   have k2 := fun h => gq g2 h
   have k3 := fun h => gq g3 h
   have i2 : j * 4 + 2 < a.tabs.length * 4 := by omega
   have i3 : j * 4 + 3 < a.tabs.length * 4 := by omega
   have hob := ha.big o (by rw [ho]; exact List.getElem_mem hjn)
   have m2 : 1 ≤ min 4 (a.tabs.length * 4 - j * 4) - 2 := by omega
   have m3 : 1 ≤ min 4 (a.tabs.length * 4 - j * 4) - 3 := by omega
   have hng : NoGrow a b → t.cols.length ≤ o.cols.length ∧ t.idxs.length ≤ o.idxs.length := fun h => h.2 j o t (by rw [ho]; exact List.getElem?_eq_getElem hjn) (by rw [ht]; exact List.getElem?_eq_getElem hjl)
   by_cases h12 : o.cols.length < t.cols.length
   ·have hnx : a.next ≤ 2 ^ 62 := by
     rcases hnx0 with h | h
     ·exact h
     ·have := hng h; omega
    rw [if_pos h12] at hI
    have h12' : (o.cols.length : Int) < t.cols.length := by omega
    simp (maxSteps := 1000000) [hho, noHo, slotsOf, hjl, hjn, hat, e0, hta, hsc, hnj, g2, k2, m2, h12, h12', -List.reduceReplicate]
    obtain ⟨c, hc⟩ : ∃ c, c = t.cols[t.cols.length - 1]'(by omega) := ⟨_, rfl⟩
    have hcat := colsA_at t.cols (t.cols.length - 1) (by omega)
    rw [← hc] at hcat
    have hgl : t.cols.getLast? = some c := by rw [List.getLast?_eq_getElem?, List.getElem?_eq_getElem (by omega), hc]
    have hw1 : IntKind.i64.wrap ((t.cols.length : Int) - 1) = ((t.cols.length - 1 : Nat) : Int) := by rw [IntWalk.i64_in _ (by omega)]; omega
    have hin : ((t.cols.length - 1 : Nat) : Int) < t.cols.length := by omega
    have hin' : t.cols.length - 1 < t.cols.length := by omega
    have hi1 : (t.cols.length - 1) * 10 + 10 ≤ t.cols.length * 10 := by omega
    obtain ⟨q, hq⟩ : ∃ q, q = growS a t.id c := ⟨_, rfl⟩
    have hRq : R = good q b := by rw [hI, hgl, hq]
    have hg := grow_w a t.id c hv hnx hlen ha.big (htbig.cn c (by rw [hc]; exact List.getElem_mem _))
    rw [← hq] at hg
    have hsm := same_fit b (show Fit2 q.1 by rw [hq]; exact grow_fit a t.id c)
    simp only [hsc a] at hg
    refine draw_cut (fun _ : Unit => ⟨slotsOf 91 [(3, .ptr 1 0 3), (8, .ptr 3 0 3), (9, .c (.int .i64 q.2))], [.o .box (schA a), .o .box (schA b), .o .box (tabA t), .o .box (schA q.1)]⟩) (fun _ => True) ?_ ?_
    ·intro _ _
     by_cases hz : q.2 = 0
     ·have hRe : R = eqB q.1 b := by rw [hRq]; simp [good, hz]
      rw [hRe]
      simp (maxSteps := 1000000) [hho, noHo, slotsOf, hz, undef, onGP_none, condG_false, -List.reduceReplicate]
      refine call_x [] (hsm) rfl rfl ⟨rfl, rfl⟩ hho (by simp) (by decide) (by simp) (by simp) ?_
      simp (maxSteps := 1000000) [hho, noHo, undef, onGP_none, condG_false, -List.reduceReplicate]
      exact Ret.drop (by rfl) ⟨rfl, rfl⟩
     ·have hRe : R = false := by rw [hRq]; simp [good, hz]
      rw [hRe]
      simp (maxSteps := 1000000) [hho, noHo, slotsOf, hz, undef, onGP_none, condG_false, -List.reduceReplicate]
      exact Ret.drop (by rfl) ⟨rfl, rfl⟩
    ·refine draw_k hho (.take 0 (.take 1 (.take 2 (.take 3 (.take 4 (.take 5 (.take 6 (.take 7 (.take 8 (.alt 9 (.take 10 (.take 11 (.take 12 (.alt 13 (.alt 14 (.take 15 (.done)) (.nil)) (.nil))))) (.alt 13 (.alt 9 (.take 10 (.take 11 (.take 12 (.alt 14 (.take 15 (.done)) (.nil))))) (.nil)) (.nil)))))))))))) [0, 2] [] (by decide +kernel) (by simp) ?_
     simp (maxSteps := 1000000) [hho, noHo, hcat, hw1, hin, hin', hi1, roOf, holdOf, wrOf, altK, heldOk, Region.binds, -List.reduceReplicate]
     repeat' (first | apply And.intro | with_reducible intro _)
     all_goals try omega
     all_goals (refine call_h [] hg rfl rfl ⟨rfl, rfl⟩ (by simp) (by simp) (by decide) (by simp) (by simp) ?_)
     all_goals simp (maxSteps := 1000000) [hho, noHo, roOf, holdOf, wrOf, altK, heldOk, Region.binds, -List.reduceReplicate]
     all_goals (repeat' (first | apply And.intro | with_reducible intro _))
     all_goals (refine dcut_to () trivial ?_)
     all_goals exact wk_eq (by simp [hE, lens]) (by simp [hsc, hta]) (by simp [livH, livO, AV.livL, AV.liv, wkL, wkV, List.range', slotsOf])
   ·rw [if_neg h12] at hI
    have h12' : ¬ (o.cols.length : Int) < t.cols.length := by omega
    by_cases h13 : o.idxs.length < t.idxs.length
    ·have hnx : a.next ≤ 2 ^ 62 := by
      rcases hnx0 with h | h
      ·exact h
      ·have := hng h; omega
     rw [if_pos h13] at hI
     have h13' : (o.idxs.length : Int) < t.idxs.length := by omega
     simp (maxSteps := 1000000) [hho, noHo, slotsOf, hjl, hjn, hat, e0, hta, hsc, hnj, g2, k2, m2, h12, h12', g3, k3, m3, h13, h13', -List.reduceReplicate]
     obtain ⟨c, hc⟩ : ∃ c, c = t.idxs[t.idxs.length - 1]'(by omega) := ⟨_, rfl⟩
     have hcat := idxsA_at t.idxs (t.idxs.length - 1) (by omega)
     rw [← hc] at hcat
     have hgl : t.idxs.getLast? = some c := by rw [List.getLast?_eq_getElem?, List.getElem?_eq_getElem (by omega), hc]
     have hw1 : IntKind.i64.wrap ((t.idxs.length : Int) - 1) = ((t.idxs.length - 1 : Nat) : Int) := by rw [IntWalk.i64_in _ (by omega)]; omega
     have hin : ((t.idxs.length - 1 : Nat) : Int) < t.idxs.length := by omega
     have hin' : t.idxs.length - 1 < t.idxs.length := by omega
     have hi1 : (t.idxs.length - 1) * 5 + 5 ≤ t.idxs.length * 5 := by omega
     obtain ⟨q, hq⟩ : ∃ q, q = growX a t.id c := ⟨_, rfl⟩
     have hRq : R = good q b := by rw [hI, hgl, hq]
     have hg := growX_w a t.id c hv hnx hlen ha.big (htbig.xn c (by rw [hc]; exact List.getElem_mem _))
     rw [← hq] at hg
     have hsm := same_fit b (show Fit2 q.1 by rw [hq]; exact growX_fit a t.id c)
     simp only [hsc a] at hg
     refine draw_cut (fun _ : Unit => ⟨slotsOf 91 [(3, .ptr 1 0 3), (11, .ptr 3 0 3), (12, .c (.int .i64 q.2))], [.o .box (schA a), .o .box (schA b), .o .box (tabA t), .o .box (schA q.1)]⟩) (fun _ => True) ?_ ?_
     ·intro _ _
      by_cases hz : q.2 = 0
      ·have hRe : R = eqB q.1 b := by rw [hRq]; simp [good, hz]
       rw [hRe]
       simp (maxSteps := 1000000) [hho, noHo, slotsOf, hz, undef, onGP_none, condG_false, -List.reduceReplicate]
       refine call_x [] (hsm) rfl rfl ⟨rfl, rfl⟩ hho (by simp) (by decide) (by simp) (by simp) ?_
       simp (maxSteps := 1000000) [hho, noHo, undef, onGP_none, condG_false, -List.reduceReplicate]
       exact Ret.drop (by rfl) ⟨rfl, rfl⟩
      ·have hRe : R = false := by rw [hRq]; simp [good, hz]
       rw [hRe]
       simp (maxSteps := 1000000) [hho, noHo, slotsOf, hz, undef, onGP_none, condG_false, -List.reduceReplicate]
       exact Ret.drop (by rfl) ⟨rfl, rfl⟩
     ·refine draw_k hho (.take 0 (.take 1 (.take 2 (.take 3 (.take 4 (.take 5 (.take 6 (.take 7 (.take 8 (.alt 9 (.take 10 (.take 11 (.take 12 (.alt 13 (.alt 14 (.take 15 (.done)) (.nil)) (.nil))))) (.alt 13 (.alt 9 (.take 10 (.take 11 (.take 12 (.alt 14 (.take 15 (.done)) (.nil))))) (.nil)) (.nil)))))))))))) [0, 2] [] (by decide +kernel) (by simp) ?_
      simp (maxSteps := 1000000) [hho, noHo, hcat, hw1, hin, hin', hi1, roOf, holdOf, wrOf, altK, heldOk, Region.binds, -List.reduceReplicate]
      repeat' (first | apply And.intro | with_reducible intro _)
      all_goals try omega
      all_goals (refine call_h [] hg rfl rfl ⟨rfl, rfl⟩ (by simp) (by simp) (by decide) (by simp) (by simp) ?_)
      all_goals simp (maxSteps := 1000000) [hho, noHo, roOf, holdOf, wrOf, altK, heldOk, Region.binds, -List.reduceReplicate]
      all_goals (repeat' (first | apply And.intro | with_reducible intro _))
      all_goals (refine dcut_to () trivial ?_)
      all_goals exact wk_eq (by simp [hE, lens]) (by simp [hsc, hta]) (by simp [livH, livO, AV.livL, AV.liv, wkL, wkV, List.range', slotsOf])
    ·rw [if_neg h13] at hI
     have h13' : ¬ (o.idxs.length : Int) < t.idxs.length := by omega
     simp (maxSteps := 1000000) [hho, noHo, slotsOf, hjl, hjn, hat, e0, hta, hsc, hnj, g2, k2, m2, h12, h12', g3, k3, m3, h13, h13', -List.reduceReplicate]
     refine round_next (j + 1) ⟨by omega, by omega, hI⟩ (by omega) ?_
     exact wk_of 2 1 rfl (by rw [hE]; simp) (by simp [gnSt, hsc]) (by simp [livH, livO, AV.livL, AV.liv, wkL, wkV, List.range', gnSt, hsc]) (by simp [livH, livO, AV.livL, AV.liv, wkL, wkV, List.range', gnSt, slotsOf, ew])
  ·have hjn' : (a.tabs.length : Int) ≤ (j : Int) := by omega
   have hda : a.tabs.drop j = [] := List.drop_of_length_le (by omega)
   rw [hda] at hI
   unfold grownP at hI
   rw [hI]
   simp (maxSteps := 1000000) [hho, noHo, slotsOf, hjl, hjn, hat, e0, hta, hsc, hjn', -List.reduceReplicate]
   exact Ret.drop (by rfl) ⟨rfl, rfl⟩
 ·obtain rfl : j = b.tabs.length := by omega
  rw [List.drop_length] at hI
  have hRf : R = false := by rw [hI]; cases a.tabs.drop b.tabs.length <;> (unfold grownP; rfl)
  rw [hRf]
  simp only [gnSt]
  simp (maxSteps := 1000000) [hho, noHo, slotsOf, -List.reduceReplicate]
  exact Ret.drop (by rfl) ⟨rfl, rfl⟩
set_option maxHeartbeats 8000000 in
theorem legal_g (a b : SchS) (ha : SB a) (hb : SB b) (hv : a.ver ≤ 2 ^ 62) (hnx0 : a.next ≤ 2 ^ 61 ∨ NoGrow a b) : ACalls Tryz.prog 20 [.agg (schA a), .agg (schA b)] [] (fun _ => false) (fun r h' => r = .c (.bool (legalP a b)) ∧ h' = []) := by
 refine acalls mixed Tryz.func20 rfl Tryz.ntmps20 rfl fun E hE hst hho => ?_
 obtain ⟨R, hR⟩ : ∃ R, R = legalP a b := ⟨_, rfl⟩
 rw [← hR]
 unfold legalP at hR
 have hsc : ∀ s : SchS, schA s = [.c (.int .i64 s.ver), .c (.int .i64 s.next), .fs 4 s.tabs.length (tabsA s.tabs)] := fun _ => rfl
 have hlen := ha.len
 have hlenb := hb.len
 have hra := right_sc a (by omega) ha.big
 have hrb := right_sc b (by omega) hb.big
 simp only [hsc] at hra hrb
 cases hsa : schOk a with
 | false =>
  have hRf : R = false := by rw [hR, hsa]; rfl
  rw [hRf]
  rw [hsa] at hra
  simp (maxSteps := 1000000) [hho, noHo, hsc, undef, onGP_none, condG_false, -List.reduceReplicate]
  refine call_x [] (hra) rfl rfl ⟨rfl, rfl⟩ hho (by simp) (by decide) (by simp) (by simp) ?_
  simp (maxSteps := 1000000) [hho, noHo, undef, onGP_none, condG_false, -List.reduceReplicate]
  exact Ret.drop (by rfl) ⟨rfl, rfl⟩
 | true =>
 rw [hsa] at hra
 cases hsb : schOk b with
 | false =>
  have hRf : R = false := by rw [hR, hsa, hsb]; rfl
  rw [hRf]
  rw [hsb] at hrb
  simp (maxSteps := 1000000) [hho, noHo, hsc, undef, onGP_none, condG_false, -List.reduceReplicate]
  refine call_x [] (hra) rfl rfl ⟨rfl, rfl⟩ hho (by simp) (by decide) (by simp) (by simp) ?_
  simp (maxSteps := 1000000) [hho, noHo, undef, onGP_none, condG_false, -List.reduceReplicate]
  refine call_x [] (hrb) rfl rfl ⟨rfl, rfl⟩ hho (by simp) (by decide) (by simp) (by simp) ?_
  simp (maxSteps := 1000000) [hho, noHo, undef, onGP_none, condG_false, -List.reduceReplicate]
  exact Ret.drop (by rfl) ⟨rfl, rfl⟩
 | true =>
 rw [hsb] at hrb
 rw [hsa, hsb, Bool.true_and, Bool.true_and] at hR
 by_cases hgt : a.tabs.length < b.tabs.length
 ·have hnx : a.next ≤ 2 ^ 61 := by
   rcases hnx0 with h | h
   ·exact h
   ·have := h.1; omega
  rw [if_pos hgt] at hR
  have hgt' : (a.tabs.length : Int) < b.tabs.length := by omega
  obtain ⟨t, ht⟩ : ∃ t, t = b.tabs[b.tabs.length - 1]'(by omega) := ⟨_, rfl⟩
  have htm : t ∈ b.tabs := by rw [ht]; exact List.getElem_mem _
  have hgl : b.tabs.getLast? = some t := by rw [List.getLast?_eq_getElem?, List.getElem?_eq_getElem (by omega), ht]
  have hoa : ∀ k, k < 4 → (tabsA b.tabs)[(b.tabs.length - 1) * 4 + k]? = (tabA t)[k]? := fun k hk => by
   have h := tabsA_at b.tabs (b.tabs.length - 1) (by omega)
   rw [← ht] at h
   rw [← h, List.getElem?_take_of_lt hk, List.getElem?_drop]
  have g1 : (tabsA b.tabs)[(b.tabs.length - 1) * 4 + 1]? = some (.c (.string t.name)) := hoa 1 (by omega)
  have g2 : (tabsA b.tabs)[(b.tabs.length - 1) * 4 + 2]? = some (.fs 10 t.cols.length (colsA t.cols)) := hoa 2 (by omega)
  have k1 := fun h => gq g1 h
  have k2 := fun h => gq g2 h
  have m1 : 1 ≤ min 4 (b.tabs.length * 4 - (b.tabs.length - 1) * 4) - 1 := by omega
  have m2 : 1 ≤ min 4 (b.tabs.length * 4 - (b.tabs.length - 1) * 4) - 2 := by omega
  have hw1 : IntKind.i64.wrap ((b.tabs.length : Int) - 1) = ((b.tabs.length - 1 : Nat) : Int) := by rw [IntWalk.i64_in _ (by omega)]; omega
  have hin : ((b.tabs.length - 1 : Nat) : Int) < b.tabs.length := by omega
  have hin' : b.tabs.length - 1 < b.tabs.length := by omega
  have i1 : (b.tabs.length - 1) * 4 + 1 < b.tabs.length * 4 := by omega
  have i2 : (b.tabs.length - 1) * 4 + 2 < b.tabs.length * 4 := by omega
  obtain ⟨q, hq⟩ : ∃ q, q = createS a t.name t.cols := ⟨_, rfl⟩
  have hRq : R = good q b := by rw [hR]; unfold lastP; rw [hgl, hq]
  have htbig := hb.big t htm
  have htl := ((schOk_iff b).1 hsb).tabs t htm
  have hg := create_w a t.name t.cols hv hnx hlen ha.big htbig.nm (by have := htl.lc; omega) htbig.cn
  rw [← hq] at hg
  have hsm := same_fit b (show Fit2 q.1 by rw [hq]; exact create_fit a t.name t.cols)
  simp only [hsc a] at hg
  simp (maxSteps := 1000000) [hho, noHo, hsc, undef, onGP_none, condG_false, -List.reduceReplicate]
  refine call_x [] (hra) rfl rfl ⟨rfl, rfl⟩ hho (by simp) (by decide) (by simp) (by simp) ?_
  simp (maxSteps := 1000000) [hho, noHo, undef, onGP_none, condG_false, -List.reduceReplicate]
  refine call_x [] (hrb) rfl rfl ⟨rfl, rfl⟩ hho (by simp) (by decide) (by simp) (by simp) ?_
  simp (maxSteps := 1000000) [hho, noHo, hgt, hgt', undef, onGP_none, condG_false, -List.reduceReplicate]
  refine draw_cut (fun _ : Unit => ⟨slotsOf 58 [(3, .ptr 1 0 3), (6, .ptr 2 0 3), (7, .c (.int .i64 q.2))], [.o .box (schA a), .o .box (schA b), .o .box (schA q.1)]⟩) (fun _ => True) ?_ ?_
  ·intro _ _
   by_cases hz : q.2 = 0
   ·have hRe : R = eqB q.1 b := by rw [hRq]; simp [good, hz]
    rw [hRe]
    simp (maxSteps := 1000000) [hho, noHo, slotsOf, hz, undef, onGP_none, condG_false, -List.reduceReplicate]
    refine call_x [] (hsm) rfl rfl ⟨rfl, rfl⟩ hho (by simp) (by decide) (by simp) (by simp) ?_
    simp (maxSteps := 1000000) [hho, noHo, undef, onGP_none, condG_false, -List.reduceReplicate]
    exact Ret.drop (by rfl) ⟨rfl, rfl⟩
   ·have hRe : R = false := by rw [hRq]; simp [good, hz]
    rw [hRe]
    simp (maxSteps := 1000000) [hho, noHo, slotsOf, hz, undef, onGP_none, condG_false, -List.reduceReplicate]
    exact Ret.drop (by rfl) ⟨rfl, rfl⟩
  ·refine draw_k hho (.take 0 (.take 1 (.take 2 (.take 3 (.take 4 (.take 5 (.take 6 (.take 7 (.take 8 (.take 9 (.take 10 (.take 11 (.take 12 (.take 13 (.take 14 (.alt 15 (.take 16 (.take 17 (.take 18 (.alt 19 (.alt 20 (.take 21 (.done)) (.nil)) (.nil))))) (.alt 19 (.alt 15 (.take 16 (.take 17 (.take 18 (.alt 20 (.take 21 (.done)) (.nil))))) (.nil)) (.nil)))))))))))))))))) [0, 1] [] (by decide +kernel) (by simp) ?_
   simp (maxSteps := 1000000) [hho, noHo, hw1, hin, hin', g1, g2, k1, k2, m1, m2, i1, i2, roOf, holdOf, wrOf, altK, heldOk, Region.binds, -List.reduceReplicate]
   repeat' (first | apply And.intro | with_reducible intro _)
   all_goals try omega
   all_goals (refine call_h [] hg rfl rfl ⟨rfl, rfl⟩ (by simp) (by simp) (by decide) (by simp) (by simp) ?_)
   all_goals simp (maxSteps := 1000000) [hho, noHo, roOf, holdOf, wrOf, altK, heldOk, Region.binds, -List.reduceReplicate]
   all_goals (repeat' (first | apply And.intro | with_reducible intro _))
   all_goals (refine dcut_to () trivial ?_)
   all_goals exact wk_eq (by simp [hE, lens]) (by simp [hsc]) (by simp [livH, livO, AV.livL, AV.liv, wkL, wkV, List.range', slotsOf])
 ·rw [if_neg hgt] at hR
  have hgt' : ¬ (a.tabs.length : Int) < b.tabs.length := by omega
  have hg := grown_g a b ha hb hv (hnx0.imp (fun h => by omega) fun h => h)
  have hm := moved_w a b ha hb hv hsa hsb
  simp only [hsc] at hg hm
  simp (maxSteps := 1000000) [hho, noHo, hsc, undef, onGP_none, condG_false, -List.reduceReplicate]
  refine call_x [] (hra) rfl rfl ⟨rfl, rfl⟩ hho (by simp) (by decide) (by simp) (by simp) ?_
  simp (maxSteps := 1000000) [hho, noHo, undef, onGP_none, condG_false, -List.reduceReplicate]
  refine call_x [] (hrb) rfl rfl ⟨rfl, rfl⟩ hho (by simp) (by decide) (by simp) (by simp) ?_
  simp (maxSteps := 1000000) [hho, noHo, hgt, hgt', undef, onGP_none, condG_false, -List.reduceReplicate]
  cases hgr : grownP a b a.tabs b.tabs with
  | true =>
   rw [hgr] at hg hR
   rw [hR]
   refine call_x [] (hg) rfl rfl ⟨rfl, rfl⟩ hho (by simp) (by decide) (by simp) (by simp) ?_
   simp (maxSteps := 1000000) [hho, noHo, undef, onGP_none, condG_false, -List.reduceReplicate]
   exact Ret.drop (by rfl) ⟨rfl, rfl⟩
  | false =>
   rw [hgr, Bool.false_or] at hR
   rw [hgr] at hg
   rw [hR]
   refine call_x [] (hg) rfl rfl ⟨rfl, rfl⟩ hho (by simp) (by decide) (by simp) (by simp) ?_
   simp (maxSteps := 1000000) [hho, noHo, undef, onGP_none, condG_false, -List.reduceReplicate]
   refine call_x [] (hm) rfl rfl ⟨rfl, rfl⟩ hho (by simp) (by decide) (by simp) (by simp) ?_
   simp (maxSteps := 1000000) [hho, noHo, undef, onGP_none, condG_false, -List.reduceReplicate]
   exact Ret.drop (by rfl) ⟨rfl, rfl⟩
theorem legal_w (a b : SchS) (ha : SB a) (hb : SB b) (hv : a.ver ≤ 2 ^ 62) (hnx : a.next ≤ 2 ^ 61) : ACalls Tryz.prog 20 [.agg (schA a), .agg (schA b)] [] (fun _ => false) (fun r h' => r = .c (.bool (legalP a b)) ∧ h' = []) := legal_g a b ha hb hv (.inl hnx)
end Go.Proofs.YthgoocdldnkogaaGreatDoor
