import Derived.Test.YthgoocdldnkogaaGreatDoorHR1
import Derived.Test.YthgoocdldnkogaaGreatDoorHW
namespace Go.Proofs.YthgoocdldnkogaaGreatDoor
set_option linter.unusedVariables false
set_option linter.unusedSimpArgs false
open Go.RowKit
attribute [local simp] isCut_nil isCut_region isCut_seq isCut_block isCut_loop isCut_cond isCut_skip isCut_exit isCut_ret isCut_range swapK putK altK condK_bool pickP_bool stepP stepO onPure_some onPure_none onImpl_some onImpl_none stepC onGP_some onGP_none onGV_some condG mkG onIt_it nextP_ptr takeP_eq takeV_some takeV_none takeU_some takeU_none takeQ takeW_some takeN_none takeN_some takeG_some takeO_some altO_some pureV binV2 eqF eqOp ovlV ovl2 rowAt capV binV intBin strBin isSh shV fldV ixV sliceV slice3V loadAV nilV lenV callV unV convV viewS cellsH loadV fldCut AV.ung AV.ungs AV.gc AV.cells AS.ev AS.put anyS gcsV gcO lens lnO gV guardV retK RetP_eq resV oneV anyRo loIx hiIx implO callP_clo evL gcsL clearV storeAV AS.push AS.setO appV appZ shortS copyV buildV partsV fillV srcV fzO okV isCell_c isCell_ptr isCell_sl isCell_fs isCell_fp isCell_clo rowZ_one rowZ_zero rowZ_2 rowZ_3 rowZ_4 rowZ_5 rowZ_6 rowZ_7 rowZ_8 rowZ_9 rowZ_10 rowZ_11 rowZ_12 noHo Value.oneCell' max2V min2V lookV updV updK updW cvals mkAt basV lenM msAt afterH putBack frzFrom frzO rebO backIx nilEq_sl nilEq_fs nilEq_ifn nilEq_ifh ifOp_eql ifOp_neq isLit nilOp_eql nilOp_neq AV.reb AV.rebL
attribute [local simp ↓] runK_skip runK_region runK_draw runK_seq runK_cut runK_cond runK_block runK_loop runK_exit runK_label runK_goto runK_ret runK_range contK_nil contK_seq contK_seq_ret contK_seq_exit contK_seq_goto contK_block contK_block_ret contK_block_goto contK_block_exit runO_nil runO_cons roundK_exit roundK_ret roundK_goto exitK_ret cutK_ret cutK_exit runE_done runE_nil runE_take runE_alt condG_true condG_false
set_option maxRecDepth 10000
def cmpI (a b : Int) : Int := if a < b then -1 else if b < a then 1 else 0
theorem cmpI_neg (a b : Int) : cmpI a b < 0 ↔ a < b := by
 unfold cmpI
 repeat' split
 all_goals omega
theorem isNaN_int (a : Int) : ACalls Tryz.prog 189 [.c (.int .i64 a)] [] (fun _ => false) (fun r h' => r = .c (.bool false) ∧ h' = []) := by
 refine acalls mixed Tryz.func189 rfl Tryz.ntmps189 rfl fun E hE _ hho => ?_
 simp [hho, -List.reduceReplicate]
 exact Ret.same ⟨rfl, rfl⟩
theorem compare_int (a b : Int) : ACalls Tryz.prog 179 [.c (.int .i64 a), .c (.int .i64 b)] [] (fun _ => false) (fun r h' => r = .c (.int .i64 (cmpI a b)) ∧ h' = []) := by
 refine acalls mixed Tryz.func179 rfl Tryz.ntmps179 rfl fun E hE _ hho => ?_
 simp [hho, -List.reduceReplicate]
 refine call_plain (fun _ => false) (isNaN_int a) (ha := by rfl) (by simp) ?_
 rintro r h' ⟨rfl, rfl⟩
 refine ⟨rfl, ?_⟩
 simp [hho, -List.reduceReplicate]
 refine call_plain (fun _ => false) (isNaN_int b) (ha := by rfl) (by simp) ?_
 rintro r h' ⟨rfl, rfl⟩
 refine ⟨rfl, ?_⟩
 simp [hho, -List.reduceReplicate]
 split
 ·rename_i h
  exact Ret.same ⟨by simp [cmpI, h], rfl⟩
 ·rename_i h
  split
  ·rename_i h2
   exact Ret.same ⟨by simp [cmpI, h, h2], rfl⟩
  ·rename_i h2
   exact Ret.same ⟨by simp [cmpI, h, h2], rfl⟩
theorem cmpI_zero (a b : Int) : cmpI a b = 0 ↔ a = b := by
 unfold cmpI
 repeat' split
 all_goals omega
theorem find1_cell (x : CellS) (k : Int) : ACalls Tryz.prog 178 [.agg (cellA x), .c (.int .i64 k)] [] (fun _ => false) (fun r h' => r = .c (.int .i64 (cmpI x.col k)) ∧ h' = []) := by
 refine acalls mixed Tryz.func178 rfl Tryz.ntmps178 rfl fun E hE _ hho => ?_
 simp [cellA, valA, hho, noHo, -List.reduceReplicate]
 refine call_x [] (compare_int x.col k) rfl rfl ⟨rfl, rfl⟩ hho (by simp) (by decide) (by simp) (by simp) ?_
 simp [hho, noHo, -List.reduceReplicate]
 exact Ret.drop (by rfl) ⟨rfl, rfl⟩
theorem half_w (x : Int) (h0 : 0 ≤ x) (h1 : x ≤ 4611686018427387904) : IntKind.i64.wrap ((IntKind.u64.wrap (IntKind.i64.wrap x)).fdiv (2 ^ min 1 IntKind.u64.bits)) = x / 2 := by
 have e1 : IntKind.i64.wrap x = x := IntWalk.i64_in _ (by omega)
 have e2 : IntKind.u64.wrap x = x := by
  simp only [IntKind.wrap, IntKind.signed, IntKind.bits]
  simp
  omega
 have e3 : (2 : Int) ^ min 1 IntKind.u64.bits = 2 := by decide
 rw [e1, e2, e3, Int.fdiv_eq_ediv_of_nonneg _ (by decide)]
 exact IntWalk.i64_in _ (by omega)
def cloC : AV := .clo (.func 178) [] []
set_option maxHeartbeats 4000000 in
theorem search_cell (l : List CellS) (n : Nat) (hn : n = l.length) (hl : n ≤ 2932031007402) (k : Int) : ACalls Tryz.prog 177 [.sl 0 5 0 n (n * 5), .c (.int .i64 k), cloC] [rowC l] (fun i => decide (i < 1)) (fun r h' => r = .tup [.c (.int .i64 (findC l k)), .c (.bool (hasC l k))] ∧ h' = [rowC l]) := by
 refine acalls mixed Tryz.func177 rfl Tryz.ntmps177 rfl fun E hE hst hho => ?_
 obtain ⟨T, hT⟩ : ∃ T, T = findC l k := ⟨_, rfl⟩
 have hT2 : T ≤ n := by rw [hT, hn]; exact findC_le _ _
 rw [← hT]
 simp [rowC, cloC, hho, noHo, -List.reduceReplicate]
 refine ⟨by omega, ?_⟩
 refine loop_k2 mixed (fun x : Nat × Nat × Nat => ⟨slotsOf 49 [(0, .sl 0 5 0 n (n * 5)), (1, .c (.int .i64 k)), (2, cloC), (8, .c (.int .i64 n)), (9, .c (.int .i64 (x.1 : Int))), (10, .c (.int .i64 (x.2.1 : Int)))], [rowC l]⟩) (fun x => x.2.1 - x.1) (fun x => x.1 ≤ x.2.1 ∧ x.2.1 ≤ n ∧ x.2.1 - x.1 ≤ x.2.2 ∧ bsF (keyC l k) x.2.2 x.1 x.2.1 = T) (0, n, n)
  (fun _ : Unit => ⟨slotsOf 49 [(0, .sl 0 5 0 n (n * 5)), (1, .c (.int .i64 k)), (2, cloC), (8, .c (.int .i64 n)), (9, .c (.int .i64 (T : Int)))], [rowC l]⟩) (fun _ => True) 0 ⟨Nat.zero_le _, Nat.le_refl _, Nat.le_refl _, by simp only; rw [hT, findC, ← hn]⟩ ?_ ?_ ?_
 ·exact wk_eq (by simp [hE, rowC, lens]) (by simp [rowC]) (by simp [livH, livO, AV.livL, AV.liv, wkL, wkV, List.range', slotsOf, cloC])
 ·rintro _ _
  by_cases hTn : T < n
  ·have hTl : T < l.length := by omega
   have hTi : (T : Int) < n := by omega
   have hat := cellsA_at l T hTl
   obtain ⟨x, hx⟩ : ∃ x, x = l[T] := ⟨_, rfl⟩
   rw [← hx] at hat
   have hF : hasC l k = decide (x.col = k) := by unfold hasC; rw [← hT, List.getElem?_eq_getElem hTl, ← hx]
   have el : T * 5 + 5 ≤ n * 5 := by omega
   have h5 : List.take 5 (cellA x) = cellA x := rfl
   simp (maxSteps := 1000000) [rowC, cloC, slotsOf, hho, noHo, ← hn, hTn, hTi, hat, el, h5, -List.reduceReplicate]
   refine call_x [] (find1_cell x k) rfl rfl ⟨rfl, rfl⟩ hho (by simp) (by decide) (by simp) (by simp) ?_
   have hc : decide (cmpI x.col k = 0) = decide (x.col = k) := by rw [decide_eq_decide]; exact cmpI_zero _ _
   simp (maxSteps := 1000000) [hho, noHo, hc, -List.reduceReplicate]
   exact Ret.same ⟨by simp [hF, cmpI_zero], rfl⟩
  ·obtain rfl : T = n := by omega
   have hF : hasC l k = false := by unfold hasC; rw [← hT, List.getElem?_eq_none (by omega)]
   simp (maxSteps := 1000000) [rowC, cloC, slotsOf, hho, noHo, undef, onGP_none, condG_false, -List.reduceReplicate]
   exact Ret.same ⟨by rw [hF], rfl⟩
 ·rintro ⟨i, j, g⟩ ⟨h1, h2, h4, h5⟩
  simp only at h1 h2 h4 h5
  by_cases hij : i < j
  ·have eh : IntKind.i64.wrap ((IntKind.u64.wrap (IntKind.i64.wrap ((i : Int) + j))).fdiv (2 ^ min 1 IntKind.u64.bits)) = ((i + j) / 2 : Nat) := by rw [half_w _ (by omega) (by omega)]; omega
   obtain ⟨J, hJ⟩ : ∃ J, J = (i + j) / 2 := ⟨_, rfl⟩
   rw [← hJ] at eh
   rw [bsF_step _ _ _ _ hij h4, ← hJ] at h5
   have ewJ : IntKind.i64.wrap ((J : Int) + 1) = (J + 1 : Nat) := by rw [IntWalk.i64_in _ (by omega)]; rfl
   have hJl : J < l.length := by omega
   have hJn : J < n := by omega
   have hJi : (J : Int) < n := by omega
   have hat := cellsA_at l J hJl
   obtain ⟨x, hx⟩ : ∃ x, x = l[J] := ⟨_, rfl⟩
   rw [← hx] at hat
   have hlt : keyC l k J = decide (x.col < k) := by unfold keyC; rw [List.getElem?_eq_getElem hJl, ← hx]
   have el : J * 5 + 5 ≤ n * 5 := by omega
   have h5t : List.take 5 (cellA x) = cellA x := rfl
   simp (maxSteps := 1000000) [rowC, cloC, slotsOf, hho, noHo, hij, eh, ← hn, hJn, hJi, hat, el, h5t, -List.reduceReplicate]
   refine call_x [] (find1_cell x k) rfl rfl ⟨rfl, rfl⟩ hho (by simp) (by decide) (by simp) (by simp) ?_
   by_cases hxy : x.col < k
   ·have hc : cmpI x.col k < 0 := (cmpI_neg _ _).2 hxy
    rw [if_pos (by rw [hlt]; simpa using hxy)] at h5
    simp (maxSteps := 1000000) [hho, noHo, hc, ewJ, -List.reduceReplicate]
    refine round_next (J + 1, j, g - 1) ⟨by simp only; omega, h2, by simp only; omega, h5⟩ (by simp only; omega) ?_
    exact wk_eq (by simp [hE, rowC, lens]) (by simp [rowC]) (by simp [livH, livO, AV.livL, AV.liv, wkL, wkV, List.range', slotsOf, cloC])
   ·have hc : ¬ cmpI x.col k < 0 := fun h => hxy ((cmpI_neg _ _).1 h)
    rw [if_neg (by rw [hlt]; simpa using hxy)] at h5
    simp (maxSteps := 1000000) [hho, noHo, hc, ewJ, -List.reduceReplicate]
    refine round_next (i, J, g - 1) ⟨by simp only; omega, by simp only; omega, by simp only; omega, h5⟩ (by simp only; omega) ?_
    exact wk_eq (by simp [hE, rowC, lens]) (by simp [rowC]) (by simp [livH, livO, AV.livL, AV.liv, wkL, wkV, List.range', slotsOf, cloC])
  ·rw [bsF_done _ _ _ _ hij] at h5
   subst h5
   simp (maxSteps := 1000000) [rowC, cloC, slotsOf, hho, noHo, hij, -List.reduceReplicate]
   exact exit_to () trivial (wk_eq (by simp [hE, rowC, lens]) (by simp [rowC]) (by simp [livH, livO, AV.livL, AV.liv, wkL, wkV, List.range', slotsOf, cloC]))

theorem cellsA_cutR (pre post : List CellS) (x : CellS) (i r : Nat) (hi : pre.length = i) (hr : post.length = r) (z : List AV) : List.take (r * 5) (List.drop ((i + 1) * 5) (cellsA (pre ++ x :: post) ++ z)) = cellsA post := by
 have e : cellsA (pre ++ x :: post) ++ z = (cellsA pre ++ cellA x) ++ (cellsA post ++ z) := by rw [cellsA_app, cellsA_cons]; simp
 rw [e, List.drop_append_of_le_length (by simp [hi]; omega), List.drop_eq_nil_of_le (by simp [hi]; omega), List.nil_append, List.take_append_of_le_length (by simp [hr]), List.take_of_length_le (by simp [hr])]
set_option maxHeartbeats 4000000 in
theorem delete_cell (pre post : List CellS) (x : CellS) (i r n : Nat) (hi : pre.length = i) (hr : post.length = r) (hn : n = i + (r + 1)) (hl : n ≤ 2932031007402) : ACalls Tryz.prog 164 [.sl 0 5 0 n (n * 5), .c (.int .i64 (i : Int)), .c (.int .i64 ((i + 1 : Nat) : Int))] [rowC (pre ++ x :: post)] (fun _ => false) (fun q h' => q = .sl 0 5 0 (i + r) ((i + r) * 5) ∧ h' = [rowC (pre ++ post)]) := by
 refine acalls_slc 0 0 (e := 190) (sz := 5) (n := n) (m := n * 5) (cs := cellsA (pre ++ x :: post)) mixed Tryz.func164 rfl Tryz.ntmps164 rfl rfl rfl (by simp [hi, hr, hn]) rfl (by omega) fun E hE hst hho c hc1 hc2 => ?_
 obtain ⟨C, hC⟩ : ∃ C, C = cellsA (pre ++ x :: post) ++ spare ((c - n) * 5) := ⟨_, rfl⟩
 have hCl : C.length = c * 5 := by rw [hC, List.length_append, spare_length]; simp [hi, hr]; omega
 show runK _ _ _ _ _ _ ⟨_, [.o (.row 190 5) (cellsA (pre ++ x :: post) ++ spare ((c - n) * 5))]⟩
 rw [← hC]
 have h1 : (i : Int) + 1 ≤ n := by omega
 have h2 : (0 : Int) ≤ (i : Int) + 1 := by omega
 have h3 : ((i : Int) + 1).toNat = i + 1 := by omega
 have h4 : i * 5 < n * 5 := by omega
 have h5 : (i : Int) < n := by omega
 have h6 : ¬ (i : Int) = (i : Int) + 1 := by omega
 have h7 : ¬ (i : Int) + 1 = 0 := by omega
 simp (maxSteps := 1000000) [hho, hCl, h1, h2, h3, h4, h5, h6, -List.reduceReplicate]
 refine ⟨by omega, ?_⟩
 refine draw_k hho (.take 0 (.take 1 (.take 2 (.take 3 (.take 4 (.take 5 (.alt 6 (.take 7 (.done)) (.nil)))))))) [0] [(6, [0])] (by decide +kernel) (by simp) ?_
 have h8 : n - (i + 1) = r := by omega
 have h9 : i * 5 ≤ c * 5 := by omega
 have h10 : n * 5 ≤ c * 5 := by omega
 by_cases hcl : (i + 1) * 5 < c * 5
 ·have hroom : (i + r) * 5 ≤ c * 5 := by omega
  have h11 : (i + 1) * 5 + r * 5 ≤ c * 5 := by omega
  have h12 : ((i : Int) + r).toNat = i + r := by omega
  have h13 : i + r < c := by omega
  have h14 : n - (i + r) = 1 := by omega
  have h15 : min (r * 5) (c * 5 - (i + 1) * 5) = r * 5 := by omega
  have h16 : i * 5 + (r * 5 + (c * 5 - (i * 5 + r * 5))) = c * 5 := by omega
  have h17 : (i : Int) + r ≤ n := by omega
  have h18 : (0 : Int) ≤ (i : Int) + r := by omega
  have hcell : ∀ x ∈ List.take (r * 5) (List.drop ((i + 1) * 5) C), isCell x = true := by
   rw [hC, cellsA_cutR pre post x i r hi hr]
   exact (cellsA_cell post).2 trivial
  have hpre : List.take (i * 5) C = cellsA pre := by
   rw [hC, cellsA_app, List.append_assoc, List.take_append_of_le_length (by simp [hi]), List.take_of_length_le (by simp [hi])]
  have hrow : ∀ z, List.take ((i + r) * 5) (List.take ((i + r) * 5) (List.take (i * 5) C ++ (List.take (r * 5) (List.drop ((i + 1) * 5) C) ++ List.drop (i * 5 + r * 5) C)) ++ z) = cellsA (pre ++ post) := by
   intro z
   have e : List.take ((i + r) * 5) (List.take (i * 5) C ++ (List.take (r * 5) (List.drop ((i + 1) * 5) C) ++ List.drop (i * 5 + r * 5) C)) = cellsA (pre ++ post) := by
    rw [hpre, hC, cellsA_cutR pre post x i r hi hr, ← List.append_assoc, ← cellsA_app, List.take_append_of_le_length (by simp [hi, hr]), List.take_of_length_le (by simp [hi, hr])]
   rw [e, List.take_append_of_le_length (by simp [hi, hr]), List.take_of_length_le (by simp [hi, hr])]
  simp (maxSteps := 1000000) [hho, hCl, h1, h2, h3, h4, h5, h6, h7, h8, h9, h10, h11, h12, h13, h14, h15, h16, h17, h18, hcell, hcl, hroom, roOf, holdOf, wrOf, altK, heldOk, Region.binds, -List.reduceReplicate]
  intro _
  refine ⟨⟨by omega, hcell⟩, by omega, ?_⟩
  refine Ret.cutT 0 (i + r) rfl ?_ (by omega) rfl ?_ (by simp [livH, livO, AV.livL, AV.liv]) ?_
  ·simp [hCl]; omega
  ·rw [hrow]; exact List.all_eq_true.2 ((cellsA_all _).2 trivial)
  ·refine Ret.same ⟨rfl, ?_⟩
   rw [hrow]
   rfl
 ·have h13 : i < c := by omega
  have h14 : n - i = 1 := by omega
  have h15 : i ≤ n := by omega
  have hrow0 : ∀ z, List.take (i * 5) (List.take (i * 5) C ++ z) = cellsA pre := by
   intro z
   have e : List.take (i * 5) C = cellsA pre := by
    rw [hC, cellsA_app, List.append_assoc, List.take_append_of_le_length (by simp [hi]), List.take_of_length_le (by simp [hi])]
   rw [e, List.take_append_of_le_length (by simp [hi]), List.take_of_length_le (by simp [hi])]
  simp (maxSteps := 1000000) [hho, hCl, h1, h2, h3, h4, h5, h6, h7, h8, h9, h10, h13, h14, h15, hcl, roOf, holdOf, wrOf, altK, heldOk, Region.binds, -List.reduceReplicate]
  intro _
  obtain rfl : r = 0 := by omega
  refine ⟨by omega, by omega, ?_⟩
  obtain rfl : post = [] := List.eq_nil_of_length_eq_zero hr
  refine Ret.cutT 0 i rfl ?_ (by omega) rfl ?_ (by simp [livH, livO, AV.livL, AV.liv]) ?_
  ·simp [hCl]; omega
  ·rw [hrow0]; exact List.all_eq_true.2 ((cellsA_all _).2 trivial)
  ·refine Ret.same ⟨rfl, ?_⟩
   rw [hrow0, List.append_nil]
   rfl
theorem rowC1 (x : CellS) : rowC [x] = .o (.row 190 5) (cellA x) := by simp [rowC, cellsA]
theorem insertC_nil (x : CellS) : ACalls Tryz.prog 165 [.sl 0 5 0 0 0, .c (.int .i64 0), .sl 1 5 0 1 5] [rowC [], rowC [x]] (fun k => decide (k = 1)) (fun q h' => q = .sl 0 5 0 1 5 ∧ h' = [rowC [x], rowC [x]]) := by
 refine acalls mixed Tryz.func165 rfl Tryz.ntmps165 rfl fun E hE hst hho => ?_
 have h3 : List.take 5 (cellA x) = cellA x := rfl
 have e0 : rowC [] = .o (.row 190 5) [] := rfl
 rw [rowC1, e0]
 simp (maxSteps := 1000000) [hho, h3, -List.reduceReplicate]
 exact Ret.same ⟨rfl, rfl⟩
set_option maxHeartbeats 4000000 in
theorem insertC_end (l : List CellS) (x : CellS) (n : Nat) (hn : l.length = n) (h0 : 0 < n) (hl : n ≤ 2932031007401) : ACalls Tryz.prog 165 [.sl 0 5 0 n (n * 5), .c (.int .i64 (n : Int)), .sl 1 5 0 1 5] [rowC l, rowC [x]] (fun k => decide (k = 1)) (fun q h' => q = .sl 0 5 0 (n + 1) ((n + 1) * 5) ∧ h' = [rowC (l ++ [x]), rowC [x]]) := by
 refine acalls_slc 0 0 (e := 190) (sz := 5) (n := n) (m := n * 5) (cs := cellsA l) mixed Tryz.func165 rfl Tryz.ntmps165 rfl rfl rfl (by simp [hn]) rfl (by omega) fun E hE hst hho c hc1 hc2 => ?_
 obtain ⟨C, hC⟩ : ∃ C, C = cellsA l ++ spare ((c - n) * 5) := ⟨_, rfl⟩
 have hCl : C.length = c * 5 := by rw [hC, List.length_append, spare_length]; simp [hn]; omega
 show runK _ _ _ _ _ _ ⟨_, [.o (.row 190 5) (cellsA l ++ spare ((c - n) * 5)), rowC [x]]⟩
 rw [← hC, rowC1]
 have h3 : List.take 5 (cellA x) = cellA x := rfl
 have hpre : List.take (n * 5) C = cellsA l := by rw [hC, List.take_append_of_le_length (by simp [hn]), List.take_of_length_le (by simp [hn])]
 have h9 : n * 5 ≤ c * 5 := by omega
 have h0' : ¬ n = 0 := by omega
 have h1 : cellsA (l ++ [x]) = cellsA l ++ cellA x := by simp [cellsA]
 by_cases hcap : n < c
 ·have h10 : n * 5 < c * 5 := by omega
  have h11 : (n + 1) * 5 ≤ c * 5 := by omega
  simp (maxSteps := 1000000) [hho, hCl, h0', h3, h9, h10, h11, hcap, hpre, -List.reduceReplicate]
  refine ⟨by omega, ?_⟩
  refine Ret.cutT 0 (n + 1) rfl ?_ (by omega) rfl ?_ (by simp [livH, livO, AV.livL, AV.liv, cellA, valA]) ?_
  ·simp [hCl, hn]; omega
  ·rw [← List.append_assoc, ← h1, List.take_append_of_le_length (by simp [hn]), List.take_of_length_le (by simp [hn])]
   exact List.all_eq_true.2 ((cellsA_all _).2 trivial)
  ·refine Ret.same ⟨rfl, ?_⟩
   simp only [List.set_cons_zero]
   rw [← List.append_assoc, ← h1, List.take_append_of_le_length (by simp [hn]), List.take_of_length_le (by simp [hn])]
   rfl
 ·obtain rfl : c = n := by omega
  have h11 : ¬ (c + 1) * 5 ≤ c * 5 := by omega
  simp (maxSteps := 1000000) [hho, hCl, h0', h3, h9, h11, hpre, -List.reduceReplicate]
  refine ⟨by omega, ?_⟩
  refine Ret.sel [2, 1] (fun _ => false) (ho := by rfl) (ha := by rfl) ?_ ?_ (by decide) (by simp) (fun i _ h => ?_) ⟨rfl, ?_⟩
  ·simp
  ·simp
  ·have e : i = 1 := of_decide_eq_true h
   subst e; rfl
  ·rw [rowC, h1]
set_option maxHeartbeats 4000000 in
theorem insertC_mid (pre post : List CellS) (x : CellS) (i r n : Nat) (hi : pre.length = i) (hr : post.length = r + 1) (hn : n = i + (r + 1)) (hl : n ≤ 2932031007401) : ACalls Tryz.prog 165 [.sl 0 5 0 n (n * 5), .c (.int .i64 (i : Int)), .sl 1 5 0 1 5] [rowC (pre ++ post), rowC [x]] (fun k => decide (k = 1)) (fun q h' => q = .sl 0 5 0 (n + 1) ((n + 1) * 5) ∧ h' = [rowC (pre ++ x :: post), rowC [x]]) := by
 refine acalls_slc 0 0 (e := 190) (sz := 5) (n := n) (m := n * 5) (cs := cellsA (pre ++ post)) mixed Tryz.func165 rfl Tryz.ntmps165 rfl rfl rfl (by simp [hi, hr, hn]) rfl (by omega) fun E hE hst hho c hc1 hc2 => ?_
 obtain ⟨C, hC⟩ : ∃ C, C = cellsA (pre ++ post) ++ spare ((c - n) * 5) := ⟨_, rfl⟩
 have hCl : C.length = c * 5 := by rw [hC, List.length_append, spare_length]; simp [hi, hr]; omega
 show runK _ _ _ _ _ _ ⟨_, [.o (.row 190 5) (cellsA (pre ++ post) ++ spare ((c - n) * 5)), rowC [x]]⟩
 rw [← hC, rowC1]
 have h3 : List.take 5 (cellA x) = cellA x := rfl
 obtain ⟨q, hq⟩ : ∃ q, q = r + 2 := ⟨_, rfl⟩
 have hw1 : IntKind.i64.wrap ((n : Int) + 1) = (n : Int) + 1 := IntWalk.i64_in _ (by omega)
 have hw2 : IntKind.i64.wrap ((n : Int) + 1 - i) = (q : Int) := by rw [IntWalk.i64_in _ (by omega)]; omega
 have hw3 : IntKind.i64.wrap ((i : Int) + 1) = (i : Int) + 1 := IntWalk.i64_in _ (by omega)
 have hiq : i + q = n + 1 := by omega
 have h5 : ¬ (i : Int) = n := by omega
 have h6 : c * 5 / 5 = c := by omega
 have h7 : i ≤ n := by omega
 have h8 : i * 5 < c * 5 := by omega
 have h9 : n * 5 ≤ c * 5 := by omega
 have g1 : (i : Int) < n + 1 := by omega
 have g2 : (i : Int) ≤ n + 1 := by omega
 have g3 : ((n : Int) + 1).toNat = n + 1 := by omega
 have g4 : ((i : Int) + 1).toNat = i + 1 := by omega
 have g5 : n + 1 - i = q := by omega
 have g6 : (0 : Int) ≤ (n : Int) + 1 := by omega
 have g7 : (0 : Int) ≤ (i : Int) + 1 := by omega
 have g8 : n + 1 - (i + 1) = r + 1 := by omega
 have g9 : (i : Int) + 1 ≤ (n : Int) + 1 := by omega
 have g10 : (i : Int) + 1 < (n : Int) + 1 := by omega
 have g11 : min (q * 5) 5 = 5 := by omega
 have g12 : i * 5 + q * 5 = (n + 1) * 5 := by omega
 have g13 : List.take (q * 5) (cellA x) = cellA x := List.take_of_length_le (by simp; omega)
 have g14 : (i + 1) * 5 + (r + 1) * 5 = (n + 1) * 5 := by omega
 have g15 : n - i = r + 1 := by omega
 have g16 : i * 5 ≤ c * 5 := by omega
 have g17 : 0 < q := by omega
 have hpre : List.take (i * 5) C = cellsA pre := by
  rw [hC, cellsA_app, List.append_assoc, List.take_append_of_le_length (by simp [hi]), List.take_of_length_le (by simp [hi])]
 have hpost : List.take ((r + 1) * 5) (List.drop (i * 5) C) = cellsA post := by
  rw [hC, cellsA_app, List.append_assoc, List.drop_append_of_le_length (by simp [hi]), List.drop_eq_nil_of_le (by simp [hi]), List.nil_append, List.take_append_of_le_length (by simp [hr]), List.take_of_length_le (by simp [hr])]
 have hpt : List.take ((r + 1) * 5) (cellsA post) = cellsA post := List.take_of_length_le (by simp [hr])
 by_cases hcap : (c : Int) < n + 1
 ·obtain rfl : c = n := by omega
  have hz : (rowZ q [Value.int .i64 0, Value.int .i64 0, Value.int .i64 0, Value.int .i64 0, Value.string ByteArray.empty]).length = q * 5 := by rw [rowZ_length]; rfl
  have k1 : c * 5 < (c + 1) * 5 := by omega
  have k2 : c + 1 ≤ 2932031007402 := by omega
  have k3 : i * 5 + (5 + (q * 5 - 5)) = (c + 1) * 5 := by omega
  simp (maxSteps := 1000000) [hho, hCl, h3, hw1, hw2, hw3, hiq, h5, h6, h7, h8, h9, g1, g2, g3, g4, g5, g6, g7, g8, g9, g10, g11, g12, g13, g14, g15, g16, g17, hz, k1, k2, k3, hcap, -List.reduceReplicate]
  refine ⟨by omega, ?_⟩
  refine draw_k hho (.take 0 (.take 1 (.take 2 (.take 3 (.take 4 (.take 5 (.take 6 (.take 7 (.alt 8 (.done) (.nil)))))))))) [0, 2] [(8, [2])] (by decide +kernel) (by simp) ?_
  obtain ⟨D, hD⟩ : ∃ D, D = List.take (i * 5) C ++ (cellA x ++ List.drop (i * 5 + 5) (List.take (i * 5) C ++ rowZ q [Value.int .i64 0, Value.int .i64 0, Value.int .i64 0, Value.int .i64 0, Value.string ByteArray.empty])) := ⟨_, rfl⟩
  have hDl : D.length = (c + 1) * 5 := by rw [hD]; simp only [List.length_append, List.length_take, List.length_drop, hCl, hz, cellA_length]; omega
  have hDt : List.take ((i + 1) * 5) D = cellsA (pre ++ [x]) := by
   rw [hD, hpre, ← List.append_assoc, List.take_append_of_le_length (by simp [hi]; omega), List.take_of_length_le (by simp [hi]; omega), cellsA_app]
   simp [cellsA]
  rw [← hD]
  have k4 : min (r + 1) (r + 1) = r + 1 := Nat.min_self _
  have k5 : (i + 1) * 5 ≤ (c + 1) * 5 := by omega
  have k6 : min ((r + 1) * 5) (c * 5 - i * 5) = (r + 1) * 5 := by omega
  have k10 : i * 5 + (r + 1) * 5 ≤ c * 5 := by omega
  have k11 : (i + 1) * 5 + ((r + 1) * 5 + ((c + 1) * 5 - ((i + 1) * 5 + (r + 1) * 5))) = (c + 1) * 5 := by omega
  simp (maxSteps := 1000000) [hho, hCl, hDl, hr, hpt, h3, hw3, h6, h7, h8, h9, g1, g2, g3, g4, g5, g6, g7, g8, g9, g10, g12, g14, g15, g16, k4, k5, k6, k10, k11, hpost, roOf, holdOf, wrOf, altK, heldOk, Region.binds, -List.reduceReplicate]
  intro _
  have hrow : List.take ((i + 1) * 5) D ++ (cellsA post ++ List.drop ((c + 1) * 5) D) = cellsA (pre ++ x :: post) := by
   rw [hDt, List.drop_eq_nil_of_le (by omega), List.append_nil, ← cellsA_app]
   simp
  rw [hrow]
  refine Ret.sel [2, 1] (fun _ => false) (ho := by rfl) (ha := by rfl) ?_ ?_ (by decide) (by simp) (fun i _ h => ?_) ⟨rfl, rfl⟩
  ·simp
  ·simp
  ·have e : i = 1 := of_decide_eq_true h
   subst e; rfl
 ·have k1 : (n + 1) * 5 ≤ c * 5 := by omega
  have k2 : (i + 1) * 5 < c * 5 := by omega
  simp (maxSteps := 1000000) [hho, hCl, h3, hw1, hw2, hw3, hiq, h5, h6, h7, h8, h9, g1, g2, g3, g4, g5, g6, g7, g8, g9, g10, g11, g12, g13, g14, g15, g16, g17, k1, k2, hcap, -List.reduceReplicate]
  refine ⟨by omega, ?_⟩
  refine draw_k hho (.take 0 (.take 1 (.take 2 (.take 3 (.take 4 (.take 5 (.take 6 (.take 7 (.alt 8 (.done) (.nil)))))))))) [0] [(8, [0])] (by decide +kernel) (by simp) ?_
  have k4 : min q (r + 1) = r + 1 := by omega
  have k6 : min ((r + 1) * 5) (c * 5 - i * 5) = (r + 1) * 5 := by omega
  have k7 : (i + 1) * 5 ≤ c * 5 := by omega
  have k8 : i * 5 + q * 5 ≤ c * 5 := by omega
  have k9 : (i + 1) * 5 + (r + 1) * 5 ≤ c * 5 := by omega
  have k10 : i * 5 + (r + 1) * 5 ≤ c * 5 := by omega
  have k11 : (i + 1) * 5 + ((r + 1) * 5 + (c * 5 - (n + 1) * 5)) = c * 5 := by omega
  simp (maxSteps := 1000000) [hho, hCl, h3, hw3, h6, h7, h8, h9, g1, g2, g3, g4, g5, g6, g7, g8, g9, g10, g11, g12, g13, g14, g15, g16, g17, k1, k2, k4, k6, k7, k8, k9, k10, k11, hpost, hpt, hr, roOf, holdOf, wrOf, altK, heldOk, Region.binds, -List.reduceReplicate]
  intro _
  have hrow : List.take (i * 5) (List.take ((i + 1) * 5) C ++ (cellsA post ++ List.drop ((n + 1) * 5) C)) ++ (cellA x ++ List.drop (i * 5 + 5) (List.take ((i + 1) * 5) C ++ (cellsA post ++ List.drop ((n + 1) * 5) C))) = cellsA (pre ++ x :: post) ++ List.drop ((n + 1) * 5) C := by
   have hl1 : (List.take ((i + 1) * 5) C).length = (i + 1) * 5 := by rw [List.length_take, hCl]; omega
   rw [List.take_append_of_le_length (by omega), List.take_take, show min (i * 5) ((i + 1) * 5) = i * 5 by omega, hpre, show i * 5 + 5 = (i + 1) * 5 by omega, List.drop_append_of_le_length (by omega), List.drop_eq_nil_of_le (by omega), cellsA_app, cellsA_cons]
   simp
  rw [hrow]
  have hlen : (cellsA (pre ++ x :: post)).length = (n + 1) * 5 := by simp [hi, hr]; omega
  refine Ret.cutT 0 (n + 1) rfl ?_ (by omega) rfl ?_ (by simp [livH, livO, AV.livL, AV.liv, cellA, valA]) ?_
  ·rw [List.length_append, hlen, List.length_drop, hCl]; omega
  ·rw [List.take_append_of_le_length (by omega), List.take_of_length_le (by omega)]
   exact List.all_eq_true.2 ((cellsA_all _).2 trivial)
  ·refine Ret.same ⟨rfl, ?_⟩
   simp only [List.set_cons_zero]
   rw [List.take_append_of_le_length (by omega), List.take_of_length_le (by omega)]
   rfl

theorem clone_cellsAV (n : Nat) (l : List AV) (hl : l.length = n * 5) (hn : n ≤ 1000000000000) (hc : ∀ x ∈ l, isCell x = true) : ACalls Tryz.prog 161 [.fs 5 n l] [] (fun _ => false) (fun r h' => r = .sl 0 5 0 n (n * 5) ∧ h' = [.o (.row 190 5) l]) := by
 refine acalls mixed Tryz.func161 rfl Tryz.ntmps161 rfl fun E hE _ hho => ?_
 simp [hho, noHo, -List.reduceReplicate]
 refine ⟨⟨⟨by omega, hc⟩, Ret.same ⟨rfl, rfl⟩⟩, fun h0 => ?_⟩
 subst h0
 have : l = [] := List.eq_nil_of_length_eq_zero hl
 subst this
 refine Ret.wk (h2 := [.o (.row 190 5) []]) (r2 := .sl 0 5 0 0 0) (fun E hE => wk_virt 0 190 5 rfl) (Ret.same ⟨rfl, rfl⟩)
theorem find_row (l : List CellS) (n : Nat) (hn : n = l.length) (hl : n ≤ 2932031007402) (k : Int) : ACalls Tryz.prog 162 [.sl 0 5 0 n (n * 5), .c (.int .i64 k)] [rowC l] (fun i => decide (i < 1)) (fun r h' => r = .tup [.c (.int .i64 (findC l k)), .c (.bool (hasC l k))] ∧ h' = [rowC l]) := by
 refine acalls mixed Tryz.func162 rfl Tryz.ntmps162 rfl fun E hE hst hho => ?_
 have hs := search_cell l n hn hl k
 simp (maxSteps := 1000000) [rowC, hho, noHo, -List.reduceReplicate]
 refine call_x [0] hs rfl rfl ⟨rfl, rfl⟩ hho (by simp) (by decide) (by simp) (by simp [rowC]) ?_
 simp (maxSteps := 1000000) [rowC, hho, noHo, -List.reduceReplicate]
 exact Ret.same ⟨rfl, rfl⟩
theorem clone_cells (l : List CellS) (hl : l.length ≤ 1000000) : ACalls Tryz.prog 161 [.fs 5 l.length (cellsA l)] [] (fun _ => false) (fun r h' => r = .sl 0 5 0 l.length (l.length * 5) ∧ h' = [rowC l]) := clone_cellsAV l.length (cellsA l) (by simp) (by omega) ((cellsA_cell l).2 trivial)
end Go.Proofs.YthgoocdldnkogaaGreatDoor
namespace Go.Proofs.YthgoocdldnkogaaGreatDoor
set_option linter.unusedVariables false
set_option linter.unusedSimpArgs false
open Go.RowKit
theorem cellOk_put (k : Int) (v : ValS) : cellOk ⟨k, v⟩ = putOk k v := rfl
theorem drop_has {l : List CellS} {k : Int} (h : hasC l k = true) : ∃ x, findC l k < l.length ∧ x.col = k ∧ l.drop (findC l k) = x :: l.drop (findC l k + 1) := by
 unfold hasC at h
 split at h
 ·rename_i x hx
  obtain ⟨hi, rfl⟩ := List.getElem?_eq_some_iff.1 hx
  exact ⟨_, hi, of_decide_eq_true h, List.drop_eq_getElem_cons hi⟩
 ·cases h
theorem rest_not {l : List CellS} {k : Int} (h : hasC l k = false) : restR k (l.drop (findC l k)) = l.drop (findC l k) := by
 unfold hasC at h
 split at h
 ·rename_i x hx
  obtain ⟨hi, rfl⟩ := List.getElem?_eq_some_iff.1 hx
  rw [List.drop_eq_getElem_cons hi]
  simp only [restR, if_neg (of_decide_eq_false h)]
 ·rename_i hx
  rw [List.drop_eq_nil_of_le (List.getElem?_eq_none_iff.1 hx)]
  rfl
theorem set_del {l : List CellS} (hok : okR (-1) l = true) {k : Int} (h0 : 0 ≤ k) {v : ValS} (hp : putOk k v = false) (hh : hasC l k = true) : setR l k v = l.take (findC l k) ++ l.drop (findC l k + 1) := by
 obtain ⟨a, b⟩ := findC_split hok k
 obtain ⟨x, _, hx, e⟩ := drop_has hh
 have h := goS_del h0 v (by rw [List.take_append_drop]; exact hok) a b
 rw [List.take_append_drop] at h
 rw [setR, hp]
 show goS k v true l = _
 rw [h, e]
 simp only [restR, if_pos hx]
theorem set_none {l : List CellS} (hok : okR (-1) l = true) {k : Int} (h0 : 0 ≤ k) {v : ValS} (hp : putOk k v = false) (hh : hasC l k = false) : setR l k v = l := by
 obtain ⟨a, b⟩ := findC_split hok k
 have h := goS_del h0 v (by rw [List.take_append_drop]; exact hok) a b
 rw [List.take_append_drop] at h
 rw [setR, hp]
 show goS k v true l = _
 rw [h, rest_not hh, List.take_append_drop]
theorem set_put {l : List CellS} (hok : okR (-1) l = true) {k : Int} (h0 : 0 ≤ k) {v : ValS} (hp : putOk k v = true) (hh : hasC l k = true) : setR l k v = l.set (findC l k) ⟨k, v⟩ := by
 obtain ⟨a, b⟩ := findC_split hok k
 obtain ⟨x, hi, hx, e⟩ := drop_has hh
 have h := goS_put h0 v (by rw [List.take_append_drop]; exact hok) a b
 rw [List.take_append_drop] at h
 rw [setR, hp]
 show goS k v false l = _
 rw [h, e]
 simp only [restR, if_pos hx]
 rw [List.set_eq_take_append_cons_drop, if_pos hi]
theorem set_ins {l : List CellS} (hok : okR (-1) l = true) {k : Int} (h0 : 0 ≤ k) {v : ValS} (hp : putOk k v = true) (hh : hasC l k = false) : setR l k v = l.take (findC l k) ++ ⟨k, v⟩ :: l.drop (findC l k) := by
 obtain ⟨a, b⟩ := findC_split hok k
 have h := goS_put h0 v (by rw [List.take_append_drop]; exact hok) a b
 rw [List.take_append_drop] at h
 rw [setR, hp]
 show goS k v false l = _
 rw [h, rest_not hh]
end Go.Proofs.YthgoocdldnkogaaGreatDoor
namespace Go.Proofs.YthgoocdldnkogaaGreatDoor
set_option linter.unusedVariables false
set_option linter.unusedSimpArgs false
open Go.RowKit
attribute [local simp] isCut_nil isCut_region isCut_seq isCut_block isCut_loop isCut_cond isCut_skip isCut_exit isCut_ret isCut_range swapK putK altK condK_bool pickP_bool stepP stepO onPure_some onPure_none onImpl_some onImpl_none stepC onGP_some onGP_none onGV_some condG mkG onIt_it nextP_ptr takeP_eq takeV_some takeV_none takeU_some takeU_none takeQ takeW_some takeN_none takeN_some takeG_some takeO_some altO_some pureV binV2 eqF eqOp ovlV ovl2 rowAt capV binV intBin strBin isSh shV fldV ixV sliceV slice3V loadAV nilV lenV callV unV convV viewS cellsH loadV fldCut AV.ung AV.ungs AV.gc AV.cells AS.ev AS.put anyS gcsV gcO lens lnO gV guardV retK RetP_eq resV oneV anyRo loIx hiIx implO callP_clo evL gcsL clearV storeAV AS.push AS.setO appV appZ shortS copyV buildV partsV fillV srcV fzO okV isCell_c isCell_ptr isCell_sl isCell_fs isCell_fp isCell_clo rowZ_one rowZ_zero rowZ_2 rowZ_3 rowZ_4 rowZ_5 rowZ_6 rowZ_7 rowZ_8 rowZ_9 rowZ_10 rowZ_11 rowZ_12 noHo Value.oneCell' max2V min2V lookV updV updK updW cvals mkAt basV lenM msAt afterH putBack frzFrom frzO rebO backIx nilEq_sl nilEq_fs nilEq_ifn nilEq_ifh ifOp_eql ifOp_neq isLit nilOp_eql nilOp_neq AV.reb AV.rebL
attribute [local simp ↓] runK_skip runK_region runK_draw runK_seq runK_cut runK_cond runK_block runK_loop runK_exit runK_label runK_goto runK_ret runK_range contK_nil contK_seq contK_seq_ret contK_seq_exit contK_seq_goto contK_block contK_block_ret contK_block_goto contK_block_exit runO_nil runO_cons roundK_exit roundK_ret roundK_goto exitK_ret cutK_ret cutK_exit runE_done runE_nil runE_take runE_alt condG_true condG_false
set_option maxRecDepth 10000
theorem ret_cells {st : Nat → Bool} {Post : AV → List AObj → Prop} {x : AObj} {d : List CellS} {rest : List AObj} (m : Nat) (hm : m = d.length) (hd : d.length ≤ 2000000) (hst : ∀ i, st i = false) (hp : Post (.fs 5 d.length (cellsA d)) []) : Ret st Post (x :: rowC d :: rest) (.sl 1 5 0 m (m * 5)) := by
 subst hm
 have hL : (cellsA d).length = d.length * 5 := cellsA_length d
 have htk : List.take (d.length * 5) (cellsA d) = cellsA d := List.take_of_length_le (by omega)
 refine Ret.sel [] (fun k => k == 1) (ho := by rfl) (ha := by rfl) ?_ ?_ (by decide) (by simp) (fun i _ h => by rw [hst] at h; cases h) ?_
 ·simp
 ·exact ⟨hL, by omega, by unfold maxLen; omega, by rw [List.drop_zero, htk]; exact List.all_eq_true.2 ((cellsA_all d).2 trivial)⟩
 ·show Post (AV.fs 5 d.length (List.take (d.length * 5) (List.drop 0 (cellsA d)))) []
  rw [List.drop_zero, htk]; exact hp
theorem insert_cell (l : List CellS) (x : CellS) (i : Nat) (hi : i ≤ l.length) (hl : l.length ≤ 2932031007401) : ACalls Tryz.prog 165 [.sl 0 5 0 l.length (l.length * 5), .c (.int .i64 (i : Int)), .sl 1 5 0 1 5] [rowC l, rowC [x]] (fun k => decide (k = 1)) (fun q h' => q = .sl 0 5 0 (l.length + 1) ((l.length + 1) * 5) ∧ h' = [rowC (l.take i ++ x :: l.drop i), rowC [x]]) := by
 rcases Nat.lt_or_ge i l.length with h | h
 ·have := insertC_mid (l.take i) (l.drop i) x i (l.length - i - 1) l.length (by simp; omega) (by simp; omega) (by omega) hl
  rw [List.take_append_drop] at this
  exact this
 ·obtain rfl : i = l.length := by omega
  have e : l.take l.length ++ x :: l.drop l.length = l ++ [x] := by simp
  rw [e]
  rcases Nat.eq_zero_or_pos l.length with h0 | h0
  ·obtain rfl : l = [] := List.eq_nil_of_length_eq_zero h0
   exact insertC_nil x
  ·exact insertC_end l x l.length rfl h0 hl
set_option maxHeartbeats 4000000 in
theorem set_row (l : List CellS) (hl : l.length ≤ 1000000) (hok : okR (-1) l = true) (k : Int) (v : ValS) (hv : v.t.size ≤ 9000000000000000000) : ACalls Tryz.prog 113 [.fs 5 l.length (cellsA l), .c (.int .i64 k), .agg (valA v)] [] (fun _ => false) (fun r h' => r = .fs 5 (setR l k v).length (cellsA (setR l k v)) ∧ h' = []) := by
 refine acalls mixed Tryz.func113 rfl Tryz.ntmps113 rfl fun E hE hst hho => ?_
 have hcl := clone_cells l hl
 have hf := find_row l l.length rfl (by omega) k
 have hr := cell_right ⟨k, v⟩ hv
 rw [cellOk_put] at hr
 simp (maxSteps := 1000000) [hho, noHo, valA, -List.reduceReplicate]
 refine call_x [] hcl rfl rfl ⟨rfl, rfl⟩ hho (by simp) (by decide) (by simp) (by simp) ?_
 by_cases hk : k < 0
 ·rw [set_neg hk]
  simp (maxSteps := 1000000) [rowC, hho, noHo, hk, -List.reduceReplicate]
  exact ret_cells l.length rfl (by omega) (fun _ => rfl) ⟨rfl, rfl⟩
 ·simp (maxSteps := 1000000) [rowC, hho, noHo, hk, -List.reduceReplicate]
  refine call_x [1] hf rfl rfl ⟨rfl, rfl⟩ hho (by simp) (by decide) (by simp) (by simp [rowC]) ?_
  simp (maxSteps := 1000000) [rowC, hho, noHo, -List.reduceReplicate]
  have hk0 : 0 ≤ k := by omega
  have hT := findC_le l k
  obtain ⟨T, hTe⟩ : ∃ T, T = findC l k := ⟨_, rfl⟩
  have ewT : IntKind.i64.wrap ((T : Int) + 1) = (T + 1 : Nat) := by rw [IntWalk.i64_in _ (by omega)]; rfl
  have hc5 : List.take 5 (cellA ⟨k, v⟩) = cellA ⟨k, v⟩ := rfl
  rw [← hTe] at hT ⊢
  cases hp : putOk k v with
  | false =>
   rw [hp] at hr
   cases hh : hasC l k with
   | false =>
    rw [set_none hok hk0 hp hh]
    refine call_x [] hr rfl rfl ⟨rfl, rfl⟩ hho (by simp) (by decide) (by simp) (by simp) ?_
    simp (maxSteps := 1000000) [rowC, hho, noHo, -List.reduceReplicate]
    refine call_x [] hr rfl rfl ⟨rfl, rfl⟩ hho (by simp) (by decide) (by simp) (by simp) ?_
    simp (maxSteps := 1000000) [rowC, hho, noHo, -List.reduceReplicate]
    exact ret_cells l.length rfl (by omega) (fun _ => rfl) ⟨rfl, rfl⟩
   | true =>
    rw [set_del hok hk0 hp hh, ← hTe]
    obtain ⟨x, hi, hx, e⟩ := drop_has hh
    rw [← hTe] at hi e
    have hlt : (l.take T).length = T := by rw [List.length_take]; omega
    have hld : (l.drop (T + 1)).length = l.length - (T + 1) := List.length_drop
    have hd := delete_cell (l.take T) (l.drop (T + 1)) x T (l.length - (T + 1)) l.length hlt hld (by omega) (by omega)
    rw [← e, List.take_append_drop] at hd
    obtain ⟨D, hD⟩ : ∃ D, D = l.take T ++ l.drop (T + 1) := ⟨_, rfl⟩
    have hDl : T + (l.length - (T + 1)) = D.length := by rw [hD, List.length_append, hlt, hld]
    rw [← hD] at hd ⊢
    rw [hDl] at hd
    have hd2 : ACalls Tryz.prog 164 [.sl 0 5 0 l.length (l.length * 5), .c (.int .i64 (T : Int)), .c (.int .i64 ((T : Int) + 1))] [.o (.row 190 5) (cellsA l)] (fun _ => false) (fun q h' => q = .sl 0 5 0 D.length (D.length * 5) ∧ h' = [.o (.row 190 5) (cellsA D)]) := hd
    refine call_x [] hr rfl rfl ⟨rfl, rfl⟩ hho (by simp) (by decide) (by simp) (by simp) ?_
    simp (maxSteps := 1000000) [rowC, hho, noHo, ewT, -List.reduceReplicate]
    refine callG_less 0 [.c (.int .i64 v.k), .c (.int .i64 v.n), .c (.int .i64 v.s), .c (.string v.t)] (slotsOf 54 []) rfl (by simp [livH, livO, AV.livL, AV.liv, wkL, wkV, List.range']) (by simp [livH, livO, AV.livL, AV.liv, wkL, wkV, List.range', slotsOf]) ?_
    refine call_d [1] (fun _ => false) [1] hd2 rfl rfl ⟨rfl, rfl⟩ hho (fun i k h => ?_) (by simp [livH, livO, AV.livL, AV.liv, wkL, wkV, List.range', slotsOf]) (by simp [livH, livO, AV.livL, AV.liv, wkL, wkV, List.range', cellA, valA]) (by simp [hst]) (by decide) (by decide) (by simp) (by simp) ?_
    ·match i, h with
     | 0, h => simp at h; subst h; exact .inr (by simp)
     | i + 1, h => simp at h
    simp (maxSteps := 1000000) [rowC, slotsOf, hho, noHo, -List.reduceReplicate]
    refine ret_cells D.length rfl (by omega) (fun _ => rfl) ?_
    exact ⟨rfl, rfl⟩
  | true =>
   rw [hp] at hr
   cases hh : hasC l k with
   | true =>
    rw [set_put hok hk0 hp hh, ← hTe]
    obtain ⟨x, hi, hx, e⟩ := drop_has hh
    rw [← hTe] at hi
    have hTi : (T : Int) < l.length := by omega
    have el : T * 5 + 5 ≤ l.length * 5 := by omega
    have hset := cellsA_set l T hi ⟨k, v⟩
    obtain ⟨D, hD⟩ : ∃ D, D = l.set T ⟨k, v⟩ := ⟨_, rfl⟩
    have hDl : l.length = D.length := by rw [hD, List.length_set]
    rw [← hD] at hset ⊢
    simp only [cellA, valA] at hset
    refine call_x [] hr rfl rfl ⟨rfl, rfl⟩ hho (by simp) (by decide) (by simp) (by simp) ?_
    simp (maxSteps := 1000000) [rowC, hho, noHo, undef, onGP_none, condG_false, -List.reduceReplicate]
    refine call_x [] hr rfl rfl ⟨rfl, rfl⟩ hho (by simp) (by decide) (by simp) (by simp) ?_
    simp (maxSteps := 1000000) [rowC, hho, noHo, hi, hTi, el, -List.reduceReplicate]
    simp only [List.cons_append, List.nil_append] at hset
    rw [hset]
    refine ret_cells l.length hDl (by omega) (fun _ => rfl) ?_
    exact ⟨rfl, rfl⟩
   | false =>
    rw [set_ins hok hk0 hp hh, ← hTe]
    have hd := insert_cell l ⟨k, v⟩ T hT (by omega)
    obtain ⟨D, hD⟩ : ∃ D, D = l.take T ++ ⟨k, v⟩ :: l.drop T := ⟨_, rfl⟩
    have hDl : l.length + 1 = D.length := by rw [hD]; simp; omega
    rw [← hD] at hd ⊢
    rw [hDl] at hd
    have hd2 : ACalls Tryz.prog 165 [.sl 0 5 0 l.length (l.length * 5), .c (.int .i64 (T : Int)), .sl 1 5 0 1 5] [.o (.row 190 5) (cellsA l), .o (.row 190 5) (cellA ⟨k, v⟩)] (fun k => decide (k = 1)) (fun q h' => q = .sl 0 5 0 D.length (D.length * 5) ∧ h' = [.o (.row 190 5) (cellsA D), .o (.row 190 5) (cellA ⟨k, v⟩)]) := hd
    simp only [cellA, valA] at hd2
    refine call_x [] hr rfl rfl ⟨rfl, rfl⟩ hho (by simp) (by decide) (by simp) (by simp) ?_
    simp (maxSteps := 1000000) [rowC, hho, noHo, undef, onGP_none, condG_false, -List.reduceReplicate]
    refine call_x [] hr rfl rfl ⟨rfl, rfl⟩ hho (by simp) (by decide) (by simp) (by simp) ?_
    simp (maxSteps := 1000000) [rowC, hho, noHo, -List.reduceReplicate]
    refine callG_less 0 [.c (.int .i64 v.k), .c (.int .i64 v.n), .c (.int .i64 v.s), .c (.string v.t)] (slotsOf 54 []) rfl (by simp [livH, livO, AV.livL, AV.liv, wkL, wkV, List.range']) (by simp [livH, livO, AV.livL, AV.liv, wkL, wkV, List.range', slotsOf]) ?_
    refine call_d [1, 3] (fun _ => false) [1] hd2 rfl rfl ⟨rfl, rfl⟩ hho (fun i k h => ?_) (by simp [livH, livO, AV.livL, AV.liv, wkL, wkV, List.range', slotsOf]) (by simp [livH, livO, AV.livL, AV.liv, wkL, wkV, List.range']) (by simp [hst]) (by decide) (by decide) (by simp) (by simp) ?_
    ·match i, h with
     | 0, h => simp at h; subst h; exact .inr (by simp)
     | 1, h => exact .inl rfl
     | i + 2, h => simp at h
    simp (maxSteps := 1000000) [rowC, slotsOf, hho, noHo, -List.reduceReplicate]
    refine ret_cells D.length rfl (by omega) (fun _ => rfl) ?_
    exact ⟨rfl, rfl⟩
end Go.Proofs.YthgoocdldnkogaaGreatDoor
