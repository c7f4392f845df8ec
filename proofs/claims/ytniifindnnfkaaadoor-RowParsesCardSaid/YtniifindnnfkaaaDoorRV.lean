import Derived.Test.YtniifindnnfkaaaDoorRU
import Derived.Test.YtniifindnnfkaaaDoorHR4
namespace Go.Proofs.YtniifindnnfkaaaDoor
set_option linter.unusedVariables false
set_option linter.unusedSimpArgs false
open Go.RowKit
attribute [local simp] isCut_nil isCut_region isCut_seq isCut_block isCut_loop isCut_cond isCut_skip isCut_exit isCut_ret isCut_range swapK putK altK condK_bool pickP_bool stepP stepO onPure_some onPure_none onImpl_some onImpl_none stepC onGP_some onGP_none onGV_some condG mkG onIt_it nextP_ptr takeP_eq takeV_some takeV_none takeU_some takeU_none takeQ takeW_some takeN_none takeN_some takeG_some takeO_some altO_some pureV binV2 eqF eqOp ovlV ovl2 rowAt capV binV intBin strBin isSh shV fldV ixV sliceV slice3V loadAV nilV lenV callV unV convV viewS cellsH loadV fldCut AV.ung AV.ungs AV.gc AV.cells AS.ev AS.put anyS gcsV lens lnO gV guardV retK RetP_eq resV oneV anyRo loIx hiIx implO callP_clo evL gcsL clearV storeAV AS.push AS.setO appV appZ shortS copyV buildV partsV fillV srcV fzO okV isCell_c isCell_ptr isCell_sl isCell_fs isCell_fp isCell_clo rowZ_one rowZ_zero rowZ_2 rowZ_3 rowZ_4 rowZ_5 rowZ_6 rowZ_7 rowZ_8 rowZ_9 rowZ_10 rowZ_11 rowZ_12 noHo Value.oneCell' max2V min2V lookV updV lenM msAt afterH putBack frzFrom frzO rebO backIx nilEq_sl nilEq_fs nilOp_eql nilOp_neq AV.reb AV.rebL
attribute [local simp ↓] runK_skip runK_region runK_draw runK_seq runK_cut runK_cond runK_block runK_loop runK_exit runK_label runK_goto runK_ret runK_range contK_nil contK_seq contK_seq_ret contK_seq_exit contK_seq_goto contK_block contK_block_ret contK_block_goto contK_block_exit runO_nil runO_cons roundK_exit roundK_ret roundK_goto exitK_ret cutK_ret cutK_exit runE_done runE_nil runE_take runE_alt condG_true condG_false
set_option maxRecDepth 10000
/-! ## row.Get, row.Keep; the document's Get, Keep, Set -/
theorem ret_cells0 {st : Nat → Bool} {Post : AV → List AObj → Prop} {d : List CellS} {rest : List AObj} (m : Nat) (hm : m = d.length) (hd : d.length ≤ 2000000) (hst : ∀ i, st i = false) (hp : Post (.fs 5 d.length (cellsA d)) []) : Ret st Post (rowC d :: rest) (.sl 0 5 0 m (m * 5)) := by
  subst hm
  have hL : (cellsA d).length = d.length * 5 := cellsA_length d
  have htk : List.take (d.length * 5) (cellsA d) = cellsA d := List.take_of_length_le (by omega)
  refine Ret.sel [] (fun k => k == 0) (ho := by rfl) (ha := by rfl) ?_ ?_ (by decide) (by simp) (fun i _ h => by rw [hst] at h; cases h) ?_
  · simp
  · exact ⟨hL, by omega, by unfold maxLen; omega, by rw [List.drop_zero, htk]; exact List.all_eq_true.2 ((cellsA_all d).2 trivial)⟩
  · show Post (AV.fs 5 d.length (List.take (d.length * 5) (List.drop 0 (cellsA d)))) []
    rw [List.drop_zero, htk]; exact hp
theorem get1_cell (x : CellS) (k : Int) : ACalls Tryd.prog 42 [.agg (cellA x), .ptr 0 0 1] [.o .box [.c (.int .i64 k)]] (fun k => decide (k < 1)) (fun r h' => r = .c (.bool (decide (x.col = k))) ∧ h' = [.o .box [.c (.int .i64 k)]]) := by
  refine acalls mixed Tryd.func42 rfl Tryd.ntmps42 rfl fun E hE hst hho => ?_
  simp (maxSteps := 1000000) [cellA, valA, hho, noHo, -List.reduceReplicate]
  refine Ret.sel [0] (fun _ => false) (ho := by rfl) (ha := by rfl) ?_ ?_ (by decide) (by simp) (fun i _ h => ?_) ⟨?_, rfl⟩
  · simp
  · simp
  · have e : i = 0 := of_decide_eq_true h
    subst e; rfl
  · rfl
theorem getR_ix (l : List CellS) (k : Int) : (∃ i : Nat, ∃ hi : i < l.length, ixF (fun x : CellS => decide (x.col = k)) l = i ∧ getR l k = l[i].v) ∨ (ixF (fun x : CellS => decide (x.col = k)) l = -1 ∧ getR l k = vZ) := by
  rcases ixF_cases (fun x : CellS => decide (x.col = k)) l with ⟨i, hi, h1, h2, h3⟩ | ⟨h1, h2⟩
  · refine .inl ⟨i, hi, h1, ?_⟩
    have : l.find? (fun c => decide (c.col = k)) = some l[i] := by
      rw [List.find?_eq_some_iff_getElem]
      exact ⟨h3, i, hi, rfl, fun q hq => by rw [h2 q (by omega) hq]; rfl⟩
    simp only [getR, this]
  · exact .inr ⟨h1, getR_none fun c hc => by
      obtain ⟨i, hi, rfl⟩ := List.getElem_of_mem hc
      exact of_decide_eq_false (h2 i hi)⟩
theorem cellsA_v (l : List CellS) (j : Nat) (hj : j < l.length) : List.take 4 (List.drop (j * 5 + 1) (cellsA l)) = valA l[j].v := by
  have h := cellsA_at l j hj
  have h2 : List.drop 1 (List.take 5 (List.drop (j * 5) (cellsA l))) = valA l[j].v := by rw [h]; rfl
  rw [List.drop_take, List.drop_drop] at h2
  exact h2
set_option maxHeartbeats 4000000 in
theorem get_row (l : List CellS) (hl : l.length ≤ 1000000) (k : Int) : ACalls Tryd.prog 17 [.fs 5 l.length (cellsA l), .c (.int .i64 k)] [] (fun _ => false) (fun r h' => r = .agg (valA (getR l k)) ∧ h' = []) := by
  refine acalls mixed Tryd.func17 rfl Tryd.ntmps17 rfl fun E hE hst hho => ?_
  have hic := ifc_cells l hl (fun x : CellS => decide (x.col = k)) 42 (by simp) (.int .i64 k) fun x _ => get1_cell x k
  rcases getR_ix l k with ⟨i, hi, h1, h2⟩ | ⟨h1, h2⟩
  · rw [h1] at hic
    rw [h2]
    have hat := cellsA_at l i hi
    have el : i * 5 + 5 ≤ l.length * 5 := by omega
    obtain ⟨x, hx⟩ : ∃ x, x = l[i] := ⟨_, rfl⟩
    rw [← hx] at hat ⊢
    have h5 : List.take 5 (cellA x) = cellA x := rfl
    simp (maxSteps := 1000000) [hho, noHo, -List.reduceReplicate]
    refine call_x [0] hic rfl rfl ⟨rfl, rfl⟩ hho (by simp) (by decide) (by simp) (by simp) ?_
    simp (maxSteps := 1000000) [hho, noHo, hi, hat, el, cellA, valA, -List.reduceReplicate]
    exact Ret.drop (by rfl) ⟨rfl, rfl⟩
  · rw [h1] at hic
    rw [h2]
    simp (maxSteps := 1000000) [hho, noHo, -List.reduceReplicate]
    refine call_x [0] hic rfl rfl ⟨rfl, rfl⟩ hho (by simp) (by decide) (by simp) (by simp) ?_
    simp (maxSteps := 1000000) [hho, noHo, -List.reduceReplicate]
    exact Ret.drop (by rfl) ⟨rfl, rfl⟩
theorem keep1_cell (x : CellS) (ks : List Int) (hk : ks.length ≤ 1000000) : ACalls Tryd.prog 44 [.agg (cellA x), .ptr 0 0 1] [.o .box [.fs 1 ks.length (intsA ks)]] (fun k => decide (k < 1)) (fun r h' => r = .c (.bool (!memI ks x.col)) ∧ h' = [.o .box [.fs 1 ks.length (intsA ks)]]) := by
  refine acalls mixed Tryd.func44 rfl Tryd.ntmps44 rfl fun E hE hst hho => ?_
  simp (maxSteps := 1000000) [cellA, valA, hho, noHo, -List.reduceReplicate]
  refine call_x [] (contains_int ks x.col (by omega)) rfl rfl ⟨rfl, rfl⟩ hho (by simp) (by decide) (by simp) (by simp) ?_
  simp (maxSteps := 1000000) [cellA, valA, hho, noHo, -List.reduceReplicate]
  refine Ret.sel [0] (fun _ => false) (ho := by rfl) (ha := by rfl) ?_ ?_ (by decide) (by simp) (fun i _ h => ?_) ⟨?_, rfl⟩
  · simp
  · simp
  · have e : i = 0 := of_decide_eq_true h
    subst e; rfl
  · rfl
theorem keep_live (l : List CellS) (ks : List Int) : liveC (fun x => !memI ks x.col) l = keepR l ks := by
  unfold liveC keepR
  congr 1
  funext x
  rw [Bool.not_not, memI_eq]
theorem keepR_len (l : List CellS) (ks : List Int) : (keepR l ks).length ≤ l.length := List.length_filter_le _ _
set_option maxHeartbeats 4000000 in
theorem keep_row (l : List CellS) (hl : l.length ≤ 1000000) (ks : List Int) (hk : ks.length ≤ 1000000) : ACalls Tryd.prog 18 [.fs 5 l.length (cellsA l), .fs 1 ks.length (intsA ks)] [] (fun _ => false) (fun r h' => r = .fs 5 (keepR l ks).length (cellsA (keepR l ks)) ∧ h' = []) := by
  refine acalls mixed Tryd.func18 rfl Tryd.ntmps18 rfl fun E hE hst hho => ?_
  have hcl := clone_cells l hl
  have hdl := deleteFunc_cells l l.length rfl hl (fun x => !memI ks x.col) 44 (by simp) ks.length (intsA ks) fun x _ => keep1_cell x ks hk
  rw [keep_live] at hdl
  have hkl := keepR_len l ks
  obtain ⟨K, hK⟩ : ∃ K, K = keepR l ks := ⟨_, rfl⟩
  rw [← hK] at hdl hkl ⊢
  simp (maxSteps := 1000000) [hho, noHo, -List.reduceReplicate]
  refine call_x [] hcl rfl rfl ⟨rfl, rfl⟩ hho (by simp) (by decide) (by simp) (by simp) ?_
  simp (maxSteps := 1000000) [rowC, hho, noHo, -List.reduceReplicate]
  have hd2 : ACalls Tryd.prog 43 [.sl 0 5 0 l.length (l.length * 5), .clo (.func 44) [] [.ptr 1 0 1]] [.o (.row 38 5) (cellsA l), .o .box [.fs 1 ks.length (intsA ks)]] (fun k => decide (k = 1)) (fun q h' => q = .sl 0 5 0 K.length (K.length * 5) ∧ h' = [.o (.row 38 5) (cellsA K), .o .box [.fs 1 ks.length (intsA ks)]]) := hdl
  refine callG_less 0 [.fs 1 ks.length (intsA ks)] (slotsOf 9 []) rfl (by simp [livH, livO, AV.livL, AV.liv, wkL, wkV, List.range']) (by simp [livH, livO, AV.livL, AV.liv, wkL, wkV, List.range', slotsOf]) ?_
  refine call_d [1, 0] (fun _ => false) [1] hd2 rfl rfl ⟨rfl, rfl⟩ hho (fun i k h => ?_) (by simp [livH, livO, AV.livL, AV.liv, wkL, wkV, List.range', slotsOf]) (by simp [livH, livO, AV.livL, AV.liv, wkL, wkV, List.range']) (by simp [hst]) (by decide) (by decide) (by simp) (by simp) ?_
  · match i, h with
    | 0, h => simp at h; subst h; exact .inr (by simp)
    | 1, h => exact .inl rfl
    | i + 2, h => simp at h
  simp (maxSteps := 1000000) [rowC, slotsOf, hho, noHo, -List.reduceReplicate]
  exact ret_cells K.length rfl (by omega) (fun _ => rfl) ⟨rfl, rfl⟩
set_option maxHeartbeats 4000000 in
theorem get_ref (l : List CellS) (hl : l.length ≤ 1000000) (k : Int) : ACalls Tryd.prog 20 [.fs 5 l.length (cellsA l), .c (.int .i64 k)] [] (fun _ => false) (fun r h' => r = .agg (valA (getR l k)) ∧ h' = []) := by
  refine acalls mixed Tryd.func20 rfl Tryd.ntmps20 rfl fun E hE hst hho => ?_
  simp (maxSteps := 1000000) [hho, noHo, -List.reduceReplicate]
  refine loop_k mixed (fun j : Nat => ⟨slotsOf 21 [(1, .c (.int .i64 k)), (4, .ptr 0 0 4), (7, .fs 5 l.length (cellsA l)), (8, .c (.int .i64 l.length)), (9, .c (.int .i64 (j : Nat)))], [.o .box (valA vZ)]⟩) (fun j => l.length - j) (fun j => j ≤ l.length ∧ getR l k = getR (l.drop j) k) 0 ⟨Nat.zero_le _, rfl⟩ ?_ ?_
  · exact wk_eq (by simp [hE, lens]) (by simp [valA, vZ]) (by simp [livH, livO, AV.livL, AV.liv, wkL, wkV, List.range', slotsOf])
  · rintro j ⟨hj, hI⟩
    by_cases hjl : j < l.length
    · have hat := cellsA_at l j hjl
      have ew : IntKind.i64.wrap ((j : Int) + 1) = (j + 1 : Nat) := by rw [IntWalk.i64_in _ (by omega)]; rfl
      have el : j * 5 + 5 ≤ l.length * 5 := by omega
      have hdj : l.drop j = l[j] :: l.drop (j + 1) := (List.getElem_cons_drop hjl).symm
      rw [hdj, getR_cons] at hI
      obtain ⟨x, hx⟩ : ∃ x, x = l[j] := ⟨_, rfl⟩
      rw [← hx] at hat hI
      by_cases hc : x.col = k
      · rw [if_pos hc] at hI
        rw [hI]
        simp (maxSteps := 1000000) [slotsOf, cellA, valA, hho, noHo, hjl, hat, el, hc, ew, -List.reduceReplicate]
        exact Ret.drop (by rfl) ⟨rfl, rfl⟩
      · rw [if_neg hc] at hI
        simp (maxSteps := 1000000) [slotsOf, cellA, valA, hho, noHo, hjl, hat, el, hc, ew, -List.reduceReplicate]
        refine round_next (j + 1) ⟨by omega, hI⟩ (by omega) ?_
        exact wk_of 1 1 (by simp) (by simp [hE, lens]) (by simp [valA, vZ]) (by simp [livH, livO, AV.livL, AV.liv, wkL, wkV, List.range']) (by simp [livH, livO, AV.livL, AV.liv, wkL, wkV, List.range', slotsOf])
    · obtain rfl : j = l.length := by omega
      rw [List.drop_length] at hI
      rw [hI]
      simp (maxSteps := 1000000) [slotsOf, valA, vZ, hho, noHo, -List.reduceReplicate]
      exact Ret.drop (by rfl) ⟨rfl, rfl⟩
theorem cellsA_snoc' (l : List CellS) (x : CellS) : cellsA (l ++ [x]) = cellsA l ++ cellA x := by rw [cellsA_app, cellsA_one]
theorem keepR_take (l : List CellS) (ks : List Int) (j : Nat) (hj : j < l.length) : keepR (l.take (j + 1)) ks = keepR (l.take j) ks ++ (if memI ks l[j].col = true then [l[j]] else []) := by
  unfold keepR
  rw [List.take_succ_eq_append_getElem hj, List.filter_append]
  congr 1
  simp only [List.filter_cons, List.filter_nil, memI_eq]
set_option maxHeartbeats 4000000 in
theorem keep_ref (l : List CellS) (hl : l.length ≤ 1000000) (ks : List Int) (hk : ks.length ≤ 1000000) : ACalls Tryd.prog 19 [.fs 5 l.length (cellsA l), .fs 1 ks.length (intsA ks)] [] (fun _ => false) (fun r h' => r = .fs 5 (keepR l ks).length (cellsA (keepR l ks)) ∧ h' = []) := by
  refine acalls mixed Tryd.func19 rfl Tryd.ntmps19 rfl fun E hE hst hho => ?_
  simp (maxSteps := 1000000) [hho, noHo, -List.reduceReplicate]
  refine loop_k mixed (fun y : Nat × List CellS => ⟨slotsOf 38 [(1, .fs 1 ks.length (intsA ks)), (5, .sl 0 5 0 y.2.length (y.2.length * 5)), (11, .fs 5 l.length (cellsA l)), (12, .c (.int .i64 l.length)), (13, .c (.int .i64 (y.1 : Nat)))], [rowC y.2]⟩) (fun y => l.length - y.1) (fun y => y.1 ≤ l.length ∧ y.2 = keepR (l.take y.1) ks) (0, []) ⟨Nat.zero_le _, rfl⟩ ?_ ?_
  · refine Wk.trans (wk_virt 5 38 5 rfl) ?_
    exact wk_eq (by simp [hE, lens]) (by simp [rowC, cellsA]) (by simp [livH, livO, AV.livL, AV.liv, wkL, wkV, List.range', slotsOf])
  rintro ⟨j, out⟩ ⟨hj, hI⟩
  simp only at hj hI
  by_cases hjl : j < l.length
  · have hat := cellsA_at l j hjl
    have ewj : IntKind.i64.wrap ((j : Int) + 1) = (j + 1 : Nat) := by rw [IntWalk.i64_in _ (by omega)]; rfl
    have el : j * 5 + 5 ≤ l.length * 5 := by omega
    have hkt := keepR_take l ks j hjl
    have hol : out.length ≤ j := by rw [hI]; have := keepR_len (l.take j) ks; rw [List.length_take] at this; omega
    obtain ⟨x, hx⟩ : ∃ x, x = l[j] := ⟨_, rfl⟩
    rw [← hx] at hat hkt
    rw [← hI] at hkt
    have hsn := cellsA_snoc' out x
    simp (maxSteps := 1000000) [slotsOf, rowC, cellA, valA, hho, noHo, hjl, hat, el, -List.reduceReplicate]
    refine loop_k mixed (fun q : Nat => ⟨slotsOf 38 [(1, .fs 1 ks.length (intsA ks)), (5, .sl 0 5 0 out.length (out.length * 5)), (7, .ptr 1 0 5), (8, .c (.bool (memI (ks.take q) x.col))), (11, .fs 5 l.length (cellsA l)), (12, .c (.int .i64 l.length)), (13, .c (.int .i64 (j : Nat))), (17, .fs 1 ks.length (intsA ks)), (18, .c (.int .i64 ks.length)), (19, .c (.int .i64 (q : Nat)))], [rowC out, .o .box (cellA x)]⟩) (fun q => ks.length - q) (fun q => q ≤ ks.length) 0 (Nat.zero_le _) ?_ ?_
    · exact wk_eq (by simp [hE, lens]) (by simp [rowC, cellA, valA]) (by simp [livH, livO, AV.livL, AV.liv, wkL, wkV, List.range', slotsOf, memI])
    intro q hq
    by_cases hql : q < ks.length
    · have hqt := intsA_get ks q hql
      have ewq : IntKind.i64.wrap ((q : Int) + 1) = (q + 1 : Nat) := by rw [IntWalk.i64_in _ (by omega)]; rfl
      have hct : memI (ks.take (q + 1)) x.col = (memI (ks.take q) x.col || decide (ks[q] = x.col)) := by
        rw [List.take_succ_eq_append_getElem hql, Bool.eq_iff_iff]
        simp only [memI, List.any_append, List.any_cons, List.any_nil, Bool.or_false, Bool.or_eq_true, decide_eq_true_eq]
        rw [eq_comm (a := x.col) (b := ks[q])]
      obtain ⟨y, hy⟩ : ∃ y, y = ks[q] := ⟨_, rfl⟩
      rw [← hy] at hqt hct
      cases hB : memI (ks.take q) x.col with
      | true =>
        rw [hB, Bool.true_or] at hct
        simp (maxSteps := 1000000) [slotsOf, rowC, cellA, valA, hho, noHo, hql, hqt, ewq, hB, undef, onGP_none, condG_false, -List.reduceReplicate]
        refine ⟨by omega, ?_⟩
        refine round_next (q + 1) (by omega) (by omega) ?_
        exact wk_eq (by simp [hE, lens]) (by simp [rowC, cellA, valA]) (by simp [livH, livO, AV.livL, AV.liv, wkL, wkV, List.range', slotsOf, hct])
      | false =>
        rw [hB, Bool.false_or] at hct
        simp (maxSteps := 1000000) [slotsOf, rowC, cellA, valA, hho, noHo, hql, hqt, ewq, hB, undef, onGP_none, condG_false, -List.reduceReplicate]
        refine ⟨by omega, ?_⟩
        refine round_next (q + 1) (by omega) (by omega) ?_
        exact wk_eq (by simp [hE, lens]) (by simp [rowC, cellA, valA]) (by simp [livH, livO, AV.livL, AV.liv, wkL, wkV, List.range', slotsOf, hct])
    · obtain rfl : q = ks.length := by omega
      rw [List.take_length]
      cases hB : memI ks x.col with
      | true =>
        rw [if_pos hB] at hkt
        simp (maxSteps := 1000000) [slotsOf, rowC, cellA, valA, hho, noHo, ewj, -List.reduceReplicate]
        refine ⟨by omega, ?_⟩
        refine round_next (j + 1, out ++ [x]) ⟨by simp only; omega, hkt.symm⟩ (by simp only; omega) ?_
        exact wk_of 1 2 (by simp) (by simp [hE, lens]) (by simp [rowC, hsn, cellA, valA]) (by simp [livH, livO, AV.livL, AV.liv, wkL, wkV, List.range', rowC]) (by simp [livH, livO, AV.livL, AV.liv, wkL, wkV, List.range', slotsOf, Nat.add_mul])
      | false =>
        rw [if_neg (by rw [hB]; simp), List.append_nil] at hkt
        simp (maxSteps := 1000000) [slotsOf, rowC, cellA, valA, hho, noHo, ewj, -List.reduceReplicate]
        refine round_next (j + 1, out) ⟨by simp only; omega, hkt.symm⟩ (by simp only; omega) ?_
        exact wk_of 1 1 (by simp) (by simp [hE, lens]) (by simp [rowC]) (by simp [livH, livO, AV.livL, AV.liv, wkL, wkV, List.range', rowC]) (by simp [livH, livO, AV.livL, AV.liv, wkL, wkV, List.range', slotsOf])
  · obtain rfl : j = l.length := by omega
    rw [List.take_length] at hI
    have hol : out.length ≤ l.length := by rw [hI]; exact keepR_len l ks
    simp (maxSteps := 1000000) [slotsOf, rowC, hho, noHo, -List.reduceReplicate]
    rw [← hI]
    exact ret_cells0 out.length rfl (by omega) (fun _ => rfl) ⟨rfl, rfl⟩
theorem goS_step (k : Int) (v : ValS) (b : Bool) (l : List CellS) (j : Nat) (hj : j < l.length) : goS k v b (l.drop j) = (if !b && decide (k ≤ l[j].col) then [⟨k, v⟩] else []) ++ (if l[j].col ≠ k ∨ k < 0 then [l[j]] else []) ++ goS k v (b || decide (k ≤ l[j].col)) (l.drop (j + 1)) := by
  rw [← List.getElem_cons_drop hj, goS]
theorem cellsA_snoc2 (l : List CellS) (x y : CellS) : cellsA (l ++ [x, y]) = cellsA l ++ (cellA x ++ cellA y) := by rw [cellsA_app, cellsA_cons, cellsA_one]
set_option maxHeartbeats 8000000 in
theorem set_ref (l : List CellS) (hl : l.length ≤ 900000) (k : Int) (v : ValS) (hv : v.t.size ≤ 9000000000000000000) : ACalls Tryd.prog 21 [.fs 5 l.length (cellsA l), .c (.int .i64 k), .agg (valA v)] [] (fun _ => false) (fun r h' => r = .fs 5 (setR l k v).length (cellsA (setR l k v)) ∧ h' = []) := by
  refine acallsC [3] mixed Tryd.func21 rfl Tryd.ntmps21 rfl fun E hE hst hho => ?_
  have hr := val_ref v hv
  obtain ⟨b0, hb0⟩ : ∃ b, b = !putOk k v := ⟨_, rfl⟩
  have hbk : b0 = false → 0 ≤ k := fun h => by
    rw [h] at hb0
    have : putOk k v = true := by simpa using hb0.symm
    simp only [putOk, Bool.and_eq_true, decide_eq_true_eq] at this
    exact this.1.1
  simp (maxSteps := 1000000) [valA, hho, noHo, -List.reduceReplicate]
  refine seq_cut mixed [] (fun _ : Unit => ⟨slotsOf 65 [(0, .fs 5 l.length (cellsA l)), (1, .c (.int .i64 k)), (5, .ptr 0 0 4), (7, .sl 1 5 0 0 0), (8, .c (.bool b0))], [.o .box (valA v), rowC []]⟩) (fun _ => True) ?_ ?_
  · intro _ _
    unfold setR
    rw [← hb0]
    simp (maxSteps := 1000000) [slotsOf, rowC, valA, hho, noHo, -List.reduceReplicate]
    refine loop_k mixed (fun y : Nat × Bool × List CellS => ⟨slotsOf 65 [(1, .c (.int .i64 k)), (5, .ptr 0 0 4), (7, .sl 1 5 0 y.2.2.length (y.2.2.length * 5)), (8, .c (.bool y.2.1)), (23, .fs 5 l.length (cellsA l)), (24, .c (.int .i64 l.length)), (25, .c (.int .i64 (y.1 : Nat)))], [.o .box (valA v), rowC y.2.2]⟩) (fun y => l.length - y.1)
      (fun y => y.1 ≤ l.length ∧ y.2.2.length ≤ 2 * y.1 ∧ (y.2.1 = false → 0 ≤ k) ∧ goS k v b0 l = y.2.2 ++ goS k v y.2.1 (l.drop y.1)) (0, b0, []) ⟨Nat.zero_le _, Nat.zero_le _, hbk, rfl⟩ ?_ ?_
    · exact wk_eq (by simp [hE, lens]) (by simp [rowC, valA]) (by simp [livH, livO, AV.livL, AV.liv, wkL, wkV, List.range', slotsOf])
    rintro ⟨j, b, out⟩ ⟨hj, ho, hb, hI⟩
    simp only at hj ho hb hI
    by_cases hjl : j < l.length
    · have hat := cellsA_at l j hjl
      have ewj : IntKind.i64.wrap ((j : Int) + 1) = (j + 1 : Nat) := by rw [IntWalk.i64_in _ (by omega)]; rfl
      have el : j * 5 + 5 ≤ l.length * 5 := by omega
      rw [goS_step k v b l j hjl] at hI
      obtain ⟨x, hx⟩ : ∃ x, x = l[j] := ⟨_, rfl⟩
      rw [← hx] at hat hI
      have s1 := cellsA_snoc' out x
      have s2 := cellsA_snoc' out ⟨k, v⟩
      have s3 := cellsA_snoc2 out ⟨k, v⟩ x
      simp only [cellA, valA] at s1 s2 s3
      cases b with
      | true =>
        simp only [Bool.not_true, Bool.false_and, Bool.false_eq_true, if_false, List.nil_append, Bool.true_or] at hI
        by_cases hc : x.col = k
        · by_cases hk : k < 0
          · rw [if_pos (.inr hk)] at hI
            simp (maxSteps := 1000000) [slotsOf, rowC, cellA, valA, hho, noHo, hjl, hat, el, hc, hk, ewj, undef, onGP_none, condG_false, -List.reduceReplicate]
            refine ⟨by omega, ?_⟩
            refine round_next (j + 1, true, out ++ [x]) ⟨by simp only; omega, by simp; omega, by simp, by rw [hI]; simp⟩ (by simp only; omega) ?_
            exact wk_of 2 2 (by simp) (by simp [hE, lens]) (by simp [rowC, s1, valA, hc]) (by simp [livH, livO, AV.livL, AV.liv, wkL, wkV, List.range', rowC]) (by simp [livH, livO, AV.livL, AV.liv, wkL, wkV, List.range', slotsOf, Nat.add_mul])
          · rw [if_neg (by simp [hc, hk])] at hI
            simp (maxSteps := 1000000) [slotsOf, rowC, cellA, valA, hho, noHo, hjl, hat, el, hc, hk, ewj, undef, onGP_none, condG_false, -List.reduceReplicate]
            refine round_next (j + 1, true, out) ⟨by simp only; omega, by simp only; omega, by simp, by rw [hI]; simp⟩ (by simp only; omega) ?_
            exact wk_of 2 1 (by simp) (by simp [hE, lens]) (by simp [rowC, valA]) (by simp [livH, livO, AV.livL, AV.liv, wkL, wkV, List.range', rowC]) (by simp [livH, livO, AV.livL, AV.liv, wkL, wkV, List.range', slotsOf])
        · rw [if_pos (.inl hc)] at hI
          simp (maxSteps := 1000000) [slotsOf, rowC, cellA, valA, hho, noHo, hjl, hat, el, hc, ewj, undef, onGP_none, condG_false, -List.reduceReplicate]
          refine ⟨by omega, ?_⟩
          refine round_next (j + 1, true, out ++ [x]) ⟨by simp only; omega, by simp; omega, by simp, by rw [hI]; simp⟩ (by simp only; omega) ?_
          exact wk_of 2 2 (by simp) (by simp [hE, lens]) (by simp [rowC, s1, valA]) (by simp [livH, livO, AV.livL, AV.liv, wkL, wkV, List.range', rowC]) (by simp [livH, livO, AV.livL, AV.liv, wkL, wkV, List.range', slotsOf, Nat.add_mul])
      | false =>
        have hk : ¬ k < 0 := by have := hb rfl; omega
        simp only [Bool.not_false, Bool.true_and, Bool.false_or] at hI
        by_cases hge : k ≤ x.col
        · rw [decide_eq_true hge, if_pos rfl] at hI
          by_cases hc : x.col = k
          · rw [if_neg (by simp [hc, hk])] at hI
            simp (maxSteps := 1000000) [slotsOf, rowC, cellA, valA, hho, noHo, hjl, hat, el, hc, hk, ewj, undef, onGP_none, condG_false, -List.reduceReplicate]
            refine ⟨by omega, ?_⟩
            refine round_next (j + 1, true, out ++ [⟨k, v⟩]) ⟨by simp only; omega, by simp; omega, by simp, by rw [hI]; simp⟩ (by simp only; omega) ?_
            exact wk_of 2 2 (by simp) (by simp [hE, lens]) (by simp [rowC, s2, valA]) (by simp [livH, livO, AV.livL, AV.liv, wkL, wkV, List.range', rowC]) (by simp [livH, livO, AV.livL, AV.liv, wkL, wkV, List.range', slotsOf, Nat.add_mul])
          · rw [if_pos (.inl hc)] at hI
            simp (maxSteps := 1000000) [slotsOf, rowC, cellA, valA, hho, noHo, hjl, hat, el, hc, hge, hk, ewj, undef, onGP_none, condG_false, -List.reduceReplicate]
            refine ⟨by omega, by omega, ?_⟩
            refine round_next (j + 1, true, out ++ [⟨k, v⟩, x]) ⟨by simp only; omega, by simp; omega, by simp, by rw [hI]; simp⟩ (by simp only; omega) ?_
            exact wk_of 2 3 (by simp) (by simp [hE, lens]) (by simp [rowC, s3, valA]) (by simp [livH, livO, AV.livL, AV.liv, wkL, wkV, List.range', rowC]) (by simp [livH, livO, AV.livL, AV.liv, wkL, wkV, List.range', slotsOf, Nat.add_mul])
        · have hc : ¬ x.col = k := by omega
          rw [decide_eq_false hge, if_neg (by simp), if_pos (.inl hc), List.nil_append] at hI
          simp (maxSteps := 1000000) [slotsOf, rowC, cellA, valA, hho, noHo, hjl, hat, el, hc, hge, ewj, undef, onGP_none, condG_false, -List.reduceReplicate]
          refine ⟨by omega, ?_⟩
          refine round_next (j + 1, false, out ++ [x]) ⟨by simp only; omega, by simp; omega, fun _ => by omega, by rw [hI]; simp⟩ (by simp only; omega) ?_
          exact wk_of 2 2 (by simp) (by simp [hE, lens]) (by simp [rowC, s1, valA]) (by simp [livH, livO, AV.livL, AV.liv, wkL, wkV, List.range', rowC]) (by simp [livH, livO, AV.livL, AV.liv, wkL, wkV, List.range', slotsOf, Nat.add_mul])
    · obtain rfl : j = l.length := by omega
      rw [List.drop_length] at hI
      have s2 := cellsA_snoc' out ⟨k, v⟩
      simp only [cellA, valA] at s2
      cases b with
      | true =>
        have hI2 : goS k v b0 l = out := by rw [hI]; simp [goS]
        rw [hI2]
        simp (maxSteps := 1000000) [slotsOf, rowC, valA, hho, noHo, -List.reduceReplicate]
        exact ret_cells out.length rfl (by omega) (fun _ => rfl) ⟨rfl, rfl⟩
      | false =>
        have hI2 : goS k v b0 l = out ++ [⟨k, v⟩] := by rw [hI]; simp [goS]
        rw [hI2]
        simp (maxSteps := 1000000) [slotsOf, rowC, valA, hho, noHo, -List.reduceReplicate]
        refine ⟨by omega, ?_⟩
        have hro : (AObj.o (.row 38 5) (cellsA out ++ [AV.c (.int .i64 k), AV.c (.int .i64 v.k), AV.c (.int .i64 v.n), AV.c (.int .i64 v.s), AV.c (.string v.t)])) = rowC (out ++ [⟨k, v⟩]) := by rw [← s2]; rfl
        rw [hro]
        rw [show out.length * 5 + 5 = (out.length + 1) * 5 by omega]
        refine ret_cells (d := out ++ [⟨k, v⟩]) (out.length + 1) (by simp) (by rw [List.length_append]; simp; omega) (fun _ => rfl) ?_
        exact ⟨by rw [List.length_append]; rfl, rfl⟩
  · have hfin : ∀ h : b0 = true, True := fun _ => trivial
    by_cases hk : k < 0
    · have hb : b0 = true := by rw [hb0]; simp [putOk]; omega
      simp (maxSteps := 1000000) [hk, hho, noHo, undef, onGP_none, condG_false, -List.reduceReplicate]
      refine cut_to () trivial (Wk.trans (wk_virt 7 38 5 rfl) ?_)
      exact wk_eq (by simp [hE, lens]) (by simp [rowC, cellsA, valA]) (by simp [livH, livO, AV.livL, AV.liv, wkL, wkV, List.range', slotsOf, hb])
    · by_cases h0 : v.k = 0
      · have hb : b0 = true := by rw [hb0]; simp [putOk, h0]
        simp (maxSteps := 1000000) [hk, h0, hho, noHo, undef, onGP_none, condG_false, -List.reduceReplicate]
        refine cut_to () trivial (Wk.trans (wk_virt 7 38 5 rfl) ?_)
        exact wk_eq (by simp [hE, lens]) (by simp [rowC, cellsA, valA, h0]) (by simp [livH, livO, AV.livL, AV.liv, wkL, wkV, List.range', slotsOf, hb])
      · have hb : b0 = !valOk v := by rw [hb0]; simp [putOk, h0]; omega
        simp (maxSteps := 1000000) [hk, h0, hho, noHo, undef, onGP_none, condG_false, -List.reduceReplicate]
        refine call_x [] hr rfl rfl ⟨rfl, rfl⟩ hho (by simp) (by decide) (by simp) (by simp) ?_
        simp (maxSteps := 1000000) [hk, h0, hho, noHo, undef, onGP_none, condG_false, -List.reduceReplicate]
        refine cut_to () trivial (Wk.trans (wk_virt 7 38 5 rfl) ?_)
        exact wk_eq (by simp [hE, lens]) (by simp [rowC, cellsA, valA]) (by simp [livH, livO, AV.livL, AV.liv, wkL, wkV, List.range', slotsOf, hb])
end Go.Proofs.YtniifindnnfkaaaDoor
