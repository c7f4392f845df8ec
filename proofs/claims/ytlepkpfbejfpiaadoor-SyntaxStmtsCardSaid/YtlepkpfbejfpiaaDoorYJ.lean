import Derived.Test.YtlepkpfbejfpiaaDoorYH
namespace Go.Proofs.YtlepkpfbejfpiaaDoor
set_option linter.unusedVariables false
set_option linter.unusedSimpArgs false
open Go.RowKit
attribute [local simp] isCut_nil isCut_region isCut_seq isCut_block isCut_loop isCut_cond isCut_skip isCut_exit isCut_ret isCut_range swapK putK altK condK_bool pickP_bool stepP stepO onPure_some onPure_none onImpl_some onImpl_none stepC onGP_some onGP_none onGV_some condG mkG onIt_it nextP_ptr takeP_eq takeV_some takeV_none takeU_some takeU_none takeQ takeW_some takeN_none takeN_some takeG_some takeO_some altO_some pureV binV2 eqF eqOp ovlV ovl2 rowAt capV binV intBin strBin isSh shV fldV ixV sliceV slice3V loadAV nilV lenV callV unV convV viewS cellsH loadV fldCut AV.ung AV.ungs AV.gc AV.cells AS.ev AS.put anyS gcsV lens lnO gV guardV retK RetP_eq resV oneV anyRo loIx hiIx implO callP_clo evL gcsL clearV storeAV AS.push AS.setO appV appZ shortS copyV buildV partsV fillV srcV fzO okV isCell_c isCell_ptr isCell_sl isCell_fs isCell_fp isCell_clo rowZ_one rowZ_zero rowZ_2 rowZ_3 rowZ_4 rowZ_5 rowZ_6 rowZ_7 rowZ_8 rowZ_9 rowZ_10 rowZ_11 rowZ_12 noHo Value.oneCell' max2V min2V afterH putBack frzFrom frzO rebO backIx nilEq_sl nilEq_fs nilOp_eql nilOp_neq AV.reb AV.rebL
attribute [local simp ↓] runK_skip runK_region runK_draw runK_seq runK_cut runK_cond runK_block runK_loop runK_exit runK_label runK_goto runK_ret runK_range contK_nil contK_seq contK_seq_ret contK_seq_exit contK_seq_goto contK_block contK_block_ret contK_block_goto contK_block_exit runO_nil runO_cons roundK_exit roundK_ret roundK_goto exitK_ret cutK_ret cutK_exit runE_done runE_nil runE_take runE_alt condG_true condG_false
set_option maxRecDepth 10000
/-! ## Columns -/
@[simp] theorem exprsA_all (l : List ExprS) : (∀ x ∈ exprsA l, isD x = true) ↔ True := iff_true_intro <| by
  intro x hx
  simp only [exprsA_eq, List.mem_flatMap, exprA, List.mem_cons, List.not_mem_nil, or_false] at hx
  obtain ⟨b, _, h⟩ := hx
  rcases h with rfl | rfl | rfl | rfl | rfl | rfl | rfl | rfl | rfl | rfl | rfl | rfl | rfl <;> rfl
@[simp] theorem exprsA_cell (l : List ExprS) : (∀ x ∈ exprsA l, isCell x = true) ↔ True := iff_true_intro <| by
  intro x hx
  simp only [exprsA_eq, List.mem_flatMap, exprA, List.mem_cons, List.not_mem_nil, or_false] at hx
  obtain ⟨b, _, h⟩ := hx
  rcases h with rfl | rfl | rfl | rfl | rfl | rfl | rfl | rfl | rfl | rfl | rfl | rfl | rfl <;> rfl
theorem exprsD (l : List ExprS) : (exprsA l).all isD = true := List.all_eq_true.2 ((exprsA_all _).2 trivial)
theorem exprsA_one (x : ExprS) : exprsA [x] = exprA x := by simp [exprsA_eq]
def rowE (l : List ExprS) : AObj := .o (.row 30 13) (exprsA l)
theorem colsEs_take (l : List ExprS) (j : Nat) (hj : j < l.length) : (l.take (j + 1)).flatMap colsE = (l.take j).flatMap colsE ++ colsE l[j] := by
  rw [List.take_succ_eq_append_getElem hj, List.flatMap_append, List.flatMap_cons, List.flatMap_nil, List.append_nil]
theorem cols_sub (l : List ExprS) (j : Nat) (hj : j < l.length) : (colsE l[j]).length ≤ (l.flatMap colsE).length := by
  have h := List.take_append_drop j l
  have e : l.flatMap colsE = (l.take j).flatMap colsE ++ (colsE l[j] ++ (l.drop (j + 1)).flatMap colsE) := by
    conv => lhs; rw [← h]
    rw [List.flatMap_append, List.drop_eq_getElem_cons hj, List.flatMap_cons]
  rw [e]; simp; omega
theorem cols_pre (l : List ExprS) (j : Nat) : ((l.take j).flatMap colsE).length ≤ (l.flatMap colsE).length := by
  have e : l.flatMap colsE = (l.take j).flatMap colsE ++ (l.drop j).flatMap colsE := by rw [← List.flatMap_append, List.take_append_drop]
  rw [e]; simp
set_option maxHeartbeats 8000000 in
theorem columns_w (x : ExprS) (hx : Fit x) (hb : (colsE x).length ≤ 1000000) : ACalls Tryd.prog 15 [.agg (exprA x)] [] (fun _ => false) (fun r h' => r = .fs 13 (colsE x).length (exprsA (colsE x)) ∧ h' = []) := by
  induction x using ExprS.ind with
  | _ x ih =>
  refine acallsC [4] mixed Tryd.func15 rfl Tryd.ntmps15 rfl fun E hE hst hho => ?_
  have hl := hx.len
  have he := colsE_eq x
  obtain ⟨C, hC⟩ : ∃ C, C = (if x.kind = 1 then [x] else ([] : List ExprS)) := ⟨_, rfl⟩
  rw [← hC] at he
  simp (maxSteps := 1000000) [hho, noHo, exprA, -List.reduceReplicate]
  refine seq_cut mixed [] (fun _ : Unit => ⟨slotsOf 26 [(1, .ptr 0 0 13), (3, .sl 1 13 0 C.length (C.length * 13))], [.o .box (exprA x), rowE C]⟩) (fun _ => True) ?_ ?_
  · intro _ _
    simp (maxSteps := 1000000) [slotsOf, rowE, hho, noHo, exprA, -List.reduceReplicate]
    refine loop_k mixed (fun y : Nat × List ExprS => ⟨slotsOf 26 [(3, .sl 1 13 0 y.2.length (y.2.length * 13)), (14, .fs 13 x.kids.length (exprsA x.kids)), (15, .c (.int .i64 x.kids.length)), (16, .c (.int .i64 (y.1 : Nat)))], [.o .box (exprA x), rowE y.2]⟩) (fun y => x.kids.length - y.1) (fun y => y.1 ≤ x.kids.length ∧ y.2 = C ++ (x.kids.take y.1).flatMap colsE) (0, C) ⟨Nat.zero_le _, by simp⟩ ?_ ?_
    · exact wk_eq (by simp [hE, lens]) (by simp [exprA, rowE]) (by simp [livH, livO, AV.livL, AV.liv, wkL, wkV, List.range', slotsOf])
    · rintro ⟨j, D⟩ ⟨hj, hD⟩
      simp only at hj hD
      by_cases hjl : j < x.kids.length
      · have hat := exprsA_at x.kids j hjl
        have ew : IntKind.i64.wrap ((j : Int) + 1) = (j + 1 : Nat) := by rw [IntWalk.i64_in _ (by omega)]; rfl
        have e0 : j * 13 + 13 ≤ x.kids.length * 13 := by omega
        have hsub := cols_sub x.kids j hjl
        have hpre := cols_pre x.kids j
        have hlen : (colsE x).length = C.length + (x.kids.flatMap colsE).length := by rw [he]; simp
        have hc := ih _ (List.getElem_mem hjl) (hx.kid _ (List.getElem_mem hjl)) (by omega)
        have hs : D ++ colsE x.kids[j] = C ++ (x.kids.take (j + 1)).flatMap colsE := by rw [colsEs_take _ j hjl, hD, List.append_assoc]
        have hDl : D.length ≤ 1000000 := by rw [hD, List.length_append]; omega
        have hsl : (colsE x.kids[j]).length ≤ 1000000 := by omega
        obtain ⟨y, hy⟩ : ∃ y, y = x.kids[j] := ⟨_, rfl⟩
        rw [← hy] at hat hc hs hsl
        have hap := exprsA_app D (colsE y)
        simp (maxSteps := 1000000) [slotsOf, rowE, hho, noHo, hjl, hat, e0, exprA, -List.reduceReplicate]
        refine call_x [] hc rfl rfl ⟨rfl, rfl⟩ hho (by simp) (by decide) (by simp) (by simp) ?_
        simp (maxSteps := 1000000) [hho, noHo, ew, -List.reduceReplicate]
        refine ⟨by omega, round_next (j + 1, D ++ colsE y) ⟨by simp only; omega, hs⟩ (by simp only; omega) ?_⟩
        exact wk_of 2 1 (by simp) (by simp [hE, lens]) (by simp [exprA, rowE, hap]) (by simp [livH, livO, AV.livL, AV.liv, wkL, wkV, List.range', rowE]) (by simp [livH, livO, AV.livL, AV.liv, wkL, wkV, List.range', slotsOf, Nat.add_mul])
      · obtain rfl : j = x.kids.length := by omega
        rw [List.take_length, ← he] at hD
        rw [hD]
        simp (maxSteps := 1000000) [slotsOf, rowE, hho, noHo, -List.reduceReplicate]
        refine Ret.sel [] (fun k => k == 1) (ho := by rfl) (ha := by rfl) ?_ ?_ (by decide) (by simp) (by simp) ⟨?_, rfl⟩
        · exact trivial
        · exact ⟨by simp, by omega, by unfold maxLen; omega, by rw [List.drop_zero, List.take_of_length_le (by simp)]; exact exprsD _⟩
        · rw [List.drop_zero, List.take_of_length_le (by simp)]
  · by_cases k1 : x.kind = 1
    · rw [if_pos k1] at hC
      simp (maxSteps := 1000000) [hho, noHo, k1, -List.reduceReplicate]
      refine cut_to () trivial ?_
      rw [hC]
      refine wk_sel [0, 2] (slotsOf 26 [(1, .ptr 0 0 13), (3, .sl 2 13 0 1 13)]) hho (by simp [livH, livO, AV.livL, AV.liv, wkL, wkV, List.range', slotsOf]) rfl rfl ?_ ?_ (by decide) (by simp [hst]) (by simp [hE, lens]) ?_ ?_
      · simp [exprA, k1]
        rfl
      · simp [slotsOf]
      · simp [slotsOf]
      · simp [rowE, exprsA_one, exprA, k1]
    · rw [if_neg k1] at hC
      simp (maxSteps := 1000000) [hho, noHo, k1, -List.reduceReplicate]
      refine cut_to () trivial ?_
      refine Wk.trans (wk_virt 3 30 13 rfl) ?_
      rw [hC]
      exact wk_eq (by simp [hE, lens]) (by simp [exprA, rowE, exprsA]) (by simp [livH, livO, AV.livL, AV.liv, wkL, wkV, List.range', slotsOf])
set_option maxHeartbeats 8000000 in
theorem columns_ref (x : ExprS) (hx : Fit x) (hb : (colsE x).length ≤ 1000000) : ACalls Tryd.prog 16 [.agg (exprA x)] [] (fun _ => false) (fun r h' => r = .fs 13 (colsE x).length (exprsA (colsE x)) ∧ h' = []) := by
  induction x using ExprS.ind with
  | _ x ih =>
  refine acallsC [6] mixed Tryd.func16 rfl Tryd.ntmps16 rfl fun E hE hst hho => ?_
  have hl := hx.len
  have he := colsE_eq x
  obtain ⟨C, hC⟩ : ∃ C, C = (if x.kind = 1 then [x] else ([] : List ExprS)) := ⟨_, rfl⟩
  rw [← hC] at he
  by_cases k1 : x.kind = 1
  · rw [if_pos k1] at hC
    by_cases kd : x.kids = []
    · have e1 : colsE x = [x] := by rw [he, hC, kd]; rfl
      rw [e1, exprsA_one]
      simp (maxSteps := 1000000) [hho, noHo, exprA, k1, kd, -List.reduceReplicate]
      refine Ret.sel [] (fun k => k == 1) (ho := by rfl) (ha := by rfl) ?_ ?_ (by decide) (by simp) (by simp) ⟨?_, rfl⟩
      · exact trivial
      · exact ⟨rfl, by decide, by unfold maxLen; decide, rfl⟩
      · rfl
    · simp (maxSteps := 1000000) [hho, noHo, exprA, k1, kd, -List.reduceReplicate]
      refine seq_cut mixed [] (fun _ : Unit => ⟨slotsOf 37 [(1, .ptr 0 0 13), (3, .sl 1 13 0 C.length (C.length * 13))], [.o .box (exprA x), rowE C]⟩) (fun _ => True) ?_ ?_
      · intro _ _
        simp (maxSteps := 1000000) [slotsOf, rowE, hho, noHo, exprA, -List.reduceReplicate]
        refine loop_k mixed (fun y : Nat × List ExprS => ⟨slotsOf 37 [(3, .sl 1 13 0 y.2.length (y.2.length * 13)), (25, .fs 13 x.kids.length (exprsA x.kids)), (26, .c (.int .i64 x.kids.length)), (27, .c (.int .i64 (y.1 : Nat)))], [.o .box (exprA x), rowE y.2]⟩) (fun y => x.kids.length - y.1) (fun y => y.1 ≤ x.kids.length ∧ y.2 = C ++ (x.kids.take y.1).flatMap colsE) (0, C) ⟨Nat.zero_le _, by simp⟩ ?_ ?_
        · exact wk_eq (by simp [hE, lens]) (by simp [exprA, rowE]) (by simp [livH, livO, AV.livL, AV.liv, wkL, wkV, List.range', slotsOf])
        · rintro ⟨j, D⟩ ⟨hj, hD⟩
          simp only at hj hD
          by_cases hjl : j < x.kids.length
          · have hat := exprsA_at x.kids j hjl
            have ew : IntKind.i64.wrap ((j : Int) + 1) = (j + 1 : Nat) := by rw [IntWalk.i64_in _ (by omega)]; rfl
            have e0 : j * 13 + 13 ≤ x.kids.length * 13 := by omega
            have hsub := cols_sub x.kids j hjl
            have hpre := cols_pre x.kids j
            have hlen : (colsE x).length = C.length + (x.kids.flatMap colsE).length := by rw [he]; simp
            have hc := ih _ (List.getElem_mem hjl) (hx.kid _ (List.getElem_mem hjl)) (by omega)
            have hs : D ++ colsE x.kids[j] = C ++ (x.kids.take (j + 1)).flatMap colsE := by rw [colsEs_take _ j hjl, hD, List.append_assoc]
            have hDl : D.length ≤ 1000000 := by rw [hD, List.length_append]; omega
            have hsl : (colsE x.kids[j]).length ≤ 1000000 := by omega
            obtain ⟨y, hy⟩ : ∃ y, y = x.kids[j] := ⟨_, rfl⟩
            rw [← hy] at hat hc hs hsl
            have hap := exprsA_app D (colsE y)
            simp (maxSteps := 1000000) [slotsOf, rowE, hho, noHo, hjl, hat, e0, exprA, -List.reduceReplicate]
            refine call_x [] hc rfl rfl ⟨rfl, rfl⟩ hho (by simp) (by decide) (by simp) (by simp) ?_
            simp (maxSteps := 1000000) [hho, noHo, ew, -List.reduceReplicate]
            refine ⟨by omega, round_next (j + 1, D ++ colsE y) ⟨by simp only; omega, hs⟩ (by simp only; omega) ?_⟩
            exact wk_of 2 1 (by simp) (by simp [hE, lens]) (by simp [exprA, rowE, hap]) (by simp [livH, livO, AV.livL, AV.liv, wkL, wkV, List.range', rowE]) (by simp [livH, livO, AV.livL, AV.liv, wkL, wkV, List.range', slotsOf, Nat.add_mul])
          · obtain rfl : j = x.kids.length := by omega
            rw [List.take_length, ← he] at hD
            rw [hD]
            simp (maxSteps := 1000000) [slotsOf, rowE, hho, noHo, -List.reduceReplicate]
            refine Ret.sel [] (fun k => k == 1) (ho := by rfl) (ha := by rfl) ?_ ?_ (by decide) (by simp) (by simp) ⟨?_, rfl⟩
            · exact trivial
            · exact ⟨by simp, by omega, by unfold maxLen; omega, by rw [List.drop_zero, List.take_of_length_le (by simp)]; exact exprsD _⟩
            · rw [List.drop_zero, List.take_of_length_le (by simp)]
      · simp (maxSteps := 1000000) [hho, noHo, k1, -List.reduceReplicate]
        refine cut_to () trivial ?_
        rw [hC]
        refine wk_sel [0, 2] (slotsOf 37 [(1, .ptr 0 0 13), (3, .sl 2 13 0 1 13)]) hho (by simp [livH, livO, AV.livL, AV.liv, wkL, wkV, List.range', slotsOf]) rfl rfl ?_ ?_ (by decide) (by simp [hst]) (by simp [hE, lens]) ?_ ?_
        · simp [exprA, k1]
          rfl
        · simp [slotsOf]
        · simp [slotsOf]
        · simp [rowE, exprsA_one, exprA, k1]
  · rw [if_neg k1] at hC
    simp (maxSteps := 1000000) [hho, noHo, exprA, k1, undef, onGP_none, condG_false, -List.reduceReplicate]
    refine seq_cut mixed [] (fun _ : Unit => ⟨slotsOf 37 [(1, .ptr 0 0 13), (3, .sl 1 13 0 C.length (C.length * 13))], [.o .box (exprA x), rowE C]⟩) (fun _ => True) ?_ ?_
    · intro _ _
      simp (maxSteps := 1000000) [slotsOf, rowE, hho, noHo, exprA, -List.reduceReplicate]
      refine loop_k mixed (fun y : Nat × List ExprS => ⟨slotsOf 37 [(3, .sl 1 13 0 y.2.length (y.2.length * 13)), (25, .fs 13 x.kids.length (exprsA x.kids)), (26, .c (.int .i64 x.kids.length)), (27, .c (.int .i64 (y.1 : Nat)))], [.o .box (exprA x), rowE y.2]⟩) (fun y => x.kids.length - y.1) (fun y => y.1 ≤ x.kids.length ∧ y.2 = C ++ (x.kids.take y.1).flatMap colsE) (0, C) ⟨Nat.zero_le _, by simp⟩ ?_ ?_
      · exact wk_eq (by simp [hE, lens]) (by simp [exprA, rowE]) (by simp [livH, livO, AV.livL, AV.liv, wkL, wkV, List.range', slotsOf])
      · rintro ⟨j, D⟩ ⟨hj, hD⟩
        simp only at hj hD
        by_cases hjl : j < x.kids.length
        · have hat := exprsA_at x.kids j hjl
          have ew : IntKind.i64.wrap ((j : Int) + 1) = (j + 1 : Nat) := by rw [IntWalk.i64_in _ (by omega)]; rfl
          have e0 : j * 13 + 13 ≤ x.kids.length * 13 := by omega
          have hsub := cols_sub x.kids j hjl
          have hpre := cols_pre x.kids j
          have hlen : (colsE x).length = C.length + (x.kids.flatMap colsE).length := by rw [he]; simp
          have hc := ih _ (List.getElem_mem hjl) (hx.kid _ (List.getElem_mem hjl)) (by omega)
          have hs : D ++ colsE x.kids[j] = C ++ (x.kids.take (j + 1)).flatMap colsE := by rw [colsEs_take _ j hjl, hD, List.append_assoc]
          have hDl : D.length ≤ 1000000 := by rw [hD, List.length_append]; omega
          have hsl : (colsE x.kids[j]).length ≤ 1000000 := by omega
          obtain ⟨y, hy⟩ : ∃ y, y = x.kids[j] := ⟨_, rfl⟩
          rw [← hy] at hat hc hs hsl
          have hap := exprsA_app D (colsE y)
          simp (maxSteps := 1000000) [slotsOf, rowE, hho, noHo, hjl, hat, e0, exprA, -List.reduceReplicate]
          refine call_x [] hc rfl rfl ⟨rfl, rfl⟩ hho (by simp) (by decide) (by simp) (by simp) ?_
          simp (maxSteps := 1000000) [hho, noHo, ew, -List.reduceReplicate]
          refine ⟨by omega, round_next (j + 1, D ++ colsE y) ⟨by simp only; omega, hs⟩ (by simp only; omega) ?_⟩
          exact wk_of 2 1 (by simp) (by simp [hE, lens]) (by simp [exprA, rowE, hap]) (by simp [livH, livO, AV.livL, AV.liv, wkL, wkV, List.range', rowE]) (by simp [livH, livO, AV.livL, AV.liv, wkL, wkV, List.range', slotsOf, Nat.add_mul])
        · obtain rfl : j = x.kids.length := by omega
          rw [List.take_length, ← he] at hD
          rw [hD]
          simp (maxSteps := 1000000) [slotsOf, rowE, hho, noHo, -List.reduceReplicate]
          refine Ret.sel [] (fun k => k == 1) (ho := by rfl) (ha := by rfl) ?_ ?_ (by decide) (by simp) (by simp) ⟨?_, rfl⟩
          · exact trivial
          · exact ⟨by simp, by omega, by unfold maxLen; omega, by rw [List.drop_zero, List.take_of_length_le (by simp)]; exact exprsD _⟩
          · rw [List.drop_zero, List.take_of_length_le (by simp)]
    · simp (maxSteps := 1000000) [hho, noHo, k1, -List.reduceReplicate]
      refine cut_to () trivial ?_
      refine Wk.trans (wk_virt 3 30 13 rfl) ?_
      rw [hC]
      exact wk_eq (by simp [hE, lens]) (by simp [exprA, rowE, exprsA]) (by simp [livH, livO, AV.livL, AV.liv, wkL, wkV, List.range', slotsOf])
end Go.Proofs.YtlepkpfbejfpiaaDoor
