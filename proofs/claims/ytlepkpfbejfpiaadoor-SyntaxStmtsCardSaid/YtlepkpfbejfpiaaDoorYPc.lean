import Derived.Test.YtlepkpfbejfpiaaDoorYPa
namespace Go.Proofs.YtlepkpfbejfpiaaDoor
set_option linter.unusedVariables false
set_option linter.unusedSimpArgs false
open Go.RowKit
attribute [local simp] isCut_nil isCut_region isCut_seq isCut_block isCut_loop isCut_cond isCut_skip isCut_exit isCut_ret isCut_range swapK putK altK condK_bool pickP_bool stepP stepO onPure_some onPure_none onImpl_some onImpl_none stepC onGP_some onGP_none onGV_some condG mkG onIt_it nextP_ptr takeP_eq takeV_some takeV_none takeU_some takeU_none takeQ takeW_some takeN_none takeN_some takeG_some takeO_some altO_some pureV binV2 eqF eqOp ovlV ovl2 rowAt capV binV intBin strBin isSh shV fldV ixV sliceV slice3V loadAV nilV lenV callV unV convV viewS cellsH loadV fldCut AV.ung AV.ungs AV.gc AV.cells AS.ev AS.put anyS gcsV lens lnO gV guardV retK RetP_eq resV oneV anyRo loIx hiIx implO callP_clo evL gcsL clearV storeAV AS.push AS.setO appV appZ shortS copyV buildV partsV fillV srcV fzO okV isCell_c isCell_ptr isCell_sl isCell_fs isCell_fp isCell_clo rowZ_one rowZ_zero rowZ_2 rowZ_3 rowZ_4 rowZ_5 rowZ_6 rowZ_7 rowZ_8 rowZ_9 rowZ_10 rowZ_11 rowZ_12 noHo Value.oneCell' max2V min2V afterH putBack frzFrom frzO rebO backIx nilEq_sl nilEq_fs nilOp_eql nilOp_neq AV.reb AV.rebL
attribute [local simp ↓] runK_skip runK_region runK_draw runK_seq runK_cut runK_cond runK_block runK_loop runK_exit runK_label runK_goto runK_ret runK_range contK_nil contK_seq contK_seq_ret contK_seq_exit contK_seq_goto contK_block contK_block_ret contK_block_goto contK_block_exit runO_nil runO_cons roundK_exit roundK_ret roundK_goto exitK_ret cutK_ret cutK_exit runE_done runE_nil runE_take runE_alt condG_true condG_false
set_option maxRecDepth 10000
theorem colEq_type (c : ColS) : colEq c (typeCol c.ty) = true ↔ (c.id = 0 ∧ c.name = ByteArray.empty ∧ c.nn = false ∧ c.dft.k = 0 ∧ c.dft.n = 0 ∧ c.dft.s = 0 ∧ c.dft.t = ByteArray.empty ∧ c.st = 0) := by
  constructor
  · intro h; simp only [colEq, Bool.and_eq_true] at h; exact ⟨of_decide_eq_true h.1, of_decide_eq_true h.2.1, of_decide_eq_true h.2.2.2.2.1, of_decide_eq_true h.2.2.2.2.2.1, of_decide_eq_true h.2.2.2.2.2.2.1, of_decide_eq_true h.2.2.2.2.2.2.2.1, of_decide_eq_true h.2.2.2.2.2.2.2.2.1, of_decide_eq_true h.2.2.2.2.2.2.2.2.2⟩
  · rintro ⟨q1, q2, q3, q4, q5, q6, q7, q8⟩; simp only [colEq, Bool.and_eq_true]; exact ⟨decide_eq_true q1, decide_eq_true q2, decide_eq_true rfl, decide_eq_true rfl, decide_eq_true q3, decide_eq_true q4, decide_eq_true q5, decide_eq_true q6, decide_eq_true q7, decide_eq_true q8⟩
set_option maxHeartbeats 8000000 in
theorem parts_k5 (s : StmtS) (h : Fit9 s) (hk : s.kind = 5) : ACalls Tryd.prog 31 [.agg (stmtA s)] [] (fun _ => false) (fun r h' => r = .tup [.agg (partA s), .c (.bool (partsOk s))] ∧ h' = []) := by
  refine acalls mixed Tryd.func31 rfl Tryd.ntmps31 rfl fun E hE hst hho => ?_
  have c0 := name_schB s.tab h.tab
  obtain ⟨B0, hB0⟩ : ∃ B, B = nameOk s.tab := ⟨_, rfl⟩
  rw [← hB0] at c0
  have c1 := name_schB s.name h.name
  obtain ⟨B1, hB1⟩ : ∃ B, B = nameOk s.name := ⟨_, rfl⟩
  rw [← hB1] at c1
  by_cases hc : s.cols.length = 1
  · obtain ⟨c, hcs⟩ := List.length_eq_one_iff.1 hc
    have c2 := type_right c.ty
    obtain ⟨B2, hB2⟩ : ∃ B, B = typOk c.ty := ⟨_, rfl⟩
    rw [← hB2] at c2
    have hR : partsOk s = (B0 && B1 && (colEq c (typeCol c.ty) && B2)) := by simp [partsOk, hk, hcs, oneCol, hB0, hB1, hB2, Bool.and_assoc]
    rw [hR]
    simp only [partA, hk]
    clear hR
    by_cases hq : colEq c (typeCol c.ty) = true
    · obtain ⟨q1, q2, q3, q4, q5, q6, q7, q8⟩ := (colEq_type c).1 hq
      rw [hq]
      simp (maxSteps := 1000000) [hho, noHo, hcs, colsA_one, colA, q1, q2, q3, q4, q5, q6, q7, q8, stmtA, rep10, hk, undef, onGP_none, condG_false, -List.reduceReplicate]
      refine call_x [] c0 rfl rfl ⟨rfl, rfl⟩ hho (by simp) (by decide) (by simp) (by simp) ?_
      cases B0 with
      | false =>
        simp (maxSteps := 1000000) [hho, noHo, hcs, colsA_one, colA, q1, q2, q3, q4, q5, q6, q7, q8, stmtA, rep10, hk, undef, onGP_none, condG_false, -List.reduceReplicate]
        refine draw_k hho (.take 0 (.take 1 (.take 2 (.take 3 (.take 4 (.alt 5 (.take 6 (.alt 7 (.done) (.nil))) (.nil))))))) [0] [] (by decide +kernel) (by simp) ?_
        simp (maxSteps := 1000000) [hho, noHo, hcs, colsA_one, colA, q1, q2, q3, q4, q5, q6, q7, q8, stmtA, rep10, hk, undef, onGP_none, condG_false, roOf, holdOf, wrOf, altK, heldOk, Region.binds, -List.reduceReplicate]
        intros
        refine draw_k hho (.take 0 (.take 1 (.take 2 (.take 3 (.take 4 (.take 5 (.take 6 (.take 7 (.alt 8 (.take 9 (.take 10 (.take 11 (.take 12 (.take 13 (.take 14 (.take 15 (.take 16 (.take 17 (.take 18 (.take 19 (.take 20 (.take 21 (.take 22 (.take 23 (.take 24 (.take 25 (.take 26 (.take 27 (.take 28 (.alt 29 (.take 30 (.alt 31 (.take 32 (.done)) (.nil))) (.nil)))))))))))))))))))))) (.nil)))))))))) [0, 2] [] (by decide +kernel) (by simp) ?_
        simp (maxSteps := 1000000) [hho, noHo, hcs, colsA_one, colA, q1, q2, q3, q4, q5, q6, q7, q8, stmtA, rep10, hk, undef, onGP_none, condG_false, roOf, holdOf, wrOf, altK, heldOk, Region.binds, -List.reduceReplicate]
        intros
        exact Ret.sel [] (fun _ => false) (ho := by rfl) (ha := by rfl) (by simp) (by simp) (by decide) (by simp) (by simp) ⟨by simp, rfl⟩
      | true =>
        simp (maxSteps := 1000000) [hho, noHo, hcs, colsA_one, colA, q1, q2, q3, q4, q5, q6, q7, q8, stmtA, rep10, hk, undef, onGP_none, condG_false, -List.reduceReplicate]
        refine draw_k hho (.take 0 (.take 1 (.take 2 (.take 3 (.take 4 (.alt 5 (.take 6 (.alt 7 (.done) (.nil))) (.nil))))))) [0] [] (by decide +kernel) (by simp) ?_
        simp (maxSteps := 1000000) [hho, noHo, hcs, colsA_one, colA, q1, q2, q3, q4, q5, q6, q7, q8, stmtA, rep10, hk, undef, onGP_none, condG_false, roOf, holdOf, wrOf, altK, heldOk, Region.binds, -List.reduceReplicate]
        intros
        refine draw_k hho (.take 0 (.take 1 (.take 2 (.take 3 (.take 4 (.take 5 (.take 6 (.take 7 (.alt 8 (.take 9 (.take 10 (.take 11 (.take 12 (.take 13 (.take 14 (.take 15 (.take 16 (.take 17 (.take 18 (.take 19 (.take 20 (.take 21 (.take 22 (.take 23 (.take 24 (.take 25 (.take 26 (.take 27 (.take 28 (.alt 29 (.take 30 (.alt 31 (.take 32 (.done)) (.nil))) (.nil)))))))))))))))))))))) (.nil)))))))))) [0, 2] [] (by decide +kernel) (by simp) ?_
        simp (maxSteps := 1000000) [hho, noHo, hcs, colsA_one, colA, q1, q2, q3, q4, q5, q6, q7, q8, stmtA, rep10, hk, undef, onGP_none, condG_false, roOf, holdOf, wrOf, altK, heldOk, Region.binds, -List.reduceReplicate]
        intros
        refine call_h [] c1 rfl rfl ⟨rfl, rfl⟩ (by simp) (by simp) (by decide) (by simp) (by simp) ?_
        cases B1 with
        | false =>
          simp (maxSteps := 1000000) [hho, noHo, hcs, colsA_one, colA, q1, q2, q3, q4, q5, q6, q7, q8, stmtA, rep10, hk, undef, onGP_none, condG_false, roOf, holdOf, wrOf, altK, heldOk, Region.binds, -List.reduceReplicate]
          intros
          exact Ret.sel [] (fun _ => false) (ho := by rfl) (ha := by rfl) (by simp) (by simp) (by decide) (by simp) (by simp) ⟨by simp, rfl⟩
        | true =>
          simp (maxSteps := 1000000) [hho, noHo, hcs, colsA_one, colA, q1, q2, q3, q4, q5, q6, q7, q8, stmtA, rep10, hk, undef, onGP_none, condG_false, roOf, holdOf, wrOf, altK, heldOk, Region.binds, -List.reduceReplicate]
          intros
          refine call_h [] c2 rfl rfl ⟨rfl, rfl⟩ (by simp) (by simp) (by decide) (by simp) (by simp) ?_
          simp (maxSteps := 1000000) [hho, noHo, hcs, colsA_one, colA, q1, q2, q3, q4, q5, q6, q7, q8, stmtA, rep10, hk, undef, onGP_none, condG_false, roOf, holdOf, wrOf, altK, heldOk, Region.binds, -List.reduceReplicate]
          intros
          exact Ret.sel [] (fun _ => false) (ho := by rfl) (ha := by rfl) (by simp) (by simp) (by decide) (by simp) (by simp) ⟨by simp, rfl⟩
    · have hq0 : colEq c (typeCol c.ty) = false := by simpa using hq
      rw [hq0]
      simp (maxSteps := 1000000) [hho, noHo, hcs, colsA_one, colA, stmtA, rep10, hk, undef, onGP_none, condG_false, -List.reduceReplicate]
      refine call_x [] c0 rfl rfl ⟨rfl, rfl⟩ hho (by simp) (by decide) (by simp) (by simp) ?_
      cases B0 with
      | false =>
        simp (maxSteps := 1000000) [hho, noHo, hcs, colsA_one, colA, stmtA, rep10, hk, undef, onGP_none, condG_false, -List.reduceReplicate]
        refine draw_k hho (.take 0 (.take 1 (.take 2 (.take 3 (.take 4 (.alt 5 (.take 6 (.alt 7 (.done) (.nil))) (.nil))))))) [0] [] (by decide +kernel) (by simp) ?_
        simp (maxSteps := 1000000) [hho, noHo, hcs, colsA_one, colA, stmtA, rep10, hk, undef, onGP_none, condG_false, roOf, holdOf, wrOf, altK, heldOk, Region.binds, -List.reduceReplicate]
        intros
        refine draw_k hho (.take 0 (.take 1 (.take 2 (.take 3 (.take 4 (.take 5 (.take 6 (.take 7 (.alt 8 (.take 9 (.take 10 (.take 11 (.take 12 (.take 13 (.take 14 (.take 15 (.take 16 (.take 17 (.take 18 (.take 19 (.take 20 (.take 21 (.take 22 (.take 23 (.take 24 (.take 25 (.take 26 (.take 27 (.take 28 (.alt 29 (.take 30 (.alt 31 (.take 32 (.done)) (.nil))) (.nil)))))))))))))))))))))) (.nil)))))))))) [0, 2] [] (by decide +kernel) (by simp) ?_
        simp (maxSteps := 1000000) [hho, noHo, hcs, colsA_one, colA, stmtA, rep10, hk, undef, onGP_none, condG_false, roOf, holdOf, wrOf, altK, heldOk, Region.binds, -List.reduceReplicate]
        intros
        exact Ret.sel [] (fun _ => false) (ho := by rfl) (ha := by rfl) (by simp) (by simp) (by decide) (by simp) (by simp) ⟨by simp, rfl⟩
      | true =>
        simp (maxSteps := 1000000) [hho, noHo, hcs, colsA_one, colA, stmtA, rep10, hk, undef, onGP_none, condG_false, -List.reduceReplicate]
        refine draw_k hho (.take 0 (.take 1 (.take 2 (.take 3 (.take 4 (.alt 5 (.take 6 (.alt 7 (.done) (.nil))) (.nil))))))) [0] [] (by decide +kernel) (by simp) ?_
        simp (maxSteps := 1000000) [hho, noHo, hcs, colsA_one, colA, stmtA, rep10, hk, undef, onGP_none, condG_false, roOf, holdOf, wrOf, altK, heldOk, Region.binds, -List.reduceReplicate]
        intros
        refine draw_k hho (.take 0 (.take 1 (.take 2 (.take 3 (.take 4 (.take 5 (.take 6 (.take 7 (.alt 8 (.take 9 (.take 10 (.take 11 (.take 12 (.take 13 (.take 14 (.take 15 (.take 16 (.take 17 (.take 18 (.take 19 (.take 20 (.take 21 (.take 22 (.take 23 (.take 24 (.take 25 (.take 26 (.take 27 (.take 28 (.alt 29 (.take 30 (.alt 31 (.take 32 (.done)) (.nil))) (.nil)))))))))))))))))))))) (.nil)))))))))) [0, 2] [] (by decide +kernel) (by simp) ?_
        simp (maxSteps := 1000000) [hho, noHo, hcs, colsA_one, colA, stmtA, rep10, hk, undef, onGP_none, condG_false, roOf, holdOf, wrOf, altK, heldOk, Region.binds, -List.reduceReplicate]
        intros
        refine call_h [] c1 rfl rfl ⟨rfl, rfl⟩ (by simp) (by simp) (by decide) (by simp) (by simp) ?_
        cases B1 with
        | false =>
          simp (maxSteps := 1000000) [hho, noHo, hcs, colsA_one, colA, stmtA, rep10, hk, undef, onGP_none, condG_false, roOf, holdOf, wrOf, altK, heldOk, Region.binds, -List.reduceReplicate]
          intros
          exact Ret.sel [] (fun _ => false) (ho := by rfl) (ha := by rfl) (by simp) (by simp) (by decide) (by simp) (by simp) ⟨by simp, rfl⟩
        | true =>
          simp (maxSteps := 1000000) [hho, noHo, hcs, colsA_one, colA, stmtA, rep10, hk, undef, onGP_none, condG_false, roOf, holdOf, wrOf, altK, heldOk, Region.binds, -List.reduceReplicate]
          intro E9
          refine ⟨fun a1 a2 a3 a4 a5 a6 a7 a8 => absurd ((colEq_type c).2 ⟨a1, a2, a3, a4, a5, a6, a7, a8⟩) hq, ?_⟩
          intro _
          rw [if_neg (fun hh => hq ((colEq_type c).2 hh))]
          intros
          exact Ret.sel [] (fun _ => false) (ho := by rfl) (ha := by rfl) (by simp) (by simp) (by decide) (by simp) (by simp) ⟨by simp, rfl⟩
  · have hi : ¬ (s.cols.length : Int) = 1 := by omega
    have hR : partsOk s = false := by simp [partsOk, hk, oneCol_ne hc]
    rw [hR]
    simp only [partA, hk]
    clear hR
    by_cases h00 : s.cols.length = 0
    · have hm : (min 2 (min 10 (s.cols.length * 10) - 2) = 2) = False := by simp only [eq_iff_iff, iff_false]; omega
      simp (maxSteps := 1000000) [hho, noHo, hc, hi, hm, stmtA, rep10, hk, undef, onGP_none, condG_false, -List.reduceReplicate]
      refine call_x [] c0 rfl rfl ⟨rfl, rfl⟩ hho (by simp) (by decide) (by simp) (by simp) ?_
      cases B0 with
      | false =>
        simp (maxSteps := 1000000) [hho, noHo, hc, hi, hm, stmtA, rep10, hk, undef, onGP_none, condG_false, -List.reduceReplicate]
        refine draw_k hho (.take 0 (.take 1 (.take 2 (.take 3 (.take 4 (.alt 5 (.take 6 (.alt 7 (.done) (.nil))) (.nil))))))) [0] [] (by decide +kernel) (by simp) ?_
        simp (maxSteps := 1000000) [hho, noHo, hc, hi, hm, stmtA, rep10, hk, undef, onGP_none, condG_false, roOf, holdOf, wrOf, altK, heldOk, Region.binds, -List.reduceReplicate]
        intros
        refine draw_k hho (.take 0 (.take 1 (.take 2 (.take 3 (.take 4 (.take 5 (.take 6 (.take 7 (.alt 8 (.take 9 (.take 10 (.take 11 (.take 12 (.take 13 (.take 14 (.take 15 (.take 16 (.take 17 (.take 18 (.take 19 (.take 20 (.take 21 (.take 22 (.take 23 (.take 24 (.take 25 (.take 26 (.take 27 (.take 28 (.alt 29 (.take 30 (.alt 31 (.take 32 (.done)) (.nil))) (.nil)))))))))))))))))))))) (.nil)))))))))) [0, 2] [] (by decide +kernel) (by simp) ?_
        simp (maxSteps := 1000000) [hho, noHo, hc, hi, hm, stmtA, rep10, hk, undef, onGP_none, condG_false, roOf, holdOf, wrOf, altK, heldOk, Region.binds, -List.reduceReplicate]
        intros
        exact Ret.sel [] (fun _ => false) (ho := by rfl) (ha := by rfl) (by simp) (by simp) (by decide) (by simp) (by simp) ⟨by simp, rfl⟩
      | true =>
        simp (maxSteps := 1000000) [hho, noHo, hc, hi, hm, stmtA, rep10, hk, undef, onGP_none, condG_false, -List.reduceReplicate]
        refine draw_k hho (.take 0 (.take 1 (.take 2 (.take 3 (.take 4 (.alt 5 (.take 6 (.alt 7 (.done) (.nil))) (.nil))))))) [0] [] (by decide +kernel) (by simp) ?_
        simp (maxSteps := 1000000) [hho, noHo, hc, hi, hm, stmtA, rep10, hk, undef, onGP_none, condG_false, roOf, holdOf, wrOf, altK, heldOk, Region.binds, -List.reduceReplicate]
        intros
        refine draw_k hho (.take 0 (.take 1 (.take 2 (.take 3 (.take 4 (.take 5 (.take 6 (.take 7 (.alt 8 (.take 9 (.take 10 (.take 11 (.take 12 (.take 13 (.take 14 (.take 15 (.take 16 (.take 17 (.take 18 (.take 19 (.take 20 (.take 21 (.take 22 (.take 23 (.take 24 (.take 25 (.take 26 (.take 27 (.take 28 (.alt 29 (.take 30 (.alt 31 (.take 32 (.done)) (.nil))) (.nil)))))))))))))))))))))) (.nil)))))))))) [0, 2] [] (by decide +kernel) (by simp) ?_
        simp (maxSteps := 1000000) [hho, noHo, hc, hi, hm, stmtA, rep10, hk, undef, onGP_none, condG_false, roOf, holdOf, wrOf, altK, heldOk, Region.binds, -List.reduceReplicate]
        intros
        exact Ret.sel [] (fun _ => false) (ho := by rfl) (ha := by rfl) (by simp) (by simp) (by decide) (by simp) (by simp) ⟨by simp, rfl⟩
    · have hm : (min 2 (min 10 (s.cols.length * 10) - 2) = 2) = True := by simp only [eq_iff_iff, iff_true]; omega
      have hat := colsA_at s.cols 0 (by omega)
      rw [Nat.zero_mul, List.drop_zero] at hat
      obtain ⟨c, hcc⟩ : ∃ c, c = s.cols[0]'(by omega) := ⟨_, rfl⟩
      rw [← hcc] at hat
      simp (maxSteps := 1000000) [hho, noHo, hc, hi, hm, hat, colA, stmtA, rep10, hk, undef, onGP_none, condG_false, -List.reduceReplicate]
      refine call_x [] c0 rfl rfl ⟨rfl, rfl⟩ hho (by simp) (by decide) (by simp) (by simp) ?_
      cases B0 with
      | false =>
        simp (maxSteps := 1000000) [hho, noHo, hc, hi, hm, hat, colA, stmtA, rep10, hk, undef, onGP_none, condG_false, -List.reduceReplicate]
        refine draw_k hho (.take 0 (.take 1 (.take 2 (.take 3 (.take 4 (.alt 5 (.take 6 (.alt 7 (.done) (.nil))) (.nil))))))) [0] [] (by decide +kernel) (by simp) ?_
        simp (maxSteps := 1000000) [hho, noHo, hc, hi, hm, hat, colA, stmtA, rep10, hk, undef, onGP_none, condG_false, roOf, holdOf, wrOf, altK, heldOk, Region.binds, -List.reduceReplicate]
        intros
        refine draw_k hho (.take 0 (.take 1 (.take 2 (.take 3 (.take 4 (.take 5 (.take 6 (.take 7 (.alt 8 (.take 9 (.take 10 (.take 11 (.take 12 (.take 13 (.take 14 (.take 15 (.take 16 (.take 17 (.take 18 (.take 19 (.take 20 (.take 21 (.take 22 (.take 23 (.take 24 (.take 25 (.take 26 (.take 27 (.take 28 (.alt 29 (.take 30 (.alt 31 (.take 32 (.done)) (.nil))) (.nil)))))))))))))))))))))) (.nil)))))))))) [0, 2] [] (by decide +kernel) (by simp) ?_
        simp (maxSteps := 1000000) [hho, noHo, hc, hi, hm, hat, colA, stmtA, rep10, hk, undef, onGP_none, condG_false, roOf, holdOf, wrOf, altK, heldOk, Region.binds, -List.reduceReplicate]
        intros
        exact Ret.sel [] (fun _ => false) (ho := by rfl) (ha := by rfl) (by simp) (by simp) (by decide) (by simp) (by simp) ⟨by simp, rfl⟩
      | true =>
        simp (maxSteps := 1000000) [hho, noHo, hc, hi, hm, hat, colA, stmtA, rep10, hk, undef, onGP_none, condG_false, -List.reduceReplicate]
        refine draw_k hho (.take 0 (.take 1 (.take 2 (.take 3 (.take 4 (.alt 5 (.take 6 (.alt 7 (.done) (.nil))) (.nil))))))) [0] [] (by decide +kernel) (by simp) ?_
        simp (maxSteps := 1000000) [hho, noHo, hc, hi, hm, hat, colA, stmtA, rep10, hk, undef, onGP_none, condG_false, roOf, holdOf, wrOf, altK, heldOk, Region.binds, -List.reduceReplicate]
        intros
        refine draw_k hho (.take 0 (.take 1 (.take 2 (.take 3 (.take 4 (.take 5 (.take 6 (.take 7 (.alt 8 (.take 9 (.take 10 (.take 11 (.take 12 (.take 13 (.take 14 (.take 15 (.take 16 (.take 17 (.take 18 (.take 19 (.take 20 (.take 21 (.take 22 (.take 23 (.take 24 (.take 25 (.take 26 (.take 27 (.take 28 (.alt 29 (.take 30 (.alt 31 (.take 32 (.done)) (.nil))) (.nil)))))))))))))))))))))) (.nil)))))))))) [0, 2] [] (by decide +kernel) (by simp) ?_
        simp (maxSteps := 1000000) [hho, noHo, hc, hi, hm, hat, colA, stmtA, rep10, hk, undef, onGP_none, condG_false, roOf, holdOf, wrOf, altK, heldOk, Region.binds, -List.reduceReplicate]
        intros
        exact Ret.sel [] (fun _ => false) (ho := by rfl) (ha := by rfl) (by simp) (by simp) (by decide) (by simp) (by simp) ⟨by simp, rfl⟩
end Go.Proofs.YtlepkpfbejfpiaaDoor
