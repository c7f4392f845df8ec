import Derived.Test.YtlepkpfbejfpiaaDoorYPa
namespace Go.Proofs.YtlepkpfbejfpiaaDoor
set_option linter.unusedVariables false
set_option linter.unusedSimpArgs false
open Go.RowKit
attribute [local simp] isCut_nil isCut_region isCut_seq isCut_block isCut_loop isCut_cond isCut_skip isCut_exit isCut_ret isCut_range swapK putK altK condK_bool pickP_bool stepP stepO onPure_some onPure_none onImpl_some onImpl_none stepC onGP_some onGP_none onGV_some condG mkG onIt_it nextP_ptr takeP_eq takeV_some takeV_none takeU_some takeU_none takeQ takeW_some takeN_none takeN_some takeG_some takeO_some altO_some pureV binV2 eqF eqOp ovlV ovl2 rowAt capV binV intBin strBin isSh shV fldV ixV sliceV slice3V loadAV nilV lenV callV unV convV viewS cellsH loadV fldCut AV.ung AV.ungs AV.gc AV.cells AS.ev AS.put anyS gcsV lens lnO gV guardV retK RetP_eq resV oneV anyRo loIx hiIx implO callP_clo evL gcsL clearV storeAV AS.push AS.setO appV appZ shortS copyV buildV partsV fillV srcV fzO okV isCell_c isCell_ptr isCell_sl isCell_fs isCell_fp isCell_clo rowZ_one rowZ_zero rowZ_2 rowZ_3 rowZ_4 rowZ_5 rowZ_6 rowZ_7 rowZ_8 rowZ_9 rowZ_10 rowZ_11 rowZ_12 noHo Value.oneCell' max2V min2V afterH putBack frzFrom frzO rebO backIx nilEq_sl nilEq_fs nilOp_eql nilOp_neq AV.reb AV.rebL
attribute [local simp ↓] runK_skip runK_region runK_draw runK_seq runK_cut runK_cond runK_block runK_loop runK_exit runK_label runK_goto runK_ret runK_range contK_nil contK_seq contK_seq_ret contK_seq_exit contK_seq_goto contK_block contK_block_ret contK_block_goto contK_block_exit runO_nil runO_cons roundK_exit roundK_ret roundK_goto exitK_ret cutK_ret cutK_exit runE_done runE_nil runE_take runE_alt condG_true condG_false
set_option maxRecDepth 10000
set_option maxHeartbeats 8000000 in
theorem parts_k6 (s : StmtS) (h : Fit9 s) (hk : s.kind = 6) : ACalls Tryd.prog 31 [.agg (stmtA s)] [] (fun _ => false) (fun r h' => r = .tup [.agg (partA s), .c (.bool (partsOk s))] ∧ h' = []) := by
  refine acalls mixed Tryd.func31 rfl Tryd.ntmps31 rfl fun E hE hst hho => ?_
  have c0 := name_schB s.tab h.tab
  obtain ⟨B0, hB0⟩ : ∃ B, B = nameOk s.tab := ⟨_, rfl⟩
  rw [← hB0] at c0
  have c1 := names_w s.names h.names.1 h.names.2
  obtain ⟨B1, hB1⟩ : ∃ B, B = namesOk s.names := ⟨_, rfl⟩
  rw [← hB1] at c1
  have c2 := cfc_erow s.rows (fun r => !decide (r.length = s.names.length)) 60 (by simp) s (by have := h.rows; omega) fun x _ => parts2_w s x
  obtain ⟨Q, hQ⟩ : ∃ B, B = s.rows.any fun r => !decide (r.length = s.names.length) := ⟨_, rfl⟩
  rw [← hQ] at c2
  have hR : partsOk s = (B0 && B1 && decide (1 ≤ s.rows.length) && !Q) := by simp [partsOk, hk, hB0, hB1, hQ]
  rw [hR]
  simp only [partA, hk]
  clear hR
  by_cases hc : 1 ≤ s.rows.length
  · have hi : (1 : Int) ≤ s.rows.length := by omega
    simp (maxSteps := 1000000) [hho, noHo, hc, hi, stmtA, rep10, hk, undef, onGP_none, condG_false, -List.reduceReplicate]
    refine call_x [] c0 rfl rfl ⟨rfl, rfl⟩ hho (by simp) (by decide) (by simp) (by simp) ?_
    cases B0 with
    | false =>
      simp (maxSteps := 1000000) [hho, noHo, hc, hi, stmtA, rep10, hk, undef, onGP_none, condG_false, -List.reduceReplicate]
      refine draw_k hho (.take 0 (.take 1 (.take 2 (.take 3 (.take 4 (.alt 5 (.take 6 (.alt 7 (.done) (.nil))) (.nil))))))) [0] [] (by decide +kernel) (by simp) ?_
      simp (maxSteps := 1000000) [hho, noHo, hc, hi, stmtA, rep10, hk, undef, onGP_none, condG_false, roOf, holdOf, wrOf, altK, heldOk, Region.binds, -List.reduceReplicate]
      intros
      refine draw_k hho (.take 0 (.take 1 (.take 2 (.take 3 (.alt 4 (.alt 5 (.take 6 (.take 7 (.take 8 (.alt 9 (.take 10 (.take 11 (.take 12 (.take 13 (.take 14 (.take 16 (.alt 15 (.alt 17 (.take 18 (.take 19 (.alt 20 (.take 21 .done) .nil))) .nil) .nil))))))) .nil)))) .nil) .nil))))) [2] [] (by decide +kernel) (by simp) ?_
      simp (maxSteps := 1000000) [hho, noHo, hc, hi, stmtA, rep10, hk, undef, onGP_none, condG_false, roOf, holdOf, wrOf, altK, heldOk, Region.binds, -List.reduceReplicate]
      intros
      exact Ret.sel [] (fun _ => false) (ho := by rfl) (ha := by rfl) (by simp) (by simp) (by decide) (by simp) (by simp) ⟨by simp, rfl⟩
    | true =>
      simp (maxSteps := 1000000) [hho, noHo, hc, hi, stmtA, rep10, hk, undef, onGP_none, condG_false, -List.reduceReplicate]
      refine draw_k hho (.take 0 (.take 1 (.take 2 (.take 3 (.take 4 (.alt 5 (.take 6 (.alt 7 (.done) (.nil))) (.nil))))))) [0] [] (by decide +kernel) (by simp) ?_
      simp (maxSteps := 1000000) [hho, noHo, hc, hi, stmtA, rep10, hk, undef, onGP_none, condG_false, roOf, holdOf, wrOf, altK, heldOk, Region.binds, -List.reduceReplicate]
      intros
      refine draw_k hho (.take 0 (.take 1 (.take 2 (.take 3 (.alt 4 (.alt 5 (.take 6 (.take 7 (.take 8 (.alt 9 (.take 10 (.take 11 (.take 12 (.take 13 (.take 14 (.take 16 (.alt 15 (.alt 17 (.take 18 (.take 19 (.alt 20 (.take 21 .done) .nil))) .nil) .nil))))))) .nil)))) .nil) .nil))))) [2] [] (by decide +kernel) (by simp) ?_
      simp (maxSteps := 1000000) [hho, noHo, hc, hi, stmtA, rep10, hk, undef, onGP_none, condG_false, roOf, holdOf, wrOf, altK, heldOk, Region.binds, -List.reduceReplicate]
      intros
      refine call_h [] c1 rfl rfl ⟨rfl, rfl⟩ (by simp) (by simp) (by decide) (by simp) (by simp) ?_
      cases B1 with
      | false =>
        simp (maxSteps := 1000000) [hho, noHo, hc, hi, stmtA, rep10, hk, undef, onGP_none, condG_false, roOf, holdOf, wrOf, altK, heldOk, Region.binds, -List.reduceReplicate]
        intros
        exact Ret.sel [] (fun _ => false) (ho := by rfl) (ha := by rfl) (by simp) (by simp) (by decide) (by simp) (by simp) ⟨by simp, rfl⟩
      | true =>
        simp (maxSteps := 1000000) [hho, noHo, hc, hi, stmtA, rep10, hk, undef, onGP_none, condG_false, roOf, holdOf, wrOf, altK, heldOk, Region.binds, -List.reduceReplicate]
        intros
        refine call_h [0] c2 rfl rfl ⟨rfl, by simp [stmtA, hk]⟩ (by simp) (by simp) (by decide) (by simp) (by simp) ?_
        cases Q with
        | false =>
          simp (maxSteps := 1000000) [hho, noHo, hc, hi, stmtA, rep10, hk, undef, onGP_none, condG_false, roOf, holdOf, wrOf, altK, heldOk, Region.binds, -List.reduceReplicate]
          intros
          exact Ret.sel [] (fun _ => false) (ho := by rfl) (ha := by rfl) (by simp) (by simp) (by decide) (by simp) (by simp) ⟨by simp, rfl⟩
        | true =>
          simp (maxSteps := 1000000) [hho, noHo, hc, hi, stmtA, rep10, hk, undef, onGP_none, condG_false, roOf, holdOf, wrOf, altK, heldOk, Region.binds, -List.reduceReplicate]
          intros
          exact Ret.sel [] (fun _ => false) (ho := by rfl) (ha := by rfl) (by simp) (by simp) (by decide) (by simp) (by simp) ⟨by simp, rfl⟩
  · have hi : ¬ (1 : Int) ≤ s.rows.length := by omega
    simp (maxSteps := 1000000) [hho, noHo, hc, hi, stmtA, rep10, hk, undef, onGP_none, condG_false, -List.reduceReplicate]
    refine call_x [] c0 rfl rfl ⟨rfl, rfl⟩ hho (by simp) (by decide) (by simp) (by simp) ?_
    cases B0 with
    | false =>
      simp (maxSteps := 1000000) [hho, noHo, hc, hi, stmtA, rep10, hk, undef, onGP_none, condG_false, -List.reduceReplicate]
      refine draw_k hho (.take 0 (.take 1 (.take 2 (.take 3 (.take 4 (.alt 5 (.take 6 (.alt 7 (.done) (.nil))) (.nil))))))) [0] [] (by decide +kernel) (by simp) ?_
      simp (maxSteps := 1000000) [hho, noHo, hc, hi, stmtA, rep10, hk, undef, onGP_none, condG_false, roOf, holdOf, wrOf, altK, heldOk, Region.binds, -List.reduceReplicate]
      intros
      refine draw_k hho (.take 0 (.take 1 (.take 2 (.take 3 (.alt 4 (.alt 5 (.take 6 (.take 7 (.take 8 (.alt 9 (.take 10 (.take 11 (.take 12 (.take 13 (.take 14 (.take 16 (.alt 15 (.alt 17 (.take 18 (.take 19 (.alt 20 (.take 21 .done) .nil))) .nil) .nil))))))) .nil)))) .nil) .nil))))) [2] [] (by decide +kernel) (by simp) ?_
      simp (maxSteps := 1000000) [hho, noHo, hc, hi, stmtA, rep10, hk, undef, onGP_none, condG_false, roOf, holdOf, wrOf, altK, heldOk, Region.binds, -List.reduceReplicate]
      intros
      exact Ret.sel [] (fun _ => false) (ho := by rfl) (ha := by rfl) (by simp) (by simp) (by decide) (by simp) (by simp) ⟨by simp, rfl⟩
    | true =>
      simp (maxSteps := 1000000) [hho, noHo, hc, hi, stmtA, rep10, hk, undef, onGP_none, condG_false, -List.reduceReplicate]
      refine draw_k hho (.take 0 (.take 1 (.take 2 (.take 3 (.take 4 (.alt 5 (.take 6 (.alt 7 (.done) (.nil))) (.nil))))))) [0] [] (by decide +kernel) (by simp) ?_
      simp (maxSteps := 1000000) [hho, noHo, hc, hi, stmtA, rep10, hk, undef, onGP_none, condG_false, roOf, holdOf, wrOf, altK, heldOk, Region.binds, -List.reduceReplicate]
      intros
      refine draw_k hho (.take 0 (.take 1 (.take 2 (.take 3 (.alt 4 (.alt 5 (.take 6 (.take 7 (.take 8 (.alt 9 (.take 10 (.take 11 (.take 12 (.take 13 (.take 14 (.take 16 (.alt 15 (.alt 17 (.take 18 (.take 19 (.alt 20 (.take 21 .done) .nil))) .nil) .nil))))))) .nil)))) .nil) .nil))))) [2] [] (by decide +kernel) (by simp) ?_
      simp (maxSteps := 1000000) [hho, noHo, hc, hi, stmtA, rep10, hk, undef, onGP_none, condG_false, roOf, holdOf, wrOf, altK, heldOk, Region.binds, -List.reduceReplicate]
      intros
      refine call_h [] c1 rfl rfl ⟨rfl, rfl⟩ (by simp) (by simp) (by decide) (by simp) (by simp) ?_
      cases B1 with
      | false =>
        simp (maxSteps := 1000000) [hho, noHo, hc, hi, stmtA, rep10, hk, undef, onGP_none, condG_false, roOf, holdOf, wrOf, altK, heldOk, Region.binds, -List.reduceReplicate]
        intros
        exact Ret.sel [] (fun _ => false) (ho := by rfl) (ha := by rfl) (by simp) (by simp) (by decide) (by simp) (by simp) ⟨by simp, rfl⟩
      | true =>
        simp (maxSteps := 1000000) [hho, noHo, hc, hi, stmtA, rep10, hk, undef, onGP_none, condG_false, roOf, holdOf, wrOf, altK, heldOk, Region.binds, -List.reduceReplicate]
        intros
        exact Ret.sel [] (fun _ => false) (ho := by rfl) (ha := by rfl) (by simp) (by simp) (by decide) (by simp) (by simp) ⟨by simp, rfl⟩
set_option maxHeartbeats 8000000 in
theorem parts_k7 (s : StmtS) (h : Fit9 s) (hk : s.kind = 7) : ACalls Tryd.prog 31 [.agg (stmtA s)] [] (fun _ => false) (fun r h' => r = .tup [.agg (partA s), .c (.bool (partsOk s))] ∧ h' = []) := by
  refine acalls mixed Tryd.func31 rfl Tryd.ntmps31 rfl fun E hE hst hho => ?_
  have c0 := name_schB s.tab h.tab
  obtain ⟨B0, hB0⟩ : ∃ B, B = nameOk s.tab := ⟨_, rfl⟩
  rw [← hB0] at c0
  have c1 := cf_set s.sets (fun x => !nameOk x.name) 62 (by simp) (by have := h.sets.1; omega) fun x hx => parts3_w x (h.sets.2 x hx)
  obtain ⟨Q, hQ⟩ : ∃ B, B = s.sets.any fun x => !nameOk x.name := ⟨_, rfl⟩
  rw [← hQ] at c1
  have hR : partsOk s = (B0 && decide (1 ≤ s.sets.length) && !Q) := by simp [partsOk, hk, hB0, hQ]
  rw [hR]
  simp only [partA, hk]
  clear hR
  by_cases hc : 1 ≤ s.sets.length
  · have hi : (1 : Int) ≤ s.sets.length := by omega
    simp (maxSteps := 1000000) [hho, noHo, hc, hi, stmtA, rep10, hk, undef, onGP_none, condG_false, -List.reduceReplicate]
    refine call_x [] c0 rfl rfl ⟨rfl, rfl⟩ hho (by simp) (by decide) (by simp) (by simp) ?_
    cases B0 with
    | false =>
      simp (maxSteps := 1000000) [hho, noHo, hc, hi, stmtA, rep10, hk, undef, onGP_none, condG_false, -List.reduceReplicate]
      refine draw_k hho (.take 0 (.take 1 (.take 2 (.take 3 (.take 4 (.alt 5 (.take 6 (.alt 7 (.done) (.nil))) (.nil))))))) [0] [] (by decide +kernel) (by simp) ?_
      simp (maxSteps := 1000000) [hho, noHo, hc, hi, stmtA, rep10, hk, undef, onGP_none, condG_false, roOf, holdOf, wrOf, altK, heldOk, Region.binds, -List.reduceReplicate]
      intros
      refine draw_k hho (.take 0 (.take 1 (.take 2 (.take 3 (.take 4 (.take 5 (.take 6 (.take 7 (.take 8 (.take 9 (.take 10 (.alt 11 (.take 12 (.take 13 (.alt 14 (.take 15 (.done)) (.nil)))) (.nil))))))))))))) [0, 2] [] (by decide +kernel) (by simp) ?_
      simp (maxSteps := 1000000) [hho, noHo, hc, hi, stmtA, rep10, hk, undef, onGP_none, condG_false, roOf, holdOf, wrOf, altK, heldOk, Region.binds, -List.reduceReplicate]
      intros
      exact Ret.sel [] (fun _ => false) (ho := by rfl) (ha := by rfl) (by simp) (by simp) (by decide) (by simp) (by simp) ⟨by simp, rfl⟩
    | true =>
      simp (maxSteps := 1000000) [hho, noHo, hc, hi, stmtA, rep10, hk, undef, onGP_none, condG_false, -List.reduceReplicate]
      refine draw_k hho (.take 0 (.take 1 (.take 2 (.take 3 (.take 4 (.alt 5 (.take 6 (.alt 7 (.done) (.nil))) (.nil))))))) [0] [] (by decide +kernel) (by simp) ?_
      simp (maxSteps := 1000000) [hho, noHo, hc, hi, stmtA, rep10, hk, undef, onGP_none, condG_false, roOf, holdOf, wrOf, altK, heldOk, Region.binds, -List.reduceReplicate]
      intros
      refine draw_k hho (.take 0 (.take 1 (.take 2 (.take 3 (.take 4 (.take 5 (.take 6 (.take 7 (.take 8 (.take 9 (.take 10 (.alt 11 (.take 12 (.take 13 (.alt 14 (.take 15 (.done)) (.nil)))) (.nil))))))))))))) [0, 2] [] (by decide +kernel) (by simp) ?_
      simp (maxSteps := 1000000) [hho, noHo, hc, hi, stmtA, rep10, hk, undef, onGP_none, condG_false, roOf, holdOf, wrOf, altK, heldOk, Region.binds, -List.reduceReplicate]
      intros
      refine call_h [] c1 rfl rfl ⟨rfl, rfl⟩ (by simp) (by simp) (by decide) (by simp) (by simp) ?_
      cases Q with
      | false =>
        simp (maxSteps := 1000000) [hho, noHo, hc, hi, stmtA, rep10, hk, undef, onGP_none, condG_false, roOf, holdOf, wrOf, altK, heldOk, Region.binds, -List.reduceReplicate]
        intros
        exact Ret.sel [] (fun _ => false) (ho := by rfl) (ha := by rfl) (by simp) (by simp) (by decide) (by simp) (by simp) ⟨by simp, rfl⟩
      | true =>
        simp (maxSteps := 1000000) [hho, noHo, hc, hi, stmtA, rep10, hk, undef, onGP_none, condG_false, roOf, holdOf, wrOf, altK, heldOk, Region.binds, -List.reduceReplicate]
        intros
        exact Ret.sel [] (fun _ => false) (ho := by rfl) (ha := by rfl) (by simp) (by simp) (by decide) (by simp) (by simp) ⟨by simp, rfl⟩
  · have hi : ¬ (1 : Int) ≤ s.sets.length := by omega
    simp (maxSteps := 1000000) [hho, noHo, hc, hi, stmtA, rep10, hk, undef, onGP_none, condG_false, -List.reduceReplicate]
    refine call_x [] c0 rfl rfl ⟨rfl, rfl⟩ hho (by simp) (by decide) (by simp) (by simp) ?_
    cases B0 with
    | false =>
      simp (maxSteps := 1000000) [hho, noHo, hc, hi, stmtA, rep10, hk, undef, onGP_none, condG_false, -List.reduceReplicate]
      refine draw_k hho (.take 0 (.take 1 (.take 2 (.take 3 (.take 4 (.alt 5 (.take 6 (.alt 7 (.done) (.nil))) (.nil))))))) [0] [] (by decide +kernel) (by simp) ?_
      simp (maxSteps := 1000000) [hho, noHo, hc, hi, stmtA, rep10, hk, undef, onGP_none, condG_false, roOf, holdOf, wrOf, altK, heldOk, Region.binds, -List.reduceReplicate]
      intros
      refine draw_k hho (.take 0 (.take 1 (.take 2 (.take 3 (.take 4 (.take 5 (.take 6 (.take 7 (.take 8 (.take 9 (.take 10 (.alt 11 (.take 12 (.take 13 (.alt 14 (.take 15 (.done)) (.nil)))) (.nil))))))))))))) [0, 2] [] (by decide +kernel) (by simp) ?_
      simp (maxSteps := 1000000) [hho, noHo, hc, hi, stmtA, rep10, hk, undef, onGP_none, condG_false, roOf, holdOf, wrOf, altK, heldOk, Region.binds, -List.reduceReplicate]
      intros
      exact Ret.sel [] (fun _ => false) (ho := by rfl) (ha := by rfl) (by simp) (by simp) (by decide) (by simp) (by simp) ⟨by simp, rfl⟩
    | true =>
      simp (maxSteps := 1000000) [hho, noHo, hc, hi, stmtA, rep10, hk, undef, onGP_none, condG_false, -List.reduceReplicate]
      refine draw_k hho (.take 0 (.take 1 (.take 2 (.take 3 (.take 4 (.alt 5 (.take 6 (.alt 7 (.done) (.nil))) (.nil))))))) [0] [] (by decide +kernel) (by simp) ?_
      simp (maxSteps := 1000000) [hho, noHo, hc, hi, stmtA, rep10, hk, undef, onGP_none, condG_false, roOf, holdOf, wrOf, altK, heldOk, Region.binds, -List.reduceReplicate]
      intros
      refine draw_k hho (.take 0 (.take 1 (.take 2 (.take 3 (.take 4 (.take 5 (.take 6 (.take 7 (.take 8 (.take 9 (.take 10 (.alt 11 (.take 12 (.take 13 (.alt 14 (.take 15 (.done)) (.nil)))) (.nil))))))))))))) [0, 2] [] (by decide +kernel) (by simp) ?_
      simp (maxSteps := 1000000) [hho, noHo, hc, hi, stmtA, rep10, hk, undef, onGP_none, condG_false, roOf, holdOf, wrOf, altK, heldOk, Region.binds, -List.reduceReplicate]
      intros
      exact Ret.sel [] (fun _ => false) (ho := by rfl) (ha := by rfl) (by simp) (by simp) (by decide) (by simp) (by simp) ⟨by simp, rfl⟩
set_option maxHeartbeats 8000000 in
theorem parts_k8 (s : StmtS) (h : Fit9 s) (hk : s.kind = 8) : ACalls Tryd.prog 31 [.agg (stmtA s)] [] (fun _ => false) (fun r h' => r = .tup [.agg (partA s), .c (.bool (partsOk s))] ∧ h' = []) := by
  refine acalls mixed Tryd.func31 rfl Tryd.ntmps31 rfl fun E hE hst hho => ?_
  have c0 := name_schB s.tab h.tab
  obtain ⟨B0, hB0⟩ : ∃ B, B = nameOk s.tab := ⟨_, rfl⟩
  rw [← hB0] at c0
  have hR : partsOk s = (B0) := by simp [partsOk, hk, hB0]
  rw [hR]
  simp only [partA, hk]
  clear hR
  simp (maxSteps := 1000000) [hho, noHo, stmtA, rep10, hk, undef, onGP_none, condG_false, -List.reduceReplicate]
  refine call_x [] c0 rfl rfl ⟨rfl, rfl⟩ hho (by simp) (by decide) (by simp) (by simp) ?_
  cases B0 with
  | false =>
    simp (maxSteps := 1000000) [hho, noHo, stmtA, rep10, hk, undef, onGP_none, condG_false, -List.reduceReplicate]
    intros
    exact Ret.sel [] (fun _ => false) (ho := by rfl) (ha := by rfl) (by simp) (by simp) (by decide) (by simp) (by simp) ⟨by simp, rfl⟩
  | true =>
    simp (maxSteps := 1000000) [hho, noHo, stmtA, rep10, hk, undef, onGP_none, condG_false, -List.reduceReplicate]
    intros
    exact Ret.sel [] (fun _ => false) (ho := by rfl) (ha := by rfl) (by simp) (by simp) (by decide) (by simp) (by simp) ⟨by simp, rfl⟩
set_option maxHeartbeats 8000000 in
theorem parts_k9 (s : StmtS) (h : Fit9 s) (hk : s.kind = 9) : ACalls Tryd.prog 31 [.agg (stmtA s)] [] (fun _ => false) (fun r h' => r = .tup [.agg (partA s), .c (.bool (partsOk s))] ∧ h' = []) := by
  refine acalls mixed Tryd.func31 rfl Tryd.ntmps31 rfl fun E hE hst hho => ?_
  have c0 := selects_w s h.from_ h.items
  obtain ⟨B0, hB0⟩ : ∃ B, B = selS s := ⟨_, rfl⟩
  rw [← hB0] at c0
  have hR : partsOk s = B0 := by simp [partsOk, hk, hB0]
  rw [hR]
  simp only [partA, hk]
  clear hR
  simp (maxSteps := 1000000) [hho, noHo, stmtA, rep10, hk, undef, onGP_none, condG_false, -List.reduceReplicate]
  refine draw_k hho (.take 0 (.take 1 (.take 2 (.take 3 (.take 4 (.take 5 (.take 6 (.take 7 (.take 8 (.alt 9 (.take 10 (.alt 11 (.take 12 (.alt 13 (.take 14 (.alt 15 (.done) (.nil))) (.nil))) (.nil))) (.nil))))))))))) [0] [] (by decide +kernel) (by simp) ?_
  simp (maxSteps := 1000000) [hho, noHo, stmtA, rep10, hk, undef, onGP_none, condG_false, roOf, holdOf, wrOf, altK, heldOk, Region.binds, -List.reduceReplicate]
  intros
  refine draw_k hho (.take 0 (.take 1 (.take 2 (.take 3 (.take 4 (.take 5 (.take 6 (.alt 7 (.take 8 (.alt 9 (.take 10 (.alt 11 (.done) (.nil))) (.nil))) (.nil))))))))) [0] [] (by decide +kernel) (by simp) ?_
  simp (maxSteps := 1000000) [hho, noHo, stmtA, rep10, hk, undef, onGP_none, condG_false, roOf, holdOf, wrOf, altK, heldOk, Region.binds, -List.reduceReplicate]
  intros
  refine draw_k hho (.take 0 (.take 1 (.alt 2 (.alt 3 (.take 4 .done) .nil) .nil))) [0, 2] [] (by decide +kernel) (by simp) ?_
  simp (maxSteps := 1000000) [hho, noHo, stmtA, rep10, hk, undef, onGP_none, condG_false, roOf, holdOf, wrOf, altK, heldOk, Region.binds, -List.reduceReplicate]
  intros
  refine call_h [] c0 rfl rfl ⟨by simp [stmtA, hk], rfl⟩ (by simp) (by simp) (by decide) (by simp) (by simp) ?_
  simp (maxSteps := 1000000) [hho, noHo, stmtA, rep10, hk, undef, onGP_none, condG_false, roOf, holdOf, wrOf, altK, heldOk, Region.binds, -List.reduceReplicate]
  intros
  exact Ret.sel [] (fun _ => false) (ho := by rfl) (ha := by rfl) (by simp) (by simp) (by decide) (by simp) (by simp) ⟨by simp, rfl⟩
set_option maxHeartbeats 8000000 in
theorem parts_ke (s : StmtS) (h : Fit9 s) (h0 : ¬ s.kind = 0) (h1 : ¬ s.kind = 1) (h2 : ¬ s.kind = 2) (h3 : ¬ s.kind = 3) (h4 : ¬ s.kind = 4) (h5 : ¬ s.kind = 5) (h6 : ¬ s.kind = 6) (h7 : ¬ s.kind = 7) (h8 : ¬ s.kind = 8) (h9 : ¬ s.kind = 9) : ACalls Tryd.prog 31 [.agg (stmtA s)] [] (fun _ => false) (fun r h' => r = .tup [.agg (partA s), .c (.bool (partsOk s))] ∧ h' = []) := by
  refine acalls mixed Tryd.func31 rfl Tryd.ntmps31 rfl fun E hE hst hho => ?_
  have c0 := name_schB s.tab h.tab
  obtain ⟨B0, hB0⟩ : ∃ B, B = nameOk s.tab := ⟨_, rfl⟩
  rw [← hB0] at c0
  have hR : partsOk s = false := by simp [partsOk, h0, h1, h2, h3, h4, h5, h6, h7, h8, h9]
  rw [hR]
  simp only [partA]
  clear hR
  simp (maxSteps := 1000000) [hho, noHo, stmtA, rep10, h0, h1, h2, h3, h4, h5, h6, h7, h8, h9, undef, onGP_none, condG_false, -List.reduceReplicate]
  refine call_x [] c0 rfl rfl ⟨rfl, rfl⟩ hho (by simp) (by decide) (by simp) (by simp) ?_
  simp (maxSteps := 1000000) [hho, noHo, stmtA, rep10, h0, h1, h2, h3, h4, h5, h6, h7, h8, h9, undef, onGP_none, condG_false, -List.reduceReplicate]
  exact Ret.sel [] (fun _ => false) (ho := by rfl) (ha := by rfl) (by simp) (by simp) (by decide) (by simp) (by simp) ⟨by simp [h0, h1, h2, h3, h4, h5, h6, h7, h8, h9], rfl⟩
end Go.Proofs.YtlepkpfbejfpiaaDoor
