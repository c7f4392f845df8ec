import Derived.Test.YtcjncgfhkgcbnaaDoorJf
import Derived.Test.YtcjncgfhkgcbnaaDoorJs
import Derived.Test.YtcjncgfhkgcbnaaDoorJd
import Derived.Test.YtcjncgfhkgcbnaaDoorJw
namespace Go.Proofs.YtcjncgfhkgcbnaaDoor
set_option linter.unusedVariables false
set_option linter.unusedSimpArgs false
open Go.RowKit
attribute [local simp] isCut_nil isCut_region isCut_seq isCut_block isCut_loop isCut_cond isCut_skip isCut_exit isCut_ret isCut_range swapK putK altK condK_bool pickP_bool stepP stepO onPure_some onPure_none onImpl_some onImpl_none stepC onGP_some onGP_none onGV_some condG mkG onIt_it nextP_ptr takeP_eq takeV_some takeV_none takeU_some takeU_none takeQ takeW_some takeN_none takeN_some takeG_some takeO_some altO_some pureV binV2 eqF eqOp ovlV ovl2 rowAt capV binV intBin strBin isSh shV fldV ixV sliceV slice3V loadAV nilV lenV callV unV convV viewS cellsH loadV fldCut AV.ung AV.ungs AV.gc AV.cells AS.ev AS.put anyS gcsV gcO lens lnO gV guardV retK RetP_eq resV oneV anyRo loIx hiIx implO callP_clo evL gcsL clearV storeAV AS.push AS.setO appV appZ shortS copyV buildV partsV fillV srcV fzO okV isCell_c isCell_ptr isCell_sl isCell_fs isCell_fp isCell_clo rowZ_one rowZ_zero rowZ_2 rowZ_3 rowZ_4 rowZ_5 rowZ_6 rowZ_7 rowZ_8 rowZ_9 rowZ_10 rowZ_11 rowZ_12 noHo Value.oneCell' max2V min2V lookV updV lenM msAt afterH putBack frzFrom frzO rebO backIx nilEq_sl nilEq_fs nilOp_eql nilOp_neq AV.reb AV.rebL
attribute [local simp ↓] runK_skip runK_region runK_draw runK_seq runK_cut runK_cond runK_block runK_loop runK_exit runK_label runK_goto runK_ret runK_range contK_nil contK_seq contK_seq_ret contK_seq_exit contK_seq_goto contK_block contK_block_ret contK_block_goto contK_block_exit runO_nil runO_cons roundK_exit roundK_ret roundK_goto exitK_ret cutK_ret cutK_exit runE_done runE_nil runE_take runE_alt condG_true condG_false
set_option maxRecDepth 10000
theorem jfit_dec (j : JobS) : ∃ R : Bool, R = true ↔ JobFit j := ⟨@decide (JobFit j) (Classical.propDecidable _), by simp⟩
theorem jfit_big {j : JobS} (h : JobFit j) : JobBig j := by
  obtain ⟨h1, h2, h3, h4, h5, h6⟩ := h
  exact ⟨by omega, by omega, by omega, by omega, fun c hc => by have := h6 c hc; exact ⟨by have := this.1; omega, by have := this.2; omega⟩⟩
set_option maxHeartbeats 16000000 in
theorem jputs_w (j : JobS) (ho : j.Ok) : ACalls Tryd.prog 3 [.agg (jobA j)] [] (fun _ => false) (fun r h' => r = .c (.bool true)) := by
  refine acalls mixed Tryd.func3 rfl Tryd.ntmps3 rfl fun E hE hst hho => ?_
  obtain ⟨R, hR⟩ := jfit_dec j
  have c0 := r16Small_w j ho R hR
  cases R with
  | false =>
    simp (maxSteps := 1000000) [hho, noHo, jobA, -List.reduceReplicate]
    refine call_x [] (first16_w) rfl rfl ⟨rfl, rfl⟩ hho (by simp) (by decide) (by simp) (by simp) ?_
    simp (maxSteps := 1000000) [hho, noHo, -List.reduceReplicate]
    refine call_x [] (c0) rfl rfl ⟨rfl, rfl⟩ hho (by simp) (by decide) (by simp) (by simp) ?_
    simp (maxSteps := 1000000) [hho, noHo, undef, onGP_none, condG_false, -List.reduceReplicate]
    exact Ret.drop (by rfl) rfl
  | true =>
  have hfit := hR.1 rfl
  have hb := jfit_big hfit
  have hn := hfit.1
  have c1 := jbPut_w j hb hn ho
  have c2 := r16Right_w j hb
  have c3 := jbRight_w j hb
  unfold jobPutA at c1
  cases hok : jobOk j with
  | false =>
    rw [hok] at c1 c2 c3
    simp (maxSteps := 1000000) [hho, noHo, jobA, -List.reduceReplicate]
    refine call_x [] (first16_w) rfl rfl ⟨rfl, rfl⟩ hho (by simp) (by decide) (by simp) (by simp) ?_
    simp (maxSteps := 1000000) [hho, noHo, -List.reduceReplicate]
    refine call_x [] (c0) rfl rfl ⟨rfl, rfl⟩ hho (by simp) (by decide) (by simp) (by simp) ?_
    simp (maxSteps := 1000000) [hho, noHo, undef, onGP_none, condG_false, -List.reduceReplicate]
    refine call_x [] (c1) rfl rfl ⟨rfl, rfl⟩ hho (by simp) (by decide) (by simp) (by simp) ?_
    simp (maxSteps := 1000000) [hho, noHo, undef, onGP_none, condG_false, -List.reduceReplicate]
    refine call_x [] (c2) rfl rfl ⟨rfl, rfl⟩ hho (by simp) (by decide) (by simp) (by simp) ?_
    simp (maxSteps := 1000000) [hho, noHo, undef, onGP_none, condG_false, -List.reduceReplicate]
    refine call_x [] (c3) rfl rfl ⟨rfl, rfl⟩ hho (by simp) (by decide) (by simp) (by simp) ?_
    simp (maxSteps := 1000000) [hho, noHo, undef, onGP_none, condG_false, -List.reduceReplicate]
    exact Ret.drop (by rfl) rfl
  | true =>
  rw [hok] at c1 c2 c3
  have hBl := jobB_len hok hn ho
  have c4 := jbParse_w (jobB j) (by omega)
  unfold jobParseA at c4
  rw [parJob_put hok hn ho] at c4
  have c5 := r16Put_w j hok (by omega) ho
  obtain ⟨B, hB⟩ : ∃ B, B = jobB j := ⟨_, rfl⟩
  rw [← hB] at c1 c4 c5
  simp (maxSteps := 1000000) [hho, noHo, jobA, -List.reduceReplicate]
  refine call_x [] (first16_w) rfl rfl ⟨rfl, rfl⟩ hho (by simp) (by decide) (by simp) (by simp) ?_
  simp (maxSteps := 1000000) [hho, noHo, -List.reduceReplicate]
  refine call_x [] (c0) rfl rfl ⟨rfl, rfl⟩ hho (by simp) (by decide) (by simp) (by simp) ?_
  simp (maxSteps := 1000000) [hho, noHo, undef, onGP_none, condG_false, -List.reduceReplicate]
  refine call_x [] (c1) rfl rfl ⟨rfl, rfl⟩ hho (by simp) (by decide) (by simp) (by simp) ?_
  simp (maxSteps := 1000000) [hho, noHo, undef, onGP_none, condG_false, -List.reduceReplicate]
  refine call_x [] (c2) rfl rfl ⟨rfl, rfl⟩ hho (by simp) (by decide) (by simp) (by simp) ?_
  simp (maxSteps := 1000000) [hho, noHo, undef, onGP_none, condG_false, -List.reduceReplicate]
  refine call_x [] (c4) rfl rfl ⟨rfl, rfl⟩ hho (by simp) (by decide) (by simp) (by simp) ?_
  simp (maxSteps := 1000000) [hho, noHo, jobA, undef, onGP_none, condG_false, -List.reduceReplicate]
  refine draw_k hho (.take 0 (.alt 1 (.take 2 (.take 3 (.take 4 (.take 5 (.take 6 (.take 7 (.take 8 (.take 9 (.alt 10 (.take 11 (.take 12 (.take 13 (.take 14 (.take 15 (.take 16 (.take 17 (.take 19 (.alt 18 (.alt 20 (.take 21 (.take 22 (.take 23 (.done)))) (.nil)) (.nil)))))))))) (.nil)))))))))) (.nil))) [0, 1] [] (by decide +kernel) (by simp) ?_
  simp (maxSteps := 1000000) [hho, noHo, roOf, holdOf, wrOf, altK, heldOk, Region.binds, -List.reduceReplicate]
  intros
  refine call_h [] (c3) rfl rfl ⟨rfl, rfl⟩ (by simp) (by simp) (by decide) (by simp) (by simp) ?_
  simp (maxSteps := 1000000) [hho, noHo, bytesOf_str, roOf, holdOf, wrOf, altK, heldOk, Region.binds, -List.reduceReplicate]
  intros
  refine call_h [] (c5) rfl rfl ⟨rfl, rfl⟩ (by simp) (by simp) (by decide) (by simp) (by simp) ?_
  simp (maxSteps := 1000000) [hho, noHo, bytesOf_str, roOf, holdOf, wrOf, altK, heldOk, Region.binds, -List.reduceReplicate]
  intros
  refine call_h [] (c5) rfl rfl ⟨rfl, rfl⟩ (by simp) (by simp) (by decide) (by simp) (by simp) ?_
  simp (maxSteps := 1000000) [hho, noHo, bytesOf_str, roOf, holdOf, wrOf, altK, heldOk, Region.binds, -List.reduceReplicate]
  intros
  refine call_h [] (c5) rfl rfl ⟨rfl, rfl⟩ (by simp) (by simp) (by decide) (by simp) (by simp) ?_
  simp (maxSteps := 1000000) [hho, noHo, bytesOf_str, roOf, holdOf, wrOf, altK, heldOk, Region.binds, -List.reduceReplicate]
  intros
  exact Ret.drop (by rfl) rfl
end Go.Proofs.YtcjncgfhkgcbnaaDoor
