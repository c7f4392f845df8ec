import Derived.Test.YtcjncgfhkgcbnaaGreatDoorZv
import Derived.Test.YtcjncgfhkgcbnaaGreatDoorTw
import Derived.Test.YtcjncgfhkgcbnaaGreatDoorHF2
import Derived.Test.YtcjncgfhkgcbnaaGreatDoorZI
namespace Go.Proofs.YtcjncgfhkgcbnaaGreatDoor
set_option linter.unusedVariables false
set_option linter.unusedSimpArgs false
open Go.RowKit
attribute [local simp] isCut_nil isCut_region isCut_seq isCut_block isCut_loop isCut_cond isCut_skip isCut_exit isCut_ret isCut_range swapK putK altK condK_bool pickP_bool stepP stepO onPure_some onPure_none onImpl_some onImpl_none stepC onGP_some onGP_none onGV_some condG mkG onIt_it nextP_ptr takeP_eq takeV_some takeV_none takeU_some takeU_none takeQ takeW_some takeN_none takeN_some takeG_some takeO_some altO_some pureV binV2 eqF eqOp ovlV ovl2 rowAt capV binV intBin strBin isSh shV fldV ixV sliceV slice3V loadAV nilV lenV callV unV convV viewS cellsH loadV fldCut AV.ung AV.ungs AV.gc AV.cells AS.ev AS.put anyS gcsV gcO lens lnO gV guardV retK RetP_eq resV oneV anyRo loIx hiIx implO callP_clo evL gcsL clearV storeAV AS.push AS.setO appV appZ shortS copyV buildV partsV fillV srcV fzO okV isCell_c isCell_ptr isCell_sl isCell_fs isCell_fp isCell_clo rowZ_one rowZ_zero rowZ_2 rowZ_3 rowZ_4 rowZ_5 rowZ_6 rowZ_7 rowZ_8 rowZ_9 rowZ_10 rowZ_11 rowZ_12 noHo Value.oneCell' max2V min2V lookV updV lenM msAt afterH putBack frzFrom frzO rebO backIx nilEq_sl nilEq_fs nilOp_eql nilOp_neq AV.reb AV.rebL
attribute [local simp ↓] runK_skip runK_region runK_draw runK_seq runK_cut runK_cond runK_block runK_loop runK_exit runK_label runK_goto runK_ret runK_range contK_nil contK_seq contK_seq_ret contK_seq_exit contK_seq_goto contK_block contK_block_ret contK_block_goto contK_block_exit runO_nil runO_cons roundK_exit roundK_ret roundK_goto exitK_ret cutK_ret cutK_exit runE_done runE_nil runE_take runE_alt condG_true condG_false
set_option maxRecDepth 10000
set_option maxHeartbeats 16000000 in
theorem scputs_w (s : SchS) (ho : s.Ok) : ACalls Tryz.prog 3 [.agg (schA s)] [] (fun _ => false) (fun r h' => r = .c (.bool true)) := by
  refine acalls mixed Tryz.func3 rfl Tryz.ntmps3 rfl fun E hE hst hho => ?_
  obtain ⟨R, hR⟩ := fit_dec s
  have c0 := small_r12 s R hR
  cases R with
  | false =>
    simp (maxSteps := 1000000) [hho, noHo, schA, -List.reduceReplicate]
    refine call_x [] (first12_w) rfl rfl ⟨rfl, rfl⟩ hho (by simp) (by decide) (by simp) (by simp) ?_
    simp (maxSteps := 1000000) [hho, noHo, -List.reduceReplicate]
    refine call_x [] (c0) rfl rfl ⟨rfl, rfl⟩ hho (by simp) (by decide) (by simp) (by simp) ?_
    simp (maxSteps := 1000000) [hho, noHo, undef, onGP_none, condG_false, -List.reduceReplicate]
    exact Ret.drop (by rfl) rfl
  | true =>
  obtain ⟨hb1, hb2⟩ := fit_big (hR.1 rfl)
  have c1 := scPut_w s hb1 hb2 ho
  have c2 := right_r12 s hb1 hb2
  have c3 := right_sc s hb1 hb2
  unfold schPutA at c1
  cases hok : schOk s with
  | false =>
    rw [hok] at c1 c2 c3
    simp (maxSteps := 1000000) [hho, noHo, schA, -List.reduceReplicate]
    refine call_x [] (first12_w) rfl rfl ⟨rfl, rfl⟩ hho (by simp) (by decide) (by simp) (by simp) ?_
    simp (maxSteps := 1000000) [hho, noHo, -List.reduceReplicate]
    refine call_x [] (c0) rfl rfl ⟨rfl, rfl⟩ hho (by simp) (by decide) (by simp) (by simp) ?_
    simp (maxSteps := 1000000) [hho, noHo, undef, onGP_none, condG_false, -List.reduceReplicate]
    refine call_x [] (c1) rfl rfl ⟨rfl, rfl⟩ hho (by simp) (by decide) (by simp) (by simp) ?_
    simp (maxSteps := 1000000) [hho, noHo, undef, onGP_none, condG_false, -List.reduceReplicate]
    refine call_x [] (c2) rfl rfl ⟨rfl, rfl⟩ hho (by simp) (by decide) (by simp) (by simp) ?_
    simp (maxSteps := 1000000) [hho, noHo, undef, onGP_none, condG_false, -List.reduceReplicate]
    refine call_x [] (c3) rfl rfl ⟨rfl, rfl⟩ hho (by simp) (by decide) (by simp) (by simp) ?_
    simp (maxSteps := 1000000) [hho, noHo, undef, onGP_none, condG_false, -List.reduceReplicate]
    exact Ret.drop (by rfl) rfl
  | true =>
  rw [hok] at c1 c2 c3
  have hBl := schB_len hok ho
  have c4 := scParse_w (schB s) (by omega)
  unfold schParseA at c4
  rw [parSch_put hok ho] at c4
  have c5 := r12Put_w s hok ho
  have c6 := same_r12 s s hb1 (fun t ht => ⟨(hb2 t ht).cl, (hb2 t ht).il, fun x hx => ((hb2 t ht).xn x hx).2⟩) true (by simp)
  obtain ⟨B, hB⟩ : ∃ B, B = schB s := ⟨_, rfl⟩
  rw [← hB] at c1 c4 c5
  simp (maxSteps := 1000000) [hho, noHo, schA, -List.reduceReplicate]
  refine call_x [] (first12_w) rfl rfl ⟨rfl, rfl⟩ hho (by simp) (by decide) (by simp) (by simp) ?_
  simp (maxSteps := 1000000) [hho, noHo, -List.reduceReplicate]
  refine call_x [] (c0) rfl rfl ⟨rfl, rfl⟩ hho (by simp) (by decide) (by simp) (by simp) ?_
  simp (maxSteps := 1000000) [hho, noHo, undef, onGP_none, condG_false, -List.reduceReplicate]
  refine call_x [] (c1) rfl rfl ⟨rfl, rfl⟩ hho (by simp) (by decide) (by simp) (by simp) ?_
  simp (maxSteps := 1000000) [hho, noHo, undef, onGP_none, condG_false, -List.reduceReplicate]
  refine call_x [] (c2) rfl rfl ⟨rfl, rfl⟩ hho (by simp) (by decide) (by simp) (by simp) ?_
  simp (maxSteps := 1000000) [hho, noHo, undef, onGP_none, condG_false, -List.reduceReplicate]
  refine call_x [] (c4) rfl rfl ⟨rfl, rfl⟩ hho (by simp) (by decide) (by simp) (by simp) ?_
  simp (maxSteps := 1000000) [hho, noHo, schA, undef, onGP_none, condG_false, -List.reduceReplicate]
  refine draw_k hho (.take 0 (.alt 1 (.take 2 (.take 3 (.take 4 (.take 5 (.take 6 (.take 7 (.take 8 (.take 9 (.alt 10 (.take 11 (.take 12 (.take 13 (.take 14 (.take 15 (.take 16 (.take 17 (.take 18 (.alt 19 (.take 20 (.take 21 (.done))) (.nil)))))))))) (.nil)))))))))) (.nil))) [0, 1] [] (by decide +kernel) (by simp) ?_
  simp (maxSteps := 1000000) [hho, noHo, roOf, holdOf, wrOf, altK, heldOk, Region.binds, -List.reduceReplicate]
  intros
  refine call_h [] (c3) rfl rfl ⟨rfl, rfl⟩ (by simp) (by simp) (by decide) (by simp) (by simp) ?_
  simp (maxSteps := 1000000) [hho, noHo, bytesOf_str, roOf, holdOf, wrOf, altK, heldOk, Region.binds, -List.reduceReplicate]
  intros
  refine call_h [] (c5) rfl rfl ⟨rfl, rfl⟩ (by simp) (by simp) (by decide) (by simp) (by simp) ?_
  simp (maxSteps := 1000000) [hho, noHo, bytesOf_str, roOf, holdOf, wrOf, altK, heldOk, Region.binds, -List.reduceReplicate]
  intros
  refine call_h [] (c6) rfl rfl ⟨rfl, rfl⟩ (by simp) (by simp) (by decide) (by simp) (by simp) ?_
  simp (maxSteps := 1000000) [hho, noHo, bytesOf_str, roOf, holdOf, wrOf, altK, heldOk, Region.binds, -List.reduceReplicate]
  intros
  exact Ret.drop (by rfl) rfl
end Go.Proofs.YtcjncgfhkgcbnaaGreatDoor
