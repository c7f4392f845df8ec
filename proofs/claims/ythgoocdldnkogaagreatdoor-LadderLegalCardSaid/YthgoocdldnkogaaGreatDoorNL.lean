import Derived.Test.YthgoocdldnkogaaGreatDoorNK
import Derived.Test.YthgoocdldnkogaaGreatDoorMXp
import Derived.Test.YthgoocdldnkogaaGreatDoorHZ2
namespace Go.Proofs.YthgoocdldnkogaaGreatDoor
set_option linter.unusedVariables false
set_option linter.unusedSimpArgs false
open Go.RowKit
attribute [local simp] isCut_nil isCut_region isCut_seq isCut_block isCut_loop isCut_cond isCut_skip isCut_exit isCut_ret isCut_range swapK putK altK condK_bool pickP_bool stepP stepO onPure_some onPure_none onImpl_some onImpl_none stepC onGP_some onGP_none onGV_some condG mkG onIt_it nextP_ptr takeP_eq takeV_some takeV_none takeU_some takeU_none takeQ takeW_some takeN_none takeN_some takeG_some takeO_some altO_some pureV binV2 eqF eqOp ovlV ovl2 rowAt capV binV intBin strBin isSh shV fldV ixV sliceV slice3V loadAV nilV lenV callV unV convV viewS cellsH loadV fldCut AV.ung AV.ungs AV.gc AV.cells AS.ev AS.put anyS gcsV gcO lens lnO gV guardV retK RetP_eq resV oneV anyRo loIx hiIx implO callP_clo evL gcsL clearV storeAV AS.push AS.setO appV appZ shortS copyV buildV partsV fillV srcV fzO okV isCell_c isCell_ptr isCell_sl isCell_fs isCell_fp isCell_clo rowZ_one rowZ_zero rowZ_2 rowZ_3 rowZ_4 rowZ_5 rowZ_6 rowZ_7 rowZ_8 rowZ_9 rowZ_10 rowZ_11 rowZ_12 noHo Value.oneCell' max2V min2V lookV updV updK updW cvals mkAt basV lenM msAt afterH putBack frzFrom frzO rebO backIx nilEq_sl nilEq_fs nilEq_ifn nilEq_ifh ifOp_eql ifOp_neq isLit nilOp_eql nilOp_neq AV.reb AV.rebL
attribute [local simp ↓] runK_skip runK_region runK_draw runK_seq runK_cut runK_cond runK_block runK_loop runK_exit runK_label runK_goto runK_ret runK_range contK_nil contK_seq contK_seq_ret contK_seq_exit contK_seq_goto contK_block contK_block_ret contK_block_goto contK_block_exit runO_nil runO_cons roundK_exit roundK_ret roundK_goto exitK_ret cutK_ret cutK_exit runE_done runE_nil runE_take runE_alt condG_true condG_false
set_option maxRecDepth 10000
set_option maxHeartbeats 16000000 in
theorem llegal_w (a : SchS) (hoa : a.Ok) (b : SchS) (hob : b.Ok) : ACalls Tryz.prog 5 [.agg (schA a), .agg (schA b)] [] (fun _ => false) (fun r h' => r = .c (.bool true)) := by
 refine acalls mixed Tryz.func5 rfl Tryz.ntmps5 rfl fun E hE hst hho => ?_
 have hsc : ∀ s : SchS, schA s = [.c (.int .i64 s.ver), .c (.int .i64 s.next), .fs 4 s.tabs.length (tabsA s.tabs)] := fun _ => rfl
 obtain ⟨R, hR⟩ := fit_dec2 a
 obtain ⟨R2, hR2⟩ := fit_dec2 b
 have c0 := small_r12 a R hR
 have c2 := small_r12 b R2 hR2
 simp only [hsc] at c0 c2
 simp (maxSteps := 1000000) [hho, noHo, hsc, -List.reduceReplicate]
 refine call_x [] (first14_w) rfl rfl ⟨rfl, rfl⟩ hho (by simp) (by decide) (by simp) (by simp) ?_
 simp (maxSteps := 1000000) [hho, noHo, -List.reduceReplicate]
 refine call_x [] (c0) rfl rfl ⟨rfl, rfl⟩ hho (by simp) (by decide) (by simp) (by simp) ?_
 cases R with
 | false =>
  simp (maxSteps := 1000000) [hho, noHo, undef, onGP_none, condG_false, -List.reduceReplicate]
  exact Ret.drop (by rfl) rfl
 | true =>
 simp (maxSteps := 1000000) [hho, noHo, undef, onGP_none, condG_false, -List.reduceReplicate]
 refine call_x [] (c2) rfl rfl ⟨rfl, rfl⟩ hho (by simp) (by decide) (by simp) (by simp) ?_
 cases R2 with
 | false =>
  simp (maxSteps := 1000000) [hho, noHo, undef, onGP_none, condG_false, -List.reduceReplicate]
  exact Ret.drop (by rfl) rfl
 | true =>
 have hf := hR.1 rfl
 have hf2 := hR2.1 rfl
 obtain ⟨hb1, hb2⟩ := fit_big2 hf
 obtain ⟨hb3, hb4⟩ := fit_big2 hf2
 have hl1 := hf.1
 have hl2 := hf2.1
 have hSA : SB a := ⟨by omega, hb2, hoa⟩
 have hSB : SB b := ⟨by omega, hb4, hob⟩
 by_cases q1 : 1152921504606846976 < a.ver
 ·simp (maxSteps := 1000000) [hho, noHo, q1, undef, onGP_none, condG_false, -List.reduceReplicate]
  exact Ret.drop (by rfl) rfl
 by_cases q2 : 1152921504606846976 < b.ver
 ·simp (maxSteps := 1000000) [hho, noHo, q1, q2, undef, onGP_none, condG_false, -List.reduceReplicate]
  exact Ret.drop (by rfl) rfl
 by_cases q3 : 1152921504606846976 < a.next
 ·simp (maxSteps := 1000000) [hho, noHo, q1, q2, q3, undef, onGP_none, condG_false, -List.reduceReplicate]
  exact Ret.drop (by rfl) rfl
 have w1 := legal_w a b hSA hSB (by omega) (by omega)
 have w2 := r14Legal_w a b hSA hSB (by omega) (by omega)
 rw [legal_eq] at w1
 obtain ⟨q, hq⟩ : ∃ q, q = legalR a b := ⟨_, rfl⟩
 rw [← hq] at w1 w2
 simp only [hsc] at w1 w2
 clear hq
 simp (maxSteps := 1000000) [hho, noHo, q1, q2, q3, undef, onGP_none, condG_false, -List.reduceReplicate]
 refine draw_k hho (.take 0 (.take 1 (.take 3 (.take 4 (.alt 2 (.alt 5 (.take 6 (.take 7 (.done))) (.nil)) (.nil)))))) [0, 1] [] (by decide +kernel) (by simp) ?_
 simp (maxSteps := 1000000) [hho, noHo, roOf, holdOf, wrOf, altK, heldOk, Region.binds, -List.reduceReplicate]
 intro E1
 refine call_h [] (w1) rfl rfl ⟨rfl, rfl⟩ (by simp) (by simp) (by decide) (by simp) (by simp) ?_
 simp (maxSteps := 1000000) [hho, noHo, roOf, holdOf, wrOf, altK, heldOk, Region.binds, -List.reduceReplicate]
 intro E2
 refine call_h [] (w2) rfl rfl ⟨rfl, rfl⟩ (by simp) (by simp) (by decide) (by simp) (by simp) ?_
 cases q
 ·simp (maxSteps := 1000000) [hho, noHo, roOf, holdOf, wrOf, altK, heldOk, Region.binds, -List.reduceReplicate]
  exact Ret.drop (by rfl) rfl
 ·simp (maxSteps := 1000000) [hho, noHo, roOf, holdOf, wrOf, altK, heldOk, Region.binds, -List.reduceReplicate]
  exact Ret.drop (by rfl) rfl
end Go.Proofs.YthgoocdldnkogaaGreatDoor
