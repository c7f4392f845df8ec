import Derived.Test.YtmgpiminicgbiaaS8
namespace Go.Proofs.Ytmgpiminicgbiaa
set_option linter.unusedVariables false
set_option linter.unusedSimpArgs false
open Go.RowKit
attribute [local simp] isCut_nil isCut_region isCut_seq isCut_block isCut_loop isCut_cond isCut_skip isCut_exit isCut_ret isCut_range swapK putK altK condK_bool pickP_bool stepP stepO onPure_some onPure_none onImpl_some onImpl_none stepC onGP_some onGP_none onGV_some condG mkG onIt_it nextP_ptr takeP_eq takeV_some takeN_none takeN_some takeG_some takeO_some altO_some pureV binV intBin strBin isSh shV fldV ixV sliceV loadAV nilV lenV callV unV convV viewS cellsH loadV fldCut AV.ung AV.gc AV.cells AS.ev AS.put anyS gcsV lens lnO gV guardV retK RetP_eq resV oneV anyRo loIx hiIx implO callP_clo evL gcsL storeAV AS.push AS.setO appV copyV buildV partsV fillV srcV fzO okV isCell_c isCell_ptr isCell_sl isCell_fs isCell_fp isCell_clo rowZ_one rowZ_zero rowZ_2 rowZ_3 rowZ_4 rowZ_5 rowZ_6 rowZ_7 rowZ_8 rowZ_9 rowZ_10 rowZ_11 rowZ_12 noHo Value.oneCell' max2V min2V afterH putBack frzFrom frzO rebO backIx nilEq_sl nilEq_fs nilOp_eql nilOp_neq AV.reb AV.rebL
attribute [local simp ↓] runK_skip runK_region runK_draw runK_seq runK_cut runK_cond runK_block runK_loop runK_exit runK_label runK_goto runK_ret runK_range contK_nil contK_seq contK_seq_ret contK_seq_exit contK_seq_goto contK_block contK_block_ret contK_block_goto contK_block_exit runO_nil runO_cons roundK_exit roundK_ret roundK_goto exitK_ret cutK_ret cutK_exit runE_done runE_nil runE_take runE_alt condG_true condG_false
set_option maxRecDepth 10000
theorem limit_nil (i : Int) : ACalls Try.prog 11 [.c (.pointer none), .c (.int .i64 i)] [] (fun _ => true) (fun r h' => r = .tup [] ∧ h' = []) := by
  refine acalls mixed Try.func11 rfl Try.ntmps11 rfl fun E hE _ hho => ?_
  simp [hho, -List.reduceReplicate]
  exact Ret.same ⟨rfl, rfl⟩
theorem crash_nil (v : List AV) (n : Nat) : ACalls Try.prog 14 [.c (.pointer none), .fs 1 n v] [] (fun _ => true) (fun r h' => r = .tup [] ∧ h' = []) := by
  refine acalls mixed Try.func14 rfl Try.ntmps14 rfl fun E hE _ hho => ?_
  simp [hho, -List.reduceReplicate]
  exact Ret.same ⟨rfl, rfl⟩
theorem sectors_nil : ACalls Try.prog 32 [.c (.pointer none)] [] (fun _ => true) (fun r h' => r = .c (.int .i64 0) ∧ h' = []) := by
  refine acalls mixed Try.func32 rfl Try.ntmps32 rfl fun E hE _ hho => ?_
  simp [hho, -List.reduceReplicate]
  exact Ret.same ⟨rfl, rfl⟩
theorem calls_nil : ACalls Try.prog 29 [.c (.pointer none)] [] (fun _ => true) (fun r h' => r = .c (.int .i64 0) ∧ h' = []) := by
  refine acalls mixed Try.func29 rfl Try.ntmps29 rfl fun E hE _ hho => ?_
  simp [hho, -List.reduceReplicate]
  exact Ret.same ⟨rfl, rfl⟩
theorem flush_nil : ACalls Try.prog 54 [.c (.pointer none)] [] (fun _ => true) (fun r h' => r = .c (.int .i64 1) ∧ h' = []) := by
  refine acalls mixed Try.func54 rfl Try.ntmps54 rfl fun E hE _ hho => ?_
  simp [hho, -List.reduceReplicate]
  refine call_x [] (check_nil 0) rfl rfl ⟨rfl, rfl⟩ hho (by simp) (by decide) (by simp) (by simp) ?_
  simp [hho, -List.reduceReplicate]
  exact Ret.same ⟨rfl, rfl⟩
theorem write_nil (i : Int) : ACalls Try.prog 26 [.c (.pointer none), .c (.int .i64 i), .c (.slice none 0 0)] [] (fun _ => true) (fun r h' => r = .c (.int .i64 1) ∧ h' = []) := by
  refine acalls mixed Try.func26 rfl Try.ntmps26 rfl fun E hE _ hho => ?_
  simp [hho, -List.reduceReplicate]
  refine call_x [] (check_nil i) rfl rfl ⟨rfl, rfl⟩ hho (by simp) (by decide) (by simp) (by simp) ?_
  simp [hho, -List.reduceReplicate]
  exact Ret.same ⟨rfl, rfl⟩
end Go.Proofs.Ytmgpiminicgbiaa
