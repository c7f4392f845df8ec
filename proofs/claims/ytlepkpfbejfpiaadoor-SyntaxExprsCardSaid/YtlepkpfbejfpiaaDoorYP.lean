import Derived.Test.YtlepkpfbejfpiaaDoorYPb
import Derived.Test.YtlepkpfbejfpiaaDoorYPc
namespace Go.Proofs.YtlepkpfbejfpiaaDoor
set_option linter.unusedVariables false
set_option linter.unusedSimpArgs false
open Go.RowKit
attribute [local simp] isCut_nil isCut_region isCut_seq isCut_block isCut_loop isCut_cond isCut_skip isCut_exit isCut_ret isCut_range swapK putK altK condK_bool pickP_bool stepP stepO onPure_some onPure_none onImpl_some onImpl_none stepC onGP_some onGP_none onGV_some condG mkG onIt_it nextP_ptr takeP_eq takeV_some takeV_none takeU_some takeU_none takeQ takeW_some takeN_none takeN_some takeG_some takeO_some altO_some pureV binV2 eqF eqOp ovlV ovl2 rowAt capV binV intBin strBin isSh shV fldV ixV sliceV slice3V loadAV nilV lenV callV unV convV viewS cellsH loadV fldCut AV.ung AV.ungs AV.gc AV.cells AS.ev AS.put anyS gcsV lens lnO gV guardV retK RetP_eq resV oneV anyRo loIx hiIx implO callP_clo evL gcsL clearV storeAV AS.push AS.setO appV appZ shortS copyV buildV partsV fillV srcV fzO okV isCell_c isCell_ptr isCell_sl isCell_fs isCell_fp isCell_clo rowZ_one rowZ_zero rowZ_2 rowZ_3 rowZ_4 rowZ_5 rowZ_6 rowZ_7 rowZ_8 rowZ_9 rowZ_10 rowZ_11 rowZ_12 noHo Value.oneCell' max2V min2V afterH putBack frzFrom frzO rebO backIx nilEq_sl nilEq_fs nilOp_eql nilOp_neq AV.reb AV.rebL
attribute [local simp ↓] runK_skip runK_region runK_draw runK_seq runK_cut runK_cond runK_block runK_loop runK_exit runK_label runK_goto runK_ret runK_range contK_nil contK_seq contK_seq_ret contK_seq_exit contK_seq_goto contK_block contK_block_ret contK_block_goto contK_block_exit runO_nil runO_cons roundK_exit roundK_ret roundK_goto exitK_ret cutK_ret cutK_exit runE_done runE_nil runE_take runE_alt condG_true condG_false
set_option maxRecDepth 10000
theorem parts_w (s : StmtS) (h : Fit9 s) : ACalls Tryd.prog 31 [.agg (stmtA s)] [] (fun _ => false) (fun r h' => r = .tup [.agg (partA s), .c (.bool (partsOk s))] ∧ h' = []) := by
  by_cases h0 : s.kind = 0
  · exact parts_k0 s h h0
  by_cases h1 : s.kind = 1
  · exact parts_k1 s h h1
  by_cases h2 : s.kind = 2
  · exact parts_k2 s h h2
  by_cases h3 : s.kind = 3
  · exact parts_k3 s h h3
  by_cases h4 : s.kind = 4
  · exact parts_k4 s h h4
  by_cases h5 : s.kind = 5
  · exact parts_k5 s h h5
  by_cases h6 : s.kind = 6
  · exact parts_k6 s h h6
  by_cases h7 : s.kind = 7
  · exact parts_k7 s h h7
  by_cases h8 : s.kind = 8
  · exact parts_k8 s h h8
  by_cases h9 : s.kind = 9
  · exact parts_k9 s h h9
  exact parts_ke s h h0 h1 h2 h3 h4 h5 h6 h7 h8 h9
end Go.Proofs.YtlepkpfbejfpiaaDoor
