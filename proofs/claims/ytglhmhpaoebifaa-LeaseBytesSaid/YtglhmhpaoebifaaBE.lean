import Derived.Test.YtglhmhpaoebifaaBD
import Derived.Test.YtglhmhpaoebifaaBV
namespace Go.Proofs.Ytglhmhpaoebifaa
set_option linter.unusedVariables false
set_option linter.unusedSimpArgs false
open Go.RowKit
attribute [local simp] isCut_nil isCut_region isCut_seq isCut_block isCut_loop isCut_cond isCut_skip isCut_exit isCut_ret isCut_range swapK putK altK condK_bool pickP_bool stepP stepO onPure_some onPure_none onImpl_some onImpl_none stepC onGP_some onGP_none onGV_some condG mkG onIt_it nextP_ptr takeP_eq takeV_some takeN_none takeN_some takeG_some takeO_some altO_some pureV binV2 eqF eqOp ovlV ovl2 rowAt capV binV intBin strBin isSh shV fldV ixV sliceV slice3V loadAV nilV lenV callV unV convV viewS cellsH loadV fldCut AV.ung AV.ungs AV.gc AV.cells AS.ev AS.put anyS gcsV lens lnO gV guardV retK RetP_eq resV oneV anyRo loIx hiIx implO callP_clo evL gcsL clearV storeAV AS.push AS.setO appV appZ shortS copyV buildV partsV fillV srcV fzO okV isCell_c isCell_ptr isCell_sl isCell_fs isCell_fp isCell_clo rowZ_one rowZ_zero rowZ_2 rowZ_3 rowZ_4 rowZ_5 rowZ_6 rowZ_7 rowZ_8 rowZ_9 rowZ_10 rowZ_11 rowZ_12 noHo Value.oneCell' max2V min2V afterH putBack frzFrom frzO rebO backIx nilEq_sl nilEq_fs nilOp_eql nilOp_neq AV.reb AV.rebL
attribute [local simp ↓] runK_skip runK_region runK_draw runK_seq runK_cut runK_cond runK_block runK_loop runK_exit runK_label runK_goto runK_ret runK_range contK_nil contK_seq contK_seq_ret contK_seq_exit contK_seq_goto contK_block contK_block_ret contK_block_goto contK_block_exit runO_nil runO_cons roundK_exit roundK_ret roundK_goto exitK_ret cutK_ret cutK_exit runE_done runE_nil runE_take runE_alt condG_true condG_false
set_option maxRecDepth 10000
/-! ## Sorted -/
theorem sorted_lease (l : List LeaseS) (hl : l.length ≤ 5864062014805) : ACalls Try.prog 31 [.clo (.func 56) [] [.ptr 0 0 1], cloBy] [.o .box [.fs 3 l.length (leasesA l)]] (fun k => decide (k < 1)) (fun r h' => r = .sl 1 3 0 l.length (l.length * 3) ∧ h' = [.o .box [.fs 3 l.length (leasesA l)], rowL (stabS ltL l)]) := by
  refine acalls mixed Try.func31 rfl Try.ntmps31 rfl fun E hE hst hho => ?_
  simp [cloBy, hho, -List.reduceReplicate]
  refine call_x [0] (collect_lease l (by omega)) rfl rfl ⟨rfl, rfl⟩ hho (by simp) (by decide) (by simp) (by simp) ?_
  simp [rowL, hho, -List.reduceReplicate]
  refine call_x [1] (sortStable_lease l l.length rfl (by omega)) rfl rfl ⟨rfl, rfl⟩ hho (by simp) (by decide) (by simp) (by simp) ?_
  simp [rowL, hho, -List.reduceReplicate]
  exact Ret.same ⟨rfl, by simp [rowL]⟩
end Go.Proofs.Ytglhmhpaoebifaa
