import Derived.Test.YtniifindnnfkaaaDoorRT
import Derived.Test.YtniifindnnfkaaaDoorRV
import Derived.Test.YtniifindnnfkaaaDoorRJ
import Derived.Test.YtniifindnnfkaaaDoorHR3
namespace Go.Proofs.YtniifindnnfkaaaDoor
set_option linter.unusedVariables false
set_option linter.unusedSimpArgs false
open Go.RowKit Go.ChangeShapes Go.WideShapes Go.ChangeAt
attribute [local simp] isCut_nil isCut_region isCut_seq isCut_block isCut_loop isCut_cond isCut_skip isCut_exit isCut_ret isCut_range swapK putK altK condK_bool pickP_bool stepP stepO onPure_some onPure_none onImpl_some onImpl_none stepC onGP_some onGP_none onGV_some condG mkG onIt_it nextP_ptr takeP_eq takeV_some takeV_none takeU_some takeU_none takeQ takeW_some takeN_none takeN_some takeG_some takeO_some altO_some pureV binV2 eqF eqOp ovlV ovl2 rowAt capV binV intBin strBin isSh shV fldV ixV sliceV slice3V loadAV nilV lenV callV unV convV viewS cellsH loadV fldCut AV.ung AV.ungs AV.gc AV.cells AS.ev AS.put anyS gcsV lens lnO gV guardV retK RetP_eq resV oneV anyRo loIx hiIx implO callP_clo evL gcsL clearV storeAV AS.push AS.setO appV appZ shortS copyV buildV partsV fillV srcV fzO okV isCell_c isCell_ptr isCell_sl isCell_fs isCell_fp isCell_clo rowZ_one rowZ_zero rowZ_2 rowZ_3 rowZ_4 rowZ_5 rowZ_6 rowZ_7 rowZ_8 rowZ_9 rowZ_10 rowZ_11 rowZ_12 noHo Value.oneCell' max2V min2V lookV updV lenM msAt afterH putBack frzFrom frzO rebO backIx nilEq_sl nilEq_fs nilOp_eql nilOp_neq AV.reb AV.rebL
attribute [local simp ↓] runK_skip runK_region runK_draw runK_seq runK_cut runK_cond runK_block runK_loop runK_exit runK_label runK_goto runK_ret runK_range contK_nil contK_seq contK_seq_ret contK_seq_exit contK_seq_goto contK_block contK_block_ret contK_block_goto contK_block_exit runO_nil runO_cons roundK_exit roundK_ret roundK_goto exitK_ret cutK_ret cutK_exit runE_done runE_nil runE_take runE_alt condG_true condG_false
set_option maxRecDepth 10000
/-! ## first -/
def vA1 : ValS := ⟨4, 0, 0, ⟨#[97]⟩⟩
def rA1 : List CellS := [⟨2, vA1⟩]
def bA1 : List UInt8 := [1, 1, 1, 2, 1, 4, 1, 1, 97]
theorem rA1_set : setR [] 2 vA1 = rA1 := by kernel_rfl
theorem rA1_ok : okR (-1) rA1 = true := by decide +kernel
theorem rA1_put : rowPutA rA1 = .tup [.fs 1 9 (u8av bA1), .c (.int .i64 0)] := by
  have h : rowB rA1 = bA1 := by decide +kernel
  unfold rowPutA
  rw [if_pos rA1_ok, h]; rfl
theorem rA1_parse : rowParseA bA1 = .tup [.fs 5 1 (cellsA rA1), .c (.bool true)] := by
  have h : parseS bA1 = some rA1 := by
    have h1 : rowB rA1 = bA1 := by decide +kernel
    rw [← h1]
    exact parse_put rA1 (by decide) rA1_ok fun c hc => by
      simp only [rA1, List.mem_singleton] at hc
      subst hc
      exact ⟨by decide, by decide, by decide, by decide⟩
  unfold rowParseA
  rw [h]; rfl
theorem rA1_get2 : getR rA1 2 = vA1 := by kernel_rfl
theorem rA1_get3 : getR rA1 3 = vZ := by kernel_rfl
theorem rA1_del : setR rA1 2 vZ = [] := by kernel_rfl
theorem bA1_str : bytesOf (u8av bA1) = ⟨#[1, 1, 1, 2, 1, 4, 1, 1, 97]⟩ := by rw [bytesOf_str]; rfl
set_option maxHeartbeats 8000000 in
theorem first11 : ACalls Tryd.prog 7 [] [] (fun _ => false) (fun r h' => r = .c (.bool true) ∧ h' = []) := by
  refine acalls mixed Tryd.func7 rfl Tryd.ntmps7 rfl fun E hE hst hho => ?_
  have c1 := set_row [] (by simp) rfl 2 vA1 (by decide)
  rw [rA1_set] at c1
  have c2 := put_row rA1 (by decide) (fun c hc => by simp only [rA1, List.mem_singleton] at hc; subst hc; exact ⟨by unfold i64v; decide, by unfold i64v; decide, by unfold i64v; decide, by unfold i64v; decide, by decide⟩) (fun c hc => by simp only [rA1, List.mem_singleton] at hc; subst hc; decide)
  rw [rA1_put] at c2
  have c3 := parse_row bA1 (by decide)
  rw [rA1_parse] at c3
  have c4 := same_row rA1 rA1 (by decide) true (by simp)
  have c5 := get_row rA1 (by decide) 2
  rw [rA1_get2] at c5
  have c6 := get_row rA1 (by decide) 3
  rw [rA1_get3] at c6
  have c7 := set_row rA1 (by decide) rA1_ok 2 vZ (by decide)
  rw [rA1_del] at c7
  simp (maxSteps := 1000000) [hho, noHo, -List.reduceReplicate]
  refine callG_nilAt 0 5 rfl ?_
  refine call_x [] c1 rfl rfl ⟨rfl, rfl⟩ hho (by simp) (by decide) (by simp) (by simp) ?_
  simp (maxSteps := 1000000) [hho, noHo, -List.reduceReplicate]
  refine call_x [] c2 rfl rfl ⟨rfl, rfl⟩ hho (by simp) (by decide) (by simp) (by simp) ?_
  simp (maxSteps := 1000000) [hho, noHo, -List.reduceReplicate]
  refine call_x [] c3 rfl rfl ⟨rfl, rfl⟩ hho (by simp) (by decide) (by simp) (by simp) ?_
  simp (maxSteps := 1000000) [hho, noHo, bA1_str, -List.reduceReplicate]
  refine call_x [] c4 rfl rfl ⟨rfl, rfl⟩ hho (by simp) (by decide) (by simp) (by simp) ?_
  simp (maxSteps := 1000000) [hho, noHo, bA1_str, -List.reduceReplicate]
  refine call_x [] c5 rfl rfl ⟨rfl, rfl⟩ hho (by simp) (by decide) (by simp) (by simp) ?_
  simp (maxSteps := 1000000) [hho, noHo, valA, vA1, -List.reduceReplicate]
  refine call_x [] c6 rfl rfl ⟨rfl, rfl⟩ hho (by simp) (by decide) (by simp) (by simp) ?_
  simp (maxSteps := 1000000) [hho, noHo, valA, vZ, -List.reduceReplicate]
  refine call_x [] c7 rfl rfl ⟨rfl, rfl⟩ hho (by simp) (by decide) (by simp) (by simp) ?_
  simp (maxSteps := 1000000) [hho, noHo, -List.reduceReplicate]
  exact Ret.drop (by rfl) ⟨rfl, rfl⟩
end Go.Proofs.YtniifindnnfkaaaDoor
