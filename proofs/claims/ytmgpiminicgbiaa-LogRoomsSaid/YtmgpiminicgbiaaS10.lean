-- 
import Derived.Test.YtmgpiminicgbiaaS4
namespace Go.Proofs.Ytmgpiminicgbiaa
set_option linter.unusedVariables false
set_option linter.unusedSimpArgs false
open Go.RowKit
attribute [local simp] isCut_nil isCut_region isCut_seq isCut_block isCut_loop isCut_cond isCut_skip isCut_exit isCut_ret isCut_range swapK putK altK condK_bool pickP_bool stepP stepO onPure_some onPure_none onImpl_some onImpl_none stepC onGP_some onGP_none onGV_some condG mkG onIt_it nextP_ptr takeP_eq takeV_some takeN_none takeN_some takeG_some takeO_some altO_some pureV binV intBin strBin isSh shV fldV ixV sliceV loadAV nilV lenV callV unV convV viewS cellsH loadV fldCut AV.ung AV.gc AV.cells AS.ev AS.put anyS gcsV lens lnO gV guardV retK RetP_eq resV oneV anyRo loIx hiIx implO callP_clo evL gcsL storeAV AS.push AS.setO appV copyV buildV partsV fillV srcV fzO okV isCell_c isCell_ptr isCell_sl isCell_fs isCell_fp isCell_clo rowZ_one rowZ_zero rowZ_2 rowZ_3 rowZ_4 rowZ_5 rowZ_6 rowZ_7 rowZ_8 rowZ_9 rowZ_10 rowZ_11 rowZ_12 noHo Value.oneCell' max2V min2V afterH putBack frzFrom frzO rebO backIx nilEq_sl nilEq_fs nilOp_eql nilOp_neq AV.reb AV.rebL
attribute [local simp ↓] runK_skip runK_region runK_draw runK_seq runK_cut runK_cond runK_block runK_loop runK_exit runK_label runK_goto runK_ret runK_range contK_nil contK_seq contK_seq_ret contK_seq_exit contK_seq_goto contK_block contK_block_ret contK_block_goto contK_block_exit runO_nil runO_cons roundK_exit roundK_ret roundK_goto exitK_ret cutK_ret cutK_exit runE_done runE_nil runE_take runE_alt condG_true condG_false runYK_skip runYK_region runYK_draw runYK_seq runYK_cond runYK_block runYK_loop runYK_exit runYK_ret contYK_nil contYK_seq contYK_seq_ret contYK_seq_exit contYK_block contYK_block_ret contYK_block_exit runYO_nil runYO_cons finY_normal finY_ret roundY_ret roundY_exit
attribute [local simp] condYK_bool onYI_some onYP_some onYP_none onYA_some onYA_none stepY yldArgs AS.clean keepV hoN hnY rebI setPs heldH
set_option maxRecDepth 10000
def backI (ws : List (Nat × B64)) (j : Nat) : List AV := [.c (.int .i64 ((ws.length : Int) - 1 - j)), .agg (avW ((ws[ws.length - 1 - j]?).getD (0, zB)))]
def rowW (ws : List (Nat × B64)) : AObj := .o (.row 95 65) (waitA ws)
theorem back_call (ws : List (Nat × B64)) : ACalls Try.prog 50 [.sl 0 65 0 ws.length (ws.length * 65)] [rowW ws] (fun k => decide (k < 1)) (fun r h' => r = .clo (.func 60) [] [.ptr 1 0 1] ∧ h' = [rowW ws, .o .box [.sl 0 65 0 ws.length (ws.length * 65)]]) := by
  refine acalls mixed Try.func50 rfl Try.ntmps50 rfl fun E hE _ hho => ?_
  simp [rowW, -List.reduceReplicate]
  exact Ret.same ⟨rfl, rfl⟩
@[simp] theorem plainA_u8av (l : List UInt8) : ((u8av l).all fun v => match v with | .c _ => true | _ => false) = true := by simp [u8av]
theorem backI_ok (ws : List (Nat × B64)) (j : Nat) : ∀ x ∈ backI ws j, itemOk 2 x = true := by
  simp [backI, itemOk, plainV, avW, -List.all_eq_true]
  simp [u8av]
theorem back_seq (ws : List (Nat × B64)) (hl : ws.length ≤ 1000000) : ASeq0 Try.prog [.o .box [.sl 1 65 0 ws.length (ws.length * 65)], rowW ws] ws.length (backI ws) 60 [.ptr 0 0 1] := by
  refine aseq0_k mixed Try.func60 rfl Try.ntmps60 rfl fun l => ?_
  have e1 : IntKind.i64.wrap ((ws.length : Int) - 1) = ws.length - 1 := IntWalk.i64_in _ (by omega)
  simp [rowW, e1, -List.reduceReplicate]
  refine loopY_k mixed (fun j : Nat => ⟨slotsOf 19 [(0, .clo (.yield l) [] []), (1, .ptr 0 0 1), (3, .c (.int .i64 ((ws.length : Int) - 1 - j)))], [.o .box [.sl 1 65 0 ws.length (ws.length * 65)], rowW ws]⟩) (fun j => j) (fun j => ws.length - j) (fun j => j ≤ ws.length) 0 (by simp) rfl ?_ ?_
  · intro E hE
    refine wk_of 2 0 (by simp) (by simpa using hE) rfl (by simp [rowW, livH, livO, AV.livL, AV.liv, wkL, wkV, List.range']) ?_
    simp [slotsOf, livH, livO, AV.livL, AV.liv, wkL, wkV, List.range']
  · intro j hj
    simp [rowW, slotsOf, -List.reduceReplicate]
    have e2 : IntKind.i64.wrap ((ws.length : Int) - 1 - j - 1) = ws.length - 1 - (j + 1 : Nat) := by rw [IntWalk.i64_in _ (by omega)]; omega
    split
    · rename_i h1
      have hlt : ws.length - 1 - j < ws.length := by omega
      refine ⟨⟨h1, by omega⟩, by omega, by omega, ?_, backI_ok ws j, ?_, by omega⟩
      · rw [waitA_at _ _ hlt]; simp [backI, hlt]
      · rw [e2]
        refine roundY_next (j + 1) rfl (by omega) (by omega) rfl fun E hE => wk_of 2 0 (by simp) (by simpa using hE) rfl (by simp [livH, livO, AV.livL, AV.liv, wkL, wkV, List.range']) (by simp [livH, livO, AV.livL, AV.liv, wkL, wkV, List.range'])
    · omega
end Go.Proofs.Ytmgpiminicgbiaa
