import Derived.Test.YthgoocdldnkogaaGreatDoorMU
import Derived.Test.YthgoocdldnkogaaGreatDoorHZ2
namespace Go.Proofs.YthgoocdldnkogaaGreatDoor
set_option linter.unusedVariables false
set_option linter.unusedSimpArgs false
open Go.RowKit
attribute [local simp] isCut_nil isCut_region isCut_seq isCut_block isCut_loop isCut_cond isCut_skip isCut_exit isCut_ret isCut_range swapK putK altK condK_bool pickP_bool stepP stepO onPure_some onPure_none onImpl_some onImpl_none stepC onGP_some onGP_none onGV_some condG mkG onIt_it nextP_ptr takeP_eq takeV_some takeV_none takeU_some takeU_none takeQ takeW_some takeN_none takeN_some takeG_some takeO_some altO_some pureV binV2 eqF eqOp ovlV ovl2 rowAt capV binV intBin strBin isSh shV fldV ixV sliceV slice3V loadAV nilV lenV callV unV convV viewS cellsH loadV fldCut AV.ung AV.ungs AV.gc AV.cells AS.ev AS.put anyS gcsV gcO lens lnO gV guardV retK RetP_eq resV oneV anyRo loIx hiIx implO callP_clo evL gcsL clearV storeAV AS.push AS.setO appV appZ shortS copyV buildV partsV fillV srcV fzO okV isCell_c isCell_ptr isCell_sl isCell_fs isCell_fp isCell_clo rowZ_one rowZ_zero rowZ_2 rowZ_3 rowZ_4 rowZ_5 rowZ_6 rowZ_7 rowZ_8 rowZ_9 rowZ_10 rowZ_11 rowZ_12 noHo Value.oneCell' max2V min2V lookV updV updK updW cvals mkAt basV lenM msAt afterH putBack frzFrom frzO rebO backIx nilEq_sl nilEq_fs nilEq_ifn nilEq_ifh ifOp_eql ifOp_neq isLit nilOp_eql nilOp_neq AV.reb AV.rebL
attribute [local simp ↓] runK_skip runK_region runK_draw runK_seq runK_cut runK_cond runK_block runK_loop runK_exit runK_label runK_goto runK_ret runK_range contK_nil contK_seq contK_seq_ret contK_seq_exit contK_seq_goto contK_block contK_block_ret contK_block_goto contK_block_exit runO_nil runO_cons roundK_exit roundK_ret roundK_goto exitK_ret cutK_ret cutK_exit runE_done runE_nil runE_take runE_alt condG_true condG_false
set_option maxRecDepth 10000
set_option maxHeartbeats 4000000 in
theorem r14place_w (s : SchS) (k : Int) (hl : s.tabs.length ≤ 1000000) : ACalls Tryz.prog 41 [.agg (schA s), .c (.int .i64 k)] [] (fun _ => false) (fun r h' => r = .c (.int .i64 (ixF (fun x : TabS => decide (x.id = k)) s.tabs)) ∧ h' = []) := by
 refine acalls mixed Tryz.func41 rfl Tryz.ntmps41 rfl fun E hE hst hho => ?_
 simp (maxSteps := 1000000) [schA, hho, noHo, -List.reduceReplicate]
 refine loop_k mixed (fun j : Nat => ⟨slotsOf 21 [(1, .c (.int .i64 k)), (8, .fs 4 s.tabs.length (tabsA s.tabs)), (9, .c (.int .i64 s.tabs.length)), (10, .c (.int .i64 (j : Nat)))], []⟩) (fun j => s.tabs.length - j) (fun j => j ≤ s.tabs.length ∧ ∀ i (hi : i < s.tabs.length), i < j → ¬ s.tabs[i].id = k) 0 ⟨Nat.zero_le _, fun i _ h => by omega⟩ ?_ ?_
 ·exact wk_of 0 1 (by simp) (by simp [hE, lens]) (by simp) (by simp [livH, livO, AV.livL, AV.liv, wkL, wkV, List.range']) (by simp [livH, livO, AV.livL, AV.liv, wkL, wkV, List.range', slotsOf])
 rintro j ⟨hj, hI⟩
 have hI2 : ∀ i (hi : i < s.tabs.length), i < j → (fun x : TabS => decide (x.id = k)) s.tabs[i] = false := fun i hi hij => decide_eq_false (hI i hi hij)
 by_cases hjl : j < s.tabs.length
 ·have hat := tabsA_at s.tabs j hjl
  have ew : IntKind.i64.wrap ((j : Int) + 1) = (j + 1 : Nat) := by rw [IntWalk.i64_in _ (by omega)]; rfl
  have e0 : j * 4 + 4 ≤ s.tabs.length * 4 := by omega
  have hp0 := @ixF_hit _ (fun x : TabS => decide (x.id = k)) s.tabs j hjl hI2
  obtain ⟨x, hx⟩ : ∃ x, x = s.tabs[j] := ⟨_, rfl⟩
  rw [← hx] at hat hp0
  by_cases hp : x.id = k
  ·simp (maxSteps := 1000000) [slotsOf, tabA, hho, noHo, hjl, hat, e0, hp, -List.reduceReplicate]
   exact Ret.drop (by rfl) ⟨by rw [hp0 (by simp [hp])], rfl⟩
  ·simp (maxSteps := 1000000) [slotsOf, tabA, hho, noHo, hjl, hat, e0, hp, ew, -List.reduceReplicate]
   refine round_next (j + 1) ⟨by omega, fun i hi hij => ?_⟩ (by omega) ?_
   ·by_cases e : i = j
    ·subst e; rw [← hx]; exact hp
    ·exact hI i hi (by omega)
   ·exact wk_of 0 1 (by simp) (by simp [hE, lens]) (by simp) (by simp [livH, livO, AV.livL, AV.liv, wkL, wkV, List.range']) (by simp [livH, livO, AV.livL, AV.liv, wkL, wkV, List.range', slotsOf])
 ·obtain rfl : j = s.tabs.length := by omega
  simp (maxSteps := 1000000) [slotsOf, hho, noHo, -List.reduceReplicate]
  exact Ret.drop (by rfl) ⟨by rw [ixF_none fun i hi => hI2 i hi hi], rfl⟩
end Go.Proofs.YthgoocdldnkogaaGreatDoor
