import Derived.Test.YtglhmhpaoebifaaBG
import Derived.Test.YtglhmhpaoebifaaBJ
namespace Go.Proofs.Ytglhmhpaoebifaa
set_option linter.unusedVariables false
set_option linter.unusedSimpArgs false
open Go.RowKit
attribute [local simp] isCut_nil isCut_region isCut_seq isCut_block isCut_loop isCut_cond isCut_skip isCut_exit isCut_ret isCut_range swapK putK altK condK_bool pickP_bool stepP stepO onPure_some onPure_none onImpl_some onImpl_none stepC onGP_some onGP_none onGV_some condG mkG onIt_it nextP_ptr takeP_eq takeV_some takeN_none takeN_some takeG_some takeO_some altO_some pureV binV2 eqF eqOp ovlV ovl2 rowAt capV binV intBin strBin isSh shV fldV ixV sliceV slice3V loadAV nilV lenV callV unV convV viewS cellsH loadV fldCut AV.ung AV.ungs AV.gc AV.cells AS.ev AS.put anyS gcsV lens lnO gV guardV retK RetP_eq resV oneV anyRo loIx hiIx implO callP_clo evL gcsL clearV storeAV AS.push AS.setO appV appZ shortS copyV buildV partsV fillV srcV fzO okV isCell_c isCell_ptr isCell_sl isCell_fs isCell_fp isCell_clo rowZ_one rowZ_zero rowZ_2 rowZ_3 rowZ_4 rowZ_5 rowZ_6 rowZ_7 rowZ_8 rowZ_9 rowZ_10 rowZ_11 rowZ_12 noHo Value.oneCell' max2V min2V afterH putBack frzFrom frzO rebO backIx nilEq_sl nilEq_fs nilOp_eql nilOp_neq AV.reb AV.rebL
attribute [local simp ↓] runK_skip runK_region runK_draw runK_seq runK_cut runK_cond runK_block runK_loop runK_exit runK_label runK_goto runK_ret runK_range contK_nil contK_seq contK_seq_ret contK_seq_exit contK_seq_goto contK_block contK_block_ret contK_block_goto contK_block_exit runO_nil runO_cons roundK_exit roundK_ret roundK_goto exitK_ret cutK_ret cutK_exit runE_done runE_nil runE_take runE_alt condG_true condG_false
set_option maxRecDepth 10000
/-! ## What must be answered first -/
def fA : List LeaseS := [⟨1, 4, 20⟩, ⟨0, 3, 10⟩]
def fL : List LeaseS := [⟨0, 3, 10⟩, ⟨1, 4, 20⟩]
def fB : List LeaseS := [⟨16, 0, 0⟩]
def fL2 : List LeaseS := [⟨0, 3, 10⟩, ⟨1, 5, 99⟩]
def fL3 : List LeaseS := [⟨1, 5, 99⟩]
theorem fA_sort : stabS ltL fA = fL := rfl
theorem fB_sort : stabS ltL fB = fB := rfl
theorem fL_ok : NewOk fL := fun i hi => by
  match i, hi with
  | 0, _ => exact ⟨rfl, fun k hk e => by omega⟩
  | 1, _ => exact ⟨rfl, fun k hk e => by obtain rfl : k = 0 := (by omega); show (0 : Int) ≠ 1; decide⟩
  | i + 2, h => simp [fL] at h; omega
theorem fB_bad : ¬ NewOk fB := fun h => by have := (h 0 (by decide)).1; cases this
theorem new_fA : ACalls Try.prog 8 [.fs 3 2 [.c (.int .i64 1), .c (.int .i64 4), .c (.int .i64 20), .c (.int .i64 0), .c (.int .i64 3), .c (.int .i64 10)]] [] (fun _ => false) (fun r h' => r = .tup [.ptr 0 0 1, .c (.int .i64 0)] ∧ h' = bookO fL) :=
  new_core fA (by decide) _ (fun _ => ⟨rfl, by rw [fA_sort]⟩) fun h => absurd (by rw [fA_sort]; exact fL_ok) h
theorem new_fB : ACalls Try.prog 8 [.fs 3 1 [.c (.int .i64 16), .c (.int .i64 0), .c (.int .i64 0)]] [] (fun _ => false) (fun r h' => r = .tup [.c (.pointer none), .c (.int .i64 2)] ∧ h' = []) :=
  new_core fB (by decide) _ (fun h => absurd (by rw [fB_sort] at h; exact h) fB_bad) fun _ => ⟨rfl, rfl⟩
set_option maxHeartbeats 8000000 in
theorem first_lease : ACalls Try.prog 7 [] [] (fun _ => false) (fun r h' => r = .c (.bool true) ∧ h' = []) := by
  refine acalls mixed Try.func7 rfl Try.ntmps7 rfl fun E hE hst hho => ?_
  simp (maxSteps := 1000000) [hho, -List.reduceReplicate]
  refine call_f [] (fun k => k == 0) new_fA rfl rfl ⟨rfl, rfl⟩ hho (by simp) (by decide) (by simp) (by simp [isD_c, maxLen]) (by simp) ?_
  simp (maxSteps := 1000000) [bookO, rowL, hho, -List.reduceReplicate]
  refine call_f [] (fun k => k == 3) new_fB rfl rfl ⟨rfl, rfl⟩ hho (by simp) (by decide) (by simp) (by simp [isD_c, maxLen]) (by simp) ?_
  simp (maxSteps := 1000000) [bookO, rowL, hho, -List.reduceReplicate]
  refine call_x [1, 2] (may_book fL (by decide) 4 5 ⟨by decide, by decide⟩) rfl rfl ⟨rfl, rfl⟩ hho (by simp) (by decide) (by simp) (by simp [bookO]) ?_
  rw [show mayS fL 4 5 = true from rfl]
  simp (maxSteps := 1000000) [bookO, rowL, hho, -List.reduceReplicate]
  refine call_x [1, 2] (may_book fL (by decide) 5 5 ⟨by decide, by decide⟩) rfl rfl ⟨rfl, rfl⟩ hho (by simp) (by decide) (by simp) (by simp [bookO]) ?_
  rw [show mayS fL 5 5 = false from rfl]
  simp (maxSteps := 1000000) [bookO, rowL, hho, -List.reduceReplicate]
  refine call_x [1, 2] (wait_book fL (by decide) 5 5 ⟨by decide, by decide⟩) rfl rfl ⟨rfl, rfl⟩ hho (by simp) (by decide) (by simp) (by simp [bookO]) ?_
  rw [show waitS fL 5 5 = 10 from rfl]
  simp (maxSteps := 1000000) [bookO, rowL, hho, -List.reduceReplicate]
  refine call_x [1, 2] (may_book fL (by decide) 5 10 ⟨by decide, by decide⟩) rfl rfl ⟨rfl, rfl⟩ hho (by simp) (by decide) (by simp) (by simp [bookO]) ?_
  rw [show mayS fL 5 10 = true from rfl]
  simp (maxSteps := 1000000) [bookO, rowL, hho, -List.reduceReplicate]
  refine call_x [1, 2] (get_book fL (by decide) 0 9 ⟨0, 3, 10⟩ rfl rfl) rfl rfl ⟨rfl, rfl⟩ hho (by simp) (by decide) (by simp) (by simp [bookO]) ?_
  simp (maxSteps := 1000000) [bookO, rowL, hho, -List.reduceReplicate]
  refine call_x [1, 2] (get_book fL (by decide) 0 10 ⟨0, 3, 10⟩ rfl rfl) rfl rfl ⟨rfl, rfl⟩ hho (by simp) (by decide) (by simp) (by simp [bookO]) ?_
  simp (maxSteps := 1000000) [bookO, rowL, hho, -List.reduceReplicate]
  refine call_x [1, 2] (take_has fL (by decide) ⟨1, 3, 99⟩ ⟨1, 4, 20⟩ rfl rfl rfl) rfl rfl ⟨rfl, rfl⟩ hho (by simp) (by decide) (by simp) (by simp [bookO]) ?_
  simp (maxSteps := 1000000) [bookO, rowL, hho, -List.reduceReplicate]
  refine call_x [1, 2] (take_has fL (by decide) ⟨1, 5, 99⟩ ⟨1, 4, 20⟩ rfl rfl rfl) rfl rfl ⟨rfl, rfl⟩ hho (by simp) (by decide) (by simp) (by simp [bookO]) ?_
  simp (maxSteps := 1000000) [bookO, rowL, hho, -List.reduceReplicate]
  have hex := expire_book fL2 (by decide) 10
  rw [show liveL fL2 10 = fL3 from rfl, show ((fL2.length : Nat) : Int) - ((fL3.length : Nat) : Int) = 1 from rfl] at hex
  refine call_d [1, 2] (fun _ => false) [2] hex rfl rfl ⟨rfl, rfl⟩ hho (fun i k h => ?_) (by simp [livH, livO, AV.livL, AV.liv, wkL, wkV, List.range']) (by simp [livH, livO, AV.livL, AV.liv, wkL, wkV, List.range']) (by simp [hst]) (by decide) (by decide) (by simp) (by simp [bookO]) ?_
  · match i, h with
    | 0, h => exact .inl rfl
    | 1, h => simp at h; subst h; exact .inr (by simp)
    | i + 2, h => simp at h
  simp (maxSteps := 1000000) [bookO, rowL, hho, -List.reduceReplicate]
  refine call_x [1, 2] (give_none fL3 (by decide) 0 rfl) rfl rfl ⟨rfl, rfl⟩ hho (by simp) (by decide) (by simp) (by simp [bookO]) ?_
  simp (maxSteps := 1000000) [bookO, rowL, hho, -List.reduceReplicate]
  exact Ret.drop (by rfl) ⟨rfl, rfl⟩
/-! ## LeaseWaits -/
def i64L (x : LeaseS) : Prop := i64ok x.s ∧ i64ok x.v ∧ i64ok x.u
end Go.Proofs.Ytglhmhpaoebifaa
