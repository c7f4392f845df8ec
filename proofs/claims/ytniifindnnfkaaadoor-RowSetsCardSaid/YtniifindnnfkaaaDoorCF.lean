import Derived.Test.YtniifindnnfkaaaDoorCS
namespace Go.Proofs.YtniifindnnfkaaaDoor
set_option linter.unusedVariables false
set_option linter.unusedSimpArgs false
open Go.RowKit
attribute [local simp] isCut_nil isCut_region isCut_seq isCut_block isCut_loop isCut_cond isCut_skip isCut_exit isCut_ret isCut_range swapK putK altK condK_bool pickP_bool stepP stepO onPure_some onPure_none onImpl_some onImpl_none stepC onGP_some onGP_none onGV_some condG mkG onIt_it nextP_ptr takeP_eq takeV_some takeV_none takeU_some takeU_none takeQ takeW_some takeN_none takeN_some takeG_some takeO_some altO_some pureV binV2 eqF eqOp ovlV ovl2 rowAt capV binV intBin strBin isSh shV fldV ixV sliceV slice3V loadAV nilV lenV callV unV convV viewS cellsH loadV fldCut AV.ung AV.ungs AV.gc AV.cells AS.ev AS.put anyS gcsV lens lnO gV guardV retK RetP_eq resV oneV anyRo loIx hiIx implO callP_clo evL gcsL clearV storeAV AS.push AS.setO appV appZ shortS copyV buildV partsV fillV srcV fzO okV isCell_c isCell_ptr isCell_sl isCell_fs isCell_fp isCell_clo rowZ_one rowZ_zero rowZ_2 rowZ_3 rowZ_4 rowZ_5 rowZ_6 rowZ_7 rowZ_8 rowZ_9 rowZ_10 rowZ_11 rowZ_12 noHo Value.oneCell' max2V min2V lookV updV lenM msAt afterH putBack frzFrom frzO rebO backIx nilEq_sl nilEq_fs nilOp_eql nilOp_neq AV.reb AV.rebL
attribute [local simp ↓] runK_skip runK_region runK_draw runK_seq runK_cut runK_cond runK_block runK_loop runK_exit runK_label runK_goto runK_ret runK_range contK_nil contK_seq contK_seq_ret contK_seq_exit contK_seq_goto contK_block contK_block_ret contK_block_goto contK_block_exit runO_nil runO_cons roundK_exit roundK_ret roundK_goto exitK_ret cutK_ret cutK_exit runE_done runE_nil runE_take runE_alt condG_true condG_false
set_option maxRecDepth 10000
/-! ## The reader, its bytes as data -/
theorem u8av_take (l : List UInt8) (n : Nat) : u8av (l.take n) = (u8av l).take n := by simp [u8av, List.map_take]
theorem u8av_drop (l : List UInt8) (n : Nat) : u8av (l.drop n) = (u8av l).drop n := by simp [u8av, List.map_drop]
def rdS : Option (List UInt8) → List AObj
  | some l => [.o .box [.fs 1 l.length (u8av l), .c (.bool false)]]
  | none => [.o .box [.c (.slice none 0 0), .c (.bool true)]]
theorem ok_r (s : Option (List UInt8)) : ACalls Tryd.prog 59 [.ptr 0 0 2] (rdS s) (fun k => decide (k < 1)) (fun r h' => r = .c (.bool s.isSome) ∧ h' = rdS s) := by
  refine acalls mixed Tryd.func59 rfl Tryd.ntmps59 rfl fun E hE hst hho => ?_
  cases s <;> simp (maxSteps := 1000000) [rdS, hho, noHo, -List.reduceReplicate] <;> exact Ret.same ⟨rfl, rfl⟩
theorem fail_r (s : Option (List UInt8)) : ACalls Tryd.prog 54 [.ptr 0 0 2] (rdS s) (fun k => decide (k < 1)) (fun r h' => r = .tup [] ∧ h' = rdS none) := by
  refine acalls mixed Tryd.func54 rfl Tryd.ntmps54 rfl fun E hE hst hho => ?_
  cases s <;> simp (maxSteps := 1000000) [rdS, hho, noHo, -List.reduceReplicate] <;> exact Ret.same ⟨rfl, rfl⟩
theorem end_r (s : Option (List UInt8)) : ACalls Tryd.prog 32 [.ptr 0 0 2] (rdS s) (fun k => decide (k < 1)) (fun r h' => r = .c (.bool (decide (s = some []))) ∧ h' = rdS s) := by
  refine acalls mixed Tryd.func32 rfl Tryd.ntmps32 rfl fun E hE hst hho => ?_
  have hok := ok_r s
  cases s with
  | none =>
    simp (maxSteps := 1000000) [rdS, hho, noHo, -List.reduceReplicate]
    refine call_x [0] hok rfl rfl ⟨rfl, rfl⟩ hho (by simp) (by decide) (by simp) (by simp [rdS]) ?_
    simp (maxSteps := 1000000) [rdS, hho, noHo, undef, onGP_none, condG_false, -List.reduceReplicate]
    exact Ret.same ⟨rfl, rfl⟩
  | some l =>
    simp (maxSteps := 1000000) [rdS, hho, noHo, -List.reduceReplicate]
    refine call_x [0] hok rfl rfl ⟨rfl, rfl⟩ hho (by simp) (by decide) (by simp) (by simp [rdS]) ?_
    have e : decide (some l = some []) = decide (l.length = 0) := by
      cases l <;> simp
    simp (maxSteps := 1000000) [rdS, hho, noHo, undef, onGP_none, condG_false, -List.reduceReplicate]
    exact Ret.same ⟨by cases l <;> simp, rfl⟩
theorem take_r (l : List UInt8) (hl : l.length ≤ 1000000000) (n : Nat) (hn : n ≤ l.length) : ACalls Tryd.prog 55 [.ptr 0 0 2, .c (.int .i64 (n : Nat))] (rdS (some l)) (fun k => decide (k < 1)) (fun r h' => r = .tup [.fs 1 n (u8av (l.take n)), .c (.bool true)] ∧ h' = rdS (some (l.drop n))) := by
  refine acalls mixed Tryd.func55 rfl Tryd.ntmps55 rfl fun E hE hst hho => ?_
  have hc1 : ¬ l.length < n := by omega
  have hc2 : ¬ (n : Int) < 0 := by omega
  simp (maxSteps := 1000000) [rdS, hho, noHo, hc1, hc2, hn, u8av_take, u8av_drop, -List.reduceReplicate]
  have e : List.take (l.length - n) (List.drop n (u8av l)) = List.drop n (u8av l) := List.take_of_length_le (by simp)
  rw [e]
  exact Ret.same ⟨rfl, rfl⟩
theorem take_r_bad (l : List UInt8) (hl : l.length ≤ 1000000000) (n : Int) (hn : n < 0 ∨ (l.length : Int) < n) : ACalls Tryd.prog 55 [.ptr 0 0 2, .c (.int .i64 n)] (rdS (some l)) (fun k => decide (k < 1)) (fun r h' => r = .tup [.c (.slice none 0 0), .c (.bool false)] ∧ h' = rdS none) := by
  refine acalls mixed Tryd.func55 rfl Tryd.ntmps55 rfl fun E hE hst hho => ?_
  have hf := fail_r (some l)
  by_cases h0 : n < 0
  · simp (maxSteps := 1000000) [rdS, hho, noHo, h0, undef, onGP_none, condG_false, -List.reduceReplicate]
    refine call_x [0] hf rfl rfl ⟨rfl, rfl⟩ hho (by simp) (by decide) (by simp) (by simp [rdS]) ?_
    simp (maxSteps := 1000000) [rdS, hho, -List.reduceReplicate]
    exact Ret.same ⟨rfl, rfl⟩
  · have h1 : (l.length : Int) < n := by omega
    simp (maxSteps := 1000000) [rdS, hho, noHo, h0, h1, undef, onGP_none, condG_false, -List.reduceReplicate]
    refine call_x [0] hf rfl rfl ⟨rfl, rfl⟩ hho (by simp) (by decide) (by simp) (by simp [rdS]) ?_
    simp (maxSteps := 1000000) [rdS, hho, -List.reduceReplicate]
    exact Ret.same ⟨rfl, rfl⟩
theorem take_r_none (n : Int) : ACalls Tryd.prog 55 [.ptr 0 0 2, .c (.int .i64 n)] (rdS none) (fun k => decide (k < 1)) (fun r h' => r = .tup [.c (.slice none 0 0), .c (.bool false)] ∧ h' = rdS none) := by
  refine acalls mixed Tryd.func55 rfl Tryd.ntmps55 rfl fun E hE hst hho => ?_
  have hf := fail_r none
  simp (maxSteps := 1000000) [rdS, hho, noHo, undef, onGP_none, condG_false, -List.reduceReplicate]
  refine call_x [0] hf rfl rfl ⟨rfl, rfl⟩ hho (by simp) (by decide) (by simp) (by simp [rdS]) ?_
  simp (maxSteps := 1000000) [rdS, hho, -List.reduceReplicate]
  exact Ret.same ⟨rfl, rfl⟩
end Go.Proofs.YtniifindnnfkaaaDoor
