import Derived.Test.YtglhmhpaoebifaaWa
namespace Go.Proofs.Ytglhmhpaoebifaa
set_option linter.unusedVariables false
set_option linter.unusedSimpArgs false
open Go.RowKit
attribute [local simp] isCut_nil isCut_region isCut_seq isCut_block isCut_loop isCut_cond isCut_skip isCut_exit isCut_ret isCut_range swapK putK altK condK_bool pickP_bool stepP stepO onPure_some onPure_none onImpl_some onImpl_none stepC onGP_some onGP_none onGV_some condG mkG onIt_it nextP_ptr takeP_eq takeV_some takeN_none takeN_some takeG_some takeO_some altO_some pureV binV2 eqF eqOp ovlV ovl2 rowAt capV binV intBin strBin isSh shV fldV ixV sliceV slice3V loadAV nilV lenV callV unV convV viewS cellsH loadV fldCut AV.ung AV.ungs AV.gc AV.cells AS.ev AS.put anyS gcsV lens lnO gV guardV retK RetP_eq resV oneV anyRo loIx hiIx implO callP_clo evL gcsL clearV storeAV AS.push AS.setO appV appZ shortS copyV buildV partsV fillV srcV fzO okV isCell_c isCell_ptr isCell_sl isCell_fs isCell_fp isCell_clo rowZ_one rowZ_zero rowZ_2 rowZ_3 rowZ_4 rowZ_5 rowZ_6 rowZ_7 rowZ_8 rowZ_9 rowZ_10 rowZ_11 rowZ_12 noHo Value.oneCell' max2V min2V afterH putBack frzFrom frzO rebO backIx nilEq_sl nilEq_fs nilOp_eql nilOp_neq AV.reb AV.rebL
attribute [local simp ↓] runK_skip runK_region runK_draw runK_seq runK_cut runK_cond runK_block runK_loop runK_exit runK_label runK_goto runK_ret runK_range contK_nil contK_seq contK_seq_ret contK_seq_exit contK_seq_goto contK_block contK_block_ret contK_block_goto contK_block_exit runO_nil runO_cons roundK_exit roundK_ret roundK_goto exitK_ret cutK_ret cutK_exit runE_done runE_nil runE_take runE_alt condG_true condG_false
set_option maxRecDepth 10000
/-! ## The reader: its box, and the row that it reads from place o on -/
def rdO (l : List UInt8) (o : Nat) : List AObj := [.o .box [.sl 1 1 o (l.length - o) l.length, .c (.bool false)], .o (.row 5 1) (u8av l)]
def rdF (l : List UInt8) : List AObj := [.o .box [.c (.slice none 0 0), .c (.bool true)], .o (.row 5 1) (u8av l)]
set_option maxHeartbeats 4000000 in
theorem ok_w (l : List UInt8) (o : Nat) : ACalls Try.prog 66 [.ptr 0 0 2] (rdO l o) (fun k => decide (k < 2)) (fun r h' => r = .c (.bool true) ∧ h' = rdO l o) := by
  refine acalls mixed Try.func66 rfl Try.ntmps66 rfl fun E hE hst hho => ?_
  simp (maxSteps := 1000000) [rdO, hho, noHo, -List.reduceReplicate]
  exact Ret.same ⟨rfl, rfl⟩
set_option maxHeartbeats 4000000 in
theorem okF_w (l : List UInt8) : ACalls Try.prog 66 [.ptr 0 0 2] (rdF l) (fun k => decide (k < 2)) (fun r h' => r = .c (.bool false) ∧ h' = rdF l) := by
  refine acalls mixed Try.func66 rfl Try.ntmps66 rfl fun E hE hst hho => ?_
  simp (maxSteps := 1000000) [rdF, hho, noHo, -List.reduceReplicate]
  exact Ret.same ⟨rfl, rfl⟩
set_option maxHeartbeats 4000000 in
theorem fail_w (l : List UInt8) (o : Nat) : ACalls Try.prog 64 [.ptr 0 0 2] (rdO l o) (fun k => decide (k < 2)) (fun r h' => r = .tup [] ∧ h' = rdF l) := by
  refine acalls mixed Try.func64 rfl Try.ntmps64 rfl fun E hE hst hho => ?_
  simp (maxSteps := 1000000) [rdO, hho, noHo, -List.reduceReplicate]
  exact Ret.same ⟨rfl, rfl⟩
set_option maxHeartbeats 4000000 in
theorem failF_w (l : List UInt8) : ACalls Try.prog 64 [.ptr 0 0 2] (rdF l) (fun k => decide (k < 2)) (fun r h' => r = .tup [] ∧ h' = rdF l) := by
  refine acalls mixed Try.func64 rfl Try.ntmps64 rfl fun E hE hst hho => ?_
  simp (maxSteps := 1000000) [rdF, hho, noHo, -List.reduceReplicate]
  exact Ret.same ⟨rfl, rfl⟩
set_option maxHeartbeats 4000000 in
theorem end_w (l : List UInt8) (o : Nat) (ho : o ≤ l.length) : ACalls Try.prog 50 [.ptr 0 0 2] (rdO l o) (fun k => decide (k < 2)) (fun r h' => r = .c (.bool (o == l.length)) ∧ h' = rdO l o) := by
  refine acalls mixed Try.func50 rfl Try.ntmps50 rfl fun E hE hst hho => ?_
  simp (maxSteps := 1000000) [rdO, hho, noHo, -List.reduceReplicate]
  refine call_x [0, 1] (ok_w l o) rfl rfl ⟨rfl, rfl⟩ hho (by simp [rdO]) (by decide) (by simp) (by simp [rdO]) ?_
  simp (maxSteps := 1000000) [rdO, hho, noHo, -List.reduceReplicate]
  have e : (o == l.length) = decide (l.length - o = 0) := by
    rw [Bool.eq_iff_iff]; simp; omega
  rw [e]
  exact Ret.same ⟨rfl, rfl⟩
set_option maxHeartbeats 4000000 in
theorem endF_w (l : List UInt8) : ACalls Try.prog 50 [.ptr 0 0 2] (rdF l) (fun k => decide (k < 2)) (fun r h' => r = .c (.bool false) ∧ h' = rdF l) := by
  refine acalls mixed Try.func50 rfl Try.ntmps50 rfl fun E hE hst hho => ?_
  simp (maxSteps := 1000000) [rdF, hho, noHo, -List.reduceReplicate]
  refine call_x [0, 1] (okF_w l) rfl rfl ⟨rfl, rfl⟩ hho (by simp [rdF]) (by decide) (by simp) (by simp [rdF]) ?_
  simp (maxSteps := 1000000) [rdF, hho, noHo, -List.reduceReplicate]
  exact Ret.same ⟨rfl, rfl⟩
set_option maxHeartbeats 4000000 in
theorem take_w (l : List UInt8) (o n : Nat) (ho : o + n ≤ l.length) (hlt : n = 0 ∨ n < l.length - o) (hl : l.length ≤ 1000000000) : ACalls Try.prog 65 [.ptr 0 0 2, .c (.int .i64 (n : Nat))] (rdO l o) (fun k => decide (k < 2)) (fun r h' => r = .tup [.sl 1 1 o n l.length, .c (.bool true)] ∧ h' = rdO l (o + n)) := by
  refine acalls mixed Try.func65 rfl Try.ntmps65 rfl fun E hE hst hho => ?_
  have hc : ¬ ((n : Int) < 0 ∨ l.length - o < n) := by omega
  have hc1 : ¬ l.length - o < n := by omega
  have hc2 : ¬ (n : Int) < 0 := by omega
  have hn2 : n ≤ l.length - o := by omega
  simp (maxSteps := 1000000) [rdO, hho, noHo, hc, hc1, hc2, hn2, -List.reduceReplicate]
  have e : l.length - o - n = l.length - (o + n) := by omega
  rw [e]
  exact ⟨hlt, Ret.same ⟨rfl, rfl⟩⟩
end Go.Proofs.Ytglhmhpaoebifaa
