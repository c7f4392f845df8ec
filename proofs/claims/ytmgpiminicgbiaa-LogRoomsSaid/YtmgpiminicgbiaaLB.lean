import Derived.Test.YtmgpiminicgbiaaLA
namespace Go.Proofs.Ytmgpiminicgbiaa
set_option linter.unusedVariables false
set_option linter.unusedSimpArgs false
open Go.RowKit
attribute [local simp] isCut_nil isCut_region isCut_seq isCut_block isCut_loop isCut_cond isCut_skip isCut_exit isCut_ret isCut_range swapK putK altK condK_bool pickP_bool stepP stepO onPure_some onPure_none onImpl_some onImpl_none stepC onGP_some onGP_none onGV_some condG mkG onIt_it nextP_ptr takeP_eq takeV_some takeN_none takeN_some takeG_some takeO_some altO_some pureV binV intBin strBin isSh shV fldV ixV sliceV loadAV nilV lenV callV unV convV viewS cellsH loadV fldCut AV.ung AV.gc AV.cells AS.ev AS.put anyS gcsV lens lnO gV guardV retK RetP_eq resV oneV anyRo loIx hiIx implO callP_clo evL gcsL storeAV AS.push AS.setO appV copyV buildV partsV fillV srcV fzO okV isCell_c isCell_ptr isCell_sl isCell_fs isCell_fp isCell_clo rowZ_one rowZ_zero rowZ_2 rowZ_3 rowZ_4 rowZ_5 rowZ_6 rowZ_7 rowZ_8 rowZ_9 rowZ_10 rowZ_11 rowZ_12 noHo Value.oneCell' max2V min2V afterH putBack frzFrom frzO rebO backIx nilEq_sl nilEq_fs nilOp_eql nilOp_neq AV.reb AV.rebL
attribute [local simp ↓] runK_skip runK_region runK_draw runK_seq runK_cut runK_cond runK_block runK_loop runK_exit runK_label runK_goto runK_ret runK_range contK_nil contK_seq contK_seq_ret contK_seq_exit contK_seq_goto contK_block contK_block_ret contK_block_goto contK_block_exit runO_nil runO_cons roundK_exit roundK_ret roundK_goto exitK_ret cutK_ret cutK_exit runE_done runE_nil runE_take runE_alt condG_true condG_false
set_option maxRecDepth 10000
structure HeadS where
  n : Int
  epoch : Int
  base : Int
  body : List UInt8
def headA (h : HeadS) : List AV := [.c (.int .i64 h.n), .c (.int .i64 h.epoch), .c (.int .i64 h.base), .fs 1 h.body.length (u8av h.body)]
def setB (l : List UInt8) (off : Nat) (b : List UInt8) : List UInt8 := l.take off ++ b.take (l.length - off) ++ l.drop (off + min b.length (l.length - off))
theorem setB_length (l : List UInt8) (off : Nat) (b : List UInt8) (h : off ≤ l.length) : (setB l off b).length = l.length := by
  simp [setB]; omega
def byteOf (n : Nat) : UInt8 := UInt8.ofNat (IntKind.u8.wrap n).toNat
def z64 : List UInt8 := List.replicate 64 0
theorem z64_length : z64.length = 64 := by simp [z64]
def headL (h : HeadS) : List UInt8 := putN (setB ((putN (putN (putN z64 0 h.n 8 8) 8 h.epoch 4 4) 12 h.base 4 4).set 16 (byteOf h.body.length)) 17 h.body) 56 h.n 8 8
theorem headL_length (h : HeadS) : (headL h).length = 64 := by
  unfold headL
  have h1 := putN_length z64 0 h.n 8 8 (by rw [z64_length]; decide)
  have h2 := putN_length (putN z64 0 h.n 8 8) 8 h.epoch 4 4 (by rw [h1, z64_length]; decide)
  have h3 := putN_length (putN (putN z64 0 h.n 8 8) 8 h.epoch 4 4) 12 h.base 4 4 (by rw [h2, h1, z64_length]; decide)
  have h4 := setB_length ((putN (putN (putN z64 0 h.n 8 8) 8 h.epoch 4 4) 12 h.base 4 4).set 16 (byteOf h.body.length)) 17 h.body (by rw [List.length_set, h3, h2, h1, z64_length]; decide)
  rw [putN_length _ _ _ _ _ (by rw [h4, List.length_set, h3, h2, h1, z64_length]; decide), h4, List.length_set, h3, h2, h1, z64_length]
theorem headSector_row (h : HeadS) (hb : h.body.length ≤ 1000000) : ACalls Try.prog 53 [.agg (headA h)] [] (fun _ => false) (fun r h' => r = .sl 0 1 0 64 64 ∧ h' = [.o (.row 5 1) (u8av (headL h))]) := by
  have l1 := putN_length z64 0 h.n 8 8 (by rw [z64_length]; decide)
  have l2 := putN_length (putN z64 0 h.n 8 8) 8 h.epoch 4 4 (by rw [l1, z64_length]; decide)
  have l3 := putN_length (putN (putN z64 0 h.n 8 8) 8 h.epoch 4 4) 12 h.base 4 4 (by rw [l2, l1, z64_length]; decide)
  rw [l2, l1, z64_length] at l3; rw [l1, z64_length] at l2; rw [z64_length] at l1
  obtain ⟨p1, e1⟩ : ∃ p1, p1 = putN z64 0 h.n 8 8 := ⟨_, rfl⟩
  obtain ⟨p2, e2⟩ : ∃ p2, p2 = putN p1 8 h.epoch 4 4 := ⟨_, rfl⟩
  obtain ⟨p3, e3⟩ : ∃ p3, p3 = putN p2 12 h.base 4 4 := ⟨_, rfl⟩
  rw [← e1] at l1 l2 l3; rw [← e2] at l2 l3; rw [← e3] at l3
  refine acalls mixed Try.func53 rfl Try.ntmps53 rfl fun E hE _ hho => ?_
  have hz : rowZ 64 [Value.int IntKind.u8 0] = u8av z64 := rfl
  simp (maxSteps := 1000000) [hho, headA, hz, -List.reduceReplicate]
  refine call_x [1] (put_row 0 64 64 h.n 8 z64 rfl (by decide) (by decide) (by decide)) rfl rfl ⟨rfl, rfl⟩ hho (by simp) (by decide) (by simp) (by simp) ?_
  rw [← e1]
  simp (maxSteps := 1000000) [hho, -List.reduceReplicate]
  refine draw_k hho (.take 0 (.take 1 (.take 2 (.take 3 (.alt 4 (.done) (.nil)))))) [0] [] (by decide +kernel) (by simp) ?_
  simp (maxSteps := 1000000) [roOf, holdOf, wrOf, altK, heldOk, Region.binds, l1, l2, l3, -List.reduceReplicate]
  intro E1
  refine call_h [1] (put_row 8 56 64 h.epoch 4 p1 l1 (by decide) (by decide) (by decide)) rfl rfl ⟨rfl, rfl⟩ (by simp) (by simp) (by decide) (by simp) (by simp) ?_
  rw [← e2]
  simp (maxSteps := 1000000) [hho, roOf, holdOf, wrOf, altK, heldOk, Region.binds, l1, l2, l3, -List.reduceReplicate]
  refine draw_k hho (.take 0 (.take 1 (.take 2 (.take 3 (.alt 4 (.done) (.nil)))))) [0] [] (by decide +kernel) (by simp) ?_
  simp (maxSteps := 1000000) [roOf, holdOf, wrOf, altK, heldOk, Region.binds, l1, l2, l3, -List.reduceReplicate]
  intro E2
  refine call_h [1] (put_row 12 52 64 h.base 4 p2 l2 (by decide) (by decide) (by decide)) rfl rfl ⟨rfl, rfl⟩ (by simp) (by simp) (by decide) (by simp) (by simp) ?_
  rw [← e3]
  simp (maxSteps := 1000000) [hho, roOf, holdOf, wrOf, altK, heldOk, Region.binds, l1, l2, l3, -List.reduceReplicate]
  obtain ⟨p4, e4⟩ : ∃ p4, p4 = p3.set 16 (byteOf h.body.length) := ⟨_, rfl⟩
  have l4 : p4.length = 64 := by rw [e4, List.length_set, l3]
  simp only [u8_of_wrap]
  have ep4 := u8av_put p3 16 (byteOf h.body.length) (by omega)
  unfold byteOf at ep4 e4
  rw [ep4, ← e4]
  refine draw_k hho (.take 0 (.take 1 (.take 2 (.take 3 (.alt 4 (.done) (.nil)))))) [0] [] (by decide +kernel) (by simp) ?_
  simp (maxSteps := 1000000) [roOf, holdOf, wrOf, altK, heldOk, Region.binds, l1, l2, l3, l4, -List.reduceReplicate]
  have ec : u8av (List.take 17 p4) ++ (u8av (List.take 47 h.body) ++ u8av (List.drop (17 + min 47 h.body.length) p4)) = u8av (setB p4 17 h.body) := by
    unfold setB
    rw [l4, u8av_app, u8av_app, List.append_assoc, Nat.min_comm]
  intro E3
  rw [ec]
  obtain ⟨p5, e5⟩ : ∃ p5, p5 = setB p4 17 h.body := ⟨_, rfl⟩
  have l5 : p5.length = 64 := by rw [e5, setB_length _ _ _ (by omega), l4]
  rw [← e5]
  refine draw_k hho (.take 0 (.take 1 (.take 2 (.take 3 (.alt 4 (.done) (.nil)))))) [0] [] (by decide +kernel) (by simp) ?_
  simp (maxSteps := 1000000) [roOf, holdOf, wrOf, altK, heldOk, Region.binds, l5, -List.reduceReplicate]
  intro E4
  refine call_h [1] (put_row 56 8 64 h.n 8 p5 l5 (by decide) (by decide) (by decide)) rfl rfl ⟨rfl, rfl⟩ (by simp) (by simp) (by decide) (by simp) (by simp) ?_
  obtain ⟨p6, e6⟩ : ∃ p6, p6 = putN p5 56 h.n 8 8 := ⟨_, rfl⟩
  have l6 : p6.length = 64 := by rw [e6, putN_length _ _ _ _ _ (by omega), l5]
  rw [← e6]
  simp (maxSteps := 1000000) [hho, roOf, holdOf, wrOf, altK, heldOk, Region.binds, l5, l6, -List.reduceReplicate]
  refine Ret.sel [1] (fun _ => false) (ho := by rfl) (ha := by rfl) ?_ ?_ (by decide) (by simp) (by simp) ⟨?_, ?_⟩
  · simp
  · simp
  · rfl
  · have : p6 = headL h := by
      rw [e6, e5, e4, e3, e2, e1]; rfl
    rw [this]
structure FrameS where
  epoch : Int
  k : Int
  last : Bool
  body : List UInt8
def frameA (f : FrameS) : List AV := [.c (.int .i64 f.epoch), .c (.int .i64 f.k), .c (.bool f.last), .fs 1 f.body.length (u8av f.body)]
def frameP (f : FrameS) : List UInt8 := setB (((if f.last then (putN (putN z64 0 f.epoch 4 4) 4 f.k 4 4).set 8 1 else putN (putN z64 0 f.epoch 4 4) 4 f.k 4 4)).set 9 (byteOf f.body.length)) 10 f.body
def frameL (f : FrameS) : List UInt8 := setB (frameP f) 56 ((frameP f).take 8)
theorem frameP_length (f : FrameS) : (frameP f).length = 64 := by
  unfold frameP
  have l1 := putN_length z64 0 f.epoch 4 4 (by rw [z64_length]; decide)
  have l2 := putN_length (putN z64 0 f.epoch 4 4) 4 f.k 4 4 (by rw [l1, z64_length]; decide)
  rw [l1, z64_length] at l2
  have l3 : (if f.last then (putN (putN z64 0 f.epoch 4 4) 4 f.k 4 4).set 8 1 else putN (putN z64 0 f.epoch 4 4) 4 f.k 4 4).length = 64 := by split <;> simp [l2]
  rw [setB_length _ _ _ (by rw [List.length_set, l3]; decide), List.length_set, l3]
theorem frameL_length (f : FrameS) : (frameL f).length = 64 := by
  unfold frameL; rw [setB_length _ _ _ (by rw [frameP_length]; decide), frameP_length]
theorem u8_one : Value.int .u8 1 = u8 1 := rfl
theorem frameSector_row (f : FrameS) (hb : f.body.length ≤ 1000000) : ACalls Try.prog 56 [.agg (frameA f)] [] (fun _ => false) (fun r h' => r = .sl 0 1 0 64 64 ∧ h' = [.o (.row 5 1) (u8av (frameL f))]) := by
  have l1 := putN_length z64 0 f.epoch 4 4 (by rw [z64_length]; decide)
  have l2 := putN_length (putN z64 0 f.epoch 4 4) 4 f.k 4 4 (by rw [l1, z64_length]; decide)
  rw [l1, z64_length] at l2; rw [z64_length] at l1
  obtain ⟨p1, e1⟩ : ∃ p1, p1 = putN z64 0 f.epoch 4 4 := ⟨_, rfl⟩
  obtain ⟨p2, e2⟩ : ∃ p2, p2 = putN p1 4 f.k 4 4 := ⟨_, rfl⟩
  rw [← e1] at l1 l2; rw [← e2] at l2
  refine acallsC [6] mixed Try.func56 rfl Try.ntmps56 rfl fun E hE _ hho => ?_
  have hz : rowZ 64 [Value.int IntKind.u8 0] = u8av z64 := rfl
  simp (maxSteps := 1000000) [hho, frameA, hz, -List.reduceReplicate]
  refine call_x [1] (put_row 0 64 64 f.epoch 4 z64 rfl (by decide) (by decide) (by decide)) rfl rfl ⟨rfl, rfl⟩ hho (by simp) (by decide) (by simp) (by simp) ?_
  rw [← e1]
  simp (maxSteps := 1000000) [hho, -List.reduceReplicate]
  refine draw_k hho (.take 0 (.take 1 (.take 2 (.take 3 (.alt 4 (.done) (.nil)))))) [0] [] (by decide +kernel) (by simp) ?_
  simp (maxSteps := 1000000) [roOf, holdOf, wrOf, altK, heldOk, Region.binds, l1, -List.reduceReplicate]
  intro E1
  refine call_h [1] (put_row 4 60 64 f.k 4 p1 l1 (by decide) (by decide) (by decide)) rfl rfl ⟨rfl, rfl⟩ (by simp) (by simp) (by decide) (by simp) (by simp) ?_
  rw [← e2]
  obtain ⟨p3, e3⟩ : ∃ p3, p3 = if f.last then p2.set 8 1 else p2 := ⟨_, rfl⟩
  have l3 : p3.length = 64 := by rw [e3]; split <;> simp [l2]
  simp (maxSteps := 1000000) [hho, roOf, holdOf, wrOf, altK, heldOk, Region.binds, l1, l2, -List.reduceReplicate]
  refine seq_cut mixed [] (fun _ : Unit => ⟨slotsOf 35 [(1, .ptr 0 0 4), (3, .sl 1 1 0 64 64)], [.o .box (frameA f), .o (.row 5 1) (u8av p3)]⟩) (fun _ => True) ?_ ?_
  · rintro _ _
    simp (maxSteps := 1000000) [slotsOf, frameA, hho, l3, -List.reduceReplicate]
    obtain ⟨p4, e4⟩ : ∃ p4, p4 = p3.set 9 (byteOf f.body.length) := ⟨_, rfl⟩
    have l4 : p4.length = 64 := by rw [e4, List.length_set, l3]
    simp only [u8_of_wrap]
    have ep4 := u8av_put p3 9 (byteOf f.body.length) (by omega)
    unfold byteOf at ep4 e4
    rw [ep4, ← e4]
    refine draw_k hho (.take 0 (.take 1 (.take 2 (.take 3 (.alt 4 (.done) (.nil)))))) [0] [] (by decide +kernel) (by simp) ?_
    simp (maxSteps := 1000000) [roOf, holdOf, wrOf, altK, heldOk, Region.binds, l4, -List.reduceReplicate]
    have ec : u8av (List.take 10 p4) ++ (u8av (List.take 54 f.body) ++ u8av (List.drop (10 + min 54 f.body.length) p4)) = u8av (setB p4 10 f.body) := by
      unfold setB
      rw [l4, u8av_app, u8av_app, List.append_assoc, Nat.min_comm]
    intro E3
    rw [ec]
    obtain ⟨p5, e5⟩ : ∃ p5, p5 = setB p4 10 f.body := ⟨_, rfl⟩
    have l5 : p5.length = 64 := by rw [e5, setB_length _ _ _ (by omega), l4]
    rw [← e5]
    refine draw_k hho (.take 0 (.take 1 (.take 2 (.take 3 (.alt 4 (.done) (.nil)))))) [] [] (by decide +kernel) (by simp) ?_
    simp (maxSteps := 1000000) [roOf, holdOf, wrOf, altK, heldOk, Region.binds, l5, -List.reduceReplicate]
    intro E4
    have ee : u8av (List.take 56 p5) ++ (u8av (List.take 8 (List.take 8 p5)) ++ u8av (List.drop 64 p5)) = u8av (setB p5 56 (p5.take 8)) := by
      have : min (List.take 8 p5).length 8 = 8 := by simp [l5]
      unfold setB
      rw [l5, this, u8av_app, u8av_app, List.append_assoc]
    rw [ee]
    have e6 : p5 = frameP f := by rw [e5, e4, e3, e2, e1]; rfl
    refine Ret.sel [1] (fun _ => false) (ho := by rfl) (ha := by rfl) ?_ ?_ (by decide) (by simp) (by simp) ⟨?_, ?_⟩
    · simp
    · simp
    · rfl
    · rw [e6]; rfl
  · cases hfl : f.last
    · simp (maxSteps := 1000000) [slotsOf, frameA, hho, hfl, -List.reduceReplicate]
      refine cut_to () trivial ?_
      exact wk_all (by simp [hE, lens]) (by simp [frameA, e3, hfl]) (by simp [livH, livO, AV.livL, AV.liv, wkL, wkV, List.range', slotsOf])
    · simp (maxSteps := 1000000) [slotsOf, frameA, hho, hfl, l2, -List.reduceReplicate]
      refine cut_to () trivial ?_
      have ep3 := u8av_put p2 8 1 (by omega)
      exact wk_all (by simp [hE, lens]) (by simp [frameA, e3, hfl, ← ep3, u8_one]) (by simp [livH, livO, AV.livL, AV.liv, wkL, wkV, List.range', slotsOf])
end Go.Proofs.Ytmgpiminicgbiaa
