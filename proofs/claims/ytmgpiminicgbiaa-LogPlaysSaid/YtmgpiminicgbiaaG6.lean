import Derived.Test.YtmgpiminicgbiaaG5
import Derived.Test.YtmgpiminicgbiaaG4
namespace Go.Proofs.Ytmgpiminicgbiaa
set_option linter.unusedVariables false
set_option linter.unusedSimpArgs false
open Go.RowKit
attribute [local simp] isCut_nil isCut_region isCut_seq isCut_block isCut_loop isCut_cond isCut_skip isCut_exit isCut_ret isCut_range swapK putK altK condK_bool pickP_bool stepP stepO onPure_some onPure_none onImpl_some onImpl_none stepC onGP_some onGP_none onGV_some condG mkG onIt_it nextP_ptr takeP_eq takeV_some takeV_none takeU_some takeU_none takeQ takeW_some takeN_none takeN_some takeG_some takeO_some altO_some pureV binV2 eqF eqOp ovlV ovl2 rowAt capV binV intBin strBin isSh shV fldV ixV sliceV slice3V loadAV nilV lenV callV unV convV viewS cellsH loadV fldCut AV.ung AV.ungs AV.gc AV.cells AS.ev AS.put anyS gcsV gcO lens lnO gV guardV retK RetP_eq resV oneV anyRo loIx hiIx implO callP_clo evL gcsL clearV storeAV AS.push AS.setO appV appZ shortS copyV buildV partsV fillV srcV fzO okV isCell_c isCell_ptr isCell_sl isCell_fs isCell_fp isCell_clo rowZ_one rowZ_zero rowZ_2 rowZ_3 rowZ_4 rowZ_5 rowZ_6 rowZ_7 rowZ_8 rowZ_9 rowZ_10 rowZ_11 rowZ_12 noHo Value.oneCell' max2V min2V lookV updV updK updW cvals mkAt basV lenM msAt afterH putBack frzFrom frzO rebO backIx nilEq_sl nilEq_fs nilEq_ifn nilEq_ifh ifOp_eql ifOp_neq isLit nilOp_eql nilOp_neq AV.reb AV.rebL
attribute [local simp ↓] runK_skip runK_region runK_draw runK_seq runK_cut runK_cond runK_block runK_loop runK_exit runK_label runK_goto runK_ret runK_range contK_nil contK_seq contK_seq_ret contK_seq_exit contK_seq_goto contK_block contK_block_ret contK_block_goto contK_block_exit runO_nil runO_cons roundK_exit roundK_ret roundK_goto exitK_ret cutK_ret cutK_exit runE_done runE_nil runE_take runE_alt condG_true condG_false
set_option maxRecDepth 10000
/-! ## Numbers of so many bytes -/
def beB (v : Int) (size i : Nat) : UInt8 := UInt8.ofNat (IntKind.u8.wrap (v.fdiv (2 ^ (8 * (size - 1 - i))))).toNat
def putN (l : List UInt8) (off : Nat) (v : Int) (size i : Nat) : List UInt8 := l.take off ++ (List.range i).map (beB v size) ++ l.drop (off + i)
theorem putN_length (l : List UInt8) (off : Nat) (v : Int) (size i : Nat) (h : off + i ≤ l.length) : (putN l off v size i).length = l.length := by simp [putN]; omega
theorem putN_succ (l : List UInt8) (off : Nat) (v : Int) (size i : Nat) (h : off + i < l.length) : (putN l off v size i).set (off + i) (beB v size i) = putN l off v size (i + 1) := by
  have e : (l.take off ++ (List.range i).map (beB v size)).length = off + i := by simp; omega
  unfold putN
  rw [List.set_append_right _ _ (by rw [e]; exact Nat.le_refl _), e, Nat.sub_self, List.drop_eq_getElem_cons h, List.set_cons_zero, List.range_succ]
  simp [Nat.add_assoc]
theorem put_row (off n m : Nat) (v : Int) (size : Nat) (l : List UInt8) (hm : l.length = m) (h1 : off + n ≤ m) (h2 : size ≤ n) (h8 : size ≤ 8) : ACalls Try.prog 63 [.sl 0 1 off n m, .c (.int .i64 v), .c (.int .i64 size)] [.o (.row 5 1) (u8av l)] (fun _ => true) (fun r h' => r = .tup [] ∧ h' = [.o (.row 5 1) (u8av (putN l off v size size))]) := by
  refine acalls mixed Try.func63 rfl Try.ntmps63 rfl fun E hE _ hho => ?_
  simp (maxSteps := 1000000) [hho, -List.reduceReplicate]
  refine loop_k mixed (fun i : Nat => ⟨slotsOf 23 [(0, .sl 0 1 off n m), (1, .c (.int .i64 v)), (2, .c (.int .i64 size)), (7, .c (.int .i64 size)), (8, .c (.int .i64 (i : Int)))], [.o (.row 5 1) (u8av (putN l off v size i))]⟩) (fun i => size - i) (fun i => i ≤ size) 0 (Nat.zero_le _) ?_ ?_
  · exact wk_all (by simp [hE, lens]) (by simp [putN]) (by simp [livH, livO, AV.livL, AV.liv, wkL, wkV, List.range', slotsOf])
  · intro i hi
    by_cases his : i < size
    · have hl := putN_length l off v size i (by omega)
      obtain ⟨sh, hsh⟩ : ∃ sh, sh = 8 * (size - 1 - i) := ⟨_, rfl⟩
      have esh : IntKind.i64.wrap (8 * IntKind.i64.wrap (IntKind.i64.wrap ((size : Int) - 1) - i)) = (sh : Int) := by
        rw [IntWalk.i64_in ((size : Int) - 1) (by omega), IntWalk.i64_in ((size : Int) - 1 - i) (by omega), IntWalk.i64_in _ (by omega)]; omega
      have em : min sh IntKind.i64.bits = sh := by have : IntKind.i64.bits = 64 := rfl; omega
      have ew : IntKind.i64.wrap ((i : Int) + 1) = (i + 1 : Nat) := by rw [IntWalk.i64_in _ (by omega)]; rfl
      have hin : i < n := by omega
      have hom : off + i + 1 ≤ m := by omega
      simp (maxSteps := 1000000) [slotsOf, hho, his, hl, hm, esh, em, ew, hin, hom, -List.reduceReplicate]
      have eb : UInt8.ofNat (IntKind.u8.wrap (v.fdiv (2 ^ sh))).toNat = beB v size i := by rw [hsh]; rfl
      simp only [u8_of_wrap, eb]
      rw [u8av_put _ _ _ (by rw [hl]; omega), putN_succ _ _ _ _ _ (by omega)]
      exact round_next (i + 1) (by omega) (by omega) (wk_all (by simp [hE, lens]) (by simp) (by simp [livH, livO, AV.livL, AV.liv, wkL, wkV, List.range']))
    · obtain rfl : i = size := by omega
      simp (maxSteps := 1000000) [slotsOf, hho, -List.reduceReplicate]
      exact Ret.same ⟨rfl, rfl⟩
def getStep (u : Nat) (c : UInt8) : Nat := (u * 256 + c.toNat) % 18446744073709551616
def getU (l : List UInt8) : Nat := l.foldl getStep 0
theorem getU_snoc (l : List UInt8) (c : UInt8) : getU (l ++ [c]) = getStep (getU l) c := by simp [getU]
theorem get_or (u : Nat) (c : UInt8) : IntKind.u64.wrap ((((IntKind.u64.wrap ((u : Int) * 2 ^ min 8 IntKind.u64.bits) % 2 ^ IntKind.u64.bits).toNat ||| (IntKind.u64.wrap (c.toNat : Int) % 2 ^ IntKind.u64.bits).toNat : Nat) : Int)) = (getStep u c : Nat) := by
  have hc := c.toNat_lt
  have hb : IntKind.u64.bits = 64 := rfl
  have h8 : min 8 IntKind.u64.bits = 8 := rfl
  rw [h8, hb, IntKind.wrap_u64, IntKind.wrap_u64, IntKind.wrap_u64]
  have e1 : ((u : Int) * 2 ^ 8 % 18446744073709551616 % 2 ^ 64).toNat = 2 ^ 8 * (u % 72057594037927936) := by omega
  have e2 : ((c.toNat : Int) % 18446744073709551616 % 2 ^ 64).toNat = c.toNat := by omega
  rw [e1, e2, ← Nat.two_pow_add_eq_or_of_lt (by omega)]
  unfold getStep
  omega
theorem get_row (off n m size : Nat) (l : List UInt8) (hm : l.length = m) (h1 : off + n ≤ m) (h2 : size ≤ n) (h8 : size ≤ 8) (e : TypeId) : ACalls Try.prog 61 [.sl 0 1 off n m, .c (.int .i64 size)] [.o (.row e 1) (u8av l)] (fun _ => true) (fun r h' => r = .c (.int .i64 (IntKind.i64.wrap (getU ((l.drop off).take size)))) ∧ h' = [.o (.row e 1) (u8av l)]) := by
  refine acalls mixed Try.func61 rfl Try.ntmps61 rfl fun E hE _ hho => ?_
  simp (maxSteps := 1000000) [hho, hm, h2, -List.reduceReplicate]
  refine loop_k mixed (fun x : Nat => ⟨slotsOf 24 [(5, .c (.int .u64 (getU ((l.drop off).take x) : Nat))), (10, .sl 0 1 off size m), (11, .c (.int .i64 size)), (12, .c (.int .i64 (x : Int)))], [.o (.row e 1) (u8av l)]⟩) (fun i => size - i) (fun i => i ≤ size) 0 (Nat.zero_le _) ?_ ?_
  · exact wk_all (by simp [hE, lens]) (by simp) (by simp [livH, livO, AV.livL, AV.liv, wkL, wkV, List.range', slotsOf, getU])
  · intro i hi
    by_cases his : i < size
    · have hol : off + i < l.length := by omega
      have hom : off + i + 1 ≤ m := by omega
      have ew : IntKind.i64.wrap ((i : Int) + 1) = (i + 1 : Nat) := by rw [IntWalk.i64_in _ (by omega)]; rfl
      simp (maxSteps := 1000000) [slotsOf, hho, his, hm, hom, ew, u8av_drop0 l (off + i) hol, -List.reduceReplicate]
      rw [get_or, ← getU_snoc]
      have et : List.take i (List.drop off l) ++ [l[off + i]] = List.take (i + 1) (List.drop off l) := by
        rw [List.take_succ_eq_append_getElem (by simp; omega)]; simp
      rw [et]
      exact round_next (i + 1) (by omega) (by omega) (wk_all (by simp [hE, lens]) (by simp) (by simp [livH, livO, AV.livL, AV.liv, wkL, wkV, List.range']))
    · obtain rfl : i = size := by omega
      simp (maxSteps := 1000000) [slotsOf, hho, -List.reduceReplicate]
      exact Ret.same ⟨rfl, rfl⟩
end Go.Proofs.Ytmgpiminicgbiaa
namespace Go.Proofs.Ytmgpiminicgbiaa
set_option linter.unusedVariables false
set_option linter.unusedSimpArgs false
open Go.RowKit
attribute [local simp] isCut_nil isCut_region isCut_seq isCut_block isCut_loop isCut_cond isCut_skip isCut_exit isCut_ret isCut_range swapK putK altK condK_bool pickP_bool stepP stepO onPure_some onPure_none onImpl_some onImpl_none stepC onGP_some onGP_none onGV_some condG mkG onIt_it nextP_ptr takeP_eq takeV_some takeV_none takeU_some takeU_none takeQ takeW_some takeN_none takeN_some takeG_some takeO_some altO_some pureV binV2 eqF eqOp ovlV ovl2 rowAt capV binV intBin strBin isSh shV fldV ixV sliceV slice3V loadAV nilV lenV callV unV convV viewS cellsH loadV fldCut AV.ung AV.ungs AV.gc AV.cells AS.ev AS.put anyS gcsV gcO lens lnO gV guardV retK RetP_eq resV oneV anyRo loIx hiIx implO callP_clo evL gcsL clearV storeAV AS.push AS.setO appV appZ shortS copyV buildV partsV fillV srcV fzO okV isCell_c isCell_ptr isCell_sl isCell_fs isCell_fp isCell_clo rowZ_one rowZ_zero rowZ_2 rowZ_3 rowZ_4 rowZ_5 rowZ_6 rowZ_7 rowZ_8 rowZ_9 rowZ_10 rowZ_11 rowZ_12 noHo Value.oneCell' max2V min2V lookV updV updK updW cvals mkAt basV lenM msAt afterH putBack frzFrom frzO rebO backIx nilEq_sl nilEq_fs nilEq_ifn nilEq_ifh ifOp_eql ifOp_neq isLit nilOp_eql nilOp_neq AV.reb AV.rebL
attribute [local simp ↓] runK_skip runK_region runK_draw runK_seq runK_cut runK_cond runK_block runK_loop runK_exit runK_label runK_goto runK_ret runK_range contK_nil contK_seq contK_seq_ret contK_seq_exit contK_seq_goto contK_block contK_block_ret contK_block_goto contK_block_exit runO_nil runO_cons roundK_exit roundK_ret roundK_goto exitK_ret cutK_ret cutK_exit runE_done runE_nil runE_take runE_alt condG_true condG_false
set_option maxRecDepth 10000
structure HeadS where
  n : Int
  epoch : Int
  base : Int
  body : List UInt8
def headA (h : HeadS) : List AV := [.c (.int .i64 h.n), .c (.int .i64 h.epoch), .c (.int .i64 h.base), .fs 1 h.body.length (u8av h.body)]
def setB (l : List UInt8) (off : Nat) (b : List UInt8) : List UInt8 := l.take off ++ b.take (l.length - off) ++ l.drop (off + min b.length (l.length - off))
theorem setB_length (l : List UInt8) (off : Nat) (b : List UInt8) (h : off ≤ l.length) : (setB l off b).length = l.length := by
  simp [setB]; omega
def byteOf (n : Nat) : UInt8 := UInt8.ofNat (IntKind.u8.wrap n).toNat
def z64 : List UInt8 := List.replicate 64 0
theorem z64_length : z64.length = 64 := by simp [z64]
def headL (h : HeadS) : List UInt8 := putN (setB ((putN (putN (putN z64 0 h.n 8 8) 8 h.epoch 4 4) 12 h.base 4 4).set 16 (byteOf h.body.length)) 17 h.body) 56 h.n 8 8
theorem headL_length (h : HeadS) : (headL h).length = 64 := by
  unfold headL
  have h1 := putN_length z64 0 h.n 8 8 (by rw [z64_length]; decide)
  have h2 := putN_length (putN z64 0 h.n 8 8) 8 h.epoch 4 4 (by rw [h1, z64_length]; decide)
  have h3 := putN_length (putN (putN z64 0 h.n 8 8) 8 h.epoch 4 4) 12 h.base 4 4 (by rw [h2, h1, z64_length]; decide)
  have h4 := setB_length ((putN (putN (putN z64 0 h.n 8 8) 8 h.epoch 4 4) 12 h.base 4 4).set 16 (byteOf h.body.length)) 17 h.body (by rw [List.length_set, h3, h2, h1, z64_length]; decide)
  rw [putN_length _ _ _ _ _ (by rw [h4, List.length_set, h3, h2, h1, z64_length]; decide), h4, List.length_set, h3, h2, h1, z64_length]
theorem headSector_row (h : HeadS) (hb : h.body.length ≤ 1000000) : ACalls Try.prog 53 [.agg (headA h)] [] (fun _ => false) (fun r h' => r = .sl 0 1 0 64 64 ∧ h' = [.o (.row 5 1) (u8av (headL h))]) := by
  have l1 := putN_length z64 0 h.n 8 8 (by rw [z64_length]; decide)
  have l2 := putN_length (putN z64 0 h.n 8 8) 8 h.epoch 4 4 (by rw [l1, z64_length]; decide)
  have l3 := putN_length (putN (putN z64 0 h.n 8 8) 8 h.epoch 4 4) 12 h.base 4 4 (by rw [l2, l1, z64_length]; decide)
  rw [l2, l1, z64_length] at l3; rw [l1, z64_length] at l2; rw [z64_length] at l1
  obtain ⟨p1, e1⟩ : ∃ p1, p1 = putN z64 0 h.n 8 8 := ⟨_, rfl⟩
  obtain ⟨p2, e2⟩ : ∃ p2, p2 = putN p1 8 h.epoch 4 4 := ⟨_, rfl⟩
  obtain ⟨p3, e3⟩ : ∃ p3, p3 = putN p2 12 h.base 4 4 := ⟨_, rfl⟩
  rw [← e1] at l1 l2 l3; rw [← e2] at l2 l3; rw [← e3] at l3
  refine acalls mixed Try.func53 rfl Try.ntmps53 rfl fun E hE _ hho => ?_
  have hz : rowZ 64 [Value.int IntKind.u8 0] = u8av z64 := rfl
  simp (maxSteps := 1000000) [hho, headA, hz, -List.reduceReplicate]
  refine call_x [1] (put_row 0 64 64 h.n 8 z64 rfl (by decide) (by decide) (by decide)) rfl rfl ⟨rfl, rfl⟩ hho (by simp) (by decide) (by simp) (by simp) ?_
  rw [← e1]
  simp (maxSteps := 1000000) [hho, -List.reduceReplicate]
  refine draw_k hho (.take 0 (.take 1 (.take 2 (.take 3 (.alt 4 (.done) (.nil)))))) [0] [] (by decide +kernel) (by simp) ?_
  simp (maxSteps := 1000000) [roOf, holdOf, wrOf, altK, heldOk, Region.binds, l1, l2, l3, -List.reduceReplicate]
  intro E1
  refine call_h [1] (put_row 8 56 64 h.epoch 4 p1 l1 (by decide) (by decide) (by decide)) rfl rfl ⟨rfl, rfl⟩ (by simp) (by simp) (by decide) (by simp) (by simp) ?_
  rw [← e2]
  simp (maxSteps := 1000000) [hho, roOf, holdOf, wrOf, altK, heldOk, Region.binds, l1, l2, l3, -List.reduceReplicate]
  refine draw_k hho (.take 0 (.take 1 (.take 2 (.take 3 (.alt 4 (.done) (.nil)))))) [0] [] (by decide +kernel) (by simp) ?_
  simp (maxSteps := 1000000) [roOf, holdOf, wrOf, altK, heldOk, Region.binds, l1, l2, l3, -List.reduceReplicate]
  intro E2
  refine call_h [1] (put_row 12 52 64 h.base 4 p2 l2 (by decide) (by decide) (by decide)) rfl rfl ⟨rfl, rfl⟩ (by simp) (by simp) (by decide) (by simp) (by simp) ?_
  rw [← e3]
  simp (maxSteps := 1000000) [hho, roOf, holdOf, wrOf, altK, heldOk, Region.binds, l1, l2, l3, -List.reduceReplicate]
  obtain ⟨p4, e4⟩ : ∃ p4, p4 = p3.set 16 (byteOf h.body.length) := ⟨_, rfl⟩
  have l4 : p4.length = 64 := by rw [e4, List.length_set, l3]
  simp only [u8_of_wrap]
  have ep4 := u8av_put p3 16 (byteOf h.body.length) (by omega)
  unfold byteOf at ep4 e4
  rw [ep4, ← e4]
  refine draw_k hho (.take 0 (.take 1 (.take 2 (.take 3 (.alt 4 (.done) (.nil)))))) [0] [] (by decide +kernel) (by simp) ?_
  simp (maxSteps := 1000000) [roOf, holdOf, wrOf, altK, heldOk, Region.binds, l1, l2, l3, l4, -List.reduceReplicate]
  have ec : u8av (List.take 17 p4) ++ (u8av (List.take 47 h.body) ++ u8av (List.drop (17 + min 47 h.body.length) p4)) = u8av (setB p4 17 h.body) := by
    unfold setB
    rw [l4, u8av_app, u8av_app, List.append_assoc, Nat.min_comm]
  intro E3
  rw [ec]
  obtain ⟨p5, e5⟩ : ∃ p5, p5 = setB p4 17 h.body := ⟨_, rfl⟩
  have l5 : p5.length = 64 := by rw [e5, setB_length _ _ _ (by omega), l4]
  rw [← e5]
  refine draw_k hho (.take 0 (.take 1 (.take 2 (.take 3 (.alt 4 (.done) (.nil)))))) [0] [] (by decide +kernel) (by simp) ?_
  simp (maxSteps := 1000000) [roOf, holdOf, wrOf, altK, heldOk, Region.binds, l5, -List.reduceReplicate]
  intro E4
  refine call_h [1] (put_row 56 8 64 h.n 8 p5 l5 (by decide) (by decide) (by decide)) rfl rfl ⟨rfl, rfl⟩ (by simp) (by simp) (by decide) (by simp) (by simp) ?_
  obtain ⟨p6, e6⟩ : ∃ p6, p6 = putN p5 56 h.n 8 8 := ⟨_, rfl⟩
  have l6 : p6.length = 64 := by rw [e6, putN_length _ _ _ _ _ (by omega), l5]
  rw [← e6]
  simp (maxSteps := 1000000) [hho, roOf, holdOf, wrOf, altK, heldOk, Region.binds, l5, l6, -List.reduceReplicate]
  refine Ret.sel [1] (fun _ => false) (ho := by rfl) (ha := by rfl) ?_ ?_ (by decide) (by simp) (by simp) ⟨?_, ?_⟩
  · simp
  · simp
  · rfl
  · have : p6 = headL h := by
      rw [e6, e5, e4, e3, e2, e1]; rfl
    rw [this]
structure FrameS where
  epoch : Int
  k : Int
  last : Bool
  body : List UInt8
def frameA (f : FrameS) : List AV := [.c (.int .i64 f.epoch), .c (.int .i64 f.k), .c (.bool f.last), .fs 1 f.body.length (u8av f.body)]
def frameP (f : FrameS) : List UInt8 := setB (((if f.last then (putN (putN z64 0 f.epoch 4 4) 4 f.k 4 4).set 8 1 else putN (putN z64 0 f.epoch 4 4) 4 f.k 4 4)).set 9 (byteOf f.body.length)) 10 f.body
def frameL (f : FrameS) : List UInt8 := setB (frameP f) 56 ((frameP f).take 8)
theorem frameP_length (f : FrameS) : (frameP f).length = 64 := by
  unfold frameP
  have l1 := putN_length z64 0 f.epoch 4 4 (by rw [z64_length]; decide)
  have l2 := putN_length (putN z64 0 f.epoch 4 4) 4 f.k 4 4 (by rw [l1, z64_length]; decide)
  rw [l1, z64_length] at l2
  have l3 : (if f.last then (putN (putN z64 0 f.epoch 4 4) 4 f.k 4 4).set 8 1 else putN (putN z64 0 f.epoch 4 4) 4 f.k 4 4).length = 64 := by split <;> simp [l2]
  rw [setB_length _ _ _ (by rw [List.length_set, l3]; decide), List.length_set, l3]
theorem frameL_length (f : FrameS) : (frameL f).length = 64 := by
  unfold frameL; rw [setB_length _ _ _ (by rw [frameP_length]; decide), frameP_length]
theorem u8_one : Value.int .u8 1 = u8 1 := rfl
theorem frameSector_row (f : FrameS) (hb : f.body.length ≤ 1000000) : ACalls Try.prog 56 [.agg (frameA f)] [] (fun _ => false) (fun r h' => r = .sl 0 1 0 64 64 ∧ h' = [.o (.row 5 1) (u8av (frameL f))]) := by
  have l1 := putN_length z64 0 f.epoch 4 4 (by rw [z64_length]; decide)
  have l2 := putN_length (putN z64 0 f.epoch 4 4) 4 f.k 4 4 (by rw [l1, z64_length]; decide)
  rw [l1, z64_length] at l2; rw [z64_length] at l1
  obtain ⟨p1, e1⟩ : ∃ p1, p1 = putN z64 0 f.epoch 4 4 := ⟨_, rfl⟩
  obtain ⟨p2, e2⟩ : ∃ p2, p2 = putN p1 4 f.k 4 4 := ⟨_, rfl⟩
  rw [← e1] at l1 l2; rw [← e2] at l2
  refine acallsC [6] mixed Try.func56 rfl Try.ntmps56 rfl fun E hE _ hho => ?_
  have hz : rowZ 64 [Value.int IntKind.u8 0] = u8av z64 := rfl
  simp (maxSteps := 1000000) [hho, frameA, hz, -List.reduceReplicate]
  refine call_x [1] (put_row 0 64 64 f.epoch 4 z64 rfl (by decide) (by decide) (by decide)) rfl rfl ⟨rfl, rfl⟩ hho (by simp) (by decide) (by simp) (by simp) ?_
  rw [← e1]
  simp (maxSteps := 1000000) [hho, -List.reduceReplicate]
  refine draw_k hho (.take 0 (.take 1 (.take 2 (.take 3 (.alt 4 (.done) (.nil)))))) [0] [] (by decide +kernel) (by simp) ?_
  simp (maxSteps := 1000000) [roOf, holdOf, wrOf, altK, heldOk, Region.binds, l1, -List.reduceReplicate]
  intro E1
  refine call_h [1] (put_row 4 60 64 f.k 4 p1 l1 (by decide) (by decide) (by decide)) rfl rfl ⟨rfl, rfl⟩ (by simp) (by simp) (by decide) (by simp) (by simp) ?_
  rw [← e2]
  obtain ⟨p3, e3⟩ : ∃ p3, p3 = if f.last then p2.set 8 1 else p2 := ⟨_, rfl⟩
  have l3 : p3.length = 64 := by rw [e3]; split <;> simp [l2]
  simp (maxSteps := 1000000) [hho, roOf, holdOf, wrOf, altK, heldOk, Region.binds, l1, l2, -List.reduceReplicate]
  refine seq_cut mixed [] (fun _ : Unit => ⟨slotsOf 35 [(1, .ptr 0 0 4), (3, .sl 1 1 0 64 64)], [.o .box (frameA f), .o (.row 5 1) (u8av p3)]⟩) (fun _ => True) ?_ ?_
  · rintro _ _
    simp (maxSteps := 1000000) [slotsOf, frameA, hho, l3, -List.reduceReplicate]
    obtain ⟨p4, e4⟩ : ∃ p4, p4 = p3.set 9 (byteOf f.body.length) := ⟨_, rfl⟩
    have l4 : p4.length = 64 := by rw [e4, List.length_set, l3]
    simp only [u8_of_wrap]
    have ep4 := u8av_put p3 9 (byteOf f.body.length) (by omega)
    unfold byteOf at ep4 e4
    rw [ep4, ← e4]
    refine draw_k hho (.take 0 (.take 1 (.take 2 (.take 3 (.alt 4 (.done) (.nil)))))) [0] [] (by decide +kernel) (by simp) ?_
    simp (maxSteps := 1000000) [roOf, holdOf, wrOf, altK, heldOk, Region.binds, l4, -List.reduceReplicate]
    have ec : u8av (List.take 10 p4) ++ (u8av (List.take 54 f.body) ++ u8av (List.drop (10 + min 54 f.body.length) p4)) = u8av (setB p4 10 f.body) := by
      unfold setB
      rw [l4, u8av_app, u8av_app, List.append_assoc, Nat.min_comm]
    intro E3
    rw [ec]
    obtain ⟨p5, e5⟩ : ∃ p5, p5 = setB p4 10 f.body := ⟨_, rfl⟩
    have l5 : p5.length = 64 := by rw [e5, setB_length _ _ _ (by omega), l4]
    rw [← e5]
    refine draw_k hho (.take 0 (.take 1 (.take 2 (.take 3 (.alt 4 (.done) (.nil)))))) [] [] (by decide +kernel) (by simp) ?_
    simp (maxSteps := 1000000) [roOf, holdOf, wrOf, altK, heldOk, Region.binds, l5, -List.reduceReplicate]
    intro E4
    have ee : u8av (List.take 56 p5) ++ (u8av (List.take 8 (List.take 8 p5)) ++ u8av (List.drop 64 p5)) = u8av (setB p5 56 (p5.take 8)) := by
      have : min (List.take 8 p5).length 8 = 8 := by simp [l5]
      unfold setB
      rw [l5, this, u8av_app, u8av_app, List.append_assoc]
    rw [ee]
    have e6 : p5 = frameP f := by rw [e5, e4, e3, e2, e1]; rfl
    refine Ret.sel [1] (fun _ => false) (ho := by rfl) (ha := by rfl) ?_ ?_ (by decide) (by simp) (by simp) ⟨?_, ?_⟩
    · simp
    · simp
    · rfl
    · rw [e6]; rfl
  · cases hfl : f.last
    · simp (maxSteps := 1000000) [slotsOf, frameA, hho, hfl, -List.reduceReplicate]
      refine cut_to () trivial ?_
      exact wk_all (by simp [hE, lens]) (by simp [frameA, e3, hfl]) (by simp [livH, livO, AV.livL, AV.liv, wkL, wkV, List.range', slotsOf])
    · simp (maxSteps := 1000000) [slotsOf, frameA, hho, hfl, l2, -List.reduceReplicate]
      refine cut_to () trivial ?_
      have ep3 := u8av_put p2 8 1 (by omega)
      exact wk_all (by simp [hE, lens]) (by simp [frameA, e3, hfl, ← ep3, u8_one]) (by simp [livH, livO, AV.livL, AV.liv, wkL, wkV, List.range', slotsOf])
end Go.Proofs.Ytmgpiminicgbiaa
namespace Go.Proofs.Ytmgpiminicgbiaa
set_option linter.unusedVariables false
set_option linter.unusedSimpArgs false
open Go.RowKit
attribute [local simp] isCut_nil isCut_region isCut_seq isCut_block isCut_loop isCut_cond isCut_skip isCut_exit isCut_ret isCut_range swapK putK altK condK_bool pickP_bool stepP stepO onPure_some onPure_none onImpl_some onImpl_none stepC onGP_some onGP_none onGV_some condG mkG onIt_it nextP_ptr takeP_eq takeV_some takeV_none takeU_some takeU_none takeQ takeW_some takeN_none takeN_some takeG_some takeO_some altO_some pureV binV2 eqF eqOp ovlV ovl2 rowAt capV binV intBin strBin isSh shV fldV ixV sliceV slice3V loadAV nilV lenV callV unV convV viewS cellsH loadV fldCut AV.ung AV.ungs AV.gc AV.cells AS.ev AS.put anyS gcsV gcO lens lnO gV guardV retK RetP_eq resV oneV anyRo loIx hiIx implO callP_clo evL gcsL clearV storeAV AS.push AS.setO appV appZ shortS copyV buildV partsV fillV srcV fzO okV isCell_c isCell_ptr isCell_sl isCell_fs isCell_fp isCell_clo rowZ_one rowZ_zero rowZ_2 rowZ_3 rowZ_4 rowZ_5 rowZ_6 rowZ_7 rowZ_8 rowZ_9 rowZ_10 rowZ_11 rowZ_12 noHo Value.oneCell' max2V min2V lookV updV updK updW cvals mkAt basV lenM msAt afterH putBack frzFrom frzO rebO backIx nilEq_sl nilEq_fs nilEq_ifn nilEq_ifh ifOp_eql ifOp_neq isLit nilOp_eql nilOp_neq AV.reb AV.rebL
attribute [local simp ↓] runK_skip runK_region runK_draw runK_seq runK_cut runK_cond runK_block runK_loop runK_exit runK_label runK_goto runK_ret runK_range contK_nil contK_seq contK_seq_ret contK_seq_exit contK_seq_goto contK_block contK_block_ret contK_block_goto contK_block_exit runO_nil runO_cons roundK_exit roundK_ret roundK_goto exitK_ret cutK_ret cutK_exit runE_done runE_nil runE_take runE_alt condG_true condG_false
set_option maxRecDepth 10000
def getI (l : List UInt8) (off size : Nat) : Int := IntKind.i64.wrap (getU ((l.drop off).take size))
def at8 (l : List UInt8) (k : Nat) : UInt8 := (l[k]?).getD 0
/-- the head of a sector, if it counts -/
def parseH (l : List UInt8) (i : Int) : Option HeadS :=
  if getI l 56 8 ≠ getI l 0 8 ∨ getI l 0 8 ≤ 0 ∨ 4611686018427387904 ≤ getI l 0 8 ∨ (getI l 0 8).tmod 2 ≠ i ∨ 32 < (at8 l 16).toNat ∨ getI l 8 4 < getI l 12 4 then none
  else some ⟨getI l 0 8, getI l 8 4, getI l 12 4, (l.drop 17).take (at8 l 16).toNat⟩
def head0 : List AV := [.c (.int .i64 0), .c (.int .i64 0), .c (.int .i64 0), .c (.slice none 0 0)]
def parseR : Option HeadS → AV
  | some h => .tup [.agg (headA h), .c (.bool true)]
  | none => .tup [.agg head0, .c (.bool false)]
theorem u8av_drop0' (l : List UInt8) (k : Nat) (hk : k < l.length) : (u8av (List.drop k l))[0]? = some (AV.c (.int .u8 ((at8 l k).toNat))) := by
  rw [u8av_drop0 l k hk, at8, List.getElem?_eq_getElem hk]; rfl
theorem u8av_drop_get (l : List UInt8) (k : Nat) (h : 0 < (u8av (List.drop k l)).length) : (u8av (List.drop k l))[0] = AV.c (.int .u8 ((at8 l k).toNat)) := by
  have hk : k < l.length := by simp at h; omega
  have := u8av_drop0' l k hk
  rw [List.getElem?_eq_getElem h] at this
  injection this
theorem clone8_sl (l : List UInt8) (off n m : Nat) (e : TypeId) (hl : l.length = m) (h1 : off + n ≤ m) (hm : 0 < m) (hm2 : m ≤ 1000000000) : ACalls Try.prog 37 [.sl 0 1 off n m] [.o (.row e 1) (u8av l)] (fun _ => true) (fun r h' => r = .sl 1 1 0 n n ∧ h' = [.o (.row e 1) (u8av l), .o (.row 5 1) (u8av ((l.drop off).take n))]) := by
  refine acalls mixed Try.func37 rfl Try.ntmps37 rfl fun E hE _ hho => ?_
  have hm0 : ¬ m = 0 := by omega
  simp (maxSteps := 1000000) [hho, noHo, hl, hm0, h1, -List.reduceReplicate]
  exact ⟨by omega, Ret.same ⟨rfl, rfl⟩⟩
theorem st_0 {l : List Nat} {n : Nat} : ∀ i, i < n → decide (i = 0) = true → (0 :: l)[i]? = some i := by
  intro i _ h
  obtain rfl : i = 0 := by simpa using h
  rfl
set_option maxHeartbeats 2000000 in
theorem parse_row (l : List UInt8) (hl : l.length = 64) (i : Int) (e : TypeId) : ACalls Try.prog 51 [.sl 0 1 0 64 64, .c (.int .i64 i)] [.o (.row e 1) (u8av l)] (fun k => decide (k < 1)) (fun r h' => r = parseR (parseH l i) ∧ h' = [.o (.row e 1) (u8av l)]) := by
  refine acallsC [2] mixed Try.func51 rfl Try.ntmps51 rfl fun E hE _ hho => ?_
  simp (maxSteps := 1000000) [hho, -List.reduceReplicate]
  refine seq_cut mixed [] (fun _ : Unit => ⟨slotsOf 63 [(0, .sl 0 1 0 64 64), (1, .c (.int .i64 i)), (4, .ptr 1 0 4), (6, .ptr 2 0 4)], [.o (.row e 1) (u8av l), .o .box head0, .o .box [.c (.int .i64 (getI l 0 8)), .c (.int .i64 (getI l 8 4)), .c (.int .i64 (getI l 12 4)), .c (.slice none 0 0)]]⟩) (fun _ => True) ?_ ?_
  · rintro _ _
    simp (maxSteps := 1000000) [slotsOf, head0, hho, hl, u8av_drop_get, -List.reduceReplicate]
    have ez : IntKind.i64.wrap ((at8 l 16).toNat : Int) = (at8 l 16).toNat := IntWalk.i64_in _ (by have := (at8 l 16).toNat_lt; omega)
    rw [ez]
    refine draw_k hho (.take 0 (.take 1 (.take 3 (.take 4 (.alt 2 (.take 5 (.take 6 (.take 7 (.take 8 (.take 9 (.take 10 (.take 11 (.take 12 (.take 13 (.take 14 (.take 15 (.take 16 (.take 17 (.take 18 (.take 19 (.take 20 (.take 21 (.take 22 (.take 23 (.take 24 (.take 25 (.take 26 (.take 27 (.take 28 (.take 29 (.take 30 (.take 31 (.take 32 (.take 33 (.done)))))))))))))))))))))))))))))) (.nil)))))) [2] [] (by decide +kernel) (by simp) ?_
    simp (maxSteps := 1000000) [roOf, holdOf, wrOf, altK, heldOk, Region.binds, hl, -List.reduceReplicate]
    intro E1
    refine call_h [0] (get_row 56 8 64 8 l hl (by decide) (by decide) (by decide) e) rfl rfl ⟨rfl, rfl⟩ (by simp) (by simp) (by decide) (by simp) (by simp) ?_
    have eg : IntKind.i64.wrap (getU (List.take 8 (List.drop 56 l))) = getI l 56 8 := rfl
    rw [eg]
    obtain ⟨n0, hn0⟩ : ∃ n0, n0 = getI l 0 8 := ⟨_, rfl⟩
    obtain ⟨n1, hn1⟩ : ∃ n0, n0 = getI l 56 8 := ⟨_, rfl⟩
    obtain ⟨ep, hep⟩ : ∃ n0, n0 = getI l 8 4 := ⟨_, rfl⟩
    obtain ⟨bs, hbs⟩ : ∃ n0, n0 = getI l 12 4 := ⟨_, rfl⟩
    obtain ⟨sz, hsz⟩ : ∃ n0, n0 = (at8 l 16).toNat := ⟨_, rfl⟩
    rw [← hn0, ← hn1, ← hep, ← hbs, ← hsz]
    by_cases hc : n1 ≠ n0 ∨ n0 ≤ 0 ∨ 4611686018427387904 ≤ n0 ∨ n0.tmod 2 ≠ i ∨ 32 < sz ∨ ep < bs
    · have hP : parseH l i = none := by unfold parseH; rw [← hn0, ← hn1, ← hep, ← hbs, ← hsz, if_pos hc]
      rw [hP]
      have hc' : ((((¬ n1 = n0 ∨ n0 ≤ 0) ∨ 4611686018427387904 ≤ n0) ∨ ¬ n0.tmod 2 = i) ∨ 32 < (sz : Int)) ∨ ep < bs := by omega
      simp (maxSteps := 1000000) [hho, roOf, holdOf, wrOf, altK, heldOk, Region.binds, hl, hc', -List.reduceReplicate]
      refine Ret.sel [0] (fun _ => false) (ho := by rfl) (ha := by rfl) ?_ ?_ (by decide) (by simp) st_0 ⟨?_, ?_⟩
      · simp
      · simp
      · rfl
      · rfl
    · have hP : parseH l i = some ⟨n0, ep, bs, (l.drop 17).take sz⟩ := by unfold parseH; rw [← hn0, ← hn1, ← hep, ← hbs, ← hsz, if_neg hc]
      rw [hP]
      have hc' : ¬ (((((¬ n1 = n0 ∨ n0 ≤ 0) ∨ 4611686018427387904 ≤ n0) ∨ ¬ n0.tmod 2 = i) ∨ 32 < (sz : Int)) ∨ ep < bs) := by omega
      have ez2 : IntKind.i64.wrap (17 + (sz : Int)) = (17 + sz : Nat) := by rw [IntWalk.i64_in _ (by omega)]; rfl
      simp (maxSteps := 1000000) [hho, roOf, holdOf, wrOf, altK, heldOk, Region.binds, hl, hc', ez2, -List.reduceReplicate]
      have en : (17 + (sz : Int)).toNat - 17 = sz := by omega
      rw [en]
      refine ⟨by omega, ?_⟩
      refine call_x [0] (clone8_sl l 17 sz 64 e hl (by omega) (by decide) (by decide)) rfl rfl ⟨rfl, rfl⟩ hho (by simp) (by decide) (by simp) (by simp) ?_
      simp (maxSteps := 1000000) [hho, hl, -List.reduceReplicate]
      have hbl : (List.take sz (List.drop 17 l)).length = sz := by simp [hl]; omega
      refine Ret.sel [0] (fun k => k == 3) (ho := by rfl) (ha := by rfl) ?_ ?_ (by decide) (by simp) st_0 ⟨?_, ?_⟩
      · simp
      · simp [hl, maxLen]; omega
      · simp only [parseR, headA, hbl]
        have ef : List.take (sz * 1) (List.drop 0 (u8av (List.take sz (List.drop 17 l)))) = u8av (List.take sz (List.drop 17 l)) := by rw [Nat.mul_one, List.drop_zero, List.take_of_length_le (by rw [u8av_length, hbl]; exact Nat.le_refl _)]
        rw [ef]
      · rfl
  · simp (maxSteps := 1000000) [hho, -List.reduceReplicate]
    refine draw_k hho (.take 0 (.take 2 (.take 3 (.take 5 (.take 6 (.alt 1 (.alt 4 (.alt 7 (.take 8 (.alt 9 (.alt 10 (.done) (.nil)) (.nil))) (.alt 9 (.alt 7 (.take 8 (.alt 10 (.done) (.nil))) (.nil)) (.nil))) (.alt 9 (.alt 4 (.alt 7 (.take 8 (.alt 10 (.done) (.nil))) (.nil)) (.nil)) (.nil))) (.alt 9 (.alt 1 (.alt 4 (.alt 7 (.take 8 (.alt 10 (.done) (.nil))) (.nil)) (.nil)) (.nil)) (.nil)))))))) [] [] (by decide +kernel) (by simp) ?_
    simp (maxSteps := 1000000) [roOf, holdOf, wrOf, altK, heldOk, Region.binds, hl, -List.reduceReplicate]
    have g1 := get_row 0 64 64 8 l hl (by decide) (by decide) (by decide) e
    have g2 := get_row 8 56 64 4 l hl (by decide) (by decide) (by decide) e
    have g3 := get_row 12 52 64 4 l hl (by decide) (by decide) (by decide) e
    repeat' (first
      | (refine cut_to () trivial ?_; exact wk_all (by simp [hE, lens]) (by simp [head0, getI]) (by simp [livH, livO, AV.livL, AV.liv, wkL, wkV, List.range', slotsOf]))
      | apply And.intro
      | (intro E1; refine call_h [0] g1 rfl rfl ⟨rfl, rfl⟩ (by simp) (by simp) (by decide) (by simp) (by simp) ?_; simp (maxSteps := 1000000) [roOf, holdOf, wrOf, altK, heldOk, Region.binds, hl, -List.reduceReplicate])
      | (intro E1; refine call_h [0] g2 rfl rfl ⟨rfl, rfl⟩ (by simp) (by simp) (by decide) (by simp) (by simp) ?_; simp (maxSteps := 1000000) [roOf, holdOf, wrOf, altK, heldOk, Region.binds, hl, -List.reduceReplicate])
      | (intro E1; refine call_h [0] g3 rfl rfl ⟨rfl, rfl⟩ (by simp) (by simp) (by decide) (by simp) (by simp) ?_; simp (maxSteps := 1000000) [roOf, holdOf, wrOf, altK, heldOk, Region.binds, hl, -List.reduceReplicate])
      | intro E1)
/-! ## A frame -/
def frame0 : List AV := [.c (.int .i64 0), .c (.int .i64 0), .c (.bool false), .c (.slice none 0 0)]
/-- the frame of a sector, if it is one of that number -/
def unframeF (l : List UInt8) (k : Int) : Option FrameS :=
  if l.take 8 ≠ l.drop 56 ∨ getI l 4 4 ≠ k ∨ 1 < (at8 l 8).toNat ∨ 46 < (at8 l 9).toNat ∨ getI l 0 4 < 1 then none
  else some ⟨getI l 0 4, getI l 4 4, decide ((at8 l 8).toNat = 1), (l.drop 10).take (at8 l 9).toNat⟩
def unframeR : Option FrameS → AV
  | some f => .tup [.agg (frameA f), .c (.bool true)]
  | none => .tup [.agg frame0, .c (.bool false)]
theorem equal8_row (l : List UInt8) (a b n m : Nat) (e : TypeId) (hl : l.length = m) (h1 : a + n ≤ m) (h2 : b + n ≤ m) (hm : m ≤ 1000000) : ACalls Try.prog 62 [.sl 0 1 a n m, .sl 0 1 b n m] [.o (.row e 1) (u8av l)] (fun _ => true) (fun r h' => r = .c (.bool (decide ((l.drop a).take n = (l.drop b).take n))) ∧ h' = [.o (.row e 1) (u8av l)]) := by
  refine acalls mixed Try.func62 rfl Try.ntmps62 rfl fun E hE _ hho => ?_
  simp (maxSteps := 1000000) [hho, hl, -List.reduceReplicate]
  refine loop_k mixed (fun i : Nat => ⟨slotsOf 26 [(0, .sl 0 1 a n m), (1, .sl 0 1 b n m), (12, .c (.int .i64 n)), (13, .c (.int .i64 (i : Int)))], [.o (.row e 1) (u8av l)]⟩) (fun i => n - i) (fun i => i ≤ n ∧ ∀ p, p < i → l[a + p]? = l[b + p]?) 0 ⟨Nat.zero_le _, fun p hp => by omega⟩ ?_ ?_
  · exact wk_all (by simp [hE, lens]) (by simp) (by simp [livH, livO, AV.livL, AV.liv, wkL, wkV, List.range', slotsOf])
  · rintro i ⟨hi, hI⟩
    by_cases hin : i < n
    · have ew : IntKind.i64.wrap ((i : Int) + 1) = (i + 1 : Nat) := by rw [IntWalk.i64_in _ (by omega)]; rfl
      have ha : a + i + 1 ≤ m := by omega
      have hb : b + i + 1 ≤ m := by omega
      simp (maxSteps := 1000000) [slotsOf, hho, hin, hl, -List.reduceReplicate]
      refine draw_k hho (.take 0 (.take 1 (.take 2 (.take 3 (.take 4 (.take 5 (.take 6 (.take 7 (.take 8 (.done)))))))))) [0] [] (by decide +kernel) (by simp) ?_
      simp (maxSteps := 1000000) [hho, roOf, holdOf, wrOf, altK, heldOk, Region.binds, hl, hin, ha, hb, u8av_drop0' l (a + i) (by omega), u8av_drop0' l (b + i) (by omega), -List.reduceReplicate]
      have hga : l[a + i]? = some (at8 l (a + i)) := by rw [at8, List.getElem?_eq_getElem (by omega)]; rfl
      have hgb : l[b + i]? = some (at8 l (b + i)) := by rw [at8, List.getElem?_eq_getElem (by omega)]; rfl
      by_cases heq : at8 l (a + i) = at8 l (b + i)
      · simp (maxSteps := 1000000) [hho, heq, ew, -List.reduceReplicate]
        refine round_next (i + 1) ⟨by omega, fun p hp => ?_⟩ (by omega) (wk_all (by simp [hE, lens]) (by simp) (by simp [livH, livO, AV.livL, AV.liv, wkL, wkV, List.range', slotsOf]))
        rcases Nat.lt_or_ge p i with h | h
        · exact hI p h
        · obtain rfl : p = i := by omega
          rw [hga, hgb, heq]
      · have hne : ¬ ((at8 l (a + i)).toNat : Int) = ((at8 l (b + i)).toNat : Int) := fun h => heq (UInt8.toNat_inj.1 (by omega))
        simp (maxSteps := 1000000) [hho, hne, -List.reduceReplicate]
        refine Ret.same ⟨?_, rfl⟩
        have : ¬ (List.take n (List.drop a l) = List.take n (List.drop b l)) := fun h => by
          have h := congrArg (fun x => x[i]?) h
          simp only [List.getElem?_take, if_pos hin, List.getElem?_drop] at h
          rw [hga, hgb] at h
          injection h with h
          exact heq h
        simp [this]
    · obtain rfl : i = n := by omega
      simp (maxSteps := 1000000) [slotsOf, hho, -List.reduceReplicate]
      refine Ret.same ⟨?_, rfl⟩
      have : List.take i (List.drop a l) = List.take i (List.drop b l) := by
        apply List.ext_getElem?
        intro p
        rw [List.getElem?_take, List.getElem?_take]
        split
        · rw [List.getElem?_drop, List.getElem?_drop]; exact hI p (by assumption)
        · rfl
      simp [this]
set_option maxHeartbeats 2000000 in
theorem unframe_row (l : List UInt8) (hl : l.length = 64) (k : Int) (e : TypeId) : ACalls Try.prog 52 [.sl 0 1 0 64 64, .c (.int .i64 k)] [.o (.row e 1) (u8av l)] (fun k => decide (k < 1)) (fun r h' => r = unframeR (unframeF l k) ∧ h' = [.o (.row e 1) (u8av l)]) := by
  refine acallsC [2] mixed Try.func52 rfl Try.ntmps52 rfl fun E hE _ hho => ?_
  simp (maxSteps := 1000000) [hho, -List.reduceReplicate]
  refine seq_cut mixed [] (fun _ : Unit => ⟨slotsOf 57 [(0, .sl 0 1 0 64 64), (1, .c (.int .i64 k)), (4, .ptr 1 0 4), (6, .ptr 2 0 4)], [.o (.row e 1) (u8av l), .o .box frame0, .o .box [.c (.int .i64 (getI l 0 4)), .c (.int .i64 (getI l 4 4)), .c (.bool (decide ((at8 l 8).toNat = 1))), .c (.slice none 0 0)]]⟩) (fun _ => True) ?_ ?_
  · rintro _ _
    simp (maxSteps := 1000000) [slotsOf, frame0, hho, hl, u8av_drop_get, -List.reduceReplicate]
    have ez : IntKind.i64.wrap ((at8 l 9).toNat : Int) = (at8 l 9).toNat := IntWalk.i64_in _ (by have := (at8 l 9).toNat_lt; omega)
    rw [ez]
    refine draw_k hho (.take 0 (.take 1 (.take 2 (.take 3 (.alt 4 (.take 5 (.take 6 (.take 7 (.take 9 (.alt 8 (.take 10 (.take 11 (.take 12 (.take 13 (.take 14 (.alt 15 (.take 16 (.take 17 (.take 18 (.take 19 (.take 20 (.take 21 (.take 22 (.take 23 (.alt 24 (.take 25 (.take 26 (.done))) (.nil)))))))))) (.nil))))))) (.nil)))))) (.nil)))))) [] [] (by decide +kernel) (by simp) ?_
    simp (maxSteps := 1000000) [roOf, holdOf, wrOf, altK, heldOk, Region.binds, hl, -List.reduceReplicate]
    intro E1
    refine call_h [0] (equal8_row l 0 56 8 64 e hl (by decide) (by decide) (by decide)) rfl rfl ⟨rfl, rfl⟩ (by simp) (by simp) (by decide) (by simp) (by simp) ?_
    have e8 : List.take 8 (List.drop 56 l) = l.drop 56 := List.take_of_length_le (by simp [hl])
    have e9 : List.take 8 (List.drop 0 l) = l.take 8 := rfl
    rw [e8, e9]
    obtain ⟨eq, heq⟩ : ∃ eq, eq = decide (l.take 8 = l.drop 56) := ⟨_, rfl⟩
    rw [← heq]
    obtain ⟨kk, hkk⟩ : ∃ n0, n0 = getI l 4 4 := ⟨_, rfl⟩
    obtain ⟨ep, hep⟩ : ∃ n0, n0 = getI l 0 4 := ⟨_, rfl⟩
    obtain ⟨lb, hlb⟩ : ∃ n0, n0 = (at8 l 8).toNat := ⟨_, rfl⟩
    obtain ⟨sz, hsz⟩ : ∃ n0, n0 = (at8 l 9).toNat := ⟨_, rfl⟩
    rw [← hkk, ← hep, ← hlb, ← hsz]
    simp (maxSteps := 1000000) [hho, roOf, holdOf, wrOf, altK, heldOk, Region.binds, hl, u8av_drop_get, ← hlb, ← hsz, -List.reduceReplicate]
    intro E2 E3 E4
    have heqf : eq = false ↔ l.take 8 ≠ l.drop 56 := by rw [heq]; simp
    by_cases hc : (((eq = false ∨ ¬ kk = k) ∨ 1 < (lb : Int)) ∨ 46 < (sz : Int)) ∨ ep < 1
    · have hP : unframeF l k = none := by
        unfold unframeF; rw [← hkk, ← hep, ← hlb, ← hsz, if_pos]
        rcases hc with (((h | h) | h) | h) | h
        · exact .inl (heqf.1 h)
        · exact .inr (.inl h)
        · exact .inr (.inr (.inl (by omega)))
        · exact .inr (.inr (.inr (.inl (by omega))))
        · exact .inr (.inr (.inr (.inr h)))
      rw [hP, if_pos hc]
      refine Ret.sel [0] (fun _ => false) (ho := by rfl) (ha := by rfl) ?_ ?_ (by decide) (by simp) st_0 ⟨?_, ?_⟩
      · simp
      · simp
      · rfl
      · rfl
    · have hP : unframeF l k = some ⟨ep, kk, decide (lb = 1), (l.drop 10).take sz⟩ := by
        unfold unframeF; rw [← hkk, ← hep, ← hlb, ← hsz, if_neg]
        rintro (h | h | h | h | h)
        · exact hc (.inl (.inl (.inl (.inl (heqf.2 h)))))
        · exact hc (.inl (.inl (.inl (.inr h))))
        · exact hc (.inl (.inl (.inr (by omega))))
        · exact hc (.inl (.inr (by omega)))
        · exact hc (.inr h)
      have hs46 : sz ≤ 46 := by
        rcases Nat.lt_or_ge 46 sz with h | h
        · exact absurd (.inl (.inr (by omega))) hc
        · exact h
      rw [hP, if_neg hc]
      have ez2 : IntKind.i64.wrap (10 + (sz : Int)) = (10 + sz : Nat) := by rw [IntWalk.i64_in _ (by omega)]; rfl
      rw [ez2]
      have en : ((10 + sz : Nat) : Int).toNat - 10 = sz := by omega
      rw [en]
      refine ⟨by omega, ?_⟩
      refine call_x [0] (clone8_sl l 10 sz 64 e hl (by omega) (by decide) (by decide)) rfl rfl ⟨rfl, rfl⟩ hho (by simp) (by decide) (by simp) (by simp) ?_
      simp (maxSteps := 1000000) [hho, hl, -List.reduceReplicate]
      have hbl : (List.take sz (List.drop 10 l)).length = sz := by simp [hl]; omega
      refine Ret.sel [0] (fun k => k == 3) (ho := by rfl) (ha := by rfl) ?_ ?_ (by decide) (by simp) st_0 ⟨?_, ?_⟩
      · simp
      · simp [hl, maxLen]; omega
      · simp only [unframeR, frameA, hbl]
        have ef : List.take (sz * 1) (List.drop 0 (u8av (List.take sz (List.drop 10 l)))) = u8av (List.take sz (List.drop 10 l)) := by rw [Nat.mul_one, List.drop_zero, List.take_of_length_le (by rw [u8av_length, hbl]; exact Nat.le_refl _)]
        rw [ef]
      · rfl
  · simp (maxSteps := 1000000) [hho, hl, -List.reduceReplicate]
    refine draw_k hho (.take 0 (.take 2 (.take 3 (.take 5 (.take 6 (.alt 1 (.alt 4 (.alt 7 (.take 8 (.take 9 (.alt 10 (.alt 11 (.done) (.nil)) (.nil)))) (.alt 10 (.alt 7 (.take 8 (.take 9 (.alt 11 (.done) (.nil)))) (.nil)) (.nil))) (.alt 7 (.take 8 (.alt 4 (.take 9 (.alt 10 (.alt 11 (.done) (.nil)) (.nil))) (.alt 10 (.alt 4 (.take 9 (.alt 11 (.done) (.nil))) (.nil)) (.nil)))) (.alt 10 (.alt 4 (.alt 7 (.take 8 (.take 9 (.alt 11 (.done) (.nil)))) (.nil)) (.alt 7 (.take 8 (.alt 4 (.take 9 (.alt 11 (.done) (.nil))) (.nil))) (.nil))) (.nil)))) (.alt 7 (.take 8 (.alt 1 (.alt 4 (.take 9 (.alt 10 (.alt 11 (.done) (.nil)) (.nil))) (.alt 10 (.alt 4 (.take 9 (.alt 11 (.done) (.nil))) (.nil)) (.nil))) (.alt 10 (.alt 1 (.alt 4 (.take 9 (.alt 11 (.done) (.nil))) (.nil)) (.nil)) (.nil)))) (.alt 10 (.alt 1 (.alt 4 (.alt 7 (.take 8 (.take 9 (.alt 11 (.done) (.nil)))) (.nil)) (.alt 7 (.take 8 (.alt 4 (.take 9 (.alt 11 (.done) (.nil))) (.nil))) (.nil))) (.alt 7 (.take 8 (.alt 1 (.alt 4 (.take 9 (.alt 11 (.done) (.nil))) (.nil)) (.nil))) (.nil))) (.nil))))))))) [] [] (by decide +kernel) (by simp) ?_
    simp (maxSteps := 1000000) [roOf, holdOf, wrOf, altK, heldOk, Region.binds, hl, u8av_drop_get, -List.reduceReplicate]
    have g1 := get_row 0 64 64 4 l hl (by decide) (by decide) (by decide) e
    have g2 := get_row 4 60 64 4 l hl (by decide) (by decide) (by decide) e
    have h81 : (↑(at8 l 8).toNat = (1 : Int)) ↔ (at8 l 8).toNat = 1 := by omega
    repeat' (first
      | (refine cut_to () trivial ?_; exact wk_all (by simp [hE, lens]) (by simp [frame0, getI, h81]) (by simp [livH, livO, AV.livL, AV.liv, wkL, wkV, List.range', slotsOf]))
      | apply And.intro
      | (intro E1; refine call_h [0] g1 rfl rfl ⟨rfl, rfl⟩ (by simp) (by simp) (by decide) (by simp) (by simp) ?_; simp (maxSteps := 1000000) [roOf, holdOf, wrOf, altK, heldOk, Region.binds, hl, u8av_drop_get, -List.reduceReplicate])
      | (intro E1; refine call_h [0] g2 rfl rfl ⟨rfl, rfl⟩ (by simp) (by simp) (by decide) (by simp) (by simp) ?_; simp (maxSteps := 1000000) [roOf, holdOf, wrOf, altK, heldOk, Region.binds, hl, u8av_drop_get, -List.reduceReplicate])
      | intro E1)
end Go.Proofs.Ytmgpiminicgbiaa
namespace Go.Proofs.Ytmgpiminicgbiaa
set_option linter.unusedVariables false
set_option linter.unusedSimpArgs false
open Go.RowKit
attribute [local simp] isCut_nil isCut_region isCut_seq isCut_block isCut_loop isCut_cond isCut_skip isCut_exit isCut_ret isCut_range swapK putK altK condK_bool pickP_bool stepP stepO onPure_some onPure_none onImpl_some onImpl_none stepC onGP_some onGP_none onGV_some condG mkG onIt_it nextP_ptr takeP_eq takeV_some takeV_none takeU_some takeU_none takeQ takeW_some takeN_none takeN_some takeG_some takeO_some altO_some pureV binV2 eqF eqOp ovlV ovl2 rowAt capV binV intBin strBin isSh shV fldV ixV sliceV slice3V loadAV nilV lenV callV unV convV viewS cellsH loadV fldCut AV.ung AV.ungs AV.gc AV.cells AS.ev AS.put anyS gcsV gcO lens lnO gV guardV retK RetP_eq resV oneV anyRo loIx hiIx implO callP_clo evL gcsL clearV storeAV AS.push AS.setO appV appZ shortS copyV buildV partsV fillV srcV fzO okV isCell_c isCell_ptr isCell_sl isCell_fs isCell_fp isCell_clo rowZ_one rowZ_zero rowZ_2 rowZ_3 rowZ_4 rowZ_5 rowZ_6 rowZ_7 rowZ_8 rowZ_9 rowZ_10 rowZ_11 rowZ_12 noHo Value.oneCell' max2V min2V lookV updV updK updW cvals mkAt basV lenM msAt afterH putBack frzFrom frzO rebO backIx nilEq_sl nilEq_fs nilEq_ifn nilEq_ifh ifOp_eql ifOp_neq isLit nilOp_eql nilOp_neq AV.reb AV.rebL
attribute [local simp ↓] runK_skip runK_region runK_draw runK_seq runK_cut runK_cond runK_block runK_loop runK_exit runK_label runK_goto runK_ret runK_range contK_nil contK_seq contK_seq_ret contK_seq_exit contK_seq_goto contK_block contK_block_ret contK_block_goto contK_block_exit runO_nil runO_cons roundK_exit roundK_ret roundK_goto exitK_ret cutK_ret cutK_exit runE_done runE_nil runE_take runE_alt condG_true condG_false
set_option maxRecDepth 10000
/-! ## The log -/
structure LogS where
  frames : Int
  h : HeadS
  at_ : Int
  bs : List (List UInt8)
  down : Bool
def batchA (l : List (List UInt8)) : List AV := l.map fun b => .fs 1 b.length (u8av b)
@[simp] theorem batchA_length (l : List (List UInt8)) : (batchA l).length = l.length := by simp [batchA]
@[simp] theorem batchA_take (l : List (List UInt8)) : List.take l.length (batchA l) = batchA l := List.take_of_length_le (by simp)
@[simp] theorem batchA_all (l : List (List UInt8)) : (∀ x ∈ batchA l, isD x = true) ↔ True := iff_true_intro <| by simp [batchA, isD]
@[simp] theorem batchA_cell (l : List (List UInt8)) : (∀ x ∈ batchA l, isCell x = true) ↔ True := iff_true_intro <| by simp [batchA, isCell_fs]
theorem batchA_snoc (l : List (List UInt8)) (b : List UInt8) : batchA (l ++ [b]) = batchA l ++ [.fs 1 b.length (u8av b)] := by simp [batchA]
theorem batchA_liv (dead : List Nat) (l : List (List UInt8)) : AV.livL dead (batchA l) = true := by
  induction l with
  | nil => rfl
  | cons b l ih => simpa [batchA, AV.livL, AV.liv] using ih
theorem livL_app (dead : List Nat) (a b : List AV) : AV.livL dead (a ++ b) = (AV.livL dead a && AV.livL dead b) := by
  induction a with
  | nil => simp [AV.livL]
  | cons x a ih => simp [AV.livL, ih, Bool.and_assoc]
theorem batchA_get (l : List (List UInt8)) (j : Nat) (hj : j < l.length) : (batchA l)[j]? = some (.fs 1 l[j].length (u8av l[j])) := by simp [batchA, hj]
/-- the log's own block -/
def logB (L : LogS) (d bt : Nat) : AObj := .o .box [.ptr d 0 5, .c (.int .i64 L.frames), .c (.int .i64 L.h.n), .c (.int .i64 L.h.epoch), .c (.int .i64 L.h.base), .fs 1 L.h.body.length (u8av L.h.body), .c (.int .i64 L.at_), .sl bt 1 0 L.bs.length L.bs.length, .c (.bool L.down)]
def batR (l : List (List UInt8)) : AObj := .o (.row 33 1) (batchA l)
/-- a log on its device -/
def logO (D : DevS) (L : LogS) : List AObj := logB L 1 4 :: devAt 1 D ++ [batR L.bs]
theorem up_log (D : DevS) (L : LogS) : ACalls Try.prog 36 [.ptr 0 0 9] (logO D L) (fun _ => true) (fun r h' => r = .c (.int .i64 (if L.down = true then 60 else 0)) ∧ h' = logO D L) := by
  refine acalls mixed Try.func36 rfl Try.ntmps36 rfl fun E hE _ hho => ?_
  simp [logO, logB, batR, devAt, hho, noHo, -List.reduceReplicate]
  split <;> exact Ret.same ⟨by simp_all, rfl⟩
theorem epoch_log (D : DevS) (L : LogS) : ACalls Try.prog 20 [.ptr 0 0 9] (logO D L) (fun _ => true) (fun r h' => r = .c (.int .i64 L.h.epoch) ∧ h' = logO D L) := by
  refine acalls mixed Try.func20 rfl Try.ntmps20 rfl fun E hE _ hho => ?_
  simp [logO, logB, batR, devAt, hho, noHo, -List.reduceReplicate]
  exact Ret.same ⟨rfl, rfl⟩
def roomL (L : LogS) : Int := if L.down = true then 0 else L.frames - L.at_
theorem room_log (D : DevS) (L : LogS) (hf : 0 ≤ L.frames ∧ L.frames ≤ 1000000) (ha : 0 ≤ L.at_ ∧ L.at_ ≤ 1000000) : ACalls Try.prog 19 [.ptr 0 0 9] (logO D L) (fun _ => true) (fun r h' => r = .c (.int .i64 (roomL L)) ∧ h' = logO D L) := by
  refine acalls mixed Try.func19 rfl Try.ntmps19 rfl fun E hE _ hho => ?_
  have ew : IntKind.i64.wrap (L.frames - L.at_) = L.frames - L.at_ := IntWalk.i64_in _ (by omega)
  simp [logO, logB, batR, devAt, hho, noHo, -List.reduceReplicate]
  split
  · rename_i hd
    refine Ret.same ⟨by simp [roomL, hd], rfl⟩
  · rename_i hd
    refine draw_k hho (.take 0 (.take 1 (.take 2 (.take 3 (.take 4 (.take 5 (.take 6 (.take 7 (.take 8 (.take 9 (.done))))))))))) [0] [] (by decide +kernel) (by simp) ?_
    simp [roOf, holdOf, wrOf, altK, heldOk, Region.binds, ew, -List.reduceReplicate]
    refine Ret.same ⟨by simp [roomL, hd], rfl⟩
theorem head_log (D : DevS) (L : LogS) (hb : L.h.body.length ≤ 1000000) : ACalls Try.prog 18 [.ptr 0 0 9] (logO D L) (fun k => decide (k < 5)) (fun r h' => r = .sl 5 1 0 L.h.body.length L.h.body.length ∧ h' = logO D L ++ [.o (.row 5 1) (u8av L.h.body)]) := by
  refine acalls mixed Try.func18 rfl Try.ntmps18 rfl fun E hE _ hho => ?_
  simp [logO, logB, batR, devAt, hho, noHo, -List.reduceReplicate]
  refine call_x [] (clone8_fs L.h.body.length (u8av L.h.body) (by simp) (by omega) (by simp)) rfl rfl ⟨rfl, rfl⟩ hho (by simp) (by decide) (by simp) (by simp) ?_
  simp (maxSteps := 1000000) [hho, -List.reduceReplicate]
  exact Ret.same ⟨rfl, rfl⟩
theorem batches_log (D : DevS) (L : LogS) (hb : ∀ b ∈ L.bs, b.length ≤ 1000000) (hl : L.bs.length ≤ 1000000) : ACalls Try.prog 16 [.ptr 0 0 9] (logO D L) (fun k => decide (k < 5)) (fun r h' => r = .fs 1 L.bs.length (batchA L.bs) ∧ h' = logO D L) := by
  refine acalls mixed Try.func16 rfl Try.ntmps16 rfl fun E hE _ hho => ?_
  simp [logO, logB, batR, devAt, hho, noHo, -List.reduceReplicate]
  refine loop_k mixed (fun j : Nat => ⟨slotsOf 24 [(3, .sl 5 1 0 j j), (11, .sl 4 1 0 L.bs.length L.bs.length), (12, .c (.int .i64 L.bs.length)), (13, .c (.int .i64 (j : Int)))], logO D L ++ [batR (L.bs.take j)]⟩) (fun j => L.bs.length - j) (fun j => j ≤ L.bs.length) 0 (Nat.zero_le _) ?_ ?_
  · refine Wk.trans (wk_virt 3 33 1 rfl) ?_
    exact wk_all (by simp [hE, logO, devAt, lens]) (by simp [logO, logB, batR, devAt, batchA]) (by simp [livH, livO, AV.livL, AV.liv, wkL, wkV, List.range', slotsOf])
  · intro j hj
    by_cases hjl : j < L.bs.length
    · have hb2 := hb _ (List.getElem_mem hjl)
      have hm : min j L.bs.length = j := by omega
      have hg : (List.drop j (batchA L.bs))[0]? = some (.fs 1 L.bs[j].length (u8av L.bs[j])) := by rw [List.getElem?_drop, Nat.add_zero, batchA_get _ _ hjl]
      have ew : IntKind.i64.wrap ((j : Int) + 1) = (j + 1 : Nat) := by rw [IntWalk.i64_in _ (by omega)]; rfl
      simp (maxSteps := 1000000) [logO, logB, batR, devAt, slotsOf, hho, hjl, hg, -List.reduceReplicate]
      refine ⟨by omega, ?_⟩
      refine call_x [] (clone8_fs L.bs[j].length (u8av L.bs[j]) (by simp) (by omega) (by simp)) rfl rfl ⟨rfl, rfl⟩ hho (by simp) (by decide) (by simp) (by simp) ?_
      simp (maxSteps := 1000000) [hho, ew, hm, -List.reduceReplicate]
      obtain ⟨tt, htt⟩ : ∃ tt, tt = slotsOf 24 [(3, .sl 5 1 0 (j + 1) (j + 1)), (11, .sl 4 1 0 L.bs.length L.bs.length), (12, .c (.int .i64 L.bs.length)), (13, .c (.int .i64 ((j + 1 : Nat) : Int)))] := ⟨_, rfl⟩
      obtain ⟨hb0, hhb0⟩ : ∃ hb0, hb0 = logO D L := ⟨_, rfl⟩
      have hl0 : hb0.length = 5 := by rw [hhb0]; simp [logO, devAt]
      refine ⟨by omega, round_next (j + 1) (by omega) (by omega) ?_⟩
      refine Wk.trans (s' := ⟨tt, hb0 ++ [.o (.row 33 1) (batchA (L.bs.take j) ++ [.sl 6 1 0 L.bs[j].length L.bs[j].length]), .o (.row 5 1) (u8av L.bs[j])]⟩) (wk_of 7 1 (by simp) (by simp [hE, logO, devAt, lens]) (by simp [hhb0, logO, logB, batR, devAt]) (by simp [livH, livO, AV.livL, AV.liv, wkL, wkV, List.range', hhb0, logO, logB, batR, devAt, batchA_liv, livL_app]) (by simp [livH, livO, AV.livL, AV.liv, wkL, wkV, List.range', slotsOf, htt])) ?_
      refine Wk.trans (wk_data 5 j 6 (kd := .row 33 1) (cs := batchA (L.bs.take j) ++ [.sl 6 1 0 L.bs[j].length L.bs[j].length]) (l := u8av L.bs[j]) (e := 5) (sz := 1) (n := L.bs[j].length) (m := L.bs[j].length) (by rw [hho]; rfl) (by decide) (by rw [List.getElem?_append_right (by omega), hl0]; rfl) (by rw [List.getElem?_append_right (by simp; omega)]; simp [hm]) (by rw [List.getElem?_append_right (by omega), hl0]; rfl) (by simp) (by simp) (by simp [maxLen]; omega) (by simp)) ?_
      refine wk_of 6 1 (by simp [hl0]) (by simp [hE, logO, devAt, lens]) ?_ (by simp [livH, livO, AV.livL, AV.liv, wkL, wkV, List.range', logO, logB, batR, devAt, batchA_liv]) (by simp [livH, livO, AV.livL, AV.liv, wkL, wkV, List.range', slotsOf, htt])
      have est : (batchA (L.bs.take j) ++ [AV.sl 6 1 0 L.bs[j].length L.bs[j].length]).set j (.fs 1 L.bs[j].length (u8av L.bs[j])) = batchA (L.bs.take (j + 1)) := by
        have hlj : (batchA (L.bs.take j)).length = j := by simp; omega
        rw [List.set_append_right _ _ (by omega), hlj, Nat.sub_self, List.take_succ_eq_append_getElem hjl, batchA_snoc]; rfl
      simp only [est, hhb0]
      simp [logO, logB, batR, devAt]
    · obtain rfl : j = L.bs.length := by omega
      simp (maxSteps := 1000000) [logO, logB, batR, devAt, slotsOf, hho, -List.reduceReplicate]
      refine Ret.sel [0, 1, 2, 3, 4] (fun k => k == 5) (ho := by rfl) (ha := by rfl) ?_ ?_ (by decide) (by simp) (st_lt 5 _) ⟨?_, ?_⟩
      · simp
      · simp [maxLen]; omega
      · simp
      · rfl
end Go.Proofs.Ytmgpiminicgbiaa
namespace Go.Proofs.Ytmgpiminicgbiaa
set_option linter.unusedVariables false
set_option linter.unusedSimpArgs false
open Go.RowKit
attribute [local simp] isCut_nil isCut_region isCut_seq isCut_block isCut_loop isCut_cond isCut_skip isCut_exit isCut_ret isCut_range swapK putK altK condK_bool pickP_bool stepP stepO onPure_some onPure_none onImpl_some onImpl_none stepC onGP_some onGP_none onGV_some condG mkG onIt_it nextP_ptr takeP_eq takeV_some takeV_none takeU_some takeU_none takeQ takeW_some takeN_none takeN_some takeG_some takeO_some altO_some pureV binV2 eqF eqOp ovlV ovl2 rowAt capV binV intBin strBin isSh shV fldV ixV sliceV slice3V loadAV nilV lenV callV unV convV viewS cellsH loadV fldCut AV.ung AV.ungs AV.gc AV.cells AS.ev AS.put anyS gcsV gcO lens lnO gV guardV retK RetP_eq resV oneV anyRo loIx hiIx implO callP_clo evL gcsL clearV storeAV AS.push AS.setO appV appZ shortS copyV buildV partsV fillV srcV fzO okV isCell_c isCell_ptr isCell_sl isCell_fs isCell_fp isCell_clo rowZ_one rowZ_zero rowZ_2 rowZ_3 rowZ_4 rowZ_5 rowZ_6 rowZ_7 rowZ_8 rowZ_9 rowZ_10 rowZ_11 rowZ_12 noHo Value.oneCell' max2V min2V lookV updV updK updW cvals mkAt basV lenM msAt afterH putBack frzFrom frzO rebO backIx nilEq_sl nilEq_fs nilEq_ifn nilEq_ifh ifOp_eql ifOp_neq isLit nilOp_eql nilOp_neq AV.reb AV.rebL
attribute [local simp ↓] runK_skip runK_region runK_draw runK_seq runK_cut runK_cond runK_block runK_loop runK_exit runK_label runK_goto runK_ret runK_range contK_nil contK_seq contK_seq_ret contK_seq_exit contK_seq_goto contK_block contK_block_ret contK_block_goto contK_block_exit runO_nil runO_cons roundK_exit roundK_ret roundK_goto exitK_ret cutK_ret cutK_exit runE_done runE_nil runE_take runE_alt condG_true condG_false
set_option maxRecDepth 10000
/-! ## Reading the heads -/
/-- the bytes of a sector now -/
def secL (D : DevS) (i : Nat) : List UInt8 := (curS D i).1
theorem secL_length (D : DevS) (i : Nat) : (secL D i).length = 64 := (curS D i).2
/-- the head that counts more -/
def headStep (D : DevS) (h : HeadS) (i : Nat) : HeadS := match parseH (secL D i) i with
  | some g => if h.n < g.n then g else h
  | none => h
def headsTo (D : DevS) (h : HeadS) : Nat → HeadS
  | 0 => h
  | i + 1 => headStep D (headsTo D h i) i
theorem parse_body {l : List UInt8} {i : Int} {h : HeadS} (hp : parseH l i = some h) : h.body.length ≤ 32 := by
  unfold parseH at hp
  split at hp
  · cases hp
  · injection hp with hp; subst hp
    simp only [List.length_take]; omega
theorem readHead_ok (D : DevS) (hD : D.Ok) (L : LogS) (hc : ∀ i : Nat, i < 2 → checkS D i 0 = 0) : ACalls Try.prog 33 [.ptr 0 0 9] (logO D L) (fun k => decide (k < 5)) (fun r h' => r = .c (.int .i64 0) ∧ h' = logO D { L with h := headsTo D L.h 2 }) := by
  refine acallsC [10] mixed Try.func33 rfl Try.ntmps33 rfl fun E hE _ hho => ?_
  simp [logO, logB, batR, devAt, hho, noHo, -List.reduceReplicate]
  refine loop_kc [10] mixed (fun i : Nat => ⟨slotsOf 45 [(0, .ptr 0 0 9), (8, .c (.int .i64 (i : Int)))], logO D { L with h := headsTo D L.h i }⟩) (fun i => 2 - i) (fun i => i ≤ 2) 0 (Nat.zero_le _) ?_ ?_
  · exact wk_all (by simp [hE, logO, devAt, lens]) (by simp [logO, logB, batR, devAt, headsTo]) (by simp [livH, livO, AV.livL, AV.liv, wkL, wkV, List.range', slotsOf])
  · intro i hi
    by_cases hi2 : i < 2
    · have hii : (i : Int) < 2 := by omega
      have ew : IntKind.i64.wrap ((i : Int) + 1) = (i + 1 : Nat) := by rw [IntWalk.i64_in _ (by omega)]; rfl
      obtain ⟨H, hH⟩ : ∃ H, H = headsTo D L.h i := ⟨_, rfl⟩
      simp (maxSteps := 1000000) [logO, logB, batR, devAt, slotsOf, hho, hii, hi2, ← hH, -List.reduceReplicate]
      refine seq_cut mixed [] (fun _ : Unit => ⟨slotsOf 45 [(0, .ptr 0 0 9), (8, .c (.int .i64 (i : Int)))], logO D { L with h := headsTo D L.h (i + 1) }⟩) (fun _ => True) ?_ ?_
      · rintro _ _
        simp (maxSteps := 1000000) [logO, logB, batR, devAt, slotsOf, hho, ew, -List.reduceReplicate]
        refine round_next (i + 1) (by omega) (by omega) ?_
        exact wk_all (by simp [hE, logO, devAt, lens]) (by simp [logO, logB, batR, devAt]) (by simp [livH, livO, AV.livL, AV.liv, wkL, wkV, List.range', slotsOf])
      · simp (maxSteps := 1000000) [logO, logB, batR, devAt, slotsOf, hho, -List.reduceReplicate]
        refine call_x [1, 2, 3] (read_ok D hD i (hc i hi2)) rfl rfl ⟨rfl, rfl⟩ hho (by simp) (by decide) (by simp) (by simp [devO]) ?_
        have es : u8av (curS D (i : Int).toNat).1 = u8av (secL D i) := by rw [Int.toNat_natCast]; rfl
        rw [es]
        simp (maxSteps := 1000000) [hho, devO, -List.reduceReplicate]
        refine call_d [5] (fun _ => false) [] (parse_row (secL D i) (secL_length D i) i 5) rfl rfl ⟨rfl, rfl⟩ hho (by intro a b h; cases a with | zero => exact .inl rfl | succ a => simp at h) (livL_none _) (livH_none _ _ _) (by simp) (by decide) (by decide) (by simp) (by simp) ?_
        cases hP : parseH (secL D i) i with
        | none =>
          have e1 : headsTo D L.h (i + 1) = H := by simp only [headsTo, headStep, hP]; exact hH.symm
          simp (maxSteps := 1000000) [hho, parseR, head0, -List.reduceReplicate]
          refine draw_k hho (.take 0 (.take 1 (.take 2 (.take 3 (.take 4 (.take 5 (.take 6 (.take 7 (.take 8 (.take 9 (.take 10 (.done)))))))))))) [0, 6] [] (by decide +kernel) (by simp) ?_
          simp (maxSteps := 1000000) [hho, roOf, holdOf, wrOf, altK, heldOk, Region.binds, -List.reduceReplicate]
          refine cut_to () trivial ?_
          rw [e1]
          exact wk_of 5 2 (by simp) (by simp [hE, logO, devAt, lens]) (by simp [logO, logB, batR, devAt]) (by simp [livH, livO, AV.livL, AV.liv, wkL, wkV, List.range', logO, logB, batR, devAt, batchA_liv]) (by simp [livH, livO, AV.livL, AV.liv, wkL, wkV, List.range', slotsOf])
        | some g =>
          have e1 : headsTo D L.h (i + 1) = if H.n < g.n then g else H := by simp only [headsTo, headStep, hP]; rw [← hH]
          simp (maxSteps := 1000000) [hho, parseR, headA, -List.reduceReplicate]
          refine draw_k hho (.take 0 (.take 1 (.take 2 (.take 3 (.take 4 (.take 5 (.take 6 (.take 7 (.take 8 (.take 9 (.take 10 (.done)))))))))))) [0, 6] [] (by decide +kernel) (by simp) ?_
          by_cases hn : H.n < g.n
          · rw [if_pos hn] at e1
            simp (maxSteps := 1000000) [hho, roOf, holdOf, wrOf, altK, heldOk, Region.binds, hn, -List.reduceReplicate]
            refine cut_to () trivial ?_
            rw [e1]
            exact wk_of 5 2 (by simp) (by simp [hE, logO, devAt, lens]) (by simp [logO, logB, batR, devAt]) (by simp [livH, livO, AV.livL, AV.liv, wkL, wkV, List.range', logO, logB, batR, devAt, batchA_liv]) (by simp [livH, livO, AV.livL, AV.liv, wkL, wkV, List.range', slotsOf])
          · rw [if_neg hn] at e1
            simp (maxSteps := 1000000) [hho, roOf, holdOf, wrOf, altK, heldOk, Region.binds, hn, -List.reduceReplicate]
            refine cut_to () trivial ?_
            rw [e1]
            exact wk_of 5 2 (by simp) (by simp [hE, logO, devAt, lens]) (by simp [logO, logB, batR, devAt]) (by simp [livH, livO, AV.livL, AV.liv, wkL, wkV, List.range', logO, logB, batR, devAt, batchA_liv]) (by simp [livH, livO, AV.livL, AV.liv, wkL, wkV, List.range', slotsOf])
    · obtain rfl : i = 2 := by omega
      simp (maxSteps := 1000000) [logO, logB, batR, devAt, slotsOf, hho, -List.reduceReplicate]
      exact Ret.same ⟨rfl, rfl⟩
theorem readHead_err (D : DevS) (hD : D.Ok) (L : LogS) (hc : checkS D 0 0 ≠ 0) : ACalls Try.prog 33 [.ptr 0 0 9] (logO D L) (fun k => decide (k < 5)) (fun r h' => r = .c (.int .i64 (checkS D 0 0)) ∧ h' = logO D L) := by
  refine acalls mixed Try.func33 rfl Try.ntmps33 rfl fun E hE _ hho => ?_
  simp [logO, logB, batR, devAt, hho, noHo, -List.reduceReplicate]
  refine loop_k mixed (fun _ : Unit => ⟨slotsOf 45 [(0, .ptr 0 0 9), (8, .c (.int .i64 0))], logO D L⟩) (fun _ => 0) (fun _ => True) () trivial ?_ ?_
  · exact wk_all (by simp [hE, logO, devAt, lens]) (by simp [logO, logB, batR, devAt]) (by simp [livH, livO, AV.livL, AV.liv, wkL, wkV, List.range', slotsOf])
  · rintro _ _
    simp (maxSteps := 1000000) [logO, logB, batR, devAt, slotsOf, hho, -List.reduceReplicate]
    refine call_x [1, 2, 3] (read_err D 0 hc) rfl rfl ⟨rfl, rfl⟩ hho (by simp) (by decide) (by simp) (by simp [devO]) ?_
    simp (maxSteps := 1000000) [hho, devO, hc, -List.reduceReplicate]
    exact Ret.same ⟨rfl, rfl⟩
/-! ## Reading the frames -/
structure FSt where
  least : Int
  within : Bool
  batch : List UInt8
  bs : List (List UInt8)
  at_ : Int
/-- a frame of the log's is taken up; none: here the log ends -/
def frameStep (D : DevS) (epoch : Int) (x : FSt) (k : Nat) : Option FSt := match unframeF (secL D (2 + k)) k with
  | some f => if f.epoch < x.least ∨ epoch < f.epoch ∨ (x.within = true ∧ f.epoch ≠ x.least) then none
    else if f.last = true then some ⟨f.epoch, false, [], x.bs ++ [x.batch ++ f.body], k + 1⟩ else some ⟨f.epoch, true, x.batch ++ f.body, x.bs, x.at_⟩
  | none => none
def framesTo (D : DevS) (epoch : Int) (x : FSt) : Nat → Nat → FSt
  | _, 0 => x
  | k, n + 1 => match frameStep D epoch x k with
    | some y => framesTo D epoch y (k + 1) n
    | none => x
end Go.Proofs.Ytmgpiminicgbiaa
namespace Go.Proofs.Ytmgpiminicgbiaa
set_option linter.unusedVariables false
set_option linter.unusedSimpArgs false
open Go.RowKit
attribute [local simp] isCut_nil isCut_region isCut_seq isCut_block isCut_loop isCut_cond isCut_skip isCut_exit isCut_ret isCut_range swapK putK altK condK_bool pickP_bool stepP stepO onPure_some onPure_none onImpl_some onImpl_none stepC onGP_some onGP_none onGV_some condG mkG onIt_it nextP_ptr takeP_eq takeV_some takeV_none takeU_some takeU_none takeQ takeW_some takeN_none takeN_some takeG_some takeO_some altO_some pureV binV2 eqF eqOp ovlV ovl2 rowAt capV binV intBin strBin isSh shV fldV ixV sliceV slice3V loadAV nilV lenV callV unV convV viewS cellsH loadV fldCut AV.ung AV.ungs AV.gc AV.cells AS.ev AS.put anyS gcsV gcO lens lnO gV guardV retK RetP_eq resV oneV anyRo loIx hiIx implO callP_clo evL gcsL clearV storeAV AS.push AS.setO appV appZ shortS copyV buildV partsV fillV srcV fzO okV isCell_c isCell_ptr isCell_sl isCell_fs isCell_fp isCell_clo rowZ_one rowZ_zero rowZ_2 rowZ_3 rowZ_4 rowZ_5 rowZ_6 rowZ_7 rowZ_8 rowZ_9 rowZ_10 rowZ_11 rowZ_12 noHo Value.oneCell' max2V min2V lookV updV updK updW cvals mkAt basV lenM msAt afterH putBack frzFrom frzO rebO backIx nilEq_sl nilEq_fs nilEq_ifn nilEq_ifh ifOp_eql ifOp_neq isLit nilOp_eql nilOp_neq AV.reb AV.rebL
attribute [local simp ↓] runK_skip runK_region runK_draw runK_seq runK_cut runK_cond runK_block runK_loop runK_exit runK_label runK_goto runK_ret runK_range contK_nil contK_seq contK_seq_ret contK_seq_exit contK_seq_goto contK_block contK_block_ret contK_block_goto contK_block_exit runO_nil runO_cons roundK_exit roundK_ret roundK_goto exitK_ret cutK_ret cutK_exit runE_done runE_nil runE_take runE_alt condG_true condG_false
set_option maxRecDepth 10000
theorem unframe_body {l : List UInt8} {k : Int} {f : FrameS} (hp : unframeF l k = some f) : f.body.length ≤ 46 := by
  unfold unframeF at hp
  split at hp
  · cases hp
  · injection hp with hp; subst hp
    simp only [List.length_take]; omega
def withF (L : LogS) (x : FSt) : LogS := { L with bs := x.bs, at_ := x.at_ }
set_option maxHeartbeats 4000000 in
theorem readFrames_ok (D : DevS) (hD : D.Ok) (L : LogS) (n : Nat) (hn : L.frames = n) (hn2 : n ≤ 1000000) (hbs : L.bs = []) (hat : L.at_ = 0) (hc : ∀ k : Nat, k < n → checkS D (2 + k : Nat) 0 = 0) : ACalls Try.prog 34 [.ptr 0 0 9] (logO D L) (fun k => decide (k < 4)) (fun r h' => r = .c (.int .i64 0) ∧ h' = logO D (withF L (framesTo D L.h.epoch ⟨L.h.base, false, [], [], 0⟩ 0 n))) := by
  refine acallsC [16] mixed Try.func34 rfl Try.ntmps34 rfl fun E hE hst hho => ?_
  simp [logO, logB, batR, devAt, hho, noHo, -List.reduceReplicate]
  refine loop_kc [16] mixed (fun y : Nat × FSt => ⟨slotsOf 96 [(0, .ptr 0 0 9), (3, .c (.int .i64 y.2.least)), (4, .c (.bool y.2.within)), (5, .sl 5 1 0 y.2.batch.length y.2.batch.length), (19, .c (.int .i64 n)), (20, .c (.int .i64 (y.1 : Int)))], logO D (withF L y.2) ++ [.o (.row 5 1) (u8av y.2.batch)]⟩) (fun y => n - y.1)
    (fun y => y.1 ≤ n ∧ framesTo D L.h.epoch y.2 y.1 (n - y.1) = framesTo D L.h.epoch ⟨L.h.base, false, [], [], 0⟩ 0 n ∧ y.2.batch.length ≤ 46 * y.1 ∧ y.2.bs.length ≤ y.1 ∧ 0 ≤ y.2.at_ ∧ y.2.at_ ≤ y.1) (0, ⟨L.h.base, false, [], [], 0⟩) ⟨Nat.zero_le _, rfl, by simp, by simp, by simp, by simp⟩ ?_ ?_
  · refine Wk.trans (wk_virt 5 5 1 rfl) ?_
    exact wk_all (by simp [hE, logO, devAt, lens]) (by simp [logO, logB, batR, devAt, withF, hbs, hat]) (by simp [livH, livO, AV.livL, AV.liv, wkL, wkV, List.range', slotsOf, hn])
  · rintro ⟨k, x⟩ ⟨hk, hI, hb, hl, ha0, ha⟩
    simp only at hk hI hb hl ha0 ha
    by_cases hkn : k < n
    · have e2k : IntKind.i64.wrap (2 + (k : Int)) = ((2 + k : Nat) : Int) := by rw [IntWalk.i64_in _ (by omega)]; rfl
      have ew : IntKind.i64.wrap ((k : Int) + 1) = (k + 1 : Nat) := by rw [IntWalk.i64_in _ (by omega)]; rfl
      have en : n - k = (n - (k + 1)) + 1 := by omega
      rw [en, framesTo] at hI
      simp (maxSteps := 1000000) [logO, logB, batR, devAt, withF, slotsOf, hho, hkn, -List.reduceReplicate]
      refine seq_cut mixed [] (fun y : FSt => ⟨slotsOf 96 [(0, .ptr 0 0 9), (3, .c (.int .i64 y.least)), (4, .c (.bool y.within)), (5, .sl 5 1 0 y.batch.length y.batch.length), (19, .c (.int .i64 n)), (20, .c (.int .i64 (k : Int)))], logO D (withF L y) ++ [.o (.row 5 1) (u8av y.batch)]⟩) (fun y => framesTo D L.h.epoch y (k + 1) (n - (k + 1)) = framesTo D L.h.epoch ⟨L.h.base, false, [], [], 0⟩ 0 n ∧ y.batch.length ≤ 46 * (k + 1) ∧ y.bs.length ≤ k + 1 ∧ 0 ≤ y.at_ ∧ y.at_ ≤ k + 1) ?_ ?_
      · rintro y ⟨y1, y2, y3, y4, y5⟩
        simp (maxSteps := 1000000) [logO, logB, batR, devAt, withF, slotsOf, hho, ew, -List.reduceReplicate]
        refine round_next (k + 1, y) ⟨by simp only; omega, y1, y2, y3, y4, by simp only; omega⟩ (by simp only; omega) ?_
        exact wk_all (by simp [hE, logO, devAt, lens]) (by simp [logO, logB, batR, devAt, withF]) (by simp [livH, livO, AV.livL, AV.liv, wkL, wkV, List.range', slotsOf])
      · simp (maxSteps := 1000000) [logO, logB, batR, devAt, withF, slotsOf, hho, e2k, -List.reduceReplicate]
        refine call_x [1, 2, 3] (read_ok D hD (2 + k : Nat) (hc k hkn)) rfl rfl ⟨rfl, rfl⟩ hho (by simp) (by decide) (by simp) (by simp [devO]) ?_
        have es : u8av (curS D ((2 + k : Nat) : Int).toNat).1 = u8av (secL D (2 + k)) := by rw [Int.toNat_natCast]; rfl
        rw [es]
        simp (maxSteps := 1000000) [hho, devO, -List.reduceReplicate]
        refine call_d [6] (fun _ => false) [] (unframe_row (secL D (2 + k)) (secL_length D _) k 5) rfl rfl ⟨rfl, rfl⟩ hho (by intro a b h; cases a with | zero => exact .inl rfl | succ a => simp at h) (livL_none _) (livH_none _ _ _) (by simp) (by decide) (by decide) (by simp) (by simp) ?_
        cases hP : unframeF (secL D (2 + k)) k with
        | none =>
          have hF : frameStep D L.h.epoch x k = none := by simp only [frameStep, hP]
          rw [hF] at hI
          simp only at hI
          simp (maxSteps := 1000000) [hho, unframeR, frame0, -List.reduceReplicate]
          refine draw_k hho (.take 0 (.take 1 (.take 2 (.take 3 (.take 4 (.take 5 (.take 6 (.take 7 (.take 8 (.take 9 (.take 10 (.take 11 (.take 12 (.take 13 (.take 14 (.take 15 (.take 16 (.take 17 (.take 18 (.take 19 (.take 20 (.take 21 (.take 22 (.take 23 (.take 24 (.take 25 (.take 26 (.done)))))))))))))))))))))))))))) [0, 7] [] (by decide +kernel) (by simp) ?_
          simp (maxSteps := 1000000) [hho, roOf, holdOf, wrOf, altK, heldOk, Region.binds, -List.reduceReplicate]
          refine Ret.sel [0, 1, 2, 3, 4] (fun _ => false) (ho := by rfl) (ha := by rfl) ?_ ?_ (by decide) (by simp) (st_pre 4 [4] _) ⟨rfl, ?_⟩
          · simp
          · simp
          · rw [← hI]
        | some f =>
          simp (maxSteps := 1000000) [hho, unframeR, frameA, -List.reduceReplicate]
          refine draw_k hho (.take 0 (.take 1 (.take 2 (.take 3 (.take 4 (.take 5 (.take 6 (.take 7 (.take 8 (.take 9 (.take 10 (.take 11 (.take 12 (.take 13 (.take 14 (.take 15 (.take 16 (.take 17 (.take 18 (.take 19 (.take 20 (.take 21 (.take 22 (.take 23 (.take 24 (.take 25 (.take 26 (.done)))))))))))))))))))))))))))) [0, 7] [] (by decide +kernel) (by simp) ?_
          simp (maxSteps := 1000000) [hho, roOf, holdOf, wrOf, altK, heldOk, Region.binds, -List.reduceReplicate]
          refine ⟨fun a b => ⟨⟨a, b⟩, fun c => ⟨⟨a, b⟩, c⟩⟩, ?_⟩
          by_cases hcn : (f.epoch < x.least ∨ L.h.epoch < f.epoch) ∨ x.within = true ∧ ¬ f.epoch = x.least
          · rw [if_pos hcn]
            have hF : frameStep D L.h.epoch x k = none := by simp only [frameStep, hP]; rw [if_pos (by rcases hcn with (h | h) | h; exact .inl h; exact .inr (.inl h); exact .inr (.inr h))]
            rw [hF] at hI
            simp only at hI
            refine Ret.sel [0, 1, 2, 3, 4] (fun _ => false) (ho := by rfl) (ha := by rfl) ?_ ?_ (by decide) (by simp) (st_pre 4 [4] _) ⟨rfl, ?_⟩
            · simp
            · simp
            · rw [← hI]
          · rw [if_neg hcn]
            have hfb := unframe_body hP
            refine draw_k hho (.take 0 (.take 1 (.take 2 (.take 3 (.take 4 (.take 5 (.take 6 (.done)))))))) [7] [] (by decide +kernel) (by simp) ?_
            have hF : frameStep D L.h.epoch x k = if f.last = true then some ⟨f.epoch, false, [], x.bs ++ [x.batch ++ f.body], k + 1⟩ else some ⟨f.epoch, true, x.batch ++ f.body, x.bs, x.at_⟩ := by simp only [frameStep, hP]; rw [if_neg (by rintro (h | h | h); exact hcn (.inl (.inl h)); exact hcn (.inl (.inr h)); exact hcn (.inr h))]
            cases hfl : f.last
            · rw [hfl, if_neg (by decide)] at hF
              rw [hF] at hI
              simp only at hI
              simp (maxSteps := 1000000) [hho, hfl, roOf, holdOf, wrOf, altK, heldOk, Region.binds, -List.reduceReplicate]
              refine ⟨by omega, cut_to ⟨f.epoch, true, x.batch ++ f.body, x.bs, x.at_⟩ ⟨hI, by simp; omega, by simp only; omega, ha0, by simp only; omega⟩ ?_⟩
              exact wk_of 6 2 (by simp) (by simp [hE, logO, devAt, lens]) (by simp [logO, logB, batR, devAt, withF, u8av_app]) (by simp [livH, livO, AV.livL, AV.liv, wkL, wkV, List.range', logO, logB, batR, devAt, batchA_liv, withF]) (by simp [livH, livO, AV.livL, AV.liv, wkL, wkV, List.range', slotsOf])
            · rw [hfl, if_pos rfl] at hF
              rw [hF] at hI
              simp only at hI
              simp (maxSteps := 1000000) [hho, hfl, ew, roOf, holdOf, wrOf, altK, heldOk, Region.binds, -List.reduceReplicate]
              obtain ⟨bt, hbt⟩ : ∃ bt, bt = x.batch ++ f.body := ⟨_, rfl⟩
              have hbl : bt.length = x.batch.length + f.body.length := by rw [hbt]; simp
              obtain ⟨y, hy⟩ : ∃ y : FSt, y = ⟨f.epoch, false, [], x.bs ++ [bt], k + 1⟩ := ⟨_, rfl⟩
              refine ⟨by omega, by omega, cut_to y ⟨by rw [hy, hbt]; exact hI, by rw [hy]; simp, by rw [hy]; simp; omega, by rw [hy]; simp only; omega, by rw [hy]; simp only; omega⟩ ?_⟩
              obtain ⟨tt, htt⟩ : ∃ tt, tt = slotsOf 96 [(0, .ptr 0 0 9), (3, .c (.int .i64 f.epoch)), (4, .c (.bool false)), (5, .c (.slice none 0 0)), (19, .c (.int .i64 n)), (20, .c (.int .i64 (k : Int)))] := ⟨_, rfl⟩
              obtain ⟨hb0, hhb0⟩ : ∃ hb0, hb0 = logB (withF L y) 1 4 :: devAt 1 D := ⟨_, rfl⟩
              have hl0 : hb0.length = 4 := by rw [hhb0]; simp [devAt]
              refine Wk.trans (s' := ⟨tt, hb0 ++ [.o (.row 33 1) (batchA x.bs ++ [.sl 5 1 0 bt.length bt.length]), .o (.row 5 1) (u8av bt)]⟩) (wk_of 6 3 (by simp) (by simp [hE, logO, devAt, lens]) (by simp [hhb0, hy, logO, logB, batR, devAt, withF, hbt, u8av_app]) (by simp [livH, livO, AV.livL, AV.liv, wkL, wkV, List.range', hhb0, logO, logB, batR, devAt, batchA_liv, livL_app]) (by simp [livH, livO, AV.livL, AV.liv, wkL, wkV, List.range', slotsOf, htt])) ?_
              refine Wk.trans (wk_data 4 x.bs.length 5 (kd := .row 33 1) (cs := batchA x.bs ++ [.sl 5 1 0 bt.length bt.length]) (l := u8av bt) (e := 5) (sz := 1) (n := bt.length) (m := bt.length) (by rw [hho]; rfl) (by decide) (by rw [List.getElem?_append_right (by omega), hl0]; rfl) (by rw [List.getElem?_append_right (by simp)]; simp) (by rw [List.getElem?_append_right (by omega), hl0]; rfl) (by simp) (by simp) (by simp [maxLen]; omega) (by simp)) ?_
              have est : (batchA x.bs ++ [AV.sl 5 1 0 bt.length bt.length]).set x.bs.length (.fs 1 bt.length (u8av bt)) = batchA (x.bs ++ [bt]) := by
                have hlj : (batchA x.bs).length = x.bs.length := by simp
                rw [List.set_append_right _ _ (by omega), hlj, Nat.sub_self, batchA_snoc]; rfl
              refine Wk.trans (s' := ⟨tt, hb0 ++ [.o (.row 33 1) (batchA (x.bs ++ [bt]))]⟩) (wk_of 5 1 (by simp [hl0]) (by simp [hE, logO, devAt, lens]) (by simp only [est, hhb0]; simp [devAt]) (by simp [livH, livO, AV.livL, AV.liv, wkL, wkV, List.range', hhb0, logO, logB, batR, devAt, batchA_liv]) (by simp [livH, livO, AV.livL, AV.liv, wkL, wkV, List.range', slotsOf, htt])) ?_
              refine Wk.trans (wk_virt 5 5 1 (by rw [htt]; rfl)) ?_
              exact wk_all (by simp [hE, logO, devAt, lens, hl0]) (by simp [hhb0, hy, logO, logB, batR, devAt, withF, batchA_snoc]) (by simp [livH, livO, AV.livL, AV.liv, wkL, wkV, List.range', slotsOf, htt, hl0, hy])
    · obtain rfl : k = n := by omega
      rw [Nat.sub_self] at hI
      simp (maxSteps := 1000000) [logO, logB, batR, devAt, withF, slotsOf, hho, -List.reduceReplicate]
      rw [framesTo] at hI
      refine Ret.sel [0, 1, 2, 3, 4] (fun _ => false) (ho := by rfl) (ha := by rfl) ?_ ?_ (by decide) (by simp) (st_pre 4 [4] _) ⟨rfl, ?_⟩
      · simp
      · simp
      · rw [← hI]
end Go.Proofs.Ytmgpiminicgbiaa
