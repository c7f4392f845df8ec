import Derived.Test.YtmgpiminicgbiaaD1
namespace Go.Proofs.Ytmgpiminicgbiaa
set_option linter.unusedVariables false
set_option linter.unusedSimpArgs false
open Go.RowKit
attribute [local simp] isCut_nil isCut_region isCut_seq isCut_block isCut_loop isCut_cond isCut_skip isCut_exit isCut_ret isCut_range swapK putK altK condK_bool pickP_bool stepP stepO onPure_some onPure_none onImpl_some onImpl_none stepC onGP_some onGP_none onGV_some condG mkG onIt_it nextP_ptr takeP_eq takeV_some takeN_none takeN_some takeG_some takeO_some altO_some pureV binV intBin strBin isSh shV fldV ixV sliceV loadAV nilV lenV callV unV convV viewS cellsH loadV fldCut AV.ung AV.gc AV.cells AS.ev AS.put anyS gcsV lens lnO gV guardV retK RetP_eq resV oneV anyRo loIx hiIx implO callP_clo evL gcsL storeAV AS.push AS.setO appV copyV buildV partsV fillV srcV fzO okV isCell_c isCell_ptr isCell_sl isCell_fs isCell_fp isCell_clo rowZ_one rowZ_zero rowZ_2 rowZ_3 rowZ_4 rowZ_5 rowZ_6 rowZ_7 rowZ_8 rowZ_9 rowZ_10 rowZ_11 rowZ_12 noHo Value.oneCell' max2V min2V afterH putBack frzFrom frzO rebO backIx nilEq_sl nilEq_fs nilOp_eql nilOp_neq AV.reb AV.rebL
attribute [local simp ↓] runK_skip runK_region runK_draw runK_seq runK_cut runK_cond runK_block runK_loop runK_exit runK_label runK_goto runK_ret runK_range contK_nil contK_seq contK_seq_ret contK_seq_exit contK_seq_goto contK_block contK_block_ret contK_block_goto contK_block_exit runO_nil runO_cons roundK_exit roundK_ret roundK_goto exitK_ret cutK_ret cutK_exit runE_done runE_nil runE_take runE_alt condG_true condG_false
set_option maxRecDepth 10000
/-! ## Numbers of so many bytes -/
def beB (v : Int) (size i : Nat) : UInt8 := UInt8.ofNat (IntKind.u8.wrap (v.fdiv (2 ^ (8 * (size - 1 - i))))).toNat
def putN (l : List UInt8) (off : Nat) (v : Int) (size i : Nat) : List UInt8 := l.take off ++ (List.range i).map (beB v size) ++ l.drop (off + i)
theorem putN_length (l : List UInt8) (off : Nat) (v : Int) (size i : Nat) (h : off + i ≤ l.length) : (putN l off v size i).length = l.length := by simp [putN]; omega
theorem putN_succ (l : List UInt8) (off : Nat) (v : Int) (size i : Nat) (h : off + i < l.length) : (putN l off v size i).set (off + i) (beB v size i) = putN l off v size (i + 1) := by
  have e : (l.take off ++ (List.range i).map (beB v size)).length = off + i := by simp; omega
  unfold putN
  rw [List.set_append_right _ _ (by rw [e]; exact Nat.le_refl _), e, Nat.sub_self, List.drop_eq_getElem_cons h, List.set_cons_zero, List.range_succ]
  simp [Nat.add_assoc]
theorem put_row (off n m : Nat) (v : Int) (size : Nat) (l : List UInt8) (hm : l.length = m) (h1 : off + n ≤ m) (h2 : size ≤ n) (h8 : size ≤ 8) : ACalls Try.prog 63 [.sl 0 1 off n m, .c (.int .i64 v), .c (.int .i64 size)] [.o (.row 5 1) (u8av l)] (fun _ => true) (fun r h' => r = .tup [] ∧ h' = [.o (.row 5 1) (u8av (putN l off v size size))]) := by
  refine acalls mixed Try.func63 rfl Try.ntmps63 rfl fun E hE _ hho => ?_
  simp (maxSteps := 1000000) [hho, -List.reduceReplicate]
  refine loop_k mixed (fun i : Nat => ⟨slotsOf 23 [(0, .sl 0 1 off n m), (1, .c (.int .i64 v)), (2, .c (.int .i64 size)), (7, .c (.int .i64 size)), (8, .c (.int .i64 (i : Int)))], [.o (.row 5 1) (u8av (putN l off v size i))]⟩) (fun i => size - i) (fun i => i ≤ size) 0 (Nat.zero_le _) ?_ ?_
  · exact wk_all (by simp [hE, lens]) (by simp [putN]) (by simp [livH, livO, AV.livL, AV.liv, wkL, wkV, List.range', slotsOf])
  · intro i hi
    by_cases his : i < size
    · have hl := putN_length l off v size i (by omega)
      obtain ⟨sh, hsh⟩ : ∃ sh, sh = 8 * (size - 1 - i) := ⟨_, rfl⟩
      have esh : IntKind.i64.wrap (8 * IntKind.i64.wrap (IntKind.i64.wrap ((size : Int) - 1) - i)) = (sh : Int) := by
        rw [IntWalk.i64_in ((size : Int) - 1) (by omega), IntWalk.i64_in ((size : Int) - 1 - i) (by omega), IntWalk.i64_in _ (by omega)]; omega
      have em : min sh IntKind.i64.bits = sh := by have : IntKind.i64.bits = 64 := rfl; omega
      have ew : IntKind.i64.wrap ((i : Int) + 1) = (i + 1 : Nat) := by rw [IntWalk.i64_in _ (by omega)]; rfl
      have hin : i < n := by omega
      have hom : off + i + 1 ≤ m := by omega
      simp (maxSteps := 1000000) [slotsOf, hho, his, hl, hm, esh, em, ew, hin, hom, -List.reduceReplicate]
      have eb : UInt8.ofNat (IntKind.u8.wrap (v.fdiv (2 ^ sh))).toNat = beB v size i := by rw [hsh]; rfl
      simp only [u8_of_wrap, eb]
      rw [u8av_put _ _ _ (by rw [hl]; omega), putN_succ _ _ _ _ _ (by omega)]
      exact round_next (i + 1) (by omega) (by omega) (wk_all (by simp [hE, lens]) (by simp) (by simp [livH, livO, AV.livL, AV.liv, wkL, wkV, List.range']))
    · obtain rfl : i = size := by omega
      simp (maxSteps := 1000000) [slotsOf, hho, -List.reduceReplicate]
      exact Ret.same ⟨rfl, rfl⟩
def getStep (u : Nat) (c : UInt8) : Nat := (u * 256 + c.toNat) % 18446744073709551616
def getU (l : List UInt8) : Nat := l.foldl getStep 0
theorem getU_snoc (l : List UInt8) (c : UInt8) : getU (l ++ [c]) = getStep (getU l) c := by simp [getU]
theorem get_or (u : Nat) (c : UInt8) : IntKind.u64.wrap ((((IntKind.u64.wrap ((u : Int) * 2 ^ min 8 IntKind.u64.bits) % 2 ^ IntKind.u64.bits).toNat ||| (IntKind.u64.wrap (c.toNat : Int) % 2 ^ IntKind.u64.bits).toNat : Nat) : Int)) = (getStep u c : Nat) := by
  have hc := c.toNat_lt
  have hb : IntKind.u64.bits = 64 := rfl
  have h8 : min 8 IntKind.u64.bits = 8 := rfl
  rw [h8, hb, IntKind.wrap_u64, IntKind.wrap_u64, IntKind.wrap_u64]
  have e1 : ((u : Int) * 2 ^ 8 % 18446744073709551616 % 2 ^ 64).toNat = 2 ^ 8 * (u % 72057594037927936) := by omega
  have e2 : ((c.toNat : Int) % 18446744073709551616 % 2 ^ 64).toNat = c.toNat := by omega
  rw [e1, e2, ← Nat.two_pow_add_eq_or_of_lt (by omega)]
  unfold getStep
  omega
theorem get_row (off n m size : Nat) (l : List UInt8) (hm : l.length = m) (h1 : off + n ≤ m) (h2 : size ≤ n) (h8 : size ≤ 8) (e : TypeId) : ACalls Try.prog 61 [.sl 0 1 off n m, .c (.int .i64 size)] [.o (.row e 1) (u8av l)] (fun _ => true) (fun r h' => r = .c (.int .i64 (IntKind.i64.wrap (getU ((l.drop off).take size)))) ∧ h' = [.o (.row e 1) (u8av l)]) := by
  refine acalls mixed Try.func61 rfl Try.ntmps61 rfl fun E hE _ hho => ?_
  simp (maxSteps := 1000000) [hho, hm, h2, -List.reduceReplicate]
  refine loop_k mixed (fun x : Nat => ⟨slotsOf 24 [(5, .c (.int .u64 (getU ((l.drop off).take x) : Nat))), (10, .sl 0 1 off size m), (11, .c (.int .i64 size)), (12, .c (.int .i64 (x : Int)))], [.o (.row e 1) (u8av l)]⟩) (fun i => size - i) (fun i => i ≤ size) 0 (Nat.zero_le _) ?_ ?_
  · exact wk_all (by simp [hE, lens]) (by simp) (by simp [livH, livO, AV.livL, AV.liv, wkL, wkV, List.range', slotsOf, getU])
  · intro i hi
    by_cases his : i < size
    · have hol : off + i < l.length := by omega
      have hom : off + i + 1 ≤ m := by omega
      have ew : IntKind.i64.wrap ((i : Int) + 1) = (i + 1 : Nat) := by rw [IntWalk.i64_in _ (by omega)]; rfl
      simp (maxSteps := 1000000) [slotsOf, hho, his, hm, hom, ew, u8av_drop0 l (off + i) hol, -List.reduceReplicate]
      rw [get_or, ← getU_snoc]
      have et : List.take i (List.drop off l) ++ [l[off + i]] = List.take (i + 1) (List.drop off l) := by
        rw [List.take_succ_eq_append_getElem (by simp; omega)]; simp
      rw [et]
      exact round_next (i + 1) (by omega) (by omega) (wk_all (by simp [hE, lens]) (by simp) (by simp [livH, livO, AV.livL, AV.liv, wkL, wkV, List.range']))
    · obtain rfl : i = size := by omega
      simp (maxSteps := 1000000) [slotsOf, hho, -List.reduceReplicate]
      exact Ret.same ⟨rfl, rfl⟩
end Go.Proofs.Ytmgpiminicgbiaa
