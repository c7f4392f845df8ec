import Derived.Test.YtmgpiminicgbiaaS4
namespace Go.Proofs.Ytmgpiminicgbiaa
set_option linter.unusedVariables false
set_option linter.unusedSimpArgs false
open Go.RowKit
attribute [local simp] isCut_nil isCut_region isCut_seq isCut_block isCut_loop isCut_cond isCut_skip isCut_exit isCut_ret isCut_range swapK putK altK condK_bool pickP_bool stepP stepO onPure_some onPure_none onImpl_some onImpl_none stepC onGP_some onGP_none onGV_some condG mkG onIt_it nextP_ptr takeP_eq takeV_some takeN_none takeN_some takeG_some takeO_some altO_some pureV binV intBin strBin isSh shV fldV ixV sliceV loadAV nilV lenV callV unV convV viewS cellsH loadV fldCut AV.ung AV.gc AV.cells AS.ev AS.put anyS gcsV lens lnO gV guardV retK RetP_eq resV oneV anyRo loIx hiIx implO callP_clo evL gcsL storeAV AS.push AS.setO appV copyV buildV partsV fillV srcV fzO okV isCell_c isCell_ptr isCell_sl isCell_fs isCell_fp isCell_clo rowZ_one rowZ_zero rowZ_2 rowZ_3 rowZ_4 rowZ_5 rowZ_6 rowZ_7 rowZ_8 rowZ_9 rowZ_10 rowZ_11 rowZ_12 noHo Value.oneCell' max2V min2V afterH putBack frzFrom frzO rebO backIx nilEq_sl nilEq_fs nilOp_eql nilOp_neq AV.reb AV.rebL
attribute [local simp ↓] runK_skip runK_region runK_draw runK_seq runK_cut runK_cond runK_block runK_loop runK_exit runK_label runK_goto runK_ret runK_range contK_nil contK_seq contK_seq_ret contK_seq_exit contK_seq_goto contK_block contK_block_ret contK_block_goto contK_block_exit runO_nil runO_cons roundK_exit roundK_ret roundK_goto exitK_ret cutK_ret cutK_exit runE_done runE_nil runE_take runE_alt condG_true condG_false
set_option maxRecDepth 10000
def strB (b : B64) : ByteArray := ⟨b.1.toArray⟩
def strV (b : B64) : AV := .c (.string (strB b))
@[simp] theorem strB_size (b : B64) : (strB b).size = 64 := by simp [strB, ByteArray.size, b.2]
def refK (l : List B64) : List AV := l.map strV
def refWc (x : Nat × B64) : List AV := [.c (.int .i64 (x.1 : Int)), strV x.2]
def refW (l : List (Nat × B64)) : List AV := l.flatMap refWc
@[simp] theorem refK_length (l : List B64) : (refK l).length = l.length := by simp [refK]
@[simp] theorem refW_length (l : List (Nat × B64)) : (refW l).length = l.length * 2 := by
  induction l with
  | nil => rfl
  | cons b l ih => simp [refW, refWc] at ih ⊢; omega
def leftR (d : DevS) : Int := if d.bound then d.left else -1
/-- the reference's device, told by the same state -/
def refO (d : DevS) : List AObj :=
  [.o .box [.sl 1 1 0 d.kept.length d.kept.length, .sl 2 2 0 d.wait.length (d.wait.length * 2), .c (.int .i64 (leftR d)), .c (.int .i64 d.calls)],
   .o (.row 9 1) (refK d.kept), .o (.row 101 2) (refW d.wait)]
theorem r6check_ref (d : DevS) (hd : d.Ok) (i : Int) (b : ByteArray) : ACalls Try.prog 48 [.ptr 0 0 4, .c (.int .i64 i), .c (.string b)] (refO d) (fun _ => true) (fun r h' => r = .c (.int .i64 (checkS d i b.size)) ∧ h' = refO d) := by
  have hl := hd.l1
  refine acalls mixed Try.func48 rfl Try.ntmps48 rfl fun E hE _ hho => ?_
  simp [refO, -List.reduceReplicate]
  have e : checkS d i b.size = if i < 0 ∨ (d.kept.length : Int) ≤ i ∨ 64 < b.size then 2 else if leftR d = 0 then 60 else 0 := by
    unfold checkS leftR
    cases d.bound <;> simp
  rw [e]
  clear e
  (repeat' (first | apply And.intro | split | intro _)) <;> refine Ret.same ⟨?_, rfl⟩ <;> simp only [AV.c.injEq, Value.int.injEq, true_and] <;> grind
theorem r6count_ref (d : DevS) (hc : 0 ≤ d.calls ∧ d.calls ≤ 1000000) (hl : d.bound = true → 1 ≤ d.left ∧ d.left ≤ 9223372036854775807) : ACalls Try.prog 49 [.ptr 0 0 4] (refO d) (fun _ => true) (fun r h' => r = .tup [] ∧ h' = refO (countS d)) := by
  refine acalls mixed Try.func49 rfl Try.ntmps49 rfl fun E hE _ hho => ?_
  have e1 : IntKind.i64.wrap (d.calls + 1) = d.calls + 1 := IntWalk.i64_in _ (by omega)
  simp [refO, hho, -List.reduceReplicate]
  cases hbd : d.bound
  · have e : leftR d = -1 := by simp [leftR, hbd]
    rw [if_neg (by omega)]
    refine Ret.same ⟨rfl, ?_⟩
    simp [countS, e1, hbd, leftR]
  · have e : leftR d = d.left := by simp [leftR, hbd]
    have := hl hbd
    rw [if_pos (by omega)]
    have e2 : IntKind.i64.wrap (d.left - 1) = d.left - 1 := IntWalk.i64_in _ (by omega)
    refine Ret.same ⟨rfl, ?_⟩
    simp [countS, e1, e2, hbd, leftR]
theorem r6bound_ref (d : DevS) (i : Int) : ACalls Try.prog 25 [.ptr 0 0 4, .c (.int .i64 i)] (refO d) (fun _ => true) (fun r h' => r = .tup [] ∧ h' = refO { d with bound := true, left := max i 0 }) := by
  refine acalls mixed Try.func25 rfl Try.ntmps25 rfl fun E hE _ hho => ?_
  simp [refO, hho, -List.reduceReplicate]
  exact Ret.same ⟨rfl, rfl⟩
def fullB (b : ByteArray) (n : Nat) : ByteArray := b ++ ⟨Array.replicate n 0⟩
theorem fullB_zero (b : ByteArray) : fullB b 0 = b := by
  apply ByteArray.ext; simp [fullB]
theorem fullB_succ (b : ByteArray) (j : Nat) : fullB b j ++ (⟨#[0]⟩ : ByteArray) = fullB b (j + 1) := by
  apply ByteArray.ext
  simp [fullB, ByteArray.data_append, Array.replicate_succ]
theorem fullB_size (b : ByteArray) (j : Nat) : (fullB b j).size = b.size + j := by
  simp only [fullB, ByteArray.size_append]
  congr 1
  exact Array.size_replicate
theorem full_ref (b : ByteArray) (hb : b.size ≤ 1000000) : ACalls Try.prog 40 [.c (.string b)] [] (fun _ => false) (fun r h' => r = .c (.string (fullB b (64 - b.size))) ∧ h' = []) := by
  refine acalls mixed Try.func40 rfl Try.ntmps40 rfl fun E hE _ hho => ?_
  simp [hho, -List.reduceReplicate]
  refine loop_k mixed (fun j : Nat => ⟨slotsOf 9 [(0, .c (.string (fullB b j)))], []⟩) (fun j => 64 - b.size - j) (fun j => j ≤ 64 - b.size) 0 (by simp) ?_ ?_
  · simp [slotsOf]
    refine wk_of 0 0 rfl (by simp [hE, lens]) rfl rfl ?_
    simp [livH, livO, AV.livL, AV.liv, wkL, wkV, List.range', fullB_zero]
  · intro j hj
    simp [slotsOf, hho, fullB_size, fullB_succ, -List.reduceReplicate]
    split <;> rename_i h
    · have e1 : (⟨#[0]⟩ : ByteArray).size = 1 := rfl
      rw [e1]
      refine ⟨by omega, round_next (j + 1) (by omega) (by omega) ?_⟩
      refine wk_of 0 0 rfl (by simp [hE, lens]) rfl rfl ?_
      simp [livH, livO, AV.livL, AV.liv, wkL, wkV, List.range']
    · obtain rfl : j = 64 - b.size := by omega
      exact Ret.same ⟨rfl, rfl⟩
end Go.Proofs.Ytmgpiminicgbiaa
