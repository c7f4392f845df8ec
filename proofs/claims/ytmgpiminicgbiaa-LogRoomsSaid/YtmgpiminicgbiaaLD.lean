import Derived.Test.YtmgpiminicgbiaaLC
import Derived.Test.YtmgpiminicgbiaaFz
namespace Go.Proofs.Ytmgpiminicgbiaa
set_option linter.unusedVariables false
set_option linter.unusedSimpArgs false
open Go.RowKit
attribute [local simp] isCut_nil isCut_region isCut_seq isCut_block isCut_loop isCut_cond isCut_skip isCut_exit isCut_ret isCut_range swapK putK altK condK_bool pickP_bool stepP stepO onPure_some onPure_none onImpl_some onImpl_none stepC onGP_some onGP_none onGV_some condG mkG onIt_it nextP_ptr takeP_eq takeV_some takeN_none takeN_some takeG_some takeO_some altO_some pureV binV intBin strBin isSh shV fldV ixV sliceV loadAV nilV lenV callV unV convV viewS cellsH loadV fldCut AV.ung AV.gc AV.cells AS.ev AS.put anyS gcsV lens lnO gV guardV retK RetP_eq resV oneV anyRo loIx hiIx implO callP_clo evL gcsL storeAV AS.push AS.setO appV copyV buildV partsV fillV srcV fzO okV isCell_c isCell_ptr isCell_sl isCell_fs isCell_fp isCell_clo rowZ_one rowZ_zero rowZ_2 rowZ_3 rowZ_4 rowZ_5 rowZ_6 rowZ_7 rowZ_8 rowZ_9 rowZ_10 rowZ_11 rowZ_12 noHo Value.oneCell' max2V min2V afterH putBack frzFrom frzO rebO backIx nilEq_sl nilEq_fs nilOp_eql nilOp_neq AV.reb AV.rebL
attribute [local simp ↓] runK_skip runK_region runK_draw runK_seq runK_cut runK_cond runK_block runK_loop runK_exit runK_label runK_goto runK_ret runK_range contK_nil contK_seq contK_seq_ret contK_seq_exit contK_seq_goto contK_block contK_block_ret contK_block_goto contK_block_exit runO_nil runO_cons roundK_exit roundK_ret roundK_goto exitK_ret cutK_ret cutK_exit runE_done runE_nil runE_take runE_alt condG_true condG_false
set_option maxRecDepth 10000
/-! ## The log -/
structure LogS where
  frames : Int
  h : HeadS
  at_ : Int
  bs : List (List UInt8)
  down : Bool
def batchA (l : List (List UInt8)) : List AV := l.map fun b => .fs 1 b.length (u8av b)
@[simp] theorem batchA_length (l : List (List UInt8)) : (batchA l).length = l.length := by simp [batchA]
@[simp] theorem batchA_take (l : List (List UInt8)) : List.take l.length (batchA l) = batchA l := List.take_of_length_le (by simp)
@[simp] theorem batchA_all (l : List (List UInt8)) : (∀ x ∈ batchA l, isD x = true) ↔ True := iff_true_intro <| by simp [batchA, isD]
@[simp] theorem batchA_cell (l : List (List UInt8)) : (∀ x ∈ batchA l, isCell x = true) ↔ True := iff_true_intro <| by simp [batchA, isCell_fs]
theorem batchA_snoc (l : List (List UInt8)) (b : List UInt8) : batchA (l ++ [b]) = batchA l ++ [.fs 1 b.length (u8av b)] := by simp [batchA]
theorem batchA_liv (dead : List Nat) (l : List (List UInt8)) : AV.livL dead (batchA l) = true := by
  induction l with
  | nil => rfl
  | cons b l ih => simpa [batchA, AV.livL, AV.liv] using ih
theorem livL_app (dead : List Nat) (a b : List AV) : AV.livL dead (a ++ b) = (AV.livL dead a && AV.livL dead b) := by
  induction a with
  | nil => simp [AV.livL]
  | cons x a ih => simp [AV.livL, ih, Bool.and_assoc]
theorem batchA_get (l : List (List UInt8)) (j : Nat) (hj : j < l.length) : (batchA l)[j]? = some (.fs 1 l[j].length (u8av l[j])) := by simp [batchA, hj]
/-- the log's own block -/
def logB (L : LogS) (d bt : Nat) : AObj := .o .box [.ptr d 0 5, .c (.int .i64 L.frames), .c (.int .i64 L.h.n), .c (.int .i64 L.h.epoch), .c (.int .i64 L.h.base), .fs 1 L.h.body.length (u8av L.h.body), .c (.int .i64 L.at_), .sl bt 1 0 L.bs.length L.bs.length, .c (.bool L.down)]
def batR (l : List (List UInt8)) : AObj := .o (.row 33 1) (batchA l)
/-- a log on its device -/
def logO (D : DevS) (L : LogS) : List AObj := logB L 1 4 :: devAt 1 D ++ [batR L.bs]
theorem up_log (D : DevS) (L : LogS) : ACalls Try.prog 36 [.ptr 0 0 9] (logO D L) (fun _ => true) (fun r h' => r = .c (.int .i64 (if L.down = true then 60 else 0)) ∧ h' = logO D L) := by
  refine acalls mixed Try.func36 rfl Try.ntmps36 rfl fun E hE _ hho => ?_
  simp [logO, logB, batR, devAt, hho, noHo, -List.reduceReplicate]
  split <;> exact Ret.same ⟨by simp_all, rfl⟩
theorem epoch_log (D : DevS) (L : LogS) : ACalls Try.prog 20 [.ptr 0 0 9] (logO D L) (fun _ => true) (fun r h' => r = .c (.int .i64 L.h.epoch) ∧ h' = logO D L) := by
  refine acalls mixed Try.func20 rfl Try.ntmps20 rfl fun E hE _ hho => ?_
  simp [logO, logB, batR, devAt, hho, noHo, -List.reduceReplicate]
  exact Ret.same ⟨rfl, rfl⟩
def roomL (L : LogS) : Int := if L.down = true then 0 else L.frames - L.at_
theorem room_log (D : DevS) (L : LogS) (hf : 0 ≤ L.frames ∧ L.frames ≤ 1000000) (ha : 0 ≤ L.at_ ∧ L.at_ ≤ 1000000) : ACalls Try.prog 19 [.ptr 0 0 9] (logO D L) (fun _ => true) (fun r h' => r = .c (.int .i64 (roomL L)) ∧ h' = logO D L) := by
  refine acalls mixed Try.func19 rfl Try.ntmps19 rfl fun E hE _ hho => ?_
  have ew : IntKind.i64.wrap (L.frames - L.at_) = L.frames - L.at_ := IntWalk.i64_in _ (by omega)
  simp [logO, logB, batR, devAt, hho, noHo, -List.reduceReplicate]
  split
  · rename_i hd
    refine Ret.same ⟨by simp [roomL, hd], rfl⟩
  · rename_i hd
    refine draw_k hho (.take 0 (.take 1 (.take 2 (.take 3 (.take 4 (.take 5 (.take 6 (.take 7 (.take 8 (.take 9 (.done))))))))))) [0] [] (by decide +kernel) (by simp) ?_
    simp [roOf, holdOf, wrOf, altK, heldOk, Region.binds, ew, -List.reduceReplicate]
    refine Ret.same ⟨by simp [roomL, hd], rfl⟩
theorem head_log (D : DevS) (L : LogS) (hb : L.h.body.length ≤ 1000000) : ACalls Try.prog 18 [.ptr 0 0 9] (logO D L) (fun k => decide (k < 5)) (fun r h' => r = .sl 5 1 0 L.h.body.length L.h.body.length ∧ h' = logO D L ++ [.o (.row 5 1) (u8av L.h.body)]) := by
  refine acalls mixed Try.func18 rfl Try.ntmps18 rfl fun E hE _ hho => ?_
  simp [logO, logB, batR, devAt, hho, noHo, -List.reduceReplicate]
  refine call_x [] (clone8_fs L.h.body.length (u8av L.h.body) (by simp) (by omega) (by simp)) rfl rfl ⟨rfl, rfl⟩ hho (by simp) (by decide) (by simp) (by simp) ?_
  simp (maxSteps := 1000000) [hho, -List.reduceReplicate]
  exact Ret.same ⟨rfl, rfl⟩
theorem batches_log (D : DevS) (L : LogS) (hb : ∀ b ∈ L.bs, b.length ≤ 1000000) (hl : L.bs.length ≤ 1000000) : ACalls Try.prog 16 [.ptr 0 0 9] (logO D L) (fun k => decide (k < 5)) (fun r h' => r = .fs 1 L.bs.length (batchA L.bs) ∧ h' = logO D L) := by
  refine acalls mixed Try.func16 rfl Try.ntmps16 rfl fun E hE _ hho => ?_
  simp [logO, logB, batR, devAt, hho, noHo, -List.reduceReplicate]
  refine loop_k mixed (fun j : Nat => ⟨slotsOf 24 [(3, .sl 5 1 0 j j), (11, .sl 4 1 0 L.bs.length L.bs.length), (12, .c (.int .i64 L.bs.length)), (13, .c (.int .i64 (j : Int)))], logO D L ++ [batR (L.bs.take j)]⟩) (fun j => L.bs.length - j) (fun j => j ≤ L.bs.length) 0 (Nat.zero_le _) ?_ ?_
  · refine Wk.trans (wk_virt 3 33 1 rfl) ?_
    exact wk_all (by simp [hE, logO, devAt, lens]) (by simp [logO, logB, batR, devAt, batchA]) (by simp [livH, livO, AV.livL, AV.liv, wkL, wkV, List.range', slotsOf])
  · intro j hj
    by_cases hjl : j < L.bs.length
    · have hb2 := hb _ (List.getElem_mem hjl)
      have hm : min j L.bs.length = j := by omega
      have hg : (List.drop j (batchA L.bs))[0]? = some (.fs 1 L.bs[j].length (u8av L.bs[j])) := by rw [List.getElem?_drop, Nat.add_zero, batchA_get _ _ hjl]
      have ew : IntKind.i64.wrap ((j : Int) + 1) = (j + 1 : Nat) := by rw [IntWalk.i64_in _ (by omega)]; rfl
      simp (maxSteps := 1000000) [logO, logB, batR, devAt, slotsOf, hho, hjl, hg, -List.reduceReplicate]
      refine ⟨by omega, ?_⟩
      refine call_x [] (clone8_fs L.bs[j].length (u8av L.bs[j]) (by simp) (by omega) (by simp)) rfl rfl ⟨rfl, rfl⟩ hho (by simp) (by decide) (by simp) (by simp) ?_
      simp (maxSteps := 1000000) [hho, ew, hm, -List.reduceReplicate]
      obtain ⟨tt, htt⟩ : ∃ tt, tt = slotsOf 24 [(3, .sl 5 1 0 (j + 1) (j + 1)), (11, .sl 4 1 0 L.bs.length L.bs.length), (12, .c (.int .i64 L.bs.length)), (13, .c (.int .i64 ((j + 1 : Nat) : Int)))] := ⟨_, rfl⟩
      obtain ⟨hb0, hhb0⟩ : ∃ hb0, hb0 = logO D L := ⟨_, rfl⟩
      have hl0 : hb0.length = 5 := by rw [hhb0]; simp [logO, devAt]
      refine ⟨by omega, round_next (j + 1) (by omega) (by omega) ?_⟩
      refine Wk.trans (s' := ⟨tt, hb0 ++ [.o (.row 33 1) (batchA (L.bs.take j) ++ [.sl 6 1 0 L.bs[j].length L.bs[j].length]), .o (.row 5 1) (u8av L.bs[j])]⟩) (wk_of 7 1 (by simp) (by simp [hE, logO, devAt, lens]) (by simp [hhb0, logO, logB, batR, devAt]) (by simp [livH, livO, AV.livL, AV.liv, wkL, wkV, List.range', hhb0, logO, logB, batR, devAt, batchA_liv, livL_app]) (by simp [livH, livO, AV.livL, AV.liv, wkL, wkV, List.range', slotsOf, htt])) ?_
      refine Wk.trans (wk_data 5 j 6 (kd := .row 33 1) (cs := batchA (L.bs.take j) ++ [.sl 6 1 0 L.bs[j].length L.bs[j].length]) (l := u8av L.bs[j]) (e := 5) (sz := 1) (n := L.bs[j].length) (m := L.bs[j].length) (by rw [hho]; rfl) (by decide) (by rw [List.getElem?_append_right (by omega), hl0]; rfl) (by rw [List.getElem?_append_right (by simp; omega)]; simp [hm]) (by rw [List.getElem?_append_right (by omega), hl0]; rfl) (by simp) (by simp) (by simp [maxLen]; omega) (by simp)) ?_
      refine wk_of 6 1 (by simp [hl0]) (by simp [hE, logO, devAt, lens]) ?_ (by simp [livH, livO, AV.livL, AV.liv, wkL, wkV, List.range', logO, logB, batR, devAt, batchA_liv]) (by simp [livH, livO, AV.livL, AV.liv, wkL, wkV, List.range', slotsOf, htt])
      have est : (batchA (L.bs.take j) ++ [AV.sl 6 1 0 L.bs[j].length L.bs[j].length]).set j (.fs 1 L.bs[j].length (u8av L.bs[j])) = batchA (L.bs.take (j + 1)) := by
        have hlj : (batchA (L.bs.take j)).length = j := by simp; omega
        rw [List.set_append_right _ _ (by omega), hlj, Nat.sub_self, List.take_succ_eq_append_getElem hjl, batchA_snoc]; rfl
      simp only [est, hhb0]
      simp [logO, logB, batR, devAt]
    · obtain rfl : j = L.bs.length := by omega
      simp (maxSteps := 1000000) [logO, logB, batR, devAt, slotsOf, hho, -List.reduceReplicate]
      refine Ret.sel [0, 1, 2, 3, 4] (fun k => k == 5) (ho := by rfl) (ha := by rfl) ?_ ?_ (by decide) (by simp) (st_lt 5 _) ⟨?_, ?_⟩
      · simp
      · simp [maxLen]; omega
      · simp
      · rfl
end Go.Proofs.Ytmgpiminicgbiaa
