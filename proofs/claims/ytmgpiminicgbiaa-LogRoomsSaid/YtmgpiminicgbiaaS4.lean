import Derived.Test.YtmgpiminicgbiaaS3
namespace Go.Proofs.Ytmgpiminicgbiaa
set_option linter.unusedVariables false
set_option linter.unusedSimpArgs false
open Go.RowKit
attribute [local simp] isCut_nil isCut_region isCut_seq isCut_block isCut_loop isCut_cond isCut_skip isCut_exit isCut_ret isCut_range swapK putK altK condK_bool pickP_bool stepP stepO onPure_some onPure_none onImpl_some onImpl_none stepC onGP_some onGP_none onGV_some condG mkG onIt_it nextP_ptr takeP_eq takeV_some takeN_none takeN_some takeG_some takeO_some altO_some pureV binV intBin strBin isSh shV fldV ixV sliceV loadAV nilV lenV callV unV convV viewS cellsH loadV fldCut AV.ung AV.gc AV.cells AS.ev AS.put anyS gcsV lens lnO gV guardV retK RetP_eq resV oneV anyRo loIx hiIx implO callP_clo evL gcsL storeAV AS.push AS.setO appV copyV buildV partsV fillV srcV fzO okV isCell_c isCell_ptr isCell_sl isCell_fs isCell_fp isCell_clo rowZ_one rowZ_zero rowZ_2 rowZ_3 rowZ_4 rowZ_5 rowZ_6 rowZ_7 rowZ_8 rowZ_9 rowZ_10 rowZ_11 rowZ_12 noHo Value.oneCell' max2V min2V afterH putBack frzFrom frzO rebO backIx nilEq_sl nilEq_fs nilOp_eql nilOp_neq AV.reb AV.rebL
attribute [local simp ↓] runK_skip runK_region runK_draw runK_seq runK_cut runK_cond runK_block runK_loop runK_exit runK_label runK_goto runK_ret runK_range contK_nil contK_seq contK_seq_ret contK_seq_exit contK_seq_goto contK_block contK_block_ret contK_block_goto contK_block_exit runO_nil runO_cons roundK_exit roundK_ret roundK_goto exitK_ret cutK_ret cutK_exit runE_done runE_nil runE_take runE_alt condG_true condG_false
set_option maxRecDepth 10000
def tearB (old new : B64) (n : Nat) : B64 := ⟨new.1.take n ++ old.1.drop n, by simp; omega⟩
@[simp] theorem u8av_take_n (n : Nat) (l : List UInt8) : (u8av l).take n = u8av (l.take n) := by simp [u8av]
@[simp] theorem u8av_drop_n (n : Nat) (l : List UInt8) : (u8av l).drop n = u8av (l.drop n) := by simp [u8av]
theorem u8av_app (l k : List UInt8) : u8av (l ++ k) = u8av l ++ u8av k := by simp [u8av]
theorem keptA_tear (k : List B64) (i n : Nat) (b : B64) (hi : i < k.length) (hn : n ≤ 64) : List.take (i * 64) (keptA k) ++ (u8av (b.1.take n) ++ List.drop (i * 64 + n) (keptA k)) = keptA (k.set i (tearB ((k[i]?).getD zB) b n)) := by
  induction k generalizing i with
  | nil => simp at hi
  | cons x k ih =>
    have e : keptA (x :: k) = u8av x.1 ++ keptA k := rfl
    cases i with
    | zero =>
      rw [e, List.set_cons_zero]
      have e2 : ∀ y, keptA (y :: k) = u8av y.1 ++ keptA k := fun _ => rfl
      rw [e2]
      have : n - 64 = 0 := by omega
      simp [List.drop_append, tearB, u8av_app, this]
    | succ i =>
      rw [e, List.set_cons_succ]
      have e2 : ∀ y, keptA (x :: k.set i y) = u8av x.1 ++ keptA (k.set i y) := fun _ => rfl
      rw [e2]
      have e3 : (x :: k)[i + 1]? = k[i]? := by simp
      rw [e3, ← ih i (by simpa using hi)]
      rw [List.take_append, List.drop_append, List.take_of_length_le (by simp <;> omega), List.drop_eq_nil_of_le (by simp <;> omega)]
      simp only [u8av_length, b64_len, List.nil_append, List.append_assoc]
      congr 3
      · congr 1; omega
      · congr 1; omega
def intAV (l : List Int) : List AV := l.map fun x => .c (.int .i64 x)
@[simp] theorem intAV_length (l : List Int) : (intAV l).length = l.length := by simp [intAV]
@[simp] theorem intAV_get (l : List Int) (j : Nat) : (intAV l)[j]? = (l[j]?).map fun x => .c (.int .i64 x) := by simp [intAV]
@[simp] theorem intAV_getElem (l : List Int) (j : Nat) (h : j < (intAV l).length) : (intAV l)[j] = .c (.int .i64 (l[j]'(by simpa using h))) := by simp [intAV]
def crashStep (tears : List Int) (k : List B64) (j : Nat) (x : Nat × B64) : List B64 := match tears[j]? with
  | some t => k.set x.1 (tearB ((k[x.1]?).getD zB) x.2 (min (max t 0) 64).toNat)
  | none => k
def crashTo (tears : List Int) (d : DevS) : Nat → List B64
  | 0 => d.kept
  | j + 1 => crashStep tears (crashTo tears d j) j ((d.wait[j]?).getD (0, zB))
@[simp] theorem crashTo_length (tears : List Int) (d : DevS) (j : Nat) : (crashTo tears d j).length = d.kept.length := by
  induction j with
  | zero => rfl
  | succ j ih =>
    simp only [crashTo, crashStep]
    split <;> simp [ih]
def crashS (tears : List Int) (d : DevS) : DevS := { d with kept := crashTo tears d d.wait.length, wait := [], bound := false }
theorem crash_dev (d : DevS) (hd : d.Ok) (tears : List Int) : ACalls Try.prog 14 [.ptr 0 0 5, .fs 1 tears.length (intAV tears)] (devO d) (fun k => decide (k < 2)) (fun r h' => r = .tup [] ∧ h' = devO (crashS tears d)) := by
  refine acalls mixed Try.func14 rfl Try.ntmps14 rfl fun E hE hst hho => ?_
  simp [devO, hho, -List.reduceReplicate]
  refine loop_k mixed (fun j : Nat => ⟨slotsOf 49 [(0, .ptr 0 0 5), (1, .fs 1 tears.length (intAV tears)), (12, .sl 2 65 0 d.wait.length (d.wait.length * 65)), (13, .c (.int .i64 d.wait.length)), (14, .c (.int .i64 (j : Int)))], devO { d with kept := crashTo tears d j }⟩) (fun j => d.wait.length - j) (fun j => j ≤ d.wait.length) 0 (by simp) ?_ ?_
  · simp [devO, slotsOf]
    exact wk_of 3 0 (by simp) (by simp [hE, devO, lens]) rfl (by simp [livH, livO, AV.livL, AV.liv, wkL, wkV, List.range']) (by simp [livH, livO, AV.livL, AV.liv, wkL, wkV, List.range'])
  · intro j hj
    by_cases hlt : j < d.wait.length
    · have ew : IntKind.i64.wrap ((j : Int) + 1) = (j + 1 : Nat) := by rw [IntWalk.i64_in _ (by have := hd.wl; omega)]; rfl
      have hi := hd.w1 _ (List.getElem_mem hlt)
      have el : j * 65 + 65 ≤ d.wait.length * 65 := by omega
      by_cases ht : j < tears.length
      · have em : min 1 (tears.length - j) = 1 := by omega
        have et : ∃ n : Nat, n ≤ 64 ∧ min (max tears[j] 0) 64 = (n : Int) := ⟨(min (max tears[j] 0) 64).toNat, by omega, by omega⟩
        obtain ⟨n, hn, en⟩ := et
        have h1n : 1 + n ≤ 65 := by omega
        have hin : (n : Int) ≤ 64 := by omega
        have hmx : 64 ≤ maxLen := by decide
        simp [devO, slotsOf, hho, hlt, ht, el, em, en, waitA_at _ _ hlt, avW, -List.reduceReplicate]
        refine draw_k hho (.take 0 (.take 1 (.take 2 (.take 3 (.take 4 (.take 5 (.take 6 (.take 7 (.take 8 (.take 9 (.take 10 (.take 11 (.alt 12 .done .nil))))))))))))) [0, 3] [(12, [1])] (by decide +kernel) (by simp) ?_
        simp [roOf, holdOf, wrOf, altK, heldOk, Region.binds, hn, h1n, hin, hmx, -List.reduceReplicate]
        refine ⟨hi, by omega, fun _ => ⟨by omega, ?_⟩⟩
        refine round_next (j + 1) (by omega) (by omega) ?_
        have et : min (max tears[j] 0) 64 = (n : Int) := en
        have ec : crashTo tears d (j + 1) = (crashTo tears d j).set d.wait[j].1 (tearB (((crashTo tears d j)[d.wait[j].1]?).getD zB) d.wait[j].2 n) := by
          simp only [crashTo, crashStep, List.getElem?_eq_getElem ht, List.getElem?_eq_getElem hlt, Option.getD_some, et, Int.toNat_natCast]
        have e2 : List.take n (List.take n d.wait[j].snd.val) = List.take n d.wait[j].snd.val := by rw [List.take_take, Nat.min_self]
        rw [e2, keptA_tear _ _ _ _ (by rw [crashTo_length]; exact hi) hn, ew]
        refine wk_of 3 1 (by simp) (by simp [hE, devO, lens]) ?_ (by simp [livH, livO, AV.livL, AV.liv, wkL, wkV, List.range']) (by simp [livH, livO, AV.livL, AV.liv, wkL, wkV, List.range'])
        simp [ec]
      · simp [devO, slotsOf, hho, hlt, ht, el, waitA_at _ _ hlt, avW, -List.reduceReplicate]
        refine round_next (j + 1) (by omega) (by omega) ?_
        have ec : crashTo tears d (j + 1) = crashTo tears d j := by
          simp only [crashTo, crashStep, List.getElem?_eq_none (by omega : tears.length ≤ j)]
        rw [ew]
        refine wk_of 3 1 (by simp) (by simp [hE, devO, lens]) ?_ (by simp [livH, livO, AV.livL, AV.liv, wkL, wkV, List.range']) (by simp [livH, livO, AV.livL, AV.liv, wkL, wkV, List.range'])
        simp [ec]
    · obtain rfl : j = d.wait.length := by omega
      simp [devO, slotsOf, hho, -List.reduceReplicate]
      refine Ret.wk (fun E hE => wk_virtC 0 1 95 65 rfl rfl) ?_
      refine Ret.sel [0, 1, 3] (fun _ => false) (ho := by rfl) (ha := by rfl) ?_ ?_ (by decide) (by simp) (st_pre 2 [3] _) ⟨?_, ?_⟩
      · simp
      · simp
      · rfl
      · simp [crashS, waitA]
end Go.Proofs.Ytmgpiminicgbiaa
