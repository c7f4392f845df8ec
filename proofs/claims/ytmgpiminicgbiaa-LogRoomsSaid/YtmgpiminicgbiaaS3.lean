import Derived.Test.YtmgpiminicgbiaaS2
namespace Go.Proofs.Ytmgpiminicgbiaa
set_option linter.unusedVariables false
set_option linter.unusedSimpArgs false
open Go.RowKit
attribute [local simp] isCut_nil isCut_region isCut_seq isCut_block isCut_loop isCut_cond isCut_skip isCut_exit isCut_ret isCut_range swapK putK altK condK_bool pickP_bool stepP stepO onPure_some onPure_none onImpl_some onImpl_none stepC onGP_some onGP_none onGV_some condG mkG onIt_it nextP_ptr takeP_eq takeV_some takeN_none takeN_some takeG_some takeO_some altO_some pureV binV intBin strBin isSh shV fldV ixV sliceV loadAV nilV lenV callV unV convV viewS cellsH loadV fldCut AV.ung AV.gc AV.cells AS.ev AS.put anyS gcsV lens lnO gV guardV retK RetP_eq resV oneV anyRo loIx hiIx implO callP_clo evL gcsL storeAV AS.push AS.setO appV copyV buildV partsV fillV srcV fzO okV isCell_c isCell_ptr isCell_sl isCell_fs isCell_fp isCell_clo rowZ_one rowZ_zero rowZ_2 rowZ_3 rowZ_4 rowZ_5 rowZ_6 rowZ_7 rowZ_8 rowZ_9 rowZ_10 rowZ_11 rowZ_12 noHo Value.oneCell' max2V min2V afterH putBack frzFrom frzO rebO backIx nilEq_sl nilEq_fs nilOp_eql nilOp_neq AV.reb AV.rebL
attribute [local simp ↓] runK_skip runK_region runK_draw runK_seq runK_cut runK_cond runK_block runK_loop runK_exit runK_label runK_goto runK_ret runK_range contK_nil contK_seq contK_seq_ret contK_seq_exit contK_seq_goto contK_block contK_block_ret contK_block_goto contK_block_exit runO_nil runO_cons roundK_exit roundK_ret roundK_goto exitK_ret cutK_ret cutK_exit runE_done runE_nil runE_take runE_alt condG_true condG_false
set_option maxRecDepth 10000
def putW (k : List B64) (x : Nat × B64) : List B64 := k.set x.1 x.2
@[simp] theorem foldl_putW_length (w : List (Nat × B64)) (k : List B64) : (w.foldl putW k).length = k.length := by
  induction w generalizing k with
  | nil => rfl
  | cons x w ih => simp [ih, putW]
def flushS (d : DevS) : DevS := if checkS d 0 0 = 0 then countS { d with kept := d.wait.foldl putW d.kept, wait := [] } else d
theorem waitA_at (w : List (Nat × B64)) (j : Nat) (hj : j < w.length) : List.take 65 (List.drop (j * 65) (waitA w)) = avW w[j] := by
  induction w generalizing j with
  | nil => simp at hj
  | cons x w ih =>
    have e : waitA (x :: w) = avW x ++ waitA w := rfl
    rw [e]
    cases j with
    | zero => simp [List.take_append, List.take_of_length_le]
    | succ j =>
      rw [List.drop_append, List.drop_eq_nil_of_le (by simp; omega), List.nil_append]
      have : (j + 1) * 65 - (avW x).length = j * 65 := by simp; omega
      rw [this]
      exact ih j (by simpa using hj)
theorem keptA_set (k : List B64) (i : Nat) (b : B64) (hi : i < k.length) : List.take (i * 64) (keptA k) ++ (u8av b.1 ++ List.drop (i * 64 + 64) (keptA k)) = keptA (k.set i b) := by
  induction k generalizing i with
  | nil => simp at hi
  | cons x k ih =>
    have e : keptA (x :: k) = u8av x.1 ++ keptA k := rfl
    cases i with
    | zero =>
      rw [e, List.set_cons_zero]
      simp [List.drop_append, keptA, avB]
    | succ i =>
      rw [e, List.set_cons_succ]
      have e2 : keptA (x :: k.set i b) = u8av x.1 ++ keptA (k.set i b) := rfl
      rw [e2, ← ih i (by simpa using hi)]
      rw [List.take_append, List.drop_append, List.take_of_length_le (by simp <;> omega), List.drop_eq_nil_of_le (by simp <;> omega)]
      simp only [u8av_length, b64_len, List.nil_append, List.append_assoc]
      congr 3
      · congr 1; omega
      · congr 1; omega
theorem flush_dev (d : DevS) (hd : d.Ok) : ACalls Try.prog 54 [.ptr 0 0 5] (devO d) (fun k => decide (k < 2)) (fun r h' => r = .c (.int .i64 (checkS d 0 0)) ∧ h' = devO (flushS d)) := by
  refine acalls mixed Try.func54 rfl Try.ntmps54 rfl fun E hE hst hho => ?_
  simp [devO, hho, -List.reduceReplicate]
  refine call_x [0, 1, 2] (check_nilslice d 0) rfl rfl ⟨rfl, rfl⟩ hho (by simp) (by decide) (by simp) (by simp [devO]) ?_
  simp [devO, hho, -List.reduceReplicate]
  split <;> rename_i hc
  · refine loop_k mixed (fun j : Nat => ⟨slotsOf 35 [(0, .ptr 0 0 5), (14, .sl 2 65 0 d.wait.length (d.wait.length * 65)), (15, .c (.int .i64 d.wait.length)), (16, .c (.int .i64 (j : Int)))], devO { d with kept := (d.wait.take j).foldl putW d.kept }⟩) (fun j => d.wait.length - j) (fun j => j ≤ d.wait.length) 0 (by simp) ?_ ?_
    · simp [devO, slotsOf]
      exact wk_of 3 0 (by simp) (by simp [hE, devO, lens]) rfl (by simp [livH, livO, AV.livL, AV.liv, wkL, wkV, List.range']) (by simp [livH, livO, AV.livL, AV.liv, wkL, wkV, List.range'])
    · intro j hj
      simp [devO, slotsOf, hho, -List.reduceReplicate]
      split <;> rename_i hlt
      · refine ⟨hlt, by omega, ⟨?_, by omega⟩, ?_⟩
        · rw [waitA_at _ _ hlt]
          simp [avW, isCell_c, Value.oneCell']
        rw [waitA_at _ _ hlt]
        simp only [avW]
        refine draw_k hho (.take 0 (.take 1 (.take 2 (.take 3 (.take 4 (.take 5 (.take 6 (.take 7 (.take 8 (.alt 9 .done .nil)))))))))) [0, 3] [(9, [1])] (by decide +kernel) (by simp) ?_
        simp [roOf, holdOf, wrOf, altK, heldOk, Region.binds, -List.reduceReplicate]
        have hi := hd.w1 _ (List.getElem_mem hlt)
        refine ⟨hi, fun _ => ⟨by omega, ?_⟩⟩
        have ew : IntKind.i64.wrap ((j : Int) + 1) = (j + 1 : Nat) := by rw [IntWalk.i64_in _ (by have := hd.wl; omega)]; rfl
        refine round_next (j + 1) (by omega) (by omega) ?_
        rw [keptA_set _ _ _ (by simpa using hi), ew]
        refine wk_of 3 1 (by simp) (by simp [hE, devO, lens]) ?_ (by simp [livH, livO, AV.livL, AV.liv, wkL, wkV, List.range']) (by simp [livH, livO, AV.livL, AV.liv, wkL, wkV, List.range'])
        have ef : (d.wait.take (j + 1)).foldl putW d.kept = ((d.wait.take j).foldl putW d.kept).set d.wait[j].1 d.wait[j].2 := by
          rw [List.take_succ_eq_append_getElem hlt, List.foldl_append]; rfl
        simp [ef]
      · obtain rfl : j = d.wait.length := by omega
        refine call_x [0, 1] (count_nil { d with kept := d.wait.foldl putW d.kept, wait := [] } ⟨hd.c1, hd.c2⟩ fun hb => ⟨by have := (check_ok hc).2.2.2 hb; have := hd.l1; simp only; omega, hd.l2⟩) rfl rfl ?_ hho (by simp) (by decide) ?_ (by simp [devN]) ?_
        · simp [devN]
        · simp [devN]
        simp [devN, hho, -List.reduceReplicate]
        refine Ret.wk (fun E hE => wk_virtC 0 1 95 65 rfl rfl) ?_
        refine Ret.sel [0, 1, 3] (fun _ => false) (ho := by rfl) (ha := by rfl) ?_ ?_ (by decide) (by simp) (st_pre 2 [3] _) ⟨?_, ?_⟩
        · simp
        · simp
        · simp [hc]
        · simp [flushS, hc, countS, waitA]
  · refine Ret.same ⟨rfl, ?_⟩
    simp [flushS, hc]
end Go.Proofs.Ytmgpiminicgbiaa
