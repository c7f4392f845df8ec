import Derived.Test.YtmgpiminicgbiaaS6
namespace Go.Proofs.Ytmgpiminicgbiaa
set_option linter.unusedVariables false
set_option linter.unusedSimpArgs false
open Go.RowKit
attribute [local simp] isCut_nil isCut_region isCut_seq isCut_block isCut_loop isCut_cond isCut_skip isCut_exit isCut_ret isCut_range swapK putK altK condK_bool pickP_bool stepP stepO onPure_some onPure_none onImpl_some onImpl_none stepC onGP_some onGP_none onGV_some condG mkG onIt_it nextP_ptr takeP_eq takeV_some takeN_none takeN_some takeG_some takeO_some altO_some pureV binV intBin strBin isSh shV fldV ixV sliceV loadAV nilV lenV callV unV convV viewS cellsH loadV fldCut AV.ung AV.gc AV.cells AS.ev AS.put anyS gcsV lens lnO gV guardV retK RetP_eq resV oneV anyRo loIx hiIx implO callP_clo evL gcsL storeAV AS.push AS.setO appV copyV buildV partsV fillV srcV fzO okV isCell_c isCell_ptr isCell_sl isCell_fs isCell_fp isCell_clo rowZ_one rowZ_zero rowZ_2 rowZ_3 rowZ_4 rowZ_5 rowZ_6 rowZ_7 rowZ_8 rowZ_9 rowZ_10 rowZ_11 rowZ_12 noHo Value.oneCell' max2V min2V afterH putBack frzFrom frzO rebO backIx nilEq_sl nilEq_fs nilOp_eql nilOp_neq AV.reb AV.rebL
attribute [local simp ↓] runK_skip runK_region runK_draw runK_seq runK_cut runK_cond runK_block runK_loop runK_exit runK_label runK_goto runK_ret runK_range contK_nil contK_seq contK_seq_ret contK_seq_exit contK_seq_goto contK_block contK_block_ret contK_block_goto contK_block_exit runO_nil runO_cons roundK_exit roundK_ret roundK_goto exitK_ret cutK_ret cutK_exit runE_done runE_nil runE_take runE_alt condG_true condG_false
set_option maxRecDepth 10000
@[simp] theorem refK_getElem (k : List B64) (i : Nat) (h : i < (refK k).length) : (refK k)[i] = .c (.string (strB (k[i]'(by simpa using h)))) := by simp [refK, strV]
theorem tear_str (o b : B64) (n : Nat) : (strB b).extract 0 n ++ (strB o).extract n 64 = strB (tearB o b n) := by
  apply ByteArray.ext
  apply Array.toList_inj.1
  have h : List.take (64 - n) (List.drop n o.1) = List.drop n o.1 := List.take_of_length_le (by simp)
  simp [strB, tearB, ByteArray.data_append, ByteArray.data_extract, List.extract_eq_take_drop, h]
theorem ext_all (o : B64) : (strB o).extract 0 64 = strB o := by
  apply ByteArray.ext
  apply Array.toList_inj.1
  simp [strB, ByteArray.data_extract, List.extract_eq_take_drop, List.take_of_length_le]
theorem r6crash_ref (d : DevS) (hd : d.Ok) (tears : List Int) : ACalls Try.prog 28 [.ptr 0 0 4, .fs 1 tears.length (intAV tears)] (refO d) (fun k => decide (k < 2)) (fun r h' => r = .tup [] ∧ h' = refO (crashS tears d)) := by
  refine acalls mixed Try.func28 rfl Try.ntmps28 rfl fun E hE hst hho => ?_
  simp [refO, hho, -List.reduceReplicate]
  refine loop_k mixed (fun j : Nat => ⟨slotsOf 56 [(0, .ptr 0 0 4), (1, .fs 1 tears.length (intAV tears)), (10, .sl 2 2 0 d.wait.length (d.wait.length * 2)), (11, .c (.int .i64 d.wait.length)), (12, .c (.int .i64 (j : Int)))], refO { d with kept := crashTo tears d j }⟩) (fun j => d.wait.length - j) (fun j => j ≤ d.wait.length) 0 (by simp) ?_ ?_
  · simp [refO, slotsOf]
    exact wk_of 3 0 (by simp) (by simp [hE, refO, lens]) rfl (by simp [livH, livO, AV.livL, AV.liv, wkL, wkV, List.range']) (by simp [livH, livO, AV.livL, AV.liv, wkL, wkV, List.range'])
  · intro j hj
    by_cases hlt : j < d.wait.length
    · have ew : IntKind.i64.wrap ((j : Int) + 1) = (j + 1 : Nat) := by rw [IntWalk.i64_in _ (by have := hd.wl; omega)]; rfl
      have hi := hd.w1 _ (List.getElem_mem hlt)
      have el : j * 2 + 2 ≤ d.wait.length * 2 := by omega
      by_cases ht : j < tears.length
      · have em : min 1 (tears.length - j) = 1 := by omega
        have et : ∃ n : Nat, n ≤ 64 ∧ min 64 (max 0 tears[j]) = (n : Int) := ⟨(min 64 (max 0 tears[j])).toNat, by omega, by omega⟩
        obtain ⟨n, hn, en⟩ := et
        have hin : (n : Int) ≤ 64 := by omega
        simp [refO, slotsOf, hho, hlt, ht, el, em, en, refW_at _ _ hlt, refWc, strV, -List.reduceReplicate]
        refine draw_k hho (.take 0 (.take 1 (.take 2 (.take 3 (.take 4 (.take 5 (.take 6 (.take 7 (.take 8 (.take 9 (.take 10 (.take 11 (.take 12 (.take 13 (.take 14 (.take 15 (.take 16 (.take 17 (.take 18 (.take 19 (.take 20 (.take 21 (.alt 22 .done .nil))))))))))))))))))))))) [0, 1, 3] [(22, [1])] (by decide +kernel) (by simp) ?_
        simp [roOf, holdOf, wrOf, altK, heldOk, Region.binds, hi, hn, hin, -List.reduceReplicate]
        have hil : min d.wait[j].1 d.kept.length + (d.kept.length - (d.wait[j].1 + 1) + 1) = d.kept.length := by omega
        refine ⟨by omega, fun _ => ⟨by omega, hil, round_next (j + 1) (by omega) (by omega) ?_⟩⟩
        have hi2 : d.wait[j].1 < (crashTo tears d j).length := by rw [crashTo_length]; exact hi
        have et2 : min (max tears[j] 0) 64 = (n : Int) := by omega
        have ec : crashTo tears d (j + 1) = (crashTo tears d j).set d.wait[j].1 (tearB ((crashTo tears d j)[d.wait[j].1]) d.wait[j].2 n) := by
          simp only [crashTo, crashStep, List.getElem?_eq_getElem ht, List.getElem?_eq_getElem hlt, List.getElem?_eq_getElem hi2, Option.getD_some, et2, Int.toNat_natCast]
        rw [tear_str, refK_set _ _ _ hi2, ew]
        refine wk_of 3 1 (by simp) (by simp [hE, refO, lens]) ?_ (by simp [livH, livO, AV.livL, AV.liv, wkL, wkV, List.range']) (by simp [livH, livO, AV.livL, AV.liv, wkL, wkV, List.range'])
        simp [ec, leftR]
      · simp [refO, slotsOf, hho, hlt, ht, el, refW_at _ _ hlt, refWc, strV, -List.reduceReplicate]
        refine draw_k hho (.take 0 (.take 1 (.take 2 (.take 3 (.take 4 (.take 5 (.take 6 (.take 7 (.take 8 (.take 9 (.take 10 (.take 11 (.take 12 (.take 13 (.take 14 (.take 15 (.take 16 (.take 17 (.take 18 (.take 19 (.take 20 (.take 21 (.alt 22 .done .nil))))))))))))))))))))))) [0, 1, 3] [(22, [1])] (by decide +kernel) (by simp) ?_
        simp [roOf, holdOf, wrOf, altK, heldOk, Region.binds, hi, -List.reduceReplicate]
        have hil : min d.wait[j].1 d.kept.length + (d.kept.length - (d.wait[j].1 + 1) + 1) = d.kept.length := by omega
        refine ⟨by omega, fun _ => ⟨by omega, hil, round_next (j + 1) (by omega) (by omega) ?_⟩⟩
        have hi2 : d.wait[j].1 < (crashTo tears d j).length := by rw [crashTo_length]; exact hi
        have ec : crashTo tears d (j + 1) = crashTo tears d j := by
          simp only [crashTo, crashStep, List.getElem?_eq_none (by omega : tears.length ≤ j)]
        rw [ext_all, refK_set _ _ _ hi2, List.set_getElem_self, ew]
        refine wk_of 3 1 (by simp) (by simp [hE, refO, lens]) ?_ (by simp [livH, livO, AV.livL, AV.liv, wkL, wkV, List.range']) (by simp [livH, livO, AV.livL, AV.liv, wkL, wkV, List.range'])
        simp [ec, leftR]
    · obtain rfl : j = d.wait.length := by omega
      simp [refO, slotsOf, hho, -List.reduceReplicate]
      refine Ret.wk (fun E hE => wk_virtC 0 1 101 2 rfl rfl) ?_
      refine Ret.sel [0, 1, 3] (fun _ => false) (ho := by rfl) (ha := by rfl) ?_ ?_ (by decide) (by simp) (st_pre 2 [3] _) ⟨?_, ?_⟩
      · simp
      · simp
      · rfl
      · simp [crashS, refW, leftR]
end Go.Proofs.Ytmgpiminicgbiaa
