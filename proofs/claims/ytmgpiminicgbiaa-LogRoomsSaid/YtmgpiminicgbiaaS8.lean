import Derived.Test.YtmgpiminicgbiaaS7
namespace Go.Proofs.Ytmgpiminicgbiaa
set_option linter.unusedVariables false
set_option linter.unusedSimpArgs false
open Go.RowKit
attribute [local simp] isCut_nil isCut_region isCut_seq isCut_block isCut_loop isCut_cond isCut_skip isCut_exit isCut_ret isCut_range swapK putK altK condK_bool pickP_bool stepP stepO onPure_some onPure_none onImpl_some onImpl_none stepC onGP_some onGP_none onGV_some condG mkG onIt_it nextP_ptr takeP_eq takeV_some takeN_none takeN_some takeG_some takeO_some altO_some pureV binV intBin strBin isSh shV fldV ixV sliceV loadAV nilV lenV callV unV convV viewS cellsH loadV fldCut AV.ung AV.gc AV.cells AS.ev AS.put anyS gcsV lens lnO gV guardV retK RetP_eq resV oneV anyRo loIx hiIx implO callP_clo evL gcsL storeAV AS.push AS.setO appV copyV buildV partsV fillV srcV fzO okV isCell_c isCell_ptr isCell_sl isCell_fs isCell_fp isCell_clo rowZ_one rowZ_zero rowZ_2 rowZ_3 rowZ_4 rowZ_5 rowZ_6 rowZ_7 rowZ_8 rowZ_9 rowZ_10 rowZ_11 rowZ_12 noHo Value.oneCell' max2V min2V afterH putBack frzFrom frzO rebO backIx nilEq_sl nilEq_fs nilOp_eql nilOp_neq AV.reb AV.rebL
attribute [local simp ↓] runK_skip runK_region runK_draw runK_seq runK_cut runK_cond runK_block runK_loop runK_exit runK_label runK_goto runK_ret runK_range contK_nil contK_seq contK_seq_ret contK_seq_exit contK_seq_goto contK_block contK_block_ret contK_block_goto contK_block_exit runO_nil runO_cons roundK_exit roundK_ret roundK_goto exitK_ret cutK_ret cutK_exit runE_done runE_nil runE_take runE_alt condG_true condG_false
set_option maxRecDepth 10000
def pickB (i : Nat) (b : B64) (x : Nat × B64) : B64 := if x.1 = i then x.2 else b
def readTo (d : DevS) (i j : Nat) : B64 := (d.wait.take j).foldl (pickB i) ((d.kept[i]?).getD zB)
def readB (d : DevS) (i : Nat) : B64 := d.wait.foldl (pickB i) ((d.kept[i]?).getD zB)
theorem readTo_succ (d : DevS) (i j : Nat) (h : j < d.wait.length) : readTo d i (j + 1) = pickB i (readTo d i j) d.wait[j] := by
  simp only [readTo]
  rw [List.take_succ_eq_append_getElem h, List.foldl_append]; rfl
theorem r6read_ref (d : DevS) (hd : d.Ok) (i : Int) : ACalls Try.prog 31 [.ptr 0 0 4, .c (.int .i64 i)] (refO d) (fun k => decide (k < 3))
    (fun r h' => r = .tup [.c (.string (if checkS d i 0 = 0 then strB (readB d i.toNat) else ByteArray.empty)), .c (.int .i64 (checkS d i 0))] ∧ h' = refO d) := by
  refine acalls mixed Try.func31 rfl Try.ntmps31 rfl fun E hE hst hho => ?_
  simp [refO, hho, -List.reduceReplicate]
  refine call_x [0, 1, 2] (r6check_ref d hd i ByteArray.empty) rfl rfl ⟨rfl, rfl⟩ hho (by simp) (by decide) (by simp) (by simp [refO]) ?_
  by_cases hc : checkS d i 0 = 0
  · obtain ⟨k1, k2, k3, k4⟩ := check_ok hc
    obtain ⟨n, rfl⟩ : ∃ n : Nat, i = n := ⟨i.toNat, by omega⟩
    have hn : n < d.kept.length := by omega
    have hn1 : n + 1 ≤ d.kept.length := by omega
    simp [refO, hho, hc, hn, hn1, -List.reduceReplicate]
    refine loop_k mixed (fun j : Nat => ⟨slotsOf 40 [(0, .ptr 0 0 4), (1, .c (.int .i64 (n : Int))), (7, strV (readTo d n j)), (26, .sl 2 2 0 d.wait.length (d.wait.length * 2)), (27, .c (.int .i64 d.wait.length)), (28, .c (.int .i64 (j : Int)))], refO d⟩) (fun j => d.wait.length - j) (fun j => j ≤ d.wait.length) 0 (by simp) ?_ ?_
    · simp [refO, slotsOf]
      refine wk_of 3 0 (by simp) (by simp [hE, refO, lens]) rfl (by simp [livH, livO, AV.livL, AV.liv, wkL, wkV, List.range']) ?_
      simp [livH, livO, AV.livL, AV.liv, wkL, wkV, List.range', strV, readTo, List.getElem?_eq_getElem hn]
    · intro j hj
      by_cases hlt : j < d.wait.length
      · have ew : IntKind.i64.wrap ((j : Int) + 1) = (j + 1 : Nat) := by rw [IntWalk.i64_in _ (by have := hd.wl; omega)]; rfl
        have el : j * 2 + 2 ≤ d.wait.length * 2 := by omega
        simp [refO, slotsOf, hho, hlt, el, refW_at _ _ hlt, refWc, strV, -List.reduceReplicate]
        split <;> rename_i h
        · have h : d.wait[j].1 = n := by omega
          refine round_next (j + 1) (by omega) (by omega) ?_
          rw [ew]
          refine wk_of 3 1 (by simp) (by simp [hE, refO, lens]) rfl (by simp [livH, livO, AV.livL, AV.liv, wkL, wkV, List.range']) ?_
          simp [livH, livO, AV.livL, AV.liv, wkL, wkV, List.range', readTo_succ d n j hlt, pickB, h]
        · have h : ¬ d.wait[j].1 = n := by omega
          refine round_next (j + 1) (by omega) (by omega) ?_
          rw [ew]
          refine wk_of 3 1 (by simp) (by simp [hE, refO, lens]) rfl (by simp [livH, livO, AV.livL, AV.liv, wkL, wkV, List.range']) ?_
          simp [livH, livO, AV.livL, AV.liv, wkL, wkV, List.range', readTo_succ d n j hlt, pickB, h]
      · obtain rfl : j = d.wait.length := by omega
        simp [refO, slotsOf, hho, strV, -List.reduceReplicate]
        refine Ret.same ⟨?_, rfl⟩
        simp [hc, readTo, readB]
  · simp [refO, hho, hc, -List.reduceReplicate]
    refine Ret.same ⟨?_, rfl⟩
    simp [hc]
    rfl
theorem r6new_ref (n : Nat) (h1 : n ≤ 1000000) : ACalls Try.prog 21 [.c (.int .i64 (n : Int))] [] (fun _ => false) (fun r h' => r = .ptr 0 0 4 ∧ h' = refO (newS n)) := by
  refine acalls mixed Try.func21 rfl Try.ntmps21 rfl fun E hE _ hho => ?_
  simp [hho, -List.reduceReplicate]
  refine loop_k mixed (fun j : Nat => ⟨slotsOf 23 [(0, .c (.int .i64 (n : Int))), (3, .ptr 0 0 4), (4, .c (.int .i64 (j : Int)))], [.o .box [.sl 1 1 0 j j, .c (.slice none 0 0), .c (.int .i64 (-1)), .c (.int .i64 0)], .o (.row 9 1) (refK (List.replicate j zB))]⟩) (fun j => n - j) (fun j => j ≤ n) 0 (by simp) ?_ ?_
  · simp [slotsOf]
    refine Wk.trans (wk_virtC 0 0 9 1 rfl rfl) (wk_of 2 0 (by simp) (by simp [hE, lens]) rfl (by simp [livH, livO, AV.livL, AV.liv, wkL, wkV, List.range']) (by simp [livH, livO, AV.livL, AV.liv, wkL, wkV, List.range']))
  · intro j hj
    by_cases hlt : j < n
    · have ew : IntKind.i64.wrap ((j : Int) + 1) = (j + 1 : Nat) := by rw [IntWalk.i64_in _ (by omega)]; rfl
      simp [slotsOf, hho, hlt, -List.reduceReplicate]
      refine draw_k hho (.take 0 (.take 1 (.take 2 (.take 3 (.take 4 (.alt 5 (.alt 6 (.alt 7 (.take 8 (.take 9 (.alt 10 .done .nil))) .nil) .nil) .nil)))))) [0] [(10, [0])] (by decide +kernel) (by simp) ?_
      simp [roOf, holdOf, wrOf, altK, heldOk, Region.binds, -List.reduceReplicate]
      intro _
      refine call_plain (fun _ => false) (full_ref ⟨#[]⟩ (by decide)) (ha := by rfl) (by simp) ?_
      rintro r h' ⟨rfl, rfl⟩
      refine ⟨rfl, ?_⟩
      have ez : fullB ⟨#[]⟩ (64 - (⟨#[]⟩ : ByteArray).size) = strB zB := rfl
      rw [ez]
      simp [roOf, holdOf, wrOf, altK, heldOk, Region.binds, -List.reduceReplicate]
      refine fun _ _ => ⟨by omega, fun _ => round_next (j + 1) (by omega) (by omega) ?_⟩
      rw [ew]
      refine wk_of 2 1 (by simp) (by simp [hE, lens]) ?_ (by simp [livH, livO, AV.livL, AV.liv, wkL, wkV, List.range']) (by simp [livH, livO, AV.livL, AV.liv, wkL, wkV, List.range'])
      simp [refK, List.replicate_succ', strV, -List.reduceReplicate]
    · obtain rfl : j = n := by omega
      simp [slotsOf, hho, -List.reduceReplicate]
      refine Ret.wk (fun E hE => wk_virtC 0 1 101 2 rfl rfl) ?_
      refine Ret.sel [0, 1, 2] (fun _ => false) (ho := by rfl) (ha := by rfl) ?_ ?_ (by decide) (by simp) (by simp) ⟨?_, ?_⟩
      · simp
      · simp
      · rfl
      · simp [refO, newS, refW, leftR, -List.reduceReplicate]
end Go.Proofs.Ytmgpiminicgbiaa
