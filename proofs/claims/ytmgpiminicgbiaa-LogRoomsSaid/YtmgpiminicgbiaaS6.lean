import Derived.Test.YtmgpiminicgbiaaS5
namespace Go.Proofs.Ytmgpiminicgbiaa
set_option linter.unusedVariables false
set_option linter.unusedSimpArgs false
open Go.RowKit
attribute [local simp] isCut_nil isCut_region isCut_seq isCut_block isCut_loop isCut_cond isCut_skip isCut_exit isCut_ret isCut_range swapK putK altK condK_bool pickP_bool stepP stepO onPure_some onPure_none onImpl_some onImpl_none stepC onGP_some onGP_none onGV_some condG mkG onIt_it nextP_ptr takeP_eq takeV_some takeN_none takeN_some takeG_some takeO_some altO_some pureV binV intBin strBin isSh shV fldV ixV sliceV loadAV nilV lenV callV unV convV viewS cellsH loadV fldCut AV.ung AV.gc AV.cells AS.ev AS.put anyS gcsV lens lnO gV guardV retK RetP_eq resV oneV anyRo loIx hiIx implO callP_clo evL gcsL storeAV AS.push AS.setO appV copyV buildV partsV fillV srcV fzO okV isCell_c isCell_ptr isCell_sl isCell_fs isCell_fp isCell_clo rowZ_one rowZ_zero rowZ_2 rowZ_3 rowZ_4 rowZ_5 rowZ_6 rowZ_7 rowZ_8 rowZ_9 rowZ_10 rowZ_11 rowZ_12 noHo Value.oneCell' max2V min2V afterH putBack frzFrom frzO rebO backIx nilEq_sl nilEq_fs nilOp_eql nilOp_neq AV.reb AV.rebL
attribute [local simp ↓] runK_skip runK_region runK_draw runK_seq runK_cut runK_cond runK_block runK_loop runK_exit runK_label runK_goto runK_ret runK_range contK_nil contK_seq contK_seq_ret contK_seq_exit contK_seq_goto contK_block contK_block_ret contK_block_goto contK_block_exit runO_nil runO_cons roundK_exit roundK_ret roundK_goto exitK_ret cutK_ret cutK_exit runE_done runE_nil runE_take runE_alt condG_true condG_false
set_option maxRecDepth 10000
@[simp] theorem refK_all (l : List B64) : (∀ x ∈ refK l, isD x = true) ↔ True := iff_true_intro <| by
  intro x hx
  simp only [refK, List.mem_map] at hx
  obtain ⟨b, _, rfl⟩ := hx
  rfl
@[simp] theorem refW_all (l : List (Nat × B64)) : (∀ x ∈ refW l, isD x = true) ↔ True := iff_true_intro <| by
  intro x hx
  simp only [refW, List.mem_flatMap, refWc, List.mem_cons, List.not_mem_nil, or_false] at hx
  obtain ⟨b, _, rfl | rfl⟩ := hx <;> rfl
@[simp] theorem refW_cell (l : List (Nat × B64)) : (∀ x ∈ refW l, isCell x = true) ↔ True := iff_true_intro <| by
  intro x hx
  simp only [refW, List.mem_flatMap, refWc, List.mem_cons, List.not_mem_nil, or_false] at hx
  obtain ⟨b, _, rfl | rfl⟩ := hx <;> rfl
@[simp] theorem refW_take (l : List (Nat × B64)) : List.take (l.length * 2) (refW l) = refW l := List.take_of_length_le (by simp)
theorem full_pad (b : ByteArray) (hb : b.size ≤ 64) : fullB b (64 - b.size) = strB (padB b.data.toList) := by
  apply ByteArray.ext
  simp only [fullB, strB, padB, ByteArray.data_append]
  apply Array.toList_inj.1
  have e : b.data.toList.length = b.size := by rw [Array.length_toList]; rfl
  simp only [Array.toList_append, Array.toList_replicate]
  rw [List.take_append, List.take_of_length_le (by omega), List.take_replicate, e]
  congr 2
  omega
theorem r6write_ref (d : DevS) (hd : d.Ok) (i : Int) (b : ByteArray) (hb : b.size ≤ 1000000) : ACalls Try.prog 27 [.ptr 0 0 4, .c (.int .i64 i), .c (.string b)] (refO d) (fun k => decide (k < 2)) (fun r h' => r = .c (.int .i64 (checkS d i b.size)) ∧ h' = refO (writeS d i b.data.toList)) := by
  have esz : b.data.size = b.size := rfl
  refine acalls mixed Try.func27 rfl Try.ntmps27 rfl fun E hE _ hho => ?_
  simp [refO, hho, -List.reduceReplicate]
  refine call_x [0, 1, 2] (r6check_ref d hd i b) rfl rfl ⟨rfl, rfl⟩ hho (by simp) (by decide) (by simp) (by simp [refO]) ?_
  simp [refO, hho, -List.reduceReplicate]
  split <;> rename_i hc
  · refine ⟨by have := hd.wl; omega, ?_⟩
    obtain ⟨k1, k2, k3, k4⟩ := check_ok hc
    have e : ((i.toNat : Nat) : Int) = i := by omega
    refine call_plain (fun _ => false) (full_ref b hb) (ha := by rfl) (by simp) ?_
    rintro r h' ⟨rfl, rfl⟩
    refine ⟨rfl, ?_⟩
    simp [hho, full_pad b k3, -List.reduceReplicate]
    refine ⟨by have := hd.wl; omega, ?_⟩
    refine call_x [0, 1, 3] (r6count_ref { d with wait := d.wait ++ [(i.toNat, padB b.data.toList)] } ⟨hd.c1, hd.c2⟩ fun hb => ⟨by have := k4 hb; have := hd.l1; simp only; omega, hd.l2⟩) rfl rfl ?_ hho (by simp) (by decide) ?_ (by simp [refO]) ?_
    · simp [refO, refW, refWc, strV, leftR, e, Nat.add_mul]
    · simp [refO, -List.reduceReplicate]
    simp [refO, hho, -List.reduceReplicate]
    refine Ret.sel [0, 1, 3] (fun _ => false) (ho := by rfl) (ha := by rfl) ?_ ?_ (by decide) (by simp) (st_pre 2 [3] _) ⟨?_, ?_⟩
    · simp
    · simp
    · simp [hc]
    · simp [writeS, esz, hc]
  · refine Ret.same ⟨rfl, ?_⟩
    simp [writeS, esz, hc]
theorem refW_at (w : List (Nat × B64)) (j : Nat) (hj : j < w.length) : List.take 2 (List.drop (j * 2) (refW w)) = refWc w[j] := by
  induction w generalizing j with
  | nil => simp at hj
  | cons x w ih =>
    have e : refW (x :: w) = refWc x ++ refW w := rfl
    rw [e]
    cases j with
    | zero => simp [refWc]
    | succ j =>
      have : (j + 1) * 2 = j * 2 + 2 := by omega
      rw [this]
      simp only [refWc, List.cons_append, List.nil_append, List.drop_succ_cons]
      exact ih j (by simpa using hj)
theorem refK_set (k : List B64) (i : Nat) (b : B64) (hi : i < k.length) : List.take i (refK k) ++ AV.c (.string (strB b)) :: List.drop (i + 1) (refK k) = refK (k.set i b) := by
  have e : AV.c (.string (strB b)) = strV b := rfl
  rw [e, refK, refK, List.map_set, List.set_eq_take_append_cons_drop, if_pos (by simpa using hi)]
/-- a device of the reference whose waiting slice is nil -/
def refN (d : DevS) : List AObj :=
  [.o .box [.sl 1 1 0 d.kept.length d.kept.length, .c (.slice none 0 0), .c (.int .i64 (leftR d)), .c (.int .i64 d.calls)], .o (.row 9 1) (refK d.kept)]
theorem r6count_nil (d : DevS) (hc : 0 ≤ d.calls ∧ d.calls ≤ 1000000) (hl : d.bound = true → 1 ≤ d.left ∧ d.left ≤ 9223372036854775807) : ACalls Try.prog 49 [.ptr 0 0 4] (refN d) (fun _ => true) (fun r h' => r = .tup [] ∧ h' = refN (countS d)) := by
  refine acalls mixed Try.func49 rfl Try.ntmps49 rfl fun E hE _ hho => ?_
  have e1 : IntKind.i64.wrap (d.calls + 1) = d.calls + 1 := IntWalk.i64_in _ (by omega)
  simp [refN, hho, -List.reduceReplicate]
  cases hbd : d.bound
  · have e : leftR d = -1 := by simp [leftR, hbd]
    rw [if_neg (by omega)]
    refine Ret.same ⟨rfl, ?_⟩
    simp [countS, e1, hbd, leftR]
  · have e : leftR d = d.left := by simp [leftR, hbd]
    have := hl hbd
    rw [if_pos (by omega)]
    have e2 : IntKind.i64.wrap (d.left - 1) = d.left - 1 := IntWalk.i64_in _ (by omega)
    refine Ret.same ⟨rfl, ?_⟩
    simp [countS, e1, e2, hbd, leftR]
theorem r6flush_ref (d : DevS) (hd : d.Ok) : ACalls Try.prog 45 [.ptr 0 0 4] (refO d) (fun k => decide (k < 2)) (fun r h' => r = .c (.int .i64 (checkS d 0 0)) ∧ h' = refO (flushS d)) := by
  refine acalls mixed Try.func45 rfl Try.ntmps45 rfl fun E hE hst hho => ?_
  simp [refO, hho, -List.reduceReplicate]
  refine call_x [0, 1, 2] (r6check_ref d hd 0 ByteArray.empty) rfl rfl ⟨rfl, rfl⟩ hho (by simp) (by decide) (by simp) (by simp [refO]) ?_
  simp [refO, hho, -List.reduceReplicate]
  split <;> rename_i hc
  · refine loop_k mixed (fun j : Nat => ⟨slotsOf 35 [(0, .ptr 0 0 4), (3, .c (.int .i64 0)), (13, .sl 2 2 0 d.wait.length (d.wait.length * 2)), (14, .c (.int .i64 d.wait.length)), (15, .c (.int .i64 (j : Int)))], refO { d with kept := (d.wait.take j).foldl putW d.kept }⟩) (fun j => d.wait.length - j) (fun j => j ≤ d.wait.length) 0 (by simp) ?_ ?_
    · simp [refO, slotsOf]
      exact wk_of 3 0 (by simp) (by simp [hE, refO, lens]) rfl (by simp [livH, livO, AV.livL, AV.liv, wkL, wkV, List.range']) (by simp [livH, livO, AV.livL, AV.liv, wkL, wkV, List.range', hc])
    · intro j hj
      by_cases hlt : j < d.wait.length
      · have ew : IntKind.i64.wrap ((j : Int) + 1) = (j + 1 : Nat) := by rw [IntWalk.i64_in _ (by have := hd.wl; omega)]; rfl
        have hi := hd.w1 _ (List.getElem_mem hlt)
        have el : j * 2 + 2 ≤ d.wait.length * 2 := by omega
        simp [refO, slotsOf, hho, hlt, el, refW_at _ _ hlt, refWc, strV, -List.reduceReplicate]
        refine draw_k hho (.take 0 (.take 1 (.take 2 (.take 3 (.take 4 (.take 5 (.take 6 (.take 7 (.take 8 (.alt 9 .done .nil)))))))))) [0, 3] [(9, [1])] (by decide +kernel) (by simp) ?_
        simp [roOf, holdOf, wrOf, altK, heldOk, Region.binds, hi, -List.reduceReplicate]
        refine fun _ => ⟨by omega, round_next (j + 1) (by omega) (by omega) ?_⟩
        have ef : (d.wait.take (j + 1)).foldl putW d.kept = ((d.wait.take j).foldl putW d.kept).set d.wait[j].1 d.wait[j].2 := by
          rw [List.take_succ_eq_append_getElem hlt, List.foldl_append]; rfl
        rw [refK_set _ _ _ (by rw [foldl_putW_length]; exact hi), ew]
        refine wk_of 3 1 (by simp) (by simp [hE, refO, lens]) ?_ (by simp [livH, livO, AV.livL, AV.liv, wkL, wkV, List.range']) (by simp [livH, livO, AV.livL, AV.liv, wkL, wkV, List.range'])
        simp [ef, leftR]
      · obtain rfl : j = d.wait.length := by omega
        simp [refO, slotsOf, hho, -List.reduceReplicate]
        refine call_x [0, 1] (r6count_nil { d with kept := d.wait.foldl putW d.kept, wait := [] } ⟨hd.c1, hd.c2⟩ fun hb => ⟨by have := (check_ok hc).2.2.2 hb; have := hd.l1; simp only; omega, hd.l2⟩) rfl rfl ?_ hho (by simp) (by decide) ?_ (by simp [refN]) ?_
        · simp [refN, leftR]
        · simp [refN]
        simp [refN, hho, -List.reduceReplicate]
        refine Ret.wk (fun E hE => wk_virtC 0 1 101 2 rfl rfl) ?_
        refine Ret.sel [0, 1, 3] (fun _ => false) (ho := by rfl) (ha := by rfl) ?_ ?_ (by decide) (by simp) (st_pre 2 [3] _) ⟨?_, ?_⟩
        · simp
        · simp
        · simp [hc]
        · simp [flushS, hc, countS, refW, leftR]
  · refine Ret.same ⟨rfl, ?_⟩
    simp [flushS, hc]
end Go.Proofs.Ytmgpiminicgbiaa
