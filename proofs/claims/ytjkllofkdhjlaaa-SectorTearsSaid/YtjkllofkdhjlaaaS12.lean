import Derived.Test.YtjkllofkdhjlaaaS11
import Derived.Test.YtjkllofkdhjlaaaS9
namespace Go.Proofs.Ytjkllofkdhjlaaa
set_option linter.unusedVariables false
set_option linter.unusedSimpArgs false
open Go.RowKit
attribute [local simp] isCut_nil isCut_region isCut_seq isCut_block isCut_loop isCut_cond isCut_skip isCut_exit isCut_ret isCut_range swapK putK altK condK_bool pickP_bool stepP stepO onPure_some onPure_none onImpl_some onImpl_none stepC onGP_some onGP_none onGV_some condG onIt_it nextP_ptr takeP_eq takeV_some takeN_none takeN_some takeG_some takeO_some altO_some pureV binV intBin strBin isSh shV fldV ixV sliceV loadAV nilV lenV callV unV convV viewS cellsH loadV fldCut AV.ung AV.gc AV.cells AS.ev AS.put anyS gcsV lens lnO gV guardV retK RetP_eq resV oneV anyRo loIx hiIx implO callP_clo evL gcsL storeAV AS.push AS.setO appV copyV buildV partsV fillV srcV fzO okV isCell_c isCell_ptr isCell_sl isCell_fs isCell_fp isCell_clo rowZ_one rowZ_zero rowZ_2 rowZ_3 rowZ_4 rowZ_5 rowZ_6 rowZ_7 rowZ_8 rowZ_9 rowZ_10 rowZ_11 rowZ_12 noHo Value.oneCell' max2V min2V afterH putBack frzFrom frzO rebO backIx nilEq_sl nilEq_fs nilOp_eql nilOp_neq AV.reb AV.rebL
attribute [local simp ↓] runK_skip runK_region runK_draw runK_seq runK_cut runK_cond runK_block runK_loop runK_exit runK_label runK_goto runK_ret runK_range contK_nil contK_seq contK_seq_ret contK_seq_exit contK_seq_goto contK_block contK_block_ret contK_block_goto contK_block_exit runO_nil runO_cons roundK_exit roundK_ret roundK_goto exitK_ret cutK_ret cutK_exit runE_done runE_nil runE_take runE_alt condG_true condG_false
set_option maxRecDepth 10000
theorem flush_err (d : DevS) (hc : checkS d 0 0 ≠ 0) : ACalls Try.prog 12 [.ptr 0 0 5] (devO d) (fun _ => true) (fun r h' => r = .c (.int .i64 (checkS d 0 0)) ∧ h' = devO d) := by
  refine acalls mixed Try.func12 rfl Try.ntmps12 rfl fun E hE hst hho => ?_
  simp [devO, hho, -List.reduceReplicate]
  refine call_x [0, 1, 2] (check_nilslice d 0) rfl rfl ⟨rfl, rfl⟩ hho (by simp) (by decide) (by simp) (by simp [devO]) ?_
  simp [devO, hho, hc, -List.reduceReplicate]
  exact Ret.same ⟨rfl, rfl⟩
theorem isU8_all (l : List UInt8) : ∀ v ∈ u8av l, isU8 v = true := by
  intro v hv
  simp only [u8av, List.mem_map] at hv
  obtain ⟨b, _, rfl⟩ := hv
  have := b.toNat_lt
  simp only [u8, isU8, Bool.and_eq_true, decide_eq_true_eq]
  exact ⟨by omega, by omega⟩
theorem newS_ok (n : Nat) (h1 : 1 ≤ n) (h2 : n ≤ 65536) : (newS n).Ok := ⟨by simp [newS], by simpa [newS] using h1, by simpa [newS] using h2, by simp [newS], by simp [newS], by simp [newS], by simp [newS], by simp [newS]⟩
set_option maxHeartbeats 4000000 in
theorem write_Ok {d : DevS} (h : d.Ok) {i : Int} {l : List UInt8} (h1 : d.calls ≤ 100000) (h2 : d.wait.length ≤ 100000) : (writeS d i l).Ok := by
  unfold writeS
  split
  · rename_i hc
    obtain ⟨k1, k2, k3, k4⟩ := check_ok hc
    refine ⟨fun x hx => ?_, h.k1, h.k2, ?_, ?_, ?_, ?_, ?_⟩
    · simp only [countS, List.mem_append, List.mem_singleton] at hx ⊢
      rcases hx with hx | rfl
      · exact h.w1 x hx
      · simp only; omega
    · have := h.l1; simp only [countS]; split
      · have := k4 (by assumption); omega
      · exact h.l1
    · have := h.l2; simp only [countS]; split <;> omega
    · have := h.c1; simp only [countS]; omega
    · simp only [countS]; omega
    · simp only [countS, List.length_append, List.length_singleton]; omega
  · exact h
theorem first_sec : ACalls Try.prog 7 [] [] (fun _ => false) (fun r h' => r = .c (.bool true) ∧ h' = []) := by
  refine acalls mixed Try.func7 rfl Try.ntmps7 rfl fun E hE hst hho => ?_
  simp [hho, -List.reduceReplicate]
  refine call_x [] (new_ok 3 (by decide) (by decide)) rfl rfl ⟨rfl, rfl⟩ hho (by simp) (by decide) (by simp) (by simp) ?_
  obtain ⟨d0, h0⟩ : ∃ d0, d0 = newS 3 := ⟨_, rfl⟩
  have hd0 : d0.Ok := by rw [h0]; exact newS_ok 3 (by decide) (by decide)
  rw [show (3 : Int).toNat = 3 from rfl, ← h0]
  simp (maxSteps := 1000000) [hho, devO, -List.reduceReplicate]
  refine call_x [] (new_bad 0 (by decide)) rfl rfl ⟨rfl, rfl⟩ hho (by simp) (by decide) (by simp) (by simp) ?_
  simp (maxSteps := 1000000) [hho, devO, -List.reduceReplicate]
  obtain ⟨l1, e1⟩ : ∃ l1 : List UInt8, l1 = [97, 98, 99, 100] := ⟨_, rfl⟩
  have hc0 : checkS d0 0 l1.length = 0 := by rw [h0, e1]; decide
  refine call_x [0, 1, 2] (write_fs d0 hd0 0 l1) rfl rfl ⟨by rw [e1]; rfl, rfl⟩ hho (by simp) (by decide) (by simp) (by simp [devO]) ?_
  obtain ⟨d1, h1⟩ : ∃ d1, d1 = writeS d0 0 l1 := ⟨_, rfl⟩
  rw [hc0, ← h1]
  simp (maxSteps := 1000000) [hho, devO, -List.reduceReplicate]
  obtain ⟨l2, e2⟩ : ∃ l2 : List UInt8, l2 = [120, 121, 122] := ⟨_, rfl⟩
  have hd1 : d1.Ok := by rw [h1]; exact write_Ok hd0 (by rw [h0]; decide) (by rw [h0]; decide)
  have hc1 : checkS d1 0 l2.length = 0 := by rw [h1, h0, e1, e2]; decide
  refine call_x [0, 1, 2] (write_fs d1 hd1 0 l2) rfl rfl ⟨by rw [e2]; rfl, rfl⟩ hho (by simp) (by decide) (by simp) (by simp [devO]) ?_
  obtain ⟨d2, h2⟩ : ∃ d2, d2 = writeS d1 0 l2 := ⟨_, rfl⟩
  rw [hc1, ← h2]
  simp (maxSteps := 1000000) [hho, devO, -List.reduceReplicate]
  have hw2 : d2.wait.length = 2 := by rw [h2, h1, h0, e1, e2]; decide
  refine call_x [0, 1, 2] (waiting_dev d2) rfl rfl ⟨rfl, rfl⟩ hho (by simp) (by decide) (by simp) (by simp [devO]) ?_
  rw [hw2]
  simp (maxSteps := 1000000) [hho, devO, -List.reduceReplicate]
  have hd2 : d2.Ok := by rw [h2]; exact write_Ok hd1 (by rw [h1, h0, e1]; decide) (by rw [h1, h0, e1]; decide)
  have st12 : ∀ (i k : Nat), ([0, 1, 2] : List Nat)[i]? = some k → decide (i < 2) = true ∨ k ∈ [2] := by
    intro i k h
    match i, h with
    | 0, _ => exact .inl rfl
    | 1, _ => exact .inl rfl
    | 2, h => simp at h; exact .inr (by simp [h])
    | i + 3, h => simp at h
  refine call_d [0, 1, 2] (fun k => k == 5) [2] (crash_dev d2 hd2 [64, 1]) rfl rfl ⟨rfl, rfl⟩ hho st12 (by simp [livH, livO, AV.livL, AV.liv, wkL, wkV, List.range']) (by simp [livH, livO, AV.livL, AV.liv, wkL, wkV, List.range']) (by simp [hE, lens]) (by decide) (by decide) (by simp [isD_c, maxLen]) (by simp [devO]) ?_
  obtain ⟨d3, h3⟩ : ∃ d3, d3 = crashS [64, 1] d2 := ⟨_, rfl⟩
  rw [← h3]
  simp (maxSteps := 1000000) [hho, devO, -List.reduceReplicate]
  have hd3 : d3.Ok := by
    rw [h3, h2, h1, h0, e1, e2]
    exact ⟨by simp [crashS], by decide, by decide, by decide, by decide, by decide, by decide, by decide⟩
  have hc3 : checkS d3 0 0 = 0 := by rw [h3, h2, h1, h0, e1, e2]; decide
  refine call_x [0, 1, 2] (read_ok d3 hd3 0 hc3) rfl rfl ⟨rfl, rfl⟩ hho (by simp) (by decide) (by simp) (by simp [devO]) ?_
  obtain ⟨x, hx⟩ : ∃ x, x = curS d3 (0 : Int).toNat := ⟨_, rfl⟩
  have hxv : x.1 = [120, 98, 99, 100] ++ List.replicate 60 0 := by rw [hx, h3, h2, h1, h0, e1, e2]; decide
  rw [← hx]
  simp (maxSteps := 1000000) [hho, devO, -List.reduceReplicate]
  refine call_x [0, 1, 2] (limit_dev d3 0) rfl rfl ⟨rfl, rfl⟩ hho (by simp) (by decide) (by simp) (by simp [devO]) ?_
  obtain ⟨d4, h4⟩ : ∃ d4, d4 = { d3 with bound := true, left := max 0 0 } := ⟨_, rfl⟩
  rw [← h4]
  simp (maxSteps := 1000000) [hho, devO, -List.reduceReplicate]
  obtain ⟨sx, hsx⟩ : ∃ sx : ByteArray, sx = ⟨#[120, 98, 99, 100]⟩ := ⟨_, rfl⟩
  have hxs : bytesOf (u8av x.1) = fullB sx (64 - sx.size) := by rw [hxv, hsx]; decide
  have hx4 : sx.size = 4 := by rw [hsx]; rfl
  have hc4 : checkS d4 0 0 = 60 := by rw [h4, h3, h2, h1, h0, e1, e2]; decide
  have hcalls : d4.calls = 2 := by rw [h4, h3, h2, h1, h0, e1, e2]; decide
  have hsec : d4.kept.length = 3 := by rw [h4, h3, h2, h1, h0, e1, e2]; decide
  refine draw_k hho (.take 0 (.take 1 (.take 2 (.take 3 (.take 4 (.alt 5 (.take 6 (.take 7 (.take 8 (.take 9 (.alt 10 (.take 11 (.take 12 (.take 13 (.take 14 (.alt 15 (.take 16 (.take 17 (.take 18 (.take 19 (.alt 20 (.take 21 (.take 22 (.take 23 (.done)))) (.nil)))))) (.nil)))))) (.nil)))))) (.nil))))))) [6] [] (by decide +kernel) (by simp) ?_
  simp (maxSteps := 1000000) [roOf, holdOf, wrOf, altK, heldOk, Region.binds, -List.reduceReplicate]
  refine ⟨isU8_all x.1, fun _ => ?_⟩
  rw [← hsx]
  refine call_plain (fun _ => false) (full_ref sx (by rw [hsx]; decide)) (ha := by rfl) (by simp) ?_
  rintro r h' ⟨rfl, rfl⟩
  refine ⟨rfl, ?_⟩
  simp (maxSteps := 1000000) [roOf, holdOf, wrOf, altK, heldOk, Region.binds, hxs, hx4, -List.reduceReplicate]
  intro _
  refine call_h [0, 1, 2] (flush_err d4 (by rw [hc4]; decide)) rfl rfl ⟨rfl, rfl⟩ (by simp) (by simp) (by decide) (by simp) (by simp [devO]) ?_
  rw [hc4]
  simp (maxSteps := 1000000) [devO, roOf, holdOf, wrOf, altK, heldOk, Region.binds, -List.reduceReplicate]
  intro _
  refine call_h [0, 1, 2] (calls_dev d4) rfl rfl ⟨rfl, rfl⟩ (by simp) (by simp) (by decide) (by simp) (by simp [devO]) ?_
  rw [hcalls]
  simp (maxSteps := 1000000) [devO, roOf, holdOf, wrOf, altK, heldOk, Region.binds, -List.reduceReplicate]
  intro _
  refine call_h [0, 1, 2] (sectors_dev d4) rfl rfl ⟨rfl, rfl⟩ (by simp) (by simp) (by decide) (by simp) (by simp [devO]) ?_
  rw [hsec]
  simp (maxSteps := 1000000) [devO, roOf, holdOf, wrOf, altK, heldOk, Region.binds, -List.reduceReplicate]
  exact Ret.drop (by decide) ⟨rfl, rfl⟩
end Go.Proofs.Ytjkllofkdhjlaaa
