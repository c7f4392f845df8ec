import Derived.Test.YtjkllofkdhjlaaaS12
import Derived.Test.YtjkllofkdhjlaaaOpn
namespace Go.Proofs.Ytjkllofkdhjlaaa
set_option linter.unusedVariables false
set_option linter.unusedSimpArgs false
open Go.RowKit
attribute [local simp] isCut_nil isCut_region isCut_seq isCut_block isCut_loop isCut_cond isCut_skip isCut_exit isCut_ret isCut_range swapK putK altK condK_bool pickP_bool stepP stepO onPure_some onPure_none onImpl_some onImpl_none stepC onGP_some onGP_none onGV_some condG onIt_it nextP_ptr takeP_eq takeV_some takeN_none takeN_some takeG_some takeO_some altO_some pureV binV intBin strBin isSh shV fldV ixV sliceV loadAV nilV lenV callV unV convV viewS cellsH loadV fldCut AV.ung AV.gc AV.cells AS.ev AS.put anyS gcsV lens lnO gV guardV retK RetP_eq resV oneV anyRo loIx hiIx implO callP_clo evL gcsL storeAV AS.push AS.setO appV copyV buildV partsV fillV srcV fzO okV isCell_c isCell_ptr isCell_sl isCell_fs isCell_fp isCell_clo rowZ_one rowZ_zero rowZ_2 rowZ_3 rowZ_4 rowZ_5 rowZ_6 rowZ_7 rowZ_8 rowZ_9 rowZ_10 rowZ_11 rowZ_12 noHo Value.oneCell' max2V min2V afterH putBack frzFrom frzO rebO backIx nilEq_sl nilEq_fs nilOp_eql nilOp_neq AV.reb AV.rebL
attribute [local simp ↓] runK_skip runK_region runK_draw runK_seq runK_cut runK_cond runK_block runK_loop runK_exit runK_label runK_goto runK_ret runK_range contK_nil contK_seq contK_seq_ret contK_seq_exit contK_seq_goto contK_block contK_block_ret contK_block_goto contK_block_exit runO_nil runO_cons roundK_exit roundK_ret roundK_goto exitK_ret cutK_ret cutK_exit runE_done runE_nil runE_take runE_alt condG_true condG_false
set_option maxRecDepth 10000
set_option maxHeartbeats 4000000 in
theorem makes_walk (n : Int) (hn : -9223372036854775808 ≤ n ∧ n ≤ 9223372036854775807) : ACalls Try.prog 4 [.c (.int .i64 n)] [] (fun _ => false) (fun r h' => r = .c (.bool true)) := by
  refine acalls mixed Try.func4 rfl Try.ntmps4 rfl fun E hE hst hho => ?_
  simp (maxSteps := 1000000) [hho, -List.reduceReplicate]
  refine call_plain (fun _ => false) first_sec (ha := by rfl) (by simp) ?_
  rintro r h' ⟨rfl, rfl⟩
  refine ⟨rfl, ?_⟩
  simp (maxSteps := 1000000) [hho, -List.reduceReplicate]
  by_cases h : 1 ≤ n ∧ n ≤ 65536
  · obtain ⟨g1, g2⟩ := h
    refine call_x [] (new_ok n g1 g2) rfl rfl ⟨rfl, rfl⟩ hho (by simp) (by decide) (by simp) (by simp) ?_
    have hd0 := newS_ok n.toNat (by omega) (by omega)
    obtain ⟨d0, h0⟩ : ∃ d0, d0 = newS n.toNat := ⟨_, rfl⟩
    rw [← h0] at hd0 ⊢
    have hk : d0.kept.length = n.toNat := by rw [h0]; simp [newS]
    have ew : IntKind.i64.wrap (n - 1) = n - 1 := IntWalk.i64_in _ (by omega)
    have hcn : ((n.toNat : Nat) : Int) = n := by omega
    simp (maxSteps := 1000000) [hho, devO, g1, g2, ew, -List.reduceReplicate]
    have hc1 : checkS d0 (n - 1) 0 = 0 := by
      unfold checkS
      rw [if_neg (by rw [hk]; omega), if_neg (by rw [h0]; simp [newS])]
    have hc2 : checkS d0 n 0 = 2 := by
      unfold checkS
      rw [if_pos (by rw [hk]; omega)]
    refine call_x [0, 1, 2] (read_ok d0 hd0 (n - 1) hc1) rfl rfl ⟨rfl, rfl⟩ hho (by simp) (by decide) (by simp) (by simp [devO]) ?_
    obtain ⟨x, hx⟩ : ∃ x, x = curS d0 (n - 1).toNat := ⟨_, rfl⟩
    have hxv : x = zB := by
      rw [hx, h0]
      simp only [curS, newS, lastW, List.foldl_nil]
      rw [List.getElem?_replicate]
      split <;> rfl
    rw [← hx]
    simp (maxSteps := 1000000) [hho, devO, -List.reduceReplicate]
    refine call_x [0, 1, 2] (read_err d0 n (by rw [hc2]; decide)) rfl rfl ⟨rfl, rfl⟩ hho (by simp) (by decide) (by simp) (by simp [devO]) ?_
    rw [hc2]
    simp (maxSteps := 1000000) [hho, devO, -List.reduceReplicate]
    obtain ⟨sx, hsx⟩ : ∃ sx : ByteArray, sx = ⟨#[]⟩ := ⟨_, rfl⟩
    have hxs : bytesOf (u8av x.1) = fullB sx (64 - sx.size) := by rw [hxv, hsx]; decide
    have hx4 : sx.size = 0 := by rw [hsx]; rfl
    refine draw_k hho (.take 0 (.take 1 (.take 2 (.take 3 (.take 5 (.alt 4 (.take 6 (.take 7 (.take 8 (.take 9 (.take 10 (.take 11 (.take 12 (.take 13 (.take 14 (.alt 15 (.take 16 (.take 17 (.take 18 (.take 19 (.take 20 (.take 21 (.take 22 (.done)))))))) (.nil))))))))))) (.nil))))))) [3] [] (by decide +kernel) (by simp) ?_
    simp (maxSteps := 1000000) [roOf, holdOf, wrOf, altK, heldOk, Region.binds, -List.reduceReplicate]
    intro _
    refine call_h [0, 1, 2] (sectors_dev d0) rfl rfl ⟨rfl, rfl⟩ (by simp) (by simp) (by decide) (by simp) (by simp [devO]) ?_
    rw [hk, hcn]
    simp (maxSteps := 1000000) [devO, roOf, holdOf, wrOf, altK, heldOk, Region.binds, -List.reduceReplicate]
    refine ⟨isU8_all x.1, fun _ => ?_⟩
    rw [← hsx]
    refine call_plain (fun _ => false) (full_ref sx (by rw [hsx]; decide)) (ha := by rfl) (by simp) ?_
    rintro r h' ⟨rfl, rfl⟩
    refine ⟨rfl, ?_⟩
    simp (maxSteps := 1000000) [roOf, holdOf, wrOf, altK, heldOk, Region.binds, hxs, hx4, -List.reduceReplicate]
    exact Ret.drop (by decide) rfl
  · refine call_x [] (new_bad n (by omega)) rfl rfl ⟨rfl, rfl⟩ hho (by simp) (by decide) (by simp) (by simp) ?_
    have hnot : ¬ (1 ≤ n ∧ n ≤ 65536) := h
    by_cases g1 : 1 ≤ n
    · have g2 : ¬ n ≤ 65536 := fun h => hnot ⟨g1, h⟩
      simp (maxSteps := 1000000) [hho, g1, g2, -List.reduceReplicate]
      refine call_x [] (limit_nil 1) rfl rfl ⟨rfl, rfl⟩ hho (by simp) (by decide) (by simp) (by simp) ?_
      simp (maxSteps := 1000000) [hho, -List.reduceReplicate]
      refine call_f [] (fun k => k == 0) (crash_nil [.c (.int .i64 1)] 1) rfl rfl ⟨rfl, rfl⟩ hho (by simp) (by decide) (by simp) (by simp [isD_c, maxLen]) (by simp) ?_
      simp (maxSteps := 1000000) [hho, -List.reduceReplicate]
      refine call_x [] (read_nil 0) rfl rfl ⟨rfl, rfl⟩ hho (by simp) (by decide) (by simp) (by simp) ?_
      simp (maxSteps := 1000000) [hho, -List.reduceReplicate]
      refine call_x [] (write_nil 0) rfl rfl ⟨rfl, rfl⟩ hho (by simp) (by decide) (by simp) (by simp) ?_
      simp (maxSteps := 1000000) [hho, -List.reduceReplicate]
      refine call_x [] (flush_nil) rfl rfl ⟨rfl, rfl⟩ hho (by simp) (by decide) (by simp) (by simp) ?_
      simp (maxSteps := 1000000) [hho, -List.reduceReplicate]
      refine call_x [] (sectors_nil) rfl rfl ⟨rfl, rfl⟩ hho (by simp) (by decide) (by simp) (by simp) ?_
      simp (maxSteps := 1000000) [hho, -List.reduceReplicate]
      refine call_x [] (waiting_nil) rfl rfl ⟨rfl, rfl⟩ hho (by simp) (by decide) (by simp) (by simp) ?_
      simp (maxSteps := 1000000) [hho, -List.reduceReplicate]
      refine call_x [] (calls_nil) rfl rfl ⟨rfl, rfl⟩ hho (by simp) (by decide) (by simp) (by simp) ?_
      simp (maxSteps := 1000000) [hho, -List.reduceReplicate]
      exact Ret.drop (by decide) rfl
    · simp (maxSteps := 1000000) [hho, g1, -List.reduceReplicate]
      refine call_x [] (limit_nil 1) rfl rfl ⟨rfl, rfl⟩ hho (by simp) (by decide) (by simp) (by simp) ?_
      simp (maxSteps := 1000000) [hho, -List.reduceReplicate]
      refine call_f [] (fun k => k == 0) (crash_nil [.c (.int .i64 1)] 1) rfl rfl ⟨rfl, rfl⟩ hho (by simp) (by decide) (by simp) (by simp [isD_c, maxLen]) (by simp) ?_
      simp (maxSteps := 1000000) [hho, -List.reduceReplicate]
      refine call_x [] (read_nil 0) rfl rfl ⟨rfl, rfl⟩ hho (by simp) (by decide) (by simp) (by simp) ?_
      simp (maxSteps := 1000000) [hho, -List.reduceReplicate]
      refine call_x [] (write_nil 0) rfl rfl ⟨rfl, rfl⟩ hho (by simp) (by decide) (by simp) (by simp) ?_
      simp (maxSteps := 1000000) [hho, -List.reduceReplicate]
      refine call_x [] (flush_nil) rfl rfl ⟨rfl, rfl⟩ hho (by simp) (by decide) (by simp) (by simp) ?_
      simp (maxSteps := 1000000) [hho, -List.reduceReplicate]
      refine call_x [] (sectors_nil) rfl rfl ⟨rfl, rfl⟩ hho (by simp) (by decide) (by simp) (by simp) ?_
      simp (maxSteps := 1000000) [hho, -List.reduceReplicate]
      refine call_x [] (waiting_nil) rfl rfl ⟨rfl, rfl⟩ hho (by simp) (by decide) (by simp) (by simp) ?_
      simp (maxSteps := 1000000) [hho, -List.reduceReplicate]
      refine call_x [] (calls_nil) rfl rfl ⟨rfl, rfl⟩ hho (by simp) (by decide) (by simp) (by simp) ?_
      simp (maxSteps := 1000000) [hho, -List.reduceReplicate]
      exact Ret.drop (by decide) rfl
end Go.Proofs.Ytjkllofkdhjlaaa
