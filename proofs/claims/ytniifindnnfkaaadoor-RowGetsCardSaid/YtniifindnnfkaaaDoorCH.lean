import Derived.Test.YtniifindnnfkaaaDoorCG
namespace Go.Proofs.YtniifindnnfkaaaDoor
set_option linter.unusedVariables false
set_option linter.unusedSimpArgs false
open Go.RowKit
attribute [local simp] isCut_nil isCut_region isCut_seq isCut_block isCut_loop isCut_cond isCut_skip isCut_exit isCut_ret isCut_range swapK putK altK condK_bool pickP_bool stepP stepO onPure_some onPure_none onImpl_some onImpl_none stepC onGP_some onGP_none onGV_some condG mkG onIt_it nextP_ptr takeP_eq takeV_some takeV_none takeU_some takeU_none takeQ takeW_some takeN_none takeN_some takeG_some takeO_some altO_some pureV binV2 eqF eqOp ovlV ovl2 rowAt capV binV intBin strBin isSh shV fldV ixV sliceV slice3V loadAV nilV lenV callV unV convV viewS cellsH loadV fldCut AV.ung AV.ungs AV.gc AV.cells AS.ev AS.put anyS gcsV lens lnO gV guardV retK RetP_eq resV oneV anyRo loIx hiIx implO callP_clo evL gcsL clearV storeAV AS.push AS.setO appV appZ shortS copyV buildV partsV fillV srcV fzO okV isCell_c isCell_ptr isCell_sl isCell_fs isCell_fp isCell_clo rowZ_one rowZ_zero rowZ_2 rowZ_3 rowZ_4 rowZ_5 rowZ_6 rowZ_7 rowZ_8 rowZ_9 rowZ_10 rowZ_11 rowZ_12 noHo Value.oneCell' max2V min2V lookV updV lenM msAt afterH putBack frzFrom frzO rebO backIx nilEq_sl nilEq_fs nilOp_eql nilOp_neq AV.reb AV.rebL
attribute [local simp ↓] runK_skip runK_region runK_draw runK_seq runK_cut runK_cond runK_block runK_loop runK_exit runK_label runK_goto runK_ret runK_range contK_nil contK_seq contK_seq_ret contK_seq_exit contK_seq_goto contK_block contK_block_ret contK_block_goto contK_block_exit runO_nil runO_cons roundK_exit roundK_ret roundK_goto exitK_ret cutK_ret cutK_exit runE_done runE_nil runE_take runE_alt condG_true condG_false
set_option maxRecDepth 10000
/-! ## Reader.Count; Read -/
theorem rdS_box (s : Option (List UInt8)) : ∃ a b, rdS s = [.o .box [a, b]] := by cases s <;> exact ⟨_, _, rfl⟩
theorem count_r (s : Option (List UInt8)) (hs : ∀ l, s = some l → l.length ≤ 1000000000) (most : Int) : ACalls Tryd.prog 29 [.ptr 0 0 2, .c (.int .i64 most)] (rdS s) (fun k => decide (k < 1)) (fun r h' => r = .c (.int .i64 (rcountS s most).1) ∧ h' = rdS (rcountS s most).2) := by
  refine acalls mixed Tryd.func29 rfl Tryd.ntmps29 rfl fun E hE hst hho => ?_
  have hn := number_r s hs
  unfold rcountS
  obtain ⟨v, hv⟩ : ∃ v, v = rnumS s := ⟨_, rfl⟩
  rw [← hv] at hn ⊢
  obtain ⟨n, s2⟩ := v
  simp only at hn ⊢
  have hf := fail_r s2
  clear hv hs
  by_cases h2 : n < 0
  · rw [if_pos (.inl h2)]
    rcases s with _ | l <;> rcases s2 with _ | l2 <;>
    · simp (maxSteps := 1000000) [rdS_none, rdS_some, hho, noHo, -List.reduceReplicate]
      refine call_x [0] hn rfl rfl ⟨rfl, rfl⟩ hho (by simp) (by decide) (by simp) (by simp [rdS]) ?_
      simp (maxSteps := 1000000) [rdS_some, rdS_none, hho, noHo, h2, undef, onGP_none, condG_false, -List.reduceReplicate]
      refine call_x [0] hf rfl rfl ⟨rfl, rfl⟩ hho (by simp) (by decide) (by simp) (by simp [rdS]) ?_
      simp (maxSteps := 1000000) [rdS_some, rdS_none, hho, -List.reduceReplicate]
      exact Ret.same ⟨rfl, rfl⟩
  · by_cases h3 : most < n
    · rw [if_pos (.inr h3)]
      rcases s with _ | l <;> rcases s2 with _ | l2 <;>
      · simp (maxSteps := 1000000) [rdS_none, rdS_some, hho, noHo, -List.reduceReplicate]
        refine call_x [0] hn rfl rfl ⟨rfl, rfl⟩ hho (by simp) (by decide) (by simp) (by simp [rdS]) ?_
        simp (maxSteps := 1000000) [rdS_some, rdS_none, hho, noHo, h2, h3, undef, onGP_none, condG_false, -List.reduceReplicate]
        refine call_x [0] hf rfl rfl ⟨rfl, rfl⟩ hho (by simp) (by decide) (by simp) (by simp [rdS]) ?_
        simp (maxSteps := 1000000) [rdS_some, rdS_none, hho, -List.reduceReplicate]
        exact Ret.same ⟨rfl, rfl⟩
    · rw [if_neg (fun h => h.elim h2 h3)]
      rcases s with _ | l <;> rcases s2 with _ | l2 <;>
      · simp (maxSteps := 1000000) [rdS_none, rdS_some, hho, noHo, -List.reduceReplicate]
        refine call_x [0] hn rfl rfl ⟨rfl, rfl⟩ hho (by simp) (by decide) (by simp) (by simp [rdS]) ?_
        simp (maxSteps := 1000000) [rdS_some, rdS_none, hho, noHo, h2, h3, undef, onGP_none, condG_false, -List.reduceReplicate]
        exact Ret.same ⟨rfl, rfl⟩
theorem read_r (l : List UInt8) (hl : l.length ≤ 1000000000) : ACalls Tryd.prog 28 [.fs 1 l.length (u8av l)] [] (fun _ => false) (fun r h' => r = .ptr 0 0 2 ∧ h' = rdS (some l)) := by
  refine acalls mixed Tryd.func28 rfl Tryd.ntmps28 rfl fun E hE hst hho => ?_
  simp (maxSteps := 1000000) [hho, noHo, -List.reduceReplicate]
  refine call_x [] (clone_bytes l.length (u8av l) (by simp) (by omega) ((u8av_cell l).2 trivial)) rfl rfl ⟨rfl, rfl⟩ hho (by simp) (by decide) (by simp) (by simp) ?_
  simp (maxSteps := 1000000) [hho, noHo, -List.reduceReplicate]
  refine Ret.sel [1] (fun k => k == 0) (ho := by rfl) (ha := by rfl) ?_ ?_ (by decide) (by simp) (by simp) ⟨rfl, ?_⟩
  · simp
    exact ⟨by unfold maxLen; omega, fun x hx => (u8av_all l).2 trivial x (List.mem_of_mem_take hx)⟩
  · simp
  · rw [rdS_some]
    simp [List.take_of_length_le]
end Go.Proofs.YtniifindnnfkaaaDoor
