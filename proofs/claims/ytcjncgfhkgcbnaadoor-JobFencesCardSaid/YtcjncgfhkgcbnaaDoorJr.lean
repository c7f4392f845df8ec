import Derived.Test.YtcjncgfhkgcbnaaDoorJb
namespace Go.Proofs.YtcjncgfhkgcbnaaDoor
set_option linter.unusedVariables false
set_option linter.unusedSimpArgs false
open Go.RowKit
attribute [local simp] isCut_nil isCut_region isCut_seq isCut_block isCut_loop isCut_cond isCut_skip isCut_exit isCut_ret isCut_range swapK putK altK condK_bool pickP_bool stepP stepO onPure_some onPure_none onImpl_some onImpl_none stepC onGP_some onGP_none onGV_some condG mkG onIt_it nextP_ptr takeP_eq takeV_some takeV_none takeU_some takeU_none takeQ takeW_some takeN_none takeN_some takeG_some takeO_some altO_some pureV binV2 eqF eqOp ovlV ovl2 rowAt capV binV intBin strBin isSh shV fldV ixV sliceV slice3V loadAV nilV lenV callV unV convV viewS cellsH loadV fldCut AV.ung AV.ungs AV.gc AV.cells AS.ev AS.put anyS gcsV gcO lens lnO gV guardV retK RetP_eq resV oneV anyRo loIx hiIx implO callP_clo evL gcsL clearV storeAV AS.push AS.setO appV appZ shortS copyV buildV partsV fillV srcV fzO okV isCell_c isCell_ptr isCell_sl isCell_fs isCell_fp isCell_clo rowZ_one rowZ_zero rowZ_2 rowZ_3 rowZ_4 rowZ_5 rowZ_6 rowZ_7 rowZ_8 rowZ_9 rowZ_10 rowZ_11 rowZ_12 noHo Value.oneCell' max2V min2V lookV updV lenM msAt afterH putBack frzFrom frzO rebO backIx nilEq_sl nilEq_fs nilOp_eql nilOp_neq AV.reb AV.rebL
attribute [local simp ↓] runK_skip runK_region runK_draw runK_seq runK_cut runK_cond runK_block runK_loop runK_exit runK_label runK_goto runK_ret runK_range contK_nil contK_seq contK_seq_ret contK_seq_exit contK_seq_goto contK_block contK_block_ret contK_block_goto contK_block_exit runO_nil runO_cons roundK_exit roundK_ret roundK_goto exitK_ret cutK_ret cutK_exit runE_done runE_nil runE_take runE_alt condG_true condG_false
set_option maxRecDepth 10000
theorem min3 (a b c : Int) : (a < -1 ∨ b < -1 ∨ c < -1) ↔ ¬ (-1 ≤ a ∧ -1 ≤ b ∧ -1 ≤ c) := by omega
set_option maxHeartbeats 4000000 in
theorem jbRight_w (j : JobS) (hb : JobBig j) : ACalls Tryd.prog 10 [.agg (jobA j)] [] (fun _ => false) (fun r h' => r = .c (.bool (jobOk j)) ∧ h' = []) := by
  refine acalls mixed Tryd.func10 rfl Tryd.ntmps10 rfl fun E hE hst hho => ?_
  have c1 := jbindex_w j.idx hb.nm hb.xl
  have c2 := cf_col j.cols (fun c => !jcOk c) 28 (by simp) hb.cl fun x hx => jbRight_1_w x (hb.cn x hx).1 (hb.cn x hx).2
  have e2 : (!j.cols.any fun c => !jcOk c) = j.cols.all jcOk := by rw [List.not_any_eq_all_not]; simp
  have hmk := hb.mrk
  simp only [idxA] at c1
  unfold jobOk
  by_cases g1 : j.kind < 0
  · simp (maxSteps := 1000000) [hho, noHo, jobA, foldV, g1, undef, onGP_none, condG_false, -List.reduceReplicate]
    exact Ret.drop (by rfl) ⟨by rw [decide_eq_false (by omega : ¬ 0 ≤ j.kind)]; simp, rfl⟩
  by_cases g2 : 5 < j.kind
  · simp (maxSteps := 1000000) [hho, noHo, jobA, foldV, g1, g2, undef, onGP_none, condG_false, -List.reduceReplicate]
    exact Ret.drop (by rfl) ⟨by rw [decide_eq_false (by omega : ¬ j.kind ≤ 5)]; simp, rfl⟩
  by_cases g3 : j.id < 0
  · simp (maxSteps := 1000000) [hho, noHo, jobA, foldV, g1, g2, g3, undef, onGP_none, condG_false, -List.reduceReplicate]
    exact Ret.drop (by rfl) ⟨by rw [decide_eq_false (by omega : ¬ 0 ≤ j.id)]; simp, rfl⟩
  have k1 : 0 ≤ j.kind := by omega
  have k2 : j.kind ≤ 5 := by omega
  have k3 : 0 ≤ j.id := by omega
  obtain ⟨M, hM⟩ : ∃ M, M = min (min j.table j.item) j.other := ⟨_, rfl⟩
  by_cases g4 : -1 ≤ j.table ∧ -1 ≤ j.item ∧ -1 ≤ j.other
  case neg =>
    have g4' : M < -1 := by omega
    simp (maxSteps := 1000000) [hho, noHo, jobA, foldV, g1, g2, g3, ← hM, g4', undef, onGP_none, condG_false, -List.reduceReplicate]
    refine Ret.drop (by rfl) ⟨?_, rfl⟩
    rcases (min3 _ _ _).2 g4 with h | h | h
    · rw [decide_eq_false (by omega : ¬ -1 ≤ j.table)]; simp
    · rw [decide_eq_false (by omega : ¬ -1 ≤ j.item)]; simp
    · rw [decide_eq_false (by omega : ¬ -1 ≤ j.other)]; simp
  have g4' : ¬ M < -1 := by omega
  obtain ⟨k4, k5, k6⟩ := g4
  by_cases g5 : 1000 < j.mark.size
  · have g5' : (1000 : Int) < j.mark.size := by omega
    simp (maxSteps := 1000000) [hho, noHo, jobA, foldV, g1, g2, g3, ← hM, g4', g5, g5', undef, onGP_none, condG_false, -List.reduceReplicate]
    exact Ret.drop (by rfl) ⟨by rw [decide_eq_false (by omega : ¬ j.mark.size ≤ 1000)]; simp, rfl⟩
  have g5' : ¬ (1000 : Int) < j.mark.size := by omega
  have k7 : j.mark.size ≤ 1000 := by omega
  by_cases g6 : 12 < j.cols.length
  · have g6' : (12 : Int) < j.cols.length := by omega
    simp (maxSteps := 1000000) [hho, noHo, jobA, foldV, g1, g2, g3, ← hM, g4', g5, g5', g6, g6', undef, onGP_none, condG_false, -List.reduceReplicate]
    exact Ret.drop (by rfl) ⟨by rw [decide_eq_false (by omega : ¬ j.cols.length ≤ 12)]; simp, rfl⟩
  have g6' : ¬ (12 : Int) < j.cols.length := by omega
  have k8 : j.cols.length ≤ 12 := by omega
  simp (maxSteps := 1000000) [hho, noHo, jobA, foldV, g1, g2, g3, ← hM, g4', g5, g5', g6, g6', undef, onGP_none, condG_false, -List.reduceReplicate]
  refine call_x [] (c1) rfl rfl ⟨rfl, rfl⟩ hho (by simp) (by decide) (by simp) (by simp) ?_
  cases hI : jiOk j.idx with
  | false =>
    simp (maxSteps := 1000000) [hho, noHo, undef, onGP_none, condG_false, -List.reduceReplicate]
    exact Ret.drop (by rfl) ⟨by simp, rfl⟩
  | true =>
  simp (maxSteps := 1000000) [hho, noHo, undef, onGP_none, condG_false, -List.reduceReplicate]
  refine call_x [] (c2) rfl rfl ⟨rfl, rfl⟩ hho (by simp) (by decide) (by simp) (by simp) ?_
  simp (maxSteps := 1000000) [hho, noHo, -List.reduceReplicate]
  refine Ret.drop (by rfl) ⟨?_, rfl⟩
  rw [← e2]
  simp [k1, k2, k3, k4, k5, k6, k7, k8]
end Go.Proofs.YtcjncgfhkgcbnaaDoor
