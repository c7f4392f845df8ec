import Derived.Test.YthgoocdldnkogaaGreatDoorJA3
namespace Go.Proofs.YthgoocdldnkogaaGreatDoor
set_option linter.unusedVariables false
set_option linter.unusedSimpArgs false
open Go.RowKit
attribute [local simp] isCut_nil isCut_region isCut_seq isCut_block isCut_loop isCut_cond isCut_skip isCut_exit isCut_ret isCut_range swapK putK altK condK_bool pickP_bool stepP stepO onPure_some onPure_none onImpl_some onImpl_none stepC onGP_some onGP_none onGV_some condG mkG onIt_it nextP_ptr takeP_eq takeV_some takeV_none takeU_some takeU_none takeQ takeW_some takeN_none takeN_some takeG_some takeO_some altO_some pureV binV2 eqF eqOp ovlV ovl2 rowAt capV binV intBin strBin isSh shV fldV ixV sliceV slice3V loadAV nilV lenV callV unV convV viewS cellsH loadV fldCut AV.ung AV.ungs AV.gc AV.cells AS.ev AS.put anyS gcsV gcO lens lnO gV guardV retK RetP_eq resV oneV anyRo loIx hiIx implO callP_clo evL gcsL clearV storeAV AS.push AS.setO appV appZ shortS copyV buildV partsV fillV srcV fzO okV isCell_c isCell_ptr isCell_sl isCell_fs isCell_fp isCell_clo rowZ_one rowZ_zero rowZ_2 rowZ_3 rowZ_4 rowZ_5 rowZ_6 rowZ_7 rowZ_8 rowZ_9 rowZ_10 rowZ_11 rowZ_12 noHo Value.oneCell' max2V min2V lookV updV updK updW cvals mkAt basV lenM msAt afterH putBack frzFrom frzO rebO backIx nilEq_sl nilEq_fs nilEq_ifn nilEq_ifh ifOp_eql ifOp_neq isLit nilOp_eql nilOp_neq AV.reb AV.rebL
attribute [local simp ↓] runK_skip runK_region runK_draw runK_seq runK_cut runK_cond runK_block runK_loop runK_exit runK_label runK_goto runK_ret runK_range contK_nil contK_seq contK_seq_ret contK_seq_exit contK_seq_goto contK_block contK_block_ret contK_block_goto contK_block_exit runO_nil runO_cons roundK_exit roundK_ret roundK_goto exitK_ret cutK_ret cutK_exit runE_done runE_nil runE_take runE_alt condG_true condG_false
set_option maxRecDepth 10000
set_option maxHeartbeats 16000000 in
theorem jclimbs_w (j : JobS) (ho : j.Ok) (s : SchS) (hos : s.Ok) : ACalls Tryz.prog 7 [.agg (jobA j), .agg (schA s)] [] (fun _ => false) (fun r h' => r = .c (.bool true)) := by
 refine acalls mixed Tryz.func7 rfl Tryz.ntmps7 rfl fun E hE hst hho => ?_
 obtain ⟨R, hR⟩ := jfit_dec2 j
 have c0 := r16Small_w j ho R hR
 have hsc : ∀ s : SchS, schA s = [.c (.int .i64 s.ver), .c (.int .i64 s.next), .fs 4 s.tabs.length (tabsA s.tabs)] := fun _ => rfl
 have hja : jobA j = [.c (.int .i64 j.id), .c (.int .i64 j.kind), .c (.int .i64 j.table), .c (.string j.name), .fs 10 j.cols.length (colsA j.cols), .c (.int .i64 j.idx.id), .c (.string j.idx.name), .fs 1 j.idx.cols.length (intsA j.idx.cols), .c (.bool j.idx.uniq), .c (.int .i64 j.idx.st), .c (.int .i64 j.item), .c (.int .i64 j.other), .c (.string j.mark), .c (.bool j.full), .c (.bool j.fence), .c (.bool j.back), .c (.int .i64 j.err), .c (.bool j.fin)] := rfl
 obtain ⟨Q, hQ⟩ := fit_dec2 s
 have c1 := small_r12 s Q hQ
 simp only [hsc, hja] at c0 c1
 simp (maxSteps := 1000000) [hho, noHo, hja, hsc, -List.reduceReplicate]
 refine call_0 (first16_w) rfl rfl hho (by simp) ?_
 simp (maxSteps := 1000000) [hho, noHo, -List.reduceReplicate]
 refine call_0 (c0) rfl rfl hho (by simp) ?_
 cases R with
 | false =>
  simp (maxSteps := 1000000) [hho, noHo, undef, onGP_none, condG_false, -List.reduceReplicate]
  exact Ret.drop (by rfl) rfl
 | true =>
 simp (maxSteps := 1000000) [hho, noHo, undef, onGP_none, condG_false, -List.reduceReplicate]
 refine call_0 (c1) rfl rfl hho (by simp) ?_
 cases Q with
 | false =>
  simp (maxSteps := 1000000) [hho, noHo, undef, onGP_none, condG_false, -List.reduceReplicate]
  exact Ret.drop (by rfl) rfl
 | true =>
 have hf := hQ.1 rfl
 obtain ⟨hb1, hb2⟩ := fit_big2 hf
 have hf1 := hf.1
 have c2 := right_r12 s hb1 hb2
 simp only [hsc] at c2
 simp (maxSteps := 1000000) [hho, noHo, undef, onGP_none, condG_false, -List.reduceReplicate]
 refine call_0 (c2) rfl rfl hho (by simp) ?_
 cases hok : schOk s with
 | false =>
  simp (maxSteps := 1000000) [hho, noHo, undef, onGP_none, condG_false, -List.reduceReplicate]
  exact Ret.drop (by rfl) rfl
 | true =>
 by_cases hv : 1152921504606846976 < s.ver
 ·simp (maxSteps := 1000000) [hho, noHo, hv, undef, onGP_none, condG_false, -List.reduceReplicate]
  exact Ret.drop (by rfl) rfl
 have hSB : SB s := ⟨by omega, hb2, hos⟩
 obtain ⟨g1, g2⟩ := sok_small hok
 have c3 := jbNext_w j s g1 g2
 have hmain := @jNext_main j s
 obtain ⟨n, hn⟩ : ∃ n, n = jNext j s := ⟨_, rfl⟩
 rw [← hn] at c3 hmain
 simp only [hsc, hja] at c3
 simp (maxSteps := 1000000) [hho, noHo, hv, undef, onGP_none, condG_false, -List.reduceReplicate]
 refine call_0 (c3) rfl rfl hho (by simp) ?_
 by_cases hm : n.mv = []
 ·obtain ⟨v, l, u⟩ := n
  simp only at hm
  subst hm
  rw [nxA_nil]
  by_cases hv0 : v = 0
  ·simp (maxSteps := 1000000) [hho, noHo, hv0, undef, onGP_none, condG_false, -List.reduceReplicate]
   exact Ret.drop (by rfl) rfl
  ·simp (maxSteps := 1000000) [hho, noHo, hv0, undef, onGP_none, condG_false, -List.reduceReplicate]
   exact Ret.drop (by rfl) rfl
 by_cases hv0 : n.ver = 0
 case neg =>
  obtain ⟨v, l, u⟩ := n
  rw [nxA_ne v l u hm]
  simp only at hv0
  simp (maxSteps := 1000000) [hho, noHo, hv0, undef, onGP_none, condG_false, -List.reduceReplicate]
  exact Ret.drop (by rfl) rfl
 obtain ⟨hfin, hk5, t, ht, hnt⟩ := hmain hv0 hm
 have hpe := plan_end hok ht (by rw [← hnt]; exact hv0) (by rw [← hnt]; exact hm)
 have hpm := plan_movs ho t
 rw [← hnt] at hpe hpm
 have hne : ∀ t', TrJ j t t' → plJT j t' ≠ n := fun t' h => by rw [hnt]; exact h.ne
 have hsame := fun b h1 h2 => r16Same_ne n b h1 hm (by have := hpm.1; omega) h2
 obtain ⟨v, L, u⟩ := n
 simp only at hm hv0 hpm
 subst hv0
 have hL1 : ¬ L.length = 0 := fun h => hm (List.eq_nil_of_length_eq_zero h)
 have hL2 : ¬ (L.length : Int) = 0 := by omega
 have hstp := step_w s (L.map mvOf) (by omega) (by omega) hb2 (by have := hpm.1; simp; omega) hpm.2
 rw [stepP_eq] at hstp
 have hstp : ACalls Tryz.prog 18 [.agg (schA s), .fs 4 L.length (mvsA L)] [] (fun _ => false) (fun r h' => r = .tup [.agg (schA (stepS s (L.map mvOf)).1), .c (.int .i64 (stepS s (L.map mvOf)).2)] ∧ h' = []) := by
  rw [mvsA_of]
  have := hstp
  rw [List.length_map] at this
  exact this
 have hsb := @step_SB s (L.map mvOf) hSB hpm.2 (by omega)
 have hrun := hpe.run
 simp only at hrun
 obtain ⟨q, hq⟩ : ∃ q, q = stepS s (L.map mvOf) := ⟨_, rfl⟩
 rw [← hq] at hstp hsb hrun
 clear hq
 rw [nxA_ne 0 L u hm]
 rcases hrun with ⟨m, l, hml, hof, he⟩ | ⟨he, hok2, t', ht', htr⟩
 ·rw [he] at hstp
  simp only [hsc] at hstp
  have hm0 : List.take 4 (mvsA L) = [.c (.int .i64 m.tab), .c (.bool false), .c (.int .i64 m.item), .c (.int .i64 m.st)] := by
   have h := mvsA_at2 L 0 (by omega)
   simp only [Nat.zero_mul, List.drop_zero] at h
   rw [h]
   have : L[0]'(by omega) = m := by simp [hml]
   rw [this, jvC, hof]
  have hl4 : 4 ≤ L.length * 4 := by omega
  have hl0 : 0 < L.length := by omega
  simp (maxSteps := 1000000) [hho, noHo, hL1, hL2, undef, onGP_none, condG_false, -List.reduceReplicate]
  refine call_0 (hstp) rfl rfl hho (by simp) ?_
  simp (maxSteps := 1000000) [hho, noHo, hm0, hl4, hl0, undef, onGP_none, condG_false, -List.reduceReplicate]
  exact Ret.drop (by rfl) rfl
 ·obtain ⟨p, e⟩ := q
  simp only at he hok2 ht' hsb
  subst he
  have hsb2 := hsb rfl
  obtain ⟨g3, g4⟩ := sok_small hok2
  have c4 := jbNext_w j p g3 g4
  have hn2 := jNext_tab hfin hk5 ht'
  have hne2 := hne t' htr
  rw [hn2] at c4
  have hpm2 := (plan_movs ho t').1
  have c5 := hsame (plJT j t') hne2.symm (by omega)
  have c6 := right_r12 p (by have := hsb2.len; omega) hsb2.big
  rw [hok2] at c6
  obtain ⟨n2, hn2e⟩ : ∃ n2, n2 = plJT j t' := ⟨_, rfl⟩
  rw [← hn2e] at c4 c5 hpm2
  clear hn2e hn2 hne2
  obtain ⟨v2, L2, u2⟩ := n2
  rw [nxA_ne 0 L u hm] at c5
  by_cases hL2e : L2 = []
  ·subst hL2e
   rw [nxA_nil] at c4 c5
   simp only [hsc, hja] at hstp c4 c5 c6
   simp (maxSteps := 1000000) [hho, noHo, hL1, hL2, undef, onGP_none, condG_false, -List.reduceReplicate]
   refine call_0 (hstp) rfl rfl hho (by simp) ?_
   simp (maxSteps := 1000000) [hho, noHo, undef, onGP_none, condG_false, -List.reduceReplicate]
   refine call_0 (c4) rfl rfl hho (by simp) ?_
   simp (maxSteps := 1000000) [hho, noHo, undef, onGP_none, condG_false, -List.reduceReplicate]
   refine call_0 (c5) rfl rfl hho (by simp) ?_
   simp (maxSteps := 1000000) [hho, noHo, undef, onGP_none, condG_false, -List.reduceReplicate]
   refine call_0 (c6) rfl rfl hho (by simp) ?_
   simp (maxSteps := 1000000) [hho, noHo, undef, onGP_none, condG_false, -List.reduceReplicate]
   exact Ret.drop (by rfl) rfl
  ·rw [nxA_ne v2 L2 u2 hL2e] at c4 c5
   simp only [hsc, hja] at hstp c4 c5 c6
   simp (maxSteps := 1000000) [hho, noHo, hL1, hL2, undef, onGP_none, condG_false, -List.reduceReplicate]
   refine call_0 (hstp) rfl rfl hho (by simp) ?_
   simp (maxSteps := 1000000) [hho, noHo, undef, onGP_none, condG_false, -List.reduceReplicate]
   refine call_0 (c4) rfl rfl hho (by simp) ?_
   simp (maxSteps := 1000000) [hho, noHo, undef, onGP_none, condG_false, -List.reduceReplicate]
   refine call_0 (c5) rfl rfl hho (by simp) ?_
   simp (maxSteps := 1000000) [hho, noHo, undef, onGP_none, condG_false, -List.reduceReplicate]
   refine call_0 (c6) rfl rfl hho (by simp) ?_
   simp (maxSteps := 1000000) [hho, noHo, undef, onGP_none, condG_false, -List.reduceReplicate]
   exact Ret.drop (by rfl) rfl
end Go.Proofs.YthgoocdldnkogaaGreatDoor
