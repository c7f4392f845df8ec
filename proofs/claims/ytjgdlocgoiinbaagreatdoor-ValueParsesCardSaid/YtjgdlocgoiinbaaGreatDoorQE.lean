import Derived.Test.YtjgdlocgoiinbaaGreatDoorQD
namespace Go.Proofs.YtjgdlocgoiinbaaGreatDoor
set_option linter.unusedVariables false
set_option linter.unusedSimpArgs false
open Go.RowKit Go.Lib
attribute [local simp] isCut_nil isCut_region isCut_seq isCut_block isCut_loop isCut_cond isCut_skip isCut_exit isCut_ret isCut_range swapK putK altK condK_bool pickP_bool stepP stepO onPure_some onPure_none onImpl_some onImpl_none stepC onGP_some onGP_none onGV_some condG mkG onIt_it nextP_ptr takeP_eq takeV_some takeV_none takeU_some takeU_none takeQ takeW_some takeN_none takeN_some takeG_some takeO_some altO_some pureV binV2 eqF eqOp ovlV ovl2 rowAt capV binV intBin strBin isSh shV fldV ixV sliceV slice3V loadAV nilV lenV callV unV convV viewS cellsH loadV fldCut AV.ung AV.ungs AV.gc AV.cells AS.ev AS.put anyS gcsV gcO lens lnO gV guardV retK RetP_eq resV oneV anyRo loIx hiIx implO callP_clo evL gcsL clearV storeAV AS.push AS.setO appV appZ shortS copyV buildV partsV fillV srcV fzO okV isCell_c isCell_ptr isCell_sl isCell_fs isCell_fp isCell_clo rowZ_one rowZ_zero rowZ_2 rowZ_3 rowZ_4 rowZ_5 rowZ_6 rowZ_7 rowZ_8 rowZ_9 rowZ_10 rowZ_11 rowZ_12 noHo Value.oneCell' max2V min2V lookV updV lenM msAt afterH putBack frzFrom frzO rebO backIx nilEq_sl nilEq_fs nilEq_ifn nilEq_ifh ifOp_eql ifOp_neq isLit nilOp_eql nilOp_neq AV.reb AV.rebL
attribute [local simp ↓] runK_skip runK_region runK_draw runK_seq runK_cut runK_cond runK_block runK_loop runK_exit runK_label runK_goto runK_ret runK_range contK_nil contK_seq contK_seq_ret contK_seq_exit contK_seq_goto contK_block contK_block_ret contK_block_goto contK_block_exit runO_nil runO_cons roundK_exit roundK_ret roundK_goto exitK_ret cutK_ret cutK_exit runE_done runE_nil runE_take runE_alt condG_true condG_false
set_option maxRecDepth 10000
/-! ## Compare and Order of values, by the program and by the document -/
def okI (v : ValS) : Prop := valOk v = true ∧ (-9223372036854775808 ≤ v.n ∧ v.n ≤ 9223372036854775807) ∧ v.t.size ≤ 1000000000
theorem plV_I {v : ValS} (h : (-9223372036854775808 ≤ v.n ∧ v.n ≤ 9223372036854775807) ∧ v.t.size ≤ 1000000000) : okI (plV v) := by
  unfold plV
  split
  · rename_i hv; exact ⟨hv, h.1, h.2⟩
  · exact ⟨rfl, ⟨by decide, by decide⟩, by decide⟩
theorem ok_k {v : ValS} (h : valOk v = true) : 0 ≤ v.k ∧ v.k ≤ 5 := by
  unfold valOk at h
  by_cases k0 : v.k = 0
  · omega
  by_cases k1 : v.k = 1
  · omega
  by_cases k2 : v.k = 2
  · omega
  by_cases k3 : v.k = 3
  · omega
  by_cases k4 : v.k = 4
  · omega
  by_cases k5 : v.k = 5
  · omega
  · rw [if_neg k0, if_neg k1, if_neg k2, if_neg k3, if_neg k4, if_neg k5] at h; cases h
theorem ok_scale {v : ValS} (h : valOk v = true) (h2 : v.k = 2 ∨ v.k = 3) : scaleOk v.s = true := by
  have := valOk_2 h (by unfold cls; rcases h2 with h2 | h2 <;> rw [h2] <;> rfl)
  unfold scaleOk
  simp only [Bool.and_eq_true, decide_eq_true_eq]
  exact ⟨this.2.1, this.2.2⟩
theorem ok_text {v : ValS} (h : valOk v = true) (h2 : v.k = 1) : v.t = ByteArray.empty := by
  unfold valOk at h
  rw [if_neg (by omega), if_pos h2] at h
  simp only [Bool.and_eq_true, decide_eq_true_eq] at h
  exact h.2
theorem ok_num {v : ValS} (h : valOk v = true) (h2 : v.k = 4 ∨ v.k = 5) : v.n = 0 := by
  unfold valOk at h
  rcases h2 with h2 | h2
  · rw [if_neg (by omega), if_neg (by omega), if_neg (by omega), if_neg (by omega), if_pos h2] at h
    simp only [Bool.and_eq_true, decide_eq_true_eq] at h
    exact h.1.1.1
  · rw [if_neg (by omega), if_neg (by omega), if_neg (by omega), if_neg (by omega), if_neg (by omega), if_pos h2] at h
    simp only [Bool.and_eq_true, decide_eq_true_eq] at h
    exact h.1.1
set_option maxHeartbeats 4000000 in
theorem vinside_w (a b : ValS) (ha : okI a) (hb : okI b) (hc : cls a.k = cls b.k) : ACalls Tryz.prog 46 [.agg (valA a), .agg (valA b)] [] (fun _ => false) (fun r h' => r = .c (.int .i64 (insideV a b)) ∧ h' = []) := by
  refine acalls mixed Tryz.func46 rfl Tryz.ntmps46 rfl fun E hE hst hho => ?_
  have c1 := vclass_w a.k
  have c2 := dcCompare_w a.n a.s b.n b.s ha.2.1 hb.2.1
  have c3 := cmpInt_w a.n b.n
  have c4 := compareS_w a.t b.t
  have c5 := or_two (cmpN a.n b.n) (compareBytes a.t.data.toList b.t.data.toList)
  unfold insideV
  by_cases h2 : cls a.k = 2
  · have s1 : scaleOk a.s = true := by
      refine ok_scale ha.1 ?_
      unfold cls at h2
      split at h2 <;> omega
    have s2 : scaleOk b.s = true := by
      refine ok_scale hb.1 ?_
      rw [hc] at h2
      unfold cls at h2
      split at h2 <;> omega
    unfold decC at c2
    rw [if_pos ⟨s1, s2⟩] at c2
    rw [if_pos h2]
    simp (maxSteps := 1000000) [hho, noHo, valA, -List.reduceReplicate]
    refine call_x [] (c1) rfl rfl ⟨rfl, rfl⟩ hho (by simp) (by decide) (by simp) (by simp) ?_
    simp (maxSteps := 1000000) [hho, noHo, h2, -List.reduceReplicate]
    refine call_x [] (c2) rfl rfl ⟨rfl, rfl⟩ hho (by simp) (by decide) (by simp) (by simp) ?_
    simp (maxSteps := 1000000) [hho, noHo, -List.reduceReplicate]
    exact Ret.drop (by rfl) ⟨rfl, rfl⟩
  · rw [if_neg h2]
    obtain ⟨u, hu⟩ : ∃ z, z = cmpN a.n b.n := ⟨_, rfl⟩
    obtain ⟨v, hv⟩ : ∃ z, z = compareBytes a.t.data.toList b.t.data.toList := ⟨_, rfl⟩
    rw [← hu] at c3 c5 ⊢
    rw [← hv] at c4 c5 ⊢
    obtain ⟨q, hq⟩ : ∃ q, q = if u ≠ 0 then u else v := ⟨_, rfl⟩
    rw [← hq] at c5 ⊢
    simp (maxSteps := 1000000) [hho, noHo, valA, -List.reduceReplicate]
    refine call_x [] (c1) rfl rfl ⟨rfl, rfl⟩ hho (by simp) (by decide) (by simp) (by simp) ?_
    simp (maxSteps := 1000000) [hho, noHo, h2, -List.reduceReplicate]
    refine draw_k hho (.take 0 (.take 1 (.take 2 (.take 3 (.take 5 (.take 6 (.take 7 (.take 8 (.alt 4 (.alt 9 (.alt 10 (.alt 11 (.take 12 (.done)) (.nil)) (.nil)) (.nil)) (.nil)))))))))) [0, 1] [] (by decide +kernel) (by simp) ?_
    simp (maxSteps := 1000000) [hho, noHo, roOf, holdOf, wrOf, altK, heldOk, Region.binds, -List.reduceReplicate]
    intros
    refine call_h [] (c3) rfl rfl ⟨rfl, rfl⟩ (by simp) (by simp) (by decide) (by simp) (by simp) ?_
    simp (maxSteps := 1000000) [hho, noHo, roOf, holdOf, wrOf, altK, heldOk, Region.binds, -List.reduceReplicate]
    intros
    refine call_h [] (c4) rfl rfl ⟨rfl, rfl⟩ (by simp) (by simp) (by decide) (by simp) (by simp) ?_
    simp (maxSteps := 1000000) [hho, noHo, roOf, holdOf, wrOf, altK, heldOk, Region.binds, -List.reduceReplicate]
    intros
    refine call_hd [] (fun k => decide (2 ≤ k)) (c5) rfl rfl ⟨rfl, rfl⟩ (by simp) (fun k hk => by have := of_decide_eq_true hk; simp; omega) (by simp) (by decide) (by simp) (by simp [isD_c, maxLen]) (by simp) ?_
    simp (maxSteps := 1000000) [hho, noHo, roOf, holdOf, wrOf, altK, heldOk, Region.binds, -List.reduceReplicate]
    exact Ret.drop (by rfl) ⟨rfl, rfl⟩
set_option maxHeartbeats 4000000 in
theorem vCompare_w (x y : ValS) (hx : (-9223372036854775808 ≤ x.n ∧ x.n ≤ 9223372036854775807) ∧ x.t.size ≤ 1000000000) (hy : (-9223372036854775808 ≤ y.n ∧ y.n ≤ 9223372036854775807) ∧ y.t.size ≤ 1000000000) : ACalls Tryz.prog 15 [.agg (valA x), .agg (valA y)] [] (fun _ => false) (fun r h' => r = .tup [.c (.int .i64 (cmpV (plV x) (plV y)).1), .c (.bool (cmpV (plV x) (plV y)).2)] ∧ h' = []) := by
  refine acalls mixed Tryz.func15 rfl Tryz.ntmps15 rfl fun E hE hst hho => ?_
  have c1 := vright_w x (by omega)
  have c2 := vright_w y (by omega)
  have oa := plV_I hx
  have ob := plV_I hy
  obtain ⟨a, ha⟩ : ∃ a, a = plV x := ⟨_, rfl⟩
  obtain ⟨b, hb⟩ : ∃ b, b = plV y := ⟨_, rfl⟩
  rw [← ha] at c1 oa ⊢
  rw [← hb] at c2 ob ⊢
  have c3 := vclass_w a.k
  have c4 := vclass_w b.k
  unfold cmpV
  simp (maxSteps := 1000000) [hho, noHo, valA, -List.reduceReplicate]
  refine draw_k hho (.take 0 (.take 2 (.alt 1 (.alt 3 (.alt 4 (.alt 5 (.done) (.nil)) (.nil)) (.nil)) (.nil)))) [0, 1] [(4, [0]), (5, [1])] (by decide +kernel) (by simp) ?_
  simp (maxSteps := 1000000) [hho, noHo, roOf, holdOf, wrOf, altK, heldOk, Region.binds, -List.reduceReplicate]
  intros
  refine call_h [] (c1) rfl rfl ⟨rfl, rfl⟩ (by simp) (by simp) (by decide) (by simp) (by simp) ?_
  simp (maxSteps := 1000000) [hho, noHo, valA, roOf, holdOf, wrOf, altK, heldOk, Region.binds, -List.reduceReplicate]
  intros
  refine call_h [] (c2) rfl rfl ⟨rfl, rfl⟩ (by simp) (by simp) (by decide) (by simp) (by simp) ?_
  simp (maxSteps := 1000000) [hho, noHo, valA, roOf, holdOf, wrOf, altK, heldOk, Region.binds, -List.reduceReplicate]
  intros
  by_cases k0 : a.k = 0
  · rw [if_pos (.inl k0)]
    refine draw_k hho (.take 0 (.take 1 (.take 2 (.take 3 (.take 4 (.take 5 (.take 6 (.take 7 (.take 8 (.take 9 (.take 10 (.take 11 (.done))))))))))))) [0, 1] [] (by decide +kernel) (by simp) ?_
    simp (maxSteps := 1000000) [hho, noHo, k0, undef, onGP_none, condG_false, roOf, holdOf, wrOf, altK, heldOk, Region.binds, -List.reduceReplicate]
    exact Ret.drop (by rfl) ⟨rfl, rfl⟩
  by_cases kc : cls a.k = cls b.k
  · have c5 := vinside_w a b oa ob kc
    have hn : ¬ (a.k = 0 ∨ cls a.k ≠ cls b.k) := fun h => by rcases h with h | h; exact k0 h; exact h kc
    rw [if_neg hn]
    obtain ⟨v, hv⟩ : ∃ v, v = insideV a b := ⟨_, rfl⟩
    rw [← hv] at c5 ⊢
    refine draw_k hho (.take 0 (.take 1 (.take 2 (.take 3 (.take 4 (.take 5 (.take 7 (.take 8 (.alt 6 (.alt 9 (.take 10 (.take 11 (.done))) (.nil)) (.nil)))))))))) [0, 1] [] (by decide +kernel) (by simp) ?_
    simp (maxSteps := 1000000) [hho, noHo, k0, roOf, holdOf, wrOf, altK, heldOk, Region.binds, -List.reduceReplicate]
    intros
    refine call_h [] (c3) rfl rfl ⟨rfl, rfl⟩ (by simp) (by simp) (by decide) (by simp) (by simp) ?_
    simp (maxSteps := 1000000) [hho, noHo, k0, roOf, holdOf, wrOf, altK, heldOk, Region.binds, -List.reduceReplicate]
    intros
    refine call_h [] (c4) rfl rfl ⟨rfl, rfl⟩ (by simp) (by simp) (by decide) (by simp) (by simp) ?_
    simp (maxSteps := 1000000) [hho, noHo, k0, kc, valA, roOf, holdOf, wrOf, altK, heldOk, Region.binds, -List.reduceReplicate]
    refine call_x [] (c5) rfl rfl ⟨rfl, rfl⟩ hho (by simp) (by decide) (by simp) (by simp) ?_
    simp (maxSteps := 1000000) [hho, noHo, undef, onGP_none, condG_false, -List.reduceReplicate]
    exact Ret.drop (by rfl) ⟨rfl, rfl⟩
  · have hn : a.k = 0 ∨ cls a.k ≠ cls b.k := .inr kc
    rw [if_pos hn]
    refine draw_k hho (.take 0 (.take 1 (.take 2 (.take 3 (.take 4 (.take 5 (.take 7 (.take 8 (.alt 6 (.alt 9 (.take 10 (.take 11 (.done))) (.nil)) (.nil)))))))))) [0, 1] [] (by decide +kernel) (by simp) ?_
    simp (maxSteps := 1000000) [hho, noHo, k0, roOf, holdOf, wrOf, altK, heldOk, Region.binds, -List.reduceReplicate]
    intros
    refine call_h [] (c3) rfl rfl ⟨rfl, rfl⟩ (by simp) (by simp) (by decide) (by simp) (by simp) ?_
    simp (maxSteps := 1000000) [hho, noHo, k0, roOf, holdOf, wrOf, altK, heldOk, Region.binds, -List.reduceReplicate]
    intros
    refine call_h [] (c4) rfl rfl ⟨rfl, rfl⟩ (by simp) (by simp) (by decide) (by simp) (by simp) ?_
    simp (maxSteps := 1000000) [hho, noHo, k0, kc, valA, roOf, holdOf, wrOf, altK, heldOk, Region.binds, -List.reduceReplicate]
    exact Ret.drop (by rfl) ⟨rfl, rfl⟩
set_option maxHeartbeats 4000000 in
theorem vOrder_w (x y : ValS) (hx : (-9223372036854775808 ≤ x.n ∧ x.n ≤ 9223372036854775807) ∧ x.t.size ≤ 1000000000) (hy : (-9223372036854775808 ≤ y.n ∧ y.n ≤ 9223372036854775807) ∧ y.t.size ≤ 1000000000) : ACalls Tryz.prog 17 [.agg (valA x), .agg (valA y)] [] (fun _ => false) (fun r h' => r = .c (.int .i64 (orderV (plV x) (plV y))) ∧ h' = []) := by
  refine acalls mixed Tryz.func17 rfl Tryz.ntmps17 rfl fun E hE hst hho => ?_
  have c1 := vright_w x (by omega)
  have c2 := vright_w y (by omega)
  have oa := plV_I hx
  have ob := plV_I hy
  obtain ⟨a, ha⟩ : ∃ a, a = plV x := ⟨_, rfl⟩
  obtain ⟨b, hb⟩ : ∃ b, b = plV y := ⟨_, rfl⟩
  rw [← ha] at c1 oa ⊢
  rw [← hb] at c2 ob ⊢
  have c3 := vclass_w a.k
  have c4 := vclass_w b.k
  have c5 := cmpInt_w (cls a.k) (cls b.k)
  have c7 := cmpKind_w a.k b.k
  have c8 := cmpInt_w a.s b.s
  have c9 := or_three (insideV a b) (cmpN a.k b.k) (cmpN a.s b.s)
  obtain ⟨R, hR⟩ : ∃ R, R = orderV a b := ⟨_, rfl⟩
  rw [← hR]
  unfold orderV at hR
  simp (maxSteps := 1000000) [hho, noHo, valA, -List.reduceReplicate]
  refine draw_k hho (.take 0 (.take 2 (.alt 1 (.alt 3 (.alt 4 (.alt 5 (.done) (.nil)) (.nil)) (.nil)) (.nil)))) [0, 1] [(4, [0]), (5, [1])] (by decide +kernel) (by simp) ?_
  simp (maxSteps := 1000000) [hho, noHo, roOf, holdOf, wrOf, altK, heldOk, Region.binds, -List.reduceReplicate]
  intros
  refine call_h [] (c1) rfl rfl ⟨rfl, rfl⟩ (by simp) (by simp) (by decide) (by simp) (by simp) ?_
  simp (maxSteps := 1000000) [hho, noHo, valA, roOf, holdOf, wrOf, altK, heldOk, Region.binds, -List.reduceReplicate]
  intros
  refine call_h [] (c2) rfl rfl ⟨rfl, rfl⟩ (by simp) (by simp) (by decide) (by simp) (by simp) ?_
  simp (maxSteps := 1000000) [hho, noHo, valA, roOf, holdOf, wrOf, altK, heldOk, Region.binds, -List.reduceReplicate]
  intros
  refine draw_k hho (.take 0 (.take 1 (.take 3 (.take 4 (.alt 2 (.alt 5 (.alt 6 (.take 7 (.done)) (.nil)) (.nil)) (.nil)))))) [0, 1] [] (by decide +kernel) (by simp) ?_
  simp (maxSteps := 1000000) [hho, noHo, roOf, holdOf, wrOf, altK, heldOk, Region.binds, -List.reduceReplicate]
  intros
  refine call_h [] (c3) rfl rfl ⟨rfl, rfl⟩ (by simp) (by simp) (by decide) (by simp) (by simp) ?_
  simp (maxSteps := 1000000) [hho, noHo, roOf, holdOf, wrOf, altK, heldOk, Region.binds, -List.reduceReplicate]
  intros
  refine call_h [] (c4) rfl rfl ⟨rfl, rfl⟩ (by simp) (by simp) (by decide) (by simp) (by simp) ?_
  simp (maxSteps := 1000000) [hho, noHo, roOf, holdOf, wrOf, altK, heldOk, Region.binds, -List.reduceReplicate]
  intros
  refine call_h [] (c5) rfl rfl ⟨rfl, rfl⟩ (by simp) (by simp) (by decide) (by simp) (by simp) ?_
  by_cases kc : cls a.k = cls b.k
  · have c6 := vinside_w a b oa ob kc
    have e0 : cmpN (cls a.k) (cls b.k) = 0 := cmpN_zero.2 kc
    have hn : ¬ (cmpN (cls a.k) (cls b.k) ≠ 0) := fun h => h e0
    rw [if_neg hn] at hR
    rw [e0]
    obtain ⟨u, hu⟩ : ∃ z, z = insideV a b := ⟨_, rfl⟩
    obtain ⟨v, hv⟩ : ∃ z, z = cmpN a.k b.k := ⟨_, rfl⟩
    obtain ⟨w, hw⟩ : ∃ z, z = cmpN a.s b.s := ⟨_, rfl⟩
    rw [← hu] at c6 c9 hR
    rw [← hv] at c7 c9 hR
    rw [← hw] at c8 c9 hR
    rw [← hR] at c9
    simp (maxSteps := 1000000) [hho, noHo, roOf, holdOf, wrOf, altK, heldOk, Region.binds, -List.reduceReplicate]
    refine draw_k hho (.take 0 (.take 1 (.take 3 (.take 4 (.take 5 (.take 6 (.take 8 (.take 9 (.take 10 (.take 11 (.alt 2 (.alt 7 (.alt 12 (.alt 13 (.alt 14 (.take 15 (.done)) (.nil)) (.nil)) (.nil)) (.nil)) (.nil)))))))))))) [0, 1] [] (by decide +kernel) (by simp) ?_
    simp (maxSteps := 1000000) [hho, noHo, roOf, holdOf, wrOf, altK, heldOk, Region.binds, -List.reduceReplicate]
    intros
    refine call_h [] (c6) rfl rfl ⟨rfl, rfl⟩ (by simp) (by simp) (by decide) (by simp) (by simp) ?_
    simp (maxSteps := 1000000) [hho, noHo, roOf, holdOf, wrOf, altK, heldOk, Region.binds, -List.reduceReplicate]
    intros
    refine call_h [] (c7) rfl rfl ⟨rfl, rfl⟩ (by simp) (by simp) (by decide) (by simp) (by simp) ?_
    simp (maxSteps := 1000000) [hho, noHo, roOf, holdOf, wrOf, altK, heldOk, Region.binds, -List.reduceReplicate]
    intros
    refine call_h [] (c8) rfl rfl ⟨rfl, rfl⟩ (by simp) (by simp) (by decide) (by simp) (by simp) ?_
    simp (maxSteps := 1000000) [hho, noHo, roOf, holdOf, wrOf, altK, heldOk, Region.binds, -List.reduceReplicate]
    intros
    refine call_hd [] (fun k => decide (2 ≤ k)) (c9) rfl rfl ⟨rfl, rfl⟩ (by simp) (fun k hk => by have := of_decide_eq_true hk; simp; omega) (by simp) (by decide) (by simp) (by simp [isD_c, maxLen]) (by simp) ?_
    simp (maxSteps := 1000000) [hho, noHo, roOf, holdOf, wrOf, altK, heldOk, Region.binds, -List.reduceReplicate]
    exact Ret.drop (by rfl) ⟨rfl, rfl⟩
  · have e0 : ¬ cmpN (cls a.k) (cls b.k) = 0 := fun h => kc (cmpN_zero.1 h)
    rw [if_pos e0] at hR
    rw [← hR] at e0 ⊢
    simp (maxSteps := 1000000) [hho, noHo, e0, roOf, holdOf, wrOf, altK, heldOk, Region.binds, -List.reduceReplicate]
    exact Ret.drop (by rfl) ⟨rfl, rfl⟩
end Go.Proofs.YtjgdlocgoiinbaaGreatDoor
