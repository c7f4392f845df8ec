import Derived.Test.YtjgdlocgoiinbaaGreatDoorQE
namespace Go.Proofs.YtjgdlocgoiinbaaGreatDoor
set_option linter.unusedVariables false
set_option linter.unusedSimpArgs false
open Go.RowKit Go.Lib
attribute [local simp] isCut_nil isCut_region isCut_seq isCut_block isCut_loop isCut_cond isCut_skip isCut_exit isCut_ret isCut_range swapK putK altK condK_bool pickP_bool stepP stepO onPure_some onPure_none onImpl_some onImpl_none stepC onGP_some onGP_none onGV_some condG mkG onIt_it nextP_ptr takeP_eq takeV_some takeV_none takeU_some takeU_none takeQ takeW_some takeN_none takeN_some takeG_some takeO_some altO_some pureV binV2 eqF eqOp ovlV ovl2 rowAt capV binV intBin strBin isSh shV fldV ixV sliceV slice3V loadAV nilV lenV callV unV convV viewS cellsH loadV fldCut AV.ung AV.ungs AV.gc AV.cells AS.ev AS.put anyS gcsV gcO lens lnO gV guardV retK RetP_eq resV oneV anyRo loIx hiIx implO callP_clo evL gcsL clearV storeAV AS.push AS.setO appV appZ shortS copyV buildV partsV fillV srcV fzO okV isCell_c isCell_ptr isCell_sl isCell_fs isCell_fp isCell_clo rowZ_one rowZ_zero rowZ_2 rowZ_3 rowZ_4 rowZ_5 rowZ_6 rowZ_7 rowZ_8 rowZ_9 rowZ_10 rowZ_11 rowZ_12 noHo Value.oneCell' max2V min2V lookV updV lenM msAt afterH putBack frzFrom frzO rebO backIx nilEq_sl nilEq_fs nilEq_ifn nilEq_ifh ifOp_eql ifOp_neq isLit nilOp_eql nilOp_neq AV.reb AV.rebL
attribute [local simp ↓] runK_skip runK_region runK_draw runK_seq runK_cut runK_cond runK_block runK_loop runK_exit runK_label runK_goto runK_ret runK_range contK_nil contK_seq contK_seq_ret contK_seq_exit contK_seq_goto contK_block contK_block_ret contK_block_goto contK_block_exit runO_nil runO_cons roundK_exit roundK_ret roundK_goto exitK_ret cutK_ret cutK_exit runE_done runE_nil runE_take runE_alt condG_true condG_false
set_option maxRecDepth 10000
/-! ## The document's Compare and Order -/
theorem ok_null {v : ValS} (h : valOk v = true) (h0 : v.k = 0) : v = vN := by
  unfold valOk at h
  rw [if_pos h0] at h
  simp only [Bool.and_eq_true, decide_eq_true_eq] at h
  exact val_eq h0 h.1.1 h.1.2 h.2
theorem num_or {k : Int} : cls k = 2 ↔ (k = 2 ∨ k = 3) := by
  unfold cls
  split <;> omega
set_option maxHeartbeats 4000000 in
theorem r3Compare_w (x y : ValS) (hx : (-9223372036854775808 ≤ x.n ∧ x.n ≤ 9223372036854775807) ∧ x.t.size ≤ 1000000000) (hy : (-9223372036854775808 ≤ y.n ∧ y.n ≤ 9223372036854775807) ∧ y.t.size ≤ 1000000000) : ACalls Tryz.prog 16 [.agg (valA x), .agg (valA y)] [] (fun _ => false) (fun r h' => r = .tup [.c (.int .i64 (cmpV (plV x) (plV y)).1), .c (.bool (cmpV (plV x) (plV y)).2)] ∧ h' = []) := by
  refine acalls mixed Tryz.func16 rfl Tryz.ntmps16 rfl fun E hE hst hho => ?_
  have c1 := r3Plain_w x (by omega)
  have c2 := r3Plain_w y (by omega)
  have oa := plV_I hx
  have ob := plV_I hy
  obtain ⟨a, ha⟩ : ∃ a, a = plV x := ⟨_, rfl⟩
  obtain ⟨b, hb⟩ : ∃ b, b = plV y := ⟨_, rfl⟩
  rw [← ha] at c1 oa ⊢
  rw [← hb] at c2 ob ⊢
  have ka := ok_k oa.1
  simp (maxSteps := 1000000) [hho, noHo, valA, -List.reduceReplicate]
  refine call_x [] (c1) rfl rfl ⟨rfl, rfl⟩ hho (by simp) (by decide) (by simp) (by simp) ?_
  simp (maxSteps := 1000000) [hho, noHo, valA, undef, onGP_none, condG_false, -List.reduceReplicate]
  refine call_x [] (c2) rfl rfl ⟨rfl, rfl⟩ hho (by simp) (by decide) (by simp) (by simp) ?_
  simp (maxSteps := 1000000) [hho, noHo, valA, undef, onGP_none, condG_false, -List.reduceReplicate]
  by_cases n1 : a.k = 2 ∨ a.k = 3
  · by_cases n2 : b.k = 2 ∨ b.k = 3
    · have e : cmpV a b = (decCmp a.n a.s b.n b.s, true) := by
        unfold cmpV insideV
        rw [if_neg (by have e1 := num_or.2 n1; have e2 := num_or.2 n2; omega), if_pos (num_or.2 n1)]
      have c3 := r2Compare_w a.n a.s b.n b.s oa.2.1 ob.2.1
      unfold decC at c3
      rw [if_pos ⟨ok_scale oa.1 n1, ok_scale ob.1 n2⟩] at c3
      rw [e]
      rcases n1 with n1 | n1 <;> rcases n2 with n2 | n2
      all_goals
        simp (maxSteps := 1000000) [hho, noHo, n1, n2, undef, onGP_none, condG_false, undef, onGP_none, condG_false, -List.reduceReplicate]
        refine call_x [] (c3) rfl rfl ⟨rfl, rfl⟩ hho (by simp) (by decide) (by simp) (by simp) ?_
        simp (maxSteps := 1000000) [hho, noHo, undef, onGP_none, condG_false, -List.reduceReplicate]
        exact Ret.drop (by rfl) ⟨rfl, rfl⟩
    · have m2 : ¬ b.k = 2 ∧ ¬ b.k = 3 := by omega
      have e : cmpV a b = (0, false) := by
        unfold cmpV
        rw [if_pos (.inr (fun h => n2 (num_or.1 (by rw [← h]; exact num_or.2 n1))))]
      rw [e]
      have k0 : ¬ a.k = 0 := by omega
      have kk : ¬ a.k = b.k := by omega
      have kk1 : ¬ 2 = b.k := by omega
      have kk2 : ¬ 3 = b.k := by omega
      rcases n1 with n1 | n1
      all_goals
        simp (maxSteps := 1000000) [hho, noHo, n1, m2, kk1, kk2, undef, onGP_none, condG_false, undef, onGP_none, condG_false, -List.reduceReplicate]
        exact Ret.drop (by rfl) ⟨rfl, rfl⟩
  have m1 : ¬ a.k = 2 ∧ ¬ a.k = 3 := by omega
  by_cases k0 : a.k = 0
  · have e : cmpV a b = (0, false) := by
      unfold cmpV
      rw [if_pos (.inl k0)]
    rw [e]
    simp (maxSteps := 1000000) [hho, noHo, k0, undef, onGP_none, condG_false, undef, onGP_none, condG_false, -List.reduceReplicate]
    exact Ret.drop (by rfl) ⟨rfl, rfl⟩
  by_cases kk : a.k = b.k
  case neg =>
    have e : cmpV a b = (0, false) := by
      have g : cls a.k ≠ cls b.k := by
        unfold cls
        split <;> split <;> omega
      exact if_pos (.inr g)
    rw [e]
    simp (maxSteps := 1000000) [hho, noHo, k0, m1, kk, undef, onGP_none, condG_false, undef, onGP_none, condG_false, -List.reduceReplicate]
    exact Ret.drop (by rfl) ⟨rfl, rfl⟩
  have kc : cls a.k = cls b.k := by rw [kk]
  have c2' : ¬ cls a.k = 2 := fun h => n1 (num_or.1 h)
  have e0 : cmpV a b = (insideV a b, true) := by
    unfold cmpV
    rw [if_neg (fun h => h.elim k0 (fun h => h kc))]
  rw [e0]
  unfold insideV
  rw [if_neg c2']
  have m3 : ¬ b.k = 2 ∧ ¬ b.k = 3 := by omega
  by_cases k1 : a.k = 1
  · have t1 := ok_text oa.1 k1
    have t2 := ok_text ob.1 (by omega)
    have c3 := r3numbers_w a.n b.n
    have e1 : (if cmpN a.n b.n ≠ 0 then cmpN a.n b.n else compareBytes a.t.data.toList b.t.data.toList) = cmpN a.n b.n := by
      split
      · rfl
      · rename_i h
        rw [t1, t2]
        exact (Classical.byContradiction h).symm
    rw [e1]
    obtain ⟨u, hu⟩ : ∃ z, z = cmpN a.n b.n := ⟨_, rfl⟩
    rw [← hu] at c3 ⊢
    have kb : b.k = 1 := by omega
    simp (maxSteps := 1000000) [hho, noHo, k1, kb, undef, onGP_none, condG_false, undef, onGP_none, condG_false, -List.reduceReplicate]
    refine call_x [] (c3) rfl rfl ⟨rfl, rfl⟩ hho (by simp) (by decide) (by simp) (by simp) ?_
    simp (maxSteps := 1000000) [hho, noHo, undef, onGP_none, condG_false, -List.reduceReplicate]
    exact Ret.drop (by rfl) ⟨rfl, rfl⟩
  · have z1 := ok_num oa.1 (by omega)
    have z2 := ok_num ob.1 (by omega)
    have c3 := r3Texts_w a.t b.t oa.2.2 ob.2.2
    have e1 : (if cmpN a.n b.n ≠ 0 then cmpN a.n b.n else compareBytes a.t.data.toList b.t.data.toList) = compareBytes a.t.data.toList b.t.data.toList := by
      rw [z1, z2, if_neg (by decide)]
    rw [e1]
    obtain ⟨u, hu⟩ : ∃ z, z = compareBytes a.t.data.toList b.t.data.toList := ⟨_, rfl⟩
    rw [← hu] at c3 ⊢
    rw [← kk] at m3
    rcases (by omega : a.k = 4 ∨ a.k = 5) with k4 | k4
    all_goals
      have kb := k4
      rw [kk] at kb
      simp (maxSteps := 1000000) [hho, noHo, k4, kb, undef, onGP_none, condG_false, undef, onGP_none, condG_false, -List.reduceReplicate]
      refine call_x [] (c3) rfl rfl ⟨rfl, rfl⟩ hho (by simp) (by decide) (by simp) (by simp) ?_
      simp (maxSteps := 1000000) [hho, noHo, undef, onGP_none, condG_false, -List.reduceReplicate]
      exact Ret.drop (by rfl) ⟨rfl, rfl⟩
theorem order_doc {a b : ValS} (ha : valOk a = true) (hb : valOk b = true) : orderV a b = if (cmpV a b).2 = true ∧ (cmpV a b).1 ≠ 0 then (cmpV a b).1 else if (cmpV a b).2 = false ∨ a.k ≠ b.k then cmpN a.k b.k else cmpN a.s b.s := by
  have ka := ok_k ha
  have kb := ok_k hb
  by_cases h : a.k = 0 ∨ cls a.k ≠ cls b.k
  · have e : cmpV a b = (0, false) := if_pos h
    rw [e, if_neg (fun h => by cases h.1), if_pos (.inl rfl)]
    by_cases hc : cls a.k = cls b.k
    · have h0 : a.k = 0 := h.elim id (fun h => absurd hc h)
      have h1 : b.k = 0 := by
        unfold cls at hc
        split at hc <;> split at hc <;> omega
      rw [ok_null ha h0, ok_null hb h1]
      rfl
    · have hn : cmpN (cls a.k) (cls b.k) ≠ 0 := fun e => hc (cmpN_zero.1 e)
      unfold orderV
      rw [if_pos hn]
      unfold cls cmpN at *
      repeat' split
      all_goals first | rfl | omega
  · have e : cmpV a b = (insideV a b, true) := if_neg h
    have hc : cls a.k = cls b.k := Classical.byContradiction fun e => h (.inr e)
    have hn : ¬ (cmpN (cls a.k) (cls b.k) ≠ 0) := fun h => h (cmpN_zero.2 hc)
    rw [e]
    unfold orderV
    rw [if_neg hn]
    by_cases hi : insideV a b = 0
    · have g1 : ¬ (insideV a b ≠ 0) := fun h => h hi
      have g2 : ¬ ((insideV a b, true).2 = true ∧ (insideV a b, true).1 ≠ 0) := fun h => h.2 hi
      rw [if_neg g1, if_neg g2]
      by_cases hk : a.k = b.k
      · have h1 : ¬ (cmpN a.k b.k ≠ 0) := fun h => h (cmpN_zero.2 hk)
        have h2 : ¬ ((insideV a b, true).2 = false ∨ a.k ≠ b.k) := fun h => h.elim (fun h => by cases h) (fun h => h hk)
        rw [if_neg h1, if_neg h2]
      · have h1 : cmpN a.k b.k ≠ 0 := fun e => hk (cmpN_zero.1 e)
        rw [if_pos h1, if_pos (.inr hk)]
    · rw [if_pos hi, if_pos ⟨rfl, hi⟩]
set_option maxHeartbeats 4000000 in
theorem r3Order_w (x y : ValS) (hx : (-9223372036854775808 ≤ x.n ∧ x.n ≤ 9223372036854775807) ∧ x.t.size ≤ 1000000000) (hy : (-9223372036854775808 ≤ y.n ∧ y.n ≤ 9223372036854775807) ∧ y.t.size ≤ 1000000000) : ACalls Tryz.prog 18 [.agg (valA x), .agg (valA y)] [] (fun _ => false) (fun r h' => r = .c (.int .i64 (orderV (plV x) (plV y))) ∧ h' = []) := by
  refine acalls mixed Tryz.func18 rfl Tryz.ntmps18 rfl fun E hE hst hho => ?_
  have c1 := r3Plain_w x (by omega)
  have c2 := r3Plain_w y (by omega)
  have oa := plV_I hx
  have ob := plV_I hy
  obtain ⟨a, ha⟩ : ∃ a, a = plV x := ⟨_, rfl⟩
  obtain ⟨b, hb⟩ : ∃ b, b = plV y := ⟨_, rfl⟩
  rw [← ha] at c1 oa ⊢
  rw [← hb] at c2 ob ⊢
  have c3 := r3Compare_w a b ⟨oa.2.1, oa.2.2⟩ ⟨ob.2.1, ob.2.2⟩
  rw [plV_of oa.1, plV_of ob.1] at c3
  rw [order_doc oa.1 ob.1]
  obtain ⟨P, hP⟩ : ∃ P, P = cmpV a b := ⟨_, rfl⟩
  obtain ⟨u, w⟩ := P
  rw [← hP] at c3 ⊢
  have c4 := r3numbers_w a.k b.k
  have c5 := r3numbers_w a.s b.s
  obtain ⟨v4, hv4⟩ : ∃ z, z = cmpN a.k b.k := ⟨_, rfl⟩
  obtain ⟨v5, hv5⟩ : ∃ z, z = cmpN a.s b.s := ⟨_, rfl⟩
  rw [← hv4] at c4 ⊢
  rw [← hv5] at c5 ⊢
  simp (maxSteps := 1000000) [hho, noHo, valA, -List.reduceReplicate]
  refine call_x [] (c1) rfl rfl ⟨rfl, rfl⟩ hho (by simp) (by decide) (by simp) (by simp) ?_
  simp (maxSteps := 1000000) [hho, noHo, valA, undef, onGP_none, condG_false, -List.reduceReplicate]
  refine call_x [] (c2) rfl rfl ⟨rfl, rfl⟩ hho (by simp) (by decide) (by simp) (by simp) ?_
  simp (maxSteps := 1000000) [hho, noHo, valA, undef, onGP_none, condG_false, -List.reduceReplicate]
  refine call_x [] (c3) rfl rfl ⟨rfl, rfl⟩ hho (by simp) (by decide) (by simp) (by simp) ?_
  cases w with
  | false =>
    rw [if_neg (fun h => by cases h.1), if_pos (.inl rfl)]
    simp (maxSteps := 1000000) [hho, noHo, undef, onGP_none, condG_false, undef, onGP_none, condG_false, -List.reduceReplicate]
    refine call_x [] (c4) rfl rfl ⟨rfl, rfl⟩ hho (by simp) (by decide) (by simp) (by simp) ?_
    simp (maxSteps := 1000000) [hho, noHo, undef, onGP_none, condG_false, -List.reduceReplicate]
    exact Ret.drop (by rfl) ⟨rfl, rfl⟩
  | true =>
    by_cases h0 : u = 0
    · rw [if_neg (fun h => h.2 h0)]
      by_cases hk : a.k = b.k
      · rw [if_neg (fun h => h.elim (fun h => by cases h) (fun h => h hk))]
        simp (maxSteps := 1000000) [hho, noHo, h0, hk, undef, onGP_none, condG_false, undef, onGP_none, condG_false, -List.reduceReplicate]
        refine call_x [] (c5) rfl rfl ⟨rfl, rfl⟩ hho (by simp) (by decide) (by simp) (by simp) ?_
        simp (maxSteps := 1000000) [hho, noHo, undef, onGP_none, condG_false, -List.reduceReplicate]
        exact Ret.drop (by rfl) ⟨rfl, rfl⟩
      · rw [if_pos (.inr hk)]
        simp (maxSteps := 1000000) [hho, noHo, h0, hk, undef, onGP_none, condG_false, undef, onGP_none, condG_false, -List.reduceReplicate]
        refine call_x [] (c4) rfl rfl ⟨rfl, rfl⟩ hho (by simp) (by decide) (by simp) (by simp) ?_
        simp (maxSteps := 1000000) [hho, noHo, undef, onGP_none, condG_false, -List.reduceReplicate]
        exact Ret.drop (by rfl) ⟨rfl, rfl⟩
    · rw [if_pos ⟨rfl, h0⟩]
      simp (maxSteps := 1000000) [hho, noHo, h0, undef, onGP_none, condG_false, undef, onGP_none, condG_false, -List.reduceReplicate]
      exact Ret.drop (by rfl) ⟨rfl, rfl⟩
end Go.Proofs.YtjgdlocgoiinbaaGreatDoor
