import Derived.Test.YtjgdlocgoiinbaaGreatDoorQN
namespace Go.Proofs.YtjgdlocgoiinbaaGreatDoor
set_option linter.unusedVariables false
set_option linter.unusedSimpArgs false
open Go.RowKit Go.Lib
attribute [local simp] isCut_nil isCut_region isCut_seq isCut_block isCut_loop isCut_cond isCut_skip isCut_exit isCut_ret isCut_range swapK putK altK condK_bool pickP_bool stepP stepO onPure_some onPure_none onImpl_some onImpl_none stepC onGP_some onGP_none onGV_some condG mkG onIt_it nextP_ptr takeP_eq takeV_some takeV_none takeU_some takeU_none takeQ takeW_some takeN_none takeN_some takeG_some takeO_some altO_some pureV binV2 eqF eqOp ovlV ovl2 rowAt capV binV intBin strBin isSh shV fldV ixV sliceV slice3V loadAV nilV lenV callV unV convV viewS cellsH loadV fldCut AV.ung AV.ungs AV.gc AV.cells AS.ev AS.put anyS gcsV gcO lens lnO gV guardV retK RetP_eq resV oneV anyRo loIx hiIx implO callP_clo evL gcsL clearV storeAV AS.push AS.setO appV appZ shortS copyV buildV partsV fillV srcV fzO okV isCell_c isCell_ptr isCell_sl isCell_fs isCell_fp isCell_clo rowZ_one rowZ_zero rowZ_2 rowZ_3 rowZ_4 rowZ_5 rowZ_6 rowZ_7 rowZ_8 rowZ_9 rowZ_10 rowZ_11 rowZ_12 noHo Value.oneCell' max2V min2V lookV updV lenM msAt afterH putBack frzFrom frzO rebO backIx nilEq_sl nilEq_fs nilEq_ifn nilEq_ifh ifOp_eql ifOp_neq isLit nilOp_eql nilOp_neq AV.reb AV.rebL
attribute [local simp ↓] runK_skip runK_region runK_draw runK_seq runK_cut runK_cond runK_block runK_loop runK_exit runK_label runK_goto runK_ret runK_range contK_nil contK_seq contK_seq_ret contK_seq_exit contK_seq_goto contK_block contK_block_ret contK_block_goto contK_block_exit runO_nil runO_cons roundK_exit roundK_ret roundK_goto exitK_ret cutK_ret cutK_exit runE_done runE_nil runE_take runE_alt condG_true condG_false
set_option maxRecDepth 10000
/-! ## More laws of chapter 03 -/
set_option maxHeartbeats 8000000 in
theorem vtexts_w (x : ValS) (hx : x.Ok) (y : ValS) (hy : y.Ok) : ACalls Tryz.prog 8 [.agg (valA x), .agg (valA y)] [] (fun _ => false) (fun r h' => r = .c (.bool true)) := by
  refine acalls mixed Tryz.func8 rfl Tryz.ntmps8 rfl fun E hE hst hho => ?_
  have c0 := l3first_w
  have r1 := val_refM x (mx63 hx.2.2.2)
  have r2 := val_refM y (mx63 hy.2.2.2)
  simp (maxSteps := 1000000) [hho, noHo, valA, -List.reduceReplicate]
  refine call_x [] (c0) rfl rfl ⟨rfl, rfl⟩ hho (by simp) (by decide) (by simp) (by simp) ?_
  by_cases ox : valOk x = true
  case neg =>
    rw [show valOk x = false by simpa using ox] at r1
    simp (maxSteps := 1000000) [hho, noHo, undef, onGP_none, condG_false, -List.reduceReplicate]
    refine call_x [] (r1) rfl rfl ⟨rfl, rfl⟩ hho (by simp) (by decide) (by simp) (by simp) ?_
    simp (maxSteps := 1000000) [hho, noHo, undef, onGP_none, condG_false, undef, onGP_none, condG_false, -List.reduceReplicate]
    exact Ret.drop (by rfl) rfl
  rw [ox] at r1
  simp (maxSteps := 1000000) [hho, noHo, undef, onGP_none, condG_false, -List.reduceReplicate]
  refine call_x [] (r1) rfl rfl ⟨rfl, rfl⟩ hho (by simp) (by decide) (by simp) (by simp) ?_
  by_cases oy : valOk y = true
  case neg =>
    rw [show valOk y = false by simpa using oy] at r2
    simp (maxSteps := 1000000) [hho, noHo, undef, onGP_none, condG_false, -List.reduceReplicate]
    refine call_x [] (r2) rfl rfl ⟨rfl, rfl⟩ hho (by simp) (by decide) (by simp) (by simp) ?_
    simp (maxSteps := 1000000) [hho, noHo, undef, onGP_none, condG_false, undef, onGP_none, condG_false, -List.reduceReplicate]
    exact Ret.drop (by rfl) rfl
  rw [oy] at r2
  simp (maxSteps := 1000000) [hho, noHo, undef, onGP_none, condG_false, -List.reduceReplicate]
  refine call_x [] (r2) rfl rfl ⟨rfl, rfl⟩ hho (by simp) (by decide) (by simp) (by simp) ?_
  have tx := ok_size ox
  have ty := ok_size oy
  have ix : (-9223372036854775808 ≤ x.n ∧ x.n ≤ 9223372036854775807) ∧ x.t.size ≤ 1000000000 := ⟨hx.2.1, by omega⟩
  have iy : (-9223372036854775808 ≤ y.n ∧ y.n ≤ 9223372036854775807) ∧ y.t.size ≤ 1000000000 := ⟨hy.2.1, by omega⟩
  have c1 := vPrint_w x ix
  have c2 := vPrint_w y iy
  have c3 := vOrder_w x y ix iy
  rw [plV_of ox] at c1
  rw [plV_of oy] at c2
  rw [plV_of ox, plV_of oy] at c3
  have hp : baL (printR x) = baL (printR y) → x = y := by
    intro h
    have h := ba_inj.1 h
    have e1 := parse_print ox hx.2.1.1 hx.2.1.2
    have e2 := parse_print oy hy.2.1.1 hy.2.1.2
    rw [h, e2] at e1
    injection e1 with e1
    exact e1.symm
  have l2 := order_zero ox oy
  by_cases hxy : x = y
  · have a0 := l2.2 hxy
    subst hxy
    obtain ⟨A, hA⟩ : ∃ A, A = orderV x x := ⟨_, rfl⟩
    obtain ⟨P, hP⟩ : ∃ A, A = baL (printR x) := ⟨_, rfl⟩
    rw [← hA] at c3 a0
    rw [← hP] at c1
    simp (maxSteps := 1000000) [hho, noHo, -List.reduceReplicate]
    refine draw_k hho (.take 0 (.take 2 (.take 5 (.take 6 (.take 7 (.alt 1 (.alt 3 (.take 4 (.take 8 (.take 9 (.take 10 (.take 11 (.take 14 (.take 15 (.take 16 (.alt 12 (.take 13 (.take 17 (.take 18 (.take 19 (.done))))) (.nil)))))))))) (.nil)) (.nil))))))) [0, 1] [] (by decide +kernel) (by simp) ?_
    simp (maxSteps := 1000000) [hho, noHo, roOf, holdOf, wrOf, altK, heldOk, Region.binds, -List.reduceReplicate]
    intros
    refine call_h [] (c1) rfl rfl ⟨rfl, rfl⟩ (by simp) (by simp) (by decide) (by simp) (by simp) ?_
    simp (maxSteps := 1000000) [hho, noHo, roOf, holdOf, wrOf, altK, heldOk, Region.binds, -List.reduceReplicate]
    intros
    refine call_h [] (c1) rfl rfl ⟨rfl, rfl⟩ (by simp) (by simp) (by decide) (by simp) (by simp) ?_
    simp (maxSteps := 1000000) [hho, noHo, roOf, holdOf, wrOf, altK, heldOk, Region.binds, -List.reduceReplicate]
    intros
    refine call_h [] (c3) rfl rfl ⟨rfl, rfl⟩ (by simp) (by simp) (by decide) (by simp) (by simp) ?_
    simp (maxSteps := 1000000) [hho, noHo, a0, roOf, holdOf, wrOf, altK, heldOk, Region.binds, -List.reduceReplicate]
    exact Ret.drop (by rfl) rfl
  · have a0 : ¬ orderV x y = 0 := fun e => hxy (l2.1 e)
    have hne := val_ne hxy
    have hb : (decide (x.k = y.k) && (decide (x.n = y.n) && (decide (x.s = y.s) && decide (x.t = y.t)))) = false := by
      rw [Bool.eq_false_iff]
      intro h
      simp only [Bool.and_eq_true, decide_eq_true_eq] at h
      exact hne h
    have hpn : ¬ baL (printR x) = baL (printR y) := fun h => hxy (hp h)
    obtain ⟨A, hA⟩ : ∃ A, A = orderV x y := ⟨_, rfl⟩
    obtain ⟨P, hP⟩ : ∃ A, A = baL (printR x) := ⟨_, rfl⟩
    obtain ⟨Q, hQ⟩ : ∃ A, A = baL (printR y) := ⟨_, rfl⟩
    rw [← hA] at c3 a0
    rw [← hP] at c1 hpn
    rw [← hQ] at c2 hpn
    simp (maxSteps := 1000000) [hho, noHo, -List.reduceReplicate]
    refine draw_k hho (.take 0 (.take 2 (.take 5 (.take 6 (.take 7 (.alt 1 (.alt 3 (.take 4 (.take 8 (.take 9 (.take 10 (.take 11 (.take 14 (.take 15 (.take 16 (.alt 12 (.take 13 (.take 17 (.take 18 (.take 19 (.done))))) (.nil)))))))))) (.nil)) (.nil))))))) [0, 1] [] (by decide +kernel) (by simp) ?_
    simp (maxSteps := 1000000) [hho, noHo, hb, roOf, holdOf, wrOf, altK, heldOk, Region.binds, -List.reduceReplicate]
    intros
    refine call_h [] (c1) rfl rfl ⟨rfl, rfl⟩ (by simp) (by simp) (by decide) (by simp) (by simp) ?_
    simp (maxSteps := 1000000) [hho, noHo, hb, roOf, holdOf, wrOf, altK, heldOk, Region.binds, -List.reduceReplicate]
    intros
    refine call_h [] (c2) rfl rfl ⟨rfl, rfl⟩ (by simp) (by simp) (by decide) (by simp) (by simp) ?_
    simp (maxSteps := 1000000) [hho, noHo, hb, hpn, roOf, holdOf, wrOf, altK, heldOk, Region.binds, -List.reduceReplicate]
    intros
    refine call_h [] (c3) rfl rfl ⟨rfl, rfl⟩ (by simp) (by simp) (by decide) (by simp) (by simp) ?_
    simp (maxSteps := 1000000) [hho, noHo, a0, hb, roOf, holdOf, wrOf, altK, heldOk, Region.binds, -List.reduceReplicate]
    exact Ret.drop (by rfl) rfl
theorem andT_c (a b : Int) : andT (notT a) (notT b) = andT (notT a) (notT b) := rfl
set_option maxHeartbeats 8000000 in
theorem vtruths_w (a : Int) (ha : -9223372036854775808 ≤ a ∧ a ≤ 9223372036854775807) (b : Int) (hb : -9223372036854775808 ≤ b ∧ b ≤ 9223372036854775807) (v : ValS) (hv : v.Ok) : ACalls Tryz.prog 7 [.c (.int .i64 a), .c (.int .i64 b), .agg (valA v)] [] (fun _ => false) (fun r h' => r = .c (.bool true)) := by
  refine acalls mixed Tryz.func7 rfl Tryz.ntmps7 rfl fun E hE hst hho => ?_
  have c0 := l3first_w
  by_cases hl : 500 < (v.t.size : Int)
  · simp (maxSteps := 1000000) [hho, noHo, valA, -List.reduceReplicate]
    refine call_x [] (c0) rfl rfl ⟨rfl, rfl⟩ hho (by simp) (by decide) (by simp) (by simp) ?_
    simp (maxSteps := 1000000) [hho, noHo, hl, undef, onGP_none, condG_false, -List.reduceReplicate]
    exact Ret.drop (by rfl) rfl
  have c1 := vNot_w a
  have c2 := r3Not_w a
  have c3 := vAnd_w a b
  have c4 := r3And_w a b
  have c5 := vOr_w a b
  have c6 := r3Not_w b
  have c7 := r3And_w (notT a) (notT b)
  have c8 := r3Not_w (andT (notT a) (notT b))
  have c9 := r3Plain_w v (by omega)
  have c10 := vTruth_w v (by omega)
  have c11 := vBool_w true
  have c12 := vBool_w false
  unfold truV at c10
  obtain ⟨A1, h1⟩ : ∃ A, A = notT a := ⟨_, rfl⟩
  obtain ⟨A2, h2⟩ : ∃ A, A = notT b := ⟨_, rfl⟩
  rw [← h1] at c1 c2 c5 c7 c8
  rw [← h2] at c5 c6 c7 c8
  obtain ⟨A3, h3⟩ : ∃ A, A = andT a b := ⟨_, rfl⟩
  rw [← h3] at c3 c4
  obtain ⟨A4, h4⟩ : ∃ A, A = andT A1 A2 := ⟨_, rfl⟩
  rw [← h4] at c5 c7 c8
  obtain ⟨A5, h5⟩ : ∃ A, A = notT A4 := ⟨_, rfl⟩
  rw [← h5] at c5 c8
  obtain ⟨p, hp⟩ : ∃ A, A = plV v := ⟨_, rfl⟩
  rw [← hp] at c9 c10
  clear h1 h2 h3 h4 h5
  simp (maxSteps := 1000000) [hho, noHo, valA, -List.reduceReplicate]
  refine call_x [] (c0) rfl rfl ⟨rfl, rfl⟩ hho (by simp) (by decide) (by simp) (by simp) ?_
  simp (maxSteps := 1000000) [hho, noHo, hl, undef, onGP_none, condG_false, -List.reduceReplicate]
  refine call_x [] (c1) rfl rfl ⟨rfl, rfl⟩ hho (by simp) (by decide) (by simp) (by simp) ?_
  simp (maxSteps := 1000000) [hho, noHo, undef, onGP_none, condG_false, -List.reduceReplicate]
  refine call_x [] (c2) rfl rfl ⟨rfl, rfl⟩ hho (by simp) (by decide) (by simp) (by simp) ?_
  simp (maxSteps := 1000000) [hho, noHo, undef, onGP_none, condG_false, -List.reduceReplicate]
  refine call_x [] (c3) rfl rfl ⟨rfl, rfl⟩ hho (by simp) (by decide) (by simp) (by simp) ?_
  simp (maxSteps := 1000000) [hho, noHo, undef, onGP_none, condG_false, -List.reduceReplicate]
  refine call_x [] (c4) rfl rfl ⟨rfl, rfl⟩ hho (by simp) (by decide) (by simp) (by simp) ?_
  simp (maxSteps := 1000000) [hho, noHo, undef, onGP_none, condG_false, -List.reduceReplicate]
  refine call_x [] (c5) rfl rfl ⟨rfl, rfl⟩ hho (by simp) (by decide) (by simp) (by simp) ?_
  simp (maxSteps := 1000000) [hho, noHo, undef, onGP_none, condG_false, -List.reduceReplicate]
  refine call_x [] (c2) rfl rfl ⟨rfl, rfl⟩ hho (by simp) (by decide) (by simp) (by simp) ?_
  simp (maxSteps := 1000000) [hho, noHo, undef, onGP_none, condG_false, -List.reduceReplicate]
  refine call_x [] (c6) rfl rfl ⟨rfl, rfl⟩ hho (by simp) (by decide) (by simp) (by simp) ?_
  simp (maxSteps := 1000000) [hho, noHo, undef, onGP_none, condG_false, -List.reduceReplicate]
  refine call_x [] (c7) rfl rfl ⟨rfl, rfl⟩ hho (by simp) (by decide) (by simp) (by simp) ?_
  simp (maxSteps := 1000000) [hho, noHo, undef, onGP_none, condG_false, -List.reduceReplicate]
  refine call_x [] (c8) rfl rfl ⟨rfl, rfl⟩ hho (by simp) (by decide) (by simp) (by simp) ?_
  simp (maxSteps := 1000000) [hho, noHo, undef, onGP_none, condG_false, -List.reduceReplicate]
  refine call_x [] (c9) rfl rfl ⟨rfl, rfl⟩ hho (by simp) (by decide) (by simp) (by simp) ?_
  by_cases k1 : p.k = 1
  · rw [if_pos k1] at c10
    simp (maxSteps := 1000000) [hho, noHo, valA, k1, undef, onGP_none, condG_false, -List.reduceReplicate]
    refine call_x [] (c10) rfl rfl ⟨rfl, rfl⟩ hho (by simp) (by decide) (by simp) (by simp) ?_
    simp (maxSteps := 1000000) [hho, noHo, undef, onGP_none, condG_false, -List.reduceReplicate]
    refine call_x [] (c11) rfl rfl ⟨rfl, rfl⟩ hho (by simp) (by decide) (by simp) (by simp) ?_
    simp (maxSteps := 1000000) [hho, noHo, valA, boolV, undef, onGP_none, condG_false, -List.reduceReplicate]
    refine call_x [] (c12) rfl rfl ⟨rfl, rfl⟩ hho (by simp) (by decide) (by simp) (by simp) ?_
    simp (maxSteps := 1000000) [hho, noHo, valA, boolV, undef, onGP_none, condG_false, -List.reduceReplicate]
    exact Ret.drop (by rfl) rfl
  · rw [if_neg k1] at c10
    simp (maxSteps := 1000000) [hho, noHo, valA, k1, undef, onGP_none, condG_false, -List.reduceReplicate]
    refine call_x [] (c10) rfl rfl ⟨rfl, rfl⟩ hho (by simp) (by decide) (by simp) (by simp) ?_
    simp (maxSteps := 1000000) [hho, noHo, undef, onGP_none, condG_false, -List.reduceReplicate]
    refine call_x [] (c11) rfl rfl ⟨rfl, rfl⟩ hho (by simp) (by decide) (by simp) (by simp) ?_
    simp (maxSteps := 1000000) [hho, noHo, valA, boolV, undef, onGP_none, condG_false, -List.reduceReplicate]
    refine call_x [] (c12) rfl rfl ⟨rfl, rfl⟩ hho (by simp) (by decide) (by simp) (by simp) ?_
    simp (maxSteps := 1000000) [hho, noHo, valA, boolV, undef, onGP_none, condG_false, -List.reduceReplicate]
    exact Ret.drop (by rfl) rfl
end Go.Proofs.YtjgdlocgoiinbaaGreatDoor
