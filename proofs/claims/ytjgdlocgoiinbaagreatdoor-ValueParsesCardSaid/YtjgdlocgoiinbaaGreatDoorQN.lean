import Derived.Test.YtjgdlocgoiinbaaGreatDoorQM
import Derived.Test.YtjgdlocgoiinbaaGreatDoorHD
namespace Go.Proofs.YtjgdlocgoiinbaaGreatDoor
set_option linter.unusedVariables false
set_option linter.unusedSimpArgs false
open Go.RowKit Go.Lib
attribute [local simp] isCut_nil isCut_region isCut_seq isCut_block isCut_loop isCut_cond isCut_skip isCut_exit isCut_ret isCut_range swapK putK altK condK_bool pickP_bool stepP stepO onPure_some onPure_none onImpl_some onImpl_none stepC onGP_some onGP_none onGV_some condG mkG onIt_it nextP_ptr takeP_eq takeV_some takeV_none takeU_some takeU_none takeQ takeW_some takeN_none takeN_some takeG_some takeO_some altO_some pureV binV2 eqF eqOp ovlV ovl2 rowAt capV binV intBin strBin isSh shV fldV ixV sliceV slice3V loadAV nilV lenV callV unV convV viewS cellsH loadV fldCut AV.ung AV.ungs AV.gc AV.cells AS.ev AS.put anyS gcsV gcO lens lnO gV guardV retK RetP_eq resV oneV anyRo loIx hiIx implO callP_clo evL gcsL clearV storeAV AS.push AS.setO appV appZ shortS copyV buildV partsV fillV srcV fzO okV isCell_c isCell_ptr isCell_sl isCell_fs isCell_fp isCell_clo rowZ_one rowZ_zero rowZ_2 rowZ_3 rowZ_4 rowZ_5 rowZ_6 rowZ_7 rowZ_8 rowZ_9 rowZ_10 rowZ_11 rowZ_12 noHo Value.oneCell' max2V min2V lookV updV lenM msAt afterH putBack frzFrom frzO rebO backIx nilEq_sl nilEq_fs nilEq_ifn nilEq_ifh ifOp_eql ifOp_neq isLit nilOp_eql nilOp_neq AV.reb AV.rebL
attribute [local simp ↓] runK_skip runK_region runK_draw runK_seq runK_cut runK_cond runK_block runK_loop runK_exit runK_label runK_goto runK_ret runK_range contK_nil contK_seq contK_seq_ret contK_seq_exit contK_seq_goto contK_block contK_block_ret contK_block_goto contK_block_exit runO_nil runO_cons roundK_exit roundK_ret roundK_goto exitK_ret cutK_ret cutK_exit runE_done runE_nil runE_take runE_alt condG_true condG_false
set_option maxRecDepth 10000
/-! ## Laws of chapter 03 -/
theorem iv64 {n : Int} (h : i64v n) : -9223372036854775808 ≤ n ∧ n ≤ 9223372036854775807 := h
theorem order_r {a b : ValS} (ha : valOk a = true) (hb : valOk b = true) : orderV a b = -1 ∨ orderV a b = 0 ∨ orderV a b = 1 := by
  rw [order_key ha hb]; exact ordK_ok.r a b
theorem val_ne {x y : ValS} (h : x ≠ y) : ¬ (x.k = y.k ∧ x.n = y.n ∧ x.s = y.s ∧ x.t = y.t) := fun e => h (val_eq e.1 e.2.1 e.2.2.1 e.2.2.2)
theorem mx63 {s : ByteArray} (h : s.size ≤ maxLen) : s.size ≤ 9223372036854775807 := h
set_option maxHeartbeats 8000000 in
theorem vcompares_w (x : ValS) (hx : x.Ok) (y : ValS) (hy : y.Ok) : ACalls Tryz.prog 3 [.agg (valA x), .agg (valA y)] [] (fun _ => false) (fun r h' => r = .c (.bool true)) := by
  refine acalls mixed Tryz.func3 rfl Tryz.ntmps3 rfl fun E hE hst hho => ?_
  have c0 := l3first_w
  by_cases hl : 1000 < max (x.t.size : Int) y.t.size
  · simp (maxSteps := 1000000) [hho, noHo, valA, -List.reduceReplicate]
    refine call_x [] (c0) rfl rfl ⟨rfl, rfl⟩ hho (by simp) (by decide) (by simp) (by simp) ?_
    simp (maxSteps := 1000000) [hho, noHo, hl, undef, onGP_none, condG_false, -List.reduceReplicate]
    exact Ret.drop (by rfl) rfl
  have sx : x.t.size ≤ 1000000000 := by omega
  have sy : y.t.size ≤ 1000000000 := by omega
  have c1 := vCompare_w x y ⟨iv64 hx.2.1, sx⟩ ⟨iv64 hy.2.1, sy⟩
  have c2 := r3Compare_w x y ⟨iv64 hx.2.1, sx⟩ ⟨iv64 hy.2.1, sy⟩
  have c3 := vOrder_w x y ⟨iv64 hx.2.1, sx⟩ ⟨iv64 hy.2.1, sy⟩
  have c4 := r3Order_w x y ⟨iv64 hx.2.1, sx⟩ ⟨iv64 hy.2.1, sy⟩
  obtain ⟨P, hP⟩ : ∃ P, P = cmpV (plV x) (plV y) := ⟨_, rfl⟩
  obtain ⟨O, hO⟩ : ∃ P, P = orderV (plV x) (plV y) := ⟨_, rfl⟩
  rw [← hP] at c1 c2
  rw [← hO] at c3 c4
  obtain ⟨P1, P2⟩ := P
  simp only at c1 c2
  simp (maxSteps := 1000000) [hho, noHo, valA, -List.reduceReplicate]
  refine call_x [] (c0) rfl rfl ⟨rfl, rfl⟩ hho (by simp) (by decide) (by simp) (by simp) ?_
  simp (maxSteps := 1000000) [hho, noHo, hl, undef, onGP_none, condG_false, -List.reduceReplicate]
  refine call_x [] (c1) rfl rfl ⟨rfl, rfl⟩ hho (by simp) (by decide) (by simp) (by simp) ?_
  simp (maxSteps := 1000000) [hho, noHo, -List.reduceReplicate]
  refine call_x [] (c2) rfl rfl ⟨rfl, rfl⟩ hho (by simp) (by decide) (by simp) (by simp) ?_
  simp (maxSteps := 1000000) [hho, noHo, -List.reduceReplicate]
  refine draw_k hho (.take 0 (.take 1 (.take 2 (.take 3 (.take 4 (.take 5 (.take 6 (.take 7 (.take 8 (.take 9 (.take 10 (.take 12 (.take 13 (.alt 11 (.alt 14 (.take 15 (.take 16 (.take 17 (.done)))) (.nil)) (.nil))))))))))))))) [0, 1] [] (by decide +kernel) (by simp) ?_
  simp (maxSteps := 1000000) [hho, noHo, roOf, holdOf, wrOf, altK, heldOk, Region.binds, -List.reduceReplicate]
  intros
  refine call_h [] (c3) rfl rfl ⟨rfl, rfl⟩ (by simp) (by simp) (by decide) (by simp) (by simp) ?_
  simp (maxSteps := 1000000) [hho, noHo, roOf, holdOf, wrOf, altK, heldOk, Region.binds, -List.reduceReplicate]
  intros
  refine call_h [] (c4) rfl rfl ⟨rfl, rfl⟩ (by simp) (by simp) (by decide) (by simp) (by simp) ?_
  simp (maxSteps := 1000000) [hho, noHo, roOf, holdOf, wrOf, altK, heldOk, Region.binds, -List.reduceReplicate]
  exact Ret.drop (by rfl) rfl
set_option maxHeartbeats 8000000 in
theorem vorder_w (x : ValS) (hx : x.Ok) (y : ValS) (hy : y.Ok) (z : ValS) (hz : z.Ok) : ACalls Tryz.prog 4 [.agg (valA x), .agg (valA y), .agg (valA z)] [] (fun _ => false) (fun r h' => r = .c (.bool true)) := by
  refine acalls mixed Tryz.func4 rfl Tryz.ntmps4 rfl fun E hE hst hho => ?_
  have c0 := l3first_w
  by_cases hl : max (x.t.size : Int) (max (y.t.size : Int) z.t.size) ≤ 500
  case neg =>
    have hg : 500 < max (x.t.size : Int) (max (y.t.size : Int) z.t.size) := by omega
    simp (maxSteps := 1000000) [hho, noHo, valA, -List.reduceReplicate]
    refine call_x [] (c0) rfl rfl ⟨rfl, rfl⟩ hho (by simp) (by decide) (by simp) (by simp) ?_
    simp (maxSteps := 1000000) [hho, noHo, foldV, max2V, hl, hg, undef, onGP_none, condG_false, undef, onGP_none, condG_false, -List.reduceReplicate]
    exact Ret.drop (by rfl) rfl
  have hg : ¬ 500 < max (x.t.size : Int) (max (y.t.size : Int) z.t.size) := by omega
  have sx : x.t.size ≤ 500 := by omega
  have sy : y.t.size ≤ 500 := by omega
  have sz : z.t.size ≤ 500 := by omega
  have r1 := val_ref x (by omega)
  have r2 := val_ref y (by omega)
  have r3 := val_ref z (by omega)
  simp (maxSteps := 1000000) [hho, noHo, valA, -List.reduceReplicate]
  refine call_x [] (c0) rfl rfl ⟨rfl, rfl⟩ hho (by simp) (by decide) (by simp) (by simp) ?_
  by_cases ox : valOk x = true
  case neg =>
    rw [show valOk x = false by simpa using ox] at r1
    simp (maxSteps := 1000000) [hho, noHo, foldV, max2V, hl, hg, undef, onGP_none, condG_false, -List.reduceReplicate]
    refine call_x [] (r1) rfl rfl ⟨rfl, rfl⟩ hho (by simp) (by decide) (by simp) (by simp) ?_
    simp (maxSteps := 1000000) [hho, noHo, undef, onGP_none, condG_false, undef, onGP_none, condG_false, -List.reduceReplicate]
    exact Ret.drop (by rfl) rfl
  rw [ox] at r1
  simp (maxSteps := 1000000) [hho, noHo, foldV, max2V, hl, hg, undef, onGP_none, condG_false, -List.reduceReplicate]
  refine call_x [] (r1) rfl rfl ⟨rfl, rfl⟩ hho (by simp) (by decide) (by simp) (by simp) ?_
  by_cases oy : valOk y = true
  case neg =>
    rw [show valOk y = false by simpa using oy] at r2
    simp (maxSteps := 1000000) [hho, noHo, undef, onGP_none, condG_false, -List.reduceReplicate]
    refine call_x [] (r2) rfl rfl ⟨rfl, rfl⟩ hho (by simp) (by decide) (by simp) (by simp) ?_
    simp (maxSteps := 1000000) [hho, noHo, undef, onGP_none, condG_false, undef, onGP_none, condG_false, -List.reduceReplicate]
    exact Ret.drop (by rfl) rfl
  rw [oy] at r2
  simp (maxSteps := 1000000) [hho, noHo, undef, onGP_none, condG_false, -List.reduceReplicate]
  refine call_x [] (r2) rfl rfl ⟨rfl, rfl⟩ hho (by simp) (by decide) (by simp) (by simp) ?_
  by_cases oz : valOk z = true
  case neg =>
    rw [show valOk z = false by simpa using oz] at r3
    simp (maxSteps := 1000000) [hho, noHo, undef, onGP_none, condG_false, -List.reduceReplicate]
    refine call_x [] (r3) rfl rfl ⟨rfl, rfl⟩ hho (by simp) (by decide) (by simp) (by simp) ?_
    simp (maxSteps := 1000000) [hho, noHo, undef, onGP_none, condG_false, undef, onGP_none, condG_false, -List.reduceReplicate]
    exact Ret.drop (by rfl) rfl
  rw [oz] at r3
  simp (maxSteps := 1000000) [hho, noHo, undef, onGP_none, condG_false, -List.reduceReplicate]
  refine call_x [] (r3) rfl rfl ⟨rfl, rfl⟩ hho (by simp) (by decide) (by simp) (by simp) ?_
  have ix : (-9223372036854775808 ≤ x.n ∧ x.n ≤ 9223372036854775807) ∧ x.t.size ≤ 1000000000 := ⟨hx.2.1, by omega⟩
  have iy : (-9223372036854775808 ≤ y.n ∧ y.n ≤ 9223372036854775807) ∧ y.t.size ≤ 1000000000 := ⟨hy.2.1, by omega⟩
  have iz : (-9223372036854775808 ≤ z.n ∧ z.n ≤ 9223372036854775807) ∧ z.t.size ≤ 1000000000 := ⟨hz.2.1, by omega⟩
  have c1 := vOrder_w x y ix iy
  have c2 := vCompare_w x y ix iy
  have c3 := vOrder_w y x iy ix
  have c4 := vOrder_w y z iy iz
  have c5 := vOrder_w x z ix iz
  obtain ⟨l1, l2, l3, l4⟩ := order_law ox oy oz
  rw [plV_of ox, plV_of oy] at c1 c2 c3
  rw [plV_of oy, plV_of oz] at c4
  rw [plV_of ox, plV_of oz] at c5
  obtain ⟨A, hA⟩ : ∃ A, A = orderV x y := ⟨_, rfl⟩
  obtain ⟨B, hB⟩ : ∃ A, A = orderV y x := ⟨_, rfl⟩
  obtain ⟨C, hC⟩ : ∃ A, A = orderV y z := ⟨_, rfl⟩
  obtain ⟨D, hD⟩ : ∃ A, A = orderV x z := ⟨_, rfl⟩
  obtain ⟨K, hK⟩ : ∃ A, A = cmpV x y := ⟨_, rfl⟩
  have rr := order_r ox oy
  rw [← hA] at c1 l1 l2 l3 l4 rr
  rw [← hB] at c3 l1
  rw [← hC] at c4 l4
  rw [← hD] at c5 l4
  rw [← hK] at c2 l3
  obtain ⟨K1, K2⟩ := K
  simp only at c2 l3
  simp (maxSteps := 1000000) [hho, noHo, -List.reduceReplicate]
  refine call_x [] (c1) rfl rfl ⟨rfl, rfl⟩ hho (by simp) (by decide) (by simp) (by simp) ?_
  simp (maxSteps := 1000000) [hho, noHo, -List.reduceReplicate]
  refine call_x [] (c2) rfl rfl ⟨rfl, rfl⟩ hho (by simp) (by decide) (by simp) (by simp) ?_
  simp (maxSteps := 1000000) [hho, noHo, -List.reduceReplicate]
  refine call_x [] (c3) rfl rfl ⟨rfl, rfl⟩ hho (by simp) (by decide) (by simp) (by simp) ?_
  have ew : IntKind.i64.wrap (-B) = A := by rw [IntWalk.i64_in _ (by omega)]; omega
  have ew2 : IntKind.i64.wrap (0 - B) = A := by rw [IntWalk.i64_in _ (by omega)]; omega
  have kk : K2 = false ∨ (K2 = true ∧ K1 = 0) ∨ (K2 = true ∧ ¬ K1 = 0 ∧ K1 = A) := by
    cases K2 with
    | false => exact .inl rfl
    | true =>
      by_cases h : K1 = 0
      · exact .inr (.inl ⟨rfl, h⟩)
      · exact .inr (.inr ⟨rfl, h, l3 rfl h⟩)
  by_cases hxy : x = y
  · have a0 : A = 0 := l2.2 hxy
    have hA0 : A ≤ 0 := by omega
    subst hxy
    rcases kk with rfl | ⟨rfl, k0⟩ | ⟨rfl, k0, kA⟩
    · simp (maxSteps := 1000000) [hho, noHo, ew, ew2, a0, undef, onGP_none, condG_false, undef, onGP_none, condG_false, -List.reduceReplicate]
      refine call_x [] (c4) rfl rfl ⟨rfl, rfl⟩ hho (by simp) (by decide) (by simp) (by simp) ?_
      by_cases hC0 : C ≤ 0
      · have hD0 := l4 hA0 hC0
        simp (maxSteps := 1000000) [hho, noHo, hC0, undef, onGP_none, condG_false, -List.reduceReplicate]
        refine call_x [] (c5) rfl rfl ⟨rfl, rfl⟩ hho (by simp) (by decide) (by simp) (by simp) ?_
        simp (maxSteps := 1000000) [hho, noHo, hD0, undef, onGP_none, condG_false, -List.reduceReplicate]
        exact Ret.drop (by rfl) rfl
      · simp (maxSteps := 1000000) [hho, noHo, hC0, undef, onGP_none, condG_false, undef, onGP_none, condG_false, -List.reduceReplicate]
        exact Ret.drop (by rfl) rfl
    · simp (maxSteps := 1000000) [hho, noHo, ew, ew2, a0, k0, undef, onGP_none, condG_false, -List.reduceReplicate]
      refine call_x [] (c4) rfl rfl ⟨rfl, rfl⟩ hho (by simp) (by decide) (by simp) (by simp) ?_
      by_cases hC0 : C ≤ 0
      · have hD0 := l4 hA0 hC0
        simp (maxSteps := 1000000) [hho, noHo, hC0, undef, onGP_none, condG_false, -List.reduceReplicate]
        refine call_x [] (c5) rfl rfl ⟨rfl, rfl⟩ hho (by simp) (by decide) (by simp) (by simp) ?_
        simp (maxSteps := 1000000) [hho, noHo, hD0, undef, onGP_none, condG_false, -List.reduceReplicate]
        exact Ret.drop (by rfl) rfl
      · simp (maxSteps := 1000000) [hho, noHo, hC0, undef, onGP_none, condG_false, undef, onGP_none, condG_false, -List.reduceReplicate]
        exact Ret.drop (by rfl) rfl
    · exact absurd (kA.trans a0) k0
  · have a0 : ¬ A = 0 := fun e => hxy (l2.1 e)
    have hne := val_ne hxy
    by_cases hA0 : A ≤ 0
    · rcases kk with rfl | ⟨rfl, k0⟩ | ⟨rfl, k0, kA⟩
      · simp (maxSteps := 1000000) [hho, noHo, ew, ew2, a0, hne, hA0, undef, onGP_none, condG_false, undef, onGP_none, condG_false, -List.reduceReplicate]
        refine call_x [] (c4) rfl rfl ⟨rfl, rfl⟩ hho (by simp) (by decide) (by simp) (by simp) ?_
        by_cases hC0 : C ≤ 0
        · have hD0 := l4 hA0 hC0
          simp (maxSteps := 1000000) [hho, noHo, hC0, undef, onGP_none, condG_false, -List.reduceReplicate]
          refine call_x [] (c5) rfl rfl ⟨rfl, rfl⟩ hho (by simp) (by decide) (by simp) (by simp) ?_
          simp (maxSteps := 1000000) [hho, noHo, hD0, undef, onGP_none, condG_false, -List.reduceReplicate]
          exact Ret.drop (by rfl) rfl
        · simp (maxSteps := 1000000) [hho, noHo, hC0, undef, onGP_none, condG_false, undef, onGP_none, condG_false, -List.reduceReplicate]
          exact Ret.drop (by rfl) rfl
      · simp (maxSteps := 1000000) [hho, noHo, ew, ew2, a0, hne, k0, hA0, undef, onGP_none, condG_false, -List.reduceReplicate]
        refine call_x [] (c4) rfl rfl ⟨rfl, rfl⟩ hho (by simp) (by decide) (by simp) (by simp) ?_
        by_cases hC0 : C ≤ 0
        · have hD0 := l4 hA0 hC0
          simp (maxSteps := 1000000) [hho, noHo, hC0, undef, onGP_none, condG_false, -List.reduceReplicate]
          refine call_x [] (c5) rfl rfl ⟨rfl, rfl⟩ hho (by simp) (by decide) (by simp) (by simp) ?_
          simp (maxSteps := 1000000) [hho, noHo, hD0, undef, onGP_none, condG_false, -List.reduceReplicate]
          exact Ret.drop (by rfl) rfl
        · simp (maxSteps := 1000000) [hho, noHo, hC0, undef, onGP_none, condG_false, undef, onGP_none, condG_false, -List.reduceReplicate]
          exact Ret.drop (by rfl) rfl
      · simp (maxSteps := 1000000) [hho, noHo, ew, ew2, a0, hne, k0, kA, hA0, undef, onGP_none, condG_false, -List.reduceReplicate]
        refine call_x [] (c4) rfl rfl ⟨rfl, rfl⟩ hho (by simp) (by decide) (by simp) (by simp) ?_
        by_cases hC0 : C ≤ 0
        · have hD0 := l4 hA0 hC0
          simp (maxSteps := 1000000) [hho, noHo, hC0, undef, onGP_none, condG_false, -List.reduceReplicate]
          refine call_x [] (c5) rfl rfl ⟨rfl, rfl⟩ hho (by simp) (by decide) (by simp) (by simp) ?_
          simp (maxSteps := 1000000) [hho, noHo, hD0, undef, onGP_none, condG_false, -List.reduceReplicate]
          exact Ret.drop (by rfl) rfl
        · simp (maxSteps := 1000000) [hho, noHo, hC0, undef, onGP_none, condG_false, undef, onGP_none, condG_false, -List.reduceReplicate]
          exact Ret.drop (by rfl) rfl
    · rcases kk with rfl | ⟨rfl, k0⟩ | ⟨rfl, k0, kA⟩
      · simp (maxSteps := 1000000) [hho, noHo, ew, ew2, a0, hne, hA0, undef, onGP_none, condG_false, undef, onGP_none, condG_false, -List.reduceReplicate]
        exact Ret.drop (by rfl) rfl
      · simp (maxSteps := 1000000) [hho, noHo, ew, ew2, a0, hne, k0, hA0, undef, onGP_none, condG_false, undef, onGP_none, condG_false, -List.reduceReplicate]
        exact Ret.drop (by rfl) rfl
      · simp (maxSteps := 1000000) [hho, noHo, ew, ew2, a0, hne, k0, kA, hA0, undef, onGP_none, condG_false, undef, onGP_none, condG_false, -List.reduceReplicate]
        exact Ret.drop (by rfl) rfl
end Go.Proofs.YtjgdlocgoiinbaaGreatDoor
