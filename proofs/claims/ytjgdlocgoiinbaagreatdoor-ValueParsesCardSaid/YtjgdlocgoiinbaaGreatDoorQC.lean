import Derived.Test.YtjgdlocgoiinbaaGreatDoorQB
import Derived.Test.YtjgdlocgoiinbaaGreatDoorLs
namespace Go.Proofs.YtjgdlocgoiinbaaGreatDoor
set_option linter.unusedVariables false
set_option linter.unusedSimpArgs false
open Go.RowKit Go.Lib
attribute [local simp] isCut_nil isCut_region isCut_seq isCut_block isCut_loop isCut_cond isCut_skip isCut_exit isCut_ret isCut_range swapK putK altK condK_bool pickP_bool stepP stepO onPure_some onPure_none onImpl_some onImpl_none stepC onGP_some onGP_none onGV_some condG mkG onIt_it nextP_ptr takeP_eq takeV_some takeV_none takeU_some takeU_none takeQ takeW_some takeN_none takeN_some takeG_some takeO_some altO_some pureV binV2 eqF eqOp ovlV ovl2 rowAt capV binV intBin strBin isSh shV fldV ixV sliceV slice3V loadAV nilV lenV callV unV convV viewS cellsH loadV fldCut AV.ung AV.ungs AV.gc AV.cells AS.ev AS.put anyS gcsV gcO lens lnO gV guardV retK RetP_eq resV oneV anyRo loIx hiIx implO callP_clo evL gcsL clearV storeAV AS.push AS.setO appV appZ shortS copyV buildV partsV fillV srcV fzO okV isCell_c isCell_ptr isCell_sl isCell_fs isCell_fp isCell_clo rowZ_one rowZ_zero rowZ_2 rowZ_3 rowZ_4 rowZ_5 rowZ_6 rowZ_7 rowZ_8 rowZ_9 rowZ_10 rowZ_11 rowZ_12 noHo Value.oneCell' max2V min2V lookV updV lenM msAt afterH putBack frzFrom frzO rebO backIx nilEq_sl nilEq_fs nilEq_ifn nilEq_ifh ifOp_eql ifOp_neq isLit nilOp_eql nilOp_neq AV.reb AV.rebL
attribute [local simp ↓] runK_skip runK_region runK_draw runK_seq runK_cut runK_cond runK_block runK_loop runK_exit runK_label runK_goto runK_ret runK_range contK_nil contK_seq contK_seq_ret contK_seq_exit contK_seq_goto contK_block contK_block_ret contK_block_goto contK_block_exit runO_nil runO_cons roundK_exit roundK_ret roundK_goto exitK_ret cutK_ret cutK_exit runE_done runE_nil runE_take runE_alt condG_true condG_false
set_option maxRecDepth 10000
/-! ## The program's way to compare; the values' order -/
set_option maxHeartbeats 4000000 in
theorem dctimes_w (x y : Nat) (hx : x < 18446744073709551616) (hy : y < 18446744073709551616) : ACalls Tryz.prog 98 [.c (.int .u64 x), .c (.int .u64 y)] [] (fun _ => false) (fun r h' => r = .agg [.c (.int .u64 ((x * y / 18446744073709551616 : Nat) : Int)), .c (.int .u64 ((x * y % 18446744073709551616 : Nat) : Int))] ∧ h' = []) := by
  refine acalls mixed Tryz.func98 rfl Tryz.ntmps98 rfl fun E hE hst hho => ?_
  have c1 := mul64_w x y hx hy
  obtain ⟨H, hH⟩ : ∃ H : Nat, H = x * y / 18446744073709551616 := ⟨_, rfl⟩
  obtain ⟨L, hL⟩ : ∃ L : Nat, L = x * y % 18446744073709551616 := ⟨_, rfl⟩
  rw [← hH, ← hL] at c1 ⊢
  simp (maxSteps := 1000000) [hho, noHo, -List.reduceReplicate]
  refine call_x [] (c1) rfl rfl ⟨rfl, rfl⟩ hho (by simp) (by decide) (by simp) (by simp) ?_
  simp (maxSteps := 1000000) [hho, noHo, -List.reduceReplicate]
  exact Ret.drop (by rfl) ⟨rfl, rfl⟩
theorem two_ints (a b : Int) : AV.fs 1 2 [.c (.int .i64 a), .c (.int .i64 b)] = .fs 1 [a, b].length (intsA [a, b]) := rfl
theorem or_two (a b : Int) : ACalls Tryz.prog 51 [.fs 1 2 [.c (.int .i64 a), .c (.int .i64 b)]] [] (fun _ => false) (fun r h' => r = .c (.int .i64 (if a ≠ 0 then a else b)) ∧ h' = []) := by
  have h := cmpOr_w [a, b] (by simp)
  have e : orL [a, b] = if a ≠ 0 then a else b := by
    simp only [orL]
    split
    · rfl
    · split
      · rfl
      · rename_i h; exact (Classical.not_not.1 h).symm
  rw [e] at h
  exact h
theorem or_three (a b c : Int) : ACalls Tryz.prog 51 [.fs 1 3 [.c (.int .i64 a), .c (.int .i64 b), .c (.int .i64 c)]] [] (fun _ => false) (fun r h' => r = .c (.int .i64 (if a ≠ 0 then a else if b ≠ 0 then b else c)) ∧ h' = []) := by
  have h := cmpOr_w [a, b, c] (by simp)
  have e : orL [a, b, c] = if a ≠ 0 then a else if b ≠ 0 then b else c := by
    simp only [orL]
    split
    · rfl
    · split
      · rfl
      · split
        · rfl
        · rename_i h; exact (Classical.not_not.1 h).symm
  rw [e] at h
  exact h
set_option maxHeartbeats 8000000 in
theorem dcCompare_w (a sa b sb : Int) (ha : -9223372036854775808 ≤ a ∧ a ≤ 9223372036854775807) (hb : -9223372036854775808 ≤ b ∧ b ≤ 9223372036854775807) : ACalls Tryz.prog 68 [.c (.int .i64 a), .c (.int .i64 sa), .c (.int .i64 b), .c (.int .i64 sb)] [] (fun _ => false) (fun r h' => r = .c (.int .i64 (decC a sa b sb)) ∧ h' = []) := by
  refine acalls mixed Tryz.func68 rfl Tryz.ntmps68 rfl fun E hE hst hho => ?_
  have c1 := dcall_w sa sb
  unfold decC
  by_cases hsc : scaleOk sa = true ∧ scaleOk sb = true
  case neg =>
    have e : (scaleOk sa && scaleOk sb) = false := by
      cases h : (scaleOk sa && scaleOk sb) with
      | false => rfl
      | true => exact absurd (Bool.and_eq_true_iff.1 h) hsc
    rw [e] at c1
    rw [if_neg hsc]
    simp (maxSteps := 1000000) [hho, noHo, -List.reduceReplicate]
    refine call_f [] (fun k => k == 0) (c1) rfl rfl ⟨rfl, rfl⟩ hho (by simp) (by decide) (by simp) (by simp [isD_c, maxLen]) (by simp) ?_
    simp (maxSteps := 1000000) [hho, noHo, -List.reduceReplicate]
    exact Ret.drop (by rfl) ⟨rfl, rfl⟩
  have e : (scaleOk sa && scaleOk sb) = true := Bool.and_eq_true_iff.2 hsc
  rw [e] at c1
  rw [if_pos hsc]
  obtain ⟨sa0, sa6⟩ := scale_le hsc.1
  obtain ⟨sb0, sb6⟩ := scale_le hsc.2
  obtain ⟨p, rfl⟩ : ∃ p : Nat, sa = p := ⟨sa.toNat, by omega⟩
  obtain ⟨q, rfl⟩ : ∃ q : Nat, sb = q := ⟨sb.toNat, by omega⟩
  unfold decCmp
  rw [Int.toNat_natCast, Int.toNat_natCast]
  have c2 := cmpInt_w a b
  by_cases hs : a < 0 ↔ b < 0
  case neg =>
    rw [dec_diff q p hs]
    by_cases hna : a < 0
    · have hnb : ¬ b < 0 := fun h => hs ⟨fun _ => h, fun _ => hna⟩
      simp (maxSteps := 1000000) [hho, noHo, -List.reduceReplicate]
      refine call_f [] (fun k => k == 0) (c1) rfl rfl ⟨rfl, rfl⟩ hho (by simp) (by decide) (by simp) (by simp [isD_c, maxLen]) (by simp) ?_
      simp (maxSteps := 1000000) [hho, noHo, hna, hnb, -List.reduceReplicate]
      refine call_x [] (c2) rfl rfl ⟨rfl, rfl⟩ hho (by simp) (by decide) (by simp) (by simp) ?_
      simp (maxSteps := 1000000) [hho, noHo, -List.reduceReplicate]
      exact Ret.drop (by rfl) ⟨rfl, rfl⟩
    · have hnb : b < 0 := by
        apply Classical.byContradiction
        intro h; exact hs ⟨fun h2 => absurd h2 hna, fun h2 => absurd h2 h⟩
      simp (maxSteps := 1000000) [hho, noHo, -List.reduceReplicate]
      refine call_f [] (fun k => k == 0) (c1) rfl rfl ⟨rfl, rfl⟩ hho (by simp) (by decide) (by simp) (by simp [isD_c, maxLen]) (by simp) ?_
      simp (maxSteps := 1000000) [hho, noHo, hna, hnb, -List.reduceReplicate]
      refine call_x [] (c2) rfl rfl ⟨rfl, rfl⟩ hho (by simp) (by decide) (by simp) (by simp) ?_
      simp (maxSteps := 1000000) [hho, noHo, -List.reduceReplicate]
      exact Ret.drop (by rfl) ⟨rfl, rfl⟩
  rw [dec_same q p hs]
  have t1 : tenN q ≤ 1000000 := tenN_le (by omega)
  have t2 : tenN p ≤ 1000000 := tenN_le (by omega)
  have c3 := dcsize_w a ha
  have c4 := dcsize_w b hb
  have c5 := dcten_w q (by omega)
  have c6 := dcten_w p (by omega)
  have c7 := dctimes_w a.natAbs (tenN q) (by omega) (by omega)
  have c8 := dctimes_w b.natAbs (tenN p) (by omega) (by omega)
  have hh := hilo (a.natAbs * 10 ^ q) (b.natAbs * 10 ^ p)
  have q1 : a.natAbs * 10 ^ q = a.natAbs * tenN q := rfl
  have q2 : b.natAbs * 10 ^ p = b.natAbs * tenN p := rfl
  rw [q1, q2] at hh ⊢
  obtain ⟨X, hX⟩ : ∃ X, X = a.natAbs * tenN q := ⟨_, rfl⟩
  obtain ⟨Y, hY⟩ : ∃ Y, Y = b.natAbs * tenN p := ⟨_, rfl⟩
  rw [← hX] at c7 hh ⊢
  rw [← hY] at c8 hh ⊢
  have c9 := cmpU64_w ((X / 18446744073709551616 : Nat) : Int) ((Y / 18446744073709551616 : Nat) : Int)
  have c10 := cmpU64_w ((X % 18446744073709551616 : Nat) : Int) ((Y % 18446744073709551616 : Nat) : Int)
  have c11 := or_two (cmpN ((X / 18446744073709551616 : Nat) : Int) ((Y / 18446744073709551616 : Nat) : Int)) (cmpN ((X % 18446744073709551616 : Nat) : Int) ((Y % 18446744073709551616 : Nat) : Int))
  rw [hh] at c11
  clear hh
  obtain ⟨xh, e1⟩ : ∃ z : Nat, z = X / 18446744073709551616 := ⟨_, rfl⟩
  obtain ⟨xl, e2⟩ : ∃ z : Nat, z = X % 18446744073709551616 := ⟨_, rfl⟩
  obtain ⟨yh, e3⟩ : ∃ z : Nat, z = Y / 18446744073709551616 := ⟨_, rfl⟩
  obtain ⟨yl, e4⟩ : ∃ z : Nat, z = Y % 18446744073709551616 := ⟨_, rfl⟩
  rw [← e1, ← e2] at c7
  rw [← e3, ← e4] at c8
  rw [← e1, ← e3] at c9
  rw [← e2, ← e4] at c10
  rw [← e1, ← e2, ← e3, ← e4] at c11
  obtain ⟨u, hu⟩ : ∃ z, z = cmpN (xh : Int) (yh : Int) := ⟨_, rfl⟩
  obtain ⟨v, hv⟩ : ∃ z, z = cmpN (xl : Int) (yl : Int) := ⟨_, rfl⟩
  obtain ⟨c, hc⟩ : ∃ z, z = cmpN (X : Int) (Y : Int) := ⟨_, rfl⟩
  have hcb : c = -1 ∨ c = 0 ∨ c = 1 := by rw [hc]; exact (cmpN_ok (fun x : Int => x)).r _ _
  rw [← hu] at c9 c11
  rw [← hv] at c10 c11
  rw [← hc] at c11 ⊢
  have ec : IntKind.i64.wrap (-c) = -c := IntWalk.i64_in _ (by omega)
  have ec0 : IntKind.i64.wrap (0 - c) = -c := by rw [Int.zero_sub]; exact ec
  by_cases hna : a < 0
  · have hnb := hs.1 hna
    simp (maxSteps := 1000000) [hho, noHo, -List.reduceReplicate]
    refine call_f [] (fun k => k == 0) (c1) rfl rfl ⟨rfl, rfl⟩ hho (by simp) (by decide) (by simp) (by simp [isD_c, maxLen]) (by simp) ?_
    simp (maxSteps := 1000000) [hho, noHo, hna, hnb, -List.reduceReplicate]
    refine call_x [] (c3) rfl rfl ⟨rfl, rfl⟩ hho (by simp) (by decide) (by simp) (by simp) ?_
    simp (maxSteps := 1000000) [hho, noHo, -List.reduceReplicate]
    refine call_x [] (c5) rfl rfl ⟨rfl, rfl⟩ hho (by simp) (by decide) (by simp) (by simp) ?_
    simp (maxSteps := 1000000) [hho, noHo, -List.reduceReplicate]
    refine call_x [] (c7) rfl rfl ⟨rfl, rfl⟩ hho (by simp) (by decide) (by simp) (by simp) ?_
    simp (maxSteps := 1000000) [hho, noHo, -List.reduceReplicate]
    refine call_x [] (c4) rfl rfl ⟨rfl, rfl⟩ hho (by simp) (by decide) (by simp) (by simp) ?_
    simp (maxSteps := 1000000) [hho, noHo, -List.reduceReplicate]
    refine call_x [] (c6) rfl rfl ⟨rfl, rfl⟩ hho (by simp) (by decide) (by simp) (by simp) ?_
    simp (maxSteps := 1000000) [hho, noHo, -List.reduceReplicate]
    refine call_x [] (c8) rfl rfl ⟨rfl, rfl⟩ hho (by simp) (by decide) (by simp) (by simp) ?_
    simp (maxSteps := 1000000) [hho, noHo, -List.reduceReplicate]
    refine draw_k hho (.take 0 (.take 1 (.take 2 (.take 3 (.take 5 (.take 6 (.take 7 (.take 8 (.alt 4 (.alt 9 (.alt 10 (.alt 11 (.take 12 (.done)) (.nil)) (.nil)) (.nil)) (.nil)))))))))) [1, 2] [] (by decide +kernel) (by simp) ?_
    simp (maxSteps := 1000000) [hho, noHo, roOf, holdOf, wrOf, altK, heldOk, Region.binds, -List.reduceReplicate]
    intros
    refine call_h [] (c9) rfl rfl ⟨rfl, rfl⟩ (by simp) (by simp) (by decide) (by simp) (by simp) ?_
    simp (maxSteps := 1000000) [hho, noHo, roOf, holdOf, wrOf, altK, heldOk, Region.binds, -List.reduceReplicate]
    intros
    refine call_h [] (c10) rfl rfl ⟨rfl, rfl⟩ (by simp) (by simp) (by decide) (by simp) (by simp) ?_
    simp (maxSteps := 1000000) [hho, noHo, roOf, holdOf, wrOf, altK, heldOk, Region.binds, -List.reduceReplicate]
    intros
    refine call_hd [] (fun k => decide (3 ≤ k)) (c11) rfl rfl ⟨rfl, rfl⟩ (by simp) (fun k hk => by have := of_decide_eq_true hk; simp; omega) (by simp) (by decide) (by simp) (by simp [isD_c, maxLen]) (by simp) ?_
    simp (maxSteps := 1000000) [hho, noHo, hna, ec, ec0, roOf, holdOf, wrOf, altK, heldOk, Region.binds, -List.reduceReplicate]
    exact Ret.drop (by rfl) ⟨rfl, rfl⟩
  · have hnb : ¬ b < 0 := fun h => hna (hs.2 h)
    simp (maxSteps := 1000000) [hho, noHo, -List.reduceReplicate]
    refine call_f [] (fun k => k == 0) (c1) rfl rfl ⟨rfl, rfl⟩ hho (by simp) (by decide) (by simp) (by simp [isD_c, maxLen]) (by simp) ?_
    simp (maxSteps := 1000000) [hho, noHo, hna, hnb, -List.reduceReplicate]
    refine call_x [] (c3) rfl rfl ⟨rfl, rfl⟩ hho (by simp) (by decide) (by simp) (by simp) ?_
    simp (maxSteps := 1000000) [hho, noHo, -List.reduceReplicate]
    refine call_x [] (c5) rfl rfl ⟨rfl, rfl⟩ hho (by simp) (by decide) (by simp) (by simp) ?_
    simp (maxSteps := 1000000) [hho, noHo, -List.reduceReplicate]
    refine call_x [] (c7) rfl rfl ⟨rfl, rfl⟩ hho (by simp) (by decide) (by simp) (by simp) ?_
    simp (maxSteps := 1000000) [hho, noHo, -List.reduceReplicate]
    refine call_x [] (c4) rfl rfl ⟨rfl, rfl⟩ hho (by simp) (by decide) (by simp) (by simp) ?_
    simp (maxSteps := 1000000) [hho, noHo, -List.reduceReplicate]
    refine call_x [] (c6) rfl rfl ⟨rfl, rfl⟩ hho (by simp) (by decide) (by simp) (by simp) ?_
    simp (maxSteps := 1000000) [hho, noHo, -List.reduceReplicate]
    refine call_x [] (c8) rfl rfl ⟨rfl, rfl⟩ hho (by simp) (by decide) (by simp) (by simp) ?_
    simp (maxSteps := 1000000) [hho, noHo, -List.reduceReplicate]
    refine draw_k hho (.take 0 (.take 1 (.take 2 (.take 3 (.take 5 (.take 6 (.take 7 (.take 8 (.alt 4 (.alt 9 (.alt 10 (.alt 11 (.take 12 (.done)) (.nil)) (.nil)) (.nil)) (.nil)))))))))) [1, 2] [] (by decide +kernel) (by simp) ?_
    simp (maxSteps := 1000000) [hho, noHo, roOf, holdOf, wrOf, altK, heldOk, Region.binds, -List.reduceReplicate]
    intros
    refine call_h [] (c9) rfl rfl ⟨rfl, rfl⟩ (by simp) (by simp) (by decide) (by simp) (by simp) ?_
    simp (maxSteps := 1000000) [hho, noHo, roOf, holdOf, wrOf, altK, heldOk, Region.binds, -List.reduceReplicate]
    intros
    refine call_h [] (c10) rfl rfl ⟨rfl, rfl⟩ (by simp) (by simp) (by decide) (by simp) (by simp) ?_
    simp (maxSteps := 1000000) [hho, noHo, roOf, holdOf, wrOf, altK, heldOk, Region.binds, -List.reduceReplicate]
    intros
    refine call_hd [] (fun k => decide (3 ≤ k)) (c11) rfl rfl ⟨rfl, rfl⟩ (by simp) (fun k hk => by have := of_decide_eq_true hk; simp; omega) (by simp) (by decide) (by simp) (by simp [isD_c, maxLen]) (by simp) ?_
    simp (maxSteps := 1000000) [hho, noHo, hna, ec, ec0, roOf, holdOf, wrOf, altK, heldOk, Region.binds, -List.reduceReplicate]
    exact Ret.drop (by rfl) ⟨rfl, rfl⟩
end Go.Proofs.YtjgdlocgoiinbaaGreatDoor
