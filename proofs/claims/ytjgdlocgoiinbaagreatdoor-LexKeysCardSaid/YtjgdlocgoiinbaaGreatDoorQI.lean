import Derived.Test.YtjgdlocgoiinbaaGreatDoorQH
import Derived.Test.YtjgdlocgoiinbaaGreatDoorHD
namespace Go.Proofs.YtjgdlocgoiinbaaGreatDoor
set_option linter.unusedVariables false
set_option linter.unusedSimpArgs false
open Go.RowKit Go.Lib
attribute [local simp] isCut_nil isCut_region isCut_seq isCut_block isCut_loop isCut_cond isCut_skip isCut_exit isCut_ret isCut_range swapK putK altK condK_bool pickP_bool stepP stepO onPure_some onPure_none onImpl_some onImpl_none stepC onGP_some onGP_none onGV_some condG mkG onIt_it nextP_ptr takeP_eq takeV_some takeV_none takeU_some takeU_none takeQ takeW_some takeN_none takeN_some takeG_some takeO_some altO_some pureV binV2 eqF eqOp ovlV ovl2 rowAt capV binV intBin strBin isSh shV fldV ixV sliceV slice3V loadAV nilV lenV callV unV convV viewS cellsH loadV fldCut AV.ung AV.ungs AV.gc AV.cells AS.ev AS.put anyS gcsV gcO lens lnO gV guardV retK RetP_eq resV oneV anyRo loIx hiIx implO callP_clo evL gcsL clearV storeAV AS.push AS.setO appV appZ shortS copyV buildV partsV fillV srcV fzO okV isCell_c isCell_ptr isCell_sl isCell_fs isCell_fp isCell_clo rowZ_one rowZ_zero rowZ_2 rowZ_3 rowZ_4 rowZ_5 rowZ_6 rowZ_7 rowZ_8 rowZ_9 rowZ_10 rowZ_11 rowZ_12 noHo Value.oneCell' max2V min2V lookV updV lenM msAt afterH putBack frzFrom frzO rebO backIx nilEq_sl nilEq_fs nilEq_ifn nilEq_ifh ifOp_eql ifOp_neq isLit nilOp_eql nilOp_neq AV.reb AV.rebL
attribute [local simp ↓] runK_skip runK_region runK_draw runK_seq runK_cut runK_cond runK_block runK_loop runK_exit runK_label runK_goto runK_ret runK_range contK_nil contK_seq contK_seq_ret contK_seq_exit contK_seq_goto contK_block contK_block_ret contK_block_goto contK_block_exit runO_nil runO_cons roundK_exit roundK_ret roundK_goto exitK_ret cutK_ret cutK_exit runE_done runE_nil runE_take runE_alt condG_true condG_false
set_option maxRecDepth 10000
def dec3 : Option (Int × Nat) → Int × Int × Bool
  | none => (0, 0, false)
  | some p => (p.1, (p.2 : Int), true)
def r3A (x : Int × Int × Bool) : AV := .tup [.c (.int .i64 x.1), .c (.int .i64 x.2.1), .c (.bool x.2.2)]
theorem cutP_len : ∀ l : List UInt8, (cutP l).1.length + (cutP l).2.1.length ≤ l.length
  | [] => by simp [cutP]
  | c :: l => by
    have := cutP_len l
    rw [cutP]
    split
    · simp
    · simp only [List.length_cons]; omega
theorem body_len (l : List UInt8) : (bodyB l).length ≤ l.length := by
  unfold bodyB
  split <;> simp
theorem decB_no {m : Bool} {c : List UInt8 × List UInt8 × Bool} (h : ¬ (digsOk c.1 = true ∧ ¬ (1 < c.1.length ∧ c.1.head? = some 48) ∧ (c.2.2 = true → digsOk c.2.1 = true ∧ c.2.1.length ≤ 6))) : decB m c = none := if_neg h
theorem decB_yes {m : Bool} {W R : List UInt8} {p : Bool} (h : digsOk W = true ∧ ¬ (1 < W.length ∧ W.head? = some 48) ∧ (p = true → digsOk R = true ∧ R.length ≤ 6)) : decB m (W, R, p) = if m = true then if nval (W ++ R) = 0 ∨ 9223372036854775808 < nval (W ++ R) then none else some (-(nval (W ++ R) : Int), R.length) else if 9223372036854775808 ≤ nval (W ++ R) then none else some ((nval (W ++ R) : Int), R.length) := if_pos h
set_option maxHeartbeats 4000000 in
theorem dcParse_w (s : ByteArray) (hs : s.size ≤ 100000) : ACalls Tryz.prog 81 [.c (.string s)] [] (fun _ => false) (fun r h' => r = r3A (dec3 (decP s.data.toList)) ∧ h' = []) := by
  refine acalls mixed Tryz.func81 rfl Tryz.ntmps81 rfl fun E hE hst hho => ?_
  have ls : s.data.toList.length = s.size := rfl
  have c1 := cutPrefix_w s ⟨#[45]⟩
  have e1 : ((⟨#[45]⟩ : ByteArray).data.toList) = [45] := rfl
  rw [e1, pre_minus, trim_minus] at c1
  rw [decP_eq]
  have hB := body_len s.data.toList
  obtain ⟨m, hm⟩ : ∃ m, m = minB s.data.toList := ⟨_, rfl⟩
  obtain ⟨B, hB'⟩ : ∃ m, m = bodyB s.data.toList := ⟨_, rfl⟩
  rw [← hB'] at hB c1 ⊢
  rw [← hm] at c1 ⊢
  have c2 := cut_w (baL B) ⟨#[46]⟩ (by rw [ba_size]; omega)
  have e2 : ((⟨#[46]⟩ : ByteArray).data.toList) = [46] := rfl
  rw [toL_ba, e2, cut_point] at c2
  have hC := cutP_len B
  have hF := @cutP_false B
  obtain ⟨C, hC'⟩ : ∃ m, m = cutP B := ⟨_, rfl⟩
  rw [← hC'] at c2 hC hF ⊢
  obtain ⟨W, R, p⟩ := C
  simp only at c2 hC hF
  have c3 := dcdigits_w (baL W) (by rw [ba_size]; omega)
  have c4 := dcdigits_w (baL R) (by rw [ba_size]; omega)
  rw [toL_ba] at c3 c4
  have sW := ba_size W
  have sR := ba_size R
  simp (maxSteps := 1000000) [hho, noHo, -List.reduceReplicate]
  refine call_x [] (c1) rfl rfl ⟨rfl, rfl⟩ hho (by simp) (by decide) (by simp) (by simp) ?_
  simp (maxSteps := 1000000) [hho, noHo, -List.reduceReplicate]
  refine call_x [] (c2) rfl rfl ⟨rfl, rfl⟩ hho (by simp) (by decide) (by simp) (by simp) ?_
  simp (maxSteps := 1000000) [hho, noHo, -List.reduceReplicate]
  obtain ⟨dW, hdW⟩ : ∃ m, m = digsOk W := ⟨_, rfl⟩
  obtain ⟨dR, hdR⟩ : ∃ m, m = digsOk R := ⟨_, rfl⟩
  rw [← hdW] at c3
  rw [← hdR] at c4
  cases dW with
  | false =>
    rw [decB_no (fun h => by rw [h.1] at hdW; cases hdW)]
    unfold r3A dec3
    refine call_x [] (c3) rfl rfl ⟨rfl, rfl⟩ hho (by simp) (by decide) (by simp) (by simp) ?_
    simp (maxSteps := 1000000) [hho, noHo, undef, onGP_none, condG_false, undef, onGP_none, condG_false, -List.reduceReplicate]
    exact Ret.drop (by rfl) ⟨rfl, rfl⟩
  | true =>
  refine call_x [] (c3) rfl rfl ⟨rfl, rfl⟩ hho (by simp) (by decide) (by simp) (by simp) ?_
  obtain ⟨hWn, hWd⟩ := digsOk_iff.1 hdW.symm
  have hW0 : 0 < W.length := List.length_pos_iff.2 hWn
  have ba := byte_at (s := baL W) (j := 0) (by rw [toL_ba]; omega)
  have ba2 := byte_at2 (s := baL W) (j := 0) (by rw [toL_ba]; omega)
  have hh : W.head? = some (W[0]) := by rw [List.head?_eq_getElem?, List.getElem?_eq_getElem hW0]
  obtain ⟨c, hc⟩ : ∃ c : UInt8, c = W[0] := ⟨_, rfl⟩
  have ba : ((baL W).data[0]?.getD 0).toNat = c.toNat := by rw [ba, hc]; rfl
  have ba2 : ((baL W).data[0]'(by simpa [baL] using hW0)).toNat = c.toNat := by rw [ba2, hc]; rfl
  rw [← hc] at hh
  obtain ⟨x, hx⟩ : ∃ x : Nat, x = c.toNat := ⟨_, rfl⟩
  rw [← hx] at ba ba2
  have zW : 0 < (baL W).size := by omega
  have K48 : W.head? = some 48 ↔ x = 48 := by
    rw [hh, hx]
    constructor
    · intro h; injection h with h; rw [h]; rfl
    · intro h; congr 1; apply UInt8.toNat_inj.1; rw [h]; rfl
  have nil1 : (⟨#[]⟩ : ByteArray) ++ baL W = baL W := ba_app [] W
  have nil2 : (⟨#[45]⟩ : ByteArray) ++ baL W = baL (45 :: W) := ba_app [45] W
  have nil3 : baL W ++ baL R = baL (W ++ R) := ba_app W R
  have nil4 : baL (45 :: W) ++ baL R = baL (45 :: (W ++ R)) := ba_app (45 :: W) R
  have s45 : (baL (45 :: W)).size = W.length + 1 := by rw [ba_size]; rfl
  by_cases hA : 1 < W.length ∧ x = 48
  · rw [decB_no (fun h => h.2.1 ⟨hA.1, K48.2 hA.2⟩)]
    unfold r3A dec3
    have h1 := hA.1
    have h1i : (1 : Int) < W.length := by omega
    have h2 := hA.2
    have h2i : (x : Int) = 48 := by omega
    simp (maxSteps := 1000000) [hho, noHo, sW, h1, h1i, ba, ba2, h2, h2i, hW0, undef, onGP_none, condG_false, undef, onGP_none, condG_false, -List.reduceReplicate]
    exact Ret.drop (by rfl) ⟨rfl, rfl⟩
  have hAn : ¬ (1 < W.length ∧ W.head? = some 48) := fun h => hA ⟨h.1, K48.1 h.2⟩
  have hq : (¬ 1 < W.length ∧ ¬ (1 : Int) < W.length) ∨ (¬ x = 48 ∧ ¬ (x : Int) = 48) := by omega
  by_cases hp : p = true → digsOk R = true ∧ R.length ≤ 6
  case neg =>
    have hp1 : p = true := Classical.byContradiction fun h => hp (fun h2 => absurd h2 h)
    rw [decB_no (fun h => hp h.2.2)]
    subst hp1
    unfold r3A dec3
    rcases hq with ⟨f1, f1i⟩ | ⟨f1, f1i⟩
    all_goals
      cases dR with
      | false =>
        simp (maxSteps := 1000000) [hho, noHo, sW, ba, ba2, f1, f1i, hW0, undef, onGP_none, condG_false, undef, onGP_none, condG_false, -List.reduceReplicate]
        refine call_x [] (c4) rfl rfl ⟨rfl, rfl⟩ hho (by simp) (by decide) (by simp) (by simp) ?_
        simp (maxSteps := 1000000) [hho, noHo, sW, ba, ba2, f1, f1i, hW0, undef, onGP_none, condG_false, undef, onGP_none, condG_false, -List.reduceReplicate]
        exact Ret.drop (by rfl) ⟨rfl, rfl⟩
      | true =>
        have hl : 6 < R.length := by
          apply Classical.byContradiction
          intro h
          exact hp (fun _ => ⟨hdR.symm, by omega⟩)
        have hli : (6 : Int) < R.length := by omega
        simp (maxSteps := 1000000) [hho, noHo, sW, sR, ba, ba2, f1, f1i, hW0, hl, hli, undef, onGP_none, condG_false, undef, onGP_none, condG_false, -List.reduceReplicate]
        refine call_x [] (c4) rfl rfl ⟨rfl, rfl⟩ hho (by simp) (by decide) (by simp) (by simp) ?_
        simp (maxSteps := 1000000) [hho, noHo, sW, sR, ba, ba2, f1, f1i, hW0, hl, hli, undef, onGP_none, condG_false, undef, onGP_none, condG_false, -List.reduceReplicate]
        exact Ret.drop (by rfl) ⟨rfl, rfl⟩
  have hR : AllDig R := by
    cases p with
    | false => rw [hF rfl]; intro c hc; cases hc
    | true => exact (digsOk_iff.1 (hp rfl).1).2
  rw [decB_yes ⟨hdW.symm, hAn, hp⟩]
  have hDa : AllDig (W ++ R) := fun c hc => (List.mem_append.1 hc).elim (hWd c) (hR c)
  have hDn : W ++ R ≠ [] := by simp [hWn]
  have aP := atoi_pos hDa hDn
  have aN := atoi_neg hDa hDn
  obtain ⟨D, hD⟩ : ∃ D, D = W ++ R := ⟨_, rfl⟩
  obtain ⟨V, hV⟩ : ∃ V, V = nval (W ++ R) := ⟨_, rfl⟩
  have sD : (baL D).size ≤ 100000 := by rw [ba_size, hD, List.length_append]; omega
  have sD1 : (baL (45 :: D)).size ≤ 100001 := by rw [ba_size, List.length_cons, hD, List.length_append]; omega
  rw [← hV, ← hD] at aP aN
  rw [← hV]
  rw [← hD] at nil3 nil4
  obtain ⟨Q, hQ⟩ : ∃ Q, Q = if m = true then if V = 0 ∨ 9223372036854775808 < V then none else some (-(V : Int), R.length) else if 9223372036854775808 ≤ V then none else some ((V : Int), R.length) := ⟨_, rfl⟩
  rw [← hQ]
  have s0 : (⟨#[]⟩ : ByteArray).size = 0 := rfl
  have hl : ¬ 6 < R.length := by
    cases p with
    | false => rw [hF rfl]; simp
    | true => have := (hp rfl).2; omega
  have hli : ¬ (6 : Int) < R.length := by omega
  have hpd : p = false ∨ (p = true ∧ dR = true) := by
    cases p with
    | false => exact .inl rfl
    | true => exact .inr ⟨rfl, by rw [hdR]; exact (hp rfl).1⟩
  rcases hq with ⟨f1, f1i⟩ | ⟨f1, f1i⟩ <;> rcases hpd with rfl | ⟨rfl, rfl⟩ <;> cases m
  all_goals
    simp (maxSteps := 1000000) [hho, noHo, sW, sR, ba, ba2, f1, f1i, hW0, hl, hli, nil1, nil2, nil3, nil4, s45, undef, onGP_none, condG_false, undef, onGP_none, condG_false, -List.reduceReplicate]
  all_goals
    try
      refine call_x [] (c4) rfl rfl ⟨rfl, rfl⟩ hho (by simp) (by decide) (by simp) (by simp) ?_
      simp (maxSteps := 1000000) [hho, noHo, sW, sR, ba, ba2, f1, f1i, hW0, hl, hli, nil1, nil2, nil3, nil4, s45, undef, onGP_none, condG_false, undef, onGP_none, condG_false, -List.reduceReplicate]
  all_goals
    refine ⟨by omega, by omega, ?_⟩
    first
    | by_cases hr : V < 9223372036854775808
      · rw [if_pos hr] at aP
        have c5 := atoi_ok_w (baL D) (by omega) _ aP
        have eQ : Q = some ((V : Int), R.length) := by rw [hQ, if_neg (by decide), if_neg (by omega)]
        rw [eQ]
        refine call_x [] (c5) rfl rfl ⟨rfl, rfl⟩ hho (by simp) (by decide) (by simp) (by simp) ?_
        simp (maxSteps := 1000000) [hho, noHo, sW, sR, r3A, dec3, undef, onGP_none, condG_false, undef, onGP_none, condG_false, -List.reduceReplicate]
        exact Ret.drop (by rfl) ⟨rfl, rfl⟩
      · rw [if_neg hr] at aP
        have c5 := atoi_range_w (baL D) (by omega) aP
        have eQ : Q = none := by rw [hQ, if_neg (by decide), if_pos (by omega)]
        rw [eQ]
        refine call_plain (fun _ => false) c5 (ha := by rfl) (by simp) ?_
        rintro r h' ⟨⟨vs, ⟨n, t, q, rfl⟩, rfl⟩, rfl⟩
        refine ⟨rfl, ?_⟩
        simp (maxSteps := 1000000) [hho, noHo, sW, sR, r3A, dec3, undef, onGP_none, condG_false, undef, onGP_none, condG_false, -List.reduceReplicate]
        exact Ret.drop (by rfl) ⟨rfl, rfl⟩
    | by_cases hr : V ≤ 9223372036854775808
      · rw [if_pos hr] at aN
        have c5 := atoi_ok_w (baL (45 :: D)) (by omega) _ aN
        by_cases hz : V = 0
        · have eQ : Q = none := by rw [hQ, if_pos rfl, if_pos (.inl hz)]
          rw [eQ]
          refine call_x [] (c5) rfl rfl ⟨rfl, rfl⟩ hho (by simp) (by decide) (by simp) (by simp) ?_
          simp (maxSteps := 1000000) [hho, noHo, sW, sR, hz, r3A, dec3, undef, onGP_none, condG_false, undef, onGP_none, condG_false, -List.reduceReplicate]
          exact Ret.drop (by rfl) ⟨rfl, rfl⟩
        · have eQ : Q = some (-(V : Int), R.length) := by rw [hQ, if_pos rfl, if_neg (by omega)]
          have hzi : ¬ -(V : Int) = 0 := by omega
          have hzj : ¬ (V : Int) = 0 := by omega
          rw [eQ]
          refine call_x [] (c5) rfl rfl ⟨rfl, rfl⟩ hho (by simp) (by decide) (by simp) (by simp) ?_
          simp (maxSteps := 1000000) [hho, noHo, sW, sR, hz, hzi, hzj, r3A, dec3, undef, onGP_none, condG_false, undef, onGP_none, condG_false, -List.reduceReplicate]
          exact Ret.drop (by rfl) ⟨rfl, rfl⟩
      · rw [if_neg hr] at aN
        have c5 := atoi_range_w (baL (45 :: D)) (by omega) aN
        have eQ : Q = none := by rw [hQ, if_pos rfl, if_pos (by omega)]
        rw [eQ]
        refine call_plain (fun _ => false) c5 (ha := by rfl) (by simp) ?_
        rintro r h' ⟨⟨vs, ⟨n, t, q, rfl⟩, rfl⟩, rfl⟩
        refine ⟨rfl, ?_⟩
        simp (maxSteps := 1000000) [hho, noHo, sW, sR, r3A, dec3, undef, onGP_none, condG_false, undef, onGP_none, condG_false, -List.reduceReplicate]
        exact Ret.drop (by rfl) ⟨rfl, rfl⟩
end Go.Proofs.YtjgdlocgoiinbaaGreatDoor
