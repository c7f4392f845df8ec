import Derived.Test.YtjgdlocgoiinbaaGreatDoorQK
namespace Go.Proofs.YtjgdlocgoiinbaaGreatDoor
set_option linter.unusedVariables false
set_option linter.unusedSimpArgs false
open Go.RowKit Go.Lib
attribute [local simp] isCut_nil isCut_region isCut_seq isCut_block isCut_loop isCut_cond isCut_skip isCut_exit isCut_ret isCut_range swapK putK altK condK_bool pickP_bool stepP stepO onPure_some onPure_none onImpl_some onImpl_none stepC onGP_some onGP_none onGV_some condG mkG onIt_it nextP_ptr takeP_eq takeV_some takeV_none takeU_some takeU_none takeQ takeW_some takeN_none takeN_some takeG_some takeO_some altO_some pureV binV2 eqF eqOp ovlV ovl2 rowAt capV binV intBin strBin isSh shV fldV ixV sliceV slice3V loadAV nilV lenV callV unV convV viewS cellsH loadV fldCut AV.ung AV.ungs AV.gc AV.cells AS.ev AS.put anyS gcsV gcO lens lnO gV guardV retK RetP_eq resV oneV anyRo loIx hiIx implO callP_clo evL gcsL clearV storeAV AS.push AS.setO appV appZ shortS copyV buildV partsV fillV srcV fzO okV isCell_c isCell_ptr isCell_sl isCell_fs isCell_fp isCell_clo rowZ_one rowZ_zero rowZ_2 rowZ_3 rowZ_4 rowZ_5 rowZ_6 rowZ_7 rowZ_8 rowZ_9 rowZ_10 rowZ_11 rowZ_12 noHo Value.oneCell' max2V min2V lookV updV lenM msAt afterH putBack frzFrom frzO rebO backIx nilEq_sl nilEq_fs nilEq_ifn nilEq_ifh ifOp_eql ifOp_neq isLit nilOp_eql nilOp_neq AV.reb AV.rebL
attribute [local simp ↓] runK_skip runK_region runK_draw runK_seq runK_cut runK_cond runK_block runK_loop runK_exit runK_label runK_goto runK_ret runK_range contK_nil contK_seq contK_seq_ret contK_seq_exit contK_seq_goto contK_block contK_block_ret contK_block_goto contK_block_exit runO_nil runO_cons roundK_exit roundK_ret roundK_goto exitK_ret cutK_ret cutK_exit runE_done runE_nil runE_take runE_alt condG_true condG_false
set_option maxRecDepth 10000
/-! ## Truths, and types' names -/
def trN (a : Int) : Int := if a = 0 then 0 else if a = 1 then 1 else 2
def notT (a : Int) : Int := if a = 0 then 1 else if a = 1 then 0 else 2
def andT (a b : Int) : Int := if a = 0 ∨ b = 0 then 0 else if a = 1 ∧ b = 1 then 1 else 2
theorem tr_cases (a : Int) : (a = 0 ∧ trN a = 0 ∧ notT a = 1) ∨ (a = 1 ∧ trN a = 1 ∧ notT a = 0) ∨ (¬ a = 0 ∧ ¬ a = 1 ∧ trN a = 2 ∧ notT a = 2) := by
  unfold trN notT
  by_cases h0 : a = 0
  · exact .inl ⟨h0, if_pos h0, if_pos h0⟩
  by_cases h1 : a = 1
  · exact .inr (.inl ⟨h1, by rw [if_neg h0, if_pos h1], by rw [if_neg h0, if_pos h1]⟩)
  · exact .inr (.inr ⟨h0, h1, by rw [if_neg h0, if_neg h1], by rw [if_neg h0, if_neg h1]⟩)
theorem vtruth_w (a : Int) : ACalls Tryz.prog 62 [.c (.int .i64 a)] [] (fun _ => false) (fun r h' => r = .c (.int .i64 (trN a)) ∧ h' = []) := by
  refine acalls mixed Tryz.func62 rfl Tryz.ntmps62 rfl fun E hE hst hho => ?_
  rcases tr_cases a with ⟨h, e, _⟩ | ⟨h, e, _⟩ | ⟨h, h1, e, _⟩
  · rw [e]
    simp (maxSteps := 1000000) [hho, noHo, h, undef, onGP_none, condG_false, undef, onGP_none, condG_false, -List.reduceReplicate]
    exact Ret.drop (by rfl) ⟨rfl, rfl⟩
  · rw [e]
    simp (maxSteps := 1000000) [hho, noHo, h, undef, onGP_none, condG_false, -List.reduceReplicate]
    exact Ret.drop (by rfl) ⟨rfl, rfl⟩
  · rw [e]
    simp (maxSteps := 1000000) [hho, noHo, h, h1, undef, onGP_none, condG_false, -List.reduceReplicate]
    exact Ret.drop (by rfl) ⟨rfl, rfl⟩
theorem vNot_w (a : Int) : ACalls Tryz.prog 25 [.c (.int .i64 a)] [] (fun _ => false) (fun r h' => r = .c (.int .i64 (notT a)) ∧ h' = []) := by
  refine acalls mixed Tryz.func25 rfl Tryz.ntmps25 rfl fun E hE hst hho => ?_
  have c1 := vtruth_w a
  rcases tr_cases a with ⟨h, e, e2⟩ | ⟨h, e, e2⟩ | ⟨h, h1, e, e2⟩
  all_goals
    rw [e] at c1
    rw [e2]
    simp (maxSteps := 1000000) [hho, noHo, -List.reduceReplicate]
    refine call_x [] (c1) rfl rfl ⟨rfl, rfl⟩ hho (by simp) (by decide) (by simp) (by simp) ?_
    simp (maxSteps := 1000000) [hho, noHo, undef, onGP_none, condG_false, -List.reduceReplicate]
    exact Ret.drop (by rfl) ⟨rfl, rfl⟩
set_option maxHeartbeats 4000000 in
theorem vAnd_w (a b : Int) : ACalls Tryz.prog 27 [.c (.int .i64 a), .c (.int .i64 b)] [] (fun _ => false) (fun r h' => r = .c (.int .i64 (andT a b)) ∧ h' = []) := by
  refine acalls mixed Tryz.func27 rfl Tryz.ntmps27 rfl fun E hE hst hho => ?_
  have c1 := vtruth_w a
  have c2 := vtruth_w b
  obtain ⟨R, hR⟩ : ∃ R, R = andT a b := ⟨_, rfl⟩
  rw [← hR]
  unfold andT at hR
  rcases tr_cases a with ⟨h, e, _⟩ | ⟨h, e, _⟩ | ⟨h, h1, e, _⟩ <;> rcases tr_cases b with ⟨g, e2, _⟩ | ⟨g, e2, _⟩ | ⟨g, g1, e2, _⟩
  all_goals
    rw [e] at c1
    rw [e2] at c2
    have hR2 : R = 0 ∨ R = 1 ∨ R = 2 := by split at hR <;> (try split at hR) <;> omega
    simp (maxSteps := 1000000) [hho, noHo, -List.reduceReplicate]
    refine call_x [] (c1) rfl rfl ⟨rfl, rfl⟩ hho (by simp) (by decide) (by simp) (by simp) ?_
    simp (maxSteps := 1000000) [hho, noHo, -List.reduceReplicate]
    refine call_x [] (c2) rfl rfl ⟨rfl, rfl⟩ hho (by simp) (by decide) (by simp) (by simp) ?_
    simp (maxSteps := 1000000) [hho, noHo, undef, onGP_none, condG_false, undef, onGP_none, condG_false, -List.reduceReplicate]
    exact Ret.drop (by rfl) ⟨by rw [hR]; simp [*] <;> omega, rfl⟩
set_option maxHeartbeats 4000000 in
theorem vOr_w (a b : Int) : ACalls Tryz.prog 29 [.c (.int .i64 a), .c (.int .i64 b)] [] (fun _ => false) (fun r h' => r = .c (.int .i64 (notT (andT (notT a) (notT b)))) ∧ h' = []) := by
  refine acalls mixed Tryz.func29 rfl Tryz.ntmps29 rfl fun E hE hst hho => ?_
  have c1 := vNot_w a
  have c2 := vNot_w b
  have c3 := vAnd_w (notT a) (notT b)
  have c4 := vNot_w (andT (notT a) (notT b))
  simp (maxSteps := 1000000) [hho, noHo, -List.reduceReplicate]
  refine call_x [] (c1) rfl rfl ⟨rfl, rfl⟩ hho (by simp) (by decide) (by simp) (by simp) ?_
  simp (maxSteps := 1000000) [hho, noHo, -List.reduceReplicate]
  refine call_x [] (c2) rfl rfl ⟨rfl, rfl⟩ hho (by simp) (by decide) (by simp) (by simp) ?_
  simp (maxSteps := 1000000) [hho, noHo, -List.reduceReplicate]
  refine call_x [] (c3) rfl rfl ⟨rfl, rfl⟩ hho (by simp) (by decide) (by simp) (by simp) ?_
  simp (maxSteps := 1000000) [hho, noHo, -List.reduceReplicate]
  refine call_x [] (c4) rfl rfl ⟨rfl, rfl⟩ hho (by simp) (by decide) (by simp) (by simp) ?_
  simp (maxSteps := 1000000) [hho, noHo, -List.reduceReplicate]
  exact Ret.drop (by rfl) ⟨rfl, rfl⟩
theorem r3Not_w (a : Int) : ACalls Tryz.prog 26 [.c (.int .i64 a)] [] (fun _ => false) (fun r h' => r = .c (.int .i64 (notT a)) ∧ h' = []) := by
  refine acalls mixed Tryz.func26 rfl Tryz.ntmps26 rfl fun E hE hst hho => ?_
  rcases tr_cases a with ⟨h, e, e2⟩ | ⟨h, e, e2⟩ | ⟨h, h1, e, e2⟩
  · rw [e2]
    simp (maxSteps := 1000000) [hho, noHo, h, undef, onGP_none, condG_false, -List.reduceReplicate]
    exact Ret.drop (by rfl) ⟨rfl, rfl⟩
  · rw [e2]
    simp (maxSteps := 1000000) [hho, noHo, h, undef, onGP_none, condG_false, -List.reduceReplicate]
    exact Ret.drop (by rfl) ⟨rfl, rfl⟩
  · rw [e2]
    simp (maxSteps := 1000000) [hho, noHo, h, h1, undef, onGP_none, condG_false, -List.reduceReplicate]
    exact Ret.drop (by rfl) ⟨rfl, rfl⟩
set_option maxHeartbeats 4000000 in
theorem r3And_w (a b : Int) : ACalls Tryz.prog 28 [.c (.int .i64 a), .c (.int .i64 b)] [] (fun _ => false) (fun r h' => r = .c (.int .i64 (andT a b)) ∧ h' = []) := by
  refine acalls mixed Tryz.func28 rfl Tryz.ntmps28 rfl fun E hE hst hho => ?_
  unfold andT
  by_cases a0 : a = 0
  · rw [if_pos (.inl a0)]
    simp (maxSteps := 1000000) [hho, noHo, a0, undef, onGP_none, condG_false, undef, onGP_none, condG_false, -List.reduceReplicate]
    exact Ret.drop (by rfl) ⟨rfl, rfl⟩
  by_cases b0 : b = 0
  · rw [if_pos (.inr b0)]
    simp (maxSteps := 1000000) [hho, noHo, a0, b0, undef, onGP_none, condG_false, -List.reduceReplicate]
    exact Ret.drop (by rfl) ⟨rfl, rfl⟩
  rw [if_neg (by omega)]
  by_cases a1 : a = 1
  · by_cases b1 : b = 1
    · rw [if_pos ⟨a1, b1⟩]
      simp (maxSteps := 1000000) [hho, noHo, a0, b0, a1, b1, undef, onGP_none, condG_false, -List.reduceReplicate]
      exact Ret.drop (by rfl) ⟨rfl, rfl⟩
    · rw [if_neg (by omega)]
      simp (maxSteps := 1000000) [hho, noHo, a0, b0, a1, b1, undef, onGP_none, condG_false, -List.reduceReplicate]
      exact Ret.drop (by rfl) ⟨rfl, rfl⟩
  · rw [if_neg (by omega)]
    simp (maxSteps := 1000000) [hho, noHo, a0, b0, a1, undef, onGP_none, condG_false, undef, onGP_none, condG_false, -List.reduceReplicate]
    exact Ret.drop (by rfl) ⟨rfl, rfl⟩
def truV (v : ValS) : Int := if (plV v).k = 1 then (plV v).n else 2
theorem vTruth_w (v : ValS) (hv : v.t.size ≤ 9000000000000000000) : ACalls Tryz.prog 30 [.agg (valA v)] [] (fun _ => false) (fun r h' => r = .c (.int .i64 (truV v)) ∧ h' = []) := by
  refine acalls mixed Tryz.func30 rfl Tryz.ntmps30 rfl fun E hE hst hho => ?_
  have c1 := vright_w v hv
  unfold truV
  obtain ⟨p, hp⟩ : ∃ p, p = plV v := ⟨_, rfl⟩
  rw [← hp] at c1 ⊢
  by_cases k1 : p.k = 1
  · rw [if_pos k1]
    simp (maxSteps := 1000000) [hho, noHo, valA, -List.reduceReplicate]
    refine call_x [] (c1) rfl rfl ⟨rfl, rfl⟩ hho (by simp) (by decide) (by simp) (by simp) ?_
    simp (maxSteps := 1000000) [hho, noHo, valA, k1, undef, onGP_none, condG_false, -List.reduceReplicate]
    exact Ret.drop (by rfl) ⟨rfl, rfl⟩
  · rw [if_neg k1]
    simp (maxSteps := 1000000) [hho, noHo, valA, -List.reduceReplicate]
    refine call_x [] (c1) rfl rfl ⟨rfl, rfl⟩ hho (by simp) (by decide) (by simp) (by simp) ?_
    simp (maxSteps := 1000000) [hho, noHo, valA, k1, undef, onGP_none, condG_false, -List.reduceReplicate]
    exact Ret.drop (by rfl) ⟨rfl, rfl⟩
def boolV (b : Bool) : ValS := ⟨1, if b = true then 1 else 0, 0, ByteArray.empty⟩
theorem vBool_w (b : Bool) : ACalls Tryz.prog 31 [.c (.bool b)] [] (fun _ => false) (fun r h' => r = .agg (valA (boolV b)) ∧ h' = []) := by
  refine acalls mixed Tryz.func31 rfl Tryz.ntmps31 rfl fun E hE hst hho => ?_
  cases b with
  | true =>
    simp (maxSteps := 1000000) [hho, noHo, valA, boolV, undef, onGP_none, condG_false, -List.reduceReplicate]
    exact Ret.drop (by rfl) ⟨rfl, rfl⟩
  | false =>
    simp (maxSteps := 1000000) [hho, noHo, valA, boolV, undef, onGP_none, condG_false, -List.reduceReplicate]
    exact Ret.drop (by rfl) ⟨rfl, rfl⟩
def decimB : List UInt8 := [68, 69, 67, 73, 77, 65, 76, 40]
def nameB (k : Int) : List UInt8 := if k = 1 then [66, 79, 79, 76] else if k = 2 then [73, 78, 84] else if k = 3 then decimB else if k = 4 then [84, 69, 88, 84] else if k = 5 then [66, 89, 84, 69, 83] else []
def nameT (t : TypS) : List UInt8 := if typOk t = true then (if t.k = 3 then decimB ++ (printD t.s 0 ++ [41]) else nameB t.k) else []
set_option maxHeartbeats 4000000 in
theorem vTypeName_w (t : TypS) : ACalls Tryz.prog 37 [.agg (typA t)] [] (fun _ => false) (fun r h' => r = .c (.string (baL (nameT t))) ∧ h' = []) := by
  refine acalls mixed Tryz.func37 rfl Tryz.ntmps37 rfl fun E hE hst hho => ?_
  have c1 := type_right t
  obtain ⟨Q, hQ⟩ : ∃ Q, Q = baL (nameT t) := ⟨_, rfl⟩
  rw [← hQ]
  unfold nameT at hQ
  by_cases ho : typOk t = true
  case neg =>
    have hb : typOk t = false := by simpa using ho
    rw [if_neg ho] at hQ
    rw [hb] at c1
    rw [hQ]
    simp (maxSteps := 1000000) [hho, noHo, typA, -List.reduceReplicate]
    refine call_x [] (c1) rfl rfl ⟨rfl, rfl⟩ hho (by simp) (by decide) (by simp) (by simp) ?_
    simp (maxSteps := 1000000) [hho, noHo, undef, onGP_none, condG_false, -List.reduceReplicate]
    exact Ret.drop (by rfl) ⟨rfl, rfl⟩
  rw [if_pos ho] at hQ
  rw [ho] at c1
  unfold typOk at ho
  simp (maxSteps := 1000000) [hho, noHo, typA, -List.reduceReplicate]
  refine call_x [] (c1) rfl rfl ⟨rfl, rfl⟩ hho (by simp) (by decide) (by simp) (by simp) ?_
  by_cases k3 : t.k = 3
  · rw [if_pos k3] at hQ ho
    have sb := scale_le ho
    have hi : -9223372036854775808 ≤ t.s ∧ t.s ≤ 9223372036854775807 := by omega
    have c2 := dcPrint_w t.s 0 hi rfl
    have hl := printD_len (n := t.s) (k := 0) hi (by omega)
    rw [show ((0 : Int)).toNat = 0 from rfl] at c2
    obtain ⟨D, hD⟩ : ∃ D, D = printD t.s 0 := ⟨_, rfl⟩
    rw [← hD] at c2 hQ hl
    have e1 : (⟨#[68, 69, 67, 73, 77, 65, 76, 40]⟩ : ByteArray) ++ baL D = baL (decimB ++ D) := ba_app decimB D
    have e2 : baL (decimB ++ D) ++ (⟨#[41]⟩ : ByteArray) = Q := by rw [hQ, ba_app2, List.append_assoc]
    have e3 := ba_size D
    have e4 : (baL (decimB ++ D)).size = D.length + 8 := by rw [ba_size, List.length_append]; show 8 + _ = _; omega
    have e5 : (⟨#[68, 69, 67, 73, 77, 65, 76, 40]⟩ : ByteArray).size = 8 := rfl
    simp (maxSteps := 1000000) [hho, noHo, k3, undef, onGP_none, condG_false, -List.reduceReplicate]
    refine call_x [] (c2) rfl rfl ⟨rfl, rfl⟩ hho (by simp) (by decide) (by simp) (by simp) ?_
    simp (maxSteps := 1000000) [hho, noHo, e1, e2, e3, e4, e5, undef, onGP_none, condG_false, -List.reduceReplicate]
    exact ⟨by omega, by omega, Ret.drop (by rfl) ⟨rfl, rfl⟩⟩
  rw [if_neg k3] at hQ ho
  simp only [Bool.and_eq_true, decide_eq_true_eq] at ho
  unfold nameB at hQ
  rcases (by omega : t.k = 1 ∨ t.k = 2 ∨ t.k = 4 ∨ t.k = 5) with k | k | k | k
  · rw [if_pos k] at hQ
    rw [hQ]
    simp (maxSteps := 1000000) [hho, noHo, k, undef, onGP_none, condG_false, -List.reduceReplicate]
    exact Ret.drop (by rfl) ⟨rfl, rfl⟩
  · rw [if_neg (by omega), if_pos k] at hQ
    rw [hQ]
    simp (maxSteps := 1000000) [hho, noHo, k, undef, onGP_none, condG_false, -List.reduceReplicate]
    exact Ret.drop (by rfl) ⟨rfl, rfl⟩
  · rw [if_neg (by omega), if_neg (by omega), if_neg k3, if_pos k] at hQ
    rw [hQ]
    simp (maxSteps := 1000000) [hho, noHo, k, undef, onGP_none, condG_false, -List.reduceReplicate]
    exact Ret.drop (by rfl) ⟨rfl, rfl⟩
  · rw [if_neg (by omega), if_neg (by omega), if_neg k3, if_neg (by omega), if_pos k] at hQ
    rw [hQ]
    simp (maxSteps := 1000000) [hho, noHo, k, undef, onGP_none, condG_false, -List.reduceReplicate]
    exact Ret.drop (by rfl) ⟨rfl, rfl⟩
end Go.Proofs.YtjgdlocgoiinbaaGreatDoor
