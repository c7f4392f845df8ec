import Derived.Test.YtniifindnnfkaaaDoorV4
namespace Go.Proofs.YtniifindnnfkaaaDoor
set_option linter.unusedVariables false
set_option linter.unusedSimpArgs false
open Go.RowKit Go.Lib
attribute [local simp] isCut_nil isCut_region isCut_seq isCut_block isCut_loop isCut_cond isCut_skip isCut_exit isCut_ret isCut_range swapK putK altK condK_bool pickP_bool stepP stepO onPure_some onPure_none onImpl_some onImpl_none stepC onGP_some onGP_none onGV_some condG mkG onIt_it nextP_ptr takeP_eq takeV_some takeV_none takeU_some takeU_none takeQ takeW_some takeN_none takeN_some takeG_some takeO_some altO_some pureV binV2 eqF eqOp ovlV ovl2 rowAt capV binV intBin strBin isSh shV fldV ixV sliceV slice3V loadAV nilV lenV callV unV convV viewS cellsH loadV fldCut AV.ung AV.ungs AV.gc AV.cells AS.ev AS.put anyS gcsV lens lnO gV guardV retK RetP_eq resV oneV anyRo loIx hiIx implO callP_clo evL gcsL clearV storeAV AS.push AS.setO appV appZ shortS copyV buildV partsV fillV srcV fzO okV isCell_c isCell_ptr isCell_sl isCell_fs isCell_fp isCell_clo rowZ_one rowZ_zero rowZ_2 rowZ_3 rowZ_4 rowZ_5 rowZ_6 rowZ_7 rowZ_8 rowZ_9 rowZ_10 rowZ_11 rowZ_12 noHo Value.oneCell' max2V min2V lookV updV lenM msAt afterH putBack frzFrom frzO rebO backIx nilEq_sl nilEq_fs nilOp_eql nilOp_neq AV.reb AV.rebL
attribute [local simp ↓] runK_skip runK_region runK_draw runK_seq runK_cut runK_cond runK_block runK_loop runK_exit runK_label runK_goto runK_ret runK_range contK_nil contK_seq contK_seq_ret contK_seq_exit contK_seq_goto contK_block contK_block_ret contK_block_goto contK_block_exit runO_nil runO_cons roundK_exit roundK_ret roundK_goto exitK_ret cutK_ret cutK_exit runE_done runE_nil runE_take runE_alt condG_true condG_false
set_option maxRecDepth 10000
/-! ## value.Right and the reference's; Of -/
def valOk (v : ValS) : Bool :=
  if v.k = 0 then decide (v.n = 0) && decide (v.s = 0) && decide (v.t = ByteArray.empty)
  else if v.k = 1 then (decide (v.n = 0) || decide (v.n = 1)) && decide (v.s = 0) && decide (v.t = ByteArray.empty)
  else if v.k = 2 then decide (v.s = 0) && decide (v.t = ByteArray.empty)
  else if v.k = 3 then decide (v.t = ByteArray.empty) && scaleOk v.s
  else if v.k = 4 then decide (v.n = 0) && decide (v.s = 0) && decide (v.t.size ≤ 200) && utfOk v.t
  else if v.k = 5 then decide (v.n = 0) && decide (v.s = 0) && decide (v.t.size ≤ 200)
  else false
theorem and_one (n : Int) : (n = IntKind.i64.wrap (((n % 2 ^ IntKind.i64.bits).toNat &&& 1 % 2 ^ IntKind.i64.bits : Nat) : Int)) ↔ (n = 0 ∨ n = 1) := by
  have hb : IntKind.i64.bits = 64 := rfl
  have e : (1 : Nat) % 2 ^ 64 = 1 := by decide
  rw [hb, e, Nat.and_one_is_mod, IntWalk.i64_in _ (by omega)]
  have : ((2 : Int) ^ 64) = 18446744073709551616 := by decide
  omega
set_option maxHeartbeats 8000000 in
theorem val_right (v : ValS) (hv : v.t.size ≤ 9000000000000000000) : ACalls Tryd.prog 53 [.agg (valA v)] [] (fun _ => false) (fun r h' => r = .c (.bool (valOk v)) ∧ h' = []) := by
  refine acalls mixed Tryd.func53 rfl Tryd.ntmps53 rfl fun E hE hst hho => ?_
  have hu := valid_utf v.t (by omega)
  by_cases h0 : v.k = 0
  · simp [hho, noHo, valA, h0, -List.reduceReplicate]
    exact Ret.drop (by rfl) ⟨by simp [valOk, h0, Bool.and_assoc], rfl⟩
  by_cases h1 : v.k = 1
  · simp [hho, noHo, valA, h1, -List.reduceReplicate]
    refine Ret.drop (by rfl) ⟨?_, rfl⟩
    congr 2
    rw [Bool.eq_iff_iff]
    simp only [Bool.and_eq_true, decide_eq_true_eq, and_one, valOk, h1]
    simp [and_assoc]
  by_cases h2 : v.k = 2
  · simp [hho, noHo, valA, h2, -List.reduceReplicate]
    exact Ret.drop (by rfl) ⟨by simp [valOk, h2, Bool.and_assoc], rfl⟩
  by_cases h3 : v.k = 3
  · by_cases ht : v.t = ByteArray.empty
    · simp [hho, noHo, valA, h3, ht, -List.reduceReplicate]
      refine call_x [] (right_dec v.s) rfl rfl ⟨rfl, rfl⟩ hho (by simp) (by decide) (by simp) (by simp) ?_
      simp [hho, noHo, -List.reduceReplicate]
      exact Ret.drop (by rfl) ⟨by simp [valOk, h3, ht], rfl⟩
    · simp [hho, noHo, valA, h3, ht, undef, onGP_none, condG_false, -List.reduceReplicate]
      exact Ret.drop (by rfl) ⟨by simp [valOk, h3, ht], rfl⟩
  by_cases h4 : v.k = 4
  · by_cases ha : v.n = 0 ∧ v.s = 0 ∧ (v.t.size : Int) ≤ 200
    · obtain ⟨a1, a2, a3⟩ := ha
      simp [hho, noHo, valA, h4, a1, a2, a3, -List.reduceReplicate]
      refine call_x [] hu rfl rfl ⟨rfl, rfl⟩ hho (by simp) (by decide) (by simp) (by simp) ?_
      simp [hho, noHo, -List.reduceReplicate]
      have a3' : v.t.size ≤ 200 := by omega
      exact Ret.drop (by rfl) ⟨by simp [valOk, h4, a1, a2, a3'], rfl⟩
    · have ha' : ¬ ((v.n = 0 ∧ v.s = 0) ∧ (v.t.size : Int) ≤ 200) := fun h => ha ⟨h.1.1, h.1.2, h.2⟩
      have hv : valOk v = false := by
        have hc : ((decide (v.n = 0) && decide (v.s = 0)) && decide (v.t.size ≤ 200)) = false := by
          rw [Bool.eq_false_iff]
          intro h
          simp only [Bool.and_eq_true, decide_eq_true_eq] at h
          exact ha ⟨h.1.1, h.1.2, by omega⟩
        simp [valOk, h4, hc]
      by_cases b1 : v.n = 0 <;> by_cases b2 : v.s = 0 <;> by_cases b3 : (v.t.size : Int) ≤ 200
      · exact absurd ⟨b1, b2, b3⟩ ha
      all_goals
        simp [hho, noHo, valA, h4, b1, b2, b3, undef, onGP_none, condG_false, -List.reduceReplicate]
        exact Ret.drop (by rfl) ⟨by rw [hv], rfl⟩
  by_cases h5 : v.k = 5
  · simp [hho, noHo, valA, h5, -List.reduceReplicate]
    have e : decide ((v.t.size : Int) ≤ 200) = decide (v.t.size ≤ 200) := by
      rw [decide_eq_decide]; omega
    exact Ret.drop (by rfl) ⟨by simp [valOk, h5, e], rfl⟩
  simp [hho, noHo, valA, h0, h1, h2, h3, h4, h5, -List.reduceReplicate]
  exact Ret.drop (by rfl) ⟨by simp [valOk, h0, h1, h2, h3, h4, h5], rfl⟩
set_option maxHeartbeats 8000000 in
theorem val_ref (v : ValS) (hv : v.t.size ≤ 9000000000000000000) : ACalls Tryd.prog 26 [.agg (valA v)] [] (fun _ => false) (fun r h' => r = .c (.bool (valOk v)) ∧ h' = []) := by
  refine acalls mixed Tryd.func26 rfl Tryd.ntmps26 rfl fun E hE hst hho => ?_
  by_cases h0 : v.k = 0
  · simp [hho, noHo, valA, h0, -List.reduceReplicate]
    exact Ret.drop (by rfl) ⟨by simp [valOk, h0, Bool.and_assoc], rfl⟩
  by_cases h1 : v.k = 1
  · by_cases a : v.n = 0
    · simp [hho, noHo, valA, h1, a, -List.reduceReplicate]
      exact Ret.drop (by rfl) ⟨by simp [valOk, h1, a, Bool.and_assoc], rfl⟩
    · by_cases b : v.n = 1
      · simp [hho, noHo, valA, h1, b, -List.reduceReplicate]
        exact Ret.drop (by rfl) ⟨by simp [valOk, h1, b, Bool.and_assoc], rfl⟩
      · simp [hho, noHo, valA, h1, a, b, -List.reduceReplicate]
        exact Ret.drop (by rfl) ⟨by simp [valOk, h1, a, b], rfl⟩
  by_cases h2 : v.k = 2
  · simp [hho, noHo, valA, h2, -List.reduceReplicate]
    exact Ret.drop (by rfl) ⟨by simp [valOk, h2, Bool.and_assoc], rfl⟩
  by_cases h3 : v.k = 3
  · have hs := scale_ref v.s
    cases hS : scaleOk v.s with
    | true =>
      rw [hS] at hs
      simp [hho, noHo, valA, h3, -List.reduceReplicate]
      refine call_x [] hs rfl rfl ⟨rfl, rfl⟩ hho (by simp) (by decide) (by simp) (by simp) ?_
      simp [hho, noHo, -List.reduceReplicate]
      exact Ret.drop (by rfl) ⟨by simp [valOk, h3, hS], rfl⟩
    | false =>
      rw [hS] at hs
      simp [hho, noHo, valA, h3, -List.reduceReplicate]
      refine call_x [] hs rfl rfl ⟨rfl, rfl⟩ hho (by simp) (by decide) (by simp) (by simp) ?_
      simp [hho, noHo, -List.reduceReplicate]
      exact Ret.drop (by rfl) ⟨by simp [valOk, h3, hS], rfl⟩
  by_cases h4 : v.k = 4
  · by_cases ha : (200 : Int) < v.t.size
    · have ha' : ¬ v.t.size ≤ 200 := by omega
      simp [hho, noHo, valA, h4, ha, undef, onGP_none, condG_false, -List.reduceReplicate]
      exact Ret.drop (by rfl) ⟨by simp [valOk, h4, ha'], rfl⟩
    · have ha' : v.t.size ≤ 200 := by omega
      have hu := utf_ref v.t hv
      cases hU : utfOk v.t with
      | true =>
        rw [hU] at hu
        simp [hho, noHo, valA, h4, ha, -List.reduceReplicate]
        refine call_x [] hu rfl rfl ⟨rfl, rfl⟩ hho (by simp) (by decide) (by simp) (by simp) ?_
        simp [hho, noHo, -List.reduceReplicate]
        exact Ret.drop (by rfl) ⟨by simp [valOk, h4, ha', hU], rfl⟩
      | false =>
        rw [hU] at hu
        simp [hho, noHo, valA, h4, ha, -List.reduceReplicate]
        refine call_x [] hu rfl rfl ⟨rfl, rfl⟩ hho (by simp) (by decide) (by simp) (by simp) ?_
        simp [hho, noHo, -List.reduceReplicate]
        exact Ret.drop (by rfl) ⟨by simp [valOk, h4, ha', hU], rfl⟩
  by_cases h5 : v.k = 5
  · by_cases ha : (200 : Int) < v.t.size
    · have ha' : ¬ v.t.size ≤ 200 := by omega
      simp [hho, noHo, valA, h5, ha, undef, onGP_none, condG_false, -List.reduceReplicate]
      exact Ret.drop (by rfl) ⟨by simp [valOk, h5, ha'], rfl⟩
    · have ha' : v.t.size ≤ 200 := by omega
      simp [hho, noHo, valA, h5, ha, undef, onGP_none, condG_false, -List.reduceReplicate]
      exact Ret.drop (by rfl) ⟨by simp [valOk, h5, ha'], rfl⟩
  simp [hho, noHo, valA, h0, h1, h2, h3, h4, h5, -List.reduceReplicate]
  exact Ret.drop (by rfl) ⟨by simp [valOk, h0, h1, h2, h3, h4, h5], rfl⟩
/-! a value of a type -/
def ofOk (v : ValS) (t : TypS) : Bool := typOk t && valOk v && (decide (v.k = 0) || (decide (v.k = t.k) && decide (v.s = t.s)))
end Go.Proofs.YtniifindnnfkaaaDoor
