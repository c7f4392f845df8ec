import Derived.Test.YtlepkpfbejfpiaaDoorYG
namespace Go.Proofs.YtlepkpfbejfpiaaDoor
set_option linter.unusedVariables false
set_option linter.unusedSimpArgs false
open Go.RowKit
attribute [local simp] isCut_nil isCut_region isCut_seq isCut_block isCut_loop isCut_cond isCut_skip isCut_exit isCut_ret isCut_range swapK putK altK condK_bool pickP_bool stepP stepO onPure_some onPure_none onImpl_some onImpl_none stepC onGP_some onGP_none onGV_some condG mkG onIt_it nextP_ptr takeP_eq takeV_some takeV_none takeU_some takeU_none takeQ takeW_some takeN_none takeN_some takeG_some takeO_some altO_some pureV binV2 eqF eqOp ovlV ovl2 rowAt capV binV intBin strBin isSh shV fldV ixV sliceV slice3V loadAV nilV lenV callV unV convV viewS cellsH loadV fldCut AV.ung AV.ungs AV.gc AV.cells AS.ev AS.put anyS gcsV lens lnO gV guardV retK RetP_eq resV oneV anyRo loIx hiIx implO callP_clo evL gcsL clearV storeAV AS.push AS.setO appV appZ shortS copyV buildV partsV fillV srcV fzO okV isCell_c isCell_ptr isCell_sl isCell_fs isCell_fp isCell_clo rowZ_one rowZ_zero rowZ_2 rowZ_3 rowZ_4 rowZ_5 rowZ_6 rowZ_7 rowZ_8 rowZ_9 rowZ_10 rowZ_11 rowZ_12 noHo Value.oneCell' max2V min2V afterH putBack frzFrom frzO rebO backIx nilEq_sl nilEq_fs nilOp_eql nilOp_neq AV.reb AV.rebL
attribute [local simp ↓] runK_skip runK_region runK_draw runK_seq runK_cut runK_cond runK_block runK_loop runK_exit runK_label runK_goto runK_ret runK_range contK_nil contK_seq contK_seq_ret contK_seq_exit contK_seq_goto contK_block contK_block_ret contK_block_goto contK_block_exit runO_nil runO_cons roundK_exit roundK_ret roundK_goto exitK_ret cutK_ret cutK_exit runE_done runE_nil runE_take runE_alt condG_true condG_false
set_option maxRecDepth 10000
/-! ## SameExpr, and the reference's -/
set_option maxHeartbeats 8000000 in
theorem sameExpr_w (x : ExprS) (hx : Fit x) (y : ExprS) : ACalls Tryd.prog 42 [.agg (exprA x), .agg (exprA y)] [] (fun _ => false) (fun r h' => r = .c (.bool (sameE false x y)) ∧ h' = []) := by
  induction x using ExprS.ind generalizing y with
  | _ x ih =>
  have hs : ACalls Tryd.prog 39 [.fs 13 x.kids.length (exprsA x.kids), .fs 13 y.kids.length (exprsA y.kids)] [] (fun _ => false) (fun r h' => r = .c (.bool (eqL (sameE false) x.kids y.kids)) ∧ h' = []) := by
    have hc := ef_expr x.kids y.kids (sameE false) 42 (by simp) hx.len fun k hk m _ => ih k hk (hx.kid k hk) m
    refine acalls mixed Tryd.func39 rfl Tryd.ntmps39 rfl fun E hE hst hho => ?_
    simp (maxSteps := 1000000) [hho, noHo, -List.reduceReplicate]
    refine call_x [] hc rfl rfl ⟨rfl, rfl⟩ hho (by simp) (by decide) (by simp) (by simp) ?_
    simp (maxSteps := 1000000) [hho, noHo, -List.reduceReplicate]
    exact Ret.same ⟨rfl, rfl⟩
  have ha := alike_w x y
  refine acalls mixed Tryd.func42 rfl Tryd.ntmps42 rfl fun E hE hst hho => ?_
  rw [sameE_eq]
  cases hA : alikeB x y with
  | true =>
    rw [hA] at ha
    simp (maxSteps := 1000000) [hho, noHo, exprA, undef, onGP_none, condG_false, -List.reduceReplicate]
    refine call_x [] ha rfl rfl ⟨rfl, rfl⟩ hho (by simp) (by decide) (by simp) (by simp) ?_
    simp (maxSteps := 1000000) [hho, noHo, undef, onGP_none, condG_false, -List.reduceReplicate]
    refine call_x [] hs rfl rfl ⟨rfl, rfl⟩ hho (by simp) (by decide) (by simp) (by simp) ?_
    simp (maxSteps := 1000000) [hho, noHo, undef, onGP_none, condG_false, -List.reduceReplicate]
    exact Ret.drop (by rfl) ⟨by simp, rfl⟩
  | false =>
    rw [hA] at ha
    simp (maxSteps := 1000000) [hho, noHo, exprA, undef, onGP_none, condG_false, -List.reduceReplicate]
    refine call_x [] ha rfl rfl ⟨rfl, rfl⟩ hho (by simp) (by decide) (by simp) (by simp) ?_
    simp (maxSteps := 1000000) [hho, noHo, undef, onGP_none, condG_false, -List.reduceReplicate]
    exact Ret.drop (by rfl) ⟨by simp, rfl⟩
theorem sameExprs_w (l m : List ExprS) (hl : ∀ x ∈ l, Fit x) (hn : l.length ≤ 5864062014805) : ACalls Tryd.prog 39 [.fs 13 l.length (exprsA l), .fs 13 m.length (exprsA m)] [] (fun _ => false) (fun r h' => r = .c (.bool (eqL (sameE false) l m)) ∧ h' = []) := by
  have hc := ef_expr l m (sameE false) 42 (by simp) hn fun k hk y _ => sameExpr_w k (hl k hk) y
  refine acalls mixed Tryd.func39 rfl Tryd.ntmps39 rfl fun E hE hst hho => ?_
  simp (maxSteps := 1000000) [hho, noHo, -List.reduceReplicate]
  refine call_x [] hc rfl rfl ⟨rfl, rfl⟩ hho (by simp) (by decide) (by simp) (by simp) ?_
  simp (maxSteps := 1000000) [hho, noHo, -List.reduceReplicate]
  exact Ret.same ⟨rfl, rfl⟩
/-! the reference's -/
set_option maxHeartbeats 8000000 in
theorem sameExprs_of (p : Bool) (l m : List ExprS) (hn : l.length ≤ 5864062014805) (hc : ∀ x ∈ l, ∀ y ∈ m, ACalls Tryd.prog 29 [.agg (exprA x), .agg (exprA y), .c (.bool p)] [] (fun _ => false) (fun r h' => r = .c (.bool (sameE p x y)) ∧ h' = [])) : ACalls Tryd.prog 14 [.fs 13 l.length (exprsA l), .fs 13 m.length (exprsA m), .c (.bool p)] [] (fun _ => false) (fun r h' => r = .c (.bool (eqL (sameE p) l m)) ∧ h' = []) := by
  refine acalls mixed Tryd.func14 rfl Tryd.ntmps14 rfl fun E hE hst hho => ?_
  by_cases hlen : l.length = m.length
  · have hlenI : (l.length : Int) = m.length := by omega
    simp (maxSteps := 1000000) [hho, noHo, hlen, -List.reduceReplicate]
    refine loop_k mixed (fun j : Nat => ⟨slotsOf 30 [(0, .fs 13 l.length (exprsA l)), (1, .fs 13 m.length (exprsA m)), (2, .c (.bool p)), (13, .fs 13 l.length (exprsA l)), (14, .c (.int .i64 l.length)), (15, .c (.int .i64 (j : Nat)))], []⟩) (fun j => l.length - j) (fun j => j ≤ l.length ∧ ∀ k (h1 : k < l.length) (h2 : k < m.length), k < j → sameE p l[k] m[k] = true) 0 ⟨Nat.zero_le _, fun k _ _ h => by omega⟩ ?_ ?_
    · exact wk_eq (by simp [hE, lens]) (by simp) (by simp [livH, livO, AV.livL, AV.liv, wkL, wkV, List.range', slotsOf, hlen])
    · rintro j ⟨hj, hI⟩
      by_cases hjl : j < l.length
      · have hjm : j < m.length := by omega
        have h1 := exprsA_at l j hjl
        have h2 := exprsA_at m j hjm
        have ew : IntKind.i64.wrap ((j : Int) + 1) = (j + 1 : Nat) := by rw [IntWalk.i64_in _ (by omega)]; rfl
        have e1 : j * 13 + 13 ≤ l.length * 13 := by omega
        have e2 : j * 13 + 13 ≤ m.length * 13 := by omega
        have hx := hc l[j] (List.getElem_mem hjl) m[j] (List.getElem_mem hjm)
        have hp0 := @eqL_false _ (sameE p) l m j hjl hjm
        have hI1 : sameE p l[j] m[j] = true → ∀ k (h1 : k < l.length) (h2 : k < m.length), k < j + 1 → sameE p l[k] m[k] = true := fun h k hk hk2 hkj => by
          by_cases e : k = j
          · subst e; exact h
          · exact hI k hk hk2 (by omega)
        obtain ⟨x, hxe⟩ : ∃ x, x = l[j] := ⟨_, rfl⟩
        obtain ⟨y, hye⟩ : ∃ y, y = m[j] := ⟨_, rfl⟩
        rw [← hxe, ← hye] at hx hp0 hI1
        rw [← hxe] at h1
        rw [← hye] at h2
        cases hp : sameE p x y with
        | true =>
          rw [hp] at hx
          simp (maxSteps := 1000000) [slotsOf, hho, noHo, hjl, hjm, h1, h2, e1, e2, -List.reduceReplicate]
          refine draw_k hho (.take 0 (.take 1 (.take 2 (.take 3 (.take 4 (.take 5 (.take 6 (.take 7 (.take 8 (.alt 9 (.take 10 (.done)) (.nil))))))))))) [] [] (by decide +kernel) (by simp) ?_
          simp (maxSteps := 1000000) [hho, h1, h2, e1, e2, hjl, hjm, exprA, roOf, holdOf, wrOf, altK, heldOk, Region.binds, -List.reduceReplicate]
          intro E1
          refine call_h [] hx rfl rfl ⟨rfl, rfl⟩ (by simp) (by simp) (by decide) (by simp) (by simp) ?_
          simp (maxSteps := 1000000) [hho, roOf, holdOf, wrOf, altK, heldOk, Region.binds, ew, -List.reduceReplicate]
          intros
          refine round_next (j + 1) ⟨by omega, hI1 hp⟩ (by omega) ?_
          exact wk_eq (by simp [hE, lens]) (by simp) (by simp [livH, livO, AV.livL, AV.liv, wkL, wkV, List.range', slotsOf])
        | false =>
          rw [hp] at hx
          simp (maxSteps := 1000000) [slotsOf, hho, noHo, hjl, hjm, h1, h2, e1, e2, -List.reduceReplicate]
          refine draw_k hho (.take 0 (.take 1 (.take 2 (.take 3 (.take 4 (.take 5 (.take 6 (.take 7 (.take 8 (.alt 9 (.take 10 (.done)) (.nil))))))))))) [] [] (by decide +kernel) (by simp) ?_
          simp (maxSteps := 1000000) [hho, h1, h2, e1, e2, hjl, hjm, exprA, roOf, holdOf, wrOf, altK, heldOk, Region.binds, -List.reduceReplicate]
          intro E1
          refine call_h [] hx rfl rfl ⟨rfl, rfl⟩ (by simp) (by simp) (by decide) (by simp) (by simp) ?_
          simp (maxSteps := 1000000) [hho, roOf, holdOf, wrOf, altK, heldOk, Region.binds, ew, -List.reduceReplicate]
          intros
          exact Ret.same ⟨by rw [hp0 hp], rfl⟩
      · obtain rfl : j = l.length := by omega
        simp (maxSteps := 1000000) [slotsOf, hho, noHo, -List.reduceReplicate]
        exact Ret.same ⟨by rw [eqL_true hlen fun k h1 h2 => hI k h1 h2 h1], rfl⟩
  · have hlenI : ¬ (l.length : Int) = m.length := by omega
    simp (maxSteps := 1000000) [hho, noHo, hlen, hlenI, -List.reduceReplicate]
    exact Ret.same ⟨by rw [eqL_len hlen], rfl⟩
set_option maxHeartbeats 8000000 in
theorem sameExpr_ref (p : Bool) (x : ExprS) (hx : Fit x) (y : ExprS) : ACalls Tryd.prog 29 [.agg (exprA x), .agg (exprA y), .c (.bool p)] [] (fun _ => false) (fun r h' => r = .c (.bool (sameE p x y)) ∧ h' = []) := by
  induction x using ExprS.ind generalizing y with
  | _ x ih =>
  have hs := sameExprs_of p x.kids y.kids hx.len fun k hk m _ => ih k hk (hx.kid k hk) m
  refine acalls mixed Tryd.func29 rfl Tryd.ntmps29 rfl fun E hE hst hho => ?_
  rw [sameE_eq]
  obtain ⟨B, hB⟩ : ∃ B, B = (alikeB x y && (!p || decide (x.at_ = y.at_))) := ⟨_, rfl⟩
  rw [← hB]
  simp (maxSteps := 1000000) [hho, noHo, exprA, undef, onGP_none, condG_false, -List.reduceReplicate]
  refine ⟨by grind, ?_⟩
  cases B with
  | false =>
    have hB' := hB.symm
    rw [Bool.eq_false_iff] at hB'
    simp only [alikeB, valEq, typEq, Bool.and_eq_true, Bool.or_eq_true, Bool.not_eq_true', decide_eq_true_eq, ne_eq] at hB'
    rw [if_pos (by cases p <;> simp at hB' ⊢ <;> grind)]
    exact Ret.drop (by rfl) ⟨rfl, rfl⟩
  | true =>
    have hB' := hB.symm
    simp only [alikeB, valEq, typEq, Bool.and_eq_true, Bool.or_eq_true, Bool.not_eq_true', decide_eq_true_eq] at hB'
    rw [if_neg (by cases p <;> simp at hB' ⊢ <;> grind)]
    refine call_x [] hs rfl rfl ⟨rfl, rfl⟩ hho (by simp) (by decide) (by simp) (by simp) ?_
    simp (maxSteps := 1000000) [hho, noHo, undef, onGP_none, condG_false, -List.reduceReplicate]
    exact Ret.drop (by rfl) ⟨by simp, rfl⟩
theorem sameExprs_ref (p : Bool) (l m : List ExprS) (hl : ∀ x ∈ l, Fit x) (hn : l.length ≤ 5864062014805) : ACalls Tryd.prog 14 [.fs 13 l.length (exprsA l), .fs 13 m.length (exprsA m), .c (.bool p)] [] (fun _ => false) (fun r h' => r = .c (.bool (eqL (sameE p) l m)) ∧ h' = []) :=
  sameExprs_of p l m hn fun x hx y _ => sameExpr_ref p x (hl x hx) y
end Go.Proofs.YtlepkpfbejfpiaaDoor
