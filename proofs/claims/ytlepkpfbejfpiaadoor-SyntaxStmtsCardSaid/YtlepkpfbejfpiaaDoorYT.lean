import Derived.Test.YtlepkpfbejfpiaaDoorYR
import Derived.Test.YtlepkpfbejfpiaaDoorYI
namespace Go.Proofs.YtlepkpfbejfpiaaDoor
set_option linter.unusedVariables false
set_option linter.unusedSimpArgs false
open Go.RowKit
attribute [local simp] isCut_nil isCut_region isCut_seq isCut_block isCut_loop isCut_cond isCut_skip isCut_exit isCut_ret isCut_range swapK putK altK condK_bool pickP_bool stepP stepO onPure_some onPure_none onImpl_some onImpl_none stepC onGP_some onGP_none onGV_some condG mkG onIt_it nextP_ptr takeP_eq takeV_some takeV_none takeU_some takeU_none takeQ takeW_some takeN_none takeN_some takeG_some takeO_some altO_some pureV binV2 eqF eqOp ovlV ovl2 rowAt capV binV intBin strBin isSh shV fldV ixV sliceV slice3V loadAV nilV lenV callV unV convV viewS cellsH loadV fldCut AV.ung AV.ungs AV.gc AV.cells AS.ev AS.put anyS gcsV lens lnO gV guardV retK RetP_eq resV oneV anyRo loIx hiIx implO callP_clo evL gcsL clearV storeAV AS.push AS.setO appV appZ shortS copyV buildV partsV fillV srcV fzO okV isCell_c isCell_ptr isCell_sl isCell_fs isCell_fp isCell_clo rowZ_one rowZ_zero rowZ_2 rowZ_3 rowZ_4 rowZ_5 rowZ_6 rowZ_7 rowZ_8 rowZ_9 rowZ_10 rowZ_11 rowZ_12 noHo Value.oneCell' max2V min2V afterH putBack frzFrom frzO rebO backIx nilEq_sl nilEq_fs nilOp_eql nilOp_neq AV.reb AV.rebL
attribute [local simp ↓] runK_skip runK_region runK_draw runK_seq runK_cut runK_cond runK_block runK_loop runK_exit runK_label runK_goto runK_ret runK_range contK_nil contK_seq contK_seq_ret contK_seq_exit contK_seq_goto contK_block contK_block_ret contK_block_goto contK_block_exit runO_nil runO_cons roundK_exit roundK_ret roundK_goto exitK_ret cutK_ret cutK_exit runE_done runE_nil runE_take runE_alt condG_true condG_false
set_option maxRecDepth 10000
/-! ## SyntaxExprs -/
theorem alike_refl (x : ExprS) : alikeB x x = true := by simp [alikeB, valEq, typEq]
theorem eqL_refl {α : Type} {p : α → α → Bool} : ∀ {l : List α}, (∀ x ∈ l, p x x = true) → eqL p l l = true
  | [], _ => rfl
  | x :: l, h => by rw [eqL, h x (List.mem_cons_self ..), eqL_refl fun y hy => h y (List.mem_cons_of_mem _ hy)]; rfl
theorem sameE_refl (p : Bool) (x : ExprS) : sameE p x x = true := by
  induction x using ExprS.ind with
  | _ x ih => rw [sameE_eq, alike_refl, eqL_refl ih]; simp
theorem Fit.cols {x : ExprS} (h : Fit x) : ∀ y ∈ colsE x, Fit y := by
  induction x using ExprS.ind with
  | _ x ih =>
    intro y hy
    rw [colsE_eq] at hy
    rcases List.mem_append.1 hy with hy | hy
    · split at hy
      · simp only [List.mem_singleton] at hy; subst hy; exact h
      · cases hy
    · obtain ⟨k, hk, hy⟩ := List.mem_flatMap.1 hy
      exact ih k hk (h.kid k hk) y hy
set_option maxHeartbeats 8000000 in
theorem exprsLaw_w (x : ExprS) (hx : ExprOk x) : ACalls Tryd.prog 3 [.agg (exprA x)] [] (fun _ => false) (fun r h' => r = .c (.bool true)) := by
  refine acalls mixed Tryd.func3 rfl Tryd.ntmps3 rfl fun E hE hst hho => ?_
  have c0 := size_ref x 70 (by omega)
  simp (maxSteps := 1000000) [hho, noHo, exprA, undef, onGP_none, condG_false, -List.reduceReplicate]
  refine call_x [] first_w rfl rfl ⟨rfl, rfl⟩ hho (by simp) (by decide) (by simp) (by simp) ?_
  simp (maxSteps := 1000000) [hho, noHo, undef, onGP_none, condG_false, -List.reduceReplicate]
  refine call_x [] c0 rfl rfl ⟨rfl, rfl⟩ hho (by simp) (by decide) (by simp) (by simp) ?_
  by_cases hs : sizeE 70 x ≤ 3000
  · obtain ⟨g1, g2, g3⟩ := size_good x 70 hs
    have hsI : ¬ (3000 : Int) < (sizeE 70 x : Nat) := by omega
    have c1 := rightExpr_w x g2
    have c2 := expr_ref x g2 0 (by omega)
    have c3 := height_w x g2 (by omega)
    have c4 := height_ref x g2 (by omega)
    have c5 := calls_w x g2
    have c6 := calls_ref x g2
    have c7 := columns_w x g2 (by omega)
    have c8 := columns_ref x g2 (by omega)
    have c9 := sameExprs_ref true (colsE x) (colsE x) g2.cols (by omega)
    rw [eqL_refl fun y _ => sameE_refl true y] at c9
    obtain ⟨B1, h1⟩ : ∃ B, B = rightE 0 x := ⟨_, rfl⟩
    obtain ⟨B2, h2⟩ : ∃ B, B = callsE x := ⟨_, rfl⟩
    rw [← h1] at c1 c2
    rw [← h2] at c5 c6
    simp (maxSteps := 1000000) [hho, noHo, hs, hsI, undef, onGP_none, condG_false, -List.reduceReplicate]
    refine draw_k hho (.take 0 (.take 2 (.alt 1 (.alt 3 (.take 4 (.take 5 (.take 6 (.take 8 (.alt 7 (.alt 9 (.take 10 (.take 11 (.take 12 (.take 13 (.take 15 (.alt 14 (.alt 16 (.take 17 (.take 18 (.take 19 (.take 20 (.take 22 (.alt 21 (.alt 23 (.alt 24 (.take 25 (.take 26 (.done))) (.nil)) (.nil)) (.nil))))))) (.nil)) (.nil))))))) (.nil)) (.nil)))))) (.nil)) (.nil)))) [0] [] (by decide +kernel) (by simp) ?_
    simp (maxSteps := 1000000) [hho, noHo, undef, onGP_none, condG_false, roOf, holdOf, wrOf, altK, heldOk, Region.binds, -List.reduceReplicate]
    intros
    refine call_h [] c1 rfl rfl ⟨rfl, rfl⟩ (by simp) (by simp) (by decide) (by simp) (by simp) ?_
    simp (maxSteps := 1000000) [hho, noHo, undef, onGP_none, condG_false, roOf, holdOf, wrOf, altK, heldOk, Region.binds, -List.reduceReplicate]
    intros
    refine call_h [] c2 rfl rfl ⟨rfl, rfl⟩ (by simp) (by simp) (by decide) (by simp) (by simp) ?_
    simp (maxSteps := 1000000) [hho, noHo, undef, onGP_none, condG_false, roOf, holdOf, wrOf, altK, heldOk, Region.binds, -List.reduceReplicate]
    intros
    refine call_h [] c3 rfl rfl ⟨rfl, rfl⟩ (by simp) (by simp) (by decide) (by simp) (by simp) ?_
    simp (maxSteps := 1000000) [hho, noHo, undef, onGP_none, condG_false, roOf, holdOf, wrOf, altK, heldOk, Region.binds, -List.reduceReplicate]
    intros
    refine call_h [] c4 rfl rfl ⟨rfl, rfl⟩ (by simp) (by simp) (by decide) (by simp) (by simp) ?_
    simp (maxSteps := 1000000) [hho, noHo, undef, onGP_none, condG_false, roOf, holdOf, wrOf, altK, heldOk, Region.binds, -List.reduceReplicate]
    intros
    refine call_h [] c5 rfl rfl ⟨rfl, rfl⟩ (by simp) (by simp) (by decide) (by simp) (by simp) ?_
    simp (maxSteps := 1000000) [hho, noHo, undef, onGP_none, condG_false, roOf, holdOf, wrOf, altK, heldOk, Region.binds, -List.reduceReplicate]
    intros
    refine call_h [] c6 rfl rfl ⟨rfl, rfl⟩ (by simp) (by simp) (by decide) (by simp) (by simp) ?_
    simp (maxSteps := 1000000) [hho, noHo, undef, onGP_none, condG_false, roOf, holdOf, wrOf, altK, heldOk, Region.binds, -List.reduceReplicate]
    intros
    refine call_h [] c7 rfl rfl ⟨rfl, rfl⟩ (by simp) (by simp) (by decide) (by simp) (by simp) ?_
    simp (maxSteps := 1000000) [hho, noHo, undef, onGP_none, condG_false, roOf, holdOf, wrOf, altK, heldOk, Region.binds, -List.reduceReplicate]
    intros
    refine call_h [] c8 rfl rfl ⟨rfl, rfl⟩ (by simp) (by simp) (by decide) (by simp) (by simp) ?_
    simp (maxSteps := 1000000) [hho, noHo, undef, onGP_none, condG_false, roOf, holdOf, wrOf, altK, heldOk, Region.binds, -List.reduceReplicate]
    intros
    refine call_h [] c9 rfl rfl ⟨rfl, rfl⟩ (by simp) (by simp) (by decide) (by simp) (by simp) ?_
    simp (maxSteps := 1000000) [hho, noHo, undef, onGP_none, condG_false, roOf, holdOf, wrOf, altK, heldOk, Region.binds, -List.reduceReplicate]
    intros
    exact Ret.drop (by rfl) rfl
  · have hsI : (3000 : Int) < (sizeE 70 x : Nat) := by omega
    simp (maxSteps := 1000000) [hho, noHo, hs, hsI, undef, onGP_none, condG_false, -List.reduceReplicate]
    exact Ret.drop (by rfl) rfl
end Go.Proofs.YtlepkpfbejfpiaaDoor
