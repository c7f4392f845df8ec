import Derived.Test.YtglhmhpaoebifaaCD
namespace Go.Proofs.Ytglhmhpaoebifaa
set_option linter.unusedVariables false
set_option linter.unusedSimpArgs false
open Go.RowKit
attribute [local simp] isCut_nil isCut_region isCut_seq isCut_block isCut_loop isCut_cond isCut_skip isCut_exit isCut_ret isCut_range swapK putK altK condK_bool pickP_bool stepP stepO onPure_some onPure_none onImpl_some onImpl_none stepC onGP_some onGP_none onGV_some condG mkG onIt_it nextP_ptr takeP_eq takeV_some takeN_none takeN_some takeG_some takeO_some altO_some pureV binV2 eqF eqOp ovlV ovl2 rowAt capV binV intBin strBin isSh shV fldV ixV sliceV slice3V loadAV nilV lenV callV unV convV viewS cellsH loadV fldCut AV.ung AV.ungs AV.gc AV.cells AS.ev AS.put anyS gcsV lens lnO gV guardV retK RetP_eq resV oneV anyRo loIx hiIx implO callP_clo evL gcsL clearV storeAV AS.push AS.setO appV appZ shortS copyV buildV partsV fillV srcV fzO okV isCell_c isCell_ptr isCell_sl isCell_fs isCell_fp isCell_clo rowZ_one rowZ_zero rowZ_2 rowZ_3 rowZ_4 rowZ_5 rowZ_6 rowZ_7 rowZ_8 rowZ_9 rowZ_10 rowZ_11 rowZ_12 noHo Value.oneCell' max2V min2V afterH putBack frzFrom frzO rebO backIx nilEq_sl nilEq_fs nilOp_eql nilOp_neq AV.reb AV.rebL
attribute [local simp ↓] runK_skip runK_region runK_draw runK_seq runK_cut runK_cond runK_block runK_loop runK_exit runK_label runK_goto runK_ret runK_range contK_nil contK_seq contK_seq_ret contK_seq_exit contK_seq_goto contK_block contK_block_ret contK_block_goto contK_block_exit runO_nil runO_cons roundK_exit roundK_ret roundK_goto exitK_ret cutK_ret cutK_exit runE_done runE_nil runE_take runE_alt condG_true condG_false
set_option maxRecDepth 10000
/-! ## In order? -/
set_option maxHeartbeats 4000000 in
theorem isSorted_lease (l : List LeaseS) (hl : l.length ≤ 1000000) (R : Bool) (hR : R = true ↔ ∀ (i : Nat) (h0 : 0 < i) (hi : i < l.length), l[i - 1].s ≤ l[i].s) : ACalls Try.prog 51 [.fs 3 l.length (leasesA l), cloBy] [] (fun _ => false) (fun r h' => r = .c (.bool R) ∧ h' = []) := by
  refine acalls mixed Try.func51 rfl Try.ntmps51 rfl fun E hE hst hho => ?_
  have ew0 : IntKind.i64.wrap ((l.length : Int) - 1) = (l.length : Int) - 1 := IntWalk.i64_in _ (by omega)
  simp (maxSteps := 1000000) [cloBy, hho, noHo, ew0, -List.reduceReplicate]
  refine loop_k mixed (fun j : Nat => ⟨slotsOf 25 [(0, .fs 3 l.length (leasesA l)), (1, cloBy), (5, .c (.int .i64 ((l.length : Int) - 1 - (j : Nat))))], []⟩) (fun j => l.length - j) (fun j => j ≤ l.length ∧ ∀ (i : Nat) (h0 : 0 < i) (hi : i < l.length), l.length - 1 - j < i → l[i - 1].s ≤ l[i].s) 0 ⟨Nat.zero_le _, fun i h0 hi h => by omega⟩ ?_ ?_
  · exact wk_eq (by simp [hE, lens]) (by simp) (by simp [livH, livO, AV.livL, AV.liv, wkL, wkV, List.range', slotsOf, cloBy])
  · rintro j ⟨hj, hI⟩
    by_cases hjl : j + 1 < l.length
    · obtain ⟨i, hi⟩ : ∃ i, i = l.length - 1 - j := ⟨_, rfl⟩
      have e1 : (l.length : Int) - 1 - (j : Nat) = (i : Nat) := by omega
      have hil : i < l.length := by omega
      have hi0 : 0 < i := by omega
      have e2 : ((i : Nat) : Int) - 1 = ((i - 1 : Nat) : Int) := by omega
      have ew1 : IntKind.i64.wrap (((i - 1 : Nat) : Int)) = ((i - 1 : Nat) : Int) := IntWalk.i64_in _ (by omega)
      have hat1 := leasesA_at l i hil
      have hat2 := leasesA_at l (i - 1) (by omega)
      have el1 : i * 3 + 3 ≤ l.length * 3 := by omega
      have el2 : (i - 1) * 3 + 3 ≤ l.length * 3 := by omega
      have hi1 : i - 1 < l.length := by omega
      obtain ⟨x, hx⟩ : ∃ x, x = l[i] := ⟨_, rfl⟩
      obtain ⟨y, hy⟩ : ∃ y, y = l[i - 1] := ⟨_, rfl⟩
      rw [← hx] at hat1
      rw [← hy] at hat2
      rw [e1]
      simp (maxSteps := 1000000) [slotsOf, cloBy, hho, hi0, -List.reduceReplicate]
      refine draw_k hho (.take 0 (.take 1 (.take 2 (.take 3 (.take 4 (.take 5 (.take 6 (.take 7 (.take 8 (.take 9 (.alt 10 (.take 11 (.done)) (.nil)))))))))))) [] [] (by decide +kernel) (by simp) ?_
      simp (maxSteps := 1000000) [hho, e2, ew1, hil, hi1, hat1, hat2, el1, el2, roOf, holdOf, wrOf, altK, heldOk, Region.binds, -List.reduceReplicate]
      intro E1
      refine call_plain (fun _ => false) (bySession_lease x y) (ha := by rfl) (by simp) ?_
      rintro r h' ⟨rfl, rfl⟩
      refine ⟨rfl, ?_⟩
      by_cases hxy : x.s < y.s
      · have hc : cmpI x.s y.s < 0 := (cmpI_neg _ _).2 hxy
        have hF : R = false := by
          cases R with
          | false => rfl
          | true =>
            have := hR.1 rfl i hi0 hil
            rw [← hx, ← hy] at this
            omega
        simp (maxSteps := 1000000) [hho, hc, roOf, holdOf, wrOf, altK, heldOk, Region.binds, -List.reduceReplicate]
        rw [hF]
        intros
        exact Ret.same ⟨rfl, rfl⟩
      · have hc : ¬ cmpI x.s y.s < 0 := fun h => hxy ((cmpI_neg _ _).1 h)
        simp (maxSteps := 1000000) [hho, hc, e2, ew1, roOf, holdOf, wrOf, altK, heldOk, Region.binds, -List.reduceReplicate]
        intros
        refine round_next (j + 1) ⟨by omega, fun k h0 hk h => ?_⟩ (by omega) ?_
        · by_cases e : k = i
          · subst e; rw [← hx, ← hy]; omega
          · exact hI k h0 hk (by omega)
        · exact wk_eq (by simp [hE, lens]) (by simp) (by simp [livH, livO, AV.livL, AV.liv, wkL, wkV, List.range', slotsOf, cloBy]; omega)
    · have e1 : ¬ (j : Int) < (l.length : Int) - 1 := by omega
      have hT : R = true := hR.2 fun i h0 hi => hI i h0 hi (by omega)
      simp (maxSteps := 1000000) [slotsOf, hho, e1, -List.reduceReplicate]
      rw [hT]
      exact Ret.same ⟨rfl, rfl⟩
end Go.Proofs.Ytglhmhpaoebifaa
