import Derived.Test.YtglhmhpaoebifaaBE
import Derived.Test.YtglhmhpaoebifaaBF
namespace Go.Proofs.Ytglhmhpaoebifaa
set_option linter.unusedVariables false
set_option linter.unusedSimpArgs false
open Go.RowKit
attribute [local simp] isCut_nil isCut_region isCut_seq isCut_block isCut_loop isCut_cond isCut_skip isCut_exit isCut_ret isCut_range swapK putK altK condK_bool pickP_bool stepP stepO onPure_some onPure_none onImpl_some onImpl_none stepC onGP_some onGP_none onGV_some condG mkG onIt_it nextP_ptr takeP_eq takeV_some takeN_none takeN_some takeG_some takeO_some altO_some pureV binV2 eqF eqOp ovlV ovl2 rowAt capV binV intBin strBin isSh shV fldV ixV sliceV slice3V loadAV nilV lenV callV unV convV viewS cellsH loadV fldCut AV.ung AV.ungs AV.gc AV.cells AS.ev AS.put anyS gcsV lens lnO gV guardV retK RetP_eq resV oneV anyRo loIx hiIx implO callP_clo evL gcsL clearV storeAV AS.push AS.setO appV appZ shortS copyV buildV partsV fillV srcV fzO okV isCell_c isCell_ptr isCell_sl isCell_fs isCell_fp isCell_clo rowZ_one rowZ_zero rowZ_2 rowZ_3 rowZ_4 rowZ_5 rowZ_6 rowZ_7 rowZ_8 rowZ_9 rowZ_10 rowZ_11 rowZ_12 noHo Value.oneCell' max2V min2V afterH putBack frzFrom frzO rebO backIx nilEq_sl nilEq_fs nilOp_eql nilOp_neq AV.reb AV.rebL
attribute [local simp ↓] runK_skip runK_region runK_draw runK_seq runK_cut runK_cond runK_block runK_loop runK_exit runK_label runK_goto runK_ret runK_range contK_nil contK_seq contK_seq_ret contK_seq_exit contK_seq_goto contK_block contK_block_ret contK_block_goto contK_block_exit runO_nil runO_cons roundK_exit roundK_ret roundK_goto exitK_ret cutK_ret cutK_exit runE_done runE_nil runE_take runE_alt condG_true condG_false
set_option maxRecDepth 10000
/-! ## New -/
theorem leasesA_0 (l : List LeaseS) (j : Nat) (hj : j < l.length) : (leasesA l)[j * 3]? = some (.c (.int .i64 l[j].s)) := by
  have h := leasesA_at l j hj
  have h2 : (List.take 3 (List.drop (j * 3) (leasesA l)))[0]? = (leaseA l[j])[0]? := by rw [h]
  rw [List.getElem?_take, if_pos (by decide), List.getElem?_drop, Nat.add_zero] at h2
  exact h2
/-- leases in their order that a book may have -/
def NewOk (d : List LeaseS) : Prop := ∀ i (hi : i < d.length), rightL d[i] = true ∧ ∀ k (hk : k < d.length), i = k + 1 → d[k].s ≠ d[i].s
theorem new_core (l : List LeaseS) (hl : l.length ≤ 5864062014805) (Post : AV → List AObj → Prop) (h1 : NewOk (stabS ltL l) → Post (.tup [.ptr 0 0 1, .c (.int .i64 0)]) (bookO (stabS ltL l))) (h2 : ¬ NewOk (stabS ltL l) → Post (.tup [.c (.pointer none), .c (.int .i64 2)]) []) :
    ACalls Try.prog 8 [.fs 3 l.length (leasesA l)] [] (fun _ => false) Post := by
  refine acalls mixed Try.func8 rfl Try.ntmps8 rfl fun E hE hst hho => ?_
  simp [hho, -List.reduceReplicate]
  refine call_x [] (values_lease l) rfl rfl ⟨rfl, rfl⟩ hho (by simp) (by decide) (by simp) (by simp) ?_
  simp [hho, -List.reduceReplicate]
  refine call_x [0] (sorted_lease l hl) rfl rfl ⟨rfl, rfl⟩ hho (by simp) (by decide) (by simp) (by simp) ?_
  obtain ⟨d, hd⟩ : ∃ d, d = stabS ltL l := ⟨_, rfl⟩
  have hdl : l.length = d.length := by rw [hd]; simp
  rw [← hd] at h1 h2 ⊢
  simp [hho, rowL, -List.reduceReplicate]
  rw [hdl]
  refine ⟨rfl, ?_⟩
  refine loop_k mixed (fun j : Nat => ⟨slotsOf 45 [(4, .ptr 2 0 1), (15, .sl 1 3 0 d.length (d.length * 3)), (16, .c (.int .i64 d.length)), (17, .c (.int .i64 (j : Int)))], [.o .box [.fs 3 d.length (leasesA l)], rowL d, .o .box [.sl 1 3 0 d.length (d.length * 3)]]⟩) (fun j => d.length - j) (fun j => j ≤ d.length ∧ ∀ i (hi : i < d.length), i < j → rightL d[i] = true ∧ ∀ k (hk : k < d.length), i = k + 1 → d[k].s ≠ d[i].s) 0 ⟨Nat.zero_le _, fun i _ h => by omega⟩ ?_ ?_
  · exact wk_eq (by simp [hE, lens]) (by simp [rowL]) (by simp [livH, livO, AV.livL, AV.liv, wkL, wkV, List.range', slotsOf])
  · rintro j ⟨hj, hI⟩
    by_cases hjl : j < d.length
    · have hat := leasesA_at d j hjl
      have h3 : List.take 3 (leaseA d[j]) = leaseA d[j] := rfl
      have ew : IntKind.i64.wrap ((j : Int) + 1) = (j + 1 : Nat) := by rw [IntWalk.i64_in _ (by omega)]; rfl
      have el : j * 3 + 3 ≤ d.length * 3 := by omega
      obtain ⟨x, hx⟩ : ∃ x, x = d[j] := ⟨_, rfl⟩
      rw [← hx] at hat h3
      have hx0 := leasesA_0 d j hjl
      rw [← hx] at hx0
      have hbad : (¬ (rightL x = true ∧ ∀ k (hk : k < d.length), j = k + 1 → d[k].s ≠ x.s)) → ¬ NewOk d := fun h hn => by
        obtain ⟨n1, n2⟩ := hn j hjl
        rw [← hx] at n1 n2
        exact h ⟨n1, n2⟩
      have hgood : (rightL x = true ∧ ∀ k (hk : k < d.length), j = k + 1 → d[k].s ≠ x.s) → ∀ i (hi : i < d.length), i < j + 1 → rightL d[i] = true ∧ ∀ k (hk : k < d.length), i = k + 1 → d[k].s ≠ d[i].s := fun h i hi hij => by
        by_cases e : i = j
        · subst e; rw [← hx]; exact h
        · exact hI i hi (by omega)
      simp (maxSteps := 1000000) [rowL, slotsOf, hho, hjl, hat, h3, el, -List.reduceReplicate]
      refine draw_k hho (.take 0 (.alt 1 (.take 2 (.take 3 (.take 4 (.take 5 (.take 6 (.take 7 (.take 8 (.take 9 (.take 10 (.take 11 (.take 12 (.take 13 (.take 14 (.take 15 (.take 16 (.take 17 (.take 18 (.take 19 (.take 20 (.done)))))))))))))))))))) (.nil))) [1, 2, 3] [] (by decide +kernel) (by simp) ?_
      simp (maxSteps := 1000000) [hho, h3, roOf, holdOf, wrOf, altK, heldOk, Region.binds, -List.reduceReplicate]
      intro E1
      refine call_plain (fun _ => false) (right_lease x) (ha := by rfl) (by simp) ?_
      rintro r h' ⟨rfl, rfl⟩
      refine ⟨rfl, ?_⟩
      obtain ⟨k', hk', hkk, hkj⟩ : ∃ k', (IntKind.i64.wrap ((j : Int) - 1)).toNat = k' ∧ k' < d.length ∧ (0 < j → j = k' + 1 ∧ IntKind.i64.wrap ((j : Int) - 1) = (k' : Nat)) := by
        have e : IntKind.i64.wrap ((j : Int) - 1) = (j : Int) - 1 := IntWalk.i64_in _ (by omega)
        refine ⟨((j : Int) - 1).toNat, by rw [e], by omega, fun _ => ⟨by omega, by rw [e]; omega⟩⟩
      have hz0 := leasesA_0 d k' hkk
      obtain ⟨z, hz⟩ : ∃ z, z = d[k'].s := ⟨_, rfl⟩
      rw [← hz] at hz0
      by_cases hr : rightL x = true
      · by_cases hj0 : 0 < j
        · obtain ⟨rfl, ewk⟩ := hkj hj0
          have hj0i : (0 : Int) < ((k' + 1 : Nat) : Int) := by omega
          have ewk' : IntKind.i64.wrap (k' : Int) = (k' : Nat) := IntWalk.i64_in _ (by omega)
          have hkl : (k' : Int) < d.length := by omega
          have ew2 : IntKind.i64.wrap ((k' : Int) + 1 + 1) = (k' : Int) + 1 + 1 := IntWalk.i64_in _ (by omega)
          by_cases hzx : z = x.s
          · simp (maxSteps := 1000000) [hho, hr, hk', ewk', hkl, hz0, hx0, hzx, ew2, leaseA, roOf, holdOf, wrOf, altK, heldOk, Region.binds, -List.reduceReplicate]
            refine ⟨by omega, ?_⟩
            exact Ret.drop (by rfl) (h2 (hbad fun h => h.2 k' hkk rfl (by rw [← hz]; exact hzx)))
          · simp (maxSteps := 1000000) [hho, hr, hk', ewk', hkl, hz0, hx0, hzx, ew2, leaseA, roOf, holdOf, wrOf, altK, heldOk, Region.binds, -List.reduceReplicate]
            refine ⟨by omega, ?_⟩
            refine round_next (k' + 1 + 1) ⟨by omega, hgood ⟨hr, fun k hk e => by obtain rfl : k = k' := (by omega); rw [← hz]; exact hzx⟩⟩ (by omega) ?_
            exact wk_of 3 1 (by simp) (by simp [hE, lens]) (by simp [rowL]) (by simp [livH, livO, AV.livL, AV.liv, wkL, wkV, List.range', rowL]) (by simp [livH, livO, AV.livL, AV.liv, wkL, wkV, List.range', slotsOf])
        · obtain rfl : j = 0 := by omega
          have em1 : IntKind.i64.wrap (-1) = -1 := by decide
          have e10 : IntKind.i64.wrap 1 = 1 := by decide
          rw [Nat.zero_mul] at hx0
          simp (maxSteps := 1000000) [hho, hr, em1, e10, hx0, leaseA, roOf, holdOf, wrOf, altK, heldOk, Region.binds, -List.reduceReplicate]
          refine round_next 1 ⟨by omega, hgood ⟨hr, fun k hk e => by omega⟩⟩ (by omega) ?_
          exact wk_of 3 1 (by simp) (by simp [hE, lens]) (by simp [rowL]) (by simp [livH, livO, AV.livL, AV.liv, wkL, wkV, List.range', rowL]) (by simp [livH, livO, AV.livL, AV.liv, wkL, wkV, List.range', slotsOf])
      · simp (maxSteps := 1000000) [hho, hr, hk', hz0, hx0, leaseA, roOf, holdOf, wrOf, altK, heldOk, Region.binds, -List.reduceReplicate]
        exact Ret.drop (by rfl) (h2 (hbad fun h => hr h.1))
    · obtain rfl : j = d.length := by omega
      simp (maxSteps := 1000000) [rowL, slotsOf, hho, -List.reduceReplicate]
      refine Ret.sel [2, 1] (fun _ => false) (ho := by rfl) (ha := by rfl) ?_ ?_ (by decide) (by simp) (fun i _ h => by cases h) ?_
      · simp
      · simp
      · simp
        exact h1 fun i hi => hI i hi hi
end Go.Proofs.Ytglhmhpaoebifaa
