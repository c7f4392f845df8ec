import Derived.Test.YtlepkpfbejfpiaaDoorYB
namespace Go.Proofs.YtlepkpfbejfpiaaDoor
set_option linter.unusedVariables false
set_option linter.unusedSimpArgs false
open Go.RowKit
attribute [local simp] isCut_nil isCut_region isCut_seq isCut_block isCut_loop isCut_cond isCut_skip isCut_exit isCut_ret isCut_range swapK putK altK condK_bool pickP_bool stepP stepO onPure_some onPure_none onImpl_some onImpl_none stepC onGP_some onGP_none onGV_some condG mkG onIt_it nextP_ptr takeP_eq takeV_some takeV_none takeU_some takeU_none takeQ takeW_some takeN_none takeN_some takeG_some takeO_some altO_some pureV binV2 eqF eqOp ovlV ovl2 rowAt capV binV intBin strBin isSh shV fldV ixV sliceV slice3V loadAV nilV lenV callV unV convV viewS cellsH loadV fldCut AV.ung AV.ungs AV.gc AV.cells AS.ev AS.put anyS gcsV lens lnO gV guardV retK RetP_eq resV oneV anyRo loIx hiIx implO callP_clo evL gcsL clearV storeAV AS.push AS.setO appV appZ shortS copyV buildV partsV fillV srcV fzO okV isCell_c isCell_ptr isCell_sl isCell_fs isCell_fp isCell_clo rowZ_one rowZ_zero rowZ_2 rowZ_3 rowZ_4 rowZ_5 rowZ_6 rowZ_7 rowZ_8 rowZ_9 rowZ_10 rowZ_11 rowZ_12 noHo Value.oneCell' max2V min2V afterH putBack frzFrom frzO rebO backIx nilEq_sl nilEq_fs nilOp_eql nilOp_neq AV.reb AV.rebL
attribute [local simp ↓] runK_skip runK_region runK_draw runK_seq runK_cut runK_cond runK_block runK_loop runK_exit runK_label runK_goto runK_ret runK_range contK_nil contK_seq contK_seq_ret contK_seq_exit contK_seq_goto contK_block contK_block_ret contK_block_goto contK_block_exit runO_nil runO_cons roundK_exit roundK_ret roundK_goto exitK_ret cutK_ret cutK_exit runE_done runE_nil runE_take runE_alt condG_true condG_false
set_option maxRecDepth 10000
/-! ## EqualFunc -/
set_option maxHeartbeats 8000000 in
theorem ef_expr (l m : List (ExprS)) (p : ExprS → ExprS → Bool) (g : FuncId) (hg : callable Tryd.prog g = true) (hl : l.length ≤ 5864062014805) (hc : ∀ x ∈ l, ∀ y ∈ m, ACalls Tryd.prog g [.agg (exprA x), .agg (exprA y)] [] (fun _ => false) (fun r h' => r = .c (.bool (p x y)) ∧ h' = [])) : ACalls Tryd.prog 66 [.fs 13 l.length (exprsA l), .fs 13 m.length (exprsA m), .clo (.func g) [] []] [] (fun _ => false) (fun r h' => r = .c (.bool (eqL p l m)) ∧ h' = []) := by
  refine acalls mixed Tryd.func66 rfl Tryd.ntmps66 rfl fun E hE hst hho => ?_
  by_cases hlen : l.length = m.length
  · have hlenI : (l.length : Int) = m.length := by omega
    simp (maxSteps := 1000000) [hho, noHo, hlen, -List.reduceReplicate]
    refine loop_k mixed (fun j : Nat => ⟨slotsOf 32 [(0, .fs 13 l.length (exprsA l)), (1, .fs 13 m.length (exprsA m)), (2, .clo (.func g) [] []), (15, .fs 13 l.length (exprsA l)), (16, .c (.int .i64 l.length)), (17, .c (.int .i64 (j : Nat)))], []⟩) (fun j => l.length - j) (fun j => j ≤ l.length ∧ ∀ k (h1 : k < l.length) (h2 : k < m.length), k < j → p l[k] m[k] = true) 0 ⟨Nat.zero_le _, fun k _ _ h => by omega⟩ ?_ ?_
    · exact wk_eq (by simp [hE, lens]) (by simp) (by simp [livH, livO, AV.livL, AV.liv, wkL, wkV, List.range', slotsOf, hlen])
    · rintro j ⟨hj, hI⟩
      by_cases hjl : j < l.length
      · have hjm : j < m.length := by omega
        have h1 := exprsA_at l j hjl
        have h2 := exprsA_at m j hjm
        have ew : IntKind.i64.wrap ((j : Int) + 1) = (j + 1 : Nat) := by rw [IntWalk.i64_in _ (by omega)]; rfl
        have e1 : j * 13 + 13 ≤ l.length * 13 := by omega
        have e2 : j * 13 + 13 ≤ m.length * 13 := by omega
        have hx := hc l[j] (List.getElem_mem hjl) m[j] (List.getElem_mem hjm)
        have hp0 := @eqL_false _ p l m j hjl hjm
        have hI1 : p l[j] m[j] = true → ∀ k (h1 : k < l.length) (h2 : k < m.length), k < j + 1 → p l[k] m[k] = true := fun h k hk hk2 hkj => by
          by_cases e : k = j
          · subst e; exact h
          · exact hI k hk hk2 (by omega)
        obtain ⟨x, hxe⟩ : ∃ x, x = l[j] := ⟨_, rfl⟩
        obtain ⟨y, hye⟩ : ∃ y, y = m[j] := ⟨_, rfl⟩
        rw [← hxe, ← hye] at hx hp0 hI1
        rw [← hxe] at h1
        rw [← hye] at h2
        cases hp : p x y with
        | true =>
          rw [hp] at hx
          simp (maxSteps := 1000000) [slotsOf, hho, noHo, hjl, hjm, h1, h2, e1, e2, hg, exprA, -List.reduceReplicate]
          refine call_x [] hx rfl rfl ⟨rfl, rfl⟩ hho (by simp) (by decide) (by simp) (by simp) ?_
          simp (maxSteps := 1000000) [hho, noHo, ew, -List.reduceReplicate]
          refine round_next (j + 1) ⟨by omega, hI1 hp⟩ (by omega) ?_
          exact wk_of 0 2 (by simp) (by simp [hE, lens]) (by simp) (by simp [livH, livO, AV.livL, AV.liv, wkL, wkV, List.range']) (by simp [livH, livO, AV.livL, AV.liv, wkL, wkV, List.range', slotsOf])
        | false =>
          rw [hp] at hx
          simp (maxSteps := 1000000) [slotsOf, hho, noHo, hjl, hjm, h1, h2, e1, e2, hg, exprA, -List.reduceReplicate]
          refine call_x [] hx rfl rfl ⟨rfl, rfl⟩ hho (by simp) (by decide) (by simp) (by simp) ?_
          simp (maxSteps := 1000000) [hho, noHo, ew, -List.reduceReplicate]
          exact Ret.drop (by rfl) ⟨by rw [hp0 hp], rfl⟩
      · obtain rfl : j = l.length := by omega
        simp (maxSteps := 1000000) [slotsOf, hho, noHo, -List.reduceReplicate]
        exact Ret.same ⟨by rw [eqL_true hlen fun k h1 h2 => hI k h1 h2 h1], rfl⟩
  · have hlenI : ¬ (l.length : Int) = m.length := by omega
    simp (maxSteps := 1000000) [hho, noHo, hlen, hlenI, -List.reduceReplicate]
    exact Ret.same ⟨by rw [eqL_len hlen], rfl⟩
set_option maxHeartbeats 8000000 in
theorem ef_set (l m : List (SetS)) (p : SetS → SetS → Bool) (g : FuncId) (hg : callable Tryd.prog g = true) (hl : l.length ≤ 5864062014805) (hc : ∀ x ∈ l, ∀ y ∈ m, ACalls Tryd.prog g [.agg (setA x), .agg (setA y)] [] (fun _ => false) (fun r h' => r = .c (.bool (p x y)) ∧ h' = [])) : ACalls Tryd.prog 40 [.fs 14 l.length (setsA l), .fs 14 m.length (setsA m), .clo (.func g) [] []] [] (fun _ => false) (fun r h' => r = .c (.bool (eqL p l m)) ∧ h' = []) := by
  refine acalls mixed Tryd.func40 rfl Tryd.ntmps40 rfl fun E hE hst hho => ?_
  by_cases hlen : l.length = m.length
  · have hlenI : (l.length : Int) = m.length := by omega
    simp (maxSteps := 1000000) [hho, noHo, hlen, -List.reduceReplicate]
    refine loop_k mixed (fun j : Nat => ⟨slotsOf 32 [(0, .fs 14 l.length (setsA l)), (1, .fs 14 m.length (setsA m)), (2, .clo (.func g) [] []), (15, .fs 14 l.length (setsA l)), (16, .c (.int .i64 l.length)), (17, .c (.int .i64 (j : Nat)))], []⟩) (fun j => l.length - j) (fun j => j ≤ l.length ∧ ∀ k (h1 : k < l.length) (h2 : k < m.length), k < j → p l[k] m[k] = true) 0 ⟨Nat.zero_le _, fun k _ _ h => by omega⟩ ?_ ?_
    · exact wk_eq (by simp [hE, lens]) (by simp) (by simp [livH, livO, AV.livL, AV.liv, wkL, wkV, List.range', slotsOf, hlen])
    · rintro j ⟨hj, hI⟩
      by_cases hjl : j < l.length
      · have hjm : j < m.length := by omega
        have h1 := setsA_at l j hjl
        have h2 := setsA_at m j hjm
        have ew : IntKind.i64.wrap ((j : Int) + 1) = (j + 1 : Nat) := by rw [IntWalk.i64_in _ (by omega)]; rfl
        have e1 : j * 14 + 14 ≤ l.length * 14 := by omega
        have e2 : j * 14 + 14 ≤ m.length * 14 := by omega
        have hx := hc l[j] (List.getElem_mem hjl) m[j] (List.getElem_mem hjm)
        have hp0 := @eqL_false _ p l m j hjl hjm
        have hI1 : p l[j] m[j] = true → ∀ k (h1 : k < l.length) (h2 : k < m.length), k < j + 1 → p l[k] m[k] = true := fun h k hk hk2 hkj => by
          by_cases e : k = j
          · subst e; exact h
          · exact hI k hk hk2 (by omega)
        obtain ⟨x, hxe⟩ : ∃ x, x = l[j] := ⟨_, rfl⟩
        obtain ⟨y, hye⟩ : ∃ y, y = m[j] := ⟨_, rfl⟩
        rw [← hxe, ← hye] at hx hp0 hI1
        rw [← hxe] at h1
        rw [← hye] at h2
        cases hp : p x y with
        | true =>
          rw [hp] at hx
          simp (maxSteps := 1000000) [slotsOf, hho, noHo, hjl, hjm, h1, h2, e1, e2, hg, setA, exprA, -List.reduceReplicate]
          refine call_x [] hx rfl rfl ⟨rfl, rfl⟩ hho (by simp) (by decide) (by simp) (by simp) ?_
          simp (maxSteps := 1000000) [hho, noHo, ew, -List.reduceReplicate]
          refine round_next (j + 1) ⟨by omega, hI1 hp⟩ (by omega) ?_
          exact wk_of 0 2 (by simp) (by simp [hE, lens]) (by simp) (by simp [livH, livO, AV.livL, AV.liv, wkL, wkV, List.range']) (by simp [livH, livO, AV.livL, AV.liv, wkL, wkV, List.range', slotsOf])
        | false =>
          rw [hp] at hx
          simp (maxSteps := 1000000) [slotsOf, hho, noHo, hjl, hjm, h1, h2, e1, e2, hg, setA, exprA, -List.reduceReplicate]
          refine call_x [] hx rfl rfl ⟨rfl, rfl⟩ hho (by simp) (by decide) (by simp) (by simp) ?_
          simp (maxSteps := 1000000) [hho, noHo, ew, -List.reduceReplicate]
          exact Ret.drop (by rfl) ⟨by rw [hp0 hp], rfl⟩
      · obtain rfl : j = l.length := by omega
        simp (maxSteps := 1000000) [slotsOf, hho, noHo, -List.reduceReplicate]
        exact Ret.same ⟨by rw [eqL_true hlen fun k h1 h2 => hI k h1 h2 h1], rfl⟩
  · have hlenI : ¬ (l.length : Int) = m.length := by omega
    simp (maxSteps := 1000000) [hho, noHo, hlen, hlenI, -List.reduceReplicate]
    exact Ret.same ⟨by rw [eqL_len hlen], rfl⟩
set_option maxHeartbeats 8000000 in
theorem ef_item (l m : List (ItemS)) (p : ItemS → ItemS → Bool) (g : FuncId) (hg : callable Tryd.prog g = true) (hl : l.length ≤ 5864062014805) (hc : ∀ x ∈ l, ∀ y ∈ m, ACalls Tryd.prog g [.agg (itemA x), .agg (itemA y)] [] (fun _ => false) (fun r h' => r = .c (.bool (p x y)) ∧ h' = [])) : ACalls Tryd.prog 43 [.fs 14 l.length (itemsA l), .fs 14 m.length (itemsA m), .clo (.func g) [] []] [] (fun _ => false) (fun r h' => r = .c (.bool (eqL p l m)) ∧ h' = []) := by
  refine acalls mixed Tryd.func43 rfl Tryd.ntmps43 rfl fun E hE hst hho => ?_
  by_cases hlen : l.length = m.length
  · have hlenI : (l.length : Int) = m.length := by omega
    simp (maxSteps := 1000000) [hho, noHo, hlen, -List.reduceReplicate]
    refine loop_k mixed (fun j : Nat => ⟨slotsOf 32 [(0, .fs 14 l.length (itemsA l)), (1, .fs 14 m.length (itemsA m)), (2, .clo (.func g) [] []), (15, .fs 14 l.length (itemsA l)), (16, .c (.int .i64 l.length)), (17, .c (.int .i64 (j : Nat)))], []⟩) (fun j => l.length - j) (fun j => j ≤ l.length ∧ ∀ k (h1 : k < l.length) (h2 : k < m.length), k < j → p l[k] m[k] = true) 0 ⟨Nat.zero_le _, fun k _ _ h => by omega⟩ ?_ ?_
    · exact wk_eq (by simp [hE, lens]) (by simp) (by simp [livH, livO, AV.livL, AV.liv, wkL, wkV, List.range', slotsOf, hlen])
    · rintro j ⟨hj, hI⟩
      by_cases hjl : j < l.length
      · have hjm : j < m.length := by omega
        have h1 := itemsA_at l j hjl
        have h2 := itemsA_at m j hjm
        have ew : IntKind.i64.wrap ((j : Int) + 1) = (j + 1 : Nat) := by rw [IntWalk.i64_in _ (by omega)]; rfl
        have e1 : j * 14 + 14 ≤ l.length * 14 := by omega
        have e2 : j * 14 + 14 ≤ m.length * 14 := by omega
        have hx := hc l[j] (List.getElem_mem hjl) m[j] (List.getElem_mem hjm)
        have hp0 := @eqL_false _ p l m j hjl hjm
        have hI1 : p l[j] m[j] = true → ∀ k (h1 : k < l.length) (h2 : k < m.length), k < j + 1 → p l[k] m[k] = true := fun h k hk hk2 hkj => by
          by_cases e : k = j
          · subst e; exact h
          · exact hI k hk hk2 (by omega)
        obtain ⟨x, hxe⟩ : ∃ x, x = l[j] := ⟨_, rfl⟩
        obtain ⟨y, hye⟩ : ∃ y, y = m[j] := ⟨_, rfl⟩
        rw [← hxe, ← hye] at hx hp0 hI1
        rw [← hxe] at h1
        rw [← hye] at h2
        cases hp : p x y with
        | true =>
          rw [hp] at hx
          simp (maxSteps := 1000000) [slotsOf, hho, noHo, hjl, hjm, h1, h2, e1, e2, hg, itemA, exprA, -List.reduceReplicate]
          refine call_x [] hx rfl rfl ⟨rfl, rfl⟩ hho (by simp) (by decide) (by simp) (by simp) ?_
          simp (maxSteps := 1000000) [hho, noHo, ew, -List.reduceReplicate]
          refine round_next (j + 1) ⟨by omega, hI1 hp⟩ (by omega) ?_
          exact wk_of 0 2 (by simp) (by simp [hE, lens]) (by simp) (by simp [livH, livO, AV.livL, AV.liv, wkL, wkV, List.range']) (by simp [livH, livO, AV.livL, AV.liv, wkL, wkV, List.range', slotsOf])
        | false =>
          rw [hp] at hx
          simp (maxSteps := 1000000) [slotsOf, hho, noHo, hjl, hjm, h1, h2, e1, e2, hg, itemA, exprA, -List.reduceReplicate]
          refine call_x [] hx rfl rfl ⟨rfl, rfl⟩ hho (by simp) (by decide) (by simp) (by simp) ?_
          simp (maxSteps := 1000000) [hho, noHo, ew, -List.reduceReplicate]
          exact Ret.drop (by rfl) ⟨by rw [hp0 hp], rfl⟩
      · obtain rfl : j = l.length := by omega
        simp (maxSteps := 1000000) [slotsOf, hho, noHo, -List.reduceReplicate]
        exact Ret.same ⟨by rw [eqL_true hlen fun k h1 h2 => hI k h1 h2 h1], rfl⟩
  · have hlenI : ¬ (l.length : Int) = m.length := by omega
    simp (maxSteps := 1000000) [hho, noHo, hlen, hlenI, -List.reduceReplicate]
    exact Ret.same ⟨by rw [eqL_len hlen], rfl⟩
set_option maxHeartbeats 8000000 in
theorem ef_ord (l m : List (OrdS)) (p : OrdS → OrdS → Bool) (g : FuncId) (hg : callable Tryd.prog g = true) (hl : l.length ≤ 5864062014805) (hc : ∀ x ∈ l, ∀ y ∈ m, ACalls Tryd.prog g [.agg (ordA x), .agg (ordA y)] [] (fun _ => false) (fun r h' => r = .c (.bool (p x y)) ∧ h' = [])) : ACalls Tryd.prog 45 [.fs 14 l.length (ordsA l), .fs 14 m.length (ordsA m), .clo (.func g) [] []] [] (fun _ => false) (fun r h' => r = .c (.bool (eqL p l m)) ∧ h' = []) := by
  refine acalls mixed Tryd.func45 rfl Tryd.ntmps45 rfl fun E hE hst hho => ?_
  by_cases hlen : l.length = m.length
  · have hlenI : (l.length : Int) = m.length := by omega
    simp (maxSteps := 1000000) [hho, noHo, hlen, -List.reduceReplicate]
    refine loop_k mixed (fun j : Nat => ⟨slotsOf 32 [(0, .fs 14 l.length (ordsA l)), (1, .fs 14 m.length (ordsA m)), (2, .clo (.func g) [] []), (15, .fs 14 l.length (ordsA l)), (16, .c (.int .i64 l.length)), (17, .c (.int .i64 (j : Nat)))], []⟩) (fun j => l.length - j) (fun j => j ≤ l.length ∧ ∀ k (h1 : k < l.length) (h2 : k < m.length), k < j → p l[k] m[k] = true) 0 ⟨Nat.zero_le _, fun k _ _ h => by omega⟩ ?_ ?_
    · exact wk_eq (by simp [hE, lens]) (by simp) (by simp [livH, livO, AV.livL, AV.liv, wkL, wkV, List.range', slotsOf, hlen])
    · rintro j ⟨hj, hI⟩
      by_cases hjl : j < l.length
      · have hjm : j < m.length := by omega
        have h1 := ordsA_at l j hjl
        have h2 := ordsA_at m j hjm
        have ew : IntKind.i64.wrap ((j : Int) + 1) = (j + 1 : Nat) := by rw [IntWalk.i64_in _ (by omega)]; rfl
        have e1 : j * 14 + 14 ≤ l.length * 14 := by omega
        have e2 : j * 14 + 14 ≤ m.length * 14 := by omega
        have hx := hc l[j] (List.getElem_mem hjl) m[j] (List.getElem_mem hjm)
        have hp0 := @eqL_false _ p l m j hjl hjm
        have hI1 : p l[j] m[j] = true → ∀ k (h1 : k < l.length) (h2 : k < m.length), k < j + 1 → p l[k] m[k] = true := fun h k hk hk2 hkj => by
          by_cases e : k = j
          · subst e; exact h
          · exact hI k hk hk2 (by omega)
        obtain ⟨x, hxe⟩ : ∃ x, x = l[j] := ⟨_, rfl⟩
        obtain ⟨y, hye⟩ : ∃ y, y = m[j] := ⟨_, rfl⟩
        rw [← hxe, ← hye] at hx hp0 hI1
        rw [← hxe] at h1
        rw [← hye] at h2
        cases hp : p x y with
        | true =>
          rw [hp] at hx
          simp (maxSteps := 1000000) [slotsOf, hho, noHo, hjl, hjm, h1, h2, e1, e2, hg, ordA, exprA, -List.reduceReplicate]
          refine call_x [] hx rfl rfl ⟨rfl, rfl⟩ hho (by simp) (by decide) (by simp) (by simp) ?_
          simp (maxSteps := 1000000) [hho, noHo, ew, -List.reduceReplicate]
          refine round_next (j + 1) ⟨by omega, hI1 hp⟩ (by omega) ?_
          exact wk_of 0 2 (by simp) (by simp [hE, lens]) (by simp) (by simp [livH, livO, AV.livL, AV.liv, wkL, wkV, List.range']) (by simp [livH, livO, AV.livL, AV.liv, wkL, wkV, List.range', slotsOf])
        | false =>
          rw [hp] at hx
          simp (maxSteps := 1000000) [slotsOf, hho, noHo, hjl, hjm, h1, h2, e1, e2, hg, ordA, exprA, -List.reduceReplicate]
          refine call_x [] hx rfl rfl ⟨rfl, rfl⟩ hho (by simp) (by decide) (by simp) (by simp) ?_
          simp (maxSteps := 1000000) [hho, noHo, ew, -List.reduceReplicate]
          exact Ret.drop (by rfl) ⟨by rw [hp0 hp], rfl⟩
      · obtain rfl : j = l.length := by omega
        simp (maxSteps := 1000000) [slotsOf, hho, noHo, -List.reduceReplicate]
        exact Ret.same ⟨by rw [eqL_true hlen fun k h1 h2 => hI k h1 h2 h1], rfl⟩
  · have hlenI : ¬ (l.length : Int) = m.length := by omega
    simp (maxSteps := 1000000) [hho, noHo, hlen, hlenI, -List.reduceReplicate]
    exact Ret.same ⟨by rw [eqL_len hlen], rfl⟩
set_option maxHeartbeats 8000000 in
theorem ef_erow (l m : List (List ExprS)) (p : List ExprS → List ExprS → Bool) (g : FuncId) (hg : callable Tryd.prog g = true) (hl : l.length ≤ 5864062014805) (hc : ∀ x ∈ l, ∀ y ∈ m, ACalls Tryd.prog g [.fs 13 (x).length (exprsA x), .fs 13 (y).length (exprsA y)] [] (fun _ => false) (fun r h' => r = .c (.bool (p x y)) ∧ h' = [])) : ACalls Tryd.prog 38 [.fs 1 l.length (erowsA l), .fs 1 m.length (erowsA m), .clo (.func g) [] []] [] (fun _ => false) (fun r h' => r = .c (.bool (eqL p l m)) ∧ h' = []) := by
  refine acalls mixed Tryd.func38 rfl Tryd.ntmps38 rfl fun E hE hst hho => ?_
  by_cases hlen : l.length = m.length
  · have hlenI : (l.length : Int) = m.length := by omega
    simp (maxSteps := 1000000) [hho, noHo, hlen, -List.reduceReplicate]
    refine loop_k mixed (fun j : Nat => ⟨slotsOf 32 [(0, .fs 1 l.length (erowsA l)), (1, .fs 1 m.length (erowsA m)), (2, .clo (.func g) [] []), (15, .fs 1 l.length (erowsA l)), (16, .c (.int .i64 l.length)), (17, .c (.int .i64 (j : Nat)))], []⟩) (fun j => l.length - j) (fun j => j ≤ l.length ∧ ∀ k (h1 : k < l.length) (h2 : k < m.length), k < j → p l[k] m[k] = true) 0 ⟨Nat.zero_le _, fun k _ _ h => by omega⟩ ?_ ?_
    · exact wk_eq (by simp [hE, lens]) (by simp) (by simp [livH, livO, AV.livL, AV.liv, wkL, wkV, List.range', slotsOf, hlen])
    · rintro j ⟨hj, hI⟩
      by_cases hjl : j < l.length
      · have hjm : j < m.length := by omega
        have h1 := erowsA_at l j hjl
        have h2 := erowsA_at m j hjm
        have ew : IntKind.i64.wrap ((j : Int) + 1) = (j + 1 : Nat) := by rw [IntWalk.i64_in _ (by omega)]; rfl
        have e1 : j * 1 + 1 ≤ l.length * 1 := by omega
        have e2 : j * 1 + 1 ≤ m.length * 1 := by omega
        have hx := hc l[j] (List.getElem_mem hjl) m[j] (List.getElem_mem hjm)
        have hp0 := @eqL_false _ p l m j hjl hjm
        have hI1 : p l[j] m[j] = true → ∀ k (h1 : k < l.length) (h2 : k < m.length), k < j + 1 → p l[k] m[k] = true := fun h k hk hk2 hkj => by
          by_cases e : k = j
          · subst e; exact h
          · exact hI k hk hk2 (by omega)
        obtain ⟨x, hxe⟩ : ∃ x, x = l[j] := ⟨_, rfl⟩
        obtain ⟨y, hye⟩ : ∃ y, y = m[j] := ⟨_, rfl⟩
        rw [← hxe, ← hye] at hx hp0 hI1
        rw [← hxe] at h1
        rw [← hye] at h2
        have g1 : (erowsA l)[j]'(by simp; omega) = .fs 13 (x).length (exprsA x) := by
          have h0 : (erowsA l).drop j = (erowsA l)[j]'(by simp; omega) :: (erowsA l).drop (j + 1) := List.drop_eq_getElem_cons _
          rw [Nat.mul_one, h0, List.take_succ_cons, List.take_zero] at h1
          exact (List.cons.inj h1).1
        have g2 : (erowsA m)[j]'(by simp; omega) = .fs 13 (y).length (exprsA y) := by
          have h0 : (erowsA m).drop j = (erowsA m)[j]'(by simp; omega) :: (erowsA m).drop (j + 1) := List.drop_eq_getElem_cons _
          rw [Nat.mul_one, h0, List.take_succ_cons, List.take_zero] at h2
          exact (List.cons.inj h2).1
        cases hp : p x y with
        | true =>
          rw [hp] at hx
          simp (maxSteps := 1000000) [slotsOf, hho, noHo, hjl, hjm, h1, h2, e1, e2, hg, g1, g2, -List.reduceReplicate]
          refine ⟨by omega, by omega, ?_⟩
          refine call_x [] hx rfl rfl ⟨rfl, rfl⟩ hho (by simp) (by decide) (by simp) (by simp) ?_
          simp (maxSteps := 1000000) [hho, noHo, ew, -List.reduceReplicate]
          refine round_next (j + 1) ⟨by omega, hI1 hp⟩ (by omega) ?_
          exact wk_eq (by simp [hE, lens]) (by simp) (by simp [livH, livO, AV.livL, AV.liv, wkL, wkV, List.range', slotsOf])
        | false =>
          rw [hp] at hx
          simp (maxSteps := 1000000) [slotsOf, hho, noHo, hjl, hjm, h1, h2, e1, e2, hg, g1, g2, -List.reduceReplicate]
          refine ⟨by omega, by omega, ?_⟩
          refine call_x [] hx rfl rfl ⟨rfl, rfl⟩ hho (by simp) (by decide) (by simp) (by simp) ?_
          simp (maxSteps := 1000000) [hho, noHo, ew, -List.reduceReplicate]
          exact Ret.same ⟨by rw [hp0 hp], rfl⟩
      · obtain rfl : j = l.length := by omega
        simp (maxSteps := 1000000) [slotsOf, hho, noHo, -List.reduceReplicate]
        exact Ret.same ⟨by rw [eqL_true hlen fun k h1 h2 => hI k h1 h2 h1], rfl⟩
  · have hlenI : ¬ (l.length : Int) = m.length := by omega
    simp (maxSteps := 1000000) [hho, noHo, hlen, hlenI, -List.reduceReplicate]
    exact Ret.same ⟨by rw [eqL_len hlen], rfl⟩
end Go.Proofs.YtlepkpfbejfpiaaDoor
