import Derived.Test.YtniifindnnfkaaaDoorHR4
import Derived.Test.YtniifindnnfkaaaDoorIx
import Derived.Test.YtniifindnnfkaaaDoorCut
namespace Go.Proofs.YtniifindnnfkaaaDoor
set_option linter.unusedVariables false
set_option linter.unusedSimpArgs false
open Go.RowKit
attribute [local simp] isCut_nil isCut_region isCut_seq isCut_block isCut_loop isCut_cond isCut_skip isCut_exit isCut_ret isCut_range swapK putK altK condK_bool pickP_bool stepP stepO onPure_some onPure_none onImpl_some onImpl_none stepC onGP_some onGP_none onGV_some condG mkG onIt_it nextP_ptr takeP_eq takeV_some takeV_none takeU_some takeU_none takeQ takeW_some takeN_none takeN_some takeG_some takeO_some altO_some pureV binV2 eqF eqOp ovlV ovl2 rowAt capV binV intBin strBin isSh shV fldV ixV sliceV slice3V loadAV nilV lenV callV unV convV viewS cellsH loadV fldCut AV.ung AV.ungs AV.gc AV.cells AS.ev AS.put anyS gcsV lens lnO gV guardV retK RetP_eq resV oneV anyRo loIx hiIx implO callP_clo evL gcsL clearV storeAV AS.push AS.setO appV appZ shortS copyV buildV partsV fillV srcV fzO okV isCell_c isCell_ptr isCell_sl isCell_fs isCell_fp isCell_clo rowZ_one rowZ_zero rowZ_2 rowZ_3 rowZ_4 rowZ_5 rowZ_6 rowZ_7 rowZ_8 rowZ_9 rowZ_10 rowZ_11 rowZ_12 noHo Value.oneCell' max2V min2V lookV updV lenM msAt afterH putBack frzFrom frzO rebO backIx nilEq_sl nilEq_fs nilOp_eql nilOp_neq AV.reb AV.rebL
attribute [local simp ↓] runK_skip runK_region runK_draw runK_seq runK_cut runK_cond runK_block runK_loop runK_exit runK_label runK_goto runK_ret runK_range contK_nil contK_seq contK_seq_ret contK_seq_exit contK_seq_goto contK_block contK_block_ret contK_block_goto contK_block_exit runO_nil runO_cons roundK_exit roundK_ret roundK_goto exitK_ret cutK_ret cutK_exit runE_done runE_nil runE_take runE_alt condG_true condG_false
set_option maxRecDepth 10000
/-! ## slices.IndexFunc with a captured box, over data and over a row that lives; slices.DeleteFunc -/
theorem cellsA_set' (l : List CellS) (j : Nat) (hj : j < l.length) (y : CellS) : List.take (j * 5) (cellsA l) ++ (cellA y ++ List.drop (j * 5 + 5) (cellsA l)) = cellsA (l.set j y) := cellsA_set l j hj y
theorem ifc_cells (l : List CellS) (hl : l.length ≤ 1000000) (p : CellS → Bool) (g : FuncId) (hg : callable Tryd.prog g = true) (v : Value) (hc : ∀ x ∈ l, ACalls Tryd.prog g [.agg (cellA x), .ptr 0 0 1] [.o .box [.c v]] (fun k => decide (k < 1)) (fun r h' => r = .c (.bool (p x)) ∧ h' = [.o .box [.c v]])) : ACalls Tryd.prog 41 [.fs 5 l.length (cellsA l), .clo (.func g) [] [.ptr 0 0 1]] [.o .box [.c v]] (fun k => decide (k < 1)) (fun r h' => r = .c (.int .i64 (ixF p l)) ∧ h' = [.o .box [.c v]]) := by
  refine acalls mixed Tryd.func41 rfl Tryd.ntmps41 rfl fun E hE hst hho => ?_
  simp (maxSteps := 1000000) [hho, noHo, -List.reduceReplicate]
  refine loop_k mixed (fun j : Nat => ⟨slotsOf 19 [(0, .fs 5 l.length (cellsA l)), (1, .clo (.func g) [] [.ptr 0 0 1]), (7, .c (.int .i64 l.length)), (8, .c (.int .i64 (j : Nat)))], [.o .box [.c v]]⟩) (fun j => l.length - j) (fun j => j ≤ l.length ∧ ∀ k (hk : k < l.length), k < j → p l[k] = false) 0 ⟨Nat.zero_le _, fun k _ h => by omega⟩ ?_ ?_
  · exact wk_eq (by simp [hE, lens]) (by simp) (by simp [livH, livO, AV.livL, AV.liv, wkL, wkV, List.range', slotsOf])
  · rintro j ⟨hj, hI⟩
    by_cases hjl : j < l.length
    · have hat := cellsA_at l j hjl
      have ew : IntKind.i64.wrap ((j : Int) + 1) = (j + 1 : Nat) := by rw [IntWalk.i64_in _ (by omega)]; rfl
      have e0 : j * 5 + 5 ≤ l.length * 5 := by omega
      have hx := hc l[j] (List.getElem_mem hjl)
      have hp0 := @ixF_hit _ p l j hjl hI
      have hI1 : p l[j] = false → ∀ k (hk : k < l.length), k < j + 1 → p l[k] = false := fun h k hk hkj => by
        by_cases e : k = j
        · subst e; exact h
        · exact hI k hk (by omega)
      obtain ⟨x, hxe⟩ : ∃ x, x = l[j] := ⟨_, rfl⟩
      rw [← hxe] at hat hx hp0 hI1
      have h5 : List.take 5 (cellA x) = cellA x := rfl
      cases hp : p x with
      | true =>
        rw [hp] at hx
        simp (maxSteps := 1000000) [slotsOf, hho, noHo, hjl, hat, e0, hg, h5, -List.reduceReplicate]
        refine call_x [0] hx rfl rfl ⟨rfl, rfl⟩ hho (by simp) (by decide) (by simp) (by simp) ?_
        simp (maxSteps := 1000000) [hho, noHo, ew, -List.reduceReplicate]
        exact Ret.same ⟨by rw [hp0 hp], rfl⟩
      | false =>
        rw [hp] at hx
        simp (maxSteps := 1000000) [slotsOf, hho, noHo, hjl, hat, e0, hg, h5, -List.reduceReplicate]
        refine call_x [0] hx rfl rfl ⟨rfl, rfl⟩ hho (by simp) (by decide) (by simp) (by simp) ?_
        simp (maxSteps := 1000000) [hho, noHo, ew, -List.reduceReplicate]
        refine round_next (j + 1) ⟨by omega, hI1 hp⟩ (by omega) ?_
        exact wk_eq (by simp [hE, lens]) (by simp) (by simp [livH, livO, AV.livL, AV.liv, wkL, wkV, List.range', slotsOf])
    · obtain rfl : j = l.length := by omega
      simp (maxSteps := 1000000) [slotsOf, hho, noHo, -List.reduceReplicate]
      exact Ret.same ⟨by rw [ixF_none fun k hk => hI k hk hk], rfl⟩
theorem ifc_row (l : List CellS) (n : Nat) (hn : n = l.length) (hl : n ≤ 1000000) (p : CellS → Bool) (g : FuncId) (hg : callable Tryd.prog g = true) (n0 : Nat) (ks : List AV) (hc : ∀ x ∈ l, ACalls Tryd.prog g [.agg (cellA x), .ptr 0 0 1] [.o .box [.fs 1 n0 ks]] (fun k => decide (k < 1)) (fun r h' => r = .c (.bool (p x)) ∧ h' = [.o .box [.fs 1 n0 ks]])) : ACalls Tryd.prog 41 [.sl 0 5 0 n (n * 5), .clo (.func g) [] [.ptr 1 0 1]] [rowC l, .o .box [.fs 1 n0 ks]] (fun k => decide (k < 2)) (fun r h' => r = .c (.int .i64 (ixF p l)) ∧ h' = [rowC l, .o .box [.fs 1 n0 ks]]) := by
  refine acalls mixed Tryd.func41 rfl Tryd.ntmps41 rfl fun E hE hst hho => ?_
  simp (maxSteps := 1000000) [rowC, hho, noHo, -List.reduceReplicate]
  refine ⟨by omega, ?_⟩
  refine loop_k mixed (fun j : Nat => ⟨slotsOf 19 [(0, .sl 0 5 0 n (n * 5)), (1, .clo (.func g) [] [.ptr 1 0 1]), (7, .c (.int .i64 n)), (8, .c (.int .i64 (j : Nat)))], [rowC l, .o .box [.fs 1 n0 ks]]⟩) (fun j => n - j) (fun j => j ≤ n ∧ ∀ k (hk : k < l.length), k < j → p l[k] = false) 0 ⟨Nat.zero_le _, fun k _ h => by omega⟩ ?_ ?_
  · exact wk_eq (by simp [hE, rowC, lens]) (by simp [rowC]) (by simp [livH, livO, AV.livL, AV.liv, wkL, wkV, List.range', slotsOf])
  · rintro j ⟨hj, hI⟩
    by_cases hjn : j < n
    · have hjl : j < l.length := by omega
      have hat := cellsA_at l j hjl
      have ew : IntKind.i64.wrap ((j : Int) + 1) = (j + 1 : Nat) := by rw [IntWalk.i64_in _ (by omega)]; rfl
      have e0 : j * 5 + 5 ≤ n * 5 := by omega
      have hx := hc l[j] (List.getElem_mem hjl)
      have hp0 := @ixF_hit _ p l j hjl hI
      have hI1 : p l[j] = false → ∀ k (hk : k < l.length), k < j + 1 → p l[k] = false := fun h k hk hkj => by
        by_cases e : k = j
        · subst e; exact h
        · exact hI k hk (by omega)
      obtain ⟨x, hxe⟩ : ∃ x, x = l[j] := ⟨_, rfl⟩
      rw [← hxe] at hat hx hp0 hI1
      have h5 : List.take 5 (cellA x) = cellA x := rfl
      have hln : l.length * 5 = n * 5 := by omega
      cases hp : p x with
      | true =>
        rw [hp] at hx
        simp (maxSteps := 1000000) [slotsOf, rowC, hho, noHo, hjn, hat, e0, hg, h5, hln, -List.reduceReplicate]
        refine call_x [1] hx rfl rfl ⟨rfl, rfl⟩ hho (by simp) (by decide) (by simp) (by simp) ?_
        simp (maxSteps := 1000000) [hho, noHo, ew, -List.reduceReplicate]
        exact Ret.same ⟨by rw [hp0 hp], rfl⟩
      | false =>
        rw [hp] at hx
        simp (maxSteps := 1000000) [slotsOf, rowC, hho, noHo, hjn, hat, e0, hg, h5, hln, -List.reduceReplicate]
        refine call_x [1] hx rfl rfl ⟨rfl, rfl⟩ hho (by simp) (by decide) (by simp) (by simp) ?_
        simp (maxSteps := 1000000) [hho, noHo, ew, -List.reduceReplicate]
        refine round_next (j + 1) ⟨by omega, hI1 hp⟩ (by omega) ?_
        exact wk_eq (by simp [hE, rowC, lens]) (by simp [rowC]) (by simp [livH, livO, AV.livL, AV.liv, wkL, wkV, List.range', slotsOf])
    · obtain rfl : j = n := by omega
      simp (maxSteps := 1000000) [slotsOf, rowC, hho, noHo, -List.reduceReplicate]
      exact Ret.same ⟨by rw [ixF_none fun k hk => hI k hk (by omega)], rfl⟩
def liveC (p : CellS → Bool) (l : List CellS) : List CellS := l.filter fun x => !p x
theorem liveC_none (p : CellS → Bool) (l : List CellS) (h : ∀ k (hk : k < l.length), p l[k] = false) : liveC p l = l := by
  unfold liveC
  rw [List.filter_eq_self]
  intro a ha
  obtain ⟨i, hi, rfl⟩ := List.getElem_of_mem ha
  simpa using h i hi
theorem liveC_succ (p : CellS → Bool) (l : List CellS) (j : Nat) (hj : j < l.length) : liveC p (l.take (j + 1)) = liveC p (l.take j) ++ (if p l[j] = false then [l[j]] else []) := by
  unfold liveC
  rw [List.take_succ_eq_append_getElem hj, List.filter_append]
  congr 1
  cases h : p l[j] <;> simp [List.filter_cons, h]
theorem ixF_cases (p : CellS → Bool) (l : List CellS) : (∃ i : Nat, ∃ hi : i < l.length, ixF p l = i ∧ (∀ k (hk : k < l.length), k < i → p l[k] = false) ∧ p l[i] = true) ∨ (ixF p l = -1 ∧ ∀ k (hk : k < l.length), p l[k] = false) := by
  unfold ixF
  cases h : l.findIdx? p with
  | none =>
    refine .inr ⟨rfl, fun k hk => ?_⟩
    rw [List.findIdx?_eq_none_iff] at h
    exact h _ (List.getElem_mem hk)
  | some i =>
    rw [List.findIdx?_eq_some_iff_getElem] at h
    obtain ⟨hi, h1, h2⟩ := h
    exact .inl ⟨i, hi, rfl, fun k hk hki => by simpa using h2 k hki, h1⟩
set_option maxHeartbeats 4000000 in
theorem deleteFunc_cells (l : List CellS) (n : Nat) (hn : n = l.length) (hl : n ≤ 1000000) (p : CellS → Bool) (g : FuncId) (hg : callable Tryd.prog g = true) (n0 : Nat) (ks : List AV) (hc : ∀ x ∈ l, ACalls Tryd.prog g [.agg (cellA x), .ptr 0 0 1] [.o .box [.fs 1 n0 ks]] (fun k => decide (k < 1)) (fun r h' => r = .c (.bool (p x)) ∧ h' = [.o .box [.fs 1 n0 ks]])) : ACalls Tryd.prog 43 [.sl 0 5 0 n (n * 5), .clo (.func g) [] [.ptr 1 0 1]] [rowC l, .o .box [.fs 1 n0 ks]] (fun k => decide (k = 1)) (fun r h' => r = .sl 0 5 0 (liveC p l).length ((liveC p l).length * 5) ∧ h' = [rowC (liveC p l), .o .box [.fs 1 n0 ks]]) := by
  refine acalls mixed Tryd.func43 rfl Tryd.ntmps43 rfl fun E hE hst hho => ?_
  simp [rowC, hho, -List.reduceReplicate]
  have hiv := ixF_cases p l
  have hic := ifc_row l n hn hl p g hg n0 ks hc
  obtain ⟨v, hv⟩ : ∃ v, v = ixF p l := ⟨_, rfl⟩
  rw [← hv] at hiv hic
  refine call_x [0, 1] hic rfl rfl ⟨rfl, rfl⟩ hho (by simp) (by decide) (by simp) (by simp) ?_
  rcases hiv with ⟨i0, hi0, rfl, h1, h2⟩ | ⟨rfl, h1⟩
  · have hin : i0 < n := by omega
    have ew0 : IntKind.i64.wrap ((i0 : Int) + 1) = (i0 + 1 : Nat) := by rw [IntWalk.i64_in _ (by omega)]; rfl
    have hne : ¬ (i0 : Int) = -1 := by omega
    simp (maxSteps := 1000000) [rowC, hho, hne, ew0, -List.reduceReplicate]
    have hpre : liveC p (l.take i0) = l.take i0 := liveC_none p _ fun k hk => by
      rw [List.length_take] at hk
      rw [List.getElem_take]
      exact h1 k (by omega) (by omega)
    have hgi : ¬ p l[i0] = false := by rw [h2]; simp
    have hpre1 : liveC p (l.take (i0 + 1)) = l.take i0 := by rw [liveC_succ p l i0 hi0, if_neg hgi, List.append_nil, hpre]
    refine loop_k2 mixed (fun x : Nat × Nat × List CellS => ⟨slotsOf 42 [(0, .sl 0 5 0 n (n * 5)), (1, .clo (.func g) [] [.ptr 1 0 1]), (5, .c (.int .i64 (x.1 : Int))), (6, .c (.int .i64 (x.2.1 : Int)))], [rowC x.2.2, .o .box [.fs 1 n0 ks]]⟩) (fun x => n - x.2.1) (fun x => x.1 < x.2.1 ∧ x.2.1 ≤ n ∧ x.2.2.length = n ∧ x.2.2.take x.1 = liveC p (l.take x.2.1) ∧ x.2.2.drop x.2.1 = l.drop x.2.1) (i0, i0 + 1, l)
      (fun x : Nat × List CellS => ⟨slotsOf 42 [(0, .sl 0 5 0 n (n * 5)), (5, .c (.int .i64 (x.1 : Int)))], [rowC x.2, .o .box [.fs 1 n0 ks]]⟩) (fun x => x.1 < n ∧ x.2.length = n ∧ x.2.take x.1 = liveC p l) 0 ⟨by simp only; omega, by simp only; omega, hn.symm, hpre1.symm, rfl⟩ ?_ ?_ ?_
    · exact wk_eq (by simp [hE, rowC, lens]) (by simp [rowC]) (by simp [livH, livO, AV.livL, AV.liv, wkL, wkV, List.range', slotsOf])
    · rintro ⟨i, l1⟩ ⟨g1, g2, g3⟩
      simp only at g1 g2 g3
      have gi : (i : Int) < n := by omega
      have hin2 : i ≤ n := by omega
      simp (maxSteps := 1000000) [rowC, slotsOf, hho, g1, g2, hin2, -List.reduceReplicate]
      have hlen : (liveC p l).length = i := by rw [← g3, List.length_take]; omega
      have hrz : (rowZ (n - i) [Value.int .i64 0, Value.int .i64 0, Value.int .i64 0, Value.int .i64 0, Value.string ByteArray.empty]).length = (n - i) * 5 := by rw [rowZ_length]; rfl
      have hL : (cellsA l1).length = n * 5 := by simp [g2]
      refine ⟨by omega, by rw [hrz]; omega, ?_⟩
      refine Ret.cut 0 i rfl ?_ (by omega) rfl ?_ ?_ ?_
      · simp only [List.length_append, List.length_take, List.length_drop, hrz, hL]; omega
      · rw [List.all_eq_true]
        intro v hv
        simp only [List.mem_append] at hv
        rcases hv with hv | hv | hv
        · exact (cellsA_all l1).2 trivial v (List.mem_of_mem_take hv)
        · obtain ⟨q, hq⟩ := List.getElem?_of_mem hv
          obtain ⟨u, _, rfl⟩ := rowZ_at _ _ _ _ hq
          rfl
        · exact (cellsA_all l1).2 trivial v (List.mem_of_mem_drop hv)
      · simp [livH, livO, AV.livL, AV.liv]
      · refine Ret.same ⟨by rw [hlen], ?_⟩
        have e : List.take (i * 5) (List.take (i * 5) (cellsA l1) ++ (rowZ (n - i) [Value.int .i64 0, Value.int .i64 0, Value.int .i64 0, Value.int .i64 0, Value.string ByteArray.empty] ++ List.drop (i * 5 + (n - i) * 5) (cellsA l1))) = cellsA (liveC p l) := by
          rw [List.take_append_of_le_length (by rw [List.length_take, hL]; omega), List.take_take, Nat.min_self, cellsA_cut, g3]
        simp only [List.set_cons_zero, e]
    · rintro ⟨i, j, l1⟩ ⟨g1, g2, g3, g4, g5⟩
      simp only at g1 g2 g3 g4 g5
      by_cases hjn : j < n
      · have hjl : j < l.length := by omega
        have hjl1 : j < l1.length := by omega
        have hil1 : i < l1.length := by omega
        have hin : i < n := by omega
        have hini : (i : Int) < n := by omega
        have ewj : IntKind.i64.wrap ((j : Int) + 1) = (j + 1 : Nat) := by rw [IntWalk.i64_in _ (by omega)]; rfl
        have ewi : IntKind.i64.wrap ((i : Int) + 1) = (i + 1 : Nat) := by rw [IntWalk.i64_in _ (by omega)]; rfl
        have hat := cellsA_at l1 j hjl1
        have hx : l1[j] = l[j] := by
          have := congrArg (fun z => z[0]?) g5
          simp only [List.getElem?_drop, Nat.add_zero] at this
          rw [List.getElem?_eq_getElem hjl1, List.getElem?_eq_getElem hjl] at this
          injection this
        obtain ⟨x, hx1⟩ : ∃ x, x = l[j] := ⟨_, rfl⟩
        rw [hx, ← hx1] at hat
        have h5 : List.take 5 (cellA x) = cellA x := rfl
        have el : j * 5 + 5 ≤ n * 5 := by omega
        have hs := cellsA_set' l1 i hil1 x
        have hlv := liveC_succ p l j hjl
        rw [← hx1] at hlv
        have hdrop : l.drop (j + 1) = l1.drop (j + 1) := by
          have := congrArg (List.drop 1) g5
          rw [List.drop_drop, List.drop_drop] at this
          exact this.symm
        have hcx := hc l[j] (List.getElem_mem hjl)
        have hgq := hg
        rw [← hx1] at hcx
        cases hpx : p x with
        | false =>
          rw [hpx] at hcx
          rw [hpx, if_pos rfl] at hlv
          simp (maxSteps := 1000000) [rowC, slotsOf, hho, noHo, hjn, g3, hat, h5, el, hgq, -List.reduceReplicate]
          refine call_x [1] hcx rfl rfl ⟨rfl, rfl⟩ hho (by simp) (by decide) (by simp) (by simp) ?_
          simp (maxSteps := 1000000) [hho, noHo, ewj, ewi, g3, h5, hin, hini, hs, -List.reduceReplicate]
          refine ⟨by omega, ?_⟩
          refine round_next (i + 1, j + 1, l1.set i x) ⟨by simp only; omega, by simp only; omega, by simp [g3], ?_, ?_⟩ (by simp only; omega) ?_
          · simp only
            rw [hlv, ← g4, List.take_succ_eq_append_getElem (by simpa using hil1), List.take_set, List.getElem_set_self]
            congr 1
            rw [List.set_eq_of_length_le (by rw [List.length_take]; omega)]
          · simp only
            rw [List.drop_set_of_lt (by omega)]
            exact hdrop.symm
          · exact wk_of 2 1 (by simp) (by simp [hE, rowC, lens]) (by simp [rowC]) (by simp [livH, livO, AV.livL, AV.liv, wkL, wkV, List.range', rowC]) (by simp [livH, livO, AV.livL, AV.liv, wkL, wkV, List.range', slotsOf])
        | true =>
          rw [hpx] at hcx
          rw [hpx, if_neg (by simp), List.append_nil] at hlv
          simp (maxSteps := 1000000) [rowC, slotsOf, hho, noHo, hjn, g3, hat, h5, el, hgq, -List.reduceReplicate]
          refine call_x [1] hcx rfl rfl ⟨rfl, rfl⟩ hho (by simp) (by decide) (by simp) (by simp) ?_
          simp (maxSteps := 1000000) [hho, noHo, ewj, -List.reduceReplicate]
          refine round_next (i, j + 1, l1) ⟨by simp only; omega, by simp only; omega, g3, by simp only; rw [g4, hlv], by simp only; exact hdrop.symm⟩ (by simp only; omega) ?_
          exact wk_of 2 1 (by simp) (by simp [hE, rowC, lens]) (by simp [rowC]) (by simp [livH, livO, AV.livL, AV.liv, wkL, wkV, List.range', rowC]) (by simp [livH, livO, AV.livL, AV.liv, wkL, wkV, List.range', slotsOf])
      · simp (maxSteps := 1000000) [rowC, slotsOf, hho, hjn, g3, -List.reduceReplicate]
        obtain rfl : j = n := by omega
        refine exit_to (i, l1) ⟨by simp only; omega, g3, by simp only; rw [g4, hn, List.take_length]⟩ ?_
        exact wk_eq (by simp [hE, rowC, lens]) (by simp [rowC]) (by simp [livH, livO, AV.livL, AV.liv, wkL, wkV, List.range', slotsOf])
  · have hlv : liveC p l = l := liveC_none p l h1
    rw [hlv, ← hn]
    simp (maxSteps := 1000000) [rowC, hho, -List.reduceReplicate]
    refine Ret.sel [0, 1] (fun _ => false) (ho := by rfl) (ha := by rfl) ?_ ?_ (by decide) (by simp) (fun i _ h => ?_) ⟨rfl, rfl⟩
    · simp
    · simp
    · have e : i = 1 := of_decide_eq_true h
      subst e; rfl
end Go.Proofs.YtniifindnnfkaaaDoor
