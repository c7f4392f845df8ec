import Derived.Test.YtniifindnnfkaaaDoorHR1
import Derived.Test.YtniifindnnfkaaaDoorCS
namespace Go.Proofs.YtniifindnnfkaaaDoor
set_option linter.unusedVariables false
set_option linter.unusedSimpArgs false
open Go.RowKit
attribute [local simp] isCut_nil isCut_region isCut_seq isCut_block isCut_loop isCut_cond isCut_skip isCut_exit isCut_ret isCut_range swapK putK altK condK_bool pickP_bool stepP stepO onPure_some onPure_none onImpl_some onImpl_none stepC onGP_some onGP_none onGV_some condG mkG onIt_it nextP_ptr takeP_eq takeV_some takeV_none takeU_some takeU_none takeQ takeW_some takeN_none takeN_some takeG_some takeO_some altO_some pureV binV2 eqF eqOp ovlV ovl2 rowAt capV binV intBin strBin isSh shV fldV ixV sliceV slice3V loadAV nilV lenV callV unV convV viewS cellsH loadV fldCut AV.ung AV.ungs AV.gc AV.cells AS.ev AS.put anyS gcsV lens lnO gV guardV retK RetP_eq resV oneV anyRo loIx hiIx implO callP_clo evL gcsL clearV storeAV AS.push AS.setO appV appZ shortS copyV buildV partsV fillV srcV fzO okV isCell_c isCell_ptr isCell_sl isCell_fs isCell_fp isCell_clo rowZ_one rowZ_zero rowZ_2 rowZ_3 rowZ_4 rowZ_5 rowZ_6 rowZ_7 rowZ_8 rowZ_9 rowZ_10 rowZ_11 rowZ_12 noHo Value.oneCell' max2V min2V lookV updV lenM msAt afterH putBack frzFrom frzO rebO backIx nilEq_sl nilEq_fs nilOp_eql nilOp_neq AV.reb AV.rebL
attribute [local simp ↓] runK_skip runK_region runK_draw runK_seq runK_cut runK_cond runK_block runK_loop runK_exit runK_label runK_goto runK_ret runK_range contK_nil contK_seq contK_seq_ret contK_seq_exit contK_seq_goto contK_block contK_block_ret contK_block_goto contK_block_exit runO_nil runO_cons roundK_exit roundK_ret roundK_goto exitK_ret cutK_ret cutK_exit runE_done runE_nil runE_take runE_alt condG_true condG_false
set_option maxRecDepth 10000
/-! ## Same rows? The document's, the library's -/
set_option maxHeartbeats 4000000 in
theorem same_ref (a b : List CellS) (ha : a.length ≤ 1000000) (R : Bool) (hR : R = true ↔ a = b) : ACalls Tryd.prog 14 [.fs 5 a.length (cellsA a), .fs 5 b.length (cellsA b)] [] (fun _ => false) (fun r h' => r = .c (.bool R) ∧ h' = []) := by
  refine acalls mixed Tryd.func14 rfl Tryd.ntmps14 rfl fun E hE hst hho => ?_
  by_cases hlen : a.length = b.length
  · obtain ⟨n, hn⟩ : ∃ n, n = a.length := ⟨_, rfl⟩
    have hn2 : n = b.length := by omega
    rw [← hn2, ← hn]
    simp (maxSteps := 1000000) [hho, noHo, -List.reduceReplicate]
    refine loop_k mixed (fun j : Nat => ⟨slotsOf 26 [(0, .fs 5 n (cellsA a)), (1, .fs 5 n (cellsA b)), (12, .c (.int .i64 n)), (13, .c (.int .i64 (j : Int)))], []⟩) (fun j => n - j) (fun j => j ≤ n ∧ ∀ i (h1 : i < a.length) (h2 : i < b.length), i < j → a[i] = b[i]) 0 ⟨Nat.zero_le _, fun i _ _ h => by omega⟩ ?_ ?_
    · exact wk_eq (by simp [hE, lens]) (by simp) (by simp [livH, livO, AV.livL, AV.liv, wkL, wkV, List.range', slotsOf])
    · rintro j ⟨hj, hI⟩
      by_cases hjl : j < n
      · have hja : j < a.length := by omega
        have hjb : j < b.length := by omega
        have hat := cellsA_at a j hja
        have hbt := cellsA_at b j hjb
        have ew : IntKind.i64.wrap ((j : Int) + 1) = (j + 1 : Nat) := by rw [IntWalk.i64_in _ (by omega)]; rfl
        have el : j * 5 + 5 ≤ n * 5 := by omega
        have hji : (j : Int) < n := by omega
        obtain ⟨x, hx⟩ : ∃ x, x = a[j] := ⟨_, rfl⟩
        obtain ⟨y, hy⟩ : ∃ y, y = b[j] := ⟨_, rfl⟩
        rw [← hx] at hat
        rw [← hy] at hbt
        by_cases hxy : x.col = y.col ∧ x.v.k = y.v.k ∧ x.v.n = y.v.n ∧ x.v.s = y.v.s ∧ x.v.t = y.v.t
        · obtain ⟨g1, g2, g3, g4, g5⟩ := hxy
          have hxe : x = y := by
            obtain ⟨c1, ⟨k1, n1, s1, t1⟩⟩ := x
            obtain ⟨c2, ⟨k2, n2, s2, t2⟩⟩ := y
            simp only at g1 g2 g3 g4 g5
            subst g1 g2 g3 g4 g5; rfl
          simp (maxSteps := 1000000) [slotsOf, hho, noHo, hjl, -List.reduceReplicate]
          refine draw_k hho (.take 0 (.take 1 (.take 2 (.take 3 (.take 4 (.take 5 (.take 6 (.take 7 (.take 8 (.done)))))))))) [] [] (by decide +kernel) (by simp) ?_
          simp (maxSteps := 1000000) [hho, hjl, hji, hat, hbt, el, ew, cellA, valA, g1, g2, g3, g4, g5, roOf, holdOf, wrOf, altK, heldOk, Region.binds, -List.reduceReplicate]
          intros
          refine round_next (j + 1) ⟨by omega, fun i h1 h2 hij => ?_⟩ (by omega) ?_
          · by_cases e : i = j
            · subst e; rw [← hx, ← hy]; exact hxe
            · exact hI i h1 h2 (by omega)
          · exact wk_of 0 0 (by simp) (by simp [hE, lens]) (by simp) (by simp [livH, livO, AV.livL, AV.liv, wkL, wkV, List.range']) (by simp [livH, livO, AV.livL, AV.liv, wkL, wkV, List.range', slotsOf])
        · have hne : (decide (x.col = y.col) && (decide (x.v.k = y.v.k) && (decide (x.v.n = y.v.n) && (decide (x.v.s = y.v.s) && decide (x.v.t = y.v.t))))) = false := by
            rw [← Bool.not_eq_true]; simpa using fun a b c d e => hxy ⟨a, b, c, d, e⟩
          have hRf : R = false := by
            rw [← Bool.not_eq_true]
            intro h
            have e := hR.1 h
            subst e
            exact hxy (by rw [hx, hy]; exact ⟨rfl, rfl, rfl, rfl, rfl⟩)
          simp (maxSteps := 1000000) [slotsOf, hho, noHo, hjl, -List.reduceReplicate]
          refine draw_k hho (.take 0 (.take 1 (.take 2 (.take 3 (.take 4 (.take 5 (.take 6 (.take 7 (.take 8 (.done)))))))))) [] [] (by decide +kernel) (by simp) ?_
          simp (maxSteps := 1000000) [hho, hjl, hji, hat, hbt, el, ew, cellA, valA, hne, roOf, holdOf, wrOf, altK, heldOk, Region.binds, -List.reduceReplicate]
          exact Ret.same ⟨by rw [hRf], rfl⟩
      · obtain rfl : j = n := by omega
        have hRt : R = true := hR.2 (List.ext_getElem hlen fun i h1 h2 => hI i h1 h2 (by omega))
        simp (maxSteps := 1000000) [slotsOf, hho, noHo, -List.reduceReplicate]
        exact Ret.same ⟨by rw [hRt], rfl⟩
  · have hRf : R = false := by
      rw [← Bool.not_eq_true]; exact fun h => hlen (by rw [hR.1 h])
    have hli : ¬ (a.length : Int) = b.length := by omega
    simp (maxSteps := 1000000) [hho, noHo, hlen, hli, -List.reduceReplicate]
    exact Ret.same ⟨by rw [hRf], rfl⟩
set_option maxHeartbeats 4000000 in
theorem equal_cells (a b : List CellS) (ha : a.length ≤ 1000000) (R : Bool) (hR : R = true ↔ a = b) : ACalls Tryd.prog 46 [.fs 5 a.length (cellsA a), .fs 5 b.length (cellsA b)] [] (fun _ => false) (fun r h' => r = .c (.bool R) ∧ h' = []) := by
  refine acalls mixed Tryd.func46 rfl Tryd.ntmps46 rfl fun E hE hst hho => ?_
  by_cases hlen : a.length = b.length
  · obtain ⟨n, hn⟩ : ∃ n, n = a.length := ⟨_, rfl⟩
    have hn2 : n = b.length := by omega
    rw [← hn2, ← hn]
    simp (maxSteps := 1000000) [hho, noHo, -List.reduceReplicate]
    refine loop_k mixed (fun j : Nat => ⟨slotsOf 26 [(0, .fs 5 n (cellsA a)), (1, .fs 5 n (cellsA b)), (12, .c (.int .i64 n)), (13, .c (.int .i64 (j : Int)))], []⟩) (fun j => n - j) (fun j => j ≤ n ∧ ∀ i (h1 : i < a.length) (h2 : i < b.length), i < j → a[i] = b[i]) 0 ⟨Nat.zero_le _, fun i _ _ h => by omega⟩ ?_ ?_
    · exact wk_eq (by simp [hE, lens]) (by simp) (by simp [livH, livO, AV.livL, AV.liv, wkL, wkV, List.range', slotsOf])
    · rintro j ⟨hj, hI⟩
      by_cases hjl : j < n
      · have hja : j < a.length := by omega
        have hjb : j < b.length := by omega
        have hat := cellsA_at a j hja
        have hbt := cellsA_at b j hjb
        have ew : IntKind.i64.wrap ((j : Int) + 1) = (j + 1 : Nat) := by rw [IntWalk.i64_in _ (by omega)]; rfl
        have el : j * 5 + 5 ≤ n * 5 := by omega
        have hji : (j : Int) < n := by omega
        obtain ⟨x, hx⟩ : ∃ x, x = a[j] := ⟨_, rfl⟩
        obtain ⟨y, hy⟩ : ∃ y, y = b[j] := ⟨_, rfl⟩
        rw [← hx] at hat
        rw [← hy] at hbt
        by_cases hxy : x.col = y.col ∧ x.v.k = y.v.k ∧ x.v.n = y.v.n ∧ x.v.s = y.v.s ∧ x.v.t = y.v.t
        · obtain ⟨g1, g2, g3, g4, g5⟩ := hxy
          have hxe : x = y := by
            obtain ⟨c1, ⟨k1, n1, s1, t1⟩⟩ := x
            obtain ⟨c2, ⟨k2, n2, s2, t2⟩⟩ := y
            simp only at g1 g2 g3 g4 g5
            subst g1 g2 g3 g4 g5; rfl
          simp (maxSteps := 1000000) [slotsOf, hho, noHo, hjl, -List.reduceReplicate]
          refine draw_k hho (.take 0 (.take 1 (.take 2 (.take 3 (.take 4 (.take 5 (.take 6 (.take 7 (.take 8 (.done)))))))))) [] [] (by decide +kernel) (by simp) ?_
          simp (maxSteps := 1000000) [hho, hjl, hji, hat, hbt, el, ew, cellA, valA, g1, g2, g3, g4, g5, roOf, holdOf, wrOf, altK, heldOk, Region.binds, -List.reduceReplicate]
          intros
          refine round_next (j + 1) ⟨by omega, fun i h1 h2 hij => ?_⟩ (by omega) ?_
          · by_cases e : i = j
            · subst e; rw [← hx, ← hy]; exact hxe
            · exact hI i h1 h2 (by omega)
          · exact wk_of 0 0 (by simp) (by simp [hE, lens]) (by simp) (by simp [livH, livO, AV.livL, AV.liv, wkL, wkV, List.range']) (by simp [livH, livO, AV.livL, AV.liv, wkL, wkV, List.range', slotsOf])
        · have hne : (decide (x.col = y.col) && (decide (x.v.k = y.v.k) && (decide (x.v.n = y.v.n) && (decide (x.v.s = y.v.s) && decide (x.v.t = y.v.t))))) = false := by
            rw [← Bool.not_eq_true]; simpa using fun a b c d e => hxy ⟨a, b, c, d, e⟩
          have hRf : R = false := by
            rw [← Bool.not_eq_true]
            intro h
            have e := hR.1 h
            subst e
            exact hxy (by rw [hx, hy]; exact ⟨rfl, rfl, rfl, rfl, rfl⟩)
          simp (maxSteps := 1000000) [slotsOf, hho, noHo, hjl, -List.reduceReplicate]
          refine draw_k hho (.take 0 (.take 1 (.take 2 (.take 3 (.take 4 (.take 5 (.take 6 (.take 7 (.take 8 (.done)))))))))) [] [] (by decide +kernel) (by simp) ?_
          simp (maxSteps := 1000000) [hho, hjl, hji, hat, hbt, el, ew, cellA, valA, hne, roOf, holdOf, wrOf, altK, heldOk, Region.binds, -List.reduceReplicate]
          exact Ret.same ⟨by rw [hRf], rfl⟩
      · obtain rfl : j = n := by omega
        have hRt : R = true := hR.2 (List.ext_getElem hlen fun i h1 h2 => hI i h1 h2 (by omega))
        simp (maxSteps := 1000000) [slotsOf, hho, noHo, -List.reduceReplicate]
        exact Ret.same ⟨by rw [hRt], rfl⟩
  · have hRf : R = false := by
      rw [← Bool.not_eq_true]; exact fun h => hlen (by rw [hR.1 h])
    have hli : ¬ (a.length : Int) = b.length := by omega
    simp (maxSteps := 1000000) [hho, noHo, hlen, hli, -List.reduceReplicate]
    exact Ret.same ⟨by rw [hRf], rfl⟩
end Go.Proofs.YtniifindnnfkaaaDoor
namespace Go.Proofs.YtniifindnnfkaaaDoor
set_option linter.unusedVariables false
set_option linter.unusedSimpArgs false
open Go.RowKit
attribute [local simp] isCut_nil isCut_region isCut_seq isCut_block isCut_loop isCut_cond isCut_skip isCut_exit isCut_ret isCut_range swapK putK altK condK_bool pickP_bool stepP stepO onPure_some onPure_none onImpl_some onImpl_none stepC onGP_some onGP_none onGV_some condG mkG onIt_it nextP_ptr takeP_eq takeV_some takeV_none takeU_some takeU_none takeQ takeW_some takeN_none takeN_some takeG_some takeO_some altO_some pureV binV2 eqF eqOp ovlV ovl2 rowAt capV binV intBin strBin isSh shV fldV ixV sliceV slice3V loadAV nilV lenV callV unV convV viewS cellsH loadV fldCut AV.ung AV.ungs AV.gc AV.cells AS.ev AS.put anyS gcsV lens lnO gV guardV retK RetP_eq resV oneV anyRo loIx hiIx implO callP_clo evL gcsL clearV storeAV AS.push AS.setO appV appZ shortS copyV buildV partsV fillV srcV fzO okV isCell_c isCell_ptr isCell_sl isCell_fs isCell_fp isCell_clo rowZ_one rowZ_zero rowZ_2 rowZ_3 rowZ_4 rowZ_5 rowZ_6 rowZ_7 rowZ_8 rowZ_9 rowZ_10 rowZ_11 rowZ_12 noHo Value.oneCell' max2V min2V lookV updV lenM msAt afterH putBack frzFrom frzO rebO backIx nilEq_sl nilEq_fs nilOp_eql nilOp_neq AV.reb AV.rebL
attribute [local simp ↓] runK_skip runK_region runK_draw runK_seq runK_cut runK_cond runK_block runK_loop runK_exit runK_label runK_goto runK_ret runK_range contK_nil contK_seq contK_seq_ret contK_seq_exit contK_seq_goto contK_block contK_block_ret contK_block_goto contK_block_exit runO_nil runO_cons roundK_exit roundK_ret roundK_goto exitK_ret cutK_ret cutK_exit runE_done runE_nil runE_take runE_alt condG_true condG_false
set_option maxRecDepth 10000
/-! ## row.Same; the document's GetText -/
theorem same_row (a b : List CellS) (ha : a.length ≤ 1000000) (R : Bool) (hR : R = true ↔ a = b) : ACalls Tryd.prog 22 [.fs 5 a.length (cellsA a), .fs 5 b.length (cellsA b)] [] (fun _ => false) (fun r h' => r = .c (.bool R) ∧ h' = []) := by
  refine acalls mixed Tryd.func22 rfl Tryd.ntmps22 rfl fun E hE hst hho => ?_
  simp (maxSteps := 1000000) [hho, noHo, -List.reduceReplicate]
  refine call_x [] (equal_cells a b ha R hR) rfl rfl ⟨rfl, rfl⟩ hho (by simp) (by decide) (by simp) (by simp) ?_
  simp (maxSteps := 1000000) [hho, noHo, -List.reduceReplicate]
  exact Ret.same ⟨rfl, rfl⟩
end Go.Proofs.YtniifindnnfkaaaDoor
namespace Go.Proofs.YtniifindnnfkaaaDoor
set_option linter.unusedVariables false
set_option linter.unusedSimpArgs false
open Go.RowKit
attribute [local simp] isCut_nil isCut_region isCut_seq isCut_block isCut_loop isCut_cond isCut_skip isCut_exit isCut_ret isCut_range swapK putK altK condK_bool pickP_bool stepP stepO onPure_some onPure_none onImpl_some onImpl_none stepC onGP_some onGP_none onGV_some condG mkG onIt_it nextP_ptr takeP_eq takeV_some takeV_none takeU_some takeU_none takeQ takeW_some takeN_none takeN_some takeG_some takeO_some altO_some pureV binV2 eqF eqOp ovlV ovl2 rowAt capV binV intBin strBin isSh shV fldV ixV sliceV slice3V loadAV nilV lenV callV unV convV viewS cellsH loadV fldCut AV.ung AV.ungs AV.gc AV.cells AS.ev AS.put anyS gcsV lens lnO gV guardV retK RetP_eq resV oneV anyRo loIx hiIx implO callP_clo evL gcsL clearV storeAV AS.push AS.setO appV appZ shortS copyV buildV partsV fillV srcV fzO okV isCell_c isCell_ptr isCell_sl isCell_fs isCell_fp isCell_clo rowZ_one rowZ_zero rowZ_2 rowZ_3 rowZ_4 rowZ_5 rowZ_6 rowZ_7 rowZ_8 rowZ_9 rowZ_10 rowZ_11 rowZ_12 noHo Value.oneCell' max2V min2V lookV updV lenM msAt afterH putBack frzFrom frzO rebO backIx nilEq_sl nilEq_fs nilOp_eql nilOp_neq AV.reb AV.rebL
attribute [local simp ↓] runK_skip runK_region runK_draw runK_seq runK_cut runK_cond runK_block runK_loop runK_exit runK_label runK_goto runK_ret runK_range contK_nil contK_seq contK_seq_ret contK_seq_exit contK_seq_goto contK_block contK_block_ret contK_block_goto contK_block_exit runO_nil runO_cons roundK_exit roundK_ret roundK_goto exitK_ret cutK_ret cutK_exit runE_done runE_nil runE_take runE_alt condG_true condG_false
set_option maxRecDepth 10000
/-! ## long: is a row too long to be asked? -/
def shortR (l : List CellS) : Prop := l.length ≤ 50 ∧ ∀ i (hi : i < l.length), l[i].v.t.size ≤ 500
theorem long_row (l : List CellS) (R : Bool) (hR : R = true ↔ ¬ shortR l) : ACalls Tryd.prog 8 [.fs 5 l.length (cellsA l)] [] (fun _ => false) (fun r h' => r = .c (.bool R) ∧ h' = []) := by
  refine acalls mixed Tryd.func8 rfl Tryd.ntmps8 rfl fun E hE hst hho => ?_
  simp (maxSteps := 1000000) [hho, noHo, -List.reduceReplicate]
  refine loop_k mixed (fun j : Nat => ⟨slotsOf 22 [(5, .fs 5 l.length (cellsA l)), (6, .c (.int .i64 l.length)), (7, .c (.int .i64 (j : Int)))], []⟩) (fun j => l.length - j) (fun j => j ≤ l.length ∧ j ≤ 50 ∧ ∀ i (hi : i < l.length), i < j → l[i].v.t.size ≤ 500) 0 ⟨Nat.zero_le _, by omega, fun i _ h => by omega⟩ ?_ ?_
  · exact wk_eq (by simp [hE, lens]) (by simp) (by simp [livH, livO, AV.livL, AV.liv, wkL, wkV, List.range', slotsOf])
  · rintro j ⟨hj, hj5, hI⟩
    by_cases hjl : j < l.length
    · have hat := cellsA_at l j hjl
      have ew : IntKind.i64.wrap ((j : Int) + 1) = (j + 1 : Nat) := by rw [IntWalk.i64_in _ (by omega)]; rfl
      have el : j * 5 + 5 ≤ l.length * 5 := by omega
      obtain ⟨x, hx⟩ : ∃ x, x = l[j] := ⟨_, rfl⟩
      rw [← hx] at hat
      by_cases h50 : j < 50
      · have hn50 : ¬ (50 : Int) ≤ j := by omega
        by_cases hs : x.v.t.size ≤ 500
        · have hs' : ¬ (500 : Int) < x.v.t.size := by omega
          have hs2 : ¬ 500 < x.v.t.size := by omega
          simp (maxSteps := 1000000) [slotsOf, cellA, valA, hho, noHo, hjl, hat, el, hn50, hs', hs2, hs, h50, ew, -List.reduceReplicate]
          refine round_next (j + 1) ⟨by omega, by omega, fun i hi hij => ?_⟩ (by omega) ?_
          · by_cases e : i = j
            · subst e; rw [← hx]; exact hs
            · exact hI i hi (by omega)
          · exact wk_of 0 1 (by simp) (by simp [hE, lens]) (by simp) (by simp [livH, livO, AV.livL, AV.liv, wkL, wkV, List.range']) (by simp [livH, livO, AV.livL, AV.liv, wkL, wkV, List.range', slotsOf])
        · have hs' : (500 : Int) < x.v.t.size := by omega
          have hs2 : 500 < x.v.t.size := by omega
          have hRt : R = true := hR.2 fun h => hs (by rw [hx]; exact h.2 j hjl)
          simp (maxSteps := 1000000) [slotsOf, cellA, valA, hho, noHo, hjl, hat, el, hn50, hs', hs2, h50, -List.reduceReplicate]
          exact Ret.drop (by rfl) ⟨by rw [hRt], rfl⟩
      · have h50' : (50 : Int) ≤ j := by omega
        have h50n : 50 ≤ j := by omega
        have hRt : R = true := hR.2 fun h => by have := h.1; omega
        simp (maxSteps := 1000000) [slotsOf, cellA, valA, hho, noHo, hjl, hat, el, h50', h50n, undef, onGP_none, condG_false, -List.reduceReplicate]
        exact Ret.drop (by rfl) ⟨by rw [hRt], rfl⟩
    · obtain rfl : j = l.length := by omega
      have hRf : R = false := by
        rw [← Bool.not_eq_true]
        exact fun h => hR.1 h ⟨hj5, fun i hi => hI i hi hi⟩
      simp (maxSteps := 1000000) [slotsOf, hho, noHo, -List.reduceReplicate]
      exact Ret.same ⟨by rw [hRf], rfl⟩
end Go.Proofs.YtniifindnnfkaaaDoor
namespace Go.Proofs.YtniifindnnfkaaaDoor
set_option linter.unusedVariables false
set_option linter.unusedSimpArgs false
open Go.RowKit
attribute [local simp] isCut_nil isCut_region isCut_seq isCut_block isCut_loop isCut_cond isCut_skip isCut_exit isCut_ret isCut_range swapK putK altK condK_bool pickP_bool stepP stepO onPure_some onPure_none onImpl_some onImpl_none stepC onGP_some onGP_none onGV_some condG mkG onIt_it nextP_ptr takeP_eq takeV_some takeV_none takeU_some takeU_none takeQ takeW_some takeN_none takeN_some takeG_some takeO_some altO_some pureV binV2 eqF eqOp ovlV ovl2 rowAt capV binV intBin strBin isSh shV fldV ixV sliceV slice3V loadAV nilV lenV callV unV convV viewS cellsH loadV fldCut AV.ung AV.ungs AV.gc AV.cells AS.ev AS.put anyS gcsV lens lnO gV guardV retK RetP_eq resV oneV anyRo loIx hiIx implO callP_clo evL gcsL clearV storeAV AS.push AS.setO appV appZ shortS copyV buildV partsV fillV srcV fzO okV isCell_c isCell_ptr isCell_sl isCell_fs isCell_fp isCell_clo rowZ_one rowZ_zero rowZ_2 rowZ_3 rowZ_4 rowZ_5 rowZ_6 rowZ_7 rowZ_8 rowZ_9 rowZ_10 rowZ_11 rowZ_12 noHo Value.oneCell' max2V min2V lookV updV lenM msAt afterH putBack frzFrom frzO rebO backIx nilEq_sl nilEq_fs nilOp_eql nilOp_neq AV.reb AV.rebL
attribute [local simp ↓] runK_skip runK_region runK_draw runK_seq runK_cut runK_cond runK_block runK_loop runK_exit runK_label runK_goto runK_ret runK_range contK_nil contK_seq contK_seq_ret contK_seq_exit contK_seq_goto contK_block contK_block_ret contK_block_goto contK_block_exit runO_nil runO_cons roundK_exit roundK_ret roundK_goto exitK_ret cutK_ret cutK_exit runE_done runE_nil runE_take runE_alt condG_true condG_false
set_option maxRecDepth 10000
/-! ## The document's GetText -/
theorem rnum_drop {b : List UInt8} {n : Int} {r : List UInt8} (h : rnum b = some (n, r)) : r = b.drop (b.length - r.length) := by
  rcases b with _ | ⟨x, t⟩
  · cases h
  · simp only [rnum] at h
    split at h
    · cases h
    · split at h
      · cases h
      · split at h
        · cases h
        · injection h with h
          injection h with _ h
          subst h
          rw [List.length_drop, List.length_cons, show t.length + 1 - (t.length - x.toNat % 128) = x.toNat % 128 + 1 by omega, List.drop_succ_cons]
theorem gettext_ref (b : List UInt8) (hb : b.length ≤ 100000000) : ACalls Tryd.prog 36 [.fs 1 b.length (u8av b)] [] (fun _ => false) (fun r h' => r = .tup [.c (.string (str (getTextS b).1)), .c (.int .i64 (getTextS b).2)] ∧ h' = []) := by
  refine acalls mixed Tryd.func36 rfl Tryd.ntmps36 rfl fun E hE hst hho => ?_
  have hg := ref1get_w b (by omega)
  unfold getTextS
  unfold getS at hg
  cases hr : rnum b with
  | none =>
    rw [hr] at hg
    simp (maxSteps := 1000000) [hho, noHo, -List.reduceReplicate]
    refine call_x [] hg rfl rfl ⟨rfl, rfl⟩ hho (by simp) (by decide) (by simp) (by simp) ?_
    simp (maxSteps := 1000000) [hho, noHo, undef, onGP_none, condG_false, -List.reduceReplicate]
    exact Ret.same ⟨rfl, rfl⟩
  | some p =>
    obtain ⟨n, r⟩ := p
    have hlt := rnum_lt hr
    have hdr := rnum_drop hr
    rw [hr] at hg
    simp only at hg ⊢
    obtain ⟨q, hq⟩ : ∃ q, q = b.length - r.length := ⟨_, rfl⟩
    rw [← hq] at hg hdr ⊢
    have hq0 : ¬ q = 0 := by omega
    have hqr : q + r.length = b.length := by omega
    have ew : IntKind.i64.wrap ((b.length : Int) - q) = (r.length : Int) := by rw [IntWalk.i64_in _ (by omega)]; omega
    by_cases h1 : n < 0
    · rw [if_pos (.inl h1)]
      simp (maxSteps := 1000000) [hho, noHo, -List.reduceReplicate]
      refine call_x [] hg rfl rfl ⟨rfl, rfl⟩ hho (by simp) (by decide) (by simp) (by simp) ?_
      simp (maxSteps := 1000000) [hho, noHo, hq0, h1, undef, onGP_none, condG_false, -List.reduceReplicate]
      exact Ret.same ⟨rfl, rfl⟩
    · by_cases h2 : (r.length : Int) < n
      · rw [if_pos (.inr h2)]
        simp (maxSteps := 1000000) [hho, noHo, -List.reduceReplicate]
        refine call_x [] hg rfl rfl ⟨rfl, rfl⟩ hho (by simp) (by decide) (by simp) (by simp) ?_
        simp (maxSteps := 1000000) [hho, noHo, hq0, h1, h2, ew, -List.reduceReplicate]
        exact Ret.same ⟨rfl, rfl⟩
      · rw [if_neg (fun h => h.elim h1 h2)]
        obtain ⟨m, rfl⟩ : ∃ m : Nat, n = m := ⟨n.toNat, by omega⟩
        have hm : m ≤ r.length := by omega
        have ew2 : IntKind.i64.wrap ((q : Int) + m) = (q + m : Nat) := by rw [IntWalk.i64_in _ (by omega)]; rfl
        have htx : List.take m (List.drop q (u8av b)) = u8av (r.take m) := by rw [hdr, u8av, u8av, List.map_take, List.map_drop]
        have g1 : q + m ≤ b.length := by omega
        have g2 : q ≤ q + m := by omega
        have g3 : q + m - q = m := by omega
        simp (maxSteps := 1000000) [hho, noHo, -List.reduceReplicate]
        refine call_x [] hg rfl rfl ⟨rfl, rfl⟩ hho (by simp) (by decide) (by simp) (by simp) ?_
        simp (maxSteps := 1000000) [hho, noHo, hq0, h1, h2, ew, ew2, htx, g1, g2, g3, bytesOf_str, -List.reduceReplicate]
        have e4 : ((q : Int) + m).toNat - q = m := by omega
        rw [e4, htx]
        refine ⟨⟨by omega, by omega⟩, (u8av_u8 _).2 trivial, ?_⟩
        rw [bytesOf_str]
        exact Ret.same ⟨by simp, rfl⟩
end Go.Proofs.YtniifindnnfkaaaDoor
