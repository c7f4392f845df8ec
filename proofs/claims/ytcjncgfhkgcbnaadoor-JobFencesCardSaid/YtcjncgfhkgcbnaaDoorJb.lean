import Derived.Test.YtcjncgfhkgcbnaaDoorJa
import Derived.Test.YtcjncgfhkgcbnaaDoorHV
import Derived.Test.YtcjncgfhkgcbnaaDoorHZ1
namespace Go.Proofs.YtcjncgfhkgcbnaaDoor
set_option linter.unusedVariables false
set_option linter.unusedSimpArgs false
open Go.RowKit
attribute [local simp] isCut_nil isCut_region isCut_seq isCut_block isCut_loop isCut_cond isCut_skip isCut_exit isCut_ret isCut_range swapK putK altK condK_bool pickP_bool stepP stepO onPure_some onPure_none onImpl_some onImpl_none stepC onGP_some onGP_none onGV_some condG mkG onIt_it nextP_ptr takeP_eq takeV_some takeV_none takeU_some takeU_none takeQ takeW_some takeN_none takeN_some takeG_some takeO_some altO_some pureV binV2 eqF eqOp ovlV ovl2 rowAt capV binV intBin strBin isSh shV fldV ixV sliceV slice3V loadAV nilV lenV callV unV convV viewS cellsH loadV fldCut AV.ung AV.ungs AV.gc AV.cells AS.ev AS.put anyS gcsV gcO lens lnO gV guardV retK RetP_eq resV oneV anyRo loIx hiIx implO callP_clo evL gcsL clearV storeAV AS.push AS.setO appV appZ shortS copyV buildV partsV fillV srcV fzO okV isCell_c isCell_ptr isCell_sl isCell_fs isCell_fp isCell_clo rowZ_one rowZ_zero rowZ_2 rowZ_3 rowZ_4 rowZ_5 rowZ_6 rowZ_7 rowZ_8 rowZ_9 rowZ_10 rowZ_11 rowZ_12 noHo Value.oneCell' max2V min2V lookV updV lenM msAt afterH putBack frzFrom frzO rebO backIx nilEq_sl nilEq_fs nilOp_eql nilOp_neq AV.reb AV.rebL
attribute [local simp ↓] runK_skip runK_region runK_draw runK_seq runK_cut runK_cond runK_block runK_loop runK_exit runK_label runK_goto runK_ret runK_range contK_nil contK_seq contK_seq_ret contK_seq_exit contK_seq_goto contK_block contK_block_ret contK_block_goto contK_block_exit runO_nil runO_cons roundK_exit roundK_ret roundK_goto exitK_ret cutK_ret cutK_exit runE_done runE_nil runE_take runE_alt condG_true condG_false
set_option maxRecDepth 10000
theorem if_col (l : List ColS) (p : ColS → Bool) (g : FuncId) (hg : callable Tryd.prog g = true) (hl : l.length ≤ 1000000) (hc : ∀ x ∈ l, ACalls Tryd.prog g [.agg (colA x)] [] (fun _ => false) (fun r h' => r = .c (.bool (p x)) ∧ h' = [])) : ACalls Tryd.prog 63 [.fs 10 l.length (colsA l), .clo (.func g) [] []] [] (fun _ => false) (fun r h' => r = .c (.int .i64 (ixF p l)) ∧ h' = []) := by
  refine acalls mixed Tryd.func63 rfl Tryd.ntmps63 rfl fun E hE hst hho => ?_
  simp (maxSteps := 1000000) [hho, noHo, -List.reduceReplicate]
  refine loop_k mixed (fun j : Nat => ⟨slotsOf 19 [(0, .fs 10 l.length (colsA l)), (1, .clo (.func g) [] []), (7, .c (.int .i64 l.length)), (8, .c (.int .i64 (j : Nat)))], []⟩) (fun j => l.length - j) (fun j => j ≤ l.length ∧ ∀ k (hk : k < l.length), k < j → p l[k] = false) 0 ⟨Nat.zero_le _, fun k _ h => by omega⟩ ?_ ?_
  · exact wk_eq (by simp [hE, lens]) (by simp) (by simp [livH, livO, AV.livL, AV.liv, wkL, wkV, List.range', slotsOf])
  · rintro j ⟨hj, hI⟩
    by_cases hjl : j < l.length
    · have hat := colsA_at l j hjl
      have ew : IntKind.i64.wrap ((j : Int) + 1) = (j + 1 : Nat) := by rw [IntWalk.i64_in _ (by omega)]; rfl
      have e0 : j * 10 + 10 ≤ l.length * 10 := by omega
      have hx := hc l[j] (List.getElem_mem hjl)
      have hp0 := @ixF_hit _ p l j hjl hI
      have hI1 : p l[j] = false → ∀ k (hk : k < l.length), k < j + 1 → p l[k] = false := fun h k hk hkj => by
        by_cases e : k = j
        · subst e; exact h
        · exact hI k hk (by omega)
      obtain ⟨x, hxe⟩ : ∃ x, x = l[j] := ⟨_, rfl⟩
      rw [← hxe] at hat hx hp0 hI1
      cases hp : p x with
      | true =>
        rw [hp] at hx
        simp (maxSteps := 1000000) [hho, noHo, slotsOf, hjl, hat, e0, hg, -List.reduceReplicate]
        refine call_x [] (hx) rfl rfl ⟨rfl, rfl⟩ hho (by simp) (by decide) (by simp) (by simp) ?_
        simp (maxSteps := 1000000) [hho, noHo, ew, -List.reduceReplicate]
        exact Ret.drop (by rfl) ⟨by rw [hp0 hp], rfl⟩
      | false =>
        rw [hp] at hx
        simp (maxSteps := 1000000) [hho, noHo, slotsOf, hjl, hat, e0, hg, -List.reduceReplicate]
        refine call_x [] (hx) rfl rfl ⟨rfl, rfl⟩ hho (by simp) (by decide) (by simp) (by simp) ?_
        simp (maxSteps := 1000000) [hho, noHo, ew, -List.reduceReplicate]
        refine round_next (j + 1) ⟨by omega, hI1 hp⟩ (by omega) ?_
        exact wk_eq (by simp [hE, lens]) (by simp) (by simp [livH, livO, AV.livL, AV.liv, wkL, wkV, List.range', slotsOf])
    · obtain rfl : j = l.length := by omega
      simp (maxSteps := 1000000) [hho, noHo, slotsOf, -List.reduceReplicate]
      exact Ret.drop (by rfl) ⟨by rw [ixF_none fun k hk => hI k hk hk], rfl⟩
theorem cf_col (l : List ColS) (p : ColS → Bool) (g : FuncId) (hg : callable Tryd.prog g = true) (hl : l.length ≤ 1000000) (hc : ∀ x ∈ l, ACalls Tryd.prog g [.agg (colA x)] [] (fun _ => false) (fun r h' => r = .c (.bool (p x)) ∧ h' = [])) : ACalls Tryd.prog 27 [.fs 10 l.length (colsA l), .clo (.func g) [] []] [] (fun _ => false) (fun r h' => r = .c (.bool (l.any p)) ∧ h' = []) := by
  refine acalls mixed Tryd.func27 rfl Tryd.ntmps27 rfl fun E hE hst hho => ?_
  simp (maxSteps := 1000000) [hho, noHo, -List.reduceReplicate]
  refine call_x [] (if_col l p g hg hl hc) rfl rfl ⟨rfl, rfl⟩ hho (by simp) (by decide) (by simp) (by simp) ?_
  simp (maxSteps := 1000000) [hho, noHo, ixF_any, -List.reduceReplicate]
  exact Ret.drop (by rfl) ⟨rfl, rfl⟩
set_option maxHeartbeats 4000000 in
theorem jbcolumn_w (c : ColS) (hn : c.name.size ≤ 9000000000000000000) (hv : c.dft.t.size ≤ 9000000000000000000) : ACalls Tryd.prog 29 [.agg (colA c)] [] (fun _ => false) (fun r h' => r = .c (.bool (jcOk c)) ∧ h' = []) := by
  refine acalls mixed Tryd.func29 rfl Tryd.ntmps29 rfl fun E hE hst hho => ?_
  have c1 := name_sch c.name hn
  have c2 := type_right c.ty
  have c3 := val_of c.dft c.ty hv
  unfold jcOk
  simp only [typA, valA] at c2 c3
  by_cases g1 : c.id = 0
  case neg =>
    simp (maxSteps := 1000000) [hho, noHo, colA, g1, undef, onGP_none, condG_false, -List.reduceReplicate]
    exact Ret.drop (by rfl) ⟨by simp [g1], rfl⟩
  by_cases g2 : c.st = 0
  case neg =>
    simp (maxSteps := 1000000) [hho, noHo, colA, g1, g2, undef, onGP_none, condG_false, -List.reduceReplicate]
    exact Ret.drop (by rfl) ⟨by simp [g2], rfl⟩
  simp (maxSteps := 1000000) [hho, noHo, colA, g1, g2, -List.reduceReplicate]
  refine call_x [] (c1) rfl rfl ⟨rfl, rfl⟩ hho (by simp) (by decide) (by simp) (by simp) ?_
  cases hN : nameOk c.name with
  | false =>
    simp (maxSteps := 1000000) [hho, noHo, undef, onGP_none, condG_false, -List.reduceReplicate]
    exact Ret.drop (by rfl) ⟨by simp, rfl⟩
  | true =>
  simp (maxSteps := 1000000) [hho, noHo, undef, onGP_none, condG_false, -List.reduceReplicate]
  refine call_x [] (c2) rfl rfl ⟨rfl, rfl⟩ hho (by simp) (by decide) (by simp) (by simp) ?_
  cases hT : typOk c.ty with
  | false =>
    have hO : ofOk c.dft c.ty = false := by unfold ofOk; simp [hT]
    simp (maxSteps := 1000000) [hho, noHo, undef, onGP_none, condG_false, -List.reduceReplicate]
    exact Ret.drop (by rfl) ⟨by simp [hO], rfl⟩
  | true =>
  simp (maxSteps := 1000000) [hho, noHo, undef, onGP_none, condG_false, -List.reduceReplicate]
  refine call_x [] (c3) rfl rfl ⟨rfl, rfl⟩ hho (by simp) (by decide) (by simp) (by simp) ?_
  simp (maxSteps := 1000000) [hho, noHo, undef, onGP_none, condG_false, -List.reduceReplicate]
  exact Ret.drop (by rfl) ⟨by simp, rfl⟩
theorem bare_len {s : ByteArray} (h : s.size = 0) : s = ByteArray.empty := by
  obtain ⟨⟨l⟩⟩ := s
  have : l = [] := List.eq_nil_of_length_eq_zero h
  subst this; rfl
set_option maxHeartbeats 4000000 in
theorem jbindex_w (x : IdxS) (hn : x.name.size ≤ 9000000000000000000) (hl : x.cols.length ≤ 1000000) : ACalls Tryd.prog 26 [.agg (idxA x)] [] (fun _ => false) (fun r h' => r = .c (.bool (jiOk x)) ∧ h' = []) := by
  refine acalls mixed Tryd.func26 rfl Tryd.ntmps26 rfl fun E hE hst hho => ?_
  have c1 := name_sch x.name hn
  have hem : ∀ s : ByteArray, s.size = 0 ↔ s = ByteArray.empty := fun s => ⟨bare_len, fun h => by rw [h]; rfl⟩
  have em0 : ((ByteArray.empty : ByteArray) = { data := #[] }) = True := eq_true rfl
  by_cases g0 : x.name.size = 0
  · have g0' := (hem x.name).1 g0
    have hN : nameOk x.name = false := by unfold nameOk; simp [g0]
    rw [hN] at c1
    rw [g0'] at c1
    have hji : jiOk x = (decide (x.id = 0) && decide (x.st = 0) && decide (x.cols.length ≤ 4) && (decide (x.cols.length = 0) && !x.uniq)) := by unfold jiOk; rw [if_pos g0]
    rw [hji]
    by_cases g3 : x.cols.length = 0
    · have g3n : x.cols = [] := List.eq_nil_of_length_eq_zero g3
      have g4 : ¬ (4 : Int) < 0 := by omega
      cases hu : x.uniq <;> by_cases g1 : x.id = 0 <;> by_cases g2 : x.st = 0
      all_goals
        simp (maxSteps := 1000000) [hho, noHo, idxA, em0, g0', g1, g2, g3, g3n, hu, undef, onGP_none, condG_false, -List.reduceReplicate]
        first
        | exact Ret.drop (by rfl) ⟨by simp [g1, g2, g3, g3n, hu], rfl⟩
        | (refine call_x [] c1 rfl rfl ⟨rfl, rfl⟩ hho (by simp) (by decide) (by simp) (by simp) ?_
           simp (maxSteps := 1000000) [hho, noHo, undef, onGP_none, condG_false, -List.reduceReplicate]
           exact Ret.drop (by rfl) ⟨by simp [g1, g2, g3, g3n, hu], rfl⟩)
    · have g3i : ¬ (x.cols.length : Int) = 0 := by omega
      have g3n : ¬ x.cols = [] := fun h => g3 (by rw [h]; rfl)
      by_cases g4 : x.cols.length ≤ 4
      · have g4i : (x.cols.length : Int) ≤ 4 := by omega
        by_cases g1 : x.id = 0 <;> by_cases g2 : x.st = 0
        all_goals
          simp (maxSteps := 1000000) [hho, noHo, idxA, em0, g0', g1, g2, g3, g3i, g3n, g4, g4i, undef, onGP_none, condG_false, -List.reduceReplicate]
          first
          | exact Ret.drop (by rfl) ⟨by simp [g1, g2, g3, g3n], rfl⟩
          | (refine call_x [] c1 rfl rfl ⟨rfl, rfl⟩ hho (by simp) (by decide) (by simp) (by simp) ?_
             simp (maxSteps := 1000000) [hho, noHo, undef, onGP_none, condG_false, -List.reduceReplicate]
             exact Ret.drop (by rfl) ⟨by simp [g1, g2, g3, g3n], rfl⟩)
      · have g4i : ¬ (x.cols.length : Int) ≤ 4 := by omega
        by_cases g1 : x.id = 0 <;> by_cases g2 : x.st = 0
        all_goals
          simp (maxSteps := 1000000) [hho, noHo, idxA, em0, g0', g1, g2, g3, g3i, g3n, g4, g4i, undef, onGP_none, condG_false, -List.reduceReplicate]
          exact Ret.drop (by rfl) ⟨by simp [g1, g2, g3, g3n, g4], rfl⟩
  · have g0' : ¬ x.name = ByteArray.empty := fun h => g0 ((hem _).2 h)
    have g0'' : ¬ x.name = { data := #[] } := g0'
    have hji : jiOk x = (decide (x.id = 0) && decide (x.st = 0) && decide (x.cols.length ≤ 4) && nameOk x.name) := by unfold jiOk; rw [if_neg g0]
    rw [hji]
    by_cases g4 : x.cols.length ≤ 4
    · have g4i : (x.cols.length : Int) ≤ 4 := by omega
      by_cases g1 : x.id = 0 <;> by_cases g2 : x.st = 0
      all_goals
        simp (maxSteps := 1000000) [hho, noHo, idxA, g0', g0'', g1, g2, g4, g4i, undef, onGP_none, condG_false, -List.reduceReplicate]
        first
        | exact Ret.drop (by rfl) ⟨by simp [g1, g2], rfl⟩
        | (refine call_x [] c1 rfl rfl ⟨rfl, rfl⟩ hho (by simp) (by decide) (by simp) (by simp) ?_
           simp (maxSteps := 1000000) [hho, noHo, undef, onGP_none, condG_false, -List.reduceReplicate]
           exact Ret.drop (by rfl) ⟨by simp [g1, g2, g4], rfl⟩)
    · have g4i : ¬ (x.cols.length : Int) ≤ 4 := by omega
      by_cases g1 : x.id = 0 <;> by_cases g2 : x.st = 0
      all_goals
        simp (maxSteps := 1000000) [hho, noHo, idxA, g0', g0'', g1, g2, g4, g4i, undef, onGP_none, condG_false, -List.reduceReplicate]
        exact Ret.drop (by rfl) ⟨by simp [g1, g2, g4], rfl⟩
theorem jbRight_1_w (c : ColS) (hn : c.name.size ≤ 9000000000000000000) (hv : c.dft.t.size ≤ 9000000000000000000) : ACalls Tryd.prog 28 [.agg (colA c)] [] (fun _ => false) (fun r h' => r = .c (.bool (!jcOk c)) ∧ h' = []) := by
  refine acalls mixed Tryd.func28 rfl Tryd.ntmps28 rfl fun E hE hst hho => ?_
  have c1 := jbcolumn_w c hn hv
  simp (maxSteps := 1000000) [hho, noHo, colA, -List.reduceReplicate]
  refine call_x [] (c1) rfl rfl ⟨rfl, rfl⟩ hho (by simp) (by decide) (by simp) (by simp) ?_
  simp (maxSteps := 1000000) [hho, noHo, -List.reduceReplicate]
  exact Ret.drop (by rfl) ⟨rfl, rfl⟩
structure JobBig (j : JobS) : Prop where
  nm : j.idx.name.size ≤ 9000000000000000000
  cl : j.cols.length ≤ 1000000
  xl : j.idx.cols.length ≤ 1000000
  mrk : j.mark.size ≤ 9000000000000000000
  cn : ∀ c ∈ j.cols, c.name.size ≤ 9000000000000000000 ∧ c.dft.t.size ≤ 9000000000000000000
end Go.Proofs.YtcjncgfhkgcbnaaDoor
