import Derived.Test.YtcjncgfhkgcbnaaDoorJf
import Derived.Test.YtcjncgfhkgcbnaaDoorJs
import Derived.Test.YtcjncgfhkgcbnaaDoorJi
import Derived.Test.YtcjncgfhkgcbnaaDoorHZ2
import Derived.Test.YtcjncgfhkgcbnaaDoorHF2
namespace Go.Proofs.YtcjncgfhkgcbnaaDoor
set_option linter.unusedVariables false
set_option linter.unusedSimpArgs false
open Go.RowKit
attribute [local simp] isCut_nil isCut_region isCut_seq isCut_block isCut_loop isCut_cond isCut_skip isCut_exit isCut_ret isCut_range swapK putK altK condK_bool pickP_bool stepP stepO onPure_some onPure_none onImpl_some onImpl_none stepC onGP_some onGP_none onGV_some condG mkG onIt_it nextP_ptr takeP_eq takeV_some takeV_none takeU_some takeU_none takeQ takeW_some takeN_none takeN_some takeG_some takeO_some altO_some pureV binV2 eqF eqOp ovlV ovl2 rowAt capV binV intBin strBin isSh shV fldV ixV sliceV slice3V loadAV nilV lenV callV unV convV viewS cellsH loadV fldCut AV.ung AV.ungs AV.gc AV.cells AS.ev AS.put anyS gcsV gcO lens lnO gV guardV retK RetP_eq resV oneV anyRo loIx hiIx implO callP_clo evL gcsL clearV storeAV AS.push AS.setO appV appZ shortS copyV buildV partsV fillV srcV fzO okV isCell_c isCell_ptr isCell_sl isCell_fs isCell_fp isCell_clo rowZ_one rowZ_zero rowZ_2 rowZ_3 rowZ_4 rowZ_5 rowZ_6 rowZ_7 rowZ_8 rowZ_9 rowZ_10 rowZ_11 rowZ_12 noHo Value.oneCell' max2V min2V lookV updV lenM msAt afterH putBack frzFrom frzO rebO backIx nilEq_sl nilEq_fs nilOp_eql nilOp_neq AV.reb AV.rebL
attribute [local simp ↓] runK_skip runK_region runK_draw runK_seq runK_cut runK_cond runK_block runK_loop runK_exit runK_label runK_goto runK_ret runK_range contK_nil contK_seq contK_seq_ret contK_seq_exit contK_seq_goto contK_block contK_block_ret contK_block_goto contK_block_exit runO_nil runO_cons roundK_exit roundK_ret roundK_goto exitK_ret cutK_ret cutK_exit runE_done runE_nil runE_take runE_alt condG_true condG_false
set_option maxRecDepth 10000
/-! ## JobFences -/
theorem mvsA_length (l : List MvS) : (mvsA l).length = l.length * 4 := flat_length mvC 4 (by simp [mvC]) l
theorem mvsA_at (l : List MvS) (j : Nat) (hj : j < l.length) : List.take 4 (List.drop (j * 4) (mvsA l)) = mvC l[j] := flat_at mvC 4 (by simp [mvC]) l j hj
theorem jfit_dec' (j : JobS) : ∃ R : Bool, R = true ↔ JobFit j := ⟨@decide (JobFit j) (Classical.propDecidable _), by simp⟩
theorem sfit_dec' (s : SchS) : ∃ R : Bool, R = true ↔ SchFit s := ⟨@decide (SchFit s) (Classical.propDecidable _), by simp⟩
theorem sfit_big' {s : SchS} (h : SchFit s) : s.tabs.length ≤ 1000000 ∧ ∀ t ∈ s.tabs, TabBig t := by
  refine ⟨by have := h.1; omega, fun t ht => ?_⟩
  obtain ⟨h1, h2, h3, h4, h5⟩ := h.2 t ht
  exact ⟨by omega, by omega, by omega, fun c hc => by have := h4 c hc; exact ⟨by have := this.1; omega, by have := this.2; omega⟩, fun x hx => by have := h5 x hx; exact ⟨by have := this.1; omega, by have := this.2; omega⟩⟩
def fnS (j : JobS) (s : SchS) (l : List MvS) (b : Bool) (i : Nat) : AS := ⟨slotsOf 78 [(3, .ptr 1 0 3), (5, .ptr 2 0 3), (6, .c (.bool ((l.take i).any (fvR s)))), (50, .fs 4 l.length (mvsA l)), (51, .c (.int .i64 l.length)), (52, .c (.int .i64 (i : Nat)))], [.o .box (jobA j), .o .box (schA s), .o .box [.c (.int .i64 0), .fs 4 l.length (mvsA l), .c (.bool b)]]⟩
set_option maxHeartbeats 16000000 in
theorem jfences_w (j : JobS) (ho : j.Ok) (s : SchS) (hs : s.Ok) : ACalls Tryd.prog 5 [.agg (jobA j), .agg (schA s)] [] (fun _ => false) (fun r h' => r = .c (.bool true)) := by
  refine acalls mixed Tryd.func5 rfl Tryd.ntmps5 rfl fun E hE hst hho => ?_
  obtain ⟨R, hR⟩ := jfit_dec' j
  have c0 := r16Small_w j ho R hR
  cases R with
  | false =>
    simp (maxSteps := 1000000) [hho, noHo, jobA, schA, -List.reduceReplicate]
    refine call_x [] (first16_w) rfl rfl ⟨rfl, rfl⟩ hho (by simp) (by decide) (by simp) (by simp) ?_
    simp (maxSteps := 1000000) [hho, noHo, -List.reduceReplicate]
    refine call_x [] (c0) rfl rfl ⟨rfl, rfl⟩ hho (by simp) (by decide) (by simp) (by simp) ?_
    simp (maxSteps := 1000000) [hho, noHo, undef, onGP_none, condG_false, -List.reduceReplicate]
    exact Ret.drop (by rfl) rfl
  | true =>
  obtain ⟨Q, hQ⟩ := sfit_dec' s
  have c1 := small_r12 s Q hQ
  cases Q with
  | false =>
    simp (maxSteps := 1000000) [hho, noHo, jobA, schA, -List.reduceReplicate]
    refine call_x [] (first16_w) rfl rfl ⟨rfl, rfl⟩ hho (by simp) (by decide) (by simp) (by simp) ?_
    simp (maxSteps := 1000000) [hho, noHo, -List.reduceReplicate]
    refine call_x [] (c0) rfl rfl ⟨rfl, rfl⟩ hho (by simp) (by decide) (by simp) (by simp) ?_
    simp (maxSteps := 1000000) [hho, noHo, undef, onGP_none, condG_false, -List.reduceReplicate]
    refine call_x [] (c1) rfl rfl ⟨rfl, rfl⟩ hho (by simp) (by decide) (by simp) (by simp) ?_
    simp (maxSteps := 1000000) [hho, noHo, undef, onGP_none, condG_false, -List.reduceReplicate]
    exact Ret.drop (by rfl) rfl
  | true =>
  obtain ⟨hb1, hb2⟩ := sfit_big' (hQ.1 rfl)
  have c2 := right_r12 s hb1 hb2
  cases hok : schOk s with
  | false =>
    rw [hok] at c2
    simp (maxSteps := 1000000) [hho, noHo, jobA, schA, -List.reduceReplicate]
    refine call_x [] (first16_w) rfl rfl ⟨rfl, rfl⟩ hho (by simp) (by decide) (by simp) (by simp) ?_
    simp (maxSteps := 1000000) [hho, noHo, -List.reduceReplicate]
    refine call_x [] (c0) rfl rfl ⟨rfl, rfl⟩ hho (by simp) (by decide) (by simp) (by simp) ?_
    simp (maxSteps := 1000000) [hho, noHo, undef, onGP_none, condG_false, -List.reduceReplicate]
    refine call_x [] (c1) rfl rfl ⟨rfl, rfl⟩ hho (by simp) (by decide) (by simp) (by simp) ?_
    simp (maxSteps := 1000000) [hho, noHo, undef, onGP_none, condG_false, -List.reduceReplicate]
    refine call_x [] (c2) rfl rfl ⟨rfl, rfl⟩ hho (by simp) (by decide) (by simp) (by simp) ?_
    simp (maxSteps := 1000000) [hho, noHo, undef, onGP_none, condG_false, -List.reduceReplicate]
    exact Ret.drop (by rfl) rfl
  | true =>
  rw [hok] at c2
  have hb3 : ∀ t ∈ s.tabs, t.cols.length ≤ 1000000 ∧ t.idxs.length ≤ 1000000 := fun t ht => ⟨(hb2 t ht).cl, (hb2 t ht).il⟩
  have c3 := jbNext_w j s hb1 hb3
  obtain ⟨hf1, hf2, hf3⟩ := fen_next j s
  have hkl := next_len j s
  obtain ⟨n, hn⟩ : ∃ n, n = jNext j s := ⟨_, rfl⟩
  rw [← hn] at c3 hf1 hf2 hf3 hkl
  clear hn
  obtain ⟨v, l, b⟩ := n
  simp only at hf1 hf2 hf3 hkl
  by_cases hv : v = 0
  case neg =>
    obtain ⟨rfl, rfl⟩ := hf1 hv
    simp (maxSteps := 1000000) [hho, noHo, jobA, schA, -List.reduceReplicate]
    refine call_x [] (first16_w) rfl rfl ⟨rfl, rfl⟩ hho (by simp) (by decide) (by simp) (by simp) ?_
    simp (maxSteps := 1000000) [hho, noHo, -List.reduceReplicate]
    refine call_x [] (c0) rfl rfl ⟨rfl, rfl⟩ hho (by simp) (by decide) (by simp) (by simp) ?_
    simp (maxSteps := 1000000) [hho, noHo, undef, onGP_none, condG_false, -List.reduceReplicate]
    refine call_x [] (c1) rfl rfl ⟨rfl, rfl⟩ hho (by simp) (by decide) (by simp) (by simp) ?_
    simp (maxSteps := 1000000) [hho, noHo, undef, onGP_none, condG_false, -List.reduceReplicate]
    refine call_x [] (c2) rfl rfl ⟨rfl, rfl⟩ hho (by simp) (by decide) (by simp) (by simp) ?_
    simp (maxSteps := 1000000) [hho, noHo, undef, onGP_none, condG_false, -List.reduceReplicate]
    refine call_x [] (c3) rfl rfl ⟨rfl, rfl⟩ hho (by simp) (by decide) (by simp) (by simp) ?_
    simp (maxSteps := 1000000) [hho, noHo, nxA, mvA, hv, undef, onGP_none, condG_false, -List.reduceReplicate]
    exact Ret.drop (by rfl) rfl
  subst hv
  by_cases hl : l.length = 0
  · obtain rfl : l = [] := List.eq_nil_of_length_eq_zero hl
    have hb := hf2 rfl rfl
    subst hb
    by_cases h5 : j.kind = 5
    · simp (maxSteps := 1000000) [hho, noHo, jobA, schA, -List.reduceReplicate]
      refine call_x [] (first16_w) rfl rfl ⟨rfl, rfl⟩ hho (by simp) (by decide) (by simp) (by simp) ?_
      simp (maxSteps := 1000000) [hho, noHo, -List.reduceReplicate]
      refine call_x [] (c0) rfl rfl ⟨rfl, rfl⟩ hho (by simp) (by decide) (by simp) (by simp) ?_
      simp (maxSteps := 1000000) [hho, noHo, undef, onGP_none, condG_false, -List.reduceReplicate]
      refine call_x [] (c1) rfl rfl ⟨rfl, rfl⟩ hho (by simp) (by decide) (by simp) (by simp) ?_
      simp (maxSteps := 1000000) [hho, noHo, undef, onGP_none, condG_false, -List.reduceReplicate]
      refine call_x [] (c2) rfl rfl ⟨rfl, rfl⟩ hho (by simp) (by decide) (by simp) (by simp) ?_
      simp (maxSteps := 1000000) [hho, noHo, undef, onGP_none, condG_false, -List.reduceReplicate]
      refine call_x [] (c3) rfl rfl ⟨rfl, rfl⟩ hho (by simp) (by decide) (by simp) (by simp) ?_
      simp (maxSteps := 1000000) [hho, noHo, nxA, mvA, h5, undef, onGP_none, condG_false, -List.reduceReplicate]
      exact Ret.drop (by rfl) rfl
    · simp (maxSteps := 1000000) [hho, noHo, jobA, schA, -List.reduceReplicate]
      refine call_x [] (first16_w) rfl rfl ⟨rfl, rfl⟩ hho (by simp) (by decide) (by simp) (by simp) ?_
      simp (maxSteps := 1000000) [hho, noHo, -List.reduceReplicate]
      refine call_x [] (c0) rfl rfl ⟨rfl, rfl⟩ hho (by simp) (by decide) (by simp) (by simp) ?_
      simp (maxSteps := 1000000) [hho, noHo, undef, onGP_none, condG_false, -List.reduceReplicate]
      refine call_x [] (c1) rfl rfl ⟨rfl, rfl⟩ hho (by simp) (by decide) (by simp) (by simp) ?_
      simp (maxSteps := 1000000) [hho, noHo, undef, onGP_none, condG_false, -List.reduceReplicate]
      refine call_x [] (c2) rfl rfl ⟨rfl, rfl⟩ hho (by simp) (by decide) (by simp) (by simp) ?_
      simp (maxSteps := 1000000) [hho, noHo, undef, onGP_none, condG_false, -List.reduceReplicate]
      refine call_x [] (c3) rfl rfl ⟨rfl, rfl⟩ hho (by simp) (by decide) (by simp) (by simp) ?_
      simp (maxSteps := 1000000) [hho, noHo, nxA, mvA, h5, undef, onGP_none, condG_false, -List.reduceReplicate]
      exact Ret.drop (by rfl) rfl
  have hb := hf3 rfl fun h => hl (by rw [h]; rfl)
  have hl1 : ¬ (l.length : Int) = 0 := by omega
  have hll : (mvsA l).length = l.length * 4 := mvsA_length l
  simp (maxSteps := 1000000) [hho, noHo, jobA, schA, -List.reduceReplicate]
  refine call_x [] (first16_w) rfl rfl ⟨rfl, rfl⟩ hho (by simp) (by decide) (by simp) (by simp) ?_
  simp (maxSteps := 1000000) [hho, noHo, -List.reduceReplicate]
  refine call_x [] (c0) rfl rfl ⟨rfl, rfl⟩ hho (by simp) (by decide) (by simp) (by simp) ?_
  simp (maxSteps := 1000000) [hho, noHo, undef, onGP_none, condG_false, -List.reduceReplicate]
  refine call_x [] (c1) rfl rfl ⟨rfl, rfl⟩ hho (by simp) (by decide) (by simp) (by simp) ?_
  simp (maxSteps := 1000000) [hho, noHo, undef, onGP_none, condG_false, -List.reduceReplicate]
  refine call_x [] (c2) rfl rfl ⟨rfl, rfl⟩ hho (by simp) (by decide) (by simp) (by simp) ?_
  simp (maxSteps := 1000000) [hho, noHo, undef, onGP_none, condG_false, -List.reduceReplicate]
  refine call_x [] (c3) rfl rfl ⟨rfl, rfl⟩ hho (by simp) (by decide) (by simp) (by simp) ?_
  simp (maxSteps := 1000000) [hho, noHo, nxA, mvA, hl, hl1, undef, onGP_none, condG_false, -List.reduceReplicate]
  refine loop_k mixed (fnS j s l b) (fun i => l.length - i) (fun i => i ≤ l.length) 0 (Nat.zero_le _) ?_ ?_
  · exact wk_eq (by simp [hE, lens, fnS]) (by simp [fnS, jobA, schA]) (by simp [livH, livO, AV.livL, AV.liv, wkL, wkV, List.range', fnS, slotsOf])
  intro i hi
  by_cases hil : i < l.length
  · have hat := mvsA_at l i hil
    have ew : IntKind.i64.wrap ((i : Int) + 1) = (i + 1 : Nat) := by rw [IntWalk.i64_in _ (by omega)]; rfl
    have e0 : i * 4 + 4 ≤ l.length * 4 := by omega
    have hnx : (l.take (i + 1)).any (fvR s) = ((l.take i).any (fvR s) || fvR s l[i]) := by
      rw [List.take_succ_eq_append_getElem hil, List.any_append]; simp
    obtain ⟨m, hm⟩ : ∃ m, m = l[i] := ⟨_, rfl⟩
    rw [← hm] at hat hnx
    have c4 := r16State_w s m.tab m.ofi m.item hb1 hb3
    cases hy : (l.take i).any (fvR s) with
    | true =>
      rw [hy, Bool.true_or] at hnx
      simp (maxSteps := 1000000) [hho, noHo, fnS, slotsOf, mvC, hil, hat, e0, ew, hll, hy, undef, onGP_none, condG_false, -List.reduceReplicate]
      refine round_next (i + 1) (by omega) (by omega) ?_
      exact wk_of 3 1 (by simp) (by simp [hE, lens]) (by simp [fnS, jobA, schA]) (by simp [livH, livO, AV.livL, AV.liv, wkL, wkV, List.range', fnS, jobA, schA]) (by simp [livH, livO, AV.livL, AV.liv, wkL, wkV, List.range', fnS, slotsOf, hnx])
    | false =>
      rw [hy, Bool.false_or] at hnx
      by_cases h3 : m.st = 3
      · have hfv : fvR s m = true := by simp [fvR, h3]
        rw [hfv] at hnx
        simp (maxSteps := 1000000) [hho, noHo, fnS, slotsOf, mvC, hil, hat, e0, ew, hll, hy, h3, undef, onGP_none, condG_false, -List.reduceReplicate]
        refine round_next (i + 1) (by omega) (by omega) ?_
        exact wk_of 3 1 (by simp) (by simp [hE, lens]) (by simp [fnS, jobA, schA]) (by simp [livH, livO, AV.livL, AV.liv, wkL, wkV, List.range', fnS, jobA, schA]) (by simp [livH, livO, AV.livL, AV.liv, wkL, wkV, List.range', fnS, slotsOf, hnx])
      · have hfv : fvR s m = decide (stR s m.tab m.ofi m.item = 3) := by simp [fvR, h3]
        rw [hfv] at hnx
        simp (maxSteps := 1000000) [hho, noHo, fnS, slotsOf, schA, mvC, hil, hat, e0, ew, hll, hy, h3, undef, onGP_none, condG_false, -List.reduceReplicate]
        refine call_x [] (c4) rfl rfl ⟨rfl, rfl⟩ hho (by simp) (by decide) (by simp) (by simp) ?_
        simp (maxSteps := 1000000) [hho, noHo, ew, undef, onGP_none, condG_false, -List.reduceReplicate]
        refine round_next (i + 1) (by omega) (by omega) ?_
        exact wk_of 3 1 (by simp) (by simp [hE, lens]) (by simp [fnS, jobA, schA]) (by simp [livH, livO, AV.livL, AV.liv, wkL, wkV, List.range', fnS, jobA, schA]) (by simp [livH, livO, AV.livL, AV.liv, wkL, wkV, List.range', fnS, slotsOf, hnx])
  · obtain rfl : i = l.length := by omega
    rw [hb]
    simp (maxSteps := 1000000) [hho, noHo, fnS, slotsOf, -List.reduceReplicate]
    exact Ret.drop (by rfl) (by simp)
end Go.Proofs.YtcjncgfhkgcbnaaDoor
