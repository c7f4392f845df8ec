import Derived.Test.YtcjncgfhkgcbnaaDoorJr
import Derived.Test.YtcjncgfhkgcbnaaDoorJc
import Derived.Test.YtcjncgfhkgcbnaaDoorHRh
import Derived.Test.YtcjncgfhkgcbnaaDoorHZ1
namespace Go.Proofs.YtcjncgfhkgcbnaaDoor
set_option linter.unusedVariables false
set_option linter.unusedSimpArgs false
open Go.RowKit
attribute [local simp] isCut_nil isCut_region isCut_seq isCut_block isCut_loop isCut_cond isCut_skip isCut_exit isCut_ret isCut_range swapK putK altK condK_bool pickP_bool stepP stepO onPure_some onPure_none onImpl_some onImpl_none stepC onGP_some onGP_none onGV_some condG mkG onIt_it nextP_ptr takeP_eq takeV_some takeV_none takeU_some takeU_none takeQ takeW_some takeN_none takeN_some takeG_some takeO_some altO_some pureV binV2 eqF eqOp ovlV ovl2 rowAt capV binV intBin strBin isSh shV fldV ixV sliceV slice3V loadAV nilV lenV callV unV convV viewS cellsH loadV fldCut AV.ung AV.ungs AV.gc AV.cells AS.ev AS.put anyS gcsV gcO lens lnO gV guardV retK RetP_eq resV oneV anyRo loIx hiIx implO callP_clo evL gcsL clearV storeAV AS.push AS.setO appV appZ shortS copyV buildV partsV fillV srcV fzO okV isCell_c isCell_ptr isCell_sl isCell_fs isCell_fp isCell_clo rowZ_one rowZ_zero rowZ_2 rowZ_3 rowZ_4 rowZ_5 rowZ_6 rowZ_7 rowZ_8 rowZ_9 rowZ_10 rowZ_11 rowZ_12 noHo Value.oneCell' max2V min2V lookV updV lenM msAt afterH putBack frzFrom frzO rebO backIx nilEq_sl nilEq_fs nilOp_eql nilOp_neq AV.reb AV.rebL
attribute [local simp ↓] runK_skip runK_region runK_draw runK_seq runK_cut runK_cond runK_block runK_loop runK_exit runK_label runK_goto runK_ret runK_range contK_nil contK_seq contK_seq_ret contK_seq_exit contK_seq_goto contK_block contK_block_ret contK_block_goto contK_block_exit runO_nil runO_cons roundK_exit roundK_ret roundK_goto exitK_ret cutK_ret cutK_exit runE_done runE_nil runE_take runE_alt condG_true condG_false
set_option maxRecDepth 10000
set_option maxHeartbeats 16000000 in
theorem r16Small_w (j : JobS) (ho : j.Ok) (R : Bool) (hR : R = true ↔ JobFit j) : ACalls Tryd.prog 7 [.agg (jobA j)] [] (fun _ => false) (fun r h' => r = .c (.bool R) ∧ h' = []) := by
  refine acalls mixed Tryd.func7 rfl Tryd.ntmps7 rfl fun E hE hst hho => ?_
  have hF : ¬ JobFit j → R = false := fun h => by
    cases R with
    | false => rfl
    | true => exact absurd (hR.1 rfl) h
  by_cases g0 : 300 < j.name.size
  · have g0i : (300 : Int) < j.name.size := by omega
    have hRf := hF fun h => by obtain ⟨h0, h1, h2, h3, h4, h5⟩ := h; omega
    simp (maxSteps := 1000000) [hho, noHo, jobA, g0, g0i, undef, onGP_none, condG_false, -List.reduceReplicate]
    exact Ret.drop (by rfl) ⟨by rw [hRf], rfl⟩
  have g0i : ¬ (300 : Int) < j.name.size := by omega
  by_cases g1 : 20 < j.cols.length
  · have g1i : (20 : Int) < j.cols.length := by omega
    have hRf := hF fun h => by obtain ⟨h0, h1, h2, h3, h4, h5⟩ := h; omega
    simp (maxSteps := 1000000) [hho, noHo, jobA, g0, g0i, g1, g1i, undef, onGP_none, condG_false, -List.reduceReplicate]
    exact Ret.drop (by rfl) ⟨by rw [hRf], rfl⟩
  have g1i : ¬ (20 : Int) < j.cols.length := by omega
  by_cases g2 : 100 < j.idx.name.size
  · have g2i : (100 : Int) < j.idx.name.size := by omega
    have hRf := hF fun h => by obtain ⟨h0, h1, h2, h3, h4, h5⟩ := h; omega
    simp (maxSteps := 1000000) [hho, noHo, jobA, g0, g0i, g1, g1i, g2, g2i, undef, onGP_none, condG_false, -List.reduceReplicate]
    exact Ret.drop (by rfl) ⟨by rw [hRf], rfl⟩
  have g2i : ¬ (100 : Int) < j.idx.name.size := by omega
  by_cases g3 : 20 < j.idx.cols.length
  · have g3i : (20 : Int) < j.idx.cols.length := by omega
    have hRf := hF fun h => by obtain ⟨h0, h1, h2, h3, h4, h5⟩ := h; omega
    simp (maxSteps := 1000000) [hho, noHo, jobA, g0, g0i, g1, g1i, g2, g2i, g3, g3i, undef, onGP_none, condG_false, -List.reduceReplicate]
    exact Ret.drop (by rfl) ⟨by rw [hRf], rfl⟩
  have g3i : ¬ (20 : Int) < j.idx.cols.length := by omega
  by_cases g4 : 2000 < j.mark.size
  · have g4i : (2000 : Int) < j.mark.size := by omega
    have hRf := hF fun h => by obtain ⟨h0, h1, h2, h3, h4, h5⟩ := h; omega
    simp (maxSteps := 1000000) [hho, noHo, jobA, g0, g0i, g1, g1i, g2, g2i, g3, g3i, g4, g4i, undef, onGP_none, condG_false, -List.reduceReplicate]
    exact Ret.drop (by rfl) ⟨by rw [hRf], rfl⟩
  have g4i : ¬ (2000 : Int) < j.mark.size := by omega
  simp (maxSteps := 1000000) [hho, noHo, jobA, g0, g0i, g1, g1i, g2, g2i, g3, g3i, g4, g4i, undef, onGP_none, condG_false, -List.reduceReplicate]
  refine loop_k mixed (fun i : Nat => ⟨slotsOf 54 [(1, .ptr 0 0 18), (36, .fs 10 j.cols.length (colsA j.cols)), (37, .c (.int .i64 j.cols.length)), (38, .c (.int .i64 (i : Nat)))], [.o .box (jobA j)]⟩) (fun i => j.cols.length - i) (fun i => i ≤ j.cols.length ∧ ∀ q (hq : q < j.cols.length), q < i → ColFit j.cols[q]) 0 ⟨Nat.zero_le _, fun q _ h => by omega⟩ ?_ ?_
  · exact wk_eq (by simp [hE, lens]) (by simp [jobA]) (by simp [livH, livO, AV.livL, AV.liv, wkL, wkV, List.range', slotsOf])
  rintro i ⟨hi, hI⟩
  by_cases hil : i < j.cols.length
  · have hat := colsA_at j.cols i hil
    have el : i * 10 + 10 ≤ j.cols.length * 10 := by omega
    have ew : IntKind.i64.wrap ((i : Int) + 1) = (i + 1 : Nat) := by rw [IntWalk.i64_in _ (by omega)]; rfl
    have hfail : ¬ ColFit j.cols[i] → R = false := fun h => hF fun hf => h (hf.2.2.2.2.2 _ (List.getElem_mem hil))
    have hgo : ColFit j.cols[i] → ∀ q (hq : q < j.cols.length), q < i + 1 → ColFit j.cols[q] := fun h q hq hqi => by
      by_cases e : q = i
      · subst e; exact h
      · exact hI q hq (by omega)
    obtain ⟨c, hc⟩ : ∃ c, c = j.cols[i] := ⟨_, rfl⟩
    rw [← hc] at hat hfail hgo
    by_cases q1 : 100 < c.name.size
    · have q1i : (100 : Int) < c.name.size := by omega
      have hRf := hfail fun h => by have := h.1; omega
      simp (maxSteps := 1000000) [hho, noHo, slotsOf, jobA, colA, hil, hat, el, q1, q1i, undef, onGP_none, condG_false, -List.reduceReplicate]
      exact Ret.drop (by rfl) ⟨by rw [hRf], rfl⟩
    have q1i : ¬ (100 : Int) < c.name.size := by omega
    by_cases q2 : 300 < c.dft.t.size
    · have q2i : (300 : Int) < c.dft.t.size := by omega
      have hRf := hfail fun h => by have := h.2; omega
      simp (maxSteps := 1000000) [hho, noHo, slotsOf, jobA, colA, hil, hat, el, q1, q1i, q2, q2i, undef, onGP_none, condG_false, -List.reduceReplicate]
      exact Ret.drop (by rfl) ⟨by rw [hRf], rfl⟩
    have q2i : ¬ (300 : Int) < c.dft.t.size := by omega
    simp (maxSteps := 1000000) [hho, noHo, slotsOf, jobA, colA, hil, hat, el, q1, q1i, q2, q2i, ew, undef, onGP_none, condG_false, -List.reduceReplicate]
    refine round_next (i + 1) ⟨by omega, hgo ⟨by omega, by omega⟩⟩ (by omega) ?_
    exact wk_of 1 1 (by simp) (by simp [hE, lens]) (by simp [jobA]) (by simp [livH, livO, AV.livL, AV.liv, wkL, wkV, List.range']) (by simp [livH, livO, AV.livL, AV.liv, wkL, wkV, List.range', slotsOf])
  obtain rfl : i = j.cols.length := by omega
  have hRt : R = true := hR.2 ⟨by omega, by omega, by omega, by omega, by omega, fun c hc => by
    obtain ⟨q, hq, rfl⟩ := List.getElem_of_mem hc
    exact hI q hq hq⟩
  simp (maxSteps := 1000000) [hho, noHo, slotsOf, jobA, -List.reduceReplicate]
  exact Ret.drop (by rfl) ⟨by rw [hRt], rfl⟩
end Go.Proofs.YtcjncgfhkgcbnaaDoor
