import Derived.Test.YthgoocdldnkogaaGreatDoorHZ1
namespace Go.Proofs.YthgoocdldnkogaaGreatDoor
set_option linter.unusedVariables false
set_option linter.unusedSimpArgs false
open Go.RowKit
attribute [local simp] isCut_nil isCut_region isCut_seq isCut_block isCut_loop isCut_cond isCut_skip isCut_exit isCut_ret isCut_range swapK putK altK condK_bool pickP_bool stepP stepO onPure_some onPure_none onImpl_some onImpl_none stepC onGP_some onGP_none onGV_some condG mkG onIt_it nextP_ptr takeP_eq takeV_some takeV_none takeU_some takeU_none takeQ takeW_some takeN_none takeN_some takeG_some takeO_some altO_some pureV binV2 eqF eqOp ovlV ovl2 rowAt capV binV intBin strBin isSh shV fldV ixV sliceV slice3V loadAV nilV lenV callV unV convV viewS cellsH loadV fldCut AV.ung AV.ungs AV.gc AV.cells AS.ev AS.put anyS gcsV gcO lens lnO gV guardV retK RetP_eq resV oneV anyRo loIx hiIx implO callP_clo evL gcsL clearV storeAV AS.push AS.setO appV appZ shortS copyV buildV partsV fillV srcV fzO okV isCell_c isCell_ptr isCell_sl isCell_fs isCell_fp isCell_clo rowZ_one rowZ_zero rowZ_2 rowZ_3 rowZ_4 rowZ_5 rowZ_6 rowZ_7 rowZ_8 rowZ_9 rowZ_10 rowZ_11 rowZ_12 noHo Value.oneCell' max2V min2V lookV updV updK updW cvals mkAt basV lenM msAt afterH putBack frzFrom frzO rebO backIx nilEq_sl nilEq_fs nilEq_ifn nilEq_ifh ifOp_eql ifOp_neq isLit nilOp_eql nilOp_neq AV.reb AV.rebL
attribute [local simp ↓] runK_skip runK_region runK_draw runK_seq runK_cut runK_cond runK_block runK_loop runK_exit runK_label runK_goto runK_ret runK_range contK_nil contK_seq contK_seq_ret contK_seq_exit contK_seq_goto contK_block contK_block_ret contK_block_goto contK_block_exit runO_nil runO_cons roundK_exit roundK_ret roundK_goto exitK_ret cutK_ret cutK_exit runE_done runE_nil runE_take runE_alt condG_true condG_false
set_option maxRecDepth 10000

set_option maxHeartbeats 8000000 in
theorem small_r12 (s : SchS) (R : Bool) (hR : R = true ↔ SchFit s) : ACalls Tryz.prog 10 [.agg (schA s)] [] (fun _ => false) (fun r h' => r = .c (.bool R) ∧ h' = []) := by
 refine acalls mixed Tryz.func10 rfl Tryz.ntmps10 rfl fun E hE hst hho => ?_
 have hF : ¬ SchFit s → R = false := fun h => by
  cases R with
  | false => rfl
  | true => exact absurd (hR.1 rfl) h
 by_cases g1 : 20 < s.tabs.length
 ·have g1' : (20 : Int) < s.tabs.length := by omega
  have hRf := hF fun h => by have := h.1; omega
  simp (maxSteps := 1000000) [schA, hho, noHo, g1, g1', -List.reduceReplicate]
  exact Ret.drop (by rfl) ⟨by rw [hRf], rfl⟩
 have g1' : ¬ (20 : Int) < s.tabs.length := by omega
 simp (maxSteps := 1000000) [schA, hho, noHo, g1, g1', -List.reduceReplicate]
 refine loop_k mixed (fun j : Nat => ⟨slotsOf 74 [(14, .fs 4 s.tabs.length (tabsA s.tabs)), (15, .c (.int .i64 s.tabs.length)), (16, .c (.int .i64 (j : Nat)))], []⟩) (fun j => s.tabs.length - j) (fun j => j ≤ s.tabs.length ∧ ∀ i (hi : i < s.tabs.length), i < j → TabFit s.tabs[i]) 0 ⟨Nat.zero_le _, fun i _ h => by omega⟩ ?_ ?_
 ·exact wk_of 0 1 (by simp) (by simp [hE, lens]) (by simp) (by simp [livH, livO, AV.livL, AV.liv, wkL, wkV, List.range']) (by simp [livH, livO, AV.livL, AV.liv, wkL, wkV, List.range', slotsOf])
 rintro j ⟨hj, hI⟩
 by_cases hjl : j < s.tabs.length
 ·have hat := tabsA_at s.tabs j hjl
  have ew : IntKind.i64.wrap ((j : Int) + 1) = (j + 1 : Nat) := by rw [IntWalk.i64_in _ (by omega)]; rfl
  have e0 : j * 4 + 4 ≤ s.tabs.length * 4 := by omega
  have hfail : ¬ TabFit s.tabs[j] → R = false := fun h => hF fun hs => h (hs.2 _ (List.getElem_mem hjl))
  have hnx : TabFit s.tabs[j] → ∀ i (hi : i < s.tabs.length), i < j + 1 → TabFit s.tabs[i] := fun h i hi hij => by
   by_cases e : i = j
   ·subst e; exact h
   ·exact hI i hi (by omega)
  obtain ⟨t, ht⟩ : ∃ t, t = s.tabs[j] := ⟨_, rfl⟩
  rw [← ht] at hat hfail hnx
  by_cases a1 : 100 < t.name.size
  ·have a1' : (100 : Int) < t.name.size := by omega
   simp (maxSteps := 1000000) [slotsOf, tabA, hho, noHo, hjl, hat, e0, a1, a1', undef, onGP_none, condG_false, -List.reduceReplicate]
   exact Ret.drop (by rfl) ⟨by rw [hfail fun h => by have := h.1; omega], rfl⟩
  have a1' : ¬ (100 : Int) < t.name.size := by omega
  by_cases a2 : 20 < t.cols.length
  ·have a2' : (20 : Int) < t.cols.length := by omega
   simp (maxSteps := 1000000) [slotsOf, tabA, hho, noHo, hjl, hat, e0, a1, a1', a2, a2', undef, onGP_none, condG_false, -List.reduceReplicate]
   exact Ret.drop (by rfl) ⟨by rw [hfail fun h => by have := h.2.1; omega], rfl⟩
  have a2' : ¬ (20 : Int) < t.cols.length := by omega
  by_cases a3 : 20 < t.idxs.length
  ·have a3' : (20 : Int) < t.idxs.length := by omega
   simp (maxSteps := 1000000) [slotsOf, tabA, hho, noHo, hjl, hat, e0, a1, a1', a2, a2', a3, a3', undef, onGP_none, condG_false, -List.reduceReplicate]
   exact Ret.drop (by rfl) ⟨by rw [hfail fun h => by have := h.2.2.1; omega], rfl⟩
  have a3' : ¬ (20 : Int) < t.idxs.length := by omega
  simp (maxSteps := 1000000) [slotsOf, tabA, hho, noHo, hjl, hat, e0, a1, a1', a2, a2', a3, a3', undef, onGP_none, condG_false, -List.reduceReplicate]
  refine loop_k mixed (fun q : Nat => ⟨slotsOf 74 [(4, .ptr 0 0 4), (14, .fs 4 s.tabs.length (tabsA s.tabs)), (15, .c (.int .i64 s.tabs.length)), (16, .c (.int .i64 (j : Nat))), (37, .fs 10 t.cols.length (colsA t.cols)), (38, .c (.int .i64 t.cols.length)), (39, .c (.int .i64 (q : Nat)))], [.o .box (tabA t)]⟩) (fun q => t.cols.length - q) (fun q => q ≤ t.cols.length ∧ ∀ i (hi : i < t.cols.length), i < q → ColFit t.cols[i]) 0 ⟨Nat.zero_le _, fun i _ h => by omega⟩ ?_ ?_
  ·exact wk_eq (by simp [hE, lens]) (by simp [tabA]) (by simp [livH, livO, AV.livL, AV.liv, wkL, wkV, List.range', slotsOf])
  rintro q ⟨hq, hC⟩
  by_cases hql : q < t.cols.length
  ·have hqt := colsA_at t.cols q hql
   have ewq : IntKind.i64.wrap ((q : Int) + 1) = (q + 1 : Nat) := by rw [IntWalk.i64_in _ (by omega)]; rfl
   have e1 : q * 10 + 10 ≤ t.cols.length * 10 := by omega
   have hfc : ¬ ColFit t.cols[q] → R = false := fun h => hfail fun ht => h (ht.2.2.2.1 _ (List.getElem_mem hql))
   have hnc : ColFit t.cols[q] → ∀ i (hi : i < t.cols.length), i < q + 1 → ColFit t.cols[i] := fun h i hi hij => by
    by_cases e : i = q
    ·subst e; exact h
    ·exact hC i hi (by omega)
   obtain ⟨c, hc⟩ : ∃ c, c = t.cols[q] := ⟨_, rfl⟩
   rw [← hc] at hqt hfc hnc
   by_cases b1 : 100 < c.name.size
   ·have b1' : (100 : Int) < c.name.size := by omega
    simp (maxSteps := 1000000) [slotsOf, tabA, colA, hho, noHo, hql, hqt, e1, b1, b1', undef, onGP_none, condG_false, -List.reduceReplicate]
    exact Ret.drop (by rfl) ⟨by rw [hfc fun h => by have := h.1; omega], rfl⟩
   have b1' : ¬ (100 : Int) < c.name.size := by omega
   by_cases b2 : 300 < c.dft.t.size
   ·have b2' : (300 : Int) < c.dft.t.size := by omega
    simp (maxSteps := 1000000) [slotsOf, tabA, colA, hho, noHo, hql, hqt, e1, b1, b1', b2, b2', undef, onGP_none, condG_false, -List.reduceReplicate]
    exact Ret.drop (by rfl) ⟨by rw [hfc fun h => by have := h.2; omega], rfl⟩
   have b2' : ¬ (300 : Int) < c.dft.t.size := by omega
   simp (maxSteps := 1000000) [slotsOf, tabA, colA, hho, noHo, hql, hqt, e1, b1, b1', b2, b2', ewq, undef, onGP_none, condG_false, -List.reduceReplicate]
   refine round_next (q + 1) ⟨by omega, hnc ⟨by omega, by omega⟩⟩ (by omega) ?_
   exact wk_of 1 1 (by simp) (by simp [hE, lens]) (by simp [tabA]) (by simp [livH, livO, AV.livL, AV.liv, wkL, wkV, List.range']) (by simp [livH, livO, AV.livL, AV.liv, wkL, wkV, List.range', slotsOf])
  ·obtain rfl : q = t.cols.length := by omega
   simp (maxSteps := 1000000) [slotsOf, tabA, hho, noHo, -List.reduceReplicate]
   refine loop_k mixed (fun q : Nat => ⟨slotsOf 74 [(4, .ptr 0 0 4), (14, .fs 4 s.tabs.length (tabsA s.tabs)), (15, .c (.int .i64 s.tabs.length)), (16, .c (.int .i64 (j : Nat))), (56, .fs 5 t.idxs.length (idxsA t.idxs)), (57, .c (.int .i64 t.idxs.length)), (58, .c (.int .i64 (q : Nat)))], [.o .box (tabA t)]⟩) (fun q => t.idxs.length - q) (fun q => q ≤ t.idxs.length ∧ ∀ i (hi : i < t.idxs.length), i < q → IdxFit t.idxs[i]) 0 ⟨Nat.zero_le _, fun i _ h => by omega⟩ ?_ ?_
   ·exact wk_eq (by simp [hE, lens]) (by simp [tabA]) (by simp [livH, livO, AV.livL, AV.liv, wkL, wkV, List.range', slotsOf])
   rintro q ⟨hq, hX⟩
   by_cases hql : q < t.idxs.length
   ·have hqt := idxsA_at t.idxs q hql
    have ewq : IntKind.i64.wrap ((q : Int) + 1) = (q + 1 : Nat) := by rw [IntWalk.i64_in _ (by omega)]; rfl
    have e1 : q * 5 + 5 ≤ t.idxs.length * 5 := by omega
    have hfc : ¬ IdxFit t.idxs[q] → R = false := fun h => hfail fun ht => h (ht.2.2.2.2 _ (List.getElem_mem hql))
    have hnc : IdxFit t.idxs[q] → ∀ i (hi : i < t.idxs.length), i < q + 1 → IdxFit t.idxs[i] := fun h i hi hij => by
     by_cases e : i = q
     ·subst e; exact h
     ·exact hX i hi (by omega)
    obtain ⟨x, hx⟩ : ∃ x, x = t.idxs[q] := ⟨_, rfl⟩
    rw [← hx] at hqt hfc hnc
    by_cases b1 : 100 < x.name.size
    ·have b1' : (100 : Int) < x.name.size := by omega
     simp (maxSteps := 1000000) [slotsOf, tabA, idxA, hho, noHo, hql, hqt, e1, b1, b1', undef, onGP_none, condG_false, -List.reduceReplicate]
     exact Ret.drop (by rfl) ⟨by rw [hfc fun h => by have := h.1; omega], rfl⟩
    have b1' : ¬ (100 : Int) < x.name.size := by omega
    by_cases b2 : 20 < x.cols.length
    ·have b2' : (20 : Int) < x.cols.length := by omega
     simp (maxSteps := 1000000) [slotsOf, tabA, idxA, hho, noHo, hql, hqt, e1, b1, b1', b2, b2', undef, onGP_none, condG_false, -List.reduceReplicate]
     exact Ret.drop (by rfl) ⟨by rw [hfc fun h => by have := h.2; omega], rfl⟩
    have b2' : ¬ (20 : Int) < x.cols.length := by omega
    simp (maxSteps := 1000000) [slotsOf, tabA, idxA, hho, noHo, hql, hqt, e1, b1, b1', b2, b2', ewq, undef, onGP_none, condG_false, -List.reduceReplicate]
    refine round_next (q + 1) ⟨by omega, hnc ⟨by omega, by omega⟩⟩ (by omega) ?_
    exact wk_of 1 1 (by simp) (by simp [hE, lens]) (by simp [tabA]) (by simp [livH, livO, AV.livL, AV.liv, wkL, wkV, List.range']) (by simp [livH, livO, AV.livL, AV.liv, wkL, wkV, List.range', slotsOf])
   ·obtain rfl : q = t.idxs.length := by omega
    simp (maxSteps := 1000000) [slotsOf, tabA, hho, noHo, ew, -List.reduceReplicate]
    refine round_next (j + 1) ⟨by omega, hnx ⟨by omega, by omega, by omega, fun c hc => ?_, fun x hx => ?_⟩⟩ (by omega) ?_
    ·obtain ⟨i, hi, rfl⟩ := List.getElem_of_mem hc
     exact hC i hi (by omega)
    ·obtain ⟨i, hi, rfl⟩ := List.getElem_of_mem hx
     exact hX i hi (by omega)
    ·exact wk_of 0 1 (by simp) (by simp [hE, lens]) (by simp) (by simp [livH, livO, AV.livL, AV.liv, wkL, wkV, List.range']) (by simp [livH, livO, AV.livL, AV.liv, wkL, wkV, List.range', slotsOf])
 ·obtain rfl : j = s.tabs.length := by omega
  have hRt : R = true := hR.2 ⟨by omega, fun t ht => by
   obtain ⟨i, hi, rfl⟩ := List.getElem_of_mem ht
   exact hI i hi (by omega)⟩
  simp (maxSteps := 1000000) [slotsOf, hho, noHo, -List.reduceReplicate]
  exact Ret.drop (by rfl) ⟨by rw [hRt], rfl⟩
end Go.Proofs.YthgoocdldnkogaaGreatDoor
