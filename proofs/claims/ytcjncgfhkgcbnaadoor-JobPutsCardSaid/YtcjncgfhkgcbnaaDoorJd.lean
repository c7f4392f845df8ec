import Derived.Test.YtcjncgfhkgcbnaaDoorJr
import Derived.Test.YtcjncgfhkgcbnaaDoorJc
import Derived.Test.YtcjncgfhkgcbnaaDoorHRh
import Derived.Test.YtcjncgfhkgcbnaaDoorHZ1
namespace Go.Proofs.YtcjncgfhkgcbnaaDoor
set_option linter.unusedVariables false
set_option linter.unusedSimpArgs false
open Go.RowKit
attribute [local simp] isCut_nil isCut_region isCut_seq isCut_block isCut_loop isCut_cond isCut_skip isCut_exit isCut_ret isCut_range swapK putK altK condK_bool pickP_bool stepP stepO onPure_some onPure_none onImpl_some onImpl_none stepC onGP_some onGP_none onGV_some condG mkG onIt_it nextP_ptr takeP_eq takeV_some takeV_none takeU_some takeU_none takeQ takeW_some takeN_none takeN_some takeG_some takeO_some altO_some pureV binV2 eqF eqOp ovlV ovl2 rowAt capV binV intBin strBin isSh shV fldV ixV sliceV slice3V loadAV nilV lenV callV unV convV viewS cellsH loadV fldCut AV.ung AV.ungs AV.gc AV.cells AS.ev AS.put anyS gcsV gcO lens lnO gV guardV retK RetP_eq resV oneV anyRo loIx hiIx implO callP_clo evL gcsL clearV storeAV AS.push AS.setO appV appZ shortS copyV buildV partsV fillV srcV fzO okV isCell_c isCell_ptr isCell_sl isCell_fs isCell_fp isCell_clo rowZ_one rowZ_zero rowZ_2 rowZ_3 rowZ_4 rowZ_5 rowZ_6 rowZ_7 rowZ_8 rowZ_9 rowZ_10 rowZ_11 rowZ_12 noHo Value.oneCell' max2V min2V lookV updV lenM msAt afterH putBack frzFrom frzO rebO backIx nilEq_sl nilEq_fs nilOp_eql nilOp_neq AV.reb AV.rebL
attribute [local simp ↓] runK_skip runK_region runK_draw runK_seq runK_cut runK_cond runK_block runK_loop runK_exit runK_label runK_goto runK_ret runK_range contK_nil contK_seq contK_seq_ret contK_seq_exit contK_seq_goto contK_block contK_block_ret contK_block_goto contK_block_exit runO_nil runO_cons roundK_exit roundK_ret roundK_goto exitK_ret cutK_ret cutK_exit runE_done runE_nil runE_take runE_alt condG_true condG_false
set_option maxRecDepth 10000
set_option maxHeartbeats 16000000 in
theorem r16Right_w (j : JobS) (hb : JobBig j) : ACalls Tryd.prog 9 [.agg (jobA j)] [] (fun _ => false) (fun r h' => r = .c (.bool (jobOk j)) ∧ h' = []) := by
  refine acalls mixed Tryd.func9 rfl Tryd.ntmps9 rfl fun E hE hst hho => ?_
  have hmk := hb.mrk
  by_cases g0 : j.kind < 0
  · skip
    simp (maxSteps := 1000000) [hho, noHo, jobA, g0, undef, onGP_none, condG_false, -List.reduceReplicate]
    exact Ret.drop (by rfl) ⟨by unfold jobOk; rw [decide_eq_false (by omega : ¬ 0 ≤ j.kind)]; simp, rfl⟩
  have k0 : 0 ≤ j.kind := by omega
  by_cases g1 : 5 < j.kind
  · skip
    simp (maxSteps := 1000000) [hho, noHo, jobA, g0, g1, undef, onGP_none, condG_false, -List.reduceReplicate]
    exact Ret.drop (by rfl) ⟨by unfold jobOk; rw [decide_eq_false (by omega : ¬ j.kind ≤ 5)]; simp, rfl⟩
  have k1 : j.kind ≤ 5 := by omega
  by_cases g2 : j.id < 0
  · skip
    simp (maxSteps := 1000000) [hho, noHo, jobA, g0, g1, g2, undef, onGP_none, condG_false, -List.reduceReplicate]
    exact Ret.drop (by rfl) ⟨by unfold jobOk; rw [decide_eq_false (by omega : ¬ 0 ≤ j.id)]; simp, rfl⟩
  have k2 : 0 ≤ j.id := by omega
  by_cases g3 : j.table < -1
  · skip
    simp (maxSteps := 1000000) [hho, noHo, jobA, g0, g1, g2, g3, undef, onGP_none, condG_false, -List.reduceReplicate]
    exact Ret.drop (by rfl) ⟨by unfold jobOk; rw [decide_eq_false (by omega : ¬ -1 ≤ j.table)]; simp, rfl⟩
  have k3 : -1 ≤ j.table := by omega
  by_cases g4 : j.item < -1
  · skip
    simp (maxSteps := 1000000) [hho, noHo, jobA, g0, g1, g2, g3, g4, undef, onGP_none, condG_false, -List.reduceReplicate]
    exact Ret.drop (by rfl) ⟨by unfold jobOk; rw [decide_eq_false (by omega : ¬ -1 ≤ j.item)]; simp, rfl⟩
  have k4 : -1 ≤ j.item := by omega
  by_cases g5 : j.other < -1
  · skip
    simp (maxSteps := 1000000) [hho, noHo, jobA, g0, g1, g2, g3, g4, g5, undef, onGP_none, condG_false, -List.reduceReplicate]
    exact Ret.drop (by rfl) ⟨by unfold jobOk; rw [decide_eq_false (by omega : ¬ -1 ≤ j.other)]; simp, rfl⟩
  have k5 : -1 ≤ j.other := by omega
  by_cases g6 : 1000 < j.mark.size
  · have g6i : (1000 : Int) < j.mark.size := by omega
    simp (maxSteps := 1000000) [hho, noHo, jobA, g0, g1, g2, g3, g4, g5, g6, g6i, undef, onGP_none, condG_false, -List.reduceReplicate]
    exact Ret.drop (by rfl) ⟨by unfold jobOk; rw [decide_eq_false (by omega : ¬ j.mark.size ≤ 1000)]; simp, rfl⟩
  have g6i : ¬ (1000 : Int) < j.mark.size := by omega
  have k6 : j.mark.size ≤ 1000 := by omega
  by_cases g7 : 12 < j.cols.length
  · have g7i : (12 : Int) < j.cols.length := by omega
    simp (maxSteps := 1000000) [hho, noHo, jobA, g0, g1, g2, g3, g4, g5, g6, g6i, g7, g7i, undef, onGP_none, condG_false, -List.reduceReplicate]
    exact Ret.drop (by rfl) ⟨by unfold jobOk; rw [decide_eq_false (by omega : ¬ j.cols.length ≤ 12)]; simp, rfl⟩
  have g7i : ¬ (12 : Int) < j.cols.length := by omega
  have k7 : j.cols.length ≤ 12 := by omega
  have hjo : jobOk j = (jiOk j.idx && j.cols.all jcOk) := by unfold jobOk; simp [k0, k1, k2, k3, k4, k5, k6, k7]
  have hcl := hb.cl
  simp (maxSteps := 1000000) [hho, noHo, jobA, g0, g1, g2, g3, g4, g5, g6, g6i, g7, g7i, undef, onGP_none, condG_false, -List.reduceReplicate]
  refine loop_k mixed (fun i : Nat => ⟨slotsOf 107 [(1, .ptr 0 0 18), (47, .fs 10 j.cols.length (colsA j.cols)), (48, .c (.int .i64 j.cols.length)), (49, .c (.int .i64 (i : Nat)))], [.o .box (jobA j)]⟩) (fun i => j.cols.length - i) (fun i => i ≤ j.cols.length ∧ j.cols.all jcOk = (j.cols.drop i).all jcOk) 0 ⟨Nat.zero_le _, rfl⟩ ?_ ?_
  · exact wk_eq (by simp [hE, lens]) (by simp [jobA]) (by simp [livH, livO, AV.livL, AV.liv, wkL, wkV, List.range', slotsOf])
  rintro i ⟨hi, hI⟩
  by_cases hil : i < j.cols.length
  · have hat := colsA_at j.cols i hil
    have el : i * 10 + 10 ≤ j.cols.length * 10 := by omega
    have ew : IntKind.i64.wrap ((i : Int) + 1) = (i + 1 : Nat) := by rw [IntWalk.i64_in _ (by omega)]; rfl
    rw [all_step jcOk j.cols i hil] at hI
    have hcn := hb.cn j.cols[i] (List.getElem_mem hil)
    obtain ⟨c, hc⟩ : ∃ c, c = j.cols[i] := ⟨_, rfl⟩
    rw [← hc] at hat hI hcn
    have c1 := name_ref c.name hcn.1
    have c2 := of_ref c.dft c.ty hcn.2
    simp only [typA, valA] at c2
    have hall : jcOk c = false → jobOk j = false := fun h => by rw [hjo, hI, h]; simp
    by_cases q1 : c.id = 0
    case neg =>
      simp (maxSteps := 1000000) [hho, noHo, slotsOf, jobA, colA, hil, hat, el, q1, undef, onGP_none, condG_false, -List.reduceReplicate]
      exact Ret.drop (by rfl) ⟨by rw [hall (by unfold jcOk; simp [q1])], rfl⟩
    by_cases q2 : c.st = 0
    case neg =>
      simp (maxSteps := 1000000) [hho, noHo, slotsOf, jobA, colA, hil, hat, el, q1, q2, undef, onGP_none, condG_false, -List.reduceReplicate]
      exact Ret.drop (by rfl) ⟨by rw [hall (by unfold jcOk; simp [q2])], rfl⟩
    simp (maxSteps := 1000000) [hho, noHo, slotsOf, jobA, colA, hil, hat, el, q1, q2, undef, onGP_none, condG_false, -List.reduceReplicate]
    refine call_x [] (c1) rfl rfl ⟨rfl, rfl⟩ hho (by simp) (by decide) (by simp) (by simp) ?_
    cases hN : nameOk c.name with
    | false =>
      simp (maxSteps := 1000000) [hho, noHo, undef, onGP_none, condG_false, -List.reduceReplicate]
      exact Ret.drop (by rfl) ⟨by rw [hall (by unfold jcOk; simp [hN])], rfl⟩
    | true =>
    simp (maxSteps := 1000000) [hho, noHo, undef, onGP_none, condG_false, -List.reduceReplicate]
    refine call_x [] (c2) rfl rfl ⟨rfl, rfl⟩ hho (by simp) (by decide) (by simp) (by simp) ?_
    cases hO : ofOk c.dft c.ty with
    | false =>
      simp (maxSteps := 1000000) [hho, noHo, undef, onGP_none, condG_false, -List.reduceReplicate]
      exact Ret.drop (by rfl) ⟨by rw [hall (by unfold jcOk; simp [hO])], rfl⟩
    | true =>
    have hjc : jcOk c = true := by unfold jcOk; simp [q1, q2, hN, hO]
    rw [hjc] at hI
    simp (maxSteps := 1000000) [hho, noHo, ew, undef, onGP_none, condG_false, -List.reduceReplicate]
    refine round_next (i + 1) ⟨by omega, by rw [hI]; simp⟩ (by omega) ?_
    exact wk_of 1 1 (by simp) (by simp [hE, lens]) (by simp [jobA]) (by simp [livH, livO, AV.livL, AV.liv, wkL, wkV, List.range']) (by simp [livH, livO, AV.livL, AV.liv, wkL, wkV, List.range', slotsOf])
  obtain rfl : i = j.cols.length := by omega
  rw [List.drop_length, List.all_nil] at hI
  rw [hI, Bool.and_true] at hjo
  rw [hjo]
  obtain ⟨x, hx⟩ : ∃ x, x = j.idx := ⟨_, rfl⟩
  have hxn := hb.nm
  have hxl := hb.xl
  rw [← hx] at hxn hxl ⊢
  have c3 := name_ref x.name hxn
  have em0 : ((ByteArray.empty : ByteArray) = { data := #[] }) = True := eq_true rfl
  unfold jiOk
  by_cases q1 : x.id = 0
  case neg =>
    simp (maxSteps := 1000000) [hho, noHo, slotsOf, jobA, ← hx, q1, undef, onGP_none, condG_false, -List.reduceReplicate]
    exact Ret.drop (by rfl) ⟨by simp [q1], rfl⟩
  by_cases q2 : x.st = 0
  case neg =>
    simp (maxSteps := 1000000) [hho, noHo, slotsOf, jobA, ← hx, q1, q2, undef, onGP_none, condG_false, -List.reduceReplicate]
    exact Ret.drop (by rfl) ⟨by simp [q2], rfl⟩
  by_cases q3 : 4 < x.cols.length
  · have q3i : (4 : Int) < x.cols.length := by omega
    simp (maxSteps := 1000000) [hho, noHo, slotsOf, jobA, ← hx, q1, q2, q3, q3i, undef, onGP_none, condG_false, -List.reduceReplicate]
    exact Ret.drop (by rfl) ⟨by rw [decide_eq_false (by omega : ¬ x.cols.length ≤ 4)]; simp, rfl⟩
  have q3i : ¬ (4 : Int) < x.cols.length := by omega
  have q3n : x.cols.length ≤ 4 := by omega
  by_cases q4 : x.name.size = 0
  · have q4n := bare_len q4
    rw [if_pos q4]
    by_cases q5 : x.cols.length = 0
    · have q5n : x.cols = [] := List.eq_nil_of_length_eq_zero q5
      simp (maxSteps := 1000000) [hho, noHo, slotsOf, jobA, ← hx, q1, q2, q3, q3i, em0, q4n, q5, q5n, undef, onGP_none, condG_false, -List.reduceReplicate]
      exact Ret.drop (by rfl) ⟨by simp [q1, q2, q5, q5n], rfl⟩
    · have q5i : ¬ (x.cols.length : Int) = 0 := by omega
      have q5n : ¬ x.cols = [] := fun h => q5 (by rw [h]; rfl)
      simp (maxSteps := 1000000) [hho, noHo, slotsOf, jobA, ← hx, q1, q2, q3, q3i, em0, q4n, q5, q5i, q5n, undef, onGP_none, condG_false, -List.reduceReplicate]
      exact Ret.drop (by rfl) ⟨by simp [q1, q2, q5, q5n], rfl⟩
  · have q4n : ¬ x.name = ByteArray.empty := fun h => q4 (by rw [h]; rfl)
    have q4m : ¬ x.name = { data := #[] } := q4n
    rw [if_neg q4]
    simp (maxSteps := 1000000) [hho, noHo, slotsOf, jobA, ← hx, q1, q2, q3, q3i, q4n, q4m, undef, onGP_none, condG_false, -List.reduceReplicate]
    refine call_x [] (c3) rfl rfl ⟨rfl, rfl⟩ hho (by simp) (by decide) (by simp) (by simp) ?_
    simp (maxSteps := 1000000) [hho, noHo, -List.reduceReplicate]
    exact Ret.drop (by rfl) ⟨by simp [q1, q2, q3n], rfl⟩
end Go.Proofs.YtcjncgfhkgcbnaaDoor
