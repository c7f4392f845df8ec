import Derived.Test.YthgoocdldnkogaaGreatDoorNI
import Derived.Test.YthgoocdldnkogaaGreatDoorNG
import Derived.Test.YthgoocdldnkogaaGreatDoorMZ
namespace Go.Proofs.YthgoocdldnkogaaGreatDoor
set_option linter.unusedVariables false
set_option linter.unusedSimpArgs false
open Go.RowKit
attribute [local simp] isCut_nil isCut_region isCut_seq isCut_block isCut_loop isCut_cond isCut_skip isCut_exit isCut_ret isCut_range swapK putK altK condK_bool pickP_bool stepP stepO onPure_some onPure_none onImpl_some onImpl_none stepC onGP_some onGP_none onGV_some condG mkG onIt_it nextP_ptr takeP_eq takeV_some takeV_none takeU_some takeU_none takeQ takeW_some takeN_none takeN_some takeG_some takeO_some altO_some pureV binV2 eqF eqOp ovlV ovl2 rowAt capV binV intBin strBin isSh shV fldV ixV sliceV slice3V loadAV nilV lenV callV unV convV viewS cellsH loadV fldCut AV.ung AV.ungs AV.gc AV.cells AS.ev AS.put anyS gcsV gcO lens lnO gV guardV retK RetP_eq resV oneV anyRo loIx hiIx implO callP_clo evL gcsL clearV storeAV AS.push AS.setO appV appZ shortS copyV buildV partsV fillV srcV fzO okV isCell_c isCell_ptr isCell_sl isCell_fs isCell_fp isCell_clo rowZ_one rowZ_zero rowZ_2 rowZ_3 rowZ_4 rowZ_5 rowZ_6 rowZ_7 rowZ_8 rowZ_9 rowZ_10 rowZ_11 rowZ_12 noHo Value.oneCell' max2V min2V lookV updV updK updW cvals mkAt basV lenM msAt afterH putBack frzFrom frzO rebO backIx nilEq_sl nilEq_fs nilEq_ifn nilEq_ifh ifOp_eql ifOp_neq isLit nilOp_eql nilOp_neq AV.reb AV.rebL
attribute [local simp ↓] runK_skip runK_region runK_draw runK_seq runK_cut runK_cond runK_block runK_loop runK_exit runK_label runK_goto runK_ret runK_range contK_nil contK_seq contK_seq_ret contK_seq_exit contK_seq_goto contK_block contK_block_ret contK_block_goto contK_block_exit runO_nil runO_cons roundK_exit roundK_ret roundK_goto exitK_ret cutK_ret cutK_exit runE_done runE_nil runE_take runE_alt condG_true condG_false
set_option maxRecDepth 10000
theorem step_nog {s : SchS} {l : List MovS} (h : (stepS s l).2 = 0) : NoGrow s (stepS s l).1 := by
 obtain ⟨k1, _⟩ := step_ok h
 obtain ⟨q1, q2⟩ := stepB_shp l s.tabs
 rw [k1]
 exact ⟨Nat.le_of_eq q1, fun i o t h1 h2 => ⟨(q2 i o t h1 h2).c, (q2 i o t h1 h2).x⟩⟩
def lsSt (s : SchS) (l : List MovS) (j : Nat) : AS := ⟨slotsOf 67 [(1, .fs 4 l.length (movsA l)), (2, .ptr 0 0 3), (26, .fs 4 l.length (movsA l)), (27, .c (.int .i64 (l.length : Nat))), (28, .c (.int .i64 (j : Nat)))], [.o .box (schA s)]⟩
def lsEnd (s : SchS) (l : List MovS) : AS := ⟨slotsOf 67 [(1, .fs 4 l.length (movsA l)), (2, .ptr 0 0 3)], [.o .box (schA s)]⟩
set_option maxHeartbeats 16000000 in
theorem lsteps_w (s : SchS) (ho : s.Ok) (l : List MovS) (hm : ∀ m ∈ l, MovOk m) : ACalls Tryz.prog 4 [.agg (schA s), .fs 4 l.length (movsA l)] [] (fun _ => false) (fun r h' => r = .c (.bool true)) := by
 refine acalls mixed Tryz.func4 rfl Tryz.ntmps4 rfl fun E hE hst hho => ?_
 have hsc : ∀ s : SchS, schA s = [.c (.int .i64 s.ver), .c (.int .i64 s.next), .fs 4 s.tabs.length (tabsA s.tabs)] := fun _ => rfl
 obtain ⟨R, hR⟩ := fit_dec2 s
 have c0 := small_r12 s R hR
 simp only [hsc] at c0
 simp (maxSteps := 1000000) [hho, noHo, hsc s, -List.reduceReplicate]
 refine call_x [] (first14_w) rfl rfl ⟨rfl, rfl⟩ hho (by simp) (by decide) (by simp) (by simp) ?_
 simp (maxSteps := 1000000) [hho, noHo, -List.reduceReplicate]
 refine call_x [] (c0) rfl rfl ⟨rfl, rfl⟩ hho (by simp) (by decide) (by simp) (by simp) ?_
 cases R with
 | false =>
  simp (maxSteps := 1000000) [hho, noHo, undef, onGP_none, condG_false, -List.reduceReplicate]
  exact Ret.drop (by rfl) rfl
 | true =>
 have hf := hR.1 rfl
 obtain ⟨hb1, hb2⟩ := fit_big2 hf
 have hf1 := hf.1
 by_cases hl : (30 : Int) < l.length
 ·simp (maxSteps := 1000000) [hho, noHo, hl, undef, onGP_none, condG_false, -List.reduceReplicate]
  exact Ret.drop (by rfl) rfl
 by_cases hv : 1152921504606846976 < s.ver
 ·simp (maxSteps := 1000000) [hho, noHo, hl, hv, undef, onGP_none, condG_false, -List.reduceReplicate]
  exact Ret.drop (by rfl) rfl
 have hll : l.length ≤ 30 := by omega
 have hSB : SB s := ⟨by omega, hb2, ho⟩
 have hbs : ∀ t ∈ s.tabs, t.cols.length ≤ 1000 ∧ t.idxs.length ≤ 1000 ∧ ∀ x ∈ t.idxs, x.cols.length ≤ 1000 := fun t ht => by
  obtain ⟨q1, q2, q3, q4, q5⟩ := hf.2 t ht
  exact ⟨by omega, by omega, fun x hx => by have := (q5 x hx).2; omega⟩
 simp (maxSteps := 1000000) [hho, noHo, hl, hv, undef, onGP_none, condG_false, -List.reduceReplicate]
 refine loop_k2 mixed (lsSt s l) (fun j => l.length - j) (fun j => j ≤ l.length) 0 (fun _ : Unit => lsEnd s l) (fun _ => True) 0 (Nat.zero_le _) ?_ ?_ ?_
 ·exact wk_eq (by simp [hE, lens]) (by simp [lsSt, hsc]) (by simp [livH, livO, AV.livL, AV.liv, wkL, wkV, List.range', lsSt, slotsOf])
 ·intro _ _
  have w1 := step_w s l (by omega) (by omega) hb2 (by omega) hm
  rw [stepP_eq] at w1
  have w2 := r14Step_w s l (by omega) (by omega) hb2 (by omega)
  have w3 := l14same_w (stepS s l).1 (stepS s l).2 (by have := step_fit s l; rw [stepP_eq] at this; exact this)
  have w4 : (stepS s l).2 = 0 → ACalls Tryz.prog 20 [.agg (schA s), .agg (schA (stepS s l).1)] [] (fun _ => false) (fun r h' => r = .c (.bool true) ∧ h' = []) := fun h => by
   have := legal_g s (stepS s l).1 hSB (step_SB hSB hm (by omega) h) (by omega) (.inr (step_nog h))
   rw [step_legal h] at this
   exact this
  have w1 : ACalls Tryz.prog 18 [.agg (schA s), .fs 4 l.length (movsA l)] [] (fun _ => false) (fun r h' => r = .tup [.agg (schA (stepS s l).1), .c (.int .i64 (stepS s l).2)] ∧ h' = []) := w1
  obtain ⟨q, hq⟩ : ∃ q, q = stepS s l := ⟨_, rfl⟩
  rw [← hq] at w1 w2 w3 w4
  obtain ⟨p, e⟩ := q
  simp only [hsc] at w1 w2 w3 w4
  clear hq
  simp only [lsEnd]
  simp (maxSteps := 1000000) [hho, noHo, slotsOf, hsc s, undef, onGP_none, condG_false, -List.reduceReplicate]
  refine call_x [] (w1) rfl rfl ⟨rfl, rfl⟩ hho (by simp) (by decide) (by simp) (by simp) ?_
  simp (maxSteps := 1000000) [hho, noHo, undef, onGP_none, condG_false, -List.reduceReplicate]
  refine call_x [] (w2) rfl rfl ⟨rfl, rfl⟩ hho (by simp) (by decide) (by simp) (by simp) ?_
  simp (maxSteps := 1000000) [hho, noHo, undef, onGP_none, condG_false, -List.reduceReplicate]
  refine call_x [] (w3) rfl rfl ⟨rfl, rfl⟩ hho (by simp) (by decide) (by simp) (by simp) ?_
  by_cases hz : e = 0
  ·have w4 := w4 hz
   simp (maxSteps := 1000000) [hho, noHo, hz, undef, onGP_none, condG_false, -List.reduceReplicate]
   refine call_x [] (w4) rfl rfl ⟨rfl, rfl⟩ hho (by simp) (by decide) (by simp) (by simp) ?_
   simp (maxSteps := 1000000) [hho, noHo, undef, onGP_none, condG_false, -List.reduceReplicate]
   exact Ret.drop (by rfl) rfl
  ·simp (maxSteps := 1000000) [hho, noHo, hz, undef, onGP_none, condG_false, -List.reduceReplicate]
   exact Ret.drop (by rfl) rfl
 intro j hj
 by_cases hjl : j < l.length
 ·obtain ⟨m, hmx⟩ : ∃ m, m = l[j] := ⟨_, rfl⟩
  have hat := movsA_at l j hjl
  rw [← hmx] at hat
  have e0 : j * 4 + 4 ≤ l.length * 4 := by omega
  have ew : IntKind.i64.wrap ((j : Int) + 1) = (j + 1 : Nat) := by rw [IntWalk.i64_in _ (by omega)]; rfl
  have hmA : movA m = [.c (.int .i64 m.tab), .c (.bool m.ix), .c (.int .i64 m.id), .c (.int .i64 m.dst)] := rfl
  simp only [lsSt]
  by_cases q1 : m.dst < -9
  ·simp (maxSteps := 1000000) [hho, noHo, slotsOf, hjl, hat, e0, hsc s, hmA, q1, undef, onGP_none, condG_false, -List.reduceReplicate]
   exact Ret.drop (by rfl) rfl
  by_cases q2 : 9 < m.dst
  ·simp (maxSteps := 1000000) [hho, noHo, slotsOf, hjl, hat, e0, hsc s, hmA, q1, q2, undef, onGP_none, condG_false, -List.reduceReplicate]
   exact Ret.drop (by rfl) rfl
  ·simp (maxSteps := 1000000) [hho, noHo, slotsOf, hjl, hat, e0, hsc s, hmA, q1, q2, undef, onGP_none, condG_false, -List.reduceReplicate]
   refine round_next (j + 1) (by omega) (by omega) ?_
   exact wk_of 1 1 rfl (by simp [hE, lens]) (by simp [lsSt, hsc]) (by simp [livH, livO, AV.livL, AV.liv, wkL, wkV, List.range', lsSt, hsc]) (by simp [livH, livO, AV.livL, AV.liv, wkL, wkV, List.range', lsSt, slotsOf, ew])
 ·obtain rfl : j = l.length := by omega
  simp only [lsSt]
  simp (maxSteps := 1000000) [hho, noHo, slotsOf, -List.reduceReplicate]
  refine exit_to () trivial ?_
  exact wk_eq (by simp [hE, lens]) (by simp [lsEnd]) (by simp [livH, livO, AV.livL, AV.liv, wkL, wkV, List.range', lsEnd, slotsOf])
end Go.Proofs.YthgoocdldnkogaaGreatDoor
