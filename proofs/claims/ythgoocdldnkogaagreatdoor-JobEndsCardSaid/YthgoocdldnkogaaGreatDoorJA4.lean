import Derived.Test.YthgoocdldnkogaaGreatDoorJA3
namespace Go.Proofs.YthgoocdldnkogaaGreatDoor
set_option linter.unusedVariables false
set_option linter.unusedSimpArgs false
open Go.RowKit
attribute [local simp] isCut_nil isCut_region isCut_seq isCut_block isCut_loop isCut_cond isCut_skip isCut_exit isCut_ret isCut_range swapK putK altK condK_bool pickP_bool stepP stepO onPure_some onPure_none onImpl_some onImpl_none stepC onGP_some onGP_none onGV_some condG mkG onIt_it nextP_ptr takeP_eq takeV_some takeV_none takeU_some takeU_none takeQ takeW_some takeN_none takeN_some takeG_some takeO_some altO_some pureV binV2 eqF eqOp ovlV ovl2 rowAt capV binV intBin strBin isSh shV fldV ixV sliceV slice3V loadAV nilV lenV callV unV convV viewS cellsH loadV fldCut AV.ung AV.ungs AV.gc AV.cells AS.ev AS.put anyS gcsV gcO lens lnO gV guardV retK RetP_eq resV oneV anyRo loIx hiIx implO callP_clo evL gcsL clearV storeAV AS.push AS.setO appV appZ shortS copyV buildV partsV fillV srcV fzO okV isCell_c isCell_ptr isCell_sl isCell_fs isCell_fp isCell_clo rowZ_one rowZ_zero rowZ_2 rowZ_3 rowZ_4 rowZ_5 rowZ_6 rowZ_7 rowZ_8 rowZ_9 rowZ_10 rowZ_11 rowZ_12 noHo Value.oneCell' max2V min2V lookV updV updK updW cvals mkAt basV lenM msAt afterH putBack frzFrom frzO rebO backIx nilEq_sl nilEq_fs nilEq_ifn nilEq_ifh ifOp_eql ifOp_neq isLit nilOp_eql nilOp_neq AV.reb AV.rebL
attribute [local simp ↓] runK_skip runK_region runK_draw runK_seq runK_cut runK_cond runK_block runK_loop runK_exit runK_label runK_goto runK_ret runK_range contK_nil contK_seq contK_seq_ret contK_seq_exit contK_seq_goto contK_block contK_block_ret contK_block_goto contK_block_exit runO_nil runO_cons roundK_exit roundK_ret roundK_goto exitK_ret cutK_ret cutK_exit runE_done runE_nil runE_take runE_alt condG_true condG_false
set_option maxRecDepth 10000
def rkJ (j : JobS) (t : TabS) : Nat :=
 if downJ j then (if stA1 j t = some 3 then 5 else if stA1 j t = some 2 then 4 else if stA1 j t = some 1 then (if j.full = true then 2 else 3) else 1)
 else (if stA1 j t = some 1 then 7 else if stA1 j t = some 2 then (if j.full = true then 5 else 6) else if j.kind = 4 ∧ stA1 j t = some 3 then (if stB1 j t = some 2 then 4 else if stB1 j t = some 1 then (if j.full = true then 2 else 3) else 1) else 1)
def rkS (j : JobS) (s : SchS) : Nat := if j.fin = true then 1 else match jTab j s with | none => 1 | some t => rkJ j t
theorem rkJ_pos (j : JobS) (t : TabS) : 1 ≤ rkJ j t ∧ rkJ j t ≤ 7 := by
 unfold rkJ
 repeat' split
 all_goals omega
theorem rkS_pos (j : JobS) (s : SchS) : 1 ≤ rkS j s ∧ rkS j s ≤ 7 := by
 unfold rkS
 split
 ·omega
 ·split
  ·omega
  ·exact rkJ_pos _ _
theorem TrJ.rk {j : JobS} {t t' : TabS} (h : TrJ j t t') {b : Bool} (hb : b = false ∨ (b = j.full ∧ stA1 j t' = some 2 ∧ ¬ downJ j)) : rkJ { j with full := b } t' < rkJ j t := by
 have e1 : stA1 { j with full := b } t' = stA1 j t' := rfl
 have e2 : stB1 { j with full := b } t' = stB1 j t' := rfl
 have e3 : downJ { j with full := b } = downJ j := rfl
 unfold rkJ
 simp only [e1, e2, e3]
 rcases h with ⟨hd, h⟩ | ⟨hd, h⟩
 ·have hb0 : b = false := by
   rcases hb with h | ⟨_, _, h⟩
   ·exact h
   ·exact absurd hd h
  rw [if_pos hd, if_pos hd, hb0]
  rcases h with ⟨h1, h2⟩ | ⟨h1, h2⟩ | ⟨h1, h3, h2⟩
  ·simp [h1, h2]
  ·simp [h1, h2]
  ·simp [h1, h2, h3]
 ·rw [if_neg hd, if_neg hd]
  rcases h with ⟨h1, h2⟩ | ⟨h1, h3, h2⟩ | ⟨hk, h1, h2, h3, h4⟩ | ⟨hk, h1, h2, h3, h5, h4⟩
  ·simp only [h1, h2]; simp; split <;> omega
  ·have hb0 : b = false := by
    rcases hb with h | ⟨_, h, _⟩
    ·exact h
    ·rw [h2] at h; cases h
   simp only [h1, h2, h3, hb0]
   simp
   repeat' split
   all_goals omega
  ·have hb0 : b = false := by
    rcases hb with h | ⟨_, h, _⟩
    ·exact h
    ·rw [h2] at h; cases h
   simp [h1, h2, h3, h4, hk, hb0]
  ·have hb0 : b = false := by
    rcases hb with h | ⟨_, h, _⟩
    ·exact h
    ·rw [h2] at h; cases h
   simp [h1, h2, h3, h4, hk, hb0, h5]
theorem stA_rng {j : JobS} {s : SchS} (hs : schOk s = true) {t : TabS} (ht : jTab j s = some t) {k : Int} (h : stA1 j t = some k) : k = 1 ∨ k = 2 ∨ k = 3 := by
 have hT := ((schOk_iff s).1 hs).tabs t (List.mem_of_find?_eq_some ht)
 unfold stA1 at h
 cases hx : ofIdx j.kind with
 | true =>
  rw [hx] at h
  obtain ⟨x, h1, _, h2⟩ := stOf_x h
  have := idxOk_st (hT.xo x h1); omega
 | false =>
  rw [hx] at h
  obtain ⟨x, h1, _, h2⟩ := stOf_c h
  have := colOk_st (hT.co x h1); omega
theorem next_cases (j : JobS) (s : SchS) (hs : schOk s = true) (hk : j.kind ≠ 5) :
  (jNext j s = nx3 ∧ (j.fin = true ∨ thingJ j s = none ∨ thingJ j s = some 3)) ∨
  ((jNext j s = ⟨1, [], false⟩ ∨ jNext j s = ⟨2, [], false⟩) ∧ rkS { j with full := true } s < rkS j s) ∨
  (jNext j s = ⟨0, [], false⟩ ∧ j.item = -1) ∨ ((jNext j s).ver = 0 ∧ (jNext j s).mv ≠ []) := by
 obtain ⟨J1, hJ1⟩ : ∃ x, x = ({ j with full := true } : JobS) := ⟨_, rfl⟩
 rw [← hJ1]
 cases hf : j.fin with
 | true => exact .inl ⟨by unfold jNext; rw [if_pos hf], .inl rfl⟩
 | false =>
  cases ht : jTab j s with
  | none => exact .inl ⟨by rw [jNext_none hk ht], .inr (.inl (by unfold thingJ; rw [ht]; rfl))⟩
  | some t =>
   have hth : thingJ j s = stA1 j t := by unfold thingJ; rw [ht]; rfl
   have hr : rkS j s = rkJ j t := by unfold rkS; rw [if_neg (by rw [hf]; decide), ht]
   have ht2 : jTab J1 s = some t := by rw [hJ1]; exact ht
   have hf2 : J1.fin = false := by rw [hJ1]; exact hf
   have hr2 : rkS J1 s = rkJ J1 t := by unfold rkS; rw [if_neg (by rw [hf2]; decide), ht2]
   have e1 : stA1 J1 t = stA1 j t := by rw [hJ1]; rfl
   have e2 : stB1 J1 t = stB1 j t := by rw [hJ1]; rfl
   have e3 : downJ J1 = downJ j := by rw [hJ1]; rfl
   have e4 : J1.full = true := by rw [hJ1]
   have e5 : J1.kind = j.kind := by rw [hJ1]
   rw [jNext_tab hf hk ht, hth, hr, hr2]
   have hrg := fun k (h : stA1 j t = some k) => stA_rng hs ht h
   unfold plJT rkJ
   simp only [e1, e2, e3, e4, e5]
   by_cases hd : downJ j
   ·have hd1 : j.kind = 1 ∨ j.kind = 3 ∨ j.back = true := hd
    rw [if_pos hd1, if_pos hd, if_pos hd, plDown_eq]
    cases ha : stA1 j t with
    | none => left; simp [nx3]
    | some k =>
     rcases hrg k ha with rfl | rfl | rfl
     ·unfold plPart
      cases hfl : j.full with
      | true => right; right; right; simp
      | false => right; left; simp
     ·right; right; right; simp
     ·right; right; right; simp
   ·have hd1 : ¬ (j.kind = 1 ∨ j.kind = 3 ∨ j.back = true) := hd
    rw [if_neg hd1, if_neg hd, if_neg hd, plUp_eq]
    cases ha : stA1 j t with
    | none =>
     by_cases hi : j.item = -1
     ·right; right; left; simp [hi]
     ·left; simp [hi, nx3]
    | some k =>
     rcases hrg k ha with rfl | rfl | rfl
     ·right; right; right; simp
     ·unfold plPart
      cases hfl : j.full with
      | true => right; right; right; simp
      | false => right; left; simp
     ·by_cases h4 : j.kind = 4
      ·simp only [h4]
       rw [plOther_eq]
       by_cases b2 : stB1 j t = some 2
       ·right; right; right; simp [b2]
       ·by_cases b1 : stB1 j t = some 1
        ·unfold plPart
         cases hfl : j.full with
         | true => right; right; right; simp [b1]
         | false => right; left; simp [b1]
        ·left; simp [b1, b2, nx3]
      ·left; simp [h4, nx3]
def jeSt (j : JobS) (y : Bool × SchS × Nat) : AS := ⟨slotsOf 120 [(2, .ptr 0 0 18), (3, .ptr 1 0 3), (48, .c (.int .i64 (y.2.2 : Nat)))], [.o .box (jobA { j with full := y.1 }), .o .box (schA y.2.1)]⟩
set_option maxHeartbeats 16000000 in
theorem jends_w (j : JobS) (ho : j.Ok) (s : SchS) (hos : s.Ok) : ACalls Tryz.prog 8 [.agg (jobA j), .agg (schA s)] [] (fun _ => false) (fun r h' => r = .c (.bool true)) := by
 refine acalls mixed Tryz.func8 rfl Tryz.ntmps8 rfl fun E hE hst hho => ?_
 obtain ⟨R, hR⟩ := jfit_dec2 j
 have c0 := r16Small_w j ho R hR
 have hsc : ∀ s : SchS, schA s = [.c (.int .i64 s.ver), .c (.int .i64 s.next), .fs 4 s.tabs.length (tabsA s.tabs)] := fun _ => rfl
 have hja : ∀ j : JobS, jobA j = [.c (.int .i64 j.id), .c (.int .i64 j.kind), .c (.int .i64 j.table), .c (.string j.name), .fs 10 j.cols.length (colsA j.cols), .c (.int .i64 j.idx.id), .c (.string j.idx.name), .fs 1 j.idx.cols.length (intsA j.idx.cols), .c (.bool j.idx.uniq), .c (.int .i64 j.idx.st), .c (.int .i64 j.item), .c (.int .i64 j.other), .c (.string j.mark), .c (.bool j.full), .c (.bool j.fence), .c (.bool j.back), .c (.int .i64 j.err), .c (.bool j.fin)] := fun _ => rfl
 obtain ⟨Q, hQ⟩ := fit_dec2 s
 have c1 := small_r12 s Q hQ
 simp only [hsc, hja] at c0 c1
 simp (maxSteps := 1000000) [hho, noHo, hja, hsc, -List.reduceReplicate]
 refine call_0 (first16_w) rfl rfl hho (by simp) ?_
 simp (maxSteps := 1000000) [hho, noHo, -List.reduceReplicate]
 refine call_0 (c0) rfl rfl hho (by simp) ?_
 cases R with
 | false =>
  simp (maxSteps := 1000000) [hho, noHo, undef, onGP_none, condG_false, -List.reduceReplicate]
  exact Ret.drop (by rfl) rfl
 | true =>
 simp (maxSteps := 1000000) [hho, noHo, undef, onGP_none, condG_false, -List.reduceReplicate]
 refine call_0 (c1) rfl rfl hho (by simp) ?_
 cases Q with
 | false =>
  simp (maxSteps := 1000000) [hho, noHo, undef, onGP_none, condG_false, -List.reduceReplicate]
  exact Ret.drop (by rfl) rfl
 | true =>
 have hf := hQ.1 rfl
 obtain ⟨hb1, hb2⟩ := fit_big2 hf
 have hf1 := hf.1
 have c2 := right_r12 s hb1 hb2
 simp only [hsc] at c2
 simp (maxSteps := 1000000) [hho, noHo, undef, onGP_none, condG_false, -List.reduceReplicate]
 refine call_0 (c2) rfl rfl hho (by simp) ?_
 cases hok : schOk s with
 | false =>
  simp (maxSteps := 1000000) [hho, noHo, undef, onGP_none, condG_false, -List.reduceReplicate]
  exact Ret.drop (by rfl) rfl
 | true =>
 by_cases hv : 1152921504606846976 < s.ver
 ·simp (maxSteps := 1000000) [hho, noHo, hv, undef, onGP_none, condG_false, -List.reduceReplicate]
  exact Ret.drop (by rfl) rfl
 by_cases k5 : j.kind = 5
 ·simp (maxSteps := 1000000) [hho, noHo, hv, k5, undef, onGP_none, condG_false, -List.reduceReplicate]
  exact Ret.drop (by rfl) rfl
 by_cases k0 : j.kind < 0
 ·simp (maxSteps := 1000000) [hho, noHo, hv, k5, k0, undef, onGP_none, condG_false, -List.reduceReplicate]
  exact Ret.drop (by rfl) rfl
 by_cases k6 : 5 < j.kind
 ·simp (maxSteps := 1000000) [hho, noHo, hv, k5, k0, k6, undef, onGP_none, condG_false, -List.reduceReplicate]
  exact Ret.drop (by rfl) rfl
 have hSB : SB s := ⟨by omega, hb2, hos⟩
 simp (maxSteps := 1000000) [hho, noHo, hv, k5, k0, k6, undef, onGP_none, condG_false, -List.reduceReplicate]
 obtain ⟨SJ, hSJ⟩ : ∃ S, S = jeSt j := ⟨_, rfl⟩
 refine loop_k mixed SJ (fun y => 12 - y.2.2) (fun y => y.2.2 ≤ 12 ∧ schOk y.2.1 = true ∧ SB y.2.1 ∧ y.2.1.ver ≤ 1152921504606846976 + y.2.2 ∧ rkS { j with full := y.1 } y.2.1 + y.2.2 ≤ 12) (false, s, 0) ⟨Nat.zero_le _, hok, hSB, by simp only; omega, by have := (rkS_pos { j with full := false } s).2; simp only; omega⟩ ?_ ?_
 ·rw [hSJ]
  exact wk_eq (by simp [hE, lens]) (by simp [jeSt, hsc, hja]) (by simp [livH, livO, AV.livL, AV.liv, wkL, wkV, List.range', jeSt, slotsOf])
 clear c0 c1 c2 hR hQ hf hb1 hb2 hf1 hok hv hSB hos
 rintro ⟨b, s, i⟩ ⟨hi, hok, hSB, hv, hr⟩
 simp only at hi hok hSB hv hr ⊢
 have eS : SJ (b, s, i) = jeSt j (b, s, i) := by rw [hSJ]
 obtain ⟨g1, g2⟩ := sok_small hok
 obtain ⟨J, hJ⟩ : ∃ J : JobS, J = { j with full := b } := ⟨_, rfl⟩
 have hJk : J.kind = j.kind := by rw [hJ]
 have hJi : J.item = j.item := by rw [hJ]
 have hJf : J.fin = j.fin := by rw [hJ]
 have hJb : J.full = b := by rw [hJ]
 have hJbk : J.back = j.back := by rw [hJ]
 have hJo : J.Ok := by rw [hJ]; exact ho
 have hJu : ∀ c, ({ J with full := c } : JobS) = { j with full := c } := fun c => by rw [hJ]
 have c3 := jbNext_w J s g1 g2
 have c4 := jbThing_w J s g1 g2
 have hmain := @jNext_main J s
 have hnc := next_cases J s hok (by rw [hJk]; exact k5)
 have hpos := (rkS_pos J s).1
 rw [← hJ] at hr
 have hi12 : i < 12 := by omega
 have hi12' : (i : Int) < 12 := by omega
 have ew : IntKind.i64.wrap ((i : Int) + 1) = (i + 1 : Nat) := by rw [IntWalk.i64_in _ (by omega)]; rfl
 obtain ⟨n, hn⟩ : ∃ n, n = jNext J s := ⟨_, rfl⟩
 rw [← hn] at c3 hmain hnc
 simp only [hsc, hja J] at c3
 simp only [jeSt, ← hJ] at eS
 rcases hnc with ⟨n1, n2⟩ | ⟨n1, n2⟩ | ⟨n1, n3⟩ | ⟨n1, n2⟩
 ·rw [n1, nx3, nxA_nil] at c3
  obtain ⟨o, hoe⟩ : ∃ o, o = thingJ J s := ⟨_, rfl⟩
  rw [← hoe] at c4 n2
  unfold stA at c4
  simp only [hsc, hja J] at c4
  rw [eS]
  rcases n2 with h | h | h
  ·simp (maxSteps := 1000000) [hho, noHo, slotsOf, hsc, hja J, hi12', undef, onGP_none, condG_false, -List.reduceReplicate]
   refine call_0 (c3) rfl rfl hho (by simp) ?_
   simp (maxSteps := 1000000) [hho, noHo, undef, onGP_none, condG_false, -List.reduceReplicate]
   refine call_0 (c4) rfl rfl hho (by simp) ?_
   simp (maxSteps := 1000000) [hho, noHo, h, undef, onGP_none, condG_false, -List.reduceReplicate]
   exact Ret.drop (by rfl) rfl
  ·rw [h] at c4
   cases hfi : J.fin
   all_goals (rw [hfi] at c3 c4)
   all_goals simp (maxSteps := 1000000) [hho, noHo, slotsOf, hsc, hja J, hi12', hfi, undef, onGP_none, condG_false, -List.reduceReplicate]
   all_goals refine call_0 (c3) rfl rfl hho (by simp) ?_
   all_goals simp (maxSteps := 1000000) [hho, noHo, undef, onGP_none, condG_false, -List.reduceReplicate]
   all_goals refine call_0 (c4) rfl rfl hho (by simp) ?_
   all_goals simp (maxSteps := 1000000) [hho, noHo, hfi, undef, onGP_none, condG_false, -List.reduceReplicate]
   all_goals exact Ret.drop (by rfl) rfl
  ·rw [h] at c4
   cases hfi : J.fin
   all_goals (rw [hfi] at c3 c4)
   all_goals simp (maxSteps := 1000000) [hho, noHo, slotsOf, hsc, hja J, hi12', hfi, undef, onGP_none, condG_false, -List.reduceReplicate]
   all_goals refine call_0 (c3) rfl rfl hho (by simp) ?_
   all_goals simp (maxSteps := 1000000) [hho, noHo, undef, onGP_none, condG_false, -List.reduceReplicate]
   all_goals refine call_0 (c4) rfl rfl hho (by simp) ?_
   all_goals simp (maxSteps := 1000000) [hho, noHo, hfi, undef, onGP_none, condG_false, -List.reduceReplicate]
   all_goals exact Ret.drop (by rfl) rfl
 ·rw [hJu] at n2
  rw [eS]
  rcases n1 with n1 | n1
  all_goals (rw [n1, nxA_nil] at c3)
  all_goals simp (maxSteps := 1000000) [hho, noHo, slotsOf, hsc, hja J, hi12', undef, onGP_none, condG_false, -List.reduceReplicate]
  all_goals refine call_0 (c3) rfl rfl hho (by simp) ?_
  all_goals simp (maxSteps := 1000000) [hho, noHo, ew, undef, onGP_none, condG_false, -List.reduceReplicate]
  all_goals refine round_next (true, s, i + 1) ⟨by simp only; omega, hok, hSB, by simp only; omega, by simp only; omega⟩ (by simp only; omega) ?_
  all_goals exact wk_of 2 1 rfl (by simp [hE, lens]) (by simp [hSJ, jeSt, hsc, hja, hJ]) (by simp [livH, livO, AV.livL, AV.liv, wkL, wkV, List.range', hSJ, jeSt, hsc, hja, hJ]) (by simp [livH, livO, AV.livL, AV.liv, wkL, wkV, List.range', hSJ, jeSt, slotsOf])
 ·rw [n1, nxA_nil] at c3
  rw [eS]
  simp (maxSteps := 1000000) [hho, noHo, slotsOf, hsc, hja J, hi12', undef, onGP_none, condG_false, -List.reduceReplicate]
  refine call_0 (c3) rfl rfl hho (by simp) ?_
  simp (maxSteps := 1000000) [hho, noHo, n3, undef, onGP_none, condG_false, -List.reduceReplicate]
  exact Ret.drop (by rfl) rfl
 ·obtain ⟨hfin, hk5, t, ht, hnt⟩ := hmain n1 n2
  have hpe := plan_end hok ht (by rw [← hnt]; exact n1) (by rw [← hnt]; exact n2)
  have hpm := plan_movs hJo t
  rw [← hnt] at hpe hpm
  clear hnt hmain hn c4
  obtain ⟨v, L, u⟩ := n
  simp only at n1 n2 hpm
  subst n1
  have hL1 : ¬ L.length = 0 := fun h => n2 (List.eq_nil_of_length_eq_zero h)
  have hL2 : ¬ (L.length : Int) = 0 := by omega
  have hslen := hSB.len
  have hstp := step_w s (L.map mvOf) (by omega) hSB.len hSB.big (by have := hpm.1; simp; omega) hpm.2
  rw [stepP_eq] at hstp
  have hstp : ACalls Tryz.prog 18 [.agg (schA s), .fs 4 L.length (mvsA L)] [] (fun _ => false) (fun r h' => r = .tup [.agg (schA (stepS s (L.map mvOf)).1), .c (.int .i64 (stepS s (L.map mvOf)).2)] ∧ h' = []) := by
   rw [mvsA_of]
   have := hstp
   rw [List.length_map] at this
   exact this
  have hsb := @step_SB s (L.map mvOf) hSB hpm.2 (by omega)
  have hsv : (stepS s (L.map mvOf)).2 = 0 → (stepS s (L.map mvOf)).1.ver = s.ver + 1 := fun h => by rw [(step_ok h).1]
  have hrun := hpe.run
  simp only at hrun
  clear hpe
  obtain ⟨q, hq⟩ : ∃ q, q = stepS s (L.map mvOf) := ⟨_, rfl⟩
  rw [← hq] at hstp hsb hrun hsv
  clear hq
  rw [nxA_ne 0 L u n2] at c3
  rcases hrun with ⟨m, l, hml, hof, he⟩ | ⟨he, hok2, t', ht', htr⟩
  ·rw [he] at hstp
   simp only [hsc] at hstp
   rw [eS]
   simp (maxSteps := 1000000) [hho, noHo, slotsOf, hsc, hja J, hi12', undef, onGP_none, condG_false, -List.reduceReplicate]
   refine call_0 (c3) rfl rfl hho (by simp) ?_
   simp (maxSteps := 1000000) [hho, noHo, hL1, hL2, undef, onGP_none, condG_false, -List.reduceReplicate]
   refine call_0 (hstp) rfl rfl hho (by simp) ?_
   simp (maxSteps := 1000000) [hho, noHo, undef, onGP_none, condG_false, -List.reduceReplicate]
   exact Ret.drop (by rfl) rfl
  ·obtain ⟨p, e⟩ := q
   simp only at he hok2 ht' hsb hsv
   subst he
   have hsb2 := hsb rfl
   have hsv2 := hsv rfl
   obtain ⟨g3, g4⟩ := sok_small hok2
   have c5 := jbThing_w J p g3 g4
   have hth : thingJ J p = stA1 J t' := by unfold thingJ; rw [ht']; rfl
   have hrk : rkS J s = rkJ J t := by unfold rkS; rw [if_neg (by rw [hfin]; decide), ht]
   have hnext : ∀ b', (b' = false ∨ (b' = J.full ∧ stA1 J t' = some 2 ∧ ¬ downJ J)) → i + 1 ≤ 12 ∧ schOk p = true ∧ SB p ∧ p.ver ≤ 1152921504606846976 + ((i + 1 : Nat) : Int) ∧ rkS { j with full := b' } p + (i + 1) ≤ 12 := fun b' h => by
    have h1 := htr.rk h
    have h2 : rkS { J with full := b' } p = rkJ { J with full := b' } t' := by
     have e1 : ({ J with full := b' } : JobS).fin = false := hfin
     have e2 : jTab { J with full := b' } p = some t' := ht'
     unfold rkS; rw [if_neg (by rw [e1]; decide), e2]
    rw [← hJu, h2]
    exact ⟨by omega, hok2, hsb2, by omega, by omega⟩
   rw [hth] at c5
   obtain ⟨o, hoe⟩ : ∃ o, o = stA1 J t' := ⟨_, rfl⟩
   rw [← hoe] at c5 hnext
   unfold stA at c5
   obtain ⟨k, hk⟩ : ∃ k, k = o.getD 0 := ⟨_, rfl⟩
   obtain ⟨w, hw⟩ : ∃ w, w = o.isSome := ⟨_, rfl⟩
   rw [← hk, ← hw] at c5
   simp only [hsc, hja J] at hstp c5
   rw [eS]
   simp (maxSteps := 1000000) [hho, noHo, slotsOf, hsc, hja J, hi12', undef, onGP_none, condG_false, -List.reduceReplicate]
   refine call_0 (c3) rfl rfl hho (by simp) ?_
   simp (maxSteps := 1000000) [hho, noHo, hL1, hL2, undef, onGP_none, condG_false, -List.reduceReplicate]
   refine call_0 (hstp) rfl rfl hho (by simp) ?_
   simp (maxSteps := 1000000) [hho, noHo, undef, onGP_none, condG_false, -List.reduceReplicate]
   refine call_0 (c5) rfl rfl hho (by simp) ?_
   by_cases z1 : k = 2
   ·cases hbk : J.back with
    | true =>
     have hbj : j.back = true := by rw [← hJbk]; exact hbk
     simp (maxSteps := 1000000) [hho, noHo, z1, hbk, ew, undef, onGP_none, condG_false, -List.reduceReplicate]
     refine round_next (false, p, i + 1) (hnext _ (.inl rfl)) (by simp only; omega) ?_
     exact wk_of 2 2 rfl (by simp [hE, lens]) (by simp [hSJ, jeSt, hsc, hja, hJ, hbj]) (by simp [livH, livO, AV.livL, AV.liv, wkL, wkV, List.range', hSJ, jeSt, hsc, hja, hJ, hbj]) (by simp [livH, livO, AV.livL, AV.liv, wkL, wkV, List.range', hSJ, jeSt, slotsOf])
    | false =>
     have hbj : j.back = false := by rw [← hJbk]; exact hbk
     by_cases z2 : J.kind = 1
     ·have z2j : j.kind = 1 := by rw [← hJk]; exact z2
      simp (maxSteps := 1000000) [hho, noHo, z1, hbk, z2, ew, undef, onGP_none, condG_false, -List.reduceReplicate]
      refine round_next (false, p, i + 1) (hnext _ (.inl rfl)) (by simp only; omega) ?_
      exact wk_of 2 2 rfl (by simp [hE, lens]) (by simp [hSJ, jeSt, hsc, hja, hJ, hbj, z2j]) (by simp [livH, livO, AV.livL, AV.liv, wkL, wkV, List.range', hSJ, jeSt, hsc, hja, hJ, hbj, z2j]) (by simp [livH, livO, AV.livL, AV.liv, wkL, wkV, List.range', hSJ, jeSt, slotsOf])
     by_cases z3 : J.kind = 3
     ·have z3j : j.kind = 3 := by rw [← hJk]; exact z3
      simp (maxSteps := 1000000) [hho, noHo, z1, hbk, z2, z3, ew, undef, onGP_none, condG_false, -List.reduceReplicate]
      refine round_next (false, p, i + 1) (hnext _ (.inl rfl)) (by simp only; omega) ?_
      exact wk_of 2 2 rfl (by simp [hE, lens]) (by simp [hSJ, jeSt, hsc, hja, hJ, hbj, z3j]) (by simp [livH, livO, AV.livL, AV.liv, wkL, wkV, List.range', hSJ, jeSt, hsc, hja, hJ, hbj, z3j]) (by simp [livH, livO, AV.livL, AV.liv, wkL, wkV, List.range', hSJ, jeSt, slotsOf])
     have hkeep : o = some 2 := by
      cases o with
      | none => simp at hk; omega
      | some x => simp at hk; rw [← hk, z1]
     have hnd : ¬ downJ J := fun h => by
      rcases h with h | h | h
      ·exact z2 h
      ·exact z3 h
      ·rw [hbk] at h; cases h
     simp (maxSteps := 1000000) [hho, noHo, z1, hbk, z2, z3, ew, undef, onGP_none, condG_false, -List.reduceReplicate]
     refine round_next (b, p, i + 1) (hnext _ (.inr ⟨hJb.symm, hkeep, hnd⟩)) (by simp only; omega) ?_
     exact wk_of 2 2 rfl (by simp [hE, lens]) (by simp [hSJ, jeSt, hsc, hja, hJ, hbj]) (by simp [livH, livO, AV.livL, AV.liv, wkL, wkV, List.range', hSJ, jeSt, hsc, hja, hJ, hbj]) (by simp [livH, livO, AV.livL, AV.liv, wkL, wkV, List.range', hSJ, jeSt, slotsOf])
   ·simp (maxSteps := 1000000) [hho, noHo, z1, ew, undef, onGP_none, condG_false, -List.reduceReplicate]
    refine round_next (false, p, i + 1) (hnext _ (.inl rfl)) (by simp only; omega) ?_
    exact wk_of 2 2 rfl (by simp [hE, lens]) (by simp [hSJ, jeSt, hsc, hja, hJ]) (by simp [livH, livO, AV.livL, AV.liv, wkL, wkV, List.range', hSJ, jeSt, hsc, hja, hJ]) (by simp [livH, livO, AV.livL, AV.liv, wkL, wkV, List.range', hSJ, jeSt, slotsOf])
end Go.Proofs.YthgoocdldnkogaaGreatDoor
