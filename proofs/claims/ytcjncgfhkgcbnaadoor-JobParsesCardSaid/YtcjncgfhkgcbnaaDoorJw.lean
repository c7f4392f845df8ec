import Derived.Test.YtcjncgfhkgcbnaaDoorJe
import Derived.Test.YtcjncgfhkgcbnaaDoorJc
import Derived.Test.YtcjncgfhkgcbnaaDoorH6
namespace Go.Proofs.YtcjncgfhkgcbnaaDoor
set_option linter.unusedVariables false
set_option linter.unusedSimpArgs false
open Go.RowKit
attribute [local simp] isCut_nil isCut_region isCut_seq isCut_block isCut_loop isCut_cond isCut_skip isCut_exit isCut_ret isCut_range swapK putK altK condK_bool pickP_bool stepP stepO onPure_some onPure_none onImpl_some onImpl_none stepC onGP_some onGP_none onGV_some condG mkG onIt_it nextP_ptr takeP_eq takeV_some takeV_none takeU_some takeU_none takeQ takeW_some takeN_none takeN_some takeG_some takeO_some altO_some pureV binV2 eqF eqOp ovlV ovl2 rowAt capV binV intBin strBin isSh shV fldV ixV sliceV slice3V loadAV nilV lenV callV unV convV viewS cellsH loadV fldCut AV.ung AV.ungs AV.gc AV.cells AS.ev AS.put anyS gcsV gcO lens lnO gV guardV retK RetP_eq resV oneV anyRo loIx hiIx implO callP_clo evL gcsL clearV storeAV AS.push AS.setO appV appZ shortS copyV buildV partsV fillV srcV fzO okV isCell_c isCell_ptr isCell_sl isCell_fs isCell_fp isCell_clo rowZ_one rowZ_zero rowZ_2 rowZ_3 rowZ_4 rowZ_5 rowZ_6 rowZ_7 rowZ_8 rowZ_9 rowZ_10 rowZ_11 rowZ_12 noHo Value.oneCell' max2V min2V lookV updV lenM msAt afterH putBack frzFrom frzO rebO backIx nilEq_sl nilEq_fs nilOp_eql nilOp_neq AV.reb AV.rebL
attribute [local simp ↓] runK_skip runK_region runK_draw runK_seq runK_cut runK_cond runK_block runK_loop runK_exit runK_label runK_goto runK_ret runK_range contK_nil contK_seq contK_seq_ret contK_seq_exit contK_seq_goto contK_block contK_block_ret contK_block_goto contK_block_exit runO_nil runO_cons roundK_exit roundK_ret roundK_goto exitK_ret cutK_ret cutK_exit runE_done runE_nil runE_take runE_alt condG_true condG_false
set_option maxRecDepth 10000
theorem flagI_i (x : Bool) : i64v (flagI x) := by unfold flagI; cases x <;> exact ⟨by decide, by decide⟩
theorem len_i (n : Nat) (h : n ≤ 1000000) : i64v n := ⟨by omega, by omega⟩
theorem r16num1 (a : Int) (ha : i64v a) : ACalls Tryd.prog 37 [.fs 1 1 [.c (.int .i64 a)]] [] (fun _ => false) (fun r h' => r = .c (.string (str (num a))) ∧ h' = []) := by
  have h := r16num_w [a] (by simp) (fun k hk => by rw [List.mem_singleton.1 hk]; exact ha)
  have e : numsB [a] = num a := by simp [numsB]
  rw [e] at h; exact h
theorem r16num3 (a b c : Int) (ha : i64v a) (hb : i64v b) (hc : i64v c) : ACalls Tryd.prog 37 [.fs 1 3 [.c (.int .i64 a), .c (.int .i64 b), .c (.int .i64 c)]] [] (fun _ => false) (fun r h' => r = .c (.string (str (num a ++ (num b ++ num c)))) ∧ h' = []) := by
  have h := r16num_w [a, b, c] (by simp) (fun k hk => by simp at hk; rcases hk with rfl | rfl | rfl <;> assumption)
  have e : numsB [a, b, c] = num a ++ (num b ++ num c) := by simp [numsB]
  rw [e] at h; exact h
theorem r16num5 (a b c d e : Int) (ha : i64v a) (hb : i64v b) (hc : i64v c) (hd : i64v d) (he : i64v e) : ACalls Tryd.prog 37 [.fs 1 5 [.c (.int .i64 a), .c (.int .i64 b), .c (.int .i64 c), .c (.int .i64 d), .c (.int .i64 e)]] [] (fun _ => false) (fun r h' => r = .c (.string (str (num a ++ (num b ++ (num c ++ (num d ++ num e)))))) ∧ h' = []) := by
  have h := r16num_w [a, b, c, d, e] (by simp) (fun k hk => by simp at hk; rcases hk with rfl | rfl | rfl | rfl | rfl <;> assumption)
  have e : numsB [a, b, c, d, e] = num a ++ (num b ++ (num c ++ (num d ++ num e))) := by simp [numsB]
  rw [e] at h; exact h
set_option maxHeartbeats 32000000 in
theorem r16Put_w (j : JobS) (hok : jobOk j = true) (hn : j.name.size ≤ 100000) (ho : j.Ok) : ACalls Tryd.prog 12 [.agg (jobA j)] [] (fun _ => false) (fun r h' => r = .c (.string (str (jobB j))) ∧ h' = []) := by
  refine acallsC [8] mixed Tryd.func12 rfl Tryd.ntmps12 rfl fun E hE hst hho => ?_
  obtain ⟨m1, m2, m3, m4⟩ := jobOk_mem hok
  obtain ⟨i1, i2, i3, i4⟩ := jiOk_mem m3
  obtain ⟨o1, o2, o3, o4, o5, o6, o7, o8, o9, o10⟩ := ho
  obtain ⟨x1, x2, x3, x4⟩ := o6
  have hfl := fun i => flat_len (f := jcB) (m := 400) (j.cols.take i) fun c hc => jcB_len (m4 c (List.mem_of_mem_take hc)) (o5 c (List.mem_of_mem_take hc))
  have y1 := num_len j.id o1.1 o1.2
  have y2 := num_len j.kind o2.1 o2.2
  have y3 := num_len j.table o3.1 o3.2
  have y4 := txt_len j.name (by omega)
  have y5 := num_len j.cols.length (by omega) (by omega)
  obtain ⟨P0, hP0⟩ : ∃ P, P = num j.id ++ (num j.kind ++ num j.table) ++ txt j.name ++ num j.cols.length := ⟨_, rfl⟩
  have lP0 : P0.length ≤ 200000 := by rw [hP0]; simp only [List.length_append]; omega
  have c1 := r16num3 j.id j.kind j.table o1 o2 o3
  have c2 := r16text_w j.name (by omega)
  have c3 := r16num1 j.cols.length (len_i _ (by omega))
  simp (maxSteps := 1000000) [hho, noHo, jobA, -List.reduceReplicate]
  refine draw_cut (fun _ : Unit => ⟨slotsOf 113 [(1, .ptr 0 0 18), (3, .c (.string (str P0)))], [.o .box (jobA j)]⟩) (fun _ => True) ?_ ?_
  case refine_2 =>
    refine draw_k hho (.take 0 (.take 1 (.take 2 (.take 3 (.take 4 (.take 5 (.take 8 (.take 9 (.take 12 (.take 13 (.take 14 (.alt 6 (.alt 7 (.alt 10 (.take 11 (.alt 15 (.alt 16 (.take 17 (.take 18 (.done))) (.nil)) (.nil))) (.alt 15 (.alt 10 (.take 11 (.alt 16 (.take 17 (.take 18 (.done))) (.nil))) (.nil)) (.nil))) (.alt 15 (.alt 7 (.alt 10 (.take 11 (.alt 16 (.take 17 (.take 18 (.done))) (.nil))) (.nil)) (.nil)) (.nil))) (.alt 15 (.alt 6 (.alt 7 (.alt 10 (.take 11 (.alt 16 (.take 17 (.take 18 (.done))) (.nil))) (.nil)) (.nil)) (.nil)) (.nil)))))))))))))) [0] [] (by decide +kernel) (by simp) ?_
    simp (maxSteps := 1000000) [hho, noHo, roOf, holdOf, wrOf, altK, heldOk, Region.binds, -List.reduceReplicate]
    repeat' (first | apply And.intro | with_reducible intro _)
    all_goals try omega
    all_goals
      refine call_hd [] (fun k => decide (1 ≤ k)) (c1) rfl rfl ⟨rfl, rfl⟩ (by simp) (fun k hk => by have := of_decide_eq_true hk; simp; omega) (by simp) (by decide) (by simp) (by simp [isD_c, maxLen]) (by simp) ?_
      simp (maxSteps := 1000000) [hho, noHo, bytesOf_str, str_app, str_size, roOf, holdOf, wrOf, altK, heldOk, Region.binds, -List.reduceReplicate]
    repeat' (first | apply And.intro | with_reducible intro _)
    all_goals try omega
    all_goals
      refine call_h [] (c2) rfl rfl ⟨rfl, rfl⟩ (by simp) (by simp) (by decide) (by simp) (by simp) ?_
      simp (maxSteps := 1000000) [hho, noHo, bytesOf_str, str_app, str_size, roOf, holdOf, wrOf, altK, heldOk, Region.binds, -List.reduceReplicate]
    repeat' (first | apply And.intro | with_reducible intro _)
    all_goals try omega
    all_goals
      refine call_hd [] (fun k => decide (1 ≤ k)) (c3) rfl rfl ⟨rfl, rfl⟩ (by simp) (fun k hk => by have := of_decide_eq_true hk; simp; omega) (by simp) (by decide) (by simp) (by simp [isD_c, maxLen]) (by simp) ?_
      simp (maxSteps := 1000000) [hho, noHo, bytesOf_str, str_app, str_size, roOf, holdOf, wrOf, altK, heldOk, Region.binds, -List.reduceReplicate]
    repeat' (first | apply And.intro | with_reducible intro _)
    all_goals try omega
    all_goals
      refine dcut_to () trivial ?_
      exact wk_of 1 2 (by simp) (by simp [hE, lens]) (by simp [jobA]) (by simp [livH, livO, AV.livL, AV.liv, wkL, wkV, List.range', jobA]) (by simp [livH, livO, AV.livL, AV.liv, wkL, wkV, List.range', slotsOf, hP0])
  intro _ _
  simp (maxSteps := 1000000) [hho, noHo, slotsOf, jobA, -List.reduceReplicate]
  refine loop_kc [8] mixed (fun i : Nat => ⟨slotsOf 113 [(1, .ptr 0 0 18), (3, .c (.string (str (P0 ++ (j.cols.take i).flatMap jcB)))), (26, .fs 10 j.cols.length (colsA j.cols)), (27, .c (.int .i64 j.cols.length)), (28, .c (.int .i64 (i : Nat)))], [.o .box (jobA j)]⟩) (fun i => j.cols.length - i) (fun i => i ≤ j.cols.length) 0 (Nat.zero_le _) ?_ ?_
  · exact wk_eq (by simp [hE, lens]) (by simp [jobA]) (by simp [livH, livO, AV.livL, AV.liv, wkL, wkV, List.range', slotsOf])
  intro i hi
  have hfi := hfl i
  rw [List.length_take] at hfi
  by_cases hil : i < j.cols.length
  · have hat := colsA_at j.cols i hil
    have ew : IntKind.i64.wrap ((i : Int) + 1) = (i + 1 : Nat) := by rw [IntWalk.i64_in _ (by omega)]; rfl
    have el : i * 10 + 10 ≤ j.cols.length * 10 := by omega
    have hsv : (j.cols.take (i + 1)).flatMap jcB = (j.cols.take i).flatMap jcB ++ jcB j.cols[i] := by rw [List.take_succ_eq_append_getElem hil, List.flatMap_append]; simp
    have hcm := m4 j.cols[i] (List.getElem_mem hil)
    have hco := o5 j.cols[i] (List.getElem_mem hil)
    obtain ⟨c, hce⟩ : ∃ c, c = j.cols[i] := ⟨_, rfl⟩
    rw [← hce] at hat hsv hcm hco
    obtain ⟨k0, k01, k1, k2⟩ := jcOk_mem hcm
    obtain ⟨r1, r2, r3, r4, r5⟩ := hco
    have hdl := rowB_dft_len c.dft k2 r4
    have d2 := r16text_w c.name (by omega)
    have d3 := r16flag_w c.nn
    have d4 := r16num3 c.ty.k c.ty.s (flagI c.nn) r3.1 r3.2 (flagI_i _)
    have d5 := put_ref (dftR c.dft) (by have := dftR_len c.dft; omega) (fun x hx => by
      have h0 : c.dft.k ≠ 0 := fun h => by unfold dftR at hx; rw [if_pos h] at hx; cases hx
      rw [dftR_mem hx]; exact ⟨⟨cell0_i, r4⟩, h0, k2⟩)
    have d6 := r16text_w (str (rowB (dftR c.dft))) (by rw [str_size]; omega)
    have z2 := txt_len c.name (by omega)
    have z3 := num_len c.ty.k r3.1.1 r3.1.2
    have z4 := num_len c.ty.s r3.2.1 r3.2.2
    have z5 := flagI_len2 c.nn
    have z6 := txt_len (str (rowB (dftR c.dft))) (by rw [str_size]; omega)
    rw [str_size] at z6
    obtain ⟨Q, hQ⟩ : ∃ Q, Q = P0 ++ (j.cols.take i).flatMap jcB := ⟨_, rfl⟩
    have lQ : Q.length ≤ 300000 := by rw [hQ, List.length_append]; omega
    obtain ⟨D, hD⟩ : ∃ D, D = str (rowB (dftR c.dft)) := ⟨_, rfl⟩
    have hQn : P0 ++ (j.cols.take (i + 1)).flatMap jcB = Q ++ (txt c.name ++ (num c.ty.k ++ (num c.ty.s ++ (num (flagI c.nn) ++ txt D)))) := by rw [hsv, hQ, hD]; simp [jcB]
    rw [← hQ]
    rw [← hD] at d5 d6 z6
    simp (maxSteps := 1000000) [hho, noHo, slotsOf, jobA, colA, hil, hat, el, -List.reduceReplicate]
    refine seq_cut mixed [] (fun _ : Unit => ⟨slotsOf 113 [(1, .ptr 0 0 18), (3, .c (.string (str Q))), (5, .ptr 1 0 10), (6, .fs 5 (dftR c.dft).length (cellsA (dftR c.dft))), (26, .fs 10 j.cols.length (colsA j.cols)), (27, .c (.int .i64 j.cols.length)), (28, .c (.int .i64 (i : Nat)))], [.o .box (jobA j), .o .box (colA c)]⟩) (fun _ => True) ?_ ?_
    case refine_2 =>
      by_cases hk0 : c.dft.k = 0
      · have hdz : dftR c.dft = [] := if_pos hk0
        simp (maxSteps := 1000000) [hho, noHo, hk0, undef, onGP_none, condG_false, -List.reduceReplicate]
        refine cut_to () trivial ?_
        refine Wk.trans (wk_slot 6 (new := .fs 5 0 []) rfl fun G F w v _ h => nil_fs0 5 h) ?_
        exact wk_eq (by simp [hE, lens]) (by simp [jobA, colA, hk0]) (by simp [livH, livO, AV.livL, AV.liv, wkL, wkV, List.range', slotsOf, hdz, cellsA])
      · have hdz : dftR c.dft = [⟨0, c.dft⟩] := if_neg hk0
        simp (maxSteps := 1000000) [hho, noHo, hk0, undef, onGP_none, condG_false, -List.reduceReplicate]
        refine cut_to () trivial ?_
        refine Wk.trans (wk_fz 2 rfl (by rw [hho]; rfl)) ?_
        refine Wk.trans (wk_slot 6 (new := .fs 5 1 (cellA ⟨0, c.dft⟩)) rfl fun G F w v hh h => fz_fs (k := 2) (sz := 5) (off := 0) (n := 1) (m := 5) (cs := cellA ⟨0, c.dft⟩) rfl rfl (by decide) (by unfold maxLen; decide) rfl hh h) ?_
        exact wk_of 2 1 (by simp) (by simp [hE, lens]) (by simp [jobA, colA]) (by simp [livH, livO, AV.livL, AV.liv, wkL, wkV, List.range', jobA, colA, cellA, valA]) (by simp [livH, livO, AV.livL, AV.liv, wkL, wkV, List.range', slotsOf, hdz, cellsA, cellA, valA])
    intro _ _
    simp (maxSteps := 1000000) [hho, noHo, slotsOf, colA, -List.reduceReplicate]
    refine draw_k hho (.take 0 (.take 1 (.take 2 (.take 4 (.take 5 (.take 6 (.take 7 (.take 8 (.take 9 (.take 10 (.take 11 (.take 16 (.alt 3 (.alt 12 (.alt 13 (.alt 14 (.take 15 (.alt 17 (.alt 18 (.take 19 (.take 20 (.take 21 (.done)))) (.nil)) (.nil))) (.nil)) (.nil)) (.nil)) (.nil)))))))))))))) [1] [] (by decide +kernel) (by simp) ?_
    simp (maxSteps := 1000000) [hho, noHo, roOf, holdOf, wrOf, altK, heldOk, Region.binds, -List.reduceReplicate]
    repeat' (first | apply And.intro | with_reducible intro _)
    all_goals try omega
    all_goals
      refine call_h [] (d2) rfl rfl ⟨rfl, rfl⟩ (by simp) (by simp) (by decide) (by simp) (by simp) ?_
      simp (maxSteps := 1000000) [hho, noHo, bytesOf_str, str_app, str_size, roOf, holdOf, wrOf, altK, heldOk, Region.binds, -List.reduceReplicate]
    repeat' (first | apply And.intro | with_reducible intro _)
    all_goals try omega
    all_goals
      refine call_h [] (d3) rfl rfl ⟨rfl, rfl⟩ (by simp) (by simp) (by decide) (by simp) (by simp) ?_
      simp (maxSteps := 1000000) [hho, noHo, bytesOf_str, str_app, str_size, roOf, holdOf, wrOf, altK, heldOk, Region.binds, -List.reduceReplicate]
    repeat' (first | apply And.intro | with_reducible intro _)
    all_goals try omega
    all_goals
      refine call_hd [] (fun k => decide (2 ≤ k)) (d4) rfl rfl ⟨rfl, rfl⟩ (by simp) (fun k hk => by have := of_decide_eq_true hk; simp; omega) (by simp) (by decide) (by simp) (by simp [isD_c, maxLen]) (by simp) ?_
      simp (maxSteps := 1000000) [hho, noHo, bytesOf_str, str_app, str_size, roOf, holdOf, wrOf, altK, heldOk, Region.binds, -List.reduceReplicate]
    repeat' (first | apply And.intro | with_reducible intro _)
    all_goals try omega
    all_goals
      refine call_h [] (d5) rfl rfl ⟨rfl, rfl⟩ (by simp) (by simp) (by decide) (by simp) (by simp) ?_
      simp (maxSteps := 1000000) [hho, noHo, bytesOf_str, str_app, str_size, roOf, holdOf, wrOf, altK, heldOk, Region.binds, -List.reduceReplicate]
    repeat' (first | apply And.intro | with_reducible intro _)
    all_goals try omega
    all_goals
      refine call_h [] (d6) rfl rfl ⟨rfl, rfl⟩ (by simp) (by simp) (by decide) (by simp) (by simp) ?_
      simp (maxSteps := 1000000) [hho, noHo, bytesOf_str, str_app, str_size, roOf, holdOf, wrOf, altK, heldOk, Region.binds, -List.reduceReplicate]
    repeat' (first | apply And.intro | with_reducible intro _)
    all_goals try omega
    all_goals
      refine round_next (i + 1) (by omega) (by omega) ?_
      exact wk_of 1 2 (by simp) (by simp [hE, lens]) (by simp [jobA]) (by simp [livH, livO, AV.livL, AV.liv, wkL, wkV, List.range', jobA]) (by simp [livH, livO, AV.livL, AV.liv, wkL, wkV, List.range', slotsOf, hQn, ew])
  obtain rfl : i = j.cols.length := by omega
  rw [List.take_length]
  have hfc := hfl j.cols.length
  rw [List.take_length] at hfc
  obtain ⟨P1, hP1⟩ : ∃ P1, P1 = P0 ++ j.cols.flatMap jcB := ⟨_, rfl⟩
  have lP1 : P1.length ≤ 300000 := by rw [hP1, List.length_append]; omega
  rw [← hP1]
  have d1 := r16text_w j.idx.name (by omega)
  have d2 := r16num1 j.idx.cols.length (len_i _ (by omega))
  have d3 := r16num_w j.idx.cols (by omega) x3
  have d4 := r16flag_w j.idx.uniq
  have d5 := r16num3 (flagI j.idx.uniq) j.item j.other (flagI_i _) o7 o8
  have d6 := r16text_w j.mark (by omega)
  have z1 := txt_len j.idx.name (by omega)
  have z2 := num_len j.idx.cols.length (by omega) (by omega)
  have z3 := numsB_len j.idx.cols x3
  have z4 := flagI_len2 j.idx.uniq
  have z5 := num_len j.item o7.1 o7.2
  have z6 := num_len j.other o8.1 o8.2
  have z7 := txt_len j.mark (by omega)
  obtain ⟨P2, hP2⟩ : ∃ P2, P2 = P1 ++ (txt j.idx.name ++ num j.idx.cols.length ++ numsB j.idx.cols ++ (num (flagI j.idx.uniq) ++ (num j.item ++ num j.other)) ++ txt j.mark) := ⟨_, rfl⟩
  have lP2 : P2.length ≤ 400000 := by rw [hP2]; simp only [List.length_append]; omega
  simp (maxSteps := 1000000) [hho, noHo, slotsOf, jobA, -List.reduceReplicate]
  refine draw_cut (fun _ : Unit => ⟨slotsOf 113 [(1, .ptr 0 0 18), (3, .c (.string (str P2)))], [.o .box (jobA j)]⟩) (fun _ => True) ?_ ?_
  case refine_2 =>
    refine draw_k hho (.take 0 (.take 1 (.take 2 (.take 3 (.take 5 (.take 6 (.take 7 (.take 8 (.take 12 (.take 13 (.take 14 (.take 17 (.take 18 (.take 19 (.take 21 (.take 22 (.take 23 (.take 24 (.take 28 (.take 29 (.alt 4 (.alt 9 (.alt 10 (.take 11 (.alt 15 (.take 16 (.alt 20 (.alt 25 (.alt 26 (.take 27 (.alt 30 (.take 31 (.take 32 (.take 33 (.done)))) (.nil))) (.nil)) (.nil)) (.nil))) (.nil))) (.nil)) (.nil)) (.alt 9 (.alt 4 (.alt 10 (.take 11 (.alt 15 (.take 16 (.alt 20 (.alt 25 (.alt 26 (.take 27 (.alt 30 (.take 31 (.take 32 (.take 33 (.done)))) (.nil))) (.nil)) (.nil)) (.nil))) (.nil))) (.nil)) (.nil)) (.nil))))))))))))))))))))))) [0] [] (by decide +kernel) (by simp) ?_
    simp (maxSteps := 1000000) [hho, noHo, roOf, holdOf, wrOf, altK, heldOk, Region.binds, -List.reduceReplicate]
    repeat' (first | apply And.intro | with_reducible intro _)
    all_goals try omega
    all_goals
      refine call_h [] (d1) rfl rfl ⟨rfl, rfl⟩ (by simp) (by simp) (by decide) (by simp) (by simp) ?_
      simp (maxSteps := 1000000) [hho, noHo, bytesOf_str, str_app, str_size, roOf, holdOf, wrOf, altK, heldOk, Region.binds, -List.reduceReplicate]
    repeat' (first | apply And.intro | with_reducible intro _)
    all_goals try omega
    all_goals
      refine call_hd [] (fun k => decide (1 ≤ k)) (d2) rfl rfl ⟨rfl, rfl⟩ (by simp) (fun k hk => by have := of_decide_eq_true hk; simp; omega) (by simp) (by decide) (by simp) (by simp [isD_c, maxLen]) (by simp) ?_
      simp (maxSteps := 1000000) [hho, noHo, bytesOf_str, str_app, str_size, roOf, holdOf, wrOf, altK, heldOk, Region.binds, -List.reduceReplicate]
    repeat' (first | apply And.intro | with_reducible intro _)
    all_goals try omega
    all_goals
      refine call_h [] (d3) rfl rfl ⟨rfl, rfl⟩ (by simp) (by simp) (by decide) (by simp) (by simp) ?_
      simp (maxSteps := 1000000) [hho, noHo, bytesOf_str, str_app, str_size, roOf, holdOf, wrOf, altK, heldOk, Region.binds, -List.reduceReplicate]
    repeat' (first | apply And.intro | with_reducible intro _)
    all_goals try omega
    all_goals
      refine call_h [] (d4) rfl rfl ⟨rfl, rfl⟩ (by simp) (by simp) (by decide) (by simp) (by simp) ?_
      simp (maxSteps := 1000000) [hho, noHo, bytesOf_str, str_app, str_size, roOf, holdOf, wrOf, altK, heldOk, Region.binds, -List.reduceReplicate]
    repeat' (first | apply And.intro | with_reducible intro _)
    all_goals try omega
    all_goals
      refine call_hd [] (fun k => decide (1 ≤ k)) (d5) rfl rfl ⟨rfl, rfl⟩ (by simp) (fun k hk => by have := of_decide_eq_true hk; simp; omega) (by simp) (by decide) (by simp) (by simp [isD_c, maxLen]) (by simp) ?_
      simp (maxSteps := 1000000) [hho, noHo, bytesOf_str, str_app, str_size, roOf, holdOf, wrOf, altK, heldOk, Region.binds, -List.reduceReplicate]
    repeat' (first | apply And.intro | with_reducible intro _)
    all_goals try omega
    all_goals
      refine call_h [] (d6) rfl rfl ⟨rfl, rfl⟩ (by simp) (by simp) (by decide) (by simp) (by simp) ?_
      simp (maxSteps := 1000000) [hho, noHo, bytesOf_str, str_app, str_size, roOf, holdOf, wrOf, altK, heldOk, Region.binds, -List.reduceReplicate]
    repeat' (first | apply And.intro | with_reducible intro _)
    all_goals try omega
    all_goals
      refine dcut_to () trivial ?_
      exact wk_of 1 2 (by simp) (by simp [hE, lens]) (by simp [jobA]) (by simp [livH, livO, AV.livL, AV.liv, wkL, wkV, List.range', jobA]) (by simp [livH, livO, AV.livL, AV.liv, wkL, wkV, List.range', slotsOf, hP2])
  intro _ _
  have f1 := r16flag_w j.full
  have f2 := r16flag_w j.fence
  have f3 := r16flag_w j.back
  have f4 := r16flag_w j.fin
  have f5 := r16num5 (flagI j.full) (flagI j.fence) (flagI j.back) j.err (flagI j.fin) (flagI_i _) (flagI_i _) (flagI_i _) o10 (flagI_i _)
  have w1 := flagI_len2 j.full
  have w2 := flagI_len2 j.fence
  have w3 := flagI_len2 j.back
  have w4 := flagI_len2 j.fin
  have w5 := num_len j.err o10.1 o10.2
  have hfin : jobB j = P2 ++ (num (flagI j.full) ++ (num (flagI j.fence) ++ (num (flagI j.back) ++ (num j.err ++ num (flagI j.fin))))) := by
    rw [hP2, hP1, hP0]
    simp [jobB, numsB]
  rw [hfin]
  simp (maxSteps := 1000000) [hho, noHo, slotsOf, jobA, -List.reduceReplicate]
  refine draw_k hho (.take 0 (.take 1 (.take 2 (.take 4 (.take 5 (.take 7 (.take 8 (.take 10 (.take 11 (.take 12 (.take 13 (.alt 3 (.alt 6 (.alt 9 (.alt 14 (.alt 15 (.alt 16 (.take 17 (.take 18 (.done))) (.nil)) (.nil)) (.nil)) (.nil)) (.nil)) (.nil))))))))))))) [0] [] (by decide +kernel) (by simp) ?_
  simp (maxSteps := 1000000) [hho, noHo, roOf, holdOf, wrOf, altK, heldOk, Region.binds, -List.reduceReplicate]
  repeat' (first | apply And.intro | with_reducible intro _)
  all_goals try omega
  all_goals
    refine call_h [] (f1) rfl rfl ⟨rfl, rfl⟩ (by simp) (by simp) (by decide) (by simp) (by simp) ?_
    simp (maxSteps := 1000000) [hho, noHo, bytesOf_str, str_app, str_size, roOf, holdOf, wrOf, altK, heldOk, Region.binds, -List.reduceReplicate]
  repeat' (first | apply And.intro | with_reducible intro _)
  all_goals try omega
  all_goals
    refine call_h [] (f2) rfl rfl ⟨rfl, rfl⟩ (by simp) (by simp) (by decide) (by simp) (by simp) ?_
    simp (maxSteps := 1000000) [hho, noHo, bytesOf_str, str_app, str_size, roOf, holdOf, wrOf, altK, heldOk, Region.binds, -List.reduceReplicate]
  repeat' (first | apply And.intro | with_reducible intro _)
  all_goals try omega
  all_goals
    refine call_h [] (f3) rfl rfl ⟨rfl, rfl⟩ (by simp) (by simp) (by decide) (by simp) (by simp) ?_
    simp (maxSteps := 1000000) [hho, noHo, bytesOf_str, str_app, str_size, roOf, holdOf, wrOf, altK, heldOk, Region.binds, -List.reduceReplicate]
  repeat' (first | apply And.intro | with_reducible intro _)
  all_goals try omega
  all_goals
    refine call_h [] (f4) rfl rfl ⟨rfl, rfl⟩ (by simp) (by simp) (by decide) (by simp) (by simp) ?_
    simp (maxSteps := 1000000) [hho, noHo, bytesOf_str, str_app, str_size, roOf, holdOf, wrOf, altK, heldOk, Region.binds, -List.reduceReplicate]
  repeat' (first | apply And.intro | with_reducible intro _)
  all_goals try omega
  all_goals
    refine call_hd [] (fun k => decide (1 ≤ k)) (f5) rfl rfl ⟨rfl, rfl⟩ (by simp) (fun k hk => by have := of_decide_eq_true hk; simp; omega) (by simp) (by decide) (by simp) (by simp [isD_c, maxLen]) (by simp) ?_
    simp (maxSteps := 1000000) [hho, noHo, bytesOf_str, str_app, str_size, roOf, holdOf, wrOf, altK, heldOk, Region.binds, -List.reduceReplicate]
  repeat' (first | apply And.intro | with_reducible intro _)
  all_goals try omega
  all_goals exact Ret.drop (by rfl) ⟨rfl, rfl⟩
end Go.Proofs.YtcjncgfhkgcbnaaDoor
