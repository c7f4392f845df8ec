import Derived.Test.YtcjncgfhkgcbnaaGreatDoorJe
import Derived.Test.YtcjncgfhkgcbnaaGreatDoorZp
namespace Go.Proofs.YtcjncgfhkgcbnaaGreatDoor
set_option linter.unusedVariables false
set_option linter.unusedSimpArgs false
open Go.RowKit
attribute [local simp] isCut_nil isCut_region isCut_seq isCut_block isCut_loop isCut_cond isCut_skip isCut_exit isCut_ret isCut_range swapK putK altK condK_bool pickP_bool stepP stepO onPure_some onPure_none onImpl_some onImpl_none stepC onGP_some onGP_none onGV_some condG mkG onIt_it nextP_ptr takeP_eq takeV_some takeV_none takeU_some takeU_none takeQ takeW_some takeN_none takeN_some takeG_some takeO_some altO_some pureV binV2 eqF eqOp ovlV ovl2 rowAt capV binV intBin strBin isSh shV fldV ixV sliceV slice3V loadAV nilV lenV callV unV convV viewS cellsH loadV fldCut AV.ung AV.ungs AV.gc AV.cells AS.ev AS.put anyS gcsV gcO lens lnO gV guardV retK RetP_eq resV oneV anyRo loIx hiIx implO callP_clo evL gcsL clearV storeAV AS.push AS.setO appV appZ shortS copyV buildV partsV fillV srcV fzO okV isCell_c isCell_ptr isCell_sl isCell_fs isCell_fp isCell_clo rowZ_one rowZ_zero rowZ_2 rowZ_3 rowZ_4 rowZ_5 rowZ_6 rowZ_7 rowZ_8 rowZ_9 rowZ_10 rowZ_11 rowZ_12 noHo Value.oneCell' max2V min2V lookV updV lenM msAt afterH putBack frzFrom frzO rebO backIx nilEq_sl nilEq_fs nilOp_eql nilOp_neq AV.reb AV.rebL
attribute [local simp ↓] runK_skip runK_region runK_draw runK_seq runK_cut runK_cond runK_block runK_loop runK_exit runK_label runK_goto runK_ret runK_range contK_nil contK_seq contK_seq_ret contK_seq_exit contK_seq_goto contK_block contK_block_ret contK_block_goto contK_block_exit runO_nil runO_cons roundK_exit roundK_ret roundK_goto exitK_ret cutK_ret cutK_exit runE_done runE_nil runE_take runE_alt condG_true condG_false
set_option maxRecDepth 10000
theorem r12num1 (a : Int) (ha : i64v a) : ACalls Tryz.prog 60 [.fs 1 1 [.c (.int .i64 a)]] [] (fun _ => false) (fun r h' => r = .c (.string (str (num a))) ∧ h' = []) := by
  have h := r12num_w [a] (by simp) (fun k hk => by rw [List.mem_singleton.1 hk]; exact ha)
  have e : numsB [a] = num a := by simp [numsB]
  rw [e] at h; exact h
theorem r12num2 (a b : Int) (ha : i64v a) (hb : i64v b) : ACalls Tryz.prog 60 [.fs 1 2 [.c (.int .i64 a), .c (.int .i64 b)]] [] (fun _ => false) (fun r h' => r = .c (.string (str (num a ++ num b))) ∧ h' = []) := by
  have h := r12num_w [a, b] (by simp) (fun k hk => by simp at hk; rcases hk with rfl | rfl <;> assumption)
  have e : numsB [a, b] = num a ++ num b := by simp [numsB]
  rw [e] at h; exact h
theorem r12num3 (a b c : Int) (ha : i64v a) (hb : i64v b) (hc : i64v c) : ACalls Tryz.prog 60 [.fs 1 3 [.c (.int .i64 a), .c (.int .i64 b), .c (.int .i64 c)]] [] (fun _ => false) (fun r h' => r = .c (.string (str (num a ++ (num b ++ num c)))) ∧ h' = []) := by
  have h := r12num_w [a, b, c] (by simp) (fun k hk => by simp at hk; rcases hk with rfl | rfl | rfl <;> assumption)
  have e : numsB [a, b, c] = num a ++ (num b ++ num c) := by simp [numsB]
  rw [e] at h; exact h
theorem flagI_i (x : Bool) : i64v (flagI x) := by unfold flagI; cases x <;> exact ⟨by decide, by decide⟩
theorem len_i (n : Nat) (h : n ≤ 1000000) : i64v n := ⟨by omega, by omega⟩
set_option maxHeartbeats 32000000 in
theorem r12Put_w (s : SchS) (hok : schOk s = true) (ho : s.Ok) : ACalls Tryz.prog 15 [.agg (schA s)] [] (fun _ => false) (fun r h' => r = .c (.string (str (schB s))) ∧ h' = []) := by
  refine acallsC [12] mixed Tryz.func15 rfl Tryz.ntmps15 rfl fun E hE hst hho => ?_
  obtain ⟨m1, m2⟩ := schOk_mem hok
  obtain ⟨o1, o2, o3⟩ := ho
  have hfl := fun i => flat_len (f := tbB) (m := 7000) (s.tabs.take i) fun t ht => tbB_len (m2 t (List.mem_of_mem_take ht)) (o3 t (List.mem_of_mem_take ht))
  obtain ⟨P0, hP0⟩ : ∃ P, P = num s.ver ++ (num s.next ++ num s.tabs.length) := ⟨_, rfl⟩
  have lP0 : P0.length ≤ 27 := by
    have e1 := num_len s.ver o1.1 o1.2
    have e2 := num_len s.next o2.1 o2.2
    have e3 := num_len s.tabs.length (by omega) (by omega)
    rw [hP0]; simp only [List.length_append]; omega
  have hbe : schB s = P0 ++ s.tabs.flatMap tbB := by rw [hP0]; simp [schB]
  rw [hbe]
  have c0 := r12num3 s.ver s.next s.tabs.length o1 o2 (len_i _ (by omega))
  rw [← hP0] at c0
  simp (maxSteps := 1000000) [hho, noHo, schA, -List.reduceReplicate]
  refine call_f [] (fun k => k == 1) (c0) rfl rfl ⟨rfl, rfl⟩ hho (by simp) (by decide) (by simp) (by simp [isD_c, maxLen]) (by simp) ?_
  simp (maxSteps := 1000000) [hho, noHo, -List.reduceReplicate]
  refine loop_kc [12] mixed (fun j : Nat => ⟨slotsOf 139 [(1, .ptr 0 0 3), (3, .c (.string (str (P0 ++ (s.tabs.take j).flatMap tbB)))), (21, .fs 4 s.tabs.length (tabsA s.tabs)), (22, .c (.int .i64 s.tabs.length)), (23, .c (.int .i64 (j : Nat)))], [.o .box (schA s)]⟩) (fun j => s.tabs.length - j) (fun j => j ≤ s.tabs.length) 0 (Nat.zero_le _) ?_ ?_
  · exact wk_of 1 1 (by simp) (by simp [hE, lens]) (by simp [schA]) (by simp [livH, livO, AV.livL, AV.liv, wkL, wkV, List.range', schA]) (by simp [livH, livO, AV.livL, AV.liv, wkL, wkV, List.range', slotsOf])
  intro j hj
  by_cases hjl : j < s.tabs.length
  case neg =>
    obtain rfl : j = s.tabs.length := by omega
    rw [List.take_length]
    simp (maxSteps := 1000000) [hho, noHo, slotsOf, schA, -List.reduceReplicate]
    exact Ret.drop (by rfl) ⟨rfl, rfl⟩
  have hat := tabsA_at s.tabs j hjl
  have ewj : IntKind.i64.wrap ((j : Int) + 1) = (j + 1 : Nat) := by rw [IntWalk.i64_in _ (by omega)]; rfl
  have e0 : j * 4 + 4 ≤ s.tabs.length * 4 := by omega
  have hsu : (s.tabs.take (j + 1)).flatMap tbB = (s.tabs.take j).flatMap tbB ++ tbB s.tabs[j] := by rw [List.take_succ_eq_append_getElem hjl, List.flatMap_append]; simp
  have hmt := m2 s.tabs[j] (List.getElem_mem hjl)
  have hot := o3 s.tabs[j] (List.getElem_mem hjl)
  have hfj := hfl j
  rw [List.length_take] at hfj
  obtain ⟨t, hte⟩ : ∃ t, t = s.tabs[j] := ⟨_, rfl⟩
  rw [← hte] at hat hsu hmt hot
  obtain ⟨n1, n2, n3, n4, n5⟩ := tabOk_mem hmt
  obtain ⟨p1, p2, p3, p4⟩ := hot
  obtain ⟨B, hB⟩ : ∃ B, B = P0 ++ (s.tabs.take j).flatMap tbB := ⟨_, rfl⟩
  have lB : B.length ≤ 60000 := by rw [hB, List.length_append]; omega
  have hBn : P0 ++ (s.tabs.take (j + 1)).flatMap tbB = B ++ tbB t := by rw [hsu, hB, List.append_assoc]
  rw [← hB]
  have x1 := num_len t.id p1.1 p1.2
  have x2 := txt_len t.name (by omega)
  have x3 := num_len t.cols.length (by omega) (by omega)
  have x4 := num_len t.idxs.length (by omega) (by omega)
  have c1 := r12num1 t.id p1
  have c2 := text_ref t.name (by omega)
  have c3 := r12num1 t.cols.length (len_i _ (by omega))
  obtain ⟨B1, hB1⟩ : ∃ B1, B1 = B ++ (num t.id ++ txt t.name ++ num t.cols.length) := ⟨_, rfl⟩
  have lB1 : B1.length ≤ 60100 := by rw [hB1]; simp only [List.length_append]; omega
  simp (maxSteps := 1000000) [hho, noHo, slotsOf, schA, tabA, hjl, hat, e0, -List.reduceReplicate]
  refine draw_cut (fun _ : Unit => ⟨slotsOf 139 [(1, .ptr 0 0 3), (3, .c (.string (str B1))), (5, .ptr 1 0 4), (21, .fs 4 s.tabs.length (tabsA s.tabs)), (22, .c (.int .i64 s.tabs.length)), (23, .c (.int .i64 (j : Nat)))], [.o .box (schA s), .o .box (tabA t)]⟩) (fun _ => True) ?_ ?_
  case refine_2 =>
    refine draw_k hho (.take 0 (.take 1 (.take 2 (.take 5 (.take 6 (.take 10 (.take 11 (.take 12 (.alt 3 (.alt 4 (.alt 7 (.take 8 (.take 9 (.alt 13 (.alt 14 (.take 15 (.take 16 (.take 17 (.done)))) (.nil)) (.nil)))) (.alt 13 (.alt 7 (.take 8 (.take 9 (.alt 14 (.take 15 (.take 16 (.take 17 (.done)))) (.nil)))) (.nil)) (.nil))) (.alt 13 (.alt 4 (.alt 7 (.take 8 (.take 9 (.alt 14 (.take 15 (.take 16 (.take 17 (.done)))) (.nil)))) (.nil)) (.nil)) (.nil))) (.alt 13 (.alt 3 (.alt 4 (.alt 7 (.take 8 (.take 9 (.alt 14 (.take 15 (.take 16 (.take 17 (.done)))) (.nil)))) (.nil)) (.nil)) (.nil)) (.nil))))))))))) [1] [] (by decide +kernel) (by simp) ?_
    simp (maxSteps := 1000000) [hho, noHo, roOf, holdOf, wrOf, altK, heldOk, Region.binds, -List.reduceReplicate]
    repeat' (first | apply And.intro | with_reducible intro _)
    all_goals try omega
    all_goals
      refine call_hd [] (fun k => decide (2 ≤ k)) (c1) rfl rfl ⟨rfl, rfl⟩ (by simp) (fun k hk => by have := of_decide_eq_true hk; simp; omega) (by simp) (by decide) (by simp) (by simp [isD_c, maxLen]) (by simp) ?_
      simp (maxSteps := 1000000) [hho, noHo, bytesOf_str, str_app, str_size, roOf, holdOf, wrOf, altK, heldOk, Region.binds, -List.reduceReplicate]
    repeat' (first | apply And.intro | with_reducible intro _)
    all_goals try omega
    all_goals
      refine call_h [] (c2) rfl rfl ⟨rfl, rfl⟩ (by simp) (by simp) (by decide) (by simp) (by simp) ?_
      simp (maxSteps := 1000000) [hho, noHo, bytesOf_str, str_app, str_size, roOf, holdOf, wrOf, altK, heldOk, Region.binds, -List.reduceReplicate]
    repeat' (first | apply And.intro | with_reducible intro _)
    all_goals try omega
    all_goals
      refine call_hd [] (fun k => decide (2 ≤ k)) (c3) rfl rfl ⟨rfl, rfl⟩ (by simp) (fun k hk => by have := of_decide_eq_true hk; simp; omega) (by simp) (by decide) (by simp) (by simp [isD_c, maxLen]) (by simp) ?_
      simp (maxSteps := 1000000) [hho, noHo, bytesOf_str, str_app, str_size, roOf, holdOf, wrOf, altK, heldOk, Region.binds, -List.reduceReplicate]
    repeat' (first | apply And.intro | with_reducible intro _)
    all_goals try omega
    all_goals
      refine dcut_to () trivial ?_
      exact wk_of 2 2 (by simp) (by simp [hE, lens]) (by simp [schA, tabA]) (by simp [livH, livO, AV.livL, AV.liv, wkL, wkV, List.range', schA, tabA]) (by simp [livH, livO, AV.livL, AV.liv, wkL, wkV, List.range', slotsOf, hB1])
  intro _ _
  have hflc := fun i => flat_len (f := colB) (m := 400) (t.cols.take i) fun c hc => colB_len (n4 c (List.mem_of_mem_take hc)) (p3 c (List.mem_of_mem_take hc))
  have hflx := fun i => flat_len (f := idxB) (m := 200) (t.idxs.take i) fun x hx => idxB_len (n5 x (List.mem_of_mem_take hx)) (p4 x (List.mem_of_mem_take hx))
  simp (maxSteps := 1000000) [hho, noHo, slotsOf, tabA, -List.reduceReplicate]
  refine loop_kc [12] mixed (fun i : Nat => ⟨slotsOf 139 [(1, .ptr 0 0 3), (3, .c (.string (str (B1 ++ (t.cols.take i).flatMap colB)))), (5, .ptr 1 0 4), (21, .fs 4 s.tabs.length (tabsA s.tabs)), (22, .c (.int .i64 s.tabs.length)), (23, .c (.int .i64 (j : Nat))), (45, .fs 10 t.cols.length (colsA t.cols)), (46, .c (.int .i64 t.cols.length)), (47, .c (.int .i64 (i : Nat)))], [.o .box (schA s), .o .box (tabA t)]⟩) (fun i => t.cols.length - i) (fun i => i ≤ t.cols.length) 0 (Nat.zero_le _) ?_ ?_
  · exact wk_eq (by simp [hE, lens]) (by simp [schA, tabA]) (by simp [livH, livO, AV.livL, AV.liv, wkL, wkV, List.range', slotsOf])
  intro i hi
  have hfi := hflc i
  rw [List.length_take] at hfi
  by_cases hil : i < t.cols.length
  · have hat := colsA_at t.cols i hil
    have ew : IntKind.i64.wrap ((i : Int) + 1) = (i + 1 : Nat) := by rw [IntWalk.i64_in _ (by omega)]; rfl
    have el : i * 10 + 10 ≤ t.cols.length * 10 := by omega
    have hsv : (t.cols.take (i + 1)).flatMap colB = (t.cols.take i).flatMap colB ++ colB t.cols[i] := by rw [List.take_succ_eq_append_getElem hil, List.flatMap_append]; simp
    have hcm := n4 t.cols[i] (List.getElem_mem hil)
    have hco := p3 t.cols[i] (List.getElem_mem hil)
    obtain ⟨c, hce⟩ : ∃ c, c = t.cols[i] := ⟨_, rfl⟩
    rw [← hce] at hat hsv hcm hco
    obtain ⟨k1, k2⟩ := colOk_mem hcm
    obtain ⟨r1, r2, r3, r4, r5⟩ := hco
    have hdl := rowB_dft_len c.dft k2 r4
    have d1 := r12num1 c.id r1
    have d2 := text_ref c.name (by omega)
    have d3 := r12flag_w c.nn
    have d4 := r12num3 c.ty.k c.ty.s (flagI c.nn) r3.1 r3.2 (flagI_i _)
    have d5 := put_ref (dftR c.dft) (by have := dftR_len c.dft; omega) (fun x hx => by
      have h0 : c.dft.k ≠ 0 := fun h => by unfold dftR at hx; rw [if_pos h] at hx; cases hx
      rw [dftR_mem hx]; exact ⟨⟨cell0_i, r4⟩, h0, k2⟩)
    have d6 := text_ref (str (rowB (dftR c.dft))) (by rw [str_size]; omega)
    have d7 := r12num1 c.st r5
    have y1 := num_len c.id r1.1 r1.2
    have y2 := txt_len c.name (by omega)
    have y3 := num_len c.ty.k r3.1.1 r3.1.2
    have y4 := num_len c.ty.s r3.2.1 r3.2.2
    have y5 := flagI_len2 c.nn
    have y6 := txt_len (str (rowB (dftR c.dft))) (by rw [str_size]; omega)
    rw [str_size] at y6
    have y7 := num_len c.st r5.1 r5.2
    obtain ⟨Q, hQ⟩ : ∃ Q, Q = B1 ++ (t.cols.take i).flatMap colB := ⟨_, rfl⟩
    have lQ : Q.length ≤ 66000 := by rw [hQ, List.length_append]; omega
    obtain ⟨D, hD⟩ : ∃ D, D = str (rowB (dftR c.dft)) := ⟨_, rfl⟩
    have hQn : B1 ++ (t.cols.take (i + 1)).flatMap colB = Q ++ (num c.id ++ (txt c.name ++ (num c.ty.k ++ (num c.ty.s ++ (num (flagI c.nn) ++ (txt D ++ num c.st)))))) := by rw [hsv, hQ, hD]; simp [colB]
    rw [← hQ]
    rw [← hD] at d5 d6 y6
    simp (maxSteps := 1000000) [hho, noHo, slotsOf, schA, tabA, colA, hil, hat, el, -List.reduceReplicate]
    refine seq_cut mixed [] (fun _ : Unit => ⟨slotsOf 139 [(1, .ptr 0 0 3), (3, .c (.string (str Q))), (5, .ptr 1 0 4), (7, .ptr 2 0 10), (8, .fs 5 (dftR c.dft).length (cellsA (dftR c.dft))), (21, .fs 4 s.tabs.length (tabsA s.tabs)), (22, .c (.int .i64 s.tabs.length)), (23, .c (.int .i64 (j : Nat))), (45, .fs 10 t.cols.length (colsA t.cols)), (46, .c (.int .i64 t.cols.length)), (47, .c (.int .i64 (i : Nat)))], [.o .box (schA s), .o .box (tabA t), .o .box (colA c)]⟩) (fun _ => True) ?_ ?_
    case refine_2 =>
      by_cases hk0 : c.dft.k = 0
      · have hdz : dftR c.dft = [] := if_pos hk0
        simp (maxSteps := 1000000) [hho, noHo, hk0, undef, onGP_none, condG_false, -List.reduceReplicate]
        refine cut_to () trivial ?_
        refine Wk.trans (wk_slot 8 (new := .fs 5 0 []) rfl fun G F w v _ h => nil_fs0 5 h) ?_
        exact wk_eq (by simp [hE, lens]) (by simp [schA, tabA, colA, hk0]) (by simp [livH, livO, AV.livL, AV.liv, wkL, wkV, List.range', slotsOf, hdz, cellsA])
      · have hdz : dftR c.dft = [⟨0, c.dft⟩] := if_neg hk0
        simp (maxSteps := 1000000) [hho, noHo, hk0, undef, onGP_none, condG_false, -List.reduceReplicate]
        refine cut_to () trivial ?_
        refine Wk.trans (wk_fz 3 rfl (by rw [hho]; rfl)) ?_
        refine Wk.trans (wk_slot 8 (new := .fs 5 1 (cellA ⟨0, c.dft⟩)) rfl fun G F w v hh h => fz_fs (k := 3) (sz := 5) (off := 0) (n := 1) (m := 5) (cs := cellA ⟨0, c.dft⟩) rfl rfl (by decide) (by unfold maxLen; decide) rfl hh h) ?_
        exact wk_of 3 1 (by simp) (by simp [hE, lens]) (by simp [schA, tabA, colA]) (by simp [livH, livO, AV.livL, AV.liv, wkL, wkV, List.range', schA, tabA, colA, cellA, valA]) (by simp [livH, livO, AV.livL, AV.liv, wkL, wkV, List.range', slotsOf, hdz, cellsA, cellA, valA])
    intro _ _
    have e10 : List.take 10 (colA c) = colA c := rfl
    simp (maxSteps := 1000000) [hho, noHo, slotsOf, tabA, colA, -List.reduceReplicate]
    refine draw_k hho (.take 0 (.take 1 (.take 2 (.take 5 (.take 6 (.take 10 (.take 11 (.take 12 (.take 13 (.take 14 (.take 15 (.take 16 (.take 17 (.take 22 (.take 27 (.take 28 (.alt 3 (.alt 4 (.alt 7 (.take 8 (.take 9 (.alt 18 (.alt 19 (.alt 20 (.take 21 (.alt 23 (.alt 24 (.take 25 (.take 26 (.alt 29 (.alt 30 (.take 31 (.take 32 (.take 33 (.done)))) (.nil)) (.nil)))) (.alt 29 (.alt 24 (.take 25 (.take 26 (.alt 30 (.take 31 (.take 32 (.take 33 (.done)))) (.nil)))) (.nil)) (.nil))) (.alt 29 (.alt 23 (.alt 24 (.take 25 (.take 26 (.alt 30 (.take 31 (.take 32 (.take 33 (.done)))) (.nil)))) (.nil)) (.nil)) (.nil)))) (.alt 29 (.alt 20 (.take 21 (.alt 23 (.alt 24 (.take 25 (.take 26 (.alt 30 (.take 31 (.take 32 (.take 33 (.done)))) (.nil)))) (.nil)) (.nil))) (.nil)) (.nil))) (.alt 29 (.alt 19 (.alt 20 (.take 21 (.alt 23 (.alt 24 (.take 25 (.take 26 (.alt 30 (.take 31 (.take 32 (.take 33 (.done)))) (.nil)))) (.nil)) (.nil))) (.nil)) (.nil)) (.nil))) (.alt 29 (.alt 18 (.alt 19 (.alt 20 (.take 21 (.alt 23 (.alt 24 (.take 25 (.take 26 (.alt 30 (.take 31 (.take 32 (.take 33 (.done)))) (.nil)))) (.nil)) (.nil))) (.nil)) (.nil)) (.nil)) (.nil))))) (.alt 29 (.alt 7 (.take 8 (.take 9 (.alt 18 (.alt 19 (.alt 20 (.take 21 (.alt 23 (.alt 24 (.take 25 (.take 26 (.alt 30 (.take 31 (.take 32 (.take 33 (.done)))) (.nil)))) (.nil)) (.nil))) (.nil)) (.nil)) (.nil)))) (.nil)) (.nil))) (.alt 29 (.alt 4 (.alt 7 (.take 8 (.take 9 (.alt 18 (.alt 19 (.alt 20 (.take 21 (.alt 23 (.alt 24 (.take 25 (.take 26 (.alt 30 (.take 31 (.take 32 (.take 33 (.done)))) (.nil)))) (.nil)) (.nil))) (.nil)) (.nil)) (.nil)))) (.nil)) (.nil)) (.nil))) (.alt 29 (.alt 3 (.alt 4 (.alt 7 (.take 8 (.take 9 (.alt 18 (.alt 19 (.alt 20 (.take 21 (.alt 23 (.alt 24 (.take 25 (.take 26 (.alt 30 (.take 31 (.take 32 (.take 33 (.done)))) (.nil)))) (.nil)) (.nil))) (.nil)) (.nil)) (.nil)))) (.nil)) (.nil)) (.nil)) (.nil))))))))))))))))))) [2] [] (by decide +kernel) (by simp) ?_
    simp (maxSteps := 1000000) [hho, noHo, roOf, holdOf, wrOf, altK, heldOk, Region.binds, -List.reduceReplicate]
    repeat' (first | apply And.intro | with_reducible intro _)
    all_goals try omega
    all_goals
      refine call_hd [] (fun k => decide (3 ≤ k)) (d1) rfl rfl ⟨rfl, rfl⟩ (by simp) (fun k hk => by have := of_decide_eq_true hk; simp; omega) (by simp) (by decide) (by simp) (by simp [isD_c, maxLen]) (by simp) ?_
      simp (maxSteps := 1000000) [hho, noHo, bytesOf_str, str_app, str_size, roOf, holdOf, wrOf, altK, heldOk, Region.binds, -List.reduceReplicate]
    repeat' (first | apply And.intro | with_reducible intro _)
    all_goals try omega
    all_goals
      refine call_h [] (d2) rfl rfl ⟨rfl, rfl⟩ (by simp) (by simp) (by decide) (by simp) (by simp) ?_
      simp (maxSteps := 1000000) [hho, noHo, bytesOf_str, str_app, str_size, roOf, holdOf, wrOf, altK, heldOk, Region.binds, -List.reduceReplicate]
    repeat' (first | apply And.intro | with_reducible intro _)
    all_goals try omega
    all_goals
      refine call_h [] (d3) rfl rfl ⟨rfl, rfl⟩ (by simp) (by simp) (by decide) (by simp) (by simp) ?_
      simp (maxSteps := 1000000) [hho, noHo, bytesOf_str, str_app, str_size, roOf, holdOf, wrOf, altK, heldOk, Region.binds, -List.reduceReplicate]
    repeat' (first | apply And.intro | with_reducible intro _)
    all_goals try omega
    all_goals
      refine call_hd [] (fun k => decide (3 ≤ k)) (d4) rfl rfl ⟨rfl, rfl⟩ (by simp) (fun k hk => by have := of_decide_eq_true hk; simp; omega) (by simp) (by decide) (by simp) (by simp [isD_c, maxLen]) (by simp) ?_
      simp (maxSteps := 1000000) [hho, noHo, bytesOf_str, str_app, str_size, roOf, holdOf, wrOf, altK, heldOk, Region.binds, -List.reduceReplicate]
    repeat' (first | apply And.intro | with_reducible intro _)
    all_goals try omega
    all_goals
      refine call_h [] (d5) rfl rfl ⟨rfl, rfl⟩ (by simp) (by simp) (by decide) (by simp) (by simp) ?_
      simp (maxSteps := 1000000) [hho, noHo, bytesOf_str, str_app, str_size, roOf, holdOf, wrOf, altK, heldOk, Region.binds, -List.reduceReplicate]
    repeat' (first | apply And.intro | with_reducible intro _)
    all_goals try omega
    all_goals
      refine call_h [] (d6) rfl rfl ⟨rfl, rfl⟩ (by simp) (by simp) (by decide) (by simp) (by simp) ?_
      simp (maxSteps := 1000000) [hho, noHo, bytesOf_str, str_app, str_size, roOf, holdOf, wrOf, altK, heldOk, Region.binds, -List.reduceReplicate]
    repeat' (first | apply And.intro | with_reducible intro _)
    all_goals try omega
    all_goals
      refine call_hd [] (fun k => decide (3 ≤ k)) (d7) rfl rfl ⟨rfl, rfl⟩ (by simp) (fun k hk => by have := of_decide_eq_true hk; simp; omega) (by simp) (by decide) (by simp) (by simp [isD_c, maxLen]) (by simp) ?_
      simp (maxSteps := 1000000) [hho, noHo, bytesOf_str, str_app, str_size, roOf, holdOf, wrOf, altK, heldOk, Region.binds, -List.reduceReplicate]
    repeat' (first | apply And.intro | with_reducible intro _)
    all_goals try omega
    all_goals
      refine round_next (i + 1) (by omega) (by omega) ?_
      exact wk_of 2 4 (by simp) (by simp [hE, lens]) (by simp [schA, tabA]) (by simp [livH, livO, AV.livL, AV.liv, wkL, wkV, List.range', schA, tabA]) (by simp [livH, livO, AV.livL, AV.liv, wkL, wkV, List.range', slotsOf, hQn, ew])
  obtain rfl : i = t.cols.length := by omega
  rw [List.take_length]
  have hfc := hflc t.cols.length
  rw [List.take_length] at hfc
  obtain ⟨B2, hB2⟩ : ∃ B2, B2 = B1 ++ t.cols.flatMap colB := ⟨_, rfl⟩
  have lB2 : B2.length ≤ 66000 := by rw [hB2, List.length_append]; omega
  rw [← hB2]
  have c4 := r12num1 t.idxs.length (len_i _ (by omega))
  obtain ⟨B3, hB3⟩ : ∃ B3, B3 = B2 ++ num t.idxs.length := ⟨_, rfl⟩
  have lB3 : B3.length ≤ 66100 := by rw [hB3, List.length_append]; omega
  simp (maxSteps := 1000000) [hho, noHo, slotsOf, schA, tabA, -List.reduceReplicate]
  refine call_f [] (fun k => k == 2) (c4) rfl rfl ⟨rfl, rfl⟩ hho (by simp) (by decide) (by simp) (by simp [isD_c, maxLen]) (by simp) ?_
  simp (maxSteps := 1000000) [hho, noHo, str_app, str_size, -List.reduceReplicate]
  refine ⟨by omega, ?_⟩
  rw [← hB3]
  refine loop_kc [12] mixed (fun i : Nat => ⟨slotsOf 139 [(1, .ptr 0 0 3), (3, .c (.string (str (B3 ++ (t.idxs.take i).flatMap idxB)))), (5, .ptr 1 0 4), (21, .fs 4 s.tabs.length (tabsA s.tabs)), (22, .c (.int .i64 s.tabs.length)), (23, .c (.int .i64 (j : Nat))), (101, .fs 5 t.idxs.length (idxsA t.idxs)), (102, .c (.int .i64 t.idxs.length)), (103, .c (.int .i64 (i : Nat)))], [.o .box (schA s), .o .box (tabA t)]⟩) (fun i => t.idxs.length - i) (fun i => i ≤ t.idxs.length) 0 (Nat.zero_le _) ?_ ?_
  · exact wk_of 2 1 (by simp) (by simp [hE, lens]) (by simp [schA, tabA]) (by simp [livH, livO, AV.livL, AV.liv, wkL, wkV, List.range', schA, tabA]) (by simp [livH, livO, AV.livL, AV.liv, wkL, wkV, List.range', slotsOf])
  intro i hi
  have hfi := hflx i
  rw [List.length_take] at hfi
  by_cases hil : i < t.idxs.length
  case neg =>
    obtain rfl : i = t.idxs.length := by omega
    rw [List.take_length]
    have hbn : B ++ tbB t = B3 ++ t.idxs.flatMap idxB := by rw [hB3, hB2, hB1]; simp [tbB]
    simp (maxSteps := 1000000) [hho, noHo, slotsOf, schA, tabA, ewj, -List.reduceReplicate]
    refine round_next (j + 1) (by omega) (by omega) ?_
    exact wk_of 1 1 (by simp) (by simp [hE, lens]) (by simp [schA]) (by simp [livH, livO, AV.livL, AV.liv, wkL, wkV, List.range', schA]) (by simp [livH, livO, AV.livL, AV.liv, wkL, wkV, List.range', slotsOf, hBn, hbn])
  have hat := idxsA_at t.idxs i hil
  have ew : IntKind.i64.wrap ((i : Int) + 1) = (i + 1 : Nat) := by rw [IntWalk.i64_in _ (by omega)]; rfl
  have el : i * 5 + 5 ≤ t.idxs.length * 5 := by omega
  have hsv : (t.idxs.take (i + 1)).flatMap idxB = (t.idxs.take i).flatMap idxB ++ idxB t.idxs[i] := by rw [List.take_succ_eq_append_getElem hil, List.flatMap_append]; simp
  have hxm := n5 t.idxs[i] (List.getElem_mem hil)
  have hxo := p4 t.idxs[i] (List.getElem_mem hil)
  obtain ⟨x, hxe⟩ : ∃ x, x = t.idxs[i] := ⟨_, rfl⟩
  rw [← hxe] at hat hsv hxm hxo
  obtain ⟨k1, k2⟩ := idxOk_mem hxm
  obtain ⟨r1, r2, r3, r4⟩ := hxo
  have d1 := r12num1 x.id r1
  have d2 := text_ref x.name (by omega)
  have d3 := r12num1 x.cols.length (len_i _ (by omega))
  have d4 := r12num_w x.cols (by omega) r3
  have d5 := r12flag_w x.uniq
  have d6 := r12num2 (flagI x.uniq) x.st (flagI_i _) r4
  have y1 := num_len x.id r1.1 r1.2
  have y2 := txt_len x.name (by omega)
  have y3 := num_len x.cols.length (by omega) (by omega)
  have y4 := numsB_len x.cols r3
  have y5 := flagI_len2 x.uniq
  have y7 := num_len x.st r4.1 r4.2
  obtain ⟨Q, hQ⟩ : ∃ Q, Q = B3 ++ (t.idxs.take i).flatMap idxB := ⟨_, rfl⟩
  have lQ : Q.length ≤ 70000 := by rw [hQ, List.length_append]; omega
  have hQn : B3 ++ (t.idxs.take (i + 1)).flatMap idxB = Q ++ (num x.id ++ (txt x.name ++ (num x.cols.length ++ (numsB x.cols ++ (num (flagI x.uniq) ++ num x.st))))) := by rw [hsv, hQ]; simp [idxB, numsB]
  rw [← hQ]
  simp (maxSteps := 1000000) [hho, noHo, slotsOf, schA, tabA, idxA, hil, hat, el, -List.reduceReplicate]
  refine draw_k hho (.take 0 (.take 1 (.take 2 (.take 5 (.take 6 (.take 10 (.take 11 (.take 12 (.take 16 (.take 17 (.take 20 (.take 21 (.take 23 (.take 24 (.alt 3 (.alt 4 (.alt 7 (.take 8 (.take 9 (.alt 13 (.alt 14 (.take 15 (.alt 18 (.take 19 (.alt 22 (.alt 25 (.alt 26 (.take 27 (.take 28 (.take 29 (.done)))) (.nil)) (.nil)) (.nil))) (.nil))) (.nil)) (.nil)))) (.alt 13 (.alt 7 (.take 8 (.take 9 (.alt 14 (.take 15 (.alt 18 (.take 19 (.alt 22 (.alt 25 (.alt 26 (.take 27 (.take 28 (.take 29 (.done)))) (.nil)) (.nil)) (.nil))) (.nil))) (.nil)))) (.nil)) (.nil))) (.alt 13 (.alt 4 (.alt 7 (.take 8 (.take 9 (.alt 14 (.take 15 (.alt 18 (.take 19 (.alt 22 (.alt 25 (.alt 26 (.take 27 (.take 28 (.take 29 (.done)))) (.nil)) (.nil)) (.nil))) (.nil))) (.nil)))) (.nil)) (.nil)) (.nil))) (.alt 13 (.alt 3 (.alt 4 (.alt 7 (.take 8 (.take 9 (.alt 14 (.take 15 (.alt 18 (.take 19 (.alt 22 (.alt 25 (.alt 26 (.take 27 (.take 28 (.take 29 (.done)))) (.nil)) (.nil)) (.nil))) (.nil))) (.nil)))) (.nil)) (.nil)) (.nil)) (.nil))))))))))))))))) [2] [] (by decide +kernel) (by simp) ?_
  simp (maxSteps := 1000000) [hho, noHo, roOf, holdOf, wrOf, altK, heldOk, Region.binds, -List.reduceReplicate]
  repeat' (first | apply And.intro | with_reducible intro _)
  all_goals try omega
  all_goals
    refine call_hd [] (fun k => decide (3 ≤ k)) (d1) rfl rfl ⟨rfl, rfl⟩ (by simp) (fun k hk => by have := of_decide_eq_true hk; simp; omega) (by simp) (by decide) (by simp) (by simp [isD_c, maxLen]) (by simp) ?_
    simp (maxSteps := 1000000) [hho, noHo, bytesOf_str, str_app, str_size, roOf, holdOf, wrOf, altK, heldOk, Region.binds, -List.reduceReplicate]
  repeat' (first | apply And.intro | with_reducible intro _)
  all_goals try omega
  all_goals
    refine call_h [] (d2) rfl rfl ⟨rfl, rfl⟩ (by simp) (by simp) (by decide) (by simp) (by simp) ?_
    simp (maxSteps := 1000000) [hho, noHo, bytesOf_str, str_app, str_size, roOf, holdOf, wrOf, altK, heldOk, Region.binds, -List.reduceReplicate]
  repeat' (first | apply And.intro | with_reducible intro _)
  all_goals try omega
  all_goals
    refine call_hd [] (fun k => decide (3 ≤ k)) (d3) rfl rfl ⟨rfl, rfl⟩ (by simp) (fun k hk => by have := of_decide_eq_true hk; simp; omega) (by simp) (by decide) (by simp) (by simp [isD_c, maxLen]) (by simp) ?_
    simp (maxSteps := 1000000) [hho, noHo, bytesOf_str, str_app, str_size, roOf, holdOf, wrOf, altK, heldOk, Region.binds, -List.reduceReplicate]
  repeat' (first | apply And.intro | with_reducible intro _)
  all_goals try omega
  all_goals
    refine call_h [] (d4) rfl rfl ⟨rfl, rfl⟩ (by simp) (by simp) (by decide) (by simp) (by simp) ?_
    simp (maxSteps := 1000000) [hho, noHo, bytesOf_str, str_app, str_size, roOf, holdOf, wrOf, altK, heldOk, Region.binds, -List.reduceReplicate]
  repeat' (first | apply And.intro | with_reducible intro _)
  all_goals try omega
  all_goals
    refine call_h [] (d5) rfl rfl ⟨rfl, rfl⟩ (by simp) (by simp) (by decide) (by simp) (by simp) ?_
    simp (maxSteps := 1000000) [hho, noHo, bytesOf_str, str_app, str_size, roOf, holdOf, wrOf, altK, heldOk, Region.binds, -List.reduceReplicate]
  repeat' (first | apply And.intro | with_reducible intro _)
  all_goals try omega
  all_goals
    refine call_hd [] (fun k => decide (3 ≤ k)) (d6) rfl rfl ⟨rfl, rfl⟩ (by simp) (fun k hk => by have := of_decide_eq_true hk; simp; omega) (by simp) (by decide) (by simp) (by simp [isD_c, maxLen]) (by simp) ?_
    simp (maxSteps := 1000000) [hho, noHo, bytesOf_str, str_app, str_size, roOf, holdOf, wrOf, altK, heldOk, Region.binds, -List.reduceReplicate]
  repeat' (first | apply And.intro | with_reducible intro _)
  all_goals try omega
  all_goals
    refine round_next (i + 1) (by omega) (by omega) ?_
    exact wk_of 2 4 (by simp) (by simp [hE, lens]) (by simp [schA, tabA]) (by simp [livH, livO, AV.livL, AV.liv, wkL, wkV, List.range', schA, tabA]) (by simp [livH, livO, AV.livL, AV.liv, wkL, wkV, List.range', slotsOf, hQn, ew])
end Go.Proofs.YtcjncgfhkgcbnaaGreatDoor
