import Derived.Test.YthgoocdldnkogaaGreatDoorNE
namespace Go.Proofs.YthgoocdldnkogaaGreatDoor
set_option linter.unusedVariables false
set_option linter.unusedSimpArgs false
open Go.RowKit
attribute [local simp] isCut_nil isCut_region isCut_seq isCut_block isCut_loop isCut_cond isCut_skip isCut_exit isCut_ret isCut_range swapK putK altK condK_bool pickP_bool stepP stepO onPure_some onPure_none onImpl_some onImpl_none stepC onGP_some onGP_none onGV_some condG mkG onIt_it nextP_ptr takeP_eq takeV_some takeV_none takeU_some takeU_none takeQ takeW_some takeN_none takeN_some takeG_some takeO_some altO_some pureV binV2 eqF eqOp ovlV ovl2 rowAt capV binV intBin strBin isSh shV fldV ixV sliceV slice3V loadAV nilV lenV callV unV convV viewS cellsH loadV fldCut AV.ung AV.ungs AV.gc AV.cells AS.ev AS.put anyS gcsV gcO lens lnO gV guardV retK RetP_eq resV oneV anyRo loIx hiIx implO callP_clo evL gcsL clearV storeAV AS.push AS.setO appV appZ shortS copyV buildV partsV fillV srcV fzO okV isCell_c isCell_ptr isCell_sl isCell_fs isCell_fp isCell_clo rowZ_one rowZ_zero rowZ_2 rowZ_3 rowZ_4 rowZ_5 rowZ_6 rowZ_7 rowZ_8 rowZ_9 rowZ_10 rowZ_11 rowZ_12 noHo Value.oneCell' max2V min2V lookV updV updK updW cvals mkAt basV lenM msAt afterH putBack frzFrom frzO rebO backIx nilEq_sl nilEq_fs nilEq_ifn nilEq_ifh ifOp_eql ifOp_neq isLit nilOp_eql nilOp_neq AV.reb AV.rebL
attribute [local simp ↓] runK_skip runK_region runK_draw runK_seq runK_cut runK_cond runK_block runK_loop runK_exit runK_label runK_goto runK_ret runK_range contK_nil contK_seq contK_seq_ret contK_seq_exit contK_seq_goto contK_block contK_block_ret contK_block_goto contK_block_exit runO_nil runO_cons roundK_exit roundK_ret roundK_goto exitK_ret cutK_ret cutK_exit runE_done runE_nil runE_take runE_alt condG_true condG_false
set_option maxRecDepth 10000
set_option maxHeartbeats 8000000 in
theorem r14GrowX_w (s : SchS) (id : Int) (x : IdxS) (hv : s.ver ≤ 2 ^ 62) (hnx : s.next ≤ 2 ^ 62) (hl : s.tabs.length ≤ 1000) (hbs : ∀ t ∈ s.tabs, t.cols.length ≤ 1000 ∧ t.idxs.length ≤ 1000 ∧ ∀ x ∈ t.idxs, x.cols.length ≤ 1000) (hb : ∀ t ∈ s.tabs, TabBig t) (hc : x.name.size ≤ 9000000000000000000 ∧ x.cols.length ≤ 1000000) : ACalls Tryz.prog 17 [.agg (schA s), .c (.int .i64 id), .agg (idxA x)] [] (fun _ => false) (fun r h' => r = .tup [.agg (schA (growX s id x).1), .c (.int .i64 (growX s id x).2)] ∧ h' = []) := by
 refine acallsC [14] mixed Tryz.func17 rfl Tryz.ntmps17 rfl fun E hE hst hho => ?_
 have hsc : ∀ s : SchS, schA s = [.c (.int .i64 s.ver), .c (.int .i64 s.next), .fs 4 s.tabs.length (tabsA s.tabs)] := fun _ => rfl
 have hta : ∀ t : TabS, tabA t = [.c (.int .i64 t.id), .c (.string t.name), .fs 10 t.cols.length (colsA t.cols), .fs 5 t.idxs.length (idxsA t.idxs)] := fun _ => rfl
 have hr := right_r12 s (by omega) hb
 have hpl := r14place_w s id (by omega)
 simp only [hsc] at hr hpl
 obtain ⟨RS, hRS⟩ : ∃ RS, RS = growX s id x := ⟨_, rfl⟩
 rw [← hRS]
 rcases atTab_cases s id with ⟨hs, hat⟩ | ⟨hs, hf, hat⟩ | ⟨hs, a, t, b, he, hid, hf, hat⟩
 ·have e1 : RS = (zeroS, 2) := by rw [hRS]; exact hat _
  rw [e1]
  rw [hs] at hr
  simp (maxSteps := 1000000) [hho, noHo, hsc s, idxA, -List.reduceReplicate]
  refine call_x [] (hr) rfl rfl ⟨rfl, rfl⟩ hho (by simp) (by decide) (by simp) (by simp) ?_
  simp (maxSteps := 1000000) [hho, noHo, -List.reduceReplicate]
  exact ret_zero ⟨rfl, rfl⟩
 ·have e1 : RS = (zeroS, 100) := by rw [hRS]; exact hat _
  rw [e1]
  rw [hs] at hr
  have hix : ixF (fun t : TabS => decide (t.id = id)) s.tabs = -1 := by unfold ixF; rw [hf]
  rw [hix] at hpl
  simp (maxSteps := 1000000) [hho, noHo, hsc s, idxA, -List.reduceReplicate]
  refine call_x [] (hr) rfl rfl ⟨rfl, rfl⟩ hho (by simp) (by decide) (by simp) (by simp) ?_
  simp (maxSteps := 1000000) [hho, noHo, -List.reduceReplicate]
  refine call_x [] (hpl) rfl rfl ⟨rfl, rfl⟩ hho (by simp) (by decide) (by simp) (by simp) ?_
  simp (maxSteps := 1000000) [hho, noHo, -List.reduceReplicate]
  exact ret_zero ⟨rfl, rfl⟩
 ·have hso := (schOk_iff s).1 hs
  have hver := hso.ver
  have hnext := hso.next
  have htm : t ∈ s.tabs := by rw [he]; simp
  have hlx := (hso.tabs t htm).lx
  rw [hs] at hr
  have hix : ixF (fun t : TabS => decide (t.id = id)) s.tabs = (a.length : Nat) := by unfold ixF; rw [hf]
  rw [hix] at hpl
  have hw := r14CopyOne_w s ⟨hv, by omega⟩ hl hbs he
  simp only [hsc] at hw
  have e1 := hat fun i t => if t.idxs.any (fun y => decide (y.name = x.name)) = true then (zeroS, 120) else if 8 ≤ t.idxs.length then (zeroS, 121) else chkS ⟨s.ver + 1, s.next + 1, s.tabs.set i { t with idxs := t.idxs ++ [{ x with id := s.next, st := 1 }] }⟩ 2
  have e2 : RS = if t.idxs.any (fun y => decide (y.name = x.name)) = true then (zeroS, 120) else if 8 ≤ t.idxs.length then (zeroS, 121) else chkS ⟨s.ver + 1, s.next + 1, s.tabs.set a.length { t with idxs := t.idxs ++ [{ x with id := s.next, st := 1 }] }⟩ 2 := by rw [hRS]; exact e1
  have hn : s.tabs.length = a.length + 1 + b.length := by rw [he]; simp; omega
  have p3 := tab_idxs he
  have kp3 := fun h => gq p3 h
  have hai : (a.length : Int) < s.tabs.length := by omega
  have hai' : a.length < s.tabs.length := by omega
  have i3 : a.length * 4 + 3 < s.tabs.length * 4 := by omega
  have m3 : 1 ≤ min 4 (s.tabs.length * 4 - a.length * 4) - 3 := by omega
  have i4 : a.length * 4 + 4 ≤ s.tabs.length * 4 := by omega
  have hcell : List.take 4 (List.drop (a.length * 4) (tabsA s.tabs)) = tabA t := by
   have h := tabsA_at s.tabs a.length hai'
   have ht : s.tabs[a.length] = t := by simp [he]
   rw [ht] at h; exact h
  have hneg : ¬ ((a.length : Nat) : Int) < 0 := by omega
  have hixw := r12Index_w t x.name (hb t htm).il
  have hany := ixF_any (fun y : IdxS => decide (y.name = x.name)) t.idxs
  simp only [hta] at hixw
  simp (maxSteps := 1000000) [hho, noHo, hsc s, idxA, -List.reduceReplicate]
  refine call_x [] (hr) rfl rfl ⟨rfl, rfl⟩ hho (by simp) (by decide) (by simp) (by simp) ?_
  simp (maxSteps := 1000000) [hho, noHo, -List.reduceReplicate]
  refine call_x [] (hpl) rfl rfl ⟨rfl, rfl⟩ hho (by simp) (by decide) (by simp) (by simp) ?_
  simp (maxSteps := 1000000) [hho, noHo, hneg, -List.reduceReplicate]
  refine draw_k hho (.take 0 (.take 1 (.take 2 (.take 3 (.take 4 (.take 5 (.take 6 (.alt 7 (.take 8 (.done)) (.nil))))))))) [0, 1] [] (by decide +kernel) (by simp) ?_
  simp (maxSteps := 1000000) [hho, noHo, hai, hai', hcell, i4, hta, roOf, holdOf, wrOf, altK, heldOk, Region.binds, -List.reduceReplicate]
  intro E1
  refine call_h [] (hixw) rfl rfl ⟨rfl, rfl⟩ (by simp) (by simp) (by decide) (by simp) (by simp) ?_
  cases hne : t.idxs.any (fun y => decide (y.name = x.name)) with
  | true =>
   rw [hne] at hany
   have h0 : (0 : Int) ≤ ixF (fun y : IdxS => decide (y.name = x.name)) t.idxs := of_decide_eq_true hany
   have e3 : RS = (zeroS, 120) := by rw [e2, if_pos hne]
   rw [e3]
   simp (maxSteps := 1000000) [hho, noHo, h0, roOf, holdOf, wrOf, altK, heldOk, Region.binds, -List.reduceReplicate]
   exact ret_zero ⟨rfl, rfl⟩
  | false =>
  rw [hne] at hany
  have h0 : ¬ (0 : Int) ≤ ixF (fun y : IdxS => decide (y.name = x.name)) t.idxs := of_decide_eq_false hany
  by_cases h12 : 8 ≤ t.idxs.length
  ·have h12' : t.idxs.length = 8 := by omega
   have e3 : RS = (zeroS, 121) := by rw [e2, if_neg (by rw [hne]; decide), if_pos h12]
   rw [e3]
   simp (maxSteps := 1000000) [hho, noHo, h0, hneg, hai, hai', p3, kp3, i3, m3, h12', roOf, holdOf, wrOf, altK, heldOk, Region.binds, -List.reduceReplicate]
   exact ret_zero ⟨rfl, rfl⟩
  have h12' : ¬ t.idxs.length = 8 := by omega
  have h12i : ¬ (t.idxs.length : Int) = 8 := by omega
  simp (maxSteps := 1000000) [hho, noHo, h0, hneg, hai, hai', p3, kp3, i3, m3, h12', h12i, roOf, holdOf, wrOf, altK, heldOk, Region.binds, -List.reduceReplicate]
  refine call_one 3 rfl hw rfl hho (by simp) ?_
  obtain ⟨C, hC⟩ : ∃ C, C = tabsA a ++ ([.c (.int .i64 t.id), .c (.string t.name), .sl 4 10 0 t.cols.length (t.cols.length * 10), .sl 5 5 0 t.idxs.length (t.idxs.length * 5)] ++ tabsA b) := ⟨_, rfl⟩
  have hR : oneR 4 5 a t b = .o (.row 28 4) C := by rw [hC]; rfl
  have g3 : C[a.length * 4 + 3]? = some (.sl 5 5 0 t.idxs.length (t.idxs.length * 5)) := by rw [hC, oneR_get 4 5 a b t 3 (by omega)]; rfl
  have hCl : C.length = s.tabs.length * 4 := by rw [hC, hn]; simp; omega
  have k3 := fun h => gq g3 h
  have i3' : a.length * 4 + 3 + 1 ≤ s.tabs.length * 4 := by omega
  obtain ⟨t2, ht2⟩ : ∃ t2 : TabS, t2 = { t with idxs := t.idxs ++ [{ x with id := s.next, st := 1 }] } := ⟨_, rfl⟩
  obtain ⟨s2, hs2⟩ : ∃ s2 : SchS, s2 = ⟨s.ver + 1, s.next + 1, s.tabs.set a.length t2⟩ := ⟨_, rfl⟩
  have e3 : RS = chkS s2 2 := by rw [e2, if_neg (by rw [hne]; decide), if_neg h12, ← ht2, ← hs2]
  rw [e3]
  obtain ⟨q, hq⟩ : ∃ q : AV, q = .tup [.agg (schA (chkS s2 2).1), .c (.int .i64 (chkS s2 2).2)] := ⟨_, rfl⟩
  rw [← hq]
  have en : IntKind.i64.wrap (s.next + 1) = s.next + 1 := IntWalk.i64_in _ (by omega)
  simp (maxSteps := 1000000) [hho, noHo, hR, rowL, rowX, backIx, hCl, en, -List.reduceReplicate]
  refine draw_cut (fun _ : Unit => ⟨slotsOf 76 [(6, .ptr 2 0 3), (8, .c (.int .i64 (a.length : Nat))), (9, .ptr 6 0 3), (10, .ptr 7 0 5)], [.o .box (schA s), .o .box (idxA x), .o .box [.c (.int .i64 0), .c (.int .i64 0), .c (.slice none 0 0)], .o (.row 28 4) C, .o (.row 44 10) (colsA t.cols), .o (.row 49 5) (idxsA t.idxs), .o .box [.c (.int .i64 (s.ver + 1)), .c (.int .i64 s.next), .sl 3 4 0 s.tabs.length (s.tabs.length * 4)], .o .box [.c (.int .i64 s.next), .c (.string x.name), .fs 1 x.cols.length (intsA x.cols), .c (.bool x.uniq), .c (.int .i64 1)]]⟩) (fun _ => True) ?_ ?_
  ·intro _ _
   simp (maxSteps := 1000000) [hho, noHo, slotsOf, hsc s, idxA, hCl, en, -List.reduceReplicate]
   have hs2t : s2.tabs = a ++ t2 :: b := by rw [hs2]; simp only; rw [he, set_mid]
   have hcl := (hb t htm).cl
   have hil := (hb t htm).il
   have hbg : ∀ y ∈ s2.tabs, TabBig y := fun y hy => by
    rw [hs2t] at hy
    rcases List.mem_append.1 hy with h | h
    ·exact hb y (by rw [he]; simp [h])
    ·rcases List.mem_cons.1 h with rfl | h
     ·have h0 := hb t htm
      rw [ht2]
      refine ⟨h0.cl, by simp; omega, h0.nm, h0.cn, fun y hy => ?_⟩
      rcases List.mem_append.1 hy with h | h
      ·exact h0.xn y h
      ·simp at h; subst h; exact hc
     ·exact hb y (by rw [he]; simp [h])
   have hck := right_r12 s2 (by rw [hs2t]; simp; omega) hbg
   simp only [hsc] at hck
   refine seq_cut mixed [] (fun _ : Unit => ⟨slotsOf 76 [(6, .ptr 0 0 3), (9, .ptr 1 0 3)], [.o .box [.c (.int .i64 0), .c (.int .i64 0), .c (.slice none 0 0)], .o .box (schA s2)]⟩) (fun _ => True) ?_ ?_
   ·intro _ _
    rw [hq]
    unfold chkS
    cases hok : schOk s2 with
    | true =>
     rw [hok] at hck
     rw [if_pos rfl]
     simp (maxSteps := 1000000) [hho, noHo, slotsOf, hsc s2, undef, onGP_none, condG_false, -List.reduceReplicate]
     refine call_x [] (hck) rfl rfl ⟨rfl, rfl⟩ hho (by simp) (by decide) (by simp) (by simp) ?_
     simp (maxSteps := 1000000) [hho, noHo, undef, onGP_none, condG_false, -List.reduceReplicate]
     exact ret_sch (s := s2) ⟨rfl, rfl⟩
    | false =>
     rw [hok] at hck
     rw [if_neg (by decide)]
     simp (maxSteps := 1000000) [hho, noHo, slotsOf, hsc s2, undef, onGP_none, condG_false, -List.reduceReplicate]
     refine call_x [] (hck) rfl rfl ⟨rfl, rfl⟩ hho (by simp) (by decide) (by simp) (by simp) ?_
     simp (maxSteps := 1000000) [hho, noHo, undef, onGP_none, condG_false, -List.reduceReplicate]
     exact ret_zero ⟨rfl, rfl⟩
   ·simp (maxSteps := 1000000) [hho, noHo, hCl, -List.reduceReplicate]
    refine draw_k hho (.take 0 (.take 1 (.take 2 (.take 3 (.take 4 (.take 5 (.take 6 (.take 7 (.take 8 (.take 9 (.alt 10 (.alt 11 (.take 12 (.take 13 (.alt 14 (.done) (.nil)))) (.nil)) (.nil)))))))))))) [3, 6, 7] [(14, [3])] (by decide +kernel) (by simp) ?_
    simp (maxSteps := 1000000) [hho, noHo, hCl, k3, i3, i3', hai, hai', en, roOf, holdOf, wrOf, altK, heldOk, Region.binds, -List.reduceReplicate]
    intro E1 E2
    refine ⟨by omega, ?_⟩
    intro E3
    refine ⟨by omega, ?_⟩
    refine cut_to () trivial ?_
    have hs2' : s2 = ⟨s.ver + 1, s.next + 1, a ++ t2 :: b⟩ := by rw [← hs2t, hs2]
    rw [hs2']
    refine cut_one (n := s.tabs.length) (t2 := t2) hho (by rw [hE]; rfl) hn ?_ ?_ ?_ (by simp [isD]) (by simp) (by unfold maxLen; omega) (by rw [ht2]; unfold maxLen; simp; omega) (by rw [ht2]; unfold maxLen; simp; omega) (by simp [livH, livO, AV.livL, AV.liv, wkL, wkV, List.range', slotsOf, AV.rebL, AV.reb, twoF])
    ·rw [set_split _ _ _ (by omega), hC, List.set_append_right _ _ (by simp), tabsA_length, Nat.add_sub_cancel_left]
     simp [oneR, ht2, Nat.add_mul]
    ·simp [rowL, ht2]
    ·simp [rowX, ht2, idxsA, idxA]
  ·refine draw_k hho (.take 0 (.take 1 (.take 2 (.take 3 (.take 5 (.take 6 (.take 8 (.take 9 (.alt 4 (.alt 7 (.take 10 (.alt 11 (.alt 12 (.done) (.nil)) (.nil))) (.alt 11 (.alt 7 (.take 10 (.alt 12 (.done) (.nil))) (.nil)) (.nil))) (.alt 11 (.alt 4 (.alt 7 (.take 10 (.alt 12 (.done) (.nil))) (.nil)) (.nil)) (.nil))))))))))) [0, 1] [] (by decide +kernel) (by simp) ?_
   simp (maxSteps := 1000000) [hho, noHo, roOf, holdOf, wrOf, altK, heldOk, Region.binds, -List.reduceReplicate]
   have hIl : (intsA x.cols).length = x.cols.length := by simp [intsA]
   have hxm : x.cols.length ≤ maxLen := by unfold maxLen; omega
   have hId : (intsA x.cols).all isD = true := List.all_eq_true.2 (by simp [intsA, isD])
   have hCr : AV.rebL (swF 6) C = C := by
    have h := oneR_reb (swF 6) 4 5 a t b
    have e4 : swF 6 4 = 4 := by simp [swF]
    have e5 : swF 6 5 = 5 := by simp [swF]
    rw [e4, e5, hR, rebO_eq] at h
    injection h
   have hsw := wk_swap (E := E) hho (by rw [hE]; rfl) 6 (A := [.o .box (schA s), .o .box (idxA x), .o .box [.c (.int .i64 0), .c (.int .i64 0), .c (.slice none 0 0)], .o (.row 28 4) C, .o (.row 44 10) (colsA t.cols), .o (.row 49 5) (idxsA t.idxs)]) (b := .o .box [.c (.int .i64 (s.ver + 1)), .c (.int .i64 s.next), .sl 3 4 0 s.tabs.length (s.tabs.length * 4)]) (x := .o .fz (intsA x.cols)) (y := .o .box [.c (.int .i64 s.next), .c (.string x.name), .fs 1 x.cols.length (intsA x.cols), .c (.bool x.uniq), .c (.int .i64 1)]) (T' := slotsOf 76 [(6, .ptr 2 0 3), (8, .c (.int .i64 (a.length : Nat))), (9, .ptr 6 0 3), (10, .ptr 7 0 5)]) rfl
    (fun z hz => by
     simp only [List.mem_cons, List.not_mem_nil, or_false] at hz
     rcases hz with rfl | rfl | rfl | rfl | rfl | rfl
     ·rw [rebO_eq, schA_reb]
     ·rw [rebO_eq, rebL_isD' ((idxA_all x).2 trivial)]
     ·rw [rebO_eq]; simp [AV.rebL, AV.reb]
     ·rw [rebO_eq, hCr]
     ·rw [rebO_eq, rebL_isD' ((colsA_all _).2 trivial)]
     ·rw [rebO_eq, rebL_isD' ((idxsA_all _).2 trivial)])
    (by rw [rebO_eq]; simp [AV.rebL, AV.reb, swF]) rfl
   have hlC : AV.livL [8] C = true := by
    rw [hC, livL_app2, livL_app2, isD_livL _ _ ((tabsA_all a).2 trivial), isD_livL _ _ ((tabsA_all b).2 trivial)]
    simp [AV.livL, AV.liv]
   have hleafA : ∀ (T : List AV), wkL [] T (AV.rebL (swF 6) (slotsOf 76 [(6, .ptr 2 0 3), (8, .c (.int .i64 (a.length : Nat))), (9, .ptr 6 0 3), (10, .ptr 7 0 5)])) → Wk E ⟨T, [.o .box (schA s), .o .box (idxA x), .o .box [.c (.int .i64 0), .c (.int .i64 0), .c (.slice none 0 0)], .o (.row 28 4) C, .o (.row 44 10) (colsA t.cols), .o (.row 49 5) (idxsA t.idxs), .o .box [.c (.int .i64 (s.ver + 1)), .c (.int .i64 s.next), .sl 3 4 0 s.tabs.length (s.tabs.length * 4)], .o (.row 3 1) (intsA x.cols), .o .box [.c (.int .i64 s.next), .c (.string x.name), .sl 7 1 0 x.cols.length x.cols.length, .c (.bool x.uniq), .c (.int .i64 1)]]⟩
     ⟨slotsOf 76 [(6, .ptr 2 0 3), (8, .c (.int .i64 (a.length : Nat))), (9, .ptr 6 0 3), (10, .ptr 7 0 5)], [.o .box (schA s), .o .box (idxA x), .o .box [.c (.int .i64 0), .c (.int .i64 0), .c (.slice none 0 0)], .o (.row 28 4) C, .o (.row 44 10) (colsA t.cols), .o (.row 49 5) (idxsA t.idxs), .o .box [.c (.int .i64 (s.ver + 1)), .c (.int .i64 s.next), .sl 3 4 0 s.tabs.length (s.tabs.length * 4)], .o .box [.c (.int .i64 s.next), .c (.string x.name), .fs 1 x.cols.length (intsA x.cols), .c (.bool x.uniq), .c (.int .i64 1)]]⟩ := fun T hT => by
    refine Wk.trans (wk_data 8 2 7 (by rw [hho]; rfl) (by decide) rfl rfl rfl hIl (by omega) hxm hId) ?_
    refine Wk.trans (wk_eq (by simp [hE, lens]) ?_ hT) (Wk.trans hsw ?_)
    ·simp only [rebO_eq, rebL_isD hId]
     simp [AV.rebL, AV.reb, rebL_isD hId]
    ·refine wk_of 8 1 rfl (by rw [hE]; simp) rfl ?_ (by simp [livH, livO, AV.livL, AV.liv, wkL, wkV, List.range', slotsOf])
     simp [livH, livO, AV.livL, AV.liv, wkL, wkV, List.range', hlC, hsc, idxA]
   refine ⟨fun E1 => ⟨fun E2 => ⟨by omega, fun E3 E4 => ?_⟩, fun E2 E3 => ⟨by omega, fun E4 => ?_⟩⟩, fun E1 E2 E3 => ⟨by omega, fun E4 => ?_⟩⟩
   ·refine dcut_to () trivial (Wk.trans (wk_eq (by simp [hE, lens]) (by simp [hsc, idxA]) ?_) (hleafA _ (wkL_refl [] _ (livL_nil _))))
    simp [livH, livO, AV.livL, AV.liv, wkL, wkV, List.range', slotsOf, AV.rebL, AV.reb, swF]
   ·refine dcut_to () trivial (Wk.trans (wk_eq (by simp [hE, lens]) (by simp [hsc, idxA]) ?_) (hleafA _ (wkL_refl [] _ (livL_nil _))))
    simp [livH, livO, AV.livL, AV.liv, wkL, wkV, List.range', slotsOf, AV.rebL, AV.reb, swF]
   ·refine dcut_to () trivial ?_
    refine Wk.trans (wk_data 7 2 8 (by rw [hho]; rfl) (by decide) rfl rfl rfl hIl (by omega) hxm hId) ?_
    refine wk_of 8 1 rfl (by rw [hE]; simp) (by simp [hsc, idxA]) ?_ (by simp [livH, livO, AV.livL, AV.liv, wkL, wkV, List.range', slotsOf])
    simp [livH, livO, AV.livL, AV.liv, wkL, wkV, List.range', hlC, hsc, idxA]
end Go.Proofs.YthgoocdldnkogaaGreatDoor
