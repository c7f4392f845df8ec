import Derived.Test.YthgoocdldnkogaaDoorMZ
import Derived.Test.YthgoocdldnkogaaDoorHZ2
import Derived.Test.YthgoocdldnkogaaDoorHF2
import Derived.Test.YthgoocdldnkogaaDoorZI
namespace Go.Proofs.YthgoocdldnkogaaDoor
set_option linter.unusedVariables false
set_option linter.unusedSimpArgs false
open Go.RowKit
attribute [local simp] isCut_nil isCut_region isCut_seq isCut_block isCut_loop isCut_cond isCut_skip isCut_exit isCut_ret isCut_range swapK putK altK condK_bool pickP_bool stepP stepO onPure_some onPure_none onImpl_some onImpl_none stepC onGP_some onGP_none onGV_some condG mkG onIt_it nextP_ptr takeP_eq takeV_some takeV_none takeU_some takeU_none takeQ takeW_some takeN_none takeN_some takeG_some takeO_some altO_some pureV binV2 eqF eqOp ovlV ovl2 rowAt capV binV intBin strBin isSh shV fldV ixV sliceV slice3V loadAV nilV lenV callV unV convV viewS cellsH loadV fldCut AV.ung AV.ungs AV.gc AV.cells AS.ev AS.put anyS gcsV gcO lens lnO gV guardV retK RetP_eq resV oneV anyRo loIx hiIx implO callP_clo evL gcsL clearV storeAV AS.push AS.setO appV appZ shortS copyV buildV partsV fillV srcV fzO okV isCell_c isCell_ptr isCell_sl isCell_fs isCell_fp isCell_clo rowZ_one rowZ_zero rowZ_2 rowZ_3 rowZ_4 rowZ_5 rowZ_6 rowZ_7 rowZ_8 rowZ_9 rowZ_10 rowZ_11 rowZ_12 noHo Value.oneCell' max2V min2V lookV updV updK updW cvals mkAt basV lenM msAt afterH putBack frzFrom frzO rebO backIx nilEq_sl nilEq_fs nilEq_ifn nilEq_ifh ifOp_eql ifOp_neq isLit nilOp_eql nilOp_neq AV.reb AV.rebL
attribute [local simp ↓] runK_skip runK_region runK_draw runK_seq runK_cut runK_cond runK_block runK_loop runK_exit runK_label runK_goto runK_ret runK_range contK_nil contK_seq contK_seq_ret contK_seq_exit contK_seq_goto contK_block contK_block_ret contK_block_goto contK_block_exit runO_nil runO_cons roundK_exit roundK_ret roundK_goto exitK_ret cutK_ret cutK_exit runE_done runE_nil runE_take runE_alt condG_true condG_false
set_option maxRecDepth 10000
def lnT (l : List MovS) (i : Nat) : List (Nat × AV) := [(1, .fs 4 l.length (movsA l)), (2, .ptr 0 0 3), (35, .c (.int .i64 (i : Nat)))]
def lnSt (l : List MovS) (s : SchS) (i : Nat) : AS := ⟨slotsOf 135 (lnT l i), [.o .box (schA s)]⟩
def lnCut (l : List MovS) (s x : SchS) (e : Int) (i : Nat) : AS := ⟨slotsOf 135 (lnT l i ++ [(5, .ptr 1 0 3), (7, .c (.int .i64 e))]), [.o .box (schA x), .o .box (schA s)]⟩
def lnIn (l : List MovS) (s x : SchS) (i k : Nat) : AS := ⟨slotsOf 135 (lnT l i ++ [(5, .ptr 1 0 3), (115, .fs 4 x.tabs.length (tabsA x.tabs)), (116, .c (.int .i64 (x.tabs.length : Nat))), (117, .c (.int .i64 (k : Nat)))]), [.o .box (schA x), .o .box (schA s)]⟩
set_option maxHeartbeats 16000000 in
theorem lnum_w (s : SchS) (ho : s.Ok) (l : List MovS) (hm : ∀ m ∈ l, MovOk m) : ACalls Tryd.prog 4 [.agg (schA s), .fs 4 l.length (movsA l)] [] (fun _ => false) (fun r h' => r = .c (.bool true)) := by
  refine acallsC [18] mixed Tryd.func4 rfl Tryd.ntmps4 rfl fun E hE hst hho => ?_
  have hsc : ∀ s : SchS, schA s = [.c (.int .i64 s.ver), .c (.int .i64 s.next), .fs 4 s.tabs.length (tabsA s.tabs)] := fun _ => rfl
  have hta : ∀ t : TabS, tabA t = [.c (.int .i64 t.id), .c (.string t.name), .fs 10 t.cols.length (colsA t.cols), .fs 5 t.idxs.length (idxsA t.idxs)] := fun _ => rfl
  obtain ⟨R, hR⟩ := fit_dec2 s
  have c0 := small_r12 s R hR
  simp only [hsc] at c0
  simp (maxSteps := 1000000) [hho, noHo, hsc, -List.reduceReplicate]
  refine call_x [] (first14_w) rfl rfl ⟨rfl, rfl⟩ hho (by simp) (by decide) (by simp) (by simp) ?_
  simp (maxSteps := 1000000) [hho, noHo, -List.reduceReplicate]
  refine call_x [] (c0) rfl rfl ⟨rfl, rfl⟩ hho (by simp) (by decide) (by simp) (by simp) ?_
  cases R with
  | false =>
    simp (maxSteps := 1000000) [hho, noHo, undef, onGP_none, condG_false, -List.reduceReplicate]
    exact Ret.drop (by rfl) rfl
  | true =>
  have hf := hR.1 rfl
  obtain ⟨hb1, hb2⟩ := fit_big2 hf
  have hf1 := hf.1
  have c1 := right_r12 s hb1 hb2
  simp only [hsc] at c1
  simp (maxSteps := 1000000) [hho, noHo, undef, onGP_none, condG_false, -List.reduceReplicate]
  refine call_x [] (c1) rfl rfl ⟨rfl, rfl⟩ hho (by simp) (by decide) (by simp) (by simp) ?_
  cases hok : schOk s with
  | false =>
    simp (maxSteps := 1000000) [hho, noHo, undef, onGP_none, condG_false, -List.reduceReplicate]
    exact Ret.drop (by rfl) rfl
  | true =>
  by_cases hl : (20 : Int) < l.length
  · simp (maxSteps := 1000000) [hho, noHo, hl, undef, onGP_none, condG_false, -List.reduceReplicate]
    exact Ret.drop (by rfl) rfl
  by_cases hv : 1152921504606846976 < s.ver
  · simp (maxSteps := 1000000) [hho, noHo, hl, hv, undef, onGP_none, condG_false, -List.reduceReplicate]
    exact Ret.drop (by rfl) rfl
  by_cases hx : 1152921504606846976 < s.next
  · simp (maxSteps := 1000000) [hho, noHo, hl, hv, hx, undef, onGP_none, condG_false, -List.reduceReplicate]
    exact Ret.drop (by rfl) rfl
  have hll : l.length ≤ 20 := by omega
  have hSB : SB s := ⟨by omega, hb2, ho⟩
  simp (maxSteps := 1000000) [hho, noHo, hl, hv, hx, undef, onGP_none, condG_false, -List.reduceReplicate]
  refine loop_kc [18] mixed (fun y : SchS × Nat => lnSt l y.1 y.2) (fun y => 4 - y.2) (fun y => y.2 ≤ 4 ∧ schOk y.1 = true ∧ SB y.1 ∧ y.1.ver ≤ 1152921504606846976 + y.2 ∧ y.1.next ≤ 1152921504606846976 + 2 * y.2) (s, 0) ⟨Nat.zero_le _, hok, hSB, by simp only; omega, by simp only; omega⟩ ?_ ?_
  · exact wk_eq (by simp [hE, lens]) (by simp [lnSt, hsc]) (by simp [livH, livO, AV.livL, AV.liv, wkL, wkV, List.range', lnSt, lnT, slotsOf])
  rintro ⟨s, i⟩ ⟨hi, hok, hSB, hv, hx⟩
  simp only at hi hok hSB hv hx ⊢
  clear hR c0 c1 hb1 hb2 hf hf1 ho
  by_cases hi4 : i < 4
  case neg =>
    obtain rfl : i = 4 := by omega
    simp only [lnSt, lnT]
    simp (maxSteps := 1000000) [hho, noHo, slotsOf, -List.reduceReplicate]
    exact Ret.drop (by rfl) rfl
  have ew : IntKind.i64.wrap ((i : Int) + 1) = (i + 1 : Nat) := by rw [IntWalk.i64_in _ (by omega)]; rfl
  have hi4' : (i : Int) < 4 := by omega
  have hs := step_w s l (by omega) hSB.len hSB.big (by omega) hm
  rw [stepP_eq, show stepF mvR s l = stepS s l from rfl] at hs
  simp only [hsc s] at hs
  have hnum := @step_num s l
  have hsb := @step_SB s l hSB hm (by omega)
  have hso := (schOk_iff s).1 hok
  have hlen := hso.len
  obtain ⟨q, hq⟩ : ∃ q, q = stepS s l := ⟨_, rfl⟩
  rw [← hq] at hs hnum hsb
  obtain ⟨x, e⟩ := q
  simp only at hs hnum hsb
  simp only [lnSt, lnT]
  simp (maxSteps := 1000000) [hho, noHo, slotsOf, hi4, hi4', hsc, -List.reduceReplicate]
  refine call_x [] (hs) rfl rfl ⟨rfl, rfl⟩ hho (by simp) (by decide) (by simp) (by simp) ?_
  simp (maxSteps := 1000000) [hho, noHo, hsc, -List.reduceReplicate]
  refine seq_cut mixed [] (fun y : SchS × Int => lnCut l s y.1 y.2 i) (fun y => (y.2 = 0 ∧ NumOk s y.1 ∧ SB y.1) ∨ (y.2 ≠ 0 ∧ y.1 = s)) ?_ ?_
  case refine_2 =>
    by_cases he : e = 0
    · subst he
      simp (maxSteps := 1000000) [hho, noHo, hsc, -List.reduceReplicate]
      refine cut_to (x, 0) (.inl ⟨rfl, hnum rfl, hsb rfl⟩) ?_
      exact wk_of 2 1 (by simp) (by simp [hE, lens]) (by simp [lnCut, hsc]) (by simp [livH, livO, AV.livL, AV.liv, wkL, wkV, List.range', hsc, lnCut]) (by simp [livH, livO, AV.livL, AV.liv, wkL, wkV, List.range', lnCut, lnT, slotsOf])
    have hc := create_w s f5n [f4c] (by omega) (by omega) hSB.len hSB.big (by decide) (by decide) (fun c hc => by rw [List.mem_singleton.1 hc]; exact ⟨by decide, by decide⟩)
    simp only [hsc s] at hc
    have hnum2 := @create_num s f5n f4c
    have hsb2 := @create_SB s hSB (by omega) (by omega)
    obtain ⟨q, hq2⟩ : ∃ q, q = createS s f5n [f4c] := ⟨_, rfl⟩
    rw [← hq2] at hc hnum2 hsb2
    obtain ⟨x2, e2⟩ := q
    simp only at hc hnum2 hsb2
    simp (maxSteps := 1000000) [hho, noHo, hsc, he, -List.reduceReplicate]
    refine call_f [] (fun k => k == 3) (hc) rfl rfl ⟨rfl, rfl⟩ hho (by simp) (by decide) (by simp) (by simp [isD_c, maxLen]) (by simp) ?_
    simp (maxSteps := 1000000) [hho, noHo, hsc, -List.reduceReplicate]
    by_cases he2 : e2 = 0
    · subst he2
      simp (maxSteps := 1000000) [hho, noHo, hsc, -List.reduceReplicate]
      refine cut_to (x2, 0) (.inl ⟨rfl, hnum2 rfl, hsb2 rfl⟩) ?_
      exact wk_of 2 2 (by simp) (by simp [hE, lens]) (by simp [lnCut, hsc]) (by simp [livH, livO, AV.livL, AV.liv, wkL, wkV, List.range', hsc, lnCut]) (by simp [livH, livO, AV.livL, AV.liv, wkL, wkV, List.range', lnCut, lnT, slotsOf])
    by_cases hz : s.tabs.length = 0
    · have hz' : ¬ (0 : Int) < s.tabs.length := by omega
      have hz0 : ¬ 0 < s.tabs.length := by omega
      simp (maxSteps := 1000000) [hho, noHo, hsc, he2, hz0, hz', -List.reduceReplicate]
      refine cut_to (s, e2) (.inr ⟨he2, rfl⟩) ?_
      exact wk_of 2 2 (by simp) (by simp [hE, lens]) (by simp [lnCut, hsc]) (by simp [livH, livO, AV.livL, AV.liv, wkL, wkV, List.range', hsc, lnCut]) (by simp [livH, livO, AV.livL, AV.liv, wkL, wkV, List.range', lnCut, lnT, slotsOf])
    have hz' : (0 : Int) < s.tabs.length := by omega
    have hz0 : 0 < s.tabs.length := by omega
    obtain ⟨t, hte⟩ : ∃ t, t = s.tabs[0] := ⟨_, rfl⟩
    have htm : t ∈ s.tabs := by rw [hte]; exact List.getElem_mem hz0
    have hto := hso.tabs t htm
    have hcl : 0 < t.cols.length := by
      have h := hto.pub
      cases hc0 : t.cols with
      | nil => rw [hc0] at h; exact absurd rfl h
      | cons => simp
    obtain ⟨c, hce⟩ : ∃ c, c = t.cols[0] := ⟨_, rfl⟩
    have hcm : c ∈ t.cols := by rw [hce]; exact List.getElem_mem hcl
    have hci : i64v c.id := ((hSB.tok htm).2.2.1 c hcm).1
    have hg := growX_w s t.id ⟨0, f5n, [c.id], false, 0⟩ (by omega) (by omega) hSB.len hSB.big ⟨by show f5n.size ≤ _; decide, by simp⟩
    simp only [hsc s] at hg
    have hnum3 := @growX_num s t.id ⟨0, f5n, [c.id], false, 0⟩
    have hsb3 := @growX_SB s hSB (by omega) (by omega) t.id c.id hci
    obtain ⟨q, hq3⟩ : ∃ q, q = growX s t.id ⟨0, f5n, [c.id], false, 0⟩ := ⟨_, rfl⟩
    rw [← hq3] at hg hnum3 hsb3
    obtain ⟨x3, e3⟩ := q
    simp only at hg hnum3 hsb3
    have g1 : (tabsA s.tabs)[0]? = some (.c (.int .i64 t.id)) := by
      have := tabsA_at s.tabs 0 hz0
      rw [← hte] at this
      have h2 : (List.take 4 (List.drop (0 * 4) (tabsA s.tabs)))[0]? = (tabA t)[0]? := by rw [this]
      rw [List.getElem?_take_of_lt (by omega), List.getElem?_drop] at h2
      rw [Nat.zero_mul, Nat.zero_add] at h2
      rw [h2]; rfl
    have g2 : (tabsA s.tabs)[2]? = some (.fs 10 t.cols.length (colsA t.cols)) := by
      have := tabsA_at s.tabs 0 hz0
      rw [← hte] at this
      have h2 : (List.take 4 (List.drop (0 * 4) (tabsA s.tabs)))[2]? = (tabA t)[2]? := by rw [this]
      rw [List.getElem?_take_of_lt (by omega), List.getElem?_drop] at h2
      rw [Nat.zero_mul, Nat.zero_add] at h2
      rw [h2]; rfl
    have g3 : (colsA t.cols)[0]? = some (.c (.int .i64 c.id)) := by
      have := colsA_at t.cols 0 hcl
      rw [← hce] at this
      have h2 : (List.take 10 (List.drop (0 * 10) (colsA t.cols)))[0]? = (colA c)[0]? := by rw [this]
      rw [List.getElem?_take_of_lt (by omega), List.getElem?_drop] at h2
      rw [Nat.zero_mul, Nat.zero_add] at h2
      rw [h2]; rfl
    have m0 : 1 ≤ min 4 (s.tabs.length * 4) := by omega
    have m2 : 1 ≤ min 4 (s.tabs.length * 4) - 2 := by omega
    have m3 : 1 ≤ min 10 (t.cols.length * 10) := by omega
    have i0 : 0 < s.tabs.length * 4 := by omega
    have i2 : 2 < s.tabs.length * 4 := by omega
    have i3 : 0 < t.cols.length * 10 := by omega
    have k1 := fun h => gq g1 h
    have k2 := fun h => gq g2 h
    have k3 := fun h => gq g3 h
    have hclI : (0 : Int) < t.cols.length := by omega
    simp (maxSteps := 1000000) [hho, noHo, hsc, he2, hz0, hz', -List.reduceReplicate]
    refine draw_cut (fun _ : Unit => ⟨slotsOf 135 (lnT l i ++ [(5, .ptr 1 0 3), (6, .ptr 2 0 3), (7, .c (.int .i64 e3))]), [.o .box (schA s), .o .box (schA s), .o .box (schA x3)]⟩) (fun _ => True) ?_ ?_
    · intro _ _
      by_cases he3 : e3 = 0
      · subst he3
        simp (maxSteps := 1000000) [hho, noHo, slotsOf, lnT, hsc, -List.reduceReplicate]
        refine cut_to (x3, 0) (.inl ⟨rfl, hnum3 rfl, hsb3 rfl⟩) ?_
        exact wk_of 2 1 (by simp) (by simp [hE, lens]) (by simp [lnCut, hsc]) (by simp [livH, livO, AV.livL, AV.liv, wkL, wkV, List.range', hsc, lnCut]) (by simp [livH, livO, AV.livL, AV.liv, wkL, wkV, List.range', lnCut, lnT, slotsOf])
      · simp (maxSteps := 1000000) [hho, noHo, slotsOf, lnT, hsc, he3, -List.reduceReplicate]
        refine cut_to (s, e3) (.inr ⟨he3, rfl⟩) ?_
        exact wk_of 2 1 (by simp) (by simp [hE, lens]) (by simp [lnCut, hsc]) (by simp [livH, livO, AV.livL, AV.liv, wkL, wkV, List.range', hsc, lnCut]) (by simp [livH, livO, AV.livL, AV.liv, wkL, wkV, List.range', lnCut, lnT, slotsOf])
    · refine draw_k hho (.take 0 (.take 1 (.take 2 (.take 3 (.take 4 (.take 5 (.take 6 (.take 7 (.take 8 (.take 9 (.take 10 (.take 11 (.take 12 (.take 13 (.alt 14 (.take 15 (.alt 16 (.take 17 (.take 18 (.take 19 (.alt 20 (.take 21 (.done)) (.nil))))) (.nil))) (.nil)))))))))))))))) [0] [] (by decide +kernel) (by simp) ?_
      simp (maxSteps := 1000000) [hho, noHo, hz', hz0, hclI, hcl, g1, g2, g3, k1, k2, k3, m0, m2, m3, i0, i2, i3, roOf, holdOf, wrOf, altK, heldOk, Region.binds, -List.reduceReplicate]
      repeat' (first | apply And.intro | with_reducible intro _)
      all_goals try omega
      all_goals
        refine call_hd [] (fun k => decide (4 ≤ k)) (hg) rfl rfl ⟨rfl, rfl⟩ (by simp) (fun k hk => by have := of_decide_eq_true hk; simp; omega) (by simp) (by decide) (by simp) (by simp [isD_c, maxLen]) (by simp) ?_
        simp (maxSteps := 1000000) [hho, noHo, hsc, roOf, holdOf, wrOf, altK, heldOk, Region.binds, -List.reduceReplicate]
      all_goals (repeat' (first | apply And.intro | with_reducible intro _))
      all_goals try omega
      all_goals (refine dcut_to () trivial ?_)
      all_goals exact wk_of 3 2 (by simp) (by simp [hE, lens]) (by simp [hsc]) (by simp [livH, livO, AV.livL, AV.liv, wkL, wkV, List.range', hsc]) (by simp [livH, livO, AV.livL, AV.liv, wkL, wkV, List.range', lnT, slotsOf])
  rintro ⟨y, e'⟩ hy
  simp only at hy ⊢
  rcases hy with ⟨rfl, hN, hY⟩ | ⟨he', rfl⟩
  case inr =>
    have hcs := same_r12 y y (by omega) (fun t ht => ⟨by have := (hso.tabs t ht).lc; omega, by have := (hso.tabs t ht).lx; omega, fun x hx => by have := (hSB.big t ht).xn x hx; omega⟩) true (by simp)
    simp only [hsc y] at hcs
    simp only [lnCut, lnT]
    simp (maxSteps := 1000000) [hho, noHo, slotsOf, he', hsc, undef, onGP_none, condG_false, -List.reduceReplicate]
    refine call_x [] (hcs) rfl rfl ⟨rfl, rfl⟩ hho (by simp) (by decide) (by simp) (by simp) ?_
    simp (maxSteps := 1000000) [hho, noHo, undef, onGP_none, condG_false, -List.reduceReplicate]
    exact Ret.drop (by rfl) rfl
  have hyo := (schOk_iff y).1 hN.ok
  have hyl := hyo.len
  have w1 := right_r12 y (by omega) hY.big
  have w2 := legal_w s y hSB hY (by omega) (by omega)
  rw [hN.ok] at w1
  rw [hN.legal] at w2
  simp only [hsc] at w1 w2
  have hver := hN.ver
  have hnx := hN.next
  have ev : IntKind.i64.wrap (s.ver + 1) = y.ver := by rw [hver]; exact IntWalk.i64_in _ (by have := hSB.ok.1; unfold i64v at this; omega)
  have hnl : ¬ y.next < s.next := by omega
  simp only [lnCut, lnT]
  simp (maxSteps := 1000000) [hho, noHo, slotsOf, hsc, ev, hnl, undef, onGP_none, condG_false, -List.reduceReplicate]
  refine call_x [] (w1) rfl rfl ⟨rfl, rfl⟩ hho (by simp) (by decide) (by simp) (by simp) ?_
  simp (maxSteps := 1000000) [hho, noHo, undef, onGP_none, condG_false, -List.reduceReplicate]
  refine call_x [] (w2) rfl rfl ⟨rfl, rfl⟩ hho (by simp) (by decide) (by simp) (by simp) ?_
  simp (maxSteps := 1000000) [hho, noHo, -List.reduceReplicate]
  refine loop_k mixed (lnIn l s y i) (fun k => y.tabs.length - k) (fun k => k ≤ y.tabs.length) 0 (Nat.zero_le _) ?_ ?_
  · exact wk_eq (by simp [hE, lens]) (by simp [lnIn, hsc]) (by simp [livH, livO, AV.livL, AV.liv, wkL, wkV, List.range', lnIn, lnT, slotsOf])
  intro k hk
  by_cases hkl : k < y.tabs.length
  case neg =>
    obtain rfl : k = y.tabs.length := by omega
    simp only [lnIn, lnT]
    simp (maxSteps := 1000000) [hho, noHo, slotsOf, hsc, ew, -List.reduceReplicate]
    refine round_next (y, i + 1) ⟨by simp only; omega, hN.ok, hY, by simp only; omega, by simp only; omega⟩ (by simp only; omega) ?_
    exact wk_of 1 1 (by simp) (by simp [hE, lens]) (by simp [lnSt, hsc]) (by simp [livH, livO, AV.livL, AV.liv, wkL, wkV, List.range', hsc, lnSt]) (by simp [livH, livO, AV.livL, AV.liv, wkL, wkV, List.range', lnSt, lnT, slotsOf])
  obtain ⟨t, hte⟩ : ∃ t, t = y.tabs[k] := ⟨_, rfl⟩
  have hat := tabsA_at y.tabs k hkl
  rw [← hte] at hat
  have htm : t ∈ y.tabs := by rw [hte]; exact List.getElem_mem hkl
  have e0 : k * 4 + 4 ≤ y.tabs.length * 4 := by omega
  have ew3 : IntKind.i64.wrap ((k : Int) + 1) = (k + 1 : Nat) := by rw [IntWalk.i64_in _ (by omega)]; rfl
  have hT := r12Table_w s t.name (by omega)
  simp only [hsc] at hT
  have hany := ixF_any (fun u : TabS => decide (u.name = t.name)) s.tabs
  simp only [lnIn, lnT]
  simp (maxSteps := 1000000) [hho, noHo, slotsOf, hkl, hat, e0, hta, hsc, -List.reduceReplicate]
  refine call_x [] (hT) rfl rfl ⟨rfl, rfl⟩ hho (by simp) (by decide) (by simp) (by simp) ?_
  by_cases hneg : ixF (fun u : TabS => decide (u.name = t.name)) s.tabs < 0
  · have hid : s.next ≤ t.id := hN.new t htm fun u hu he => by
      have h1 : s.tabs.any (fun u : TabS => decide (u.name = t.name)) = false := by rw [← hany]; exact decide_eq_false (by omega)
      rw [List.any_eq_false] at h1
      exact h1 u hu (by simpa using he)
    have hid' : ¬ t.id < s.next := by omega
    simp (maxSteps := 1000000) [hho, noHo, hneg, hid', ew3, undef, onGP_none, condG_false, -List.reduceReplicate]
    refine round_next (k + 1) (by omega) (by omega) ?_
    exact wk_of 2 1 (by simp) (by simp [hE, lens]) (by simp [lnIn, hsc]) (by simp [livH, livO, AV.livL, AV.liv, wkL, wkV, List.range', hsc, lnIn]) (by simp [livH, livO, AV.livL, AV.liv, wkL, wkV, List.range', lnIn, lnT, slotsOf])
  · simp (maxSteps := 1000000) [hho, noHo, hneg, ew3, undef, onGP_none, condG_false, -List.reduceReplicate]
    refine round_next (k + 1) (by omega) (by omega) ?_
    exact wk_of 2 1 (by simp) (by simp [hE, lens]) (by simp [lnIn, hsc]) (by simp [livH, livO, AV.livL, AV.liv, wkL, wkV, List.range', hsc, lnIn]) (by simp [livH, livO, AV.livL, AV.liv, wkL, wkV, List.range', lnIn, lnT, slotsOf])
end Go.Proofs.YthgoocdldnkogaaDoor
