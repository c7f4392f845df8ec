import Derived.Test.YthgoocdldnkogaaGreatDoorNF
import Derived.Test.YthgoocdldnkogaaGreatDoorMXp
import Derived.Test.YthgoocdldnkogaaGreatDoorHZ2
import Derived.Test.YthgoocdldnkogaaGreatDoorZI
namespace Go.Proofs.YthgoocdldnkogaaGreatDoor
set_option linter.unusedVariables false
set_option linter.unusedSimpArgs false
open Go.RowKit
attribute [local simp] isCut_nil isCut_region isCut_seq isCut_block isCut_loop isCut_cond isCut_skip isCut_exit isCut_ret isCut_range swapK putK altK condK_bool pickP_bool stepP stepO onPure_some onPure_none onImpl_some onImpl_none stepC onGP_some onGP_none onGV_some condG mkG onIt_it nextP_ptr takeP_eq takeV_some takeV_none takeU_some takeU_none takeQ takeW_some takeN_none takeN_some takeG_some takeO_some altO_some pureV binV2 eqF eqOp ovlV ovl2 rowAt capV binV intBin strBin isSh shV fldV ixV sliceV slice3V loadAV nilV lenV callV unV convV viewS cellsH loadV fldCut AV.ung AV.ungs AV.gc AV.cells AS.ev AS.put anyS gcsV gcO lens lnO gV guardV retK RetP_eq resV oneV anyRo loIx hiIx implO callP_clo evL gcsL clearV storeAV AS.push AS.setO appV appZ shortS copyV buildV partsV fillV srcV fzO okV isCell_c isCell_ptr isCell_sl isCell_fs isCell_fp isCell_clo rowZ_one rowZ_zero rowZ_2 rowZ_3 rowZ_4 rowZ_5 rowZ_6 rowZ_7 rowZ_8 rowZ_9 rowZ_10 rowZ_11 rowZ_12 noHo Value.oneCell' max2V min2V lookV updV updK updW cvals mkAt basV lenM msAt afterH putBack frzFrom frzO rebO backIx nilEq_sl nilEq_fs nilEq_ifn nilEq_ifh ifOp_eql ifOp_neq isLit nilOp_eql nilOp_neq AV.reb AV.rebL
attribute [local simp ↓] runK_skip runK_region runK_draw runK_seq runK_cut runK_cond runK_block runK_loop runK_exit runK_label runK_goto runK_ret runK_range contK_nil contK_seq contK_seq_ret contK_seq_exit contK_seq_goto contK_block contK_block_ret contK_block_goto contK_block_exit runO_nil runO_cons roundK_exit roundK_ret roundK_goto exitK_ret cutK_ret cutK_exit runE_done runE_nil runE_take runE_alt condG_true condG_false
set_option maxRecDepth 10000
theorem l14same_w (a : SchS) (e : Int) (ha : Fit2 a) : ACalls Tryz.prog 13 [.agg (schA a), .c (.int .i64 e), .agg (schA a), .c (.int .i64 e)] [] (fun _ => false) (fun r h' => r = .c (.bool true) ∧ h' = []) := by
 refine acalls mixed Tryz.func13 rfl Tryz.ntmps13 rfl fun E hE hst hho => ?_
 have hsc : ∀ s : SchS, schA s = [.c (.int .i64 s.ver), .c (.int .i64 s.next), .fs 4 s.tabs.length (tabsA s.tabs)] := fun _ => rfl
 have hcs : ACalls Tryz.prog 24 [.agg (schA a), .agg (schA a)] [] (fun _ => false) (fun r h' => r = .c (.bool true) ∧ h' = []) := by
  rcases ha with rfl | h
  ·exact same_r12 zeroS zeroS (by simp [zeroS]) (fun t ht => by simp [zeroS] at ht) true (by simp)
  ·have hs := (schOk_iff a).1 h
   exact same_r12 a a (by have := hs.len; omega) (fun t ht => by
    have ht := hs.tabs t ht
    refine ⟨by have := ht.lc; omega, by have := ht.lx; omega, fun x hx => ?_⟩
    have := ht.xo x hx
    simp only [idxOk, Bool.and_eq_true, decide_eq_true_eq] at this
    omega) true (by simp)
 simp only [hsc] at hcs
 simp (maxSteps := 1000000) [hho, noHo, hsc, -List.reduceReplicate]
 refine call_x [] (hcs) rfl rfl ⟨rfl, rfl⟩ hho (by simp) (by decide) (by simp) (by simp) ?_
 simp (maxSteps := 1000000) [hho, noHo, -List.reduceReplicate]
 exact Ret.drop (by rfl) ⟨rfl, rfl⟩
def lgT (id : Int) : List (Nat × AV) := [(1, .c (.int .i64 id)), (3, .ptr 0 0 3), (5, .ptr 1 0 4)]
def lgH (s : SchS) (x : TabS) : List AObj := [.o .box (schA s), .o .box (tabA x)]
def lg1 (s : SchS) (x : TabS) (id : Int) (j : Nat) : AS := ⟨slotsOf 125 (lgT id ++ [(70, .fs 10 x.cols.length (colsA x.cols)), (71, .c (.int .i64 (x.cols.length : Nat))), (72, .c (.int .i64 (j : Nat)))]), lgH s x⟩
def lg2 (s : SchS) (x : TabS) (id : Int) (j : Nat) : AS := ⟨slotsOf 125 (lgT id ++ [(98, .fs 5 x.idxs.length (idxsA x.idxs)), (99, .c (.int .i64 (x.idxs.length : Nat))), (100, .c (.int .i64 (j : Nat)))]), lgH s x⟩
set_option maxHeartbeats 16000000 in
theorem lgrows_w (s : SchS) (ho : s.Ok) (id : Int) (hid : -9223372036854775808 ≤ id ∧ id ≤ 9223372036854775807) (x : TabS) (hox : x.Ok) : ACalls Tryz.prog 3 [.agg (schA s), .c (.int .i64 id), .agg (tabA x)] [] (fun _ => false) (fun r h' => r = .c (.bool true)) := by
 refine acalls mixed Tryz.func3 rfl Tryz.ntmps3 rfl fun E hE hst hho => ?_
 have hsc : ∀ s : SchS, schA s = [.c (.int .i64 s.ver), .c (.int .i64 s.next), .fs 4 s.tabs.length (tabsA s.tabs)] := fun _ => rfl
 have hta : ∀ t : TabS, tabA t = [.c (.int .i64 t.id), .c (.string t.name), .fs 10 t.cols.length (colsA t.cols), .fs 5 t.idxs.length (idxsA t.idxs)] := fun _ => rfl
 obtain ⟨R, hR⟩ := fit_dec2 s
 obtain ⟨R2, hR2⟩ := fit_dec2 ⟨0, 0, [x]⟩
 have c0 := small_r12 s R hR
 have c2 := small_r12 ⟨0, 0, [x]⟩ R2 hR2
 have h1x : schA ⟨0, 0, [x]⟩ = [.c (.int .i64 0), .c (.int .i64 0), .fs 4 1 (tabA x)] := by simp [schA, tabsA]
 rw [h1x] at c2
 simp only [hsc, hta] at c0 c2
 simp (maxSteps := 1000000) [hho, noHo, hsc s, hta, -List.reduceReplicate]
 refine call_x [] (first14_w) rfl rfl ⟨rfl, rfl⟩ hho (by simp) (by decide) (by simp) (by simp) ?_
 simp (maxSteps := 1000000) [hho, noHo, -List.reduceReplicate]
 refine call_x [] (c0) rfl rfl ⟨rfl, rfl⟩ hho (by simp) (by decide) (by simp) (by simp) ?_
 cases R with
 | false =>
  simp (maxSteps := 1000000) [hho, noHo, undef, onGP_none, condG_false, -List.reduceReplicate]
  exact Ret.drop (by rfl) rfl
 | true =>
 simp (maxSteps := 1000000) [hho, noHo, undef, onGP_none, condG_false, -List.reduceReplicate]
 refine call_f [] (fun k => k == 2) c2 rfl rfl ⟨rfl, rfl⟩ hho (by simp) (by decide) (by simp) (by simp [isD_c, maxLen, isD]) (by simp) ?_
 cases R2 with
 | false =>
  simp (maxSteps := 1000000) [hho, noHo, undef, onGP_none, condG_false, -List.reduceReplicate]
  exact Ret.drop (by rfl) rfl
 | true =>
 by_cases hv : 1152921504606846976 < s.ver
 ·simp (maxSteps := 1000000) [hho, noHo, hv, undef, onGP_none, condG_false, -List.reduceReplicate]
  exact Ret.drop (by rfl) rfl
 by_cases hnx : 1152921504606846976 < s.next
 ·simp (maxSteps := 1000000) [hho, noHo, hv, hnx, undef, onGP_none, condG_false, -List.reduceReplicate]
  exact Ret.drop (by rfl) rfl
 have hf := hR.1 rfl
 obtain ⟨hb1, hb2⟩ := fit_big2 hf
 have hfx : TabFit x := (hR2.1 rfl).2 x (by simp)
 obtain ⟨f1, f2, f3, f4, f5⟩ := hfx
 have hl := hf.1
 have hbs : ∀ t ∈ s.tabs, t.cols.length ≤ 1000 ∧ t.idxs.length ≤ 1000 ∧ ∀ x ∈ t.idxs, x.cols.length ≤ 1000 := fun t ht => by
  obtain ⟨q1, q2, q3, q4, q5⟩ := hf.2 t ht
  exact ⟨by omega, by omega, fun x hx => by have := (q5 x hx).2; omega⟩
 have w1 := create_w s x.name x.cols (by omega) (by omega) (by omega) hb2 (by omega) (by omega) (fun c hc => by obtain ⟨q1, q2⟩ := f4 c hc; exact ⟨by omega, by omega⟩)
 have w2 := r14Create_w s x.name x.cols (by omega) (by omega) (by omega) hbs hb2 (by omega) (by omega) (fun c hc => by obtain ⟨q1, q2⟩ := f4 c hc; exact ⟨by omega, by omega⟩)
 have w3 := l14same_w (createS s x.name x.cols).1 (createS s x.name x.cols).2 (create_fit _ _ _)
 obtain ⟨q, hq⟩ : ∃ q, q = createS s x.name x.cols := ⟨_, rfl⟩
 rw [← hq] at w1 w2 w3
 obtain ⟨p, e⟩ := q
 simp only [hsc] at w1 w2 w3
 clear hq
 simp (maxSteps := 1000000) [hho, noHo, hv, hnx, undef, onGP_none, condG_false, -List.reduceReplicate]
 refine call_x [] (w1) rfl rfl ⟨rfl, rfl⟩ hho (by simp) (by decide) (by simp) (by simp) ?_
 simp (maxSteps := 1000000) [hho, noHo, -List.reduceReplicate]
 refine call_x [] (w2) rfl rfl ⟨rfl, rfl⟩ hho (by simp) (by decide) (by simp) (by simp) ?_
 simp (maxSteps := 1000000) [hho, noHo, -List.reduceReplicate]
 refine call_x [] (w3) rfl rfl ⟨rfl, rfl⟩ hho (by simp) (by decide) (by simp) (by simp) ?_
 simp (maxSteps := 1000000) [hho, noHo, -List.reduceReplicate]
 refine loop_k mixed (lg1 s x id) (fun j => x.cols.length - j) (fun j => j ≤ x.cols.length) 0 (Nat.zero_le _) ?_ ?_
 ·exact wk_of 2 3 (by simp) (by simp [hE, lens]) (by simp [lg1, lgH, hsc, hta]) (by simp [livH, livO, AV.livL, AV.liv, wkL, wkV, List.range', lg1, lgH, hsc, hta]) (by simp [livH, livO, AV.livL, AV.liv, wkL, wkV, List.range', lg1, lgT, slotsOf])
 intro j hj
 by_cases hjl : j < x.cols.length
 ·obtain ⟨c, hce⟩ : ∃ c, c = x.cols[j] := ⟨_, rfl⟩
  have hat := colsA_at x.cols j hjl
  rw [← hce] at hat
  have hcm : c ∈ x.cols := by rw [hce]; exact List.getElem_mem hjl
  obtain ⟨q1, q2⟩ := f4 c hcm
  have e0 : j * 10 + 10 ≤ x.cols.length * 10 := by omega
  have ew : IntKind.i64.wrap ((j : Int) + 1) = (j + 1 : Nat) := by rw [IntWalk.i64_in _ (by omega)]; rfl
  have hca : colA c = [.c (.int .i64 c.id), .c (.string c.name), .c (.int .i64 c.ty.k), .c (.int .i64 c.ty.s), .c (.bool c.nn), .c (.int .i64 c.dft.k), .c (.int .i64 c.dft.n), .c (.int .i64 c.dft.s), .c (.string c.dft.t), .c (.int .i64 c.st)] := rfl
  have w1 := grow_w s id c (by omega) (by omega) (by omega) hb2 ⟨by omega, by omega⟩
  have w2 := r14Grow_w s id c (by omega) (by omega) (by omega) hbs hb2 ⟨by omega, by omega⟩
  have w3 := l14same_w (growS s id c).1 (growS s id c).2 (grow_fit _ _ _)
  obtain ⟨q, hq⟩ : ∃ q, q = growS s id c := ⟨_, rfl⟩
  rw [← hq] at w1 w2 w3
  obtain ⟨p, e⟩ := q
  simp only [hsc, hca] at w1 w2 w3
  clear hq
  simp only [lg1, lgT, lgH]
  simp (maxSteps := 1000000) [hho, noHo, slotsOf, hjl, hat, e0, hsc s, hta, hca, -List.reduceReplicate]
  refine call_x [] (w1) rfl rfl ⟨rfl, rfl⟩ hho (by simp) (by decide) (by simp) (by simp) ?_
  simp (maxSteps := 1000000) [hho, noHo, -List.reduceReplicate]
  refine call_x [] (w2) rfl rfl ⟨rfl, rfl⟩ hho (by simp) (by decide) (by simp) (by simp) ?_
  simp (maxSteps := 1000000) [hho, noHo, -List.reduceReplicate]
  refine call_x [] (w3) rfl rfl ⟨rfl, rfl⟩ hho (by simp) (by decide) (by simp) (by simp) ?_
  simp (maxSteps := 1000000) [hho, noHo, ew, -List.reduceReplicate]
  refine round_next (j + 1) (by omega) (by omega) ?_
  exact wk_of 2 3 (by simp) (by simp [hE, lens]) (by simp [lg1, lgH, hsc, hta]) (by simp [livH, livO, AV.livL, AV.liv, wkL, wkV, List.range', lg1, lgH, hsc, hta]) (by simp [livH, livO, AV.livL, AV.liv, wkL, wkV, List.range', lg1, lgT, slotsOf])
 obtain rfl : j = x.cols.length := by omega
 simp only [lg1, lgT, lgH]
 simp (maxSteps := 1000000) [hho, noHo, slotsOf, hsc s, hta, -List.reduceReplicate]
 refine loop_k mixed (lg2 s x id) (fun j => x.idxs.length - j) (fun j => j ≤ x.idxs.length) 0 (Nat.zero_le _) ?_ ?_
 ·exact wk_eq (by simp [hE, lens]) (by simp [lg2, lgH, hsc, hta]) (by simp [livH, livO, AV.livL, AV.liv, wkL, wkV, List.range', lg2, lgT, slotsOf])
 intro j hj
 by_cases hjl : j < x.idxs.length
 ·obtain ⟨c, hce⟩ : ∃ c, c = x.idxs[j] := ⟨_, rfl⟩
  have hat := idxsA_at x.idxs j hjl
  rw [← hce] at hat
  have hcm : c ∈ x.idxs := by rw [hce]; exact List.getElem_mem hjl
  obtain ⟨q1, q2⟩ := f5 c hcm
  have e0 : j * 5 + 5 ≤ x.idxs.length * 5 := by omega
  have ew : IntKind.i64.wrap ((j : Int) + 1) = (j + 1 : Nat) := by rw [IntWalk.i64_in _ (by omega)]; rfl
  have hca : idxA c = [.c (.int .i64 c.id), .c (.string c.name), .fs 1 c.cols.length (intsA c.cols), .c (.bool c.uniq), .c (.int .i64 c.st)] := rfl
  have w1 := growX_w s id c (by omega) (by omega) (by omega) hb2 ⟨by omega, by omega⟩
  have w2 := r14GrowX_w s id c (by omega) (by omega) (by omega) hbs hb2 ⟨by omega, by omega⟩
  have w3 := l14same_w (growX s id c).1 (growX s id c).2 (growX_fit _ _ _)
  obtain ⟨q, hq⟩ : ∃ q, q = growX s id c := ⟨_, rfl⟩
  rw [← hq] at w1 w2 w3
  obtain ⟨p, e⟩ := q
  simp only [hsc, hca] at w1 w2 w3
  clear hq
  simp only [lg2, lgT, lgH]
  simp (maxSteps := 1000000) [hho, noHo, slotsOf, hjl, hat, e0, hsc s, hta, hca, -List.reduceReplicate]
  refine call_x [] (w1) rfl rfl ⟨rfl, rfl⟩ hho (by simp) (by decide) (by simp) (by simp) ?_
  simp (maxSteps := 1000000) [hho, noHo, -List.reduceReplicate]
  refine call_x [] (w2) rfl rfl ⟨rfl, rfl⟩ hho (by simp) (by decide) (by simp) (by simp) ?_
  simp (maxSteps := 1000000) [hho, noHo, -List.reduceReplicate]
  refine call_x [] (w3) rfl rfl ⟨rfl, rfl⟩ hho (by simp) (by decide) (by simp) (by simp) ?_
  simp (maxSteps := 1000000) [hho, noHo, ew, -List.reduceReplicate]
  refine round_next (j + 1) (by omega) (by omega) ?_
  exact wk_of 2 3 (by simp) (by simp [hE, lens]) (by simp [lg2, lgH, hsc, hta]) (by simp [livH, livO, AV.livL, AV.liv, wkL, wkV, List.range', lg2, lgH, hsc, hta]) (by simp [livH, livO, AV.livL, AV.liv, wkL, wkV, List.range', lg2, lgT, slotsOf])
 obtain rfl : j = x.idxs.length := by omega
 simp only [lg2, lgT, lgH]
 simp (maxSteps := 1000000) [hho, noHo, slotsOf, -List.reduceReplicate]
 exact Ret.drop (by rfl) rfl
end Go.Proofs.YthgoocdldnkogaaGreatDoor
