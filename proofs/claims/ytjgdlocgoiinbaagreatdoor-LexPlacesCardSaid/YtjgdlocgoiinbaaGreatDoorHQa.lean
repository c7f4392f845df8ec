import Derived.Test.YtjgdlocgoiinbaaGreatDoorVb
import Derived.Test.YtjgdlocgoiinbaaGreatDoorHD
import Derived.Test.YtjgdlocgoiinbaaGreatDoorIx
import Derived.IntWalk
import Derived.Test.YtjgdlocgoiinbaaGreatDoorLs
namespace Go.Proofs.YtjgdlocgoiinbaaGreatDoor
set_option linter.unusedVariables false
set_option linter.unusedSimpArgs false
open Go.RowKit
attribute [local simp] isCut_nil isCut_region isCut_seq isCut_block isCut_loop isCut_cond isCut_skip isCut_exit isCut_ret isCut_range swapK putK altK condK_bool pickP_bool stepP stepO onPure_some onPure_none onImpl_some onImpl_none stepC onGP_some onGP_none onGV_some condG mkG onIt_it nextP_ptr takeP_eq takeV_some takeV_none takeU_some takeU_none takeQ takeW_some takeN_none takeN_some takeG_some takeO_some altO_some pureV binV2 eqF eqOp ovlV ovl2 rowAt capV binV intBin strBin isSh shV fldV ixV sliceV slice3V loadAV nilV lenV callV unV convV viewS cellsH loadV fldCut AV.ung AV.ungs AV.gc AV.cells AS.ev AS.put anyS gcsV gcO lens lnO gV guardV retK RetP_eq resV oneV anyRo loIx hiIx implO callP_clo evL gcsL clearV storeAV AS.push AS.setO appV appZ shortS copyV buildV partsV fillV srcV fzO okV isCell_c isCell_ptr isCell_sl isCell_fs isCell_fp isCell_clo rowZ_one rowZ_zero rowZ_2 rowZ_3 rowZ_4 rowZ_5 rowZ_6 rowZ_7 rowZ_8 rowZ_9 rowZ_10 rowZ_11 rowZ_12 noHo Value.oneCell' max2V min2V lookV updV lenM msAt afterH putBack frzFrom frzO rebO backIx nilEq_sl nilEq_fs nilEq_ifn nilEq_ifh ifOp_eql ifOp_neq isLit nilOp_eql nilOp_neq AV.reb AV.rebL
attribute [local simp ↓] runK_skip runK_region runK_draw runK_seq runK_cut runK_cond runK_block runK_loop runK_exit runK_label runK_goto runK_ret runK_range contK_nil contK_seq contK_seq_ret contK_seq_exit contK_seq_goto contK_block contK_block_ret contK_block_goto contK_block_exit runO_nil runO_cons roundK_exit roundK_ret roundK_goto exitK_ret cutK_ret cutK_exit runE_done runE_nil runE_take runE_alt condG_true condG_false
set_option maxRecDepth 10000
section
variable {P : Program} {E : Env} {s : AS}
end
def orL : List Int → Int
  | [] => 0
  | x :: l => if x ≠ 0 then x else orL l
def tenN (k : Nat) : Nat := 10 ^ k
end Go.Proofs.YtjgdlocgoiinbaaGreatDoor
namespace Go.Proofs.YtjgdlocgoiinbaaGreatDoor
set_option linter.unusedVariables false
set_option linter.unusedSimpArgs false
open Go.RowKit Go.Lib
attribute [local simp] isCut_nil isCut_region isCut_seq isCut_block isCut_loop isCut_cond isCut_skip isCut_exit isCut_ret isCut_range swapK putK altK condK_bool pickP_bool stepP stepO onPure_some onPure_none onImpl_some onImpl_none stepC onGP_some onGP_none onGV_some condG mkG onIt_it nextP_ptr takeP_eq takeV_some takeV_none takeU_some takeU_none takeQ takeW_some takeN_none takeN_some takeG_some takeO_some altO_some pureV binV2 eqF eqOp ovlV ovl2 rowAt capV binV intBin strBin isSh shV fldV ixV sliceV slice3V loadAV nilV lenV callV unV convV viewS cellsH loadV fldCut AV.ung AV.ungs AV.gc AV.cells AS.ev AS.put anyS gcsV gcO lens lnO gV guardV retK RetP_eq resV oneV anyRo loIx hiIx implO callP_clo evL gcsL clearV storeAV AS.push AS.setO appV appZ shortS copyV buildV partsV fillV srcV fzO okV isCell_c isCell_ptr isCell_sl isCell_fs isCell_fp isCell_clo rowZ_one rowZ_zero rowZ_2 rowZ_3 rowZ_4 rowZ_5 rowZ_6 rowZ_7 rowZ_8 rowZ_9 rowZ_10 rowZ_11 rowZ_12 noHo Value.oneCell' max2V min2V lookV updV lenM msAt afterH putBack frzFrom frzO rebO backIx nilEq_sl nilEq_fs nilEq_ifn nilEq_ifh ifOp_eql ifOp_neq isLit nilOp_eql nilOp_neq AV.reb AV.rebL
attribute [local simp ↓] runK_skip runK_region runK_draw runK_seq runK_cut runK_cond runK_block runK_loop runK_exit runK_label runK_goto runK_ret runK_range contK_nil contK_seq contK_seq_ret contK_seq_exit contK_seq_goto contK_block contK_block_ret contK_block_goto contK_block_exit runO_nil runO_cons roundK_exit roundK_ret roundK_goto exitK_ret cutK_ret cutK_exit runE_done runE_nil runE_take runE_alt condG_true condG_false
set_option maxRecDepth 10000
def digI (l : List Nat) : List Int := l.map fun d : Nat => (d : Int)
def dA (l : List Nat) : AV := .fs 1 l.length (intsA (digI l))
@[simp] theorem digI_len (l : List Nat) : (digI l).length = l.length := by simp [digI]
theorem digI_snoc (l : List Nat) (d : Nat) : intsA (digI (l ++ [d])) = intsA (digI l) ++ [.c (.int .i64 (d : Int))] := by simp [digI, intsA]
theorem dA_at (l : List Nat) (j : Nat) (hj : j < l.length) : List.take 1 (List.drop j (intsA (digI l))) = [.c (.int .i64 (l[j] : Nat))] := by
  rw [List.drop_eq_getElem_cons (by simpa [intsA, digI] using hj)]
  simp [intsA, digI]
theorem ret_ints {st : Nat → Bool} {Post : AV → List AObj → Prop} {t : TypeId} {d : List Int} (m : Nat) (hm : m = d.length) (hd : d.length ≤ 1000000000) (hst : ∀ i, st i = false) (hp : Post (.fs 1 d.length (intsA d)) []) : Ret st Post [.o (.row t 1) (intsA d)] (.sl 0 1 0 m m) := by
  subst hm
  have htk : List.take d.length (intsA d) = intsA d := List.take_of_length_le (by simp [intsA])
  refine Ret.sel [] (fun k => k == 0) (ho := by rfl) (ha := by rfl) ?_ ?_ (by decide) (by simp) (fun i _ h => by rw [hst] at h; cases h) ?_
  · simp
  · exact ⟨by simp [intsA], by omega, by unfold maxLen; omega, by rw [List.drop_zero, Nat.mul_one, htk]; exact List.all_eq_true.2 ((intsA_all d).2 trivial)⟩
  · show Post (AV.fs 1 d.length (List.take (d.length * 1) (List.drop 0 (intsA d)))) []
    rw [List.drop_zero, Nat.mul_one, htk]; exact hp
theorem tm10 (m : Int) : (m < 0 → m.tdiv 10 = -(-m / 10) ∧ m.tmod 10 = -(-m % 10)) ∧ (0 ≤ m → m.tdiv 10 = m / 10 ∧ m.tmod 10 = m % 10) := by
  refine ⟨fun h => ?_, fun h => ⟨Int.tdiv_eq_ediv_of_nonneg h, Int.tmod_eq_emod_of_nonneg h⟩⟩
  obtain ⟨k, rfl⟩ : ∃ k, m = -k := ⟨-m, by omega⟩
  rw [Int.neg_tdiv, Int.neg_tmod, Int.neg_neg, Int.tdiv_eq_ediv_of_nonneg (by omega), Int.tmod_eq_emod_of_nonneg (by omega)]
  exact ⟨rfl, rfl⟩
theorem digL_small (n k : Nat) (h : n < 10 ^ k) : (digL n).length ≤ k := by
  by_cases h0 : n = 0
  · subst h0; rw [digL_zero]; simp
  · have hne : digL n ≠ [] := fun e => h0 (digL_nil e)
    have h1 := valL_ge (digL_canon n) hne
    rw [valL_dig] at h1
    have h2 := (Nat.pow_lt_pow_iff_right (by decide : 1 < 10)).1 (Nat.lt_of_le_of_lt h1 h)
    omega
set_option maxHeartbeats 4000000 in
theorem r2Of_w (n : Int) (hn : -9223372036854775808 ≤ n ∧ n ≤ 9223372036854775807) : ACalls Tryz.prog 72 [.c (.int .i64 n)] [] (fun _ => false) (fun r h' => r = dA (digL n.natAbs) ∧ h' = []) := by
  refine acalls mixed Tryz.func72 rfl Tryz.ntmps72 rfl fun E hE hst hho => ?_
  simp (maxSteps := 1000000) [hho, noHo, -List.reduceReplicate]
  refine loop_k mixed (fun y : Int × List Nat => ⟨slotsOf 20 [(0, .c (.int .i64 y.1)), (3, .sl 0 1 0 y.2.length y.2.length)], [.o (.row 3 1) (intsA (digI y.2))]⟩) (fun y => y.1.natAbs) (fun y => digL n.natAbs = y.2 ++ digL y.1.natAbs ∧ (-9223372036854775808 ≤ y.1 ∧ y.1 ≤ 9223372036854775807)) (n, []) ⟨rfl, hn⟩ ?_ ?_
  · refine Wk.trans (wk_virt 3 3 1 rfl) ?_
    exact wk_eq (by simp [hE, lens]) (by simp [digI, intsA]) (by simp [livH, livO, AV.livL, AV.liv, wkL, wkV, List.range', slotsOf])
  rintro ⟨m, l⟩ ⟨hI, hm⟩
  simp only at hI hm
  have hlen : l.length ≤ 19 := by
    have h1 := congrArg List.length hI
    rw [List.length_append] at h1
    have h2 := digL_small n.natAbs 19 (by omega)
    omega
  by_cases h0 : m = 0
  · subst h0
    have e : digL n.natAbs = l := by rw [hI]; show l ++ digL 0 = l; rw [digL_zero, List.append_nil]
    simp (maxSteps := 1000000) [hho, noHo, slotsOf, -List.reduceReplicate]
    unfold dA
    rw [e]
    exact ret_ints _ (by simp [digI]) (by simp [digI]; omega) (fun i => rfl) ⟨by simp [digI], rfl⟩
  · have hd : digL m.natAbs = m.natAbs % 10 :: digL (m.natAbs / 10) := digL_pos (by omega)
    obtain ⟨tm1, tm2⟩ := tm10 m
    have eq : (m.tdiv 10).natAbs = m.natAbs / 10 := by
      rcases Int.lt_or_le m 0 with h | h
      · have := tm1 h; omega
      · have := tm2 h; omega
    have hb : -9223372036854775808 ≤ m.tdiv 10 ∧ m.tdiv 10 ≤ 9223372036854775807 := by
      rcases Int.lt_or_le m 0 with h | h
      · have := tm1 h; omega
      · have := tm2 h; omega
    have hr : m.tmod 10 = if m < 0 then -((m.natAbs % 10 : Nat) : Int) else ((m.natAbs % 10 : Nat) : Int) := by
      rcases Int.lt_or_le m 0 with h | h
      · have := tm1 h; rw [if_pos h]; omega
      · have := tm2 h; rw [if_neg (by omega)]; omega
    clear tm1 tm2
    have eq2 : IntKind.i64.wrap (m.tdiv 10) = m.tdiv 10 := IntWalk.i64_in _ hb
    have hsn := digI_snoc l (m.natAbs % 10)
    by_cases hneg : m.tmod 10 < 0
    · have er : IntKind.i64.wrap (-(m.tmod 10)) = (m.natAbs % 10 : Nat) := by rw [IntWalk.i64_in _ (by split at hr <;> omega)]; split at hr <;> omega
      have er2 : IntKind.i64.wrap (0 - m.tmod 10) = (m.natAbs % 10 : Nat) := by rw [IntWalk.i64_in _ (by split at hr <;> omega)]; split at hr <;> omega
      simp (maxSteps := 1000000) [hho, noHo, slotsOf, h0, hneg, er, er2, eq2, -List.reduceReplicate]
      refine ⟨by omega, round_next (m.tdiv 10, l ++ [m.natAbs % 10]) ⟨by rw [hI, hd, eq]; simp, hb⟩ (by simp only; omega) ?_⟩
      exact wk_of 1 1 (by simp) (by simp [hE, lens]) (by simp [hsn]) (by simp [livH, livO, AV.livL, AV.liv, wkL, wkV, List.range']) (by simp [livH, livO, AV.livL, AV.liv, wkL, wkV, List.range', slotsOf])
    · have er : m.tmod 10 = (m.natAbs % 10 : Nat) := by split at hr <;> omega
      simp (maxSteps := 1000000) [hho, noHo, slotsOf, h0, hneg, eq2, -List.reduceReplicate]
      refine ⟨by omega, round_next (m.tdiv 10, l ++ [m.natAbs % 10]) ⟨by rw [hI, hd, eq]; simp, hb⟩ (by simp only; omega) ?_⟩
      exact wk_of 1 1 (by simp) (by simp [hE, lens]) (by simp [hsn, er]) (by simp [livH, livO, AV.livL, AV.liv, wkL, wkV, List.range']) (by simp [livH, livO, AV.livL, AV.liv, wkL, wkV, List.range', slotsOf])
set_option maxHeartbeats 4000000 in
theorem r2Cmp_w (m n : Nat) (lm : (digL m).length ≤ 1000000) (ln : (digL n).length ≤ 1000000) : ACalls Tryz.prog 70 [dA (digL m), dA (digL n)] [] (fun _ => false) (fun r h' => r = .c (.int .i64 (cmpN m n)) ∧ h' = []) := by
  refine acalls mixed Tryz.func70 rfl Tryz.ntmps70 rfl fun E hE hst hho => ?_
  have gl := @cmp_len m n
  have gl2 := @cmp_len n m
  have ga := @cmp_at m n
  have ga2 := @cmp_at n m
  have ge := @cmp_eq m n
  unfold dA
  obtain ⟨a, ha⟩ : ∃ a, a = digL m := ⟨_, rfl⟩
  obtain ⟨b, hb⟩ : ∃ b, b = digL n := ⟨_, rfl⟩
  rw [← ha, ← hb] at gl gl2 ga ga2 ge ⊢
  rw [← ha] at lm
  rw [← hb] at ln
  clear ha hb
  by_cases hl : a.length = b.length
  case neg =>
    have hli : ¬ (a.length : Int) = b.length := by omega
    by_cases hlt : a.length < b.length
    · have hlti : (a.length : Int) < b.length := by omega
      have h1 := gl hlt
      simp (maxSteps := 1000000) [hho, noHo, hl, hli, hlt, hlti, -List.reduceReplicate]
      exact Ret.drop (by rfl) ⟨by unfold cmpN; rw [if_pos (by omega)], rfl⟩
    · have hlti : ¬ (a.length : Int) < b.length := by omega
      have h1 := gl2 (by omega)
      simp (maxSteps := 1000000) [hho, noHo, hl, hli, hlt, hlti, -List.reduceReplicate]
      exact Ret.drop (by rfl) ⟨by unfold cmpN; rw [if_neg (by omega), if_pos (by omega)], rfl⟩
  have hli : (a.length : Int) = b.length := by omega
  have e0 : IntKind.i64.wrap ((b.length : Int) - 1) = (b.length : Int) - 1 := IntWalk.i64_in _ (by omega)
  simp (maxSteps := 1000000) [hho, noHo, hl, hli, e0, -List.reduceReplicate]
  refine loop_k mixed (fun j : Nat => ⟨slotsOf 41 [(0, .fs 1 b.length (intsA (digI a))), (1, .fs 1 b.length (intsA (digI b))), (5, .c (.int .i64 ((j : Int) - 1)))], []⟩) (fun j => j) (fun j => j ≤ b.length ∧ ∀ k (h1 : k < a.length) (h2 : k < b.length), j ≤ k → a[k] = b[k]) b.length ⟨Nat.le_refl _, fun k h1 h2 h => by omega⟩ ?_ ?_
  · exact wk_eq (by simp [hE, lens]) rfl (by simp [livH, livO, AV.livL, AV.liv, wkL, wkV, List.range', slotsOf, hl])
  rintro j ⟨hj, hI⟩
  by_cases hj0 : j = 0
  · subst hj0
    have he := ge hl fun k h1 h2 => hI k h1 h2 (Nat.zero_le _)
    subst he
    simp (maxSteps := 1000000) [hho, noHo, slotsOf, -List.reduceReplicate]
    exact Ret.drop (by rfl) ⟨by unfold cmpN; rw [if_neg (by omega), if_neg (by omega)], rfl⟩
  obtain ⟨i, rfl⟩ : ∃ i, j = i + 1 := ⟨j - 1, by omega⟩
  have hia : i < a.length := by omega
  have hib : i < b.length := by omega
  have e1 : ((i + 1 : Nat) : Int) - 1 = i := by omega
  have e2 : IntKind.i64.wrap ((i : Int) - 1) = (i : Int) - 1 := IntWalk.i64_in _ (by omega)
  have ta := dA_at a i hia
  have tb := dA_at b i hib
  have g1 := ga hl hia hib
  have g2 := ga2 hl.symm hib hia
  have hnx : a[i] = b[i] → ∀ k (h1 : k < a.length) (h2 : k < b.length), i ≤ k → a[k] = b[k] := fun h k h1 h2 hk => by
    by_cases e : k = i
    · subst e; exact h
    · exact hI k h1 h2 (by omega)
  obtain ⟨x, hx⟩ : ∃ x, x = a[i] := ⟨_, rfl⟩
  obtain ⟨y, hy⟩ : ∃ y, y = b[i] := ⟨_, rfl⟩
  rw [← hx] at ta g1 g2 hnx
  rw [← hy] at tb g1 g2 hnx
  rw [e1]
  by_cases h1 : x < y
  · have h1i : (x : Int) < y := by omega
    have := g1 h1 fun k q1 q2 q => hI k q1 q2 (by omega)
    simp (maxSteps := 1000000) [hho, noHo, slotsOf, -List.reduceReplicate]
    refine draw_k hho (.take 0 (.take 1 (.take 2 (.take 3 (.take 4 (.take 5 (.take 6 (.take 7 (.take 8 (.done)))))))))) [] [] (by decide +kernel) (by simp) ?_
    simp (maxSteps := 1000000) [hho, noHo, hib, ta, tb, h1, h1i, roOf, holdOf, wrOf, altK, heldOk, Region.binds, -List.reduceReplicate]
    exact Ret.drop (by rfl) ⟨by unfold cmpN; rw [if_pos (by omega)], rfl⟩
  have h1i : ¬ (x : Int) < y := by omega
  by_cases h2 : y < x
  · have h2i : (y : Int) < x := by omega
    have := g2 h2 fun k q1 q2 q => (hI k q2 q1 (by omega)).symm
    simp (maxSteps := 1000000) [hho, noHo, slotsOf, -List.reduceReplicate]
    refine draw_k hho (.take 0 (.take 1 (.take 2 (.take 3 (.take 4 (.take 5 (.take 6 (.take 7 (.take 8 (.done)))))))))) [] [] (by decide +kernel) (by simp) ?_
    simp (maxSteps := 1000000) [hho, noHo, hib, ta, tb, h1, h1i, roOf, holdOf, wrOf, altK, heldOk, Region.binds, -List.reduceReplicate]
    refine draw_k hho (.take 0 (.take 1 (.take 2 (.take 3 (.take 4 (.take 5 (.take 6 (.take 7 (.take 8 (.done)))))))))) [] [] (by decide +kernel) (by simp) ?_
    simp (maxSteps := 1000000) [hho, noHo, hib, ta, tb, h2, h2i, roOf, holdOf, wrOf, altK, heldOk, Region.binds, -List.reduceReplicate]
    exact Ret.drop (by rfl) ⟨by unfold cmpN; rw [if_neg (by omega), if_pos (by omega)], rfl⟩
  have h2i : ¬ (y : Int) < x := by omega
  simp (maxSteps := 1000000) [hho, noHo, slotsOf, -List.reduceReplicate]
  refine draw_k hho (.take 0 (.take 1 (.take 2 (.take 3 (.take 4 (.take 5 (.take 6 (.take 7 (.take 8 (.done)))))))))) [] [] (by decide +kernel) (by simp) ?_
  simp (maxSteps := 1000000) [hho, noHo, hib, ta, tb, h1, h1i, roOf, holdOf, wrOf, altK, heldOk, Region.binds, -List.reduceReplicate]
  refine draw_k hho (.take 0 (.take 1 (.take 2 (.take 3 (.take 4 (.take 5 (.take 6 (.take 7 (.take 8 (.done)))))))))) [] [] (by decide +kernel) (by simp) ?_
  simp (maxSteps := 1000000) [hho, noHo, hib, ta, tb, h2, h2i, e2, roOf, holdOf, wrOf, altK, heldOk, Region.binds, -List.reduceReplicate]
  refine round_next i ⟨by omega, hnx (by omega)⟩ (by omega) ?_
  exact wk_of 0 0 (by simp) (by simp [hE, lens]) rfl (by simp [livH, livO, AV.livL, AV.liv, wkL, wkV, List.range']) (by simp [livH, livO, AV.livL, AV.liv, wkL, wkV, List.range', slotsOf])
def decC (a sa b sb : Int) : Int := if scaleOk sa = true ∧ scaleOk sb = true then decCmp a sa b sb else 0
end Go.Proofs.YtjgdlocgoiinbaaGreatDoor
namespace Go.Proofs.YtjgdlocgoiinbaaGreatDoor
set_option linter.unusedVariables false
set_option linter.unusedSimpArgs false
open Go.RowKit Go.Lib
attribute [local simp] isCut_nil isCut_region isCut_seq isCut_block isCut_loop isCut_cond isCut_skip isCut_exit isCut_ret isCut_range swapK putK altK condK_bool pickP_bool stepP stepO onPure_some onPure_none onImpl_some onImpl_none stepC onGP_some onGP_none onGV_some condG mkG onIt_it nextP_ptr takeP_eq takeV_some takeV_none takeU_some takeU_none takeQ takeW_some takeN_none takeN_some takeG_some takeO_some altO_some pureV binV2 eqF eqOp ovlV ovl2 rowAt capV binV intBin strBin isSh shV fldV ixV sliceV slice3V loadAV nilV lenV callV unV convV viewS cellsH loadV fldCut AV.ung AV.ungs AV.gc AV.cells AS.ev AS.put anyS gcsV gcO lens lnO gV guardV retK RetP_eq resV oneV anyRo loIx hiIx implO callP_clo evL gcsL clearV storeAV AS.push AS.setO appV appZ shortS copyV buildV partsV fillV srcV fzO okV isCell_c isCell_ptr isCell_sl isCell_fs isCell_fp isCell_clo rowZ_one rowZ_zero rowZ_2 rowZ_3 rowZ_4 rowZ_5 rowZ_6 rowZ_7 rowZ_8 rowZ_9 rowZ_10 rowZ_11 rowZ_12 noHo Value.oneCell' max2V min2V lookV updV lenM msAt afterH putBack frzFrom frzO rebO backIx nilEq_sl nilEq_fs nilEq_ifn nilEq_ifh ifOp_eql ifOp_neq isLit nilOp_eql nilOp_neq AV.reb AV.rebL
attribute [local simp ↓] runK_skip runK_region runK_draw runK_seq runK_cut runK_cond runK_block runK_loop runK_exit runK_label runK_goto runK_ret runK_range contK_nil contK_seq contK_seq_ret contK_seq_exit contK_seq_goto contK_block contK_block_ret contK_block_goto contK_block_exit runO_nil runO_cons roundK_exit roundK_ret roundK_goto exitK_ret cutK_ret cutK_exit runE_done runE_nil runE_take runE_alt condG_true condG_false
set_option maxRecDepth 10000
end Go.Proofs.YtjgdlocgoiinbaaGreatDoor
namespace Go.Proofs.YtjgdlocgoiinbaaGreatDoor
set_option linter.unusedVariables false
set_option linter.unusedSimpArgs false
open Go.RowKit Go.Lib
attribute [local simp] isCut_nil isCut_region isCut_seq isCut_block isCut_loop isCut_cond isCut_skip isCut_exit isCut_ret isCut_range swapK putK altK condK_bool pickP_bool stepP stepO onPure_some onPure_none onImpl_some onImpl_none stepC onGP_some onGP_none onGV_some condG mkG onIt_it nextP_ptr takeP_eq takeV_some takeV_none takeU_some takeU_none takeQ takeW_some takeN_none takeN_some takeG_some takeO_some altO_some pureV binV2 eqF eqOp ovlV ovl2 rowAt capV binV intBin strBin isSh shV fldV ixV sliceV slice3V loadAV nilV lenV callV unV convV viewS cellsH loadV fldCut AV.ung AV.ungs AV.gc AV.cells AS.ev AS.put anyS gcsV gcO lens lnO gV guardV retK RetP_eq resV oneV anyRo loIx hiIx implO callP_clo evL gcsL clearV storeAV AS.push AS.setO appV appZ shortS copyV buildV partsV fillV srcV fzO okV isCell_c isCell_ptr isCell_sl isCell_fs isCell_fp isCell_clo rowZ_one rowZ_zero rowZ_2 rowZ_3 rowZ_4 rowZ_5 rowZ_6 rowZ_7 rowZ_8 rowZ_9 rowZ_10 rowZ_11 rowZ_12 noHo Value.oneCell' max2V min2V lookV updV lenM msAt afterH putBack frzFrom frzO rebO backIx nilEq_sl nilEq_fs nilEq_ifn nilEq_ifh ifOp_eql ifOp_neq isLit nilOp_eql nilOp_neq AV.reb AV.rebL
attribute [local simp ↓] runK_skip runK_region runK_draw runK_seq runK_cut runK_cond runK_block runK_loop runK_exit runK_label runK_goto runK_ret runK_range contK_nil contK_seq contK_seq_ret contK_seq_exit contK_seq_goto contK_block contK_block_ret contK_block_goto contK_block_exit runO_nil runO_cons roundK_exit roundK_ret roundK_goto exitK_ret cutK_ret cutK_exit runE_done runE_nil runE_take runE_alt condG_true condG_false
set_option maxRecDepth 10000
theorem vright_w (v : ValS) (hv : v.t.size ≤ 9000000000000000000) : ACalls Tryz.prog 44 [.agg (valA v)] [] (fun _ => false) (fun r h' => r = .agg (valA (plV v)) ∧ h' = []) := by
  refine acalls mixed Tryz.func44 rfl Tryz.ntmps44 rfl fun E hE hst hho => ?_
  have c1 := val_right v hv
  unfold plV
  cases h : valOk v with
  | true =>
    rw [h] at c1
    simp (maxSteps := 1000000) [hho, noHo, valA, -List.reduceReplicate]
    refine call_x [] (c1) rfl rfl ⟨rfl, rfl⟩ hho (by simp) (by decide) (by simp) (by simp) ?_
    simp (maxSteps := 1000000) [hho, noHo, undef, onGP_none, condG_false, -List.reduceReplicate]
    exact Ret.drop (by rfl) ⟨rfl, rfl⟩
  | false =>
    rw [h] at c1
    simp (maxSteps := 1000000) [hho, noHo, valA, -List.reduceReplicate]
    refine call_x [] (c1) rfl rfl ⟨rfl, rfl⟩ hho (by simp) (by decide) (by simp) (by simp) ?_
    simp (maxSteps := 1000000) [hho, noHo, undef, onGP_none, condG_false, -List.reduceReplicate]
    exact Ret.drop (by rfl) ⟨rfl, rfl⟩
theorem r3Plain_w (v : ValS) (hv : v.t.size ≤ 9000000000000000000) : ACalls Tryz.prog 23 [.agg (valA v)] [] (fun _ => false) (fun r h' => r = .agg (valA (plV v)) ∧ h' = []) := by
  refine acalls mixed Tryz.func23 rfl Tryz.ntmps23 rfl fun E hE hst hho => ?_
  have c1 := val_ref v hv
  unfold plV
  cases h : valOk v with
  | true =>
    rw [h] at c1
    simp (maxSteps := 1000000) [hho, noHo, valA, -List.reduceReplicate]
    refine call_x [] (c1) rfl rfl ⟨rfl, rfl⟩ hho (by simp) (by decide) (by simp) (by simp) ?_
    simp (maxSteps := 1000000) [hho, noHo, undef, onGP_none, condG_false, -List.reduceReplicate]
    exact Ret.drop (by rfl) ⟨rfl, rfl⟩
  | false =>
    rw [h] at c1
    simp (maxSteps := 1000000) [hho, noHo, valA, -List.reduceReplicate]
    refine call_x [] (c1) rfl rfl ⟨rfl, rfl⟩ hho (by simp) (by decide) (by simp) (by simp) ?_
    simp (maxSteps := 1000000) [hho, noHo, undef, onGP_none, condG_false, -List.reduceReplicate]
    exact Ret.drop (by rfl) ⟨rfl, rfl⟩
theorem byte_at {s : ByteArray} {j : Nat} (h : j < s.data.toList.length) : (s.data[j]?.getD 0).toNat = (s.data.toList[j]).toNat := by
  have h' : j < s.data.size := by simpa using h
  rw [Array.getElem?_eq_getElem h', Option.getD_some, Array.getElem_toList]
theorem byte_at2 {s : ByteArray} {j : Nat} (h : j < s.data.toList.length) : (s.data[j]'(by simpa using h)).toNat = (s.data.toList[j]).toNat := by rw [Array.getElem_toList]
end Go.Proofs.YtjgdlocgoiinbaaGreatDoor
