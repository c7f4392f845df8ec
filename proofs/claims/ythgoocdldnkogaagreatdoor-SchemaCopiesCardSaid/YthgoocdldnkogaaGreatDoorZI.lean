import Derived.Test.YthgoocdldnkogaaGreatDoorHJ
namespace Go.Proofs.YthgoocdldnkogaaGreatDoor
set_option linter.unusedVariables false
set_option linter.unusedSimpArgs false
open Go.RowKit
attribute [local simp] isCut_nil isCut_region isCut_seq isCut_block isCut_loop isCut_cond isCut_skip isCut_exit isCut_ret isCut_range swapK putK altK condK_bool pickP_bool stepP stepO onPure_some onPure_none onImpl_some onImpl_none stepC onGP_some onGP_none onGV_some condG mkG onIt_it nextP_ptr takeP_eq takeV_some takeV_none takeU_some takeU_none takeQ takeW_some takeN_none takeN_some takeG_some takeO_some altO_some pureV binV2 eqF eqOp ovlV ovl2 rowAt capV binV intBin strBin isSh shV fldV ixV sliceV slice3V loadAV nilV lenV callV unV convV viewS cellsH loadV fldCut AV.ung AV.ungs AV.gc AV.cells AS.ev AS.put anyS gcsV gcO lens lnO gV guardV retK RetP_eq resV oneV anyRo loIx hiIx implO callP_clo evL gcsL clearV storeAV AS.push AS.setO appV appZ shortS copyV buildV partsV fillV srcV fzO okV isCell_c isCell_ptr isCell_sl isCell_fs isCell_fp isCell_clo rowZ_one rowZ_zero rowZ_2 rowZ_3 rowZ_4 rowZ_5 rowZ_6 rowZ_7 rowZ_8 rowZ_9 rowZ_10 rowZ_11 rowZ_12 noHo Value.oneCell' max2V min2V lookV updV updK updW cvals mkAt basV lenM msAt afterH putBack frzFrom frzO rebO backIx nilEq_sl nilEq_fs nilEq_ifn nilEq_ifh ifOp_eql ifOp_neq isLit nilOp_eql nilOp_neq AV.reb AV.rebL
attribute [local simp ↓] runK_skip runK_region runK_draw runK_seq runK_cut runK_cond runK_block runK_loop runK_exit runK_label runK_goto runK_ret runK_range contK_nil contK_seq contK_seq_ret contK_seq_exit contK_seq_goto contK_block contK_block_ret contK_block_goto contK_block_exit runO_nil runO_cons roundK_exit roundK_ret roundK_goto exitK_ret cutK_ret cutK_exit runE_done runE_nil runE_take runE_alt condG_true condG_false
set_option maxRecDepth 10000
def suJ (a : SchS) (b : SchS) (n : Nat) (j : Nat) : AS := ⟨slotsOf 169 [(2, .ptr 0 0 3), (3, .ptr 1 0 3), (35, .fs 4 n (tabsA a.tabs)), (36, .c (.int .i64 n)), (37, .c (.int .i64 (j : Nat)))], [.o .box (schA a), .o .box (schA b)]⟩
def suT (a : SchS) (b : SchS) (n : Nat) (x : TabS) (y : TabS) (j : Nat) (_ : Unit) : AS := ⟨slotsOf 169 [(2, .ptr 0 0 3), (3, .ptr 1 0 3), (35, .fs 4 n (tabsA a.tabs)), (36, .c (.int .i64 n)), (37, .c (.int .i64 (j : Nat))), (6, .fp (tabA x)), (7, .fp (tabA y))], [.o .box (schA a), .o .box (schA b)]⟩
def suC (a : SchS) (b : SchS) (n : Nat) (x : TabS) (y : TabS) (j : Nat) (p : Nat) (q : Nat) : AS := ⟨slotsOf 169 [(2, .ptr 0 0 3), (3, .ptr 1 0 3), (35, .fs 4 n (tabsA a.tabs)), (36, .c (.int .i64 n)), (37, .c (.int .i64 (j : Nat))), (6, .fp (tabA x)), (7, .fp (tabA y)), (81, .fs 10 p (colsA x.cols)), (82, .c (.int .i64 p)), (83, .c (.int .i64 (q : Nat)))], [.o .box (schA a), .o .box (schA b)]⟩
def suX (a : SchS) (b : SchS) (n : Nat) (x : TabS) (y : TabS) (j : Nat) (u : Nat) (k : Nat) : AS := ⟨slotsOf 169 [(2, .ptr 0 0 3), (3, .ptr 1 0 3), (35, .fs 4 n (tabsA a.tabs)), (36, .c (.int .i64 n)), (37, .c (.int .i64 (j : Nat))), (6, .fp (tabA x)), (7, .fp (tabA y)), (99, .fs 5 u (idxsA x.idxs)), (100, .c (.int .i64 u)), (101, .c (.int .i64 (k : Nat)))], [.o .box (schA a), .o .box (schA b)]⟩
def suI (a : SchS) (b : SchS) (n : Nat) (x : TabS) (y : TabS) (j : Nat) (u : Nat) (k : Nat) (z : IdxS) (v : IdxS) (_ : Unit) : AS := ⟨slotsOf 169 [(2, .ptr 0 0 3), (3, .ptr 1 0 3), (35, .fs 4 n (tabsA a.tabs)), (36, .c (.int .i64 n)), (37, .c (.int .i64 (j : Nat))), (6, .fp (tabA x)), (7, .fp (tabA y)), (10, .fp (idxA z)), (11, .fp (idxA v)), (99, .fs 5 u (idxsA x.idxs)), (100, .c (.int .i64 u)), (101, .c (.int .i64 (k : Nat)))], [.o .box (schA a), .o .box (schA b)]⟩
def suP (a : SchS) (b : SchS) (n : Nat) (x : TabS) (y : TabS) (j : Nat) (u : Nat) (k : Nat) (z : IdxS) (v : IdxS) (m : Nat) (w : Nat) : AS := ⟨slotsOf 169 [(2, .ptr 0 0 3), (3, .ptr 1 0 3), (35, .fs 4 n (tabsA a.tabs)), (36, .c (.int .i64 n)), (37, .c (.int .i64 (j : Nat))), (6, .fp (tabA x)), (7, .fp (tabA y)), (10, .fp (idxA z)), (11, .fp (idxA v)), (99, .fs 5 u (idxsA x.idxs)), (100, .c (.int .i64 u)), (101, .c (.int .i64 (k : Nat))), (150, .fs 1 m (intsA z.cols)), (151, .c (.int .i64 m)), (152, .c (.int .i64 (w : Nat)))], [.o .box (schA a), .o .box (schA b)]⟩
attribute [local simp] suJ suT suC suX suI suP
set_option maxHeartbeats 16000000 in
theorem same_r12 (a b : SchS) (ha : a.tabs.length ≤ 1000000) (hac : ∀ t ∈ a.tabs, t.cols.length ≤ 1000000 ∧ t.idxs.length ≤ 1000000 ∧ ∀ x ∈ t.idxs, x.cols.length ≤ 1000000) (R : Bool) (hR : R = true ↔ a = b) : ACalls Tryz.prog 24 [.agg (schA a), .agg (schA b)] [] (fun _ => false) (fun r h' => r = .c (.bool R) ∧ h' = []) := by
 refine acalls mixed Tryz.func24 rfl Tryz.ntmps24 rfl fun E hE hst hho => ?_
 have hF : ¬ a = b → R = false := fun h => by
  cases R with
  | false => rfl
  | true => exact absurd (hR.1 rfl) h
 by_cases g1 : a.ver = b.ver
 case neg =>
  have hRf := hF fun h => g1 (by rw [h])
  simp (maxSteps := 1000000) [schA, hho, noHo, g1, undef, onGP_none, condG_false, -List.reduceReplicate]
  exact Ret.drop (by rfl) ⟨by rw [hRf], rfl⟩
 by_cases g2 : a.next = b.next
 case neg =>
  have hRf := hF fun h => g2 (by rw [h])
  simp (maxSteps := 1000000) [schA, hho, noHo, g1, g2, undef, onGP_none, condG_false, -List.reduceReplicate]
  exact Ret.drop (by rfl) ⟨by rw [hRf], rfl⟩
 by_cases g3 : a.tabs.length = b.tabs.length
 case neg =>
  have hRf := hF fun h => g3 (by rw [h])
  have g3' : ¬ (a.tabs.length : Int) = b.tabs.length := by omega
  simp (maxSteps := 1000000) [schA, hho, noHo, g1, g2, g3, g3', undef, onGP_none, condG_false, -List.reduceReplicate]
  exact Ret.drop (by rfl) ⟨by rw [hRf], rfl⟩
 obtain ⟨n, hn⟩ : ∃ n, n = a.tabs.length := ⟨_, rfl⟩
 have hn2 : n = b.tabs.length := by omega
 simp (maxSteps := 1000000) [schA, hho, noHo, g1, g2, ← hn, ← hn2, undef, onGP_none, condG_false, -List.reduceReplicate]
 refine loop_k mixed (suJ a b n) (fun j => n - j) (fun j => j ≤ n ∧ ∀ i (h1 : i < a.tabs.length) (h2 : i < b.tabs.length), i < j → a.tabs[i] = b.tabs[i]) 0 ⟨Nat.zero_le _, fun i _ _ h => by omega⟩ ?_ ?_
 ·exact wk_eq (by simp [hE, lens]) (by simp [schA, g1, g2, ← hn, ← hn2]) (by simp [livH, livO, AV.livL, AV.liv, wkL, wkV, List.range', slotsOf])
 rintro j ⟨hj, hI⟩
 by_cases hjl : j < n
 ·have hja : j < a.tabs.length := by omega
  have hjb : j < b.tabs.length := by omega
  have hat := tabsA_at a.tabs j hja
  have hbt := tabsA_at b.tabs j hjb
  have ewj : IntKind.i64.wrap ((j : Int) + 1) = (j + 1 : Nat) := by rw [IntWalk.i64_in _ (by omega)]; rfl
  have el : j * 4 + 4 ≤ n * 4 := by omega
  have hji : (j : Int) < n := by omega
  have hxc := hac a.tabs[j] (List.getElem_mem hja)
  have hfail : ¬ a.tabs[j] = b.tabs[j] → R = false := fun h => hF fun e => h (by subst e; rfl)
  obtain ⟨x, hx⟩ : ∃ x, x = a.tabs[j] := ⟨_, rfl⟩
  obtain ⟨y, hy⟩ : ∃ y, y = b.tabs[j] := ⟨_, rfl⟩
  rw [← hx] at hat hfail hxc
  rw [← hy] at hbt hfail
  obtain ⟨hc1, hc2, hc3⟩ := hxc
  simp (maxSteps := 1000000) [slotsOf, schA, hho, noHo, ← hn, ← hn2, hjl, -List.reduceReplicate]
  refine draw_cut (suT a b n x y j) (fun _ => True) ?_ ?_
  case refine_2 =>
   refine draw_k hho (.take 0 (.take 1 (.take 2 (.take 3 (.take 4 (.take 5 (.take 6 (.take 7 (.take 8 (.take 9 (.alt 10 (.alt 11 (.alt 12 (.alt 13 (.done) (.nil)) (.nil)) (.nil)) (.alt 11 (.alt 10 (.alt 12 (.alt 13 (.done) (.nil)) (.nil)) (.nil)) (.nil))))))))))))) [0, 1] [] (by decide +kernel) (by simp) ?_
   simp (maxSteps := 1000000) [hho, noHo, tabA, hjl, hji, hat, hbt, el, roOf, holdOf, wrOf, altK, heldOk, Region.binds, -List.reduceReplicate]
   constructor <;> intros
   ·refine dcut_to () trivial ?_
    refine Wk.trans (wk_fp 6 2 rfl rfl hho rfl rfl) (Wk.trans (wk_fp 7 3 rfl rfl hho rfl rfl) ?_)
    exact wk_of 2 2 (by simp) (by simp [hE, lens]) (by simp [schA, ← hn, ← hn2]) (by simp [livH, livO, AV.livL, AV.liv, wkL, wkV, List.range', schA, tabA, idxA]) (by simp [livH, livO, AV.livL, AV.liv, wkL, wkV, List.range', slotsOf, tabA])
   ·refine dcut_to () trivial ?_
    refine Wk.trans (wk_fp 6 3 rfl rfl hho rfl rfl) (Wk.trans (wk_fp 7 2 rfl rfl hho rfl rfl) ?_)
    exact wk_of 2 2 (by simp) (by simp [hE, lens]) (by simp [schA, ← hn, ← hn2]) (by simp [livH, livO, AV.livL, AV.liv, wkL, wkV, List.range', schA, tabA, idxA]) (by simp [livH, livO, AV.livL, AV.liv, wkL, wkV, List.range', slotsOf, tabA])
  intro _ _
  by_cases f1 : x.id = y.id
  case neg =>
   simp (maxSteps := 1000000) [slotsOf, tabA, hho, noHo, f1, undef, onGP_none, condG_false, -List.reduceReplicate]
   exact Ret.drop (by rfl) ⟨by rw [hfail fun h => f1 (by rw [h])], rfl⟩
  by_cases f2 : x.name = y.name
  case neg =>
   simp (maxSteps := 1000000) [slotsOf, tabA, hho, noHo, f1, f2, undef, onGP_none, condG_false, -List.reduceReplicate]
   exact Ret.drop (by rfl) ⟨by rw [hfail fun h => f2 (by rw [h])], rfl⟩
  by_cases f3 : x.cols.length = y.cols.length
  case neg =>
   have f3' : ¬ (x.cols.length : Int) = y.cols.length := by omega
   simp (maxSteps := 1000000) [slotsOf, tabA, hho, noHo, f1, f2, f3, f3', undef, onGP_none, condG_false, -List.reduceReplicate]
   exact Ret.drop (by rfl) ⟨by rw [hfail fun h => f3 (by rw [h])], rfl⟩
  obtain ⟨p, hp⟩ : ∃ p, p = x.cols.length := ⟨_, rfl⟩
  have hp2 : p = y.cols.length := by omega
  by_cases f4 : x.idxs.length = y.idxs.length
  case neg =>
   have f4' : ¬ (x.idxs.length : Int) = y.idxs.length := by omega
   simp (maxSteps := 1000000) [slotsOf, tabA, hho, noHo, f1, f2, ← hp, ← hp2, f4, f4', undef, onGP_none, condG_false, -List.reduceReplicate]
   exact Ret.drop (by rfl) ⟨by rw [hfail fun h => f4 (by rw [h])], rfl⟩
  obtain ⟨u, hu⟩ : ∃ u, u = x.idxs.length := ⟨_, rfl⟩
  have hu2 : u = y.idxs.length := by omega
  simp (maxSteps := 1000000) [slotsOf, tabA, hho, noHo, f1, f2, ← hp, ← hp2, ← hu, ← hu2, undef, onGP_none, condG_false, -List.reduceReplicate]
  refine loop_k mixed (suC a b n x y j p) (fun q => p - q) (fun q => q ≤ p ∧ ∀ i (h1 : i < x.cols.length) (h2 : i < y.cols.length), i < q → x.cols[i] = y.cols[i]) 0 ⟨Nat.zero_le _, fun i _ _ h => by omega⟩ ?_ ?_
  ·exact wk_eq (by simp [hE, lens]) (by simp) (by simp [livH, livO, AV.livL, AV.liv, wkL, wkV, List.range', slotsOf, tabA, f1, f2, ← hp, ← hp2, ← hu, ← hu2])
  rintro q ⟨hq, hC⟩
  by_cases hql : q < p
  ·have hqa : q < x.cols.length := by omega
   have hqb : q < y.cols.length := by omega
   have h1t := colsA_at x.cols q hqa
   have h2t := colsA_at y.cols q hqb
   have ewq : IntKind.i64.wrap ((q : Int) + 1) = (q + 1 : Nat) := by rw [IntWalk.i64_in _ (by omega)]; rfl
   have eq0 : q * 10 + 10 ≤ p * 10 := by omega
   have hqi : (q : Int) < p := by omega
   have hce := colEq_iff x.cols[q] y.cols[q]
   have hfc : ¬ x.cols[q] = y.cols[q] → R = false := fun h => hfail fun e => h (by subst e; rfl)
   obtain ⟨c, hc⟩ : ∃ c, c = x.cols[q] := ⟨_, rfl⟩
   obtain ⟨d, hd⟩ : ∃ d, d = y.cols[q] := ⟨_, rfl⟩
   rw [← hc] at h1t hce hfc
   rw [← hd] at h2t hce hfc
   simp (maxSteps := 1000000) [slotsOf, tabA, hho, noHo, hql, ← hp, ← hp2, ← hu, ← hu2, -List.reduceReplicate]
   refine draw_k hho (.take 0 (.take 1 (.take 2 (.take 3 (.take 4 (.take 5 (.take 6 (.take 7 (.take 8 (.take 9 (.take 10 (.done)))))))))))) [] [] (by decide +kernel) (by simp) ?_
   cases hB : colEq c d with
   | true =>
    have hcd := hce.1 hB
    subst hcd
    simp (maxSteps := 1000000) [hho, noHo, colA, hql, hqi, h1t, h2t, eq0, roOf, holdOf, wrOf, altK, heldOk, Region.binds, -List.reduceReplicate]
    intros
    simp (maxSteps := 1000000) [hho, noHo, ewq, -List.reduceReplicate]
    refine round_next (q + 1) ⟨by omega, fun i h1 h2 hij => ?_⟩ (by omega) ?_
    ·by_cases e : i = q
     ·subst e; rw [← hc, ← hd]
     ·exact hC i (by omega) (by omega) (by omega)
    ·exact wk_eq (by simp [hE, lens]) (by simp) (by simp [livH, livO, AV.livL, AV.liv, wkL, wkV, List.range', slotsOf, tabA, ← hp, ← hp2, ← hu, ← hu2])
   | false =>
    have hRf := hfc fun h => by rw [hce.2 h] at hB; cases hB
    unfold colEq at hB
    simp (maxSteps := 1000000) [hho, noHo, colA, hql, hqi, h1t, h2t, eq0, hB, roOf, holdOf, wrOf, altK, heldOk, Region.binds, -List.reduceReplicate]
    intros
    try simp (maxSteps := 1000000) [hho, noHo, -List.reduceReplicate]
    exact Ret.drop (by rfl) ⟨by rw [hRf], rfl⟩
  obtain rfl : q = p := by omega
  have hCe : x.cols = y.cols := List.ext_getElem f3 fun i h1 h2 => hC i (by omega) (by omega) (by omega)
  simp (maxSteps := 1000000) [slotsOf, tabA, hho, noHo, ← hp, ← hp2, ← hu, ← hu2, -List.reduceReplicate]
  refine loop_k mixed (suX a b n x y j u) (fun k => u - k) (fun k => k ≤ u ∧ ∀ i (h1 : i < x.idxs.length) (h2 : i < y.idxs.length), i < k → x.idxs[i] = y.idxs[i]) 0 ⟨Nat.zero_le _, fun i _ _ h => by omega⟩ ?_ ?_
  ·exact wk_eq (by simp [hE, lens]) (by simp) (by simp [livH, livO, AV.livL, AV.liv, wkL, wkV, List.range', slotsOf, tabA, ← hp, ← hp2, ← hu, ← hu2])
  rintro k ⟨hk, hX⟩
  by_cases hkl : k < u
  ·have hka : k < x.idxs.length := by omega
   have hkb : k < y.idxs.length := by omega
   have h1t := idxsA_at x.idxs k hka
   have h2t := idxsA_at y.idxs k hkb
   have ewk : IntKind.i64.wrap ((k : Int) + 1) = (k + 1 : Nat) := by rw [IntWalk.i64_in _ (by omega)]; rfl
   have ek0 : k * 5 + 5 ≤ u * 5 := by omega
   have hki : (k : Int) < u := by omega
   have hzc := hc3 x.idxs[k] (List.getElem_mem hka)
   have hfx : ¬ x.idxs[k] = y.idxs[k] → R = false := fun h => hfail fun e => h (by subst e; rfl)
   obtain ⟨z, hz⟩ : ∃ z, z = x.idxs[k] := ⟨_, rfl⟩
   obtain ⟨v, hv⟩ : ∃ v, v = y.idxs[k] := ⟨_, rfl⟩
   rw [← hz] at h1t hfx hzc
   rw [← hv] at h2t hfx
   simp (maxSteps := 1000000) [slotsOf, tabA, hho, noHo, hkl, ← hp, ← hp2, ← hu, ← hu2, -List.reduceReplicate]
   refine draw_cut (suI a b n x y j u k z v) (fun _ => True) ?_ ?_
   case refine_2 =>
    refine draw_k hho (.take 0 (.take 1 (.take 2 (.take 3 (.take 4 (.take 5 (.take 6 (.take 7 (.take 8 (.take 9 (.alt 10 (.alt 11 (.alt 12 (.alt 13 (.done) (.nil)) (.nil)) (.nil)) (.alt 11 (.alt 10 (.alt 12 (.alt 13 (.done) (.nil)) (.nil)) (.nil)) (.nil))))))))))))) [] [] (by decide +kernel) (by simp) ?_
    simp (maxSteps := 1000000) [hho, noHo, idxA, hkl, hki, h1t, h2t, ek0, roOf, holdOf, wrOf, altK, heldOk, Region.binds, -List.reduceReplicate]
    constructor <;> intros
    ·refine dcut_to () trivial ?_
     refine Wk.trans (wk_fp 10 2 rfl rfl hho rfl rfl) (Wk.trans (wk_fp 11 3 rfl rfl hho rfl rfl) ?_)
     exact wk_of 2 2 (by simp) (by simp [hE, lens]) (by simp) (by simp [livH, livO, AV.livL, AV.liv, wkL, wkV, List.range', schA, tabA, idxA]) (by simp [livH, livO, AV.livL, AV.liv, wkL, wkV, List.range', slotsOf, tabA, idxA, ← hp, ← hp2, ← hu, ← hu2])
    ·refine dcut_to () trivial ?_
     refine Wk.trans (wk_fp 10 3 rfl rfl hho rfl rfl) (Wk.trans (wk_fp 11 2 rfl rfl hho rfl rfl) ?_)
     exact wk_of 2 2 (by simp) (by simp [hE, lens]) (by simp) (by simp [livH, livO, AV.livL, AV.liv, wkL, wkV, List.range', schA, tabA, idxA]) (by simp [livH, livO, AV.livL, AV.liv, wkL, wkV, List.range', slotsOf, tabA, idxA, ← hp, ← hp2, ← hu, ← hu2])
   intro _ _
   by_cases d1 : z.id = v.id
   case neg =>
    simp (maxSteps := 1000000) [slotsOf, idxA, hho, noHo, d1, undef, onGP_none, condG_false, -List.reduceReplicate]
    exact Ret.drop (by rfl) ⟨by rw [hfx fun h => d1 (by rw [h])], rfl⟩
   by_cases d2 : z.name = v.name
   case neg =>
    simp (maxSteps := 1000000) [slotsOf, idxA, hho, noHo, d1, d2, undef, onGP_none, condG_false, -List.reduceReplicate]
    exact Ret.drop (by rfl) ⟨by rw [hfx fun h => d2 (by rw [h])], rfl⟩
   by_cases d3 : z.uniq = v.uniq
   case neg =>
    simp (maxSteps := 1000000) [slotsOf, idxA, hho, noHo, d1, d2, d3, undef, onGP_none, condG_false, -List.reduceReplicate]
    exact Ret.drop (by rfl) ⟨by rw [hfx fun h => d3 (by rw [h])], rfl⟩
   by_cases d4 : z.st = v.st
   case neg =>
    simp (maxSteps := 1000000) [slotsOf, idxA, hho, noHo, d1, d2, d3, d4, undef, onGP_none, condG_false, -List.reduceReplicate]
    exact Ret.drop (by rfl) ⟨by rw [hfx fun h => d4 (by rw [h])], rfl⟩
   by_cases d5 : z.cols.length = v.cols.length
   case neg =>
    have d5' : ¬ (z.cols.length : Int) = v.cols.length := by omega
    simp (maxSteps := 1000000) [slotsOf, idxA, hho, noHo, d1, d2, d3, d4, d5, d5', undef, onGP_none, condG_false, -List.reduceReplicate]
    exact Ret.drop (by rfl) ⟨by rw [hfx fun h => d5 (by rw [h])], rfl⟩
   obtain ⟨m, hm⟩ : ∃ m, m = z.cols.length := ⟨_, rfl⟩
   have hm2 : m = v.cols.length := by omega
   simp (maxSteps := 1000000) [slotsOf, idxA, hho, noHo, d1, d2, d3, d4, ← hm, ← hm2, undef, onGP_none, condG_false, -List.reduceReplicate]
   refine loop_k mixed (suP a b n x y j u k z v m) (fun w => m - w) (fun w => w ≤ m ∧ ∀ i (h1 : i < z.cols.length) (h2 : i < v.cols.length), i < w → z.cols[i] = v.cols[i]) 0 ⟨Nat.zero_le _, fun i _ _ h => by omega⟩ ?_ ?_
   ·exact wk_eq (by simp [hE, lens]) (by simp) (by simp [livH, livO, AV.livL, AV.liv, wkL, wkV, List.range', slotsOf, idxA, d1, d2, d3, d4, ← hm, ← hm2])
   rintro w ⟨hw, hP⟩
   by_cases hwl : w < m
   ·have hwa : w < z.cols.length := by omega
    have hwb : w < v.cols.length := by omega
    have h1w := intsA_at z.cols w hwa
    have h2w := intsA_at v.cols w hwb
    have eww : IntKind.i64.wrap ((w : Int) + 1) = (w + 1 : Nat) := by rw [IntWalk.i64_in _ (by omega)]; rfl
    have hwi : (w : Int) < m := by omega
    have ew0 : w + 1 ≤ m := by omega
    have hfw : ¬ z.cols[w] = v.cols[w] → R = false := fun h => hfx fun e => h (by subst e; rfl)
    obtain ⟨r, hr⟩ : ∃ r, r = z.cols[w] := ⟨_, rfl⟩
    obtain ⟨o, ho⟩ : ∃ o, o = v.cols[w] := ⟨_, rfl⟩
    rw [← hr] at h1w hfw
    rw [← ho] at h2w hfw
    simp (maxSteps := 1000000) [slotsOf, idxA, hho, noHo, hwl, ← hm, ← hm2, -List.reduceReplicate]
    refine draw_k hho (.take 0 (.take 1 (.take 2 (.take 3 (.take 4 (.take 5 (.take 6 (.take 7 (.take 8 (.take 9 (.take 10 (.done)))))))))))) [] [] (by decide +kernel) (by simp) ?_
    by_cases hro : r = o
    ·simp (maxSteps := 1000000) [hho, noHo, hwl, hwi, h1w, h2w, ew0, hro, roOf, holdOf, wrOf, altK, heldOk, Region.binds, -List.reduceReplicate]
     intros
     simp (maxSteps := 1000000) [hho, noHo, eww, -List.reduceReplicate]
     refine round_next (w + 1) ⟨by omega, fun i h1 h2 hij => ?_⟩ (by omega) ?_
     ·by_cases e : i = w
      ·subst e; rw [← hr, ← ho]; exact hro
      ·exact hP i (by omega) (by omega) (by omega)
     ·exact wk_eq (by simp [hE, lens]) (by simp) (by simp [livH, livO, AV.livL, AV.liv, wkL, wkV, List.range', slotsOf, idxA, ← hm, ← hm2])
    ·simp (maxSteps := 1000000) [hho, noHo, hwl, hwi, h1w, h2w, ew0, hro, roOf, holdOf, wrOf, altK, heldOk, Region.binds, -List.reduceReplicate]
     intros
     try simp (maxSteps := 1000000) [hho, noHo, -List.reduceReplicate]
     exact Ret.drop (by rfl) ⟨by rw [hfw hro], rfl⟩
   obtain rfl : w = m := by omega
   have hPe : z.cols = v.cols := List.ext_getElem d5 fun i h1 h2 => hP i (by omega) (by omega) (by omega)
   simp (maxSteps := 1000000) [slotsOf, idxA, hho, noHo, ewk, -List.reduceReplicate]
   refine round_next (k + 1) ⟨by omega, fun i h1 h2 hij => ?_⟩ (by omega) ?_
   ·by_cases e : i = k
    ·subst e; rw [← hz, ← hv]; exact idx_ext d1 d2 hPe d3 d4
    ·exact hX i (by omega) (by omega) (by omega)
   ·exact wk_eq (by simp [hE, lens]) (by simp) (by simp [livH, livO, AV.livL, AV.liv, wkL, wkV, List.range', slotsOf])
  obtain rfl : k = u := by omega
  have hXe : x.idxs = y.idxs := List.ext_getElem f4 fun i h1 h2 => hX i (by omega) (by omega) (by omega)
  simp (maxSteps := 1000000) [slotsOf, tabA, hho, noHo, ewj, -List.reduceReplicate]
  refine round_next (j + 1) ⟨by omega, fun i h1 h2 hij => ?_⟩ (by omega) ?_
  ·by_cases e : i = j
   ·subst e; rw [← hx, ← hy]; exact tab_ext f1 f2 hCe hXe
   ·exact hI i (by omega) (by omega) (by omega)
  ·exact wk_eq (by simp [hE, lens]) (by simp) (by simp [livH, livO, AV.livL, AV.liv, wkL, wkV, List.range', slotsOf])
 ·obtain rfl : j = n := by omega
  have hRt : R = true := hR.2 (sch_ext g1 g2 (List.ext_getElem g3 fun i h1 h2 => hI i (by omega) (by omega) (by omega)))
  simp (maxSteps := 1000000) [slotsOf, hho, noHo, -List.reduceReplicate]
  exact Ret.drop (by rfl) ⟨by rw [hRt], rfl⟩
end Go.Proofs.YthgoocdldnkogaaGreatDoor
