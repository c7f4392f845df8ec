import Derived.Test.YthgoocdldnkogaaGreatDoorHZ1
import Derived.Test.YthgoocdldnkogaaGreatDoorFp
import Derived.Test.YthgoocdldnkogaaGreatDoorH6
namespace Go.Proofs.YthgoocdldnkogaaGreatDoor
set_option linter.unusedVariables false
set_option linter.unusedSimpArgs false
open Go.RowKit
attribute [local simp] isCut_nil isCut_region isCut_seq isCut_block isCut_loop isCut_cond isCut_skip isCut_exit isCut_ret isCut_range swapK putK altK condK_bool pickP_bool stepP stepO onPure_some onPure_none onImpl_some onImpl_none stepC onGP_some onGP_none onGV_some condG mkG onIt_it nextP_ptr takeP_eq takeV_some takeV_none takeU_some takeU_none takeQ takeW_some takeN_none takeN_some takeG_some takeO_some altO_some pureV binV2 eqF eqOp ovlV ovl2 rowAt capV binV intBin strBin isSh shV fldV ixV sliceV slice3V loadAV nilV lenV callV unV convV viewS cellsH loadV fldCut AV.ung AV.ungs AV.gc AV.cells AS.ev AS.put anyS gcsV gcO lens lnO gV guardV retK RetP_eq resV oneV anyRo loIx hiIx implO callP_clo evL gcsL clearV storeAV AS.push AS.setO appV appZ shortS copyV buildV partsV fillV srcV fzO okV isCell_c isCell_ptr isCell_sl isCell_fs isCell_fp isCell_clo rowZ_one rowZ_zero rowZ_2 rowZ_3 rowZ_4 rowZ_5 rowZ_6 rowZ_7 rowZ_8 rowZ_9 rowZ_10 rowZ_11 rowZ_12 noHo Value.oneCell' max2V min2V lookV updV updK updW cvals mkAt basV lenM msAt afterH putBack frzFrom frzO rebO backIx nilEq_sl nilEq_fs nilEq_ifn nilEq_ifh ifOp_eql ifOp_neq isLit nilOp_eql nilOp_neq AV.reb AV.rebL
attribute [local simp ↓] runK_skip runK_region runK_draw runK_seq runK_cut runK_cond runK_block runK_loop runK_exit runK_label runK_goto runK_ret runK_range contK_nil contK_seq contK_seq_ret contK_seq_exit contK_seq_goto contK_block contK_block_ret contK_block_goto contK_block_exit runO_nil runO_cons roundK_exit roundK_ret roundK_goto exitK_ret cutK_ret cutK_exit runE_done runE_nil runE_take runE_alt condG_true condG_false
set_option maxRecDepth 10000
def colEq (x y : ColS) : Bool := decide (x.id = y.id) && (decide (x.name = y.name) && (decide (x.ty.k = y.ty.k) && (decide (x.ty.s = y.ty.s) && (decide (x.nn = y.nn) && (decide (x.dft.k = y.dft.k) && (decide (x.dft.n = y.dft.n) && (decide (x.dft.s = y.dft.s) && (decide (x.dft.t = y.dft.t) && decide (x.st = y.st)))))))))
theorem colEq_iff (x y : ColS) : colEq x y = true ↔ x = y := by
 obtain ⟨a1, a2, ⟨a3, a4⟩, a5, ⟨a6, a7, a8, a9⟩, a10⟩ := x
 obtain ⟨b1, b2, ⟨b3, b4⟩, b5, ⟨b6, b7, b8, b9⟩, b10⟩ := y
 simp [colEq, and_assoc]
theorem idx_ext {x y : IdxS} (h1 : x.id = y.id) (h2 : x.name = y.name) (h3 : x.cols = y.cols) (h4 : x.uniq = y.uniq) (h5 : x.st = y.st) : x = y := by
 obtain ⟨a1, a2, a3, a4, a5⟩ := x
 obtain ⟨b1, b2, b3, b4, b5⟩ := y
 simp_all
theorem tab_ext {x y : TabS} (h1 : x.id = y.id) (h2 : x.name = y.name) (h3 : x.cols = y.cols) (h4 : x.idxs = y.idxs) : x = y := by
 obtain ⟨a1, a2, a3, a4⟩ := x
 obtain ⟨b1, b2, b3, b4⟩ := y
 simp_all
theorem sch_ext {x y : SchS} (h1 : x.ver = y.ver) (h2 : x.next = y.next) (h3 : x.tabs = y.tabs) : x = y := by
 obtain ⟨a1, a2, a3⟩ := x
 obtain ⟨b1, b2, b3⟩ := y
 simp_all
noncomputable def eqB {α : Type} (x y : α) : Bool := @decide (x = y) (Classical.propDecidable _)
theorem eqB_iff {α : Type} (x y : α) : eqB x y = true ↔ x = y := by simp [eqB]
theorem eqB_no {α : Type} {x y : α} (h : ¬ x = y) : eqB x y = false := by
 cases e : eqB x y with
 | false => rfl
 | true => exact absurd ((eqB_iff x y).1 e) h
theorem eqB_yes {α : Type} {x y : α} (h : x = y) : eqB x y = true := (eqB_iff x y).2 h

set_option maxHeartbeats 4000000 in
theorem equal_col (a b : List ColS) (ha : a.length ≤ 1000000) : ACalls Tryz.prog 107 [.fs 10 a.length (colsA a), .fs 10 b.length (colsA b)] [] (fun _ => false) (fun r h' => r = .c (.bool (eqB a b)) ∧ h' = []) := by
 refine acalls mixed Tryz.func107 rfl Tryz.ntmps107 rfl fun E hE hst hho => ?_
 by_cases hlen : a.length = b.length
 ·obtain ⟨n, hn⟩ : ∃ n, n = a.length := ⟨_, rfl⟩
  have hn2 : n = b.length := by omega
  rw [← hn2, ← hn]
  simp (maxSteps := 1000000) [hho, noHo, -List.reduceReplicate]
  refine loop_k mixed (fun j : Nat => ⟨slotsOf 26 [(0, .fs 10 n (colsA a)), (1, .fs 10 n (colsA b)), (11, .fs 10 n (colsA a)), (12, .c (.int .i64 n)), (13, .c (.int .i64 (j : Int)))], []⟩) (fun j => n - j) (fun j => j ≤ n ∧ ∀ i (h1 : i < a.length) (h2 : i < b.length), i < j → a[i] = b[i]) 0 ⟨Nat.zero_le _, fun i _ _ h => by omega⟩ ?_ ?_
  ·exact wk_eq (by simp [hE, lens]) (by simp) (by simp [livH, livO, AV.livL, AV.liv, wkL, wkV, List.range', slotsOf])
  rintro j ⟨hj, hI⟩
  by_cases hjl : j < n
  ·have hja : j < a.length := by omega
   have hjb : j < b.length := by omega
   have ew : IntKind.i64.wrap ((j : Int) + 1) = (j + 1 : Nat) := by rw [IntWalk.i64_in _ (by omega)]; rfl
   have hji : (j : Int) < n := by omega
   have h1t := colsA_at a j hja
   have h2t := colsA_at b j hjb
   have e0 : j * 10 + 10 ≤ n * 10 := by omega
   have hce := colEq_iff a[j] b[j]
   have hfail : ¬ a[j] = b[j] → eqB a b = false := fun h => eqB_no fun e => h (by subst e; rfl)
   obtain ⟨x, hx⟩ : ∃ x, x = a[j] := ⟨_, rfl⟩
   obtain ⟨y, hy⟩ : ∃ y, y = b[j] := ⟨_, rfl⟩
   rw [← hx] at h1t hfail hce
   rw [← hy] at h2t hfail hce
   simp (maxSteps := 1000000) [slotsOf, hho, noHo, hjl, -List.reduceReplicate]
   refine draw_k hho (.take 0 (.take 1 (.take 2 (.take 3 (.take 4 (.take 5 (.take 6 (.take 7 (.take 8 (.done)))))))))) [] [] (by decide +kernel) (by simp) ?_
   cases hB : colEq x y with
   | true =>
    have hxy := hce.1 hB
    subst hxy
    simp (maxSteps := 1000000) [hho, noHo, colA, hjl, hji, h1t, h2t, e0, roOf, holdOf, wrOf, altK, heldOk, Region.binds, -List.reduceReplicate]
    intros
    simp (maxSteps := 1000000) [hho, noHo, ew, -List.reduceReplicate]
    refine round_next (j + 1) ⟨by omega, fun i h1 h2 hij => ?_⟩ (by omega) ?_
    ·by_cases e : i = j
     ·subst e; rw [← hx, ← hy]
     ·exact hI i h1 h2 (by omega)
    ·exact wk_eq (by simp [hE, lens]) (by simp) (by simp [livH, livO, AV.livL, AV.liv, wkL, wkV, List.range', slotsOf])
   | false =>
    have hRf := hfail fun h => by rw [hce.2 h] at hB; cases hB
    unfold colEq at hB
    simp (maxSteps := 1000000) [hho, noHo, colA, hjl, hji, h1t, h2t, e0, hB, roOf, holdOf, wrOf, altK, heldOk, Region.binds, -List.reduceReplicate]
    intros
    try simp (maxSteps := 1000000) [hho, noHo, -List.reduceReplicate]
    exact Ret.drop (by rfl) ⟨by rw [hRf], rfl⟩
  ·obtain rfl : j = n := by omega
   have hRt : eqB a b = true := eqB_yes (List.ext_getElem hlen fun i h1 h2 => hI i h1 h2 (by omega))
   simp (maxSteps := 1000000) [slotsOf, hho, noHo, -List.reduceReplicate]
   exact Ret.same ⟨by rw [hRt], rfl⟩
 ·have hRf : eqB a b = false := eqB_no fun h => hlen (by rw [h])
  have hli : ¬ (a.length : Int) = b.length := by omega
  simp (maxSteps := 1000000) [hho, noHo, hlen, hli, -List.reduceReplicate]
  exact Ret.same ⟨by rw [hRf], rfl⟩
set_option maxHeartbeats 4000000 in
theorem equal_int (a b : List Int) (ha : a.length ≤ 1000000) : ACalls Tryz.prog 154 [.fs 1 a.length (intsA a), .fs 1 b.length (intsA b)] [] (fun _ => false) (fun r h' => r = .c (.bool (eqB a b)) ∧ h' = []) := by
 refine acalls mixed Tryz.func154 rfl Tryz.ntmps154 rfl fun E hE hst hho => ?_
 by_cases hlen : a.length = b.length
 ·obtain ⟨n, hn⟩ : ∃ n, n = a.length := ⟨_, rfl⟩
  have hn2 : n = b.length := by omega
  rw [← hn2, ← hn]
  simp (maxSteps := 1000000) [hho, noHo, -List.reduceReplicate]
  refine loop_k mixed (fun j : Nat => ⟨slotsOf 26 [(0, .fs 1 n (intsA a)), (1, .fs 1 n (intsA b)), (11, .fs 1 n (intsA a)), (12, .c (.int .i64 n)), (13, .c (.int .i64 (j : Int)))], []⟩) (fun j => n - j) (fun j => j ≤ n ∧ ∀ i (h1 : i < a.length) (h2 : i < b.length), i < j → a[i] = b[i]) 0 ⟨Nat.zero_le _, fun i _ _ h => by omega⟩ ?_ ?_
  ·exact wk_eq (by simp [hE, lens]) (by simp) (by simp [livH, livO, AV.livL, AV.liv, wkL, wkV, List.range', slotsOf])
  rintro j ⟨hj, hI⟩
  by_cases hjl : j < n
  ·have hja : j < a.length := by omega
   have hjb : j < b.length := by omega
   have ew : IntKind.i64.wrap ((j : Int) + 1) = (j + 1 : Nat) := by rw [IntWalk.i64_in _ (by omega)]; rfl
   have hji : (j : Int) < n := by omega
   have h1t := intsA_at a j hja
   have h2t := intsA_at b j hjb
   have e0 : j + 1 ≤ n := by omega
   have hfail : ¬ a[j] = b[j] → eqB a b = false := fun h => eqB_no fun e => h (by subst e; rfl)
   obtain ⟨x, hx⟩ : ∃ x, x = a[j] := ⟨_, rfl⟩
   obtain ⟨y, hy⟩ : ∃ y, y = b[j] := ⟨_, rfl⟩
   rw [← hx] at h1t hfail
   rw [← hy] at h2t hfail
   simp (maxSteps := 1000000) [slotsOf, hho, noHo, hjl, -List.reduceReplicate]
   refine draw_k hho (.take 0 (.take 1 (.take 2 (.take 3 (.take 4 (.take 5 (.take 6 (.take 7 (.take 8 (.done)))))))))) [] [] (by decide +kernel) (by simp) ?_
   by_cases hxy : x = y
   ·skip
    simp (maxSteps := 1000000) [hho, noHo, hjl, hji, h1t, h2t, e0, hxy, roOf, holdOf, wrOf, altK, heldOk, Region.binds, -List.reduceReplicate]
    intros
    simp (maxSteps := 1000000) [hho, noHo, ew, -List.reduceReplicate]
    refine round_next (j + 1) ⟨by omega, fun i h1 h2 hij => ?_⟩ (by omega) ?_
    ·by_cases e : i = j
     ·subst e; rw [← hx, ← hy]; exact hxy
     ·exact hI i h1 h2 (by omega)
    ·exact wk_eq (by simp [hE, lens]) (by simp) (by simp [livH, livO, AV.livL, AV.liv, wkL, wkV, List.range', slotsOf])
   ·have hRf := hfail hxy
    simp (maxSteps := 1000000) [hho, noHo, hjl, hji, h1t, h2t, e0, hxy, roOf, holdOf, wrOf, altK, heldOk, Region.binds, -List.reduceReplicate]
    intros
    try simp (maxSteps := 1000000) [hho, noHo, -List.reduceReplicate]
    exact Ret.drop (by rfl) ⟨by rw [hRf], rfl⟩
  ·obtain rfl : j = n := by omega
   have hRt : eqB a b = true := eqB_yes (List.ext_getElem hlen fun i h1 h2 => hI i h1 h2 (by omega))
   simp (maxSteps := 1000000) [slotsOf, hho, noHo, -List.reduceReplicate]
   exact Ret.same ⟨by rw [hRt], rfl⟩
 ·have hRf : eqB a b = false := eqB_no fun h => hlen (by rw [h])
  have hli : ¬ (a.length : Int) = b.length := by omega
  simp (maxSteps := 1000000) [hho, noHo, hlen, hli, -List.reduceReplicate]
  exact Ret.same ⟨by rw [hRf], rfl⟩
set_option maxHeartbeats 4000000 in
theorem ef_idx (a b : List IdxS) (g : FuncId) (hg : callable Tryz.prog g = true) (ha : a.length ≤ 1000000) (hc : ∀ x ∈ a, ∀ y ∈ b, ACalls Tryz.prog g [.agg (idxA x), .agg (idxA y)] [] (fun _ => false) (fun r h' => r = .c (.bool (eqB x y)) ∧ h' = [])) : ACalls Tryz.prog 108 [.fs 5 a.length (idxsA a), .fs 5 b.length (idxsA b), .clo (.func g) [] []] [] (fun _ => false) (fun r h' => r = .c (.bool (eqB a b)) ∧ h' = []) := by
 refine acalls mixed Tryz.func108 rfl Tryz.ntmps108 rfl fun E hE hst hho => ?_
 by_cases hlen : a.length = b.length
 ·obtain ⟨n, hn⟩ : ∃ n, n = a.length := ⟨_, rfl⟩
  have hn2 : n = b.length := by omega
  rw [← hn2, ← hn]
  simp (maxSteps := 1000000) [hho, noHo, -List.reduceReplicate]
  refine loop_k mixed (fun j : Nat => ⟨slotsOf 32 [(1, .fs 5 n (idxsA b)), (2, .clo (.func g) [] []), (15, .fs 5 n (idxsA a)), (16, .c (.int .i64 n)), (17, .c (.int .i64 (j : Int)))], []⟩) (fun j => n - j) (fun j => j ≤ n ∧ ∀ i (h1 : i < a.length) (h2 : i < b.length), i < j → a[i] = b[i]) 0 ⟨Nat.zero_le _, fun i _ _ h => by omega⟩ ?_ ?_
  ·exact wk_eq (by simp [hE, lens]) (by simp) (by simp [livH, livO, AV.livL, AV.liv, wkL, wkV, List.range', slotsOf])
  rintro j ⟨hj, hI⟩
  by_cases hjl : j < n
  ·have hja : j < a.length := by omega
   have hjb : j < b.length := by omega
   have ew : IntKind.i64.wrap ((j : Int) + 1) = (j + 1 : Nat) := by rw [IntWalk.i64_in _ (by omega)]; rfl
   have hji : (j : Int) < n := by omega
   have h1t := idxsA_at a j hja
   have h2t := idxsA_at b j hjb
   have e0 : j * 5 + 5 ≤ n * 5 := by omega
   have hcx := hc a[j] (List.getElem_mem hja) b[j] (List.getElem_mem hjb)
   have hfail : ¬ a[j] = b[j] → eqB a b = false := fun h => eqB_no fun e => h (by subst e; rfl)
   obtain ⟨x, hx⟩ : ∃ x, x = a[j] := ⟨_, rfl⟩
   obtain ⟨y, hy⟩ : ∃ y, y = b[j] := ⟨_, rfl⟩
   rw [← hx] at h1t hfail hcx
   rw [← hy] at h2t hfail hcx
   have hxt : List.take 5 (idxA x) = idxA x := rfl
   have hyt : List.take 5 (idxA y) = idxA y := rfl
   simp (maxSteps := 1000000) [slotsOf, hho, noHo, hjl, hji, h1t, h2t, hxt, hyt, e0, hg, -List.reduceReplicate]
   refine call_x [] hcx rfl rfl ⟨rfl, rfl⟩ hho (by simp) (by decide) (by simp) (by simp) ?_
   by_cases hxy : x = y
   ·rw [eqB_yes hxy]
    simp (maxSteps := 1000000) [hho, noHo, ew, -List.reduceReplicate]
    refine round_next (j + 1) ⟨by omega, fun i h1 h2 hij => ?_⟩ (by omega) ?_
    ·by_cases e : i = j
     ·subst e; rw [← hx, ← hy]; exact hxy
     ·exact hI i h1 h2 (by omega)
    ·exact wk_of 0 2 (by simp) (by simp [hE, lens]) (by simp) (by simp [livH, livO, AV.livL, AV.liv, wkL, wkV, List.range']) (by simp [livH, livO, AV.livL, AV.liv, wkL, wkV, List.range', slotsOf])
   ·rw [eqB_no hxy]
    simp (maxSteps := 1000000) [hho, noHo, -List.reduceReplicate]
    exact Ret.drop (by rfl) ⟨by rw [hfail hxy], rfl⟩
  ·obtain rfl : j = n := by omega
   have hRt : eqB a b = true := eqB_yes (List.ext_getElem hlen fun i h1 h2 => hI i h1 h2 (by omega))
   simp (maxSteps := 1000000) [slotsOf, hho, noHo, -List.reduceReplicate]
   exact Ret.same ⟨by rw [hRt], rfl⟩
 ·have hRf : eqB a b = false := eqB_no fun h => hlen (by rw [h])
  have hli : ¬ (a.length : Int) = b.length := by omega
  simp (maxSteps := 1000000) [hho, noHo, hlen, hli, -List.reduceReplicate]
  exact Ret.same ⟨by rw [hRf], rfl⟩
set_option maxHeartbeats 4000000 in
theorem ef_tab (a b : List TabS) (g : FuncId) (hg : callable Tryz.prog g = true) (ha : a.length ≤ 1000000) (hc : ∀ x ∈ a, ∀ y ∈ b, ACalls Tryz.prog g [.agg (tabA x), .agg (tabA y)] [] (fun _ => false) (fun r h' => r = .c (.bool (eqB x y)) ∧ h' = [])) : ACalls Tryz.prog 58 [.fs 4 a.length (tabsA a), .fs 4 b.length (tabsA b), .clo (.func g) [] []] [] (fun _ => false) (fun r h' => r = .c (.bool (eqB a b)) ∧ h' = []) := by
 refine acalls mixed Tryz.func58 rfl Tryz.ntmps58 rfl fun E hE hst hho => ?_
 by_cases hlen : a.length = b.length
 ·obtain ⟨n, hn⟩ : ∃ n, n = a.length := ⟨_, rfl⟩
  have hn2 : n = b.length := by omega
  rw [← hn2, ← hn]
  simp (maxSteps := 1000000) [hho, noHo, -List.reduceReplicate]
  refine loop_k mixed (fun j : Nat => ⟨slotsOf 32 [(1, .fs 4 n (tabsA b)), (2, .clo (.func g) [] []), (15, .fs 4 n (tabsA a)), (16, .c (.int .i64 n)), (17, .c (.int .i64 (j : Int)))], []⟩) (fun j => n - j) (fun j => j ≤ n ∧ ∀ i (h1 : i < a.length) (h2 : i < b.length), i < j → a[i] = b[i]) 0 ⟨Nat.zero_le _, fun i _ _ h => by omega⟩ ?_ ?_
  ·exact wk_eq (by simp [hE, lens]) (by simp) (by simp [livH, livO, AV.livL, AV.liv, wkL, wkV, List.range', slotsOf])
  rintro j ⟨hj, hI⟩
  by_cases hjl : j < n
  ·have hja : j < a.length := by omega
   have hjb : j < b.length := by omega
   have ew : IntKind.i64.wrap ((j : Int) + 1) = (j + 1 : Nat) := by rw [IntWalk.i64_in _ (by omega)]; rfl
   have hji : (j : Int) < n := by omega
   have h1t := tabsA_at a j hja
   have h2t := tabsA_at b j hjb
   have e0 : j * 4 + 4 ≤ n * 4 := by omega
   have hcx := hc a[j] (List.getElem_mem hja) b[j] (List.getElem_mem hjb)
   have hfail : ¬ a[j] = b[j] → eqB a b = false := fun h => eqB_no fun e => h (by subst e; rfl)
   obtain ⟨x, hx⟩ : ∃ x, x = a[j] := ⟨_, rfl⟩
   obtain ⟨y, hy⟩ : ∃ y, y = b[j] := ⟨_, rfl⟩
   rw [← hx] at h1t hfail hcx
   rw [← hy] at h2t hfail hcx
   have hxt : List.take 4 (tabA x) = tabA x := rfl
   have hyt : List.take 4 (tabA y) = tabA y := rfl
   simp (maxSteps := 1000000) [slotsOf, hho, noHo, hjl, hji, h1t, h2t, hxt, hyt, e0, hg, -List.reduceReplicate]
   refine call_x [] hcx rfl rfl ⟨rfl, rfl⟩ hho (by simp) (by decide) (by simp) (by simp) ?_
   by_cases hxy : x = y
   ·rw [eqB_yes hxy]
    simp (maxSteps := 1000000) [hho, noHo, ew, -List.reduceReplicate]
    refine round_next (j + 1) ⟨by omega, fun i h1 h2 hij => ?_⟩ (by omega) ?_
    ·by_cases e : i = j
     ·subst e; rw [← hx, ← hy]; exact hxy
     ·exact hI i h1 h2 (by omega)
    ·exact wk_of 0 2 (by simp) (by simp [hE, lens]) (by simp) (by simp [livH, livO, AV.livL, AV.liv, wkL, wkV, List.range']) (by simp [livH, livO, AV.livL, AV.liv, wkL, wkV, List.range', slotsOf])
   ·rw [eqB_no hxy]
    simp (maxSteps := 1000000) [hho, noHo, -List.reduceReplicate]
    exact Ret.drop (by rfl) ⟨by rw [hfail hxy], rfl⟩
  ·obtain rfl : j = n := by omega
   have hRt : eqB a b = true := eqB_yes (List.ext_getElem hlen fun i h1 h2 => hI i h1 h2 (by omega))
   simp (maxSteps := 1000000) [slotsOf, hho, noHo, -List.reduceReplicate]
   exact Ret.same ⟨by rw [hRt], rfl⟩
 ·have hRf : eqB a b = false := eqB_no fun h => hlen (by rw [h])
  have hli : ¬ (a.length : Int) = b.length := by omega
  simp (maxSteps := 1000000) [hho, noHo, hlen, hli, -List.reduceReplicate]
  exact Ret.same ⟨by rw [hRf], rfl⟩
set_option maxHeartbeats 4000000 in
theorem sameIndex_w (x y : IdxS) (hx : x.cols.length ≤ 1000000) : ACalls Tryz.prog 109 [.agg (idxA x), .agg (idxA y)] [] (fun _ => false) (fun r h' => r = .c (.bool (eqB x y)) ∧ h' = []) := by
 refine acalls mixed Tryz.func109 rfl Tryz.ntmps109 rfl fun E hE hst hho => ?_
 have c1 := equal_int x.cols y.cols hx
 by_cases d1 : x.id = y.id
 case neg =>
  simp (maxSteps := 1000000) [idxA, hho, noHo, d1, undef, onGP_none, condG_false, -List.reduceReplicate]
  exact Ret.drop (by rfl) ⟨by rw [eqB_no fun h => d1 (by rw [h])], rfl⟩
 by_cases d2 : x.name = y.name
 case neg =>
  simp (maxSteps := 1000000) [idxA, hho, noHo, d1, d2, undef, onGP_none, condG_false, -List.reduceReplicate]
  exact Ret.drop (by rfl) ⟨by rw [eqB_no fun h => d2 (by rw [h])], rfl⟩
 simp (maxSteps := 1000000) [idxA, hho, noHo, d1, d2, undef, onGP_none, condG_false, -List.reduceReplicate]
 refine call_x [] c1 rfl rfl ⟨rfl, rfl⟩ hho (by simp) (by decide) (by simp) (by simp) ?_
 by_cases d3 : x.cols = y.cols
 case neg =>
  rw [eqB_no d3]
  simp (maxSteps := 1000000) [hho, noHo, undef, onGP_none, condG_false, -List.reduceReplicate]
  exact Ret.drop (by rfl) ⟨by rw [eqB_no fun h => d3 (by rw [h])], rfl⟩
 rw [eqB_yes d3]
 by_cases d4 : x.uniq = y.uniq
 case neg =>
  simp (maxSteps := 1000000) [hho, noHo, d4, undef, onGP_none, condG_false, -List.reduceReplicate]
  exact Ret.drop (by rfl) ⟨by rw [eqB_no fun h => d4 (by rw [h])], rfl⟩
 by_cases d5 : x.st = y.st
 case neg =>
  simp (maxSteps := 1000000) [hho, noHo, d4, d5, undef, onGP_none, condG_false, -List.reduceReplicate]
  exact Ret.drop (by rfl) ⟨by rw [eqB_no fun h => d5 (by rw [h])], rfl⟩
 simp (maxSteps := 1000000) [hho, noHo, d4, d5, undef, onGP_none, condG_false, -List.reduceReplicate]
 exact Ret.drop (by rfl) ⟨by rw [eqB_yes (idx_ext d1 d2 d3 d4 d5)], rfl⟩
set_option maxHeartbeats 4000000 in
theorem sameTable_w (x y : TabS) (h1 : x.cols.length ≤ 1000000) (h2 : x.idxs.length ≤ 1000000) (h3 : ∀ z ∈ x.idxs, z.cols.length ≤ 1000000) : ACalls Tryz.prog 59 [.agg (tabA x), .agg (tabA y)] [] (fun _ => false) (fun r h' => r = .c (.bool (eqB x y)) ∧ h' = []) := by
 refine acalls mixed Tryz.func59 rfl Tryz.ntmps59 rfl fun E hE hst hho => ?_
 have c1 := equal_col x.cols y.cols h1
 have c2 := ef_idx x.idxs y.idxs 109 (by simp) h2 fun z hz v _ => sameIndex_w z v (h3 z hz)
 by_cases d1 : x.id = y.id
 case neg =>
  simp (maxSteps := 1000000) [tabA, hho, noHo, d1, undef, onGP_none, condG_false, -List.reduceReplicate]
  exact Ret.drop (by rfl) ⟨by rw [eqB_no fun h => d1 (by rw [h])], rfl⟩
 by_cases d2 : x.name = y.name
 case neg =>
  simp (maxSteps := 1000000) [tabA, hho, noHo, d1, d2, undef, onGP_none, condG_false, -List.reduceReplicate]
  exact Ret.drop (by rfl) ⟨by rw [eqB_no fun h => d2 (by rw [h])], rfl⟩
 simp (maxSteps := 1000000) [tabA, hho, noHo, d1, d2, undef, onGP_none, condG_false, -List.reduceReplicate]
 refine call_x [] c1 rfl rfl ⟨rfl, rfl⟩ hho (by simp) (by decide) (by simp) (by simp) ?_
 by_cases d3 : x.cols = y.cols
 case neg =>
  rw [eqB_no d3]
  simp (maxSteps := 1000000) [hho, noHo, undef, onGP_none, condG_false, -List.reduceReplicate]
  exact Ret.drop (by rfl) ⟨by rw [eqB_no fun h => d3 (by rw [h])], rfl⟩
 rw [eqB_yes d3]
 simp (maxSteps := 1000000) [hho, noHo, undef, onGP_none, condG_false, -List.reduceReplicate]
 refine call_x [] c2 rfl rfl ⟨rfl, rfl⟩ hho (by simp) (by decide) (by simp) (by simp) ?_
 by_cases d4 : x.idxs = y.idxs
 case neg =>
  rw [eqB_no d4]
  simp (maxSteps := 1000000) [hho, noHo, undef, onGP_none, condG_false, -List.reduceReplicate]
  exact Ret.drop (by rfl) ⟨by rw [eqB_no fun h => d4 (by rw [h])], rfl⟩
 rw [eqB_yes d4]
 simp (maxSteps := 1000000) [hho, noHo, undef, onGP_none, condG_false, -List.reduceReplicate]
 exact Ret.drop (by rfl) ⟨by rw [eqB_yes (tab_ext d1 d2 d3 d4)], rfl⟩
set_option maxHeartbeats 4000000 in
theorem same_sc (a b : SchS) (ha : a.tabs.length ≤ 1000000) (hac : ∀ t ∈ a.tabs, t.cols.length ≤ 1000000 ∧ t.idxs.length ≤ 1000000 ∧ ∀ x ∈ t.idxs, x.cols.length ≤ 1000000) : ACalls Tryz.prog 25 [.agg (schA a), .agg (schA b)] [] (fun _ => false) (fun r h' => r = .c (.bool (eqB a b)) ∧ h' = []) := by
 refine acalls mixed Tryz.func25 rfl Tryz.ntmps25 rfl fun E hE hst hho => ?_
 have c2 := ef_tab a.tabs b.tabs 59 (by simp) ha fun z hz v _ => sameTable_w z v (hac z hz).1 (hac z hz).2.1 (hac z hz).2.2
 by_cases d1 : a.ver = b.ver
 case neg =>
  simp (maxSteps := 1000000) [schA, hho, noHo, d1, undef, onGP_none, condG_false, -List.reduceReplicate]
  exact Ret.drop (by rfl) ⟨by rw [eqB_no fun h => d1 (by rw [h])], rfl⟩
 by_cases d2 : a.next = b.next
 case neg =>
  simp (maxSteps := 1000000) [schA, hho, noHo, d1, d2, undef, onGP_none, condG_false, -List.reduceReplicate]
  exact Ret.drop (by rfl) ⟨by rw [eqB_no fun h => d2 (by rw [h])], rfl⟩
 simp (maxSteps := 1000000) [schA, hho, noHo, d1, d2, undef, onGP_none, condG_false, -List.reduceReplicate]
 refine call_x [] c2 rfl rfl ⟨rfl, rfl⟩ hho (by simp) (by decide) (by simp) (by simp) ?_
 by_cases d4 : a.tabs = b.tabs
 case neg =>
  rw [eqB_no d4]
  simp (maxSteps := 1000000) [hho, noHo, undef, onGP_none, condG_false, -List.reduceReplicate]
  exact Ret.drop (by rfl) ⟨by rw [eqB_no fun h => d4 (by rw [h])], rfl⟩
 rw [eqB_yes d4]
 simp (maxSteps := 1000000) [hho, noHo, undef, onGP_none, condG_false, -List.reduceReplicate]
 exact Ret.drop (by rfl) ⟨by rw [eqB_yes (sch_ext d1 d2 d4)], rfl⟩
end Go.Proofs.YthgoocdldnkogaaGreatDoor
