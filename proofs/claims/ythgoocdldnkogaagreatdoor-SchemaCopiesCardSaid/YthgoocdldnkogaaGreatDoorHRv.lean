import Derived.Test.YthgoocdldnkogaaGreatDoorHR4
import Derived.Test.YthgoocdldnkogaaGreatDoorIx
import Derived.Test.YthgoocdldnkogaaGreatDoorHW
namespace Go.Proofs.YthgoocdldnkogaaGreatDoor
set_option linter.unusedVariables false
set_option linter.unusedSimpArgs false
open Go.RowKit
attribute [local simp] isCut_nil isCut_region isCut_seq isCut_block isCut_loop isCut_cond isCut_skip isCut_exit isCut_ret isCut_range swapK putK altK condK_bool pickP_bool stepP stepO onPure_some onPure_none onImpl_some onImpl_none stepC onGP_some onGP_none onGV_some condG mkG onIt_it nextP_ptr takeP_eq takeV_some takeV_none takeU_some takeU_none takeQ takeW_some takeN_none takeN_some takeG_some takeO_some altO_some pureV binV2 eqF eqOp ovlV ovl2 rowAt capV binV intBin strBin isSh shV fldV ixV sliceV slice3V loadAV nilV lenV callV unV convV viewS cellsH loadV fldCut AV.ung AV.ungs AV.gc AV.cells AS.ev AS.put anyS gcsV gcO lens lnO gV guardV retK RetP_eq resV oneV anyRo loIx hiIx implO callP_clo evL gcsL clearV storeAV AS.push AS.setO appV appZ shortS copyV buildV partsV fillV srcV fzO okV isCell_c isCell_ptr isCell_sl isCell_fs isCell_fp isCell_clo rowZ_one rowZ_zero rowZ_2 rowZ_3 rowZ_4 rowZ_5 rowZ_6 rowZ_7 rowZ_8 rowZ_9 rowZ_10 rowZ_11 rowZ_12 noHo Value.oneCell' max2V min2V lookV updV updK updW cvals mkAt basV lenM msAt afterH putBack frzFrom frzO rebO backIx nilEq_sl nilEq_fs nilEq_ifn nilEq_ifh ifOp_eql ifOp_neq isLit nilOp_eql nilOp_neq AV.reb AV.rebL
attribute [local simp ↓] runK_skip runK_region runK_draw runK_seq runK_cut runK_cond runK_block runK_loop runK_exit runK_label runK_goto runK_ret runK_range contK_nil contK_seq contK_seq_ret contK_seq_exit contK_seq_goto contK_block contK_block_ret contK_block_goto contK_block_exit runO_nil runO_cons roundK_exit roundK_ret roundK_goto exitK_ret cutK_ret cutK_exit runE_done runE_nil runE_take runE_alt condG_true condG_false
set_option maxRecDepth 10000
theorem ifc_cells (l : List CellS) (hl : l.length ≤ 1000000) (p : CellS → Bool) (g : FuncId) (hg : callable Tryz.prog g = true) (v : Value) (hc : ∀ x ∈ l, ACalls Tryz.prog g [.agg (cellA x), .ptr 0 0 1] [.o .box [.c v]] (fun k => decide (k < 1)) (fun r h' => r = .c (.bool (p x)) ∧ h' = [.o .box [.c v]])) : ACalls Tryz.prog 184 [.fs 5 l.length (cellsA l), .clo (.func g) [] [.ptr 0 0 1]] [.o .box [.c v]] (fun k => decide (k < 1)) (fun r h' => r = .c (.int .i64 (ixF p l)) ∧ h' = [.o .box [.c v]]) := by
 refine acalls mixed Tryz.func184 rfl Tryz.ntmps184 rfl fun E hE hst hho => ?_
 simp (maxSteps := 1000000) [hho, noHo, -List.reduceReplicate]
 refine loop_k mixed (fun j : Nat => ⟨slotsOf 19 [(0, .fs 5 l.length (cellsA l)), (1, .clo (.func g) [] [.ptr 0 0 1]), (7, .c (.int .i64 l.length)), (8, .c (.int .i64 (j : Nat)))], [.o .box [.c v]]⟩) (fun j => l.length - j) (fun j => j ≤ l.length ∧ ∀ k (hk : k < l.length), k < j → p l[k] = false) 0 ⟨Nat.zero_le _, fun k _ h => by omega⟩ ?_ ?_
 ·exact wk_eq (by simp [hE, lens]) (by simp) (by simp [livH, livO, AV.livL, AV.liv, wkL, wkV, List.range', slotsOf])
 ·rintro j ⟨hj, hI⟩
  by_cases hjl : j < l.length
  ·have hat := cellsA_at l j hjl
   have ew : IntKind.i64.wrap ((j : Int) + 1) = (j + 1 : Nat) := by rw [IntWalk.i64_in _ (by omega)]; rfl
   have e0 : j * 5 + 5 ≤ l.length * 5 := by omega
   have hx := hc l[j] (List.getElem_mem hjl)
   have hp0 := @ixF_hit _ p l j hjl hI
   have hI1 : p l[j] = false → ∀ k (hk : k < l.length), k < j + 1 → p l[k] = false := fun h k hk hkj => by
    by_cases e : k = j
    ·subst e; exact h
    ·exact hI k hk (by omega)
   obtain ⟨x, hxe⟩ : ∃ x, x = l[j] := ⟨_, rfl⟩
   rw [← hxe] at hat hx hp0 hI1
   have h5 : List.take 5 (cellA x) = cellA x := rfl
   cases hp : p x with
   | true =>
    rw [hp] at hx
    simp (maxSteps := 1000000) [slotsOf, hho, noHo, hjl, hat, e0, hg, h5, -List.reduceReplicate]
    refine call_x [0] hx rfl rfl ⟨rfl, rfl⟩ hho (by simp) (by decide) (by simp) (by simp) ?_
    simp (maxSteps := 1000000) [hho, noHo, ew, -List.reduceReplicate]
    exact Ret.same ⟨by rw [hp0 hp], rfl⟩
   | false =>
    rw [hp] at hx
    simp (maxSteps := 1000000) [slotsOf, hho, noHo, hjl, hat, e0, hg, h5, -List.reduceReplicate]
    refine call_x [0] hx rfl rfl ⟨rfl, rfl⟩ hho (by simp) (by decide) (by simp) (by simp) ?_
    simp (maxSteps := 1000000) [hho, noHo, ew, -List.reduceReplicate]
    refine round_next (j + 1) ⟨by omega, hI1 hp⟩ (by omega) ?_
    exact wk_eq (by simp [hE, lens]) (by simp) (by simp [livH, livO, AV.livL, AV.liv, wkL, wkV, List.range', slotsOf])
  ·obtain rfl : j = l.length := by omega
   simp (maxSteps := 1000000) [slotsOf, hho, noHo, -List.reduceReplicate]
   exact Ret.same ⟨by rw [ixF_none fun k hk => hI k hk hk], rfl⟩
theorem ixF_cases (p : CellS → Bool) (l : List CellS) : (∃ i : Nat, ∃ hi : i < l.length, ixF p l = i ∧ (∀ k (hk : k < l.length), k < i → p l[k] = false) ∧ p l[i] = true) ∨ (ixF p l = -1 ∧ ∀ k (hk : k < l.length), p l[k] = false) := by
 unfold ixF
 cases h : l.findIdx? p with
 | none =>
  refine .inr ⟨rfl, fun k hk => ?_⟩
  rw [List.findIdx?_eq_none_iff] at h
  exact h _ (List.getElem_mem hk)
 | some i =>
  rw [List.findIdx?_eq_some_iff_getElem] at h
  obtain ⟨hi, h1, h2⟩ := h
  exact .inl ⟨i, hi, rfl, fun k hk hki => by simpa using h2 k hki, h1⟩

theorem get1_cell (x : CellS) (k : Int) : ACalls Tryz.prog 185 [.agg (cellA x), .ptr 0 0 1] [.o .box [.c (.int .i64 k)]] (fun k => decide (k < 1)) (fun r h' => r = .c (.bool (decide (x.col = k))) ∧ h' = [.o .box [.c (.int .i64 k)]]) := by
 refine acalls mixed Tryz.func185 rfl Tryz.ntmps185 rfl fun E hE hst hho => ?_
 simp (maxSteps := 1000000) [cellA, valA, hho, noHo, -List.reduceReplicate]
 refine Ret.sel [0] (fun _ => false) (ho := by rfl) (ha := by rfl) ?_ ?_ (by decide) (by simp) (fun i _ h => ?_) ⟨?_, rfl⟩
 ·simp
 ·simp
 ·have e : i = 0 := of_decide_eq_true h
  subst e; rfl
 ·rfl
theorem getR_ix (l : List CellS) (k : Int) : (∃ i : Nat, ∃ hi : i < l.length, ixF (fun x : CellS => decide (x.col = k)) l = i ∧ getR l k = l[i].v) ∨ (ixF (fun x : CellS => decide (x.col = k)) l = -1 ∧ getR l k = vZ) := by
 rcases ixF_cases (fun x : CellS => decide (x.col = k)) l with ⟨i, hi, h1, h2, h3⟩ | ⟨h1, h2⟩
 ·refine .inl ⟨i, hi, h1, ?_⟩
  have : l.find? (fun c => decide (c.col = k)) = some l[i] := by
   rw [List.find?_eq_some_iff_getElem]
   exact ⟨h3, i, hi, rfl, fun q hq => by rw [h2 q (by omega) hq]; rfl⟩
  simp only [getR, this]
 ·exact .inr ⟨h1, getR_none fun c hc => by
   obtain ⟨i, hi, rfl⟩ := List.getElem_of_mem hc
   exact of_decide_eq_false (h2 i hi)⟩
set_option maxHeartbeats 4000000 in
theorem get_row (l : List CellS) (hl : l.length ≤ 1000000) (k : Int) : ACalls Tryz.prog 167 [.fs 5 l.length (cellsA l), .c (.int .i64 k)] [] (fun _ => false) (fun r h' => r = .agg (valA (getR l k)) ∧ h' = []) := by
 refine acalls mixed Tryz.func167 rfl Tryz.ntmps167 rfl fun E hE hst hho => ?_
 have hic := ifc_cells l hl (fun x : CellS => decide (x.col = k)) 185 (by simp) (.int .i64 k) fun x _ => get1_cell x k
 rcases getR_ix l k with ⟨i, hi, h1, h2⟩ | ⟨h1, h2⟩
 ·rw [h1] at hic
  rw [h2]
  have hat := cellsA_at l i hi
  have el : i * 5 + 5 ≤ l.length * 5 := by omega
  obtain ⟨x, hx⟩ : ∃ x, x = l[i] := ⟨_, rfl⟩
  rw [← hx] at hat ⊢
  have h5 : List.take 5 (cellA x) = cellA x := rfl
  simp (maxSteps := 1000000) [hho, noHo, -List.reduceReplicate]
  refine call_x [0] hic rfl rfl ⟨rfl, rfl⟩ hho (by simp) (by decide) (by simp) (by simp) ?_
  simp (maxSteps := 1000000) [hho, noHo, hi, hat, el, cellA, valA, -List.reduceReplicate]
  exact Ret.drop (by rfl) ⟨rfl, rfl⟩
 ·rw [h1] at hic
  rw [h2]
  simp (maxSteps := 1000000) [hho, noHo, -List.reduceReplicate]
  refine call_x [0] hic rfl rfl ⟨rfl, rfl⟩ hho (by simp) (by decide) (by simp) (by simp) ?_
  simp (maxSteps := 1000000) [hho, noHo, -List.reduceReplicate]
  exact Ret.drop (by rfl) ⟨rfl, rfl⟩
end Go.Proofs.YthgoocdldnkogaaGreatDoor
