import Derived.Test.YthgoocdldnkogaaGreatDoorHZ1
namespace Go.Proofs.YthgoocdldnkogaaGreatDoor
set_option linter.unusedVariables false
set_option linter.unusedSimpArgs false
open Go.RowKit
attribute [local simp] isCut_nil isCut_region isCut_seq isCut_block isCut_loop isCut_cond isCut_skip isCut_exit isCut_ret isCut_range swapK putK altK condK_bool pickP_bool stepP stepO onPure_some onPure_none onImpl_some onImpl_none stepC onGP_some onGP_none onGV_some condG mkG onIt_it nextP_ptr takeP_eq takeV_some takeV_none takeU_some takeU_none takeQ takeW_some takeN_none takeN_some takeG_some takeO_some altO_some pureV binV2 eqF eqOp ovlV ovl2 rowAt capV binV intBin strBin isSh shV fldV ixV sliceV slice3V loadAV nilV lenV callV unV convV viewS cellsH loadV fldCut AV.ung AV.ungs AV.gc AV.cells AS.ev AS.put anyS gcsV gcO lens lnO gV guardV retK RetP_eq resV oneV anyRo loIx hiIx implO callP_clo evL gcsL clearV storeAV AS.push AS.setO appV appZ shortS copyV buildV partsV fillV srcV fzO okV isCell_c isCell_ptr isCell_sl isCell_fs isCell_fp isCell_clo rowZ_one rowZ_zero rowZ_2 rowZ_3 rowZ_4 rowZ_5 rowZ_6 rowZ_7 rowZ_8 rowZ_9 rowZ_10 rowZ_11 rowZ_12 noHo Value.oneCell' max2V min2V lookV updV updK updW cvals mkAt basV lenM msAt afterH putBack frzFrom frzO rebO backIx nilEq_sl nilEq_fs nilEq_ifn nilEq_ifh ifOp_eql ifOp_neq isLit nilOp_eql nilOp_neq AV.reb AV.rebL
attribute [local simp ↓] runK_skip runK_region runK_draw runK_seq runK_cut runK_cond runK_block runK_loop runK_exit runK_label runK_goto runK_ret runK_range contK_nil contK_seq contK_seq_ret contK_seq_exit contK_seq_goto contK_block contK_block_ret contK_block_goto contK_block_exit runO_nil runO_cons roundK_exit roundK_ret roundK_goto exitK_ret cutK_ret cutK_exit runE_done runE_nil runE_take runE_alt condG_true condG_false
set_option maxRecDepth 10000
set_option maxHeartbeats 4000000 in
theorem r12Table_w (s : SchS) (k : ByteArray) (hl : s.tabs.length ≤ 1000000) : ACalls Tryz.prog 38 [.agg (schA s), .c (.string k)] [] (fun _ => false) (fun r h' => r = .c (.int .i64 (ixF (fun x : TabS => decide (x.name = k)) s.tabs)) ∧ h' = []) := by
 refine acalls mixed Tryz.func38 rfl Tryz.ntmps38 rfl fun E hE hst hho => ?_
 simp (maxSteps := 1000000) [schA, hho, noHo, -List.reduceReplicate]
 refine loop_k mixed (fun j : Nat => ⟨slotsOf 21 [(1, .c (.string k)), (8, .fs 4 s.tabs.length (tabsA s.tabs)), (9, .c (.int .i64 s.tabs.length)), (10, .c (.int .i64 (j : Nat)))], []⟩) (fun j => s.tabs.length - j) (fun j => j ≤ s.tabs.length ∧ ∀ i (hi : i < s.tabs.length), i < j → ¬ s.tabs[i].name = k) 0 ⟨Nat.zero_le _, fun i _ h => by omega⟩ ?_ ?_
 ·exact wk_of 0 1 (by simp) (by simp [hE, lens]) (by simp) (by simp [livH, livO, AV.livL, AV.liv, wkL, wkV, List.range']) (by simp [livH, livO, AV.livL, AV.liv, wkL, wkV, List.range', slotsOf])
 rintro j ⟨hj, hI⟩
 have hI2 : ∀ i (hi : i < s.tabs.length), i < j → (fun x : TabS => decide (x.name = k)) s.tabs[i] = false := fun i hi hij => decide_eq_false (hI i hi hij)
 by_cases hjl : j < s.tabs.length
 ·have hat := tabsA_at s.tabs j hjl
  have ew : IntKind.i64.wrap ((j : Int) + 1) = (j + 1 : Nat) := by rw [IntWalk.i64_in _ (by omega)]; rfl
  have e0 : j * 4 + 4 ≤ s.tabs.length * 4 := by omega
  have hp0 := @ixF_hit _ (fun x : TabS => decide (x.name = k)) s.tabs j hjl hI2
  obtain ⟨x, hx⟩ : ∃ x, x = s.tabs[j] := ⟨_, rfl⟩
  rw [← hx] at hat hp0
  by_cases hp : x.name = k
  ·simp (maxSteps := 1000000) [slotsOf, tabA, hho, noHo, hjl, hat, e0, hp, -List.reduceReplicate]
   exact Ret.drop (by rfl) ⟨by rw [hp0 (by simp [hp])], rfl⟩
  ·simp (maxSteps := 1000000) [slotsOf, tabA, hho, noHo, hjl, hat, e0, hp, ew, -List.reduceReplicate]
   refine round_next (j + 1) ⟨by omega, fun i hi hij => ?_⟩ (by omega) ?_
   ·by_cases e : i = j
    ·subst e; rw [← hx]; exact hp
    ·exact hI i hi (by omega)
   ·exact wk_of 0 1 (by simp) (by simp [hE, lens]) (by simp) (by simp [livH, livO, AV.livL, AV.liv, wkL, wkV, List.range']) (by simp [livH, livO, AV.livL, AV.liv, wkL, wkV, List.range', slotsOf])
 ·obtain rfl : j = s.tabs.length := by omega
  simp (maxSteps := 1000000) [slotsOf, hho, noHo, -List.reduceReplicate]
  exact Ret.drop (by rfl) ⟨by rw [ixF_none fun i hi => hI2 i hi hi], rfl⟩
set_option maxHeartbeats 4000000 in
theorem r12ColumnId_w (t : TabS) (k : Int) (hl : t.cols.length ≤ 1000000) : ACalls Tryz.prog 121 [.agg (tabA t), .c (.int .i64 k)] [] (fun _ => false) (fun r h' => r = .c (.int .i64 (ixF (fun x : ColS => decide (x.id = k)) t.cols)) ∧ h' = []) := by
 refine acalls mixed Tryz.func121 rfl Tryz.ntmps121 rfl fun E hE hst hho => ?_
 simp (maxSteps := 1000000) [tabA, hho, noHo, -List.reduceReplicate]
 refine loop_k mixed (fun j : Nat => ⟨slotsOf 21 [(1, .c (.int .i64 k)), (8, .fs 10 t.cols.length (colsA t.cols)), (9, .c (.int .i64 t.cols.length)), (10, .c (.int .i64 (j : Nat)))], []⟩) (fun j => t.cols.length - j) (fun j => j ≤ t.cols.length ∧ ∀ i (hi : i < t.cols.length), i < j → ¬ t.cols[i].id = k) 0 ⟨Nat.zero_le _, fun i _ h => by omega⟩ ?_ ?_
 ·exact wk_of 0 1 (by simp) (by simp [hE, lens]) (by simp) (by simp [livH, livO, AV.livL, AV.liv, wkL, wkV, List.range']) (by simp [livH, livO, AV.livL, AV.liv, wkL, wkV, List.range', slotsOf])
 rintro j ⟨hj, hI⟩
 have hI2 : ∀ i (hi : i < t.cols.length), i < j → (fun x : ColS => decide (x.id = k)) t.cols[i] = false := fun i hi hij => decide_eq_false (hI i hi hij)
 by_cases hjl : j < t.cols.length
 ·have hat := colsA_at t.cols j hjl
  have ew : IntKind.i64.wrap ((j : Int) + 1) = (j + 1 : Nat) := by rw [IntWalk.i64_in _ (by omega)]; rfl
  have e0 : j * 10 + 10 ≤ t.cols.length * 10 := by omega
  have hp0 := @ixF_hit _ (fun x : ColS => decide (x.id = k)) t.cols j hjl hI2
  obtain ⟨x, hx⟩ : ∃ x, x = t.cols[j] := ⟨_, rfl⟩
  rw [← hx] at hat hp0
  by_cases hp : x.id = k
  ·simp (maxSteps := 1000000) [slotsOf, colA, hho, noHo, hjl, hat, e0, hp, -List.reduceReplicate]
   exact Ret.drop (by rfl) ⟨by rw [hp0 (by simp [hp])], rfl⟩
  ·simp (maxSteps := 1000000) [slotsOf, colA, hho, noHo, hjl, hat, e0, hp, ew, -List.reduceReplicate]
   refine round_next (j + 1) ⟨by omega, fun i hi hij => ?_⟩ (by omega) ?_
   ·by_cases e : i = j
    ·subst e; rw [← hx]; exact hp
    ·exact hI i hi (by omega)
   ·exact wk_of 0 1 (by simp) (by simp [hE, lens]) (by simp) (by simp [livH, livO, AV.livL, AV.liv, wkL, wkV, List.range']) (by simp [livH, livO, AV.livL, AV.liv, wkL, wkV, List.range', slotsOf])
 ·obtain rfl : j = t.cols.length := by omega
  simp (maxSteps := 1000000) [slotsOf, hho, noHo, -List.reduceReplicate]
  exact Ret.drop (by rfl) ⟨by rw [ixF_none fun i hi => hI2 i hi hi], rfl⟩
set_option maxHeartbeats 4000000 in
theorem r12Index_w (t : TabS) (k : ByteArray) (hl : t.idxs.length ≤ 1000000) : ACalls Tryz.prog 44 [.agg (tabA t), .c (.string k)] [] (fun _ => false) (fun r h' => r = .c (.int .i64 (ixF (fun x : IdxS => decide (x.name = k)) t.idxs)) ∧ h' = []) := by
 refine acalls mixed Tryz.func44 rfl Tryz.ntmps44 rfl fun E hE hst hho => ?_
 simp (maxSteps := 1000000) [tabA, hho, noHo, -List.reduceReplicate]
 refine loop_k mixed (fun j : Nat => ⟨slotsOf 21 [(1, .c (.string k)), (8, .fs 5 t.idxs.length (idxsA t.idxs)), (9, .c (.int .i64 t.idxs.length)), (10, .c (.int .i64 (j : Nat)))], []⟩) (fun j => t.idxs.length - j) (fun j => j ≤ t.idxs.length ∧ ∀ i (hi : i < t.idxs.length), i < j → ¬ t.idxs[i].name = k) 0 ⟨Nat.zero_le _, fun i _ h => by omega⟩ ?_ ?_
 ·exact wk_of 0 1 (by simp) (by simp [hE, lens]) (by simp) (by simp [livH, livO, AV.livL, AV.liv, wkL, wkV, List.range']) (by simp [livH, livO, AV.livL, AV.liv, wkL, wkV, List.range', slotsOf])
 rintro j ⟨hj, hI⟩
 have hI2 : ∀ i (hi : i < t.idxs.length), i < j → (fun x : IdxS => decide (x.name = k)) t.idxs[i] = false := fun i hi hij => decide_eq_false (hI i hi hij)
 by_cases hjl : j < t.idxs.length
 ·have hat := idxsA_at t.idxs j hjl
  have ew : IntKind.i64.wrap ((j : Int) + 1) = (j + 1 : Nat) := by rw [IntWalk.i64_in _ (by omega)]; rfl
  have e0 : j * 5 + 5 ≤ t.idxs.length * 5 := by omega
  have hp0 := @ixF_hit _ (fun x : IdxS => decide (x.name = k)) t.idxs j hjl hI2
  obtain ⟨x, hx⟩ : ∃ x, x = t.idxs[j] := ⟨_, rfl⟩
  rw [← hx] at hat hp0
  by_cases hp : x.name = k
  ·simp (maxSteps := 1000000) [slotsOf, idxA, hho, noHo, hjl, hat, e0, hp, -List.reduceReplicate]
   exact Ret.drop (by rfl) ⟨by rw [hp0 (by simp [hp])], rfl⟩
  ·simp (maxSteps := 1000000) [slotsOf, idxA, hho, noHo, hjl, hat, e0, hp, ew, -List.reduceReplicate]
   refine round_next (j + 1) ⟨by omega, fun i hi hij => ?_⟩ (by omega) ?_
   ·by_cases e : i = j
    ·subst e; rw [← hx]; exact hp
    ·exact hI i hi (by omega)
   ·exact wk_of 0 1 (by simp) (by simp [hE, lens]) (by simp) (by simp [livH, livO, AV.livL, AV.liv, wkL, wkV, List.range']) (by simp [livH, livO, AV.livL, AV.liv, wkL, wkV, List.range', slotsOf])
 ·obtain rfl : j = t.idxs.length := by omega
  simp (maxSteps := 1000000) [slotsOf, hho, noHo, -List.reduceReplicate]
  exact Ret.drop (by rfl) ⟨by rw [ixF_none fun i hi => hI2 i hi hi], rfl⟩
set_option maxHeartbeats 4000000 in
theorem r12Column_w (t : TabS) (k : ByteArray) (hl : t.cols.length ≤ 1000000) : ACalls Tryz.prog 120 [.agg (tabA t), .c (.string k)] [] (fun _ => false) (fun r h' => r = .c (.int .i64 (ixF (fun x : ColS => decide (x.st = 3) && decide (x.name = k)) t.cols)) ∧ h' = []) := by
 refine acalls mixed Tryz.func120 rfl Tryz.ntmps120 rfl fun E hE hst hho => ?_
 simp (maxSteps := 1000000) [tabA, hho, noHo, -List.reduceReplicate]
 refine loop_k mixed (fun j : Nat => ⟨slotsOf 26 [(1, .c (.string k)), (8, .fs 10 t.cols.length (colsA t.cols)), (9, .c (.int .i64 t.cols.length)), (10, .c (.int .i64 (j : Nat)))], []⟩) (fun j => t.cols.length - j) (fun j => j ≤ t.cols.length ∧ ∀ i (hi : i < t.cols.length), i < j → t.cols[i].st = 3 → ¬ t.cols[i].name = k) 0 ⟨Nat.zero_le _, fun i _ h => by omega⟩ ?_ ?_
 ·exact wk_of 0 1 (by simp) (by simp [hE, lens]) (by simp) (by simp [livH, livO, AV.livL, AV.liv, wkL, wkV, List.range']) (by simp [livH, livO, AV.livL, AV.liv, wkL, wkV, List.range', slotsOf])
 rintro j ⟨hj, hI⟩
 have hI2 : ∀ i (hi : i < t.cols.length), i < j → (fun x : ColS => decide (x.st = 3) && decide (x.name = k)) t.cols[i] = false := fun i hi hij => by
  have := hI i hi hij
  simpa using this
 by_cases hjl : j < t.cols.length
 ·have hat := colsA_at t.cols j hjl
  have ew : IntKind.i64.wrap ((j : Int) + 1) = (j + 1 : Nat) := by rw [IntWalk.i64_in _ (by omega)]; rfl
  have e0 : j * 10 + 10 ≤ t.cols.length * 10 := by omega
  have hp0 := @ixF_hit _ (fun x : ColS => decide (x.st = 3) && decide (x.name = k)) t.cols j hjl hI2
  obtain ⟨x, hx⟩ : ∃ x, x = t.cols[j] := ⟨_, rfl⟩
  rw [← hx] at hat hp0
  have hnx : ¬ (x.st = 3 ∧ x.name = k) → ∀ i (hi : i < t.cols.length), i < j + 1 → t.cols[i].st = 3 → ¬ t.cols[i].name = k := fun h i hi hij => by
   by_cases e : i = j
   ·subst e; rw [← hx]; exact fun a b => h ⟨a, b⟩
   ·exact hI i hi (by omega)
  by_cases h3 : x.st = 3
  ·by_cases hp : x.name = k
   ·simp (maxSteps := 1000000) [slotsOf, colA, hho, noHo, hjl, hat, e0, hp, h3, -List.reduceReplicate]
    exact Ret.drop (by rfl) ⟨by rw [hp0 (by simp [hp, h3])], rfl⟩
   ·simp (maxSteps := 1000000) [slotsOf, colA, hho, noHo, hjl, hat, e0, hp, h3, ew, -List.reduceReplicate]
    refine round_next (j + 1) ⟨by omega, hnx fun h => hp h.2⟩ (by omega) ?_
    exact wk_of 0 1 (by simp) (by simp [hE, lens]) (by simp) (by simp [livH, livO, AV.livL, AV.liv, wkL, wkV, List.range']) (by simp [livH, livO, AV.livL, AV.liv, wkL, wkV, List.range', slotsOf])
  ·simp (maxSteps := 1000000) [slotsOf, colA, hho, noHo, hjl, hat, e0, h3, ew, undef, onGP_none, condG_false, -List.reduceReplicate]
   refine round_next (j + 1) ⟨by omega, hnx fun h => h3 h.1⟩ (by omega) ?_
   exact wk_of 0 1 (by simp) (by simp [hE, lens]) (by simp) (by simp [livH, livO, AV.livL, AV.liv, wkL, wkV, List.range']) (by simp [livH, livO, AV.livL, AV.liv, wkL, wkV, List.range', slotsOf])
 ·obtain rfl : j = t.cols.length := by omega
  simp (maxSteps := 1000000) [slotsOf, hho, noHo, -List.reduceReplicate]
  exact Ret.drop (by rfl) ⟨by rw [ixF_none fun i hi => hI2 i hi hi], rfl⟩
theorem unlB_app : ∀ (w l : List ByteArray) (x : ByteArray), unlB w (l ++ [x]) = (unlB w l && !memS (w ++ l) x)
 | w, [], x => by simp [unlB]
 | w, y :: l, x => by simp only [List.cons_append, unlB, unlB_app (w ++ [y]) l x, List.append_assoc, List.cons_append, List.nil_append, Bool.and_assoc]
theorem unlB_pre : ∀ (w l m : List ByteArray), unlB w (l ++ m) = true → unlB w l = true
 | w, [], m, _ => rfl
 | w, y :: l, m, h => by
  simp only [List.cons_append, unlB, Bool.and_eq_true] at h ⊢
  exact ⟨h.1, unlB_pre _ l m h.2⟩
theorem risB_pre (b : Int) {w : Int} {l m : List Int} (h : risB b w (l ++ m) = true) : risB b w l = true := by
 rw [risB_app, Bool.and_eq_true] at h; exact h.1
theorem all_pre {α : Type} {p : α → Bool} {l m : List α} (h : (l ++ m).all p = true) : l.all p = true := by
 rw [List.all_append, Bool.and_eq_true] at h; exact h.1
def cPre (t : TabS) (next : Int) (l : List ColS) : Bool := risB next (-1) (l.map ColS.id) && l.all colOk && unlB [] ((pubC l).map ColS.name)
def xPre (t : TabS) (next : Int) (l : List IdxS) : Bool := risB next (-1) (l.map IdxS.id) && l.all (idxOk t) && unlB [] (l.map IdxS.name)
theorem cPre_cut {t : TabS} {next : Int} (j : Nat) (h : tabOk t next = true) : cPre t next (t.cols.take j) = true := by
 have e : t.cols = t.cols.take j ++ t.cols.drop j := (List.take_append_drop j _).symm
 simp only [tabOk, Bool.and_eq_true] at h
 obtain ⟨⟨⟨⟨h0, h1, h2⟩, h3, h4⟩, h5⟩, h6⟩ := h
 rw [e, List.map_append] at h1
 rw [e] at h5
 have ep : pubC t.cols = pubC (t.cols.take j) ++ pubC (t.cols.drop j) := by (conv => lhs; rw [e]); exact List.filter_append ..
 rw [ep, List.map_append] at h3
 simp only [cPre, Bool.and_eq_true]
 exact ⟨⟨risB_pre next h1, all_pre h5⟩, unlB_pre _ _ _ h3⟩
theorem xPre_cut {t : TabS} {next : Int} (j : Nat) (h : tabOk t next = true) : xPre t next (t.idxs.take j) = true := by
 have e : t.idxs = t.idxs.take j ++ t.idxs.drop j := (List.take_append_drop j _).symm
 simp only [tabOk, Bool.and_eq_true] at h
 obtain ⟨⟨⟨⟨h0, h1, h2⟩, h3, h4⟩, h5⟩, h6⟩ := h
 rw [e, List.map_append] at h2 h4
 have h6' : (t.idxs.take j ++ t.idxs.drop j).all (idxOk t) = true := by rw [List.take_append_drop]; exact h6
 simp only [xPre, Bool.and_eq_true]
 exact ⟨⟨risB_pre next h2, all_pre h6'⟩, unlB_pre _ _ _ h4⟩
theorem noTab {t : TabS} {next : Int} (h : tabOk t next = true → False) : tabOk t next = false := by
 cases e : tabOk t next with
 | false => rfl
 | true => exact (h e).elim
theorem pubC_snoc (l : List ColS) (c : ColS) : pubC (l ++ [c]) = pubC l ++ (if c.st = 3 then [c] else []) := by
 unfold pubC
 rw [List.filter_append]
 congr 1
 by_cases h : c.st = 3 <;> simp [h]
theorem cPre_snoc {t : TabS} {next : Int} {l : List ColS} (c : ColS) (h : cPre t next l = true) : cPre t next (l ++ [c]) = (decide (lastI (-1) (l.map ColS.id) < c.id) && decide (c.id < next) && colOk c && (!decide (c.st = 3) || !memS ((pubC l).map ColS.name) c.name)) := by
 simp only [cPre, Bool.and_eq_true] at h
 obtain ⟨⟨h1, h2⟩, h3⟩ := h
 have e3 : unlB [] ((pubC (l ++ [c])).map ColS.name) = (!decide (c.st = 3) || !memS ((pubC l).map ColS.name) c.name) := by
  rw [pubC_snoc]
  by_cases h : c.st = 3
  ·rw [if_pos h, List.map_append, List.map_cons, List.map_nil, unlB_app, h3]; simp [h]
  ·rw [if_neg h, List.append_nil, h3]; simp [h]
 simp only [cPre, List.map_append, List.map_cons, List.map_nil, risB_app, h1, List.all_append, h2, List.all_cons, List.all_nil, risB, Bool.and_true, Bool.true_and]
 rw [e3]
theorem xPre_snoc {t : TabS} {next : Int} {l : List IdxS} (x : IdxS) (h : xPre t next l = true) : xPre t next (l ++ [x]) = (decide (lastI (-1) (l.map IdxS.id) < x.id) && decide (x.id < next) && idxOk t x && !memS (l.map IdxS.name) x.name) := by
 simp only [xPre, Bool.and_eq_true] at h
 obtain ⟨⟨h1, h2⟩, h3⟩ := h
 simp only [xPre, List.map_append, List.map_cons, List.map_nil, risB_app, h1, List.all_append, h2, List.all_cons, List.all_nil, risB, unlB_app, h3, List.nil_append, Bool.and_true, Bool.true_and]
theorem ixF_first {α : Type} (p : α → Bool) (l : List α) (j : Nat) (hj : j < l.length) (hp : p l[j] = true) : ixF p l = j ↔ (l.take j).any p = false := by
 constructor
 ·intro h
  rw [List.any_eq_false]
  intro x hx
  obtain ⟨i, hi, rfl⟩ := List.getElem_of_mem hx
  rw [List.length_take] at hi
  rw [List.getElem_take]
  rcases ixFC_cases p l with ⟨q, hq, h1, h2, h3⟩ | ⟨h1, h2⟩
  ·rw [h] at h1
   have : q = j := by omega
   subst this
   rw [h2 i (by omega) (by omega)]; simp
  ·rw [h] at h1; omega
 ·intro h
  rw [List.any_eq_false] at h
  exact ixF_hit hj (fun i hi hij => by
   have hi' : i < (l.take j).length := by rw [List.length_take]; omega
   have := h (l.take j)[i] (List.getElem_mem hi')
   rw [List.getElem_take] at this
   simpa using this) hp
theorem pub_any (l : List ColS) (k : ByteArray) : (l.any fun x : ColS => decide (x.st = 3) && decide (x.name = k)) = memS ((pubC l).map ColS.name) k := by
 rw [Bool.eq_iff_iff]
 simp only [memS, pubC, List.any_eq_true, List.mem_map, List.mem_filter, Bool.and_eq_true, decide_eq_true_eq]
 constructor
 ·rintro ⟨x, h1, h2, h3⟩; exact ⟨_, ⟨x, ⟨h1, h2⟩, rfl⟩, h3.symm⟩
 ·rintro ⟨_, ⟨x, ⟨h1, h2⟩, rfl⟩, h3⟩; exact ⟨x, h1, h2, h3.symm⟩
theorem idx_any (l : List IdxS) (k : ByteArray) : (l.any fun x : IdxS => decide (x.name = k)) = memS (l.map IdxS.name) k := by
 rw [Bool.eq_iff_iff]
 simp only [memS, List.any_eq_true, List.mem_map, decide_eq_true_eq]
 constructor
 ·rintro ⟨x, h1, h3⟩; exact ⟨_, ⟨x, h1, rfl⟩, h3.symm⟩
 ·rintro ⟨_, ⟨x, h1, rfl⟩, h3⟩; exact ⟨x, h1, h3.symm⟩
theorem tab_any (l : List TabS) (k : ByteArray) : (l.any fun x : TabS => decide (x.name = k)) = memS (l.map TabS.name) k := by
 rw [Bool.eq_iff_iff]
 simp only [memS, List.any_eq_true, List.mem_map, decide_eq_true_eq]
 constructor
 ·rintro ⟨x, h1, h3⟩; exact ⟨_, ⟨x, h1, rfl⟩, h3.symm⟩
 ·rintro ⟨_, ⟨x, h1, rfl⟩, h3⟩; exact ⟨x, h1, h3.symm⟩

set_option maxHeartbeats 8000000 in
theorem small_r12 (s : SchS) (R : Bool) (hR : R = true ↔ SchFit s) : ACalls Tryz.prog 10 [.agg (schA s)] [] (fun _ => false) (fun r h' => r = .c (.bool R) ∧ h' = []) := by
 refine acalls mixed Tryz.func10 rfl Tryz.ntmps10 rfl fun E hE hst hho => ?_
 have hF : ¬ SchFit s → R = false := fun h => by
  cases R with
  | false => rfl
  | true => exact absurd (hR.1 rfl) h
 by_cases g1 : 20 < s.tabs.length
 ·have g1' : (20 : Int) < s.tabs.length := by omega
  have hRf := hF fun h => by have := h.1; omega
  simp (maxSteps := 1000000) [schA, hho, noHo, g1, g1', -List.reduceReplicate]
  exact Ret.drop (by rfl) ⟨by rw [hRf], rfl⟩
 have g1' : ¬ (20 : Int) < s.tabs.length := by omega
 simp (maxSteps := 1000000) [schA, hho, noHo, g1, g1', -List.reduceReplicate]
 refine loop_k mixed (fun j : Nat => ⟨slotsOf 74 [(14, .fs 4 s.tabs.length (tabsA s.tabs)), (15, .c (.int .i64 s.tabs.length)), (16, .c (.int .i64 (j : Nat)))], []⟩) (fun j => s.tabs.length - j) (fun j => j ≤ s.tabs.length ∧ ∀ i (hi : i < s.tabs.length), i < j → TabFit s.tabs[i]) 0 ⟨Nat.zero_le _, fun i _ h => by omega⟩ ?_ ?_
 ·exact wk_of 0 1 (by simp) (by simp [hE, lens]) (by simp) (by simp [livH, livO, AV.livL, AV.liv, wkL, wkV, List.range']) (by simp [livH, livO, AV.livL, AV.liv, wkL, wkV, List.range', slotsOf])
 rintro j ⟨hj, hI⟩
 by_cases hjl : j < s.tabs.length
 ·have hat := tabsA_at s.tabs j hjl
  have ew : IntKind.i64.wrap ((j : Int) + 1) = (j + 1 : Nat) := by rw [IntWalk.i64_in _ (by omega)]; rfl
  have e0 : j * 4 + 4 ≤ s.tabs.length * 4 := by omega
  have hfail : ¬ TabFit s.tabs[j] → R = false := fun h => hF fun hs => h (hs.2 _ (List.getElem_mem hjl))
  have hnx : TabFit s.tabs[j] → ∀ i (hi : i < s.tabs.length), i < j + 1 → TabFit s.tabs[i] := fun h i hi hij => by
   by_cases e : i = j
   ·subst e; exact h
   ·exact hI i hi (by omega)
  obtain ⟨t, ht⟩ : ∃ t, t = s.tabs[j] := ⟨_, rfl⟩
  rw [← ht] at hat hfail hnx
  by_cases a1 : 100 < t.name.size
  ·have a1' : (100 : Int) < t.name.size := by omega
   simp (maxSteps := 1000000) [slotsOf, tabA, hho, noHo, hjl, hat, e0, a1, a1', undef, onGP_none, condG_false, -List.reduceReplicate]
   exact Ret.drop (by rfl) ⟨by rw [hfail fun h => by have := h.1; omega], rfl⟩
  have a1' : ¬ (100 : Int) < t.name.size := by omega
  by_cases a2 : 20 < t.cols.length
  ·have a2' : (20 : Int) < t.cols.length := by omega
   simp (maxSteps := 1000000) [slotsOf, tabA, hho, noHo, hjl, hat, e0, a1, a1', a2, a2', undef, onGP_none, condG_false, -List.reduceReplicate]
   exact Ret.drop (by rfl) ⟨by rw [hfail fun h => by have := h.2.1; omega], rfl⟩
  have a2' : ¬ (20 : Int) < t.cols.length := by omega
  by_cases a3 : 20 < t.idxs.length
  ·have a3' : (20 : Int) < t.idxs.length := by omega
   simp (maxSteps := 1000000) [slotsOf, tabA, hho, noHo, hjl, hat, e0, a1, a1', a2, a2', a3, a3', undef, onGP_none, condG_false, -List.reduceReplicate]
   exact Ret.drop (by rfl) ⟨by rw [hfail fun h => by have := h.2.2.1; omega], rfl⟩
  have a3' : ¬ (20 : Int) < t.idxs.length := by omega
  simp (maxSteps := 1000000) [slotsOf, tabA, hho, noHo, hjl, hat, e0, a1, a1', a2, a2', a3, a3', undef, onGP_none, condG_false, -List.reduceReplicate]
  refine loop_k mixed (fun q : Nat => ⟨slotsOf 74 [(4, .ptr 0 0 4), (14, .fs 4 s.tabs.length (tabsA s.tabs)), (15, .c (.int .i64 s.tabs.length)), (16, .c (.int .i64 (j : Nat))), (37, .fs 10 t.cols.length (colsA t.cols)), (38, .c (.int .i64 t.cols.length)), (39, .c (.int .i64 (q : Nat)))], [.o .box (tabA t)]⟩) (fun q => t.cols.length - q) (fun q => q ≤ t.cols.length ∧ ∀ i (hi : i < t.cols.length), i < q → ColFit t.cols[i]) 0 ⟨Nat.zero_le _, fun i _ h => by omega⟩ ?_ ?_
  ·exact wk_eq (by simp [hE, lens]) (by simp [tabA]) (by simp [livH, livO, AV.livL, AV.liv, wkL, wkV, List.range', slotsOf])
  rintro q ⟨hq, hC⟩
  by_cases hql : q < t.cols.length
  ·have hqt := colsA_at t.cols q hql
   have ewq : IntKind.i64.wrap ((q : Int) + 1) = (q + 1 : Nat) := by rw [IntWalk.i64_in _ (by omega)]; rfl
   have e1 : q * 10 + 10 ≤ t.cols.length * 10 := by omega
   have hfc : ¬ ColFit t.cols[q] → R = false := fun h => hfail fun ht => h (ht.2.2.2.1 _ (List.getElem_mem hql))
   have hnc : ColFit t.cols[q] → ∀ i (hi : i < t.cols.length), i < q + 1 → ColFit t.cols[i] := fun h i hi hij => by
    by_cases e : i = q
    ·subst e; exact h
    ·exact hC i hi (by omega)
   obtain ⟨c, hc⟩ : ∃ c, c = t.cols[q] := ⟨_, rfl⟩
   rw [← hc] at hqt hfc hnc
   by_cases b1 : 100 < c.name.size
   ·have b1' : (100 : Int) < c.name.size := by omega
    simp (maxSteps := 1000000) [slotsOf, tabA, colA, hho, noHo, hql, hqt, e1, b1, b1', undef, onGP_none, condG_false, -List.reduceReplicate]
    exact Ret.drop (by rfl) ⟨by rw [hfc fun h => by have := h.1; omega], rfl⟩
   have b1' : ¬ (100 : Int) < c.name.size := by omega
   by_cases b2 : 300 < c.dft.t.size
   ·have b2' : (300 : Int) < c.dft.t.size := by omega
    simp (maxSteps := 1000000) [slotsOf, tabA, colA, hho, noHo, hql, hqt, e1, b1, b1', b2, b2', undef, onGP_none, condG_false, -List.reduceReplicate]
    exact Ret.drop (by rfl) ⟨by rw [hfc fun h => by have := h.2; omega], rfl⟩
   have b2' : ¬ (300 : Int) < c.dft.t.size := by omega
   simp (maxSteps := 1000000) [slotsOf, tabA, colA, hho, noHo, hql, hqt, e1, b1, b1', b2, b2', ewq, undef, onGP_none, condG_false, -List.reduceReplicate]
   refine round_next (q + 1) ⟨by omega, hnc ⟨by omega, by omega⟩⟩ (by omega) ?_
   exact wk_of 1 1 (by simp) (by simp [hE, lens]) (by simp [tabA]) (by simp [livH, livO, AV.livL, AV.liv, wkL, wkV, List.range']) (by simp [livH, livO, AV.livL, AV.liv, wkL, wkV, List.range', slotsOf])
  ·obtain rfl : q = t.cols.length := by omega
   simp (maxSteps := 1000000) [slotsOf, tabA, hho, noHo, -List.reduceReplicate]
   refine loop_k mixed (fun q : Nat => ⟨slotsOf 74 [(4, .ptr 0 0 4), (14, .fs 4 s.tabs.length (tabsA s.tabs)), (15, .c (.int .i64 s.tabs.length)), (16, .c (.int .i64 (j : Nat))), (56, .fs 5 t.idxs.length (idxsA t.idxs)), (57, .c (.int .i64 t.idxs.length)), (58, .c (.int .i64 (q : Nat)))], [.o .box (tabA t)]⟩) (fun q => t.idxs.length - q) (fun q => q ≤ t.idxs.length ∧ ∀ i (hi : i < t.idxs.length), i < q → IdxFit t.idxs[i]) 0 ⟨Nat.zero_le _, fun i _ h => by omega⟩ ?_ ?_
   ·exact wk_eq (by simp [hE, lens]) (by simp [tabA]) (by simp [livH, livO, AV.livL, AV.liv, wkL, wkV, List.range', slotsOf])
   rintro q ⟨hq, hX⟩
   by_cases hql : q < t.idxs.length
   ·have hqt := idxsA_at t.idxs q hql
    have ewq : IntKind.i64.wrap ((q : Int) + 1) = (q + 1 : Nat) := by rw [IntWalk.i64_in _ (by omega)]; rfl
    have e1 : q * 5 + 5 ≤ t.idxs.length * 5 := by omega
    have hfc : ¬ IdxFit t.idxs[q] → R = false := fun h => hfail fun ht => h (ht.2.2.2.2 _ (List.getElem_mem hql))
    have hnc : IdxFit t.idxs[q] → ∀ i (hi : i < t.idxs.length), i < q + 1 → IdxFit t.idxs[i] := fun h i hi hij => by
     by_cases e : i = q
     ·subst e; exact h
     ·exact hX i hi (by omega)
    obtain ⟨x, hx⟩ : ∃ x, x = t.idxs[q] := ⟨_, rfl⟩
    rw [← hx] at hqt hfc hnc
    by_cases b1 : 100 < x.name.size
    ·have b1' : (100 : Int) < x.name.size := by omega
     simp (maxSteps := 1000000) [slotsOf, tabA, idxA, hho, noHo, hql, hqt, e1, b1, b1', undef, onGP_none, condG_false, -List.reduceReplicate]
     exact Ret.drop (by rfl) ⟨by rw [hfc fun h => by have := h.1; omega], rfl⟩
    have b1' : ¬ (100 : Int) < x.name.size := by omega
    by_cases b2 : 20 < x.cols.length
    ·have b2' : (20 : Int) < x.cols.length := by omega
     simp (maxSteps := 1000000) [slotsOf, tabA, idxA, hho, noHo, hql, hqt, e1, b1, b1', b2, b2', undef, onGP_none, condG_false, -List.reduceReplicate]
     exact Ret.drop (by rfl) ⟨by rw [hfc fun h => by have := h.2; omega], rfl⟩
    have b2' : ¬ (20 : Int) < x.cols.length := by omega
    simp (maxSteps := 1000000) [slotsOf, tabA, idxA, hho, noHo, hql, hqt, e1, b1, b1', b2, b2', ewq, undef, onGP_none, condG_false, -List.reduceReplicate]
    refine round_next (q + 1) ⟨by omega, hnc ⟨by omega, by omega⟩⟩ (by omega) ?_
    exact wk_of 1 1 (by simp) (by simp [hE, lens]) (by simp [tabA]) (by simp [livH, livO, AV.livL, AV.liv, wkL, wkV, List.range']) (by simp [livH, livO, AV.livL, AV.liv, wkL, wkV, List.range', slotsOf])
   ·obtain rfl : q = t.idxs.length := by omega
    simp (maxSteps := 1000000) [slotsOf, tabA, hho, noHo, ew, -List.reduceReplicate]
    refine round_next (j + 1) ⟨by omega, hnx ⟨by omega, by omega, by omega, fun c hc => ?_, fun x hx => ?_⟩⟩ (by omega) ?_
    ·obtain ⟨i, hi, rfl⟩ := List.getElem_of_mem hc
     exact hC i hi (by omega)
    ·obtain ⟨i, hi, rfl⟩ := List.getElem_of_mem hx
     exact hX i hi (by omega)
    ·exact wk_of 0 1 (by simp) (by simp [hE, lens]) (by simp) (by simp [livH, livO, AV.livL, AV.liv, wkL, wkV, List.range']) (by simp [livH, livO, AV.livL, AV.liv, wkL, wkV, List.range', slotsOf])
 ·obtain rfl : j = s.tabs.length := by omega
  have hRt : R = true := hR.2 ⟨by omega, fun t ht => by
   obtain ⟨i, hi, rfl⟩ := List.getElem_of_mem ht
   exact hI i hi (by omega)⟩
  simp (maxSteps := 1000000) [slotsOf, hho, noHo, -List.reduceReplicate]
  exact Ret.drop (by rfl) ⟨by rw [hRt], rfl⟩
end Go.Proofs.YthgoocdldnkogaaGreatDoor
