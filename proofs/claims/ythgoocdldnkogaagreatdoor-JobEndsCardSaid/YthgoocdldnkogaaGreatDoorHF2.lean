import Derived.Test.YthgoocdldnkogaaGreatDoorHF1
import Derived.Test.YthgoocdldnkogaaGreatDoorZFb
namespace Go.Proofs.YthgoocdldnkogaaGreatDoor
set_option linter.unusedVariables false
set_option linter.unusedSimpArgs false
open Go.RowKit
attribute [local simp] isCut_nil isCut_region isCut_seq isCut_block isCut_loop isCut_cond isCut_skip isCut_exit isCut_ret isCut_range swapK putK altK condK_bool pickP_bool stepP stepO onPure_some onPure_none onImpl_some onImpl_none stepC onGP_some onGP_none onGV_some condG mkG onIt_it nextP_ptr takeP_eq takeV_some takeV_none takeU_some takeU_none takeQ takeW_some takeN_none takeN_some takeG_some takeO_some altO_some pureV binV2 eqF eqOp ovlV ovl2 rowAt capV binV intBin strBin isSh shV fldV ixV sliceV slice3V loadAV nilV lenV callV unV convV viewS cellsH loadV fldCut AV.ung AV.ungs AV.gc AV.cells AS.ev AS.put anyS gcsV gcO lens lnO gV guardV retK RetP_eq resV oneV anyRo loIx hiIx implO callP_clo evL gcsL clearV storeAV AS.push AS.setO appV appZ shortS copyV buildV partsV fillV srcV fzO okV isCell_c isCell_ptr isCell_sl isCell_fs isCell_fp isCell_clo rowZ_one rowZ_zero rowZ_2 rowZ_3 rowZ_4 rowZ_5 rowZ_6 rowZ_7 rowZ_8 rowZ_9 rowZ_10 rowZ_11 rowZ_12 noHo Value.oneCell' max2V min2V lookV updV updK updW cvals mkAt basV lenM msAt afterH putBack frzFrom frzO rebO backIx nilEq_sl nilEq_fs nilEq_ifn nilEq_ifh ifOp_eql ifOp_neq isLit nilOp_eql nilOp_neq AV.reb AV.rebL
attribute [local simp ↓] runK_skip runK_region runK_draw runK_seq runK_cut runK_cond runK_block runK_loop runK_exit runK_label runK_goto runK_ret runK_range contK_nil contK_seq contK_seq_ret contK_seq_exit contK_seq_goto contK_block contK_block_ret contK_block_goto contK_block_exit runO_nil runO_cons roundK_exit roundK_ret roundK_goto exitK_ret cutK_ret cutK_exit runE_done runE_nil runE_take runE_alt condG_true condG_false
set_option maxRecDepth 10000
attribute [local simp] stC stXf stP stQ stS stE
set_option maxHeartbeats 8000000 in
theorem table_r12 (t : TabS) (next : Int) (hb : TabBig t) : ACalls Tryz.prog 62 [.agg (tabA t), .c (.int .i64 next)] [] (fun _ => false) (fun r h' => r = .c (.bool (tabOk t next)) ∧ h' = []) := by
 refine acallsE mixed Tryz.func62 rfl Tryz.ntmps62 rfl fun E hE hst hho => ?_
 have c1 := name_ref t.name hb.nm
 refine ew_cut mixed 3 (stS next t) (fun _ => nameOk t.name = true ∧ t.cols.length ≤ 12 ∧ t.idxs.length ≤ 8) rfl ?_ ?_
 ·rintro _ ⟨hN, g1n, g2n⟩
  refine ew_cut mixed 1 (stE next t) (fun _ => cPre t next t.cols = true) rfl ?_ (OnC.out (tr_cols t next hb hE hho) rfl)
  intro _ hcp
  refine ew_cut mixed 2 (stE next t) (fun _ => xPre t next t.idxs = true) rfl ?_ (OnC.out (tr_idxs t next hb hE hho) rfl)
  intro _ hI
  refine ew_run mixed [] ?_
  simp only [cPre, Bool.and_eq_true] at hcp
  simp only [xPre, Bool.and_eq_true] at hI
  have hR : tabOk t next = decide ((pubC t.cols).length ≠ 0) := by
   unfold tabOk
   rw [hN, hcp.1.1, hI.1.1, hcp.2, hI.2, hcp.1.2, hI.1.2, decide_eq_true g1n, decide_eq_true g2n]
   simp
  rw [hR]
  simp (maxSteps := 1000000) [slotsOf, tabA, hho, noHo, -List.reduceReplicate]
  refine Ret.drop (by rfl) ⟨?_, rfl⟩
  congr 2
  rw [Bool.eq_iff_iff]
  have hz : (pubC t.cols).length = 0 ↔ pubC t.cols = [] := List.length_eq_zero_iff
  simp
  rw [← hz]
  omega
 ·skip
  simp (maxSteps := 1000000) [tabA, hho, noHo, -List.reduceReplicate]
  refine call_x [] c1 rfl rfl ⟨rfl, rfl⟩ hho (by simp) (by decide) (by simp) (by simp) ?_
  cases hN : nameOk t.name with
  | false =>
   have hR : tabOk t next = false := noTab fun h => by simp [tabOk, hN] at h
   simp (maxSteps := 1000000) [hho, noHo, undef, onGP_none, condG_false, -List.reduceReplicate]
   exact Ret.drop (by rfl) ⟨by rw [hR], rfl⟩
  | true =>
  by_cases g1 : 12 < t.cols.length
  ·have g1' : (12 : Int) < t.cols.length := by omega
   have hR : tabOk t next = false := noTab fun h => by
    simp only [tabOk, Bool.and_eq_true, decide_eq_true_eq] at h; omega
   simp (maxSteps := 1000000) [hho, noHo, g1, g1', undef, onGP_none, condG_false, -List.reduceReplicate]
   exact Ret.drop (by rfl) ⟨by rw [hR], rfl⟩
  have g1' : ¬ (12 : Int) < t.cols.length := by omega
  have g1n : t.cols.length ≤ 12 := by omega
  by_cases g2 : 8 < t.idxs.length
  ·have g2' : (8 : Int) < t.idxs.length := by omega
   have hR : tabOk t next = false := noTab fun h => by
    simp only [tabOk, Bool.and_eq_true, decide_eq_true_eq] at h; omega
   simp (maxSteps := 1000000) [hho, noHo, g1, g1', g2, g2', undef, onGP_none, condG_false, -List.reduceReplicate]
   exact Ret.drop (by rfl) ⟨by rw [hR], rfl⟩
  have g2' : ¬ (8 : Int) < t.idxs.length := by omega
  have g2n : t.idxs.length ≤ 8 := by omega
  simp (maxSteps := 1000000) [hho, noHo, g1, g1', g2, g2', undef, onGP_none, condG_false, -List.reduceReplicate]
  exact cut_to () (by first | exact ⟨hN, g1n, g2n⟩ | exact ⟨g1n, g2n⟩ | trivial) (wk_eq (by simp [hE, lens]) (by simp [tabA]) (by simp [livH, livO, AV.livL, AV.liv, wkL, wkV, List.range', slotsOf]))
end Go.Proofs.YthgoocdldnkogaaGreatDoor
namespace Go.Proofs.YthgoocdldnkogaaGreatDoor
set_option linter.unusedVariables false
set_option linter.unusedSimpArgs false
open Go.RowKit
attribute [local simp] isCut_nil isCut_region isCut_seq isCut_block isCut_loop isCut_cond isCut_skip isCut_exit isCut_ret isCut_range swapK putK altK condK_bool pickP_bool stepP stepO onPure_some onPure_none onImpl_some onImpl_none stepC onGP_some onGP_none onGV_some condG mkG onIt_it nextP_ptr takeP_eq takeV_some takeV_none takeU_some takeU_none takeQ takeW_some takeN_none takeN_some takeG_some takeO_some altO_some pureV binV2 eqF eqOp ovlV ovl2 rowAt capV binV intBin strBin isSh shV fldV ixV sliceV slice3V loadAV nilV lenV callV unV convV viewS cellsH loadV fldCut AV.ung AV.ungs AV.gc AV.cells AS.ev AS.put anyS gcsV gcO lens lnO gV guardV retK RetP_eq resV oneV anyRo loIx hiIx implO callP_clo evL gcsL clearV storeAV AS.push AS.setO appV appZ shortS copyV buildV partsV fillV srcV fzO okV isCell_c isCell_ptr isCell_sl isCell_fs isCell_fp isCell_clo rowZ_one rowZ_zero rowZ_2 rowZ_3 rowZ_4 rowZ_5 rowZ_6 rowZ_7 rowZ_8 rowZ_9 rowZ_10 rowZ_11 rowZ_12 noHo Value.oneCell' max2V min2V lookV updV updK updW cvals mkAt basV lenM msAt afterH putBack frzFrom frzO rebO backIx nilEq_sl nilEq_fs nilEq_ifn nilEq_ifh ifOp_eql ifOp_neq isLit nilOp_eql nilOp_neq AV.reb AV.rebL
attribute [local simp ↓] runK_skip runK_region runK_draw runK_seq runK_cut runK_cond runK_block runK_loop runK_exit runK_label runK_goto runK_ret runK_range contK_nil contK_seq contK_seq_ret contK_seq_exit contK_seq_goto contK_block contK_block_ret contK_block_goto contK_block_exit runO_nil runO_cons roundK_exit roundK_ret roundK_goto exitK_ret cutK_ret cutK_exit runE_done runE_nil runE_take runE_alt condG_true condG_false
set_option maxRecDepth 10000
def sPre (s : SchS) (l : List TabS) : Bool := risB s.next (-1) (l.map TabS.id) && unlB [] (l.map TabS.name) && l.all fun t => tabOk t s.next
theorem sPre_cut {s : SchS} (j : Nat) (h : schOk s = true) : sPre s (s.tabs.take j) = true := by
 have e : s.tabs = s.tabs.take j ++ s.tabs.drop j := (List.take_append_drop j _).symm
 simp only [schOk, Bool.and_eq_true] at h
 obtain ⟨⟨⟨h0, h1⟩, h2⟩, h3⟩ := h
 rw [e, List.map_append] at h1 h2
 rw [e] at h3
 simp only [sPre, Bool.and_eq_true]
 exact ⟨⟨risB_pre s.next h1, unlB_pre _ _ _ h2⟩, all_pre h3⟩
theorem sPre_snoc {s : SchS} {l : List TabS} (t : TabS) (h : sPre s l = true) : sPre s (l ++ [t]) = (decide (lastI (-1) (l.map TabS.id) < t.id) && decide (t.id < s.next) && !memS (l.map TabS.name) t.name && tabOk t s.next) := by
 simp only [sPre, Bool.and_eq_true] at h
 obtain ⟨⟨h1, h2⟩, h3⟩ := h
 simp only [sPre, List.map_append, List.map_cons, List.map_nil, risB_app, h1, List.all_append, h2, h3, List.all_cons, List.all_nil, risB, unlB_app, List.nil_append, Bool.and_true, Bool.true_and]
set_option maxHeartbeats 8000000 in
theorem right_r12 (s : SchS) (hl : s.tabs.length ≤ 1000000) (hb : ∀ t ∈ s.tabs, TabBig t) : ACalls Tryz.prog 28 [.agg (schA s)] [] (fun _ => false) (fun r h' => r = .c (.bool (schOk s)) ∧ h' = []) := by
 refine acalls mixed Tryz.func28 rfl Tryz.ntmps28 rfl fun E hE hst hho => ?_
 have hneg : ∀ {p : Prop}, (schOk s = true → p) → ¬ p → schOk s = false := fun h hp => by
  cases e : schOk s with
  | false => rfl
  | true => exact absurd (h e) hp
 by_cases g1 : s.ver < 0
 ·have hR : schOk s = false := hneg (p := 0 ≤ s.ver) (fun h => by simp only [schOk, Bool.and_eq_true, decide_eq_true_eq] at h; exact h.1.1.1.1.1) (by omega)
  simp (maxSteps := 1000000) [schA, hho, noHo, g1, undef, onGP_none, condG_false, -List.reduceReplicate]
  exact Ret.drop (by rfl) ⟨by rw [hR], rfl⟩
 by_cases g2 : s.next < 0
 ·have hR : schOk s = false := hneg (p := 0 ≤ s.next) (fun h => by simp only [schOk, Bool.and_eq_true, decide_eq_true_eq] at h; exact h.1.1.1.1.2) (by omega)
  simp (maxSteps := 1000000) [schA, hho, noHo, g1, g2, undef, onGP_none, condG_false, -List.reduceReplicate]
  exact Ret.drop (by rfl) ⟨by rw [hR], rfl⟩
 by_cases g3 : 8 < s.tabs.length
 ·have g3' : (8 : Int) < s.tabs.length := by omega
  have hR : schOk s = false := hneg (p := s.tabs.length ≤ 8) (fun h => by simp only [schOk, Bool.and_eq_true, decide_eq_true_eq] at h; exact h.1.1.1.2) (by omega)
  simp (maxSteps := 1000000) [schA, hho, noHo, g1, g2, g3, g3', undef, onGP_none, condG_false, -List.reduceReplicate]
  exact Ret.drop (by rfl) ⟨by rw [hR], rfl⟩
 have g3' : ¬ (8 : Int) < s.tabs.length := by omega
 simp (maxSteps := 1000000) [schA, hho, noHo, g1, g2, g3, g3', undef, onGP_none, condG_false, -List.reduceReplicate]
 refine loop_k mixed (fun j : Nat => ⟨slotsOf 57 [(1, .ptr 0 0 3), (3, .c (.int .i64 (lastI (-1) ((s.tabs.take j).map TabS.id)))), (21, .fs 4 s.tabs.length (tabsA s.tabs)), (22, .c (.int .i64 s.tabs.length)), (23, .c (.int .i64 (j : Nat)))], [.o .box (schA s)]⟩) (fun j => s.tabs.length - j) (fun j => j ≤ s.tabs.length ∧ sPre s (s.tabs.take j) = true) 0 ⟨Nat.zero_le _, rfl⟩ ?_ ?_
 ·exact wk_eq (by simp [hE, lens]) (by simp [schA]) (by simp [livH, livO, AV.livL, AV.liv, wkL, wkV, List.range', slotsOf, lastI])
 rintro j ⟨hj, hI⟩
 by_cases hjl : j < s.tabs.length
 ·have hat := tabsA_at s.tabs j hjl
  have ew : IntKind.i64.wrap ((j : Int) + 1) = (j + 1 : Nat) := by rw [IntWalk.i64_in _ (by omega)]; rfl
  have e0 : j * 4 + 4 ≤ s.tabs.length * 4 := by omega
  have htk : s.tabs.take (j + 1) = s.tabs.take j ++ [s.tabs[j]] := List.take_succ_eq_append_getElem hjl
  have hsn := sPre_snoc s.tabs[j] hI
  rw [← htk] at hsn
  have hno : sPre s (s.tabs.take (j + 1)) = false → schOk s = false := fun h => hneg (p := sPre s (s.tabs.take (j + 1)) = true) (fun h2 => sPre_cut (j + 1) h2) (by rw [h]; simp)
  have hbx := hb s.tabs[j] (List.getElem_mem hjl)
  have hfi := ixF_first (fun x : TabS => decide (x.name = s.tabs[j].name)) s.tabs j hjl (by simp)
  rw [tab_any] at hfi
  have hla : lastI (-1) (List.take (j + 1) (List.map TabS.id s.tabs)) = s.tabs[j].id := by rw [lastI_take _ _ _ (by simpa using hjl)]; simp
  obtain ⟨x, hx⟩ : ∃ x, x = s.tabs[j] := ⟨_, rfl⟩
  rw [← hx] at hat hsn hbx hfi hla
  have k1 := r12Table_w s x.name hl
  have k2 := table_r12 x s.next hbx
  obtain ⟨v, hv⟩ : ∃ v, v = ixF (fun y : TabS => decide (y.name = x.name)) s.tabs := ⟨_, rfl⟩
  rw [← hv] at k1 hfi
  obtain ⟨w, hw⟩ : ∃ w, w = lastI (-1) ((s.tabs.take j).map TabS.id) := ⟨_, rfl⟩
  rw [← hw] at hsn ⊢
  have hfail : ∀ {p : Prop}, (sPre s (s.tabs.take (j + 1)) = true → p) → ¬ p → schOk s = false := fun h hp => hno (by
   cases e : sPre s (s.tabs.take (j + 1)) with
   | false => rfl
   | true => exact absurd (h e) hp)
  rw [hsn] at hfail
  simp only [Bool.and_eq_true, decide_eq_true_eq] at hfail
  have h4 : List.take 4 (tabA x) = tabA x := rfl
  by_cases i1 : x.id ≤ w
  ·simp (maxSteps := 1000000) [slotsOf, schA, tabA, hho, noHo, hjl, hat, e0, i1, undef, onGP_none, condG_false, -List.reduceReplicate]
   exact Ret.drop (by rfl) ⟨by rw [hfail (fun h => h.1.1.1) (by omega)], rfl⟩
  by_cases i2 : s.next ≤ x.id
  ·simp (maxSteps := 1000000) [slotsOf, schA, tabA, hho, noHo, hjl, hat, e0, i1, i2, undef, onGP_none, condG_false, -List.reduceReplicate]
   exact Ret.drop (by rfl) ⟨by rw [hfail (fun h => h.1.1.2) (by omega)], rfl⟩
  simp (maxSteps := 1000000) [slotsOf, schA, tabA, hho, noHo, hjl, hat, e0, i1, i2, undef, onGP_none, condG_false, -List.reduceReplicate]
  refine call_x [] k1 rfl rfl ⟨rfl, rfl⟩ hho (by simp) (by decide) (by simp) (by simp) ?_
  by_cases i4 : v = (j : Int)
  case neg =>
   simp (maxSteps := 1000000) [hho, noHo, i4, undef, onGP_none, condG_false, -List.reduceReplicate]
   exact Ret.drop (by rfl) ⟨by rw [hfail (fun h => h.1.2) (by intro h; exact i4 (hfi.2 (by simpa using h)))], rfl⟩
  have i4m := hfi.1 i4
  simp (maxSteps := 1000000) [hho, noHo, i4, undef, onGP_none, condG_false, -List.reduceReplicate]
  refine call_x [] k2 rfl rfl ⟨rfl, rfl⟩ hho (by simp) (by decide) (by simp) (by simp) ?_
  cases i5 : tabOk x s.next with
  | false =>
   simp (maxSteps := 1000000) [hho, noHo, undef, onGP_none, condG_false, -List.reduceReplicate]
   exact Ret.drop (by rfl) ⟨by rw [hfail (fun h => h.2) (by simp [i5])], rfl⟩
  | true =>
   simp (maxSteps := 1000000) [hho, noHo, ew, undef, onGP_none, condG_false, -List.reduceReplicate]
   refine round_next (j + 1) ⟨by omega, ?_⟩ (by omega) ?_
   ·rw [hsn]
    simp only [Bool.and_eq_true, decide_eq_true_eq, Bool.not_eq_true']
    exact ⟨⟨⟨by omega, by omega⟩, i4m⟩, i5⟩
   ·exact wk_of 1 1 (by simp) (by simp [hE, lens]) (by simp [schA]) (by simp [livH, livO, AV.livL, AV.liv, wkL, wkV, List.range']) (by simp [livH, livO, AV.livL, AV.liv, wkL, wkV, List.range', slotsOf, hla])
 ·obtain rfl : j = s.tabs.length := by omega
  rw [List.take_length] at hI
  simp only [sPre, Bool.and_eq_true] at hI
  have hR : schOk s = true := by
   unfold schOk
   rw [hI.1.1, hI.1.2, hI.2, decide_eq_true (by omega : 0 ≤ s.ver), decide_eq_true (by omega : 0 ≤ s.next), decide_eq_true (by omega : s.tabs.length ≤ 8)]
   rfl
  simp (maxSteps := 1000000) [slotsOf, schA, hho, noHo, -List.reduceReplicate]
  exact Ret.drop (by rfl) ⟨by rw [hR], rfl⟩
end Go.Proofs.YthgoocdldnkogaaGreatDoor
