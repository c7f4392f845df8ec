import Derived.Test.YtcjncgfhkgcbnaaGreatDoorZu
import Derived.Test.YtcjncgfhkgcbnaaGreatDoorDr
namespace Go.Proofs.YtcjncgfhkgcbnaaGreatDoor
set_option linter.unusedVariables false
set_option linter.unusedSimpArgs false
open Go.RowKit
attribute [local simp] isCut_nil isCut_region isCut_seq isCut_block isCut_loop isCut_cond isCut_skip isCut_exit isCut_ret isCut_range swapK putK altK condK_bool pickP_bool stepP stepO onPure_some onPure_none onImpl_some onImpl_none stepC onGP_some onGP_none onGV_some condG mkG onIt_it nextP_ptr takeP_eq takeV_some takeV_none takeU_some takeU_none takeQ takeW_some takeN_none takeN_some takeG_some takeO_some altO_some pureV binV2 eqF eqOp ovlV ovl2 rowAt capV binV intBin strBin isSh shV fldV ixV sliceV slice3V loadAV nilV lenV callV unV convV viewS cellsH loadV fldCut AV.ung AV.ungs AV.gc AV.cells AS.ev AS.put anyS gcsV gcO lens lnO gV guardV retK RetP_eq resV oneV anyRo loIx hiIx implO callP_clo evL gcsL clearV storeAV AS.push AS.setO appV appZ shortS copyV buildV partsV fillV srcV fzO okV isCell_c isCell_ptr isCell_sl isCell_fs isCell_fp isCell_clo rowZ_one rowZ_zero rowZ_2 rowZ_3 rowZ_4 rowZ_5 rowZ_6 rowZ_7 rowZ_8 rowZ_9 rowZ_10 rowZ_11 rowZ_12 noHo Value.oneCell' max2V min2V lookV updV lenM msAt afterH putBack frzFrom frzO rebO backIx nilEq_sl nilEq_fs nilOp_eql nilOp_neq AV.reb AV.rebL
attribute [local simp ↓] runK_skip runK_region runK_draw runK_seq runK_cut runK_cond runK_block runK_loop runK_exit runK_label runK_goto runK_ret runK_range contK_nil contK_seq contK_seq_ret contK_seq_exit contK_seq_goto contK_block contK_block_ret contK_block_goto contK_block_exit runO_nil runO_cons roundK_exit roundK_ret roundK_goto exitK_ret cutK_ret cutK_exit runE_done runE_nil runE_take runE_alt condG_true condG_false
set_option maxRecDepth 10000
theorem fit_dec (s : SchS) : ∃ R : Bool, R = true ↔ SchFit s := ⟨@decide (SchFit s) (Classical.propDecidable _), by simp⟩
theorem fit_big {s : SchS} (h : SchFit s) : s.tabs.length ≤ 1000000 ∧ ∀ t ∈ s.tabs, TabBig t := by
  refine ⟨by have := h.1; omega, fun t ht => ?_⟩
  obtain ⟨h1, h2, h3, h4, h5⟩ := h.2 t ht
  exact ⟨by omega, by omega, by omega, fun c hc => by have := h4 c hc; exact ⟨by have := this.1; omega, by have := this.2; omega⟩, fun x hx => by have := h5 x hx; exact ⟨by have := this.1; omega, by have := this.2; omega⟩⟩
set_option maxHeartbeats 16000000 in
theorem finds_w (s : SchS) (ho : s.Ok) (name : ByteArray) (hn : name.size ≤ maxLen) (id : Int) (hid : -9223372036854775808 ≤ id ∧ id ≤ 9223372036854775807) : ACalls Tryz.prog 5 [.agg (schA s), .c (.string name), .c (.int .i64 id)] [] (fun _ => false) (fun r h' => r = .c (.bool true)) := by
  refine acalls mixed Tryz.func5 rfl Tryz.ntmps5 rfl fun E hE hst hho => ?_
  obtain ⟨R, hR⟩ := fit_dec s
  have c0 := small_r12 s R hR
  cases R with
  | false =>
    simp (maxSteps := 1000000) [hho, noHo, schA, -List.reduceReplicate]
    refine call_x [] (first12_w) rfl rfl ⟨rfl, rfl⟩ hho (by simp) (by decide) (by simp) (by simp) ?_
    simp (maxSteps := 1000000) [hho, noHo, -List.reduceReplicate]
    refine call_x [] (c0) rfl rfl ⟨rfl, rfl⟩ hho (by simp) (by decide) (by simp) (by simp) ?_
    simp (maxSteps := 1000000) [hho, noHo, undef, onGP_none, condG_false, -List.reduceReplicate]
    exact Ret.drop (by rfl) rfl
  | true =>
  have hfit := hR.1 rfl
  obtain ⟨hb1, hb2⟩ := fit_big hfit
  by_cases g1 : 300 < name.size
  · have g1' : (300 : Int) < name.size := by omega
    simp (maxSteps := 1000000) [hho, noHo, schA, -List.reduceReplicate]
    refine call_x [] (first12_w) rfl rfl ⟨rfl, rfl⟩ hho (by simp) (by decide) (by simp) (by simp) ?_
    simp (maxSteps := 1000000) [hho, noHo, -List.reduceReplicate]
    refine call_x [] (c0) rfl rfl ⟨rfl, rfl⟩ hho (by simp) (by decide) (by simp) (by simp) ?_
    simp (maxSteps := 1000000) [hho, noHo, g1, g1', undef, onGP_none, condG_false, -List.reduceReplicate]
    exact Ret.drop (by rfl) rfl
  have g1' : ¬ (300 : Int) < name.size := by omega
  simp (maxSteps := 1000000) [hho, noHo, schA, -List.reduceReplicate]
  refine call_x [] (first12_w) rfl rfl ⟨rfl, rfl⟩ hho (by simp) (by decide) (by simp) (by simp) ?_
  simp (maxSteps := 1000000) [hho, noHo, -List.reduceReplicate]
  refine call_x [] (c0) rfl rfl ⟨rfl, rfl⟩ hho (by simp) (by decide) (by simp) (by simp) ?_
  simp (maxSteps := 1000000) [hho, noHo, g1, g1', undef, onGP_none, condG_false, -List.reduceReplicate]
  refine loop_k mixed (fun j : Nat => ⟨slotsOf 66 [(1, .c (.string name)), (2, .c (.int .i64 id)), (3, .ptr 0 0 3), (20, .fs 4 s.tabs.length (tabsA s.tabs)), (21, .c (.int .i64 s.tabs.length)), (22, .c (.int .i64 (j : Nat)))], [.o .box (schA s)]⟩) (fun j => s.tabs.length - j) (fun j => j ≤ s.tabs.length) 0 (Nat.zero_le _) ?_ ?_
  · exact wk_eq (by simp [hE, lens]) (by simp [schA]) (by simp [livH, livO, AV.livL, AV.liv, wkL, wkV, List.range', slotsOf])
  intro j hj
  by_cases hjl : j < s.tabs.length
  · have hat := tabsA_at s.tabs j hjl
    have ew : IntKind.i64.wrap ((j : Int) + 1) = (j + 1 : Nat) := by rw [IntWalk.i64_in _ (by omega)]; rfl
    have e0 : j * 4 + 4 ≤ s.tabs.length * 4 := by omega
    have hb := hb2 s.tabs[j] (List.getElem_mem hjl)
    obtain ⟨t, hte⟩ : ∃ t, t = s.tabs[j] := ⟨_, rfl⟩
    rw [← hte] at hat hb
    have hcl := hb.cl
    have hil := hb.il
    have c1 := scColumn_w t name hcl
    have c2 := r12Column_w t name hcl
    have c3 := scColumnId_w t id hcl
    have c4 := r12ColumnId_w t id hcl
    have c5 := scIndex_w t name hil
    have c6 := r12Index_w t name hil
    obtain ⟨v1, hv1⟩ : ∃ v, v = ixF (fun x : ColS => decide (x.st = 3) && decide (x.name = name)) t.cols := ⟨_, rfl⟩
    obtain ⟨v2, hv2⟩ : ∃ v, v = ixF (fun x : ColS => decide (x.id = id)) t.cols := ⟨_, rfl⟩
    obtain ⟨v3, hv3⟩ : ∃ v, v = ixF (fun x : IdxS => decide (x.name = name)) t.idxs := ⟨_, rfl⟩
    rw [← hv1] at c1 c2
    rw [← hv2] at c3 c4
    rw [← hv3] at c5 c6
    simp (maxSteps := 1000000) [hho, noHo, slotsOf, schA, hjl, hat, e0, -List.reduceReplicate]
    refine draw_k hho (.take 0 (.take 1 (.take 3 (.take 4 (.alt 2 (.alt 5 (.take 6 (.take 7 (.take 8 (.take 9 (.take 11 (.take 12 (.alt 10 (.alt 13 (.take 14 (.take 15 (.take 16 (.take 17 (.take 18 (.take 20 (.take 21 (.alt 19 (.alt 22 (.take 23 (.take 24 (.done))) (.nil)) (.nil))))))))) (.nil)) (.nil)))))))) (.nil)) (.nil)))))) [1] [] (by decide +kernel) (by simp) ?_
    simp (maxSteps := 1000000) [hho, noHo, tabA, roOf, holdOf, wrOf, altK, heldOk, Region.binds, -List.reduceReplicate]
    intro E1
    refine call_h [] (c1) rfl rfl ⟨rfl, rfl⟩ (by simp) (by simp) (by decide) (by simp) (by simp) ?_
    simp (maxSteps := 1000000) [hho, noHo, tabA, roOf, holdOf, wrOf, altK, heldOk, Region.binds, -List.reduceReplicate]
    intro E2
    refine call_h [] (c2) rfl rfl ⟨rfl, rfl⟩ (by simp) (by simp) (by decide) (by simp) (by simp) ?_
    simp (maxSteps := 1000000) [hho, noHo, tabA, roOf, holdOf, wrOf, altK, heldOk, Region.binds, -List.reduceReplicate]
    intro E3
    refine call_h [] (c3) rfl rfl ⟨rfl, rfl⟩ (by simp) (by simp) (by decide) (by simp) (by simp) ?_
    simp (maxSteps := 1000000) [hho, noHo, tabA, roOf, holdOf, wrOf, altK, heldOk, Region.binds, -List.reduceReplicate]
    intro E4
    refine call_h [] (c4) rfl rfl ⟨rfl, rfl⟩ (by simp) (by simp) (by decide) (by simp) (by simp) ?_
    simp (maxSteps := 1000000) [hho, noHo, tabA, roOf, holdOf, wrOf, altK, heldOk, Region.binds, -List.reduceReplicate]
    intro E5
    refine call_h [] (c5) rfl rfl ⟨rfl, rfl⟩ (by simp) (by simp) (by decide) (by simp) (by simp) ?_
    simp (maxSteps := 1000000) [hho, noHo, tabA, roOf, holdOf, wrOf, altK, heldOk, Region.binds, -List.reduceReplicate]
    intro E6
    refine call_h [] (c6) rfl rfl ⟨rfl, rfl⟩ (by simp) (by simp) (by decide) (by simp) (by simp) ?_
    simp (maxSteps := 1000000) [hho, noHo, tabA, ew, roOf, holdOf, wrOf, altK, heldOk, Region.binds, -List.reduceReplicate]
    intros
    refine round_next (j + 1) (by omega) (by omega) ?_
    exact wk_of 1 1 (by simp) (by simp [hE, lens]) (by simp [schA]) (by simp [livH, livO, AV.livL, AV.liv, wkL, wkV, List.range']) (by simp [livH, livO, AV.livL, AV.liv, wkL, wkV, List.range', slotsOf])
  obtain rfl : j = s.tabs.length := by omega
  have c1 := scTable_w s name hb1
  have c2 := r12Table_w s name hb1
  have c3 := name_sch name (by omega)
  have c4 := name_ref name (by omega)
  obtain ⟨v1, hv1⟩ : ∃ v, v = ixF (fun x : TabS => decide (x.name = name)) s.tabs := ⟨_, rfl⟩
  rw [← hv1] at c1 c2
  obtain ⟨v2, hv2⟩ : ∃ v, v = nameOk name := ⟨_, rfl⟩
  rw [← hv2] at c3 c4
  simp (maxSteps := 1000000) [hho, noHo, slotsOf, schA, -List.reduceReplicate]
  refine draw_k hho (.take 0 (.take 1 (.take 3 (.take 4 (.alt 2 (.alt 5 (.take 6 (.take 7 (.take 8 (.take 10 (.alt 9 (.alt 11 (.take 12 (.take 13 (.take 14 (.done)))) (.nil)) (.nil)))))) (.nil)) (.nil)))))) [0] [] (by decide +kernel) (by simp) ?_
  simp (maxSteps := 1000000) [hho, noHo, roOf, holdOf, wrOf, altK, heldOk, Region.binds, -List.reduceReplicate]
  intro E1
  refine call_h [] (c1) rfl rfl ⟨rfl, rfl⟩ (by simp) (by simp) (by decide) (by simp) (by simp) ?_
  simp (maxSteps := 1000000) [hho, noHo, roOf, holdOf, wrOf, altK, heldOk, Region.binds, -List.reduceReplicate]
  intro E2
  refine call_h [] (c2) rfl rfl ⟨rfl, rfl⟩ (by simp) (by simp) (by decide) (by simp) (by simp) ?_
  simp (maxSteps := 1000000) [hho, noHo, roOf, holdOf, wrOf, altK, heldOk, Region.binds, -List.reduceReplicate]
  intro E3
  refine call_h [] (c3) rfl rfl ⟨rfl, rfl⟩ (by simp) (by simp) (by decide) (by simp) (by simp) ?_
  simp (maxSteps := 1000000) [hho, noHo, roOf, holdOf, wrOf, altK, heldOk, Region.binds, -List.reduceReplicate]
  intro E4
  refine call_h [] (c4) rfl rfl ⟨rfl, rfl⟩ (by simp) (by simp) (by decide) (by simp) (by simp) ?_
  simp (maxSteps := 1000000) [hho, noHo, roOf, holdOf, wrOf, altK, heldOk, Region.binds, -List.reduceReplicate]
  intros
  exact Ret.drop (by rfl) (by simp)
end Go.Proofs.YtcjncgfhkgcbnaaGreatDoor
