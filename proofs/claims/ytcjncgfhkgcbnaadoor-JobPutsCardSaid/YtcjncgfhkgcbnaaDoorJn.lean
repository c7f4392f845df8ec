import Derived.Test.YtcjncgfhkgcbnaaDoorJr
import Derived.Test.YtcjncgfhkgcbnaaDoorDr
namespace Go.Proofs.YtcjncgfhkgcbnaaDoor
set_option linter.unusedVariables false
set_option linter.unusedSimpArgs false
open Go.RowKit
attribute [local simp] isCut_nil isCut_region isCut_seq isCut_block isCut_loop isCut_cond isCut_skip isCut_exit isCut_ret isCut_range swapK putK altK condK_bool pickP_bool stepP stepO onPure_some onPure_none onImpl_some onImpl_none stepC onGP_some onGP_none onGV_some condG mkG onIt_it nextP_ptr takeP_eq takeV_some takeV_none takeU_some takeU_none takeQ takeW_some takeN_none takeN_some takeG_some takeO_some altO_some pureV binV2 eqF eqOp ovlV ovl2 rowAt capV binV intBin strBin isSh shV fldV ixV sliceV slice3V loadAV nilV lenV callV unV convV viewS cellsH loadV fldCut AV.ung AV.ungs AV.gc AV.cells AS.ev AS.put anyS gcsV gcO lens lnO gV guardV retK RetP_eq resV oneV anyRo loIx hiIx implO callP_clo evL gcsL clearV storeAV AS.push AS.setO appV appZ shortS copyV buildV partsV fillV srcV fzO okV isCell_c isCell_ptr isCell_sl isCell_fs isCell_fp isCell_clo rowZ_one rowZ_zero rowZ_2 rowZ_3 rowZ_4 rowZ_5 rowZ_6 rowZ_7 rowZ_8 rowZ_9 rowZ_10 rowZ_11 rowZ_12 noHo Value.oneCell' max2V min2V lookV updV lenM msAt afterH putBack frzFrom frzO rebO backIx nilEq_sl nilEq_fs nilOp_eql nilOp_neq AV.reb AV.rebL
attribute [local simp ↓] runK_skip runK_region runK_draw runK_seq runK_cut runK_cond runK_block runK_loop runK_exit runK_label runK_goto runK_ret runK_range contK_nil contK_seq contK_seq_ret contK_seq_exit contK_seq_goto contK_block contK_block_ret contK_block_goto contK_block_exit runO_nil runO_cons roundK_exit roundK_ret roundK_goto exitK_ret cutK_ret cutK_exit runE_done runE_nil runE_take runE_alt condG_true condG_false
set_option maxRecDepth 10000
def atI {α : Type} (l : List α) (p : α → Bool) : Option α := l.find? p
theorem ixF_at {α : Type} (p : α → Bool) (l : List α) : (∃ i : Nat, ∃ hi : i < l.length, ixF p l = i ∧ l.find? p = some l[i]) ∨ (ixF p l = -1 ∧ l.find? p = none) := by
  rcases ixFC_cases p l with ⟨i, hi, h1, h2, h3⟩ | ⟨h1, h2⟩
  · refine .inl ⟨i, hi, h1, ?_⟩
    rw [List.find?_eq_some_iff_getElem]
    refine ⟨h3, i, hi, rfl, fun j hj => ?_⟩
    rw [h2 j (by omega) hj]; rfl
  · refine .inr ⟨h1, ?_⟩
    rw [List.find?_eq_none]
    intro x hx
    obtain ⟨k, hk, rfl⟩ := List.getElem_of_mem hx
    simp [h2 k hk]
def ofIdx (k : Int) : Bool := decide (k = 0) || decide (k = 1)
def tpA : Option TabS → AV | none => .c (.pointer none) | some t => .fp (tabA t)
def jTab (j : JobS) (s : SchS) : Option TabS := s.tabs.find? fun t => decide (t.id = j.table)
def stOf (t : TabS) (b : Bool) (n : Int) : Option Int := if b = true then (t.idxs.find? fun x => decide (x.id = n)).map IdxS.st else (t.cols.find? fun x => decide (x.id = n)).map ColS.st
def stA (o : Option Int) : AV := .tup [.c (.int .i64 (o.getD 0)), .c (.bool o.isSome)]
theorem jbofIndex_w (k : Int) : ACalls Tryd.prog 84 [.c (.int .i64 k)] [] (fun _ => false) (fun r h' => r = .c (.bool (ofIdx k)) ∧ h' = []) := by
  refine acalls mixed Tryd.func84 rfl Tryd.ntmps84 rfl fun E hE hst hho => ?_
  unfold ofIdx
  by_cases h0 : k = 0
  · subst h0
    simp (maxSteps := 1000000) [hho, noHo, undef, onGP_none, condG_false, -List.reduceReplicate]
    exact Ret.same ⟨rfl, rfl⟩
  · simp (maxSteps := 1000000) [hho, noHo, h0, undef, onGP_none, condG_false, -List.reduceReplicate]
    exact Ret.same ⟨rfl, rfl⟩
theorem jbtable_1_w (x : TabS) (j : JobS) : ACalls Tryd.prog 82 [.agg (tabA x), .ptr 0 0 18] [.o .box (jobA j)] (fun k => decide (k < 1)) (fun r h' => r = .c (.bool (decide (x.id = j.table))) ∧ h' = [.o .box (jobA j)]) := by
  refine acalls mixed Tryd.func82 rfl Tryd.ntmps82 rfl fun E hE hst hho => ?_
  simp (maxSteps := 1000000) [hho, noHo, tabA, jobA, -List.reduceReplicate]
  refine Ret.sel [0] (fun _ => false) (ho := by rfl) (ha := by rfl) ?_ ?_ (by decide) (by simp) (fun i _ h => ?_) ⟨?_, rfl⟩
  · simp
  · simp
  · have e : i = 0 := of_decide_eq_true h
    subst e; rfl
  · rfl
set_option maxHeartbeats 4000000 in
theorem jbtable_w (j : JobS) (s : SchS) (hl : s.tabs.length ≤ 1000000) : ACalls Tryd.prog 47 [.agg (jobA j), .agg (schA s)] [] (fun _ => false) (fun r h' => r = tpA (jTab j s) ∧ h' = []) := by
  refine acalls mixed Tryd.func47 rfl Tryd.ntmps47 rfl fun E hE hst hho => ?_
  have hic := ifc_tab s.tabs (fun x : TabS => decide (x.id = j.table)) 82 (by simp) (jobA j) 18 rfl rfl hl fun x _ => jbtable_1_w x j
  rcases ixF_at (fun x : TabS => decide (x.id = j.table)) s.tabs with ⟨i, hi, e1, e2⟩ | ⟨e1, e2⟩
  · rw [e1] at hic
    have hat := tabsA_at s.tabs i hi
    simp (maxSteps := 1000000) [hho, noHo, schA, jobA, -List.reduceReplicate]
    refine call_x [0] (hic) rfl rfl ⟨rfl, rfl⟩ hho (by simp) (by decide) (by simp) (by simp) ?_
    simp (maxSteps := 1000000) [hho, noHo, hi, hat, -List.reduceReplicate]
    unfold jTab
    rw [e2]
    exact Ret.sel [] (fun _ => false) (ho := by rfl) (ha := by rfl) (by simp) (by simp) (by decide) (by simp) (fun i _ h => by cases h) ⟨rfl, rfl⟩
  · rw [e1] at hic
    simp (maxSteps := 1000000) [hho, noHo, schA, jobA, -List.reduceReplicate]
    refine call_x [0] (hic) rfl rfl ⟨rfl, rfl⟩ hho (by simp) (by decide) (by simp) (by simp) ?_
    simp (maxSteps := 1000000) [hho, noHo, -List.reduceReplicate]
    unfold jTab
    rw [e2]
    exact Ret.drop (by rfl) ⟨rfl, rfl⟩
theorem jbstate_1_w (x : IdxS) (n : Int) : ACalls Tryd.prog 101 [.agg (idxA x), .ptr 0 0 1] [.o .box [.c (.int .i64 n)]] (fun k => decide (k < 1)) (fun r h' => r = .c (.bool (decide (x.id = n))) ∧ h' = [.o .box [.c (.int .i64 n)]]) := by
  refine acalls mixed Tryd.func101 rfl Tryd.ntmps101 rfl fun E hE hst hho => ?_
  simp (maxSteps := 1000000) [hho, noHo, idxA, -List.reduceReplicate]
  refine Ret.sel [0] (fun _ => false) (ho := by rfl) (ha := by rfl) ?_ ?_ (by decide) (by simp) (fun i _ h => ?_) ⟨?_, rfl⟩
  · simp
  · simp
  · have e : i = 0 := of_decide_eq_true h
    subst e; rfl
  · rfl
set_option maxHeartbeats 4000000 in
theorem jbstate_w (t : TabS) (b : Bool) (n : Int) (hcl : t.cols.length ≤ 1000000) (hil : t.idxs.length ≤ 1000000) : ACalls Tryd.prog 83 [.fp (tabA t), .c (.bool b), .c (.int .i64 n)] [] (fun _ => false) (fun r h' => r = stA (stOf t b n) ∧ h' = []) := by
  refine acallsC [2] mixed Tryd.func83 rfl Tryd.ntmps83 rfl fun E hE hst hho => ?_
  cases b with
  | true =>
    have hic := ifc_idx t.idxs (fun x : IdxS => decide (x.id = n)) 101 (by simp) [.c (.int .i64 n)] 1 rfl rfl hil fun x _ => jbstate_1_w x n
    rcases ixF_at (fun x : IdxS => decide (x.id = n)) t.idxs with ⟨i, hi, e1, e2⟩ | ⟨e1, e2⟩
    · rw [e1] at hic
      have hat := idxsA_at t.idxs i hi
      simp (maxSteps := 1000000) [hho, noHo, tabA, -List.reduceReplicate]
      refine call_x [0] (hic) rfl rfl ⟨rfl, rfl⟩ hho (by simp) (by decide) (by simp) (by simp) ?_
      simp (maxSteps := 1000000) [hho, noHo, hi, hat, idxA, -List.reduceReplicate]
      unfold stOf
      rw [if_pos rfl, e2]
      exact Ret.drop (by rfl) ⟨rfl, rfl⟩
    · rw [e1] at hic
      simp (maxSteps := 1000000) [hho, noHo, tabA, -List.reduceReplicate]
      refine call_x [0] (hic) rfl rfl ⟨rfl, rfl⟩ hho (by simp) (by decide) (by simp) (by simp) ?_
      simp (maxSteps := 1000000) [hho, noHo, -List.reduceReplicate]
      unfold stOf
      rw [if_pos rfl, e2]
      exact Ret.drop (by rfl) ⟨rfl, rfl⟩
  | false =>
    have hic := scColumnId_w t n hcl
    rcases ixF_at (fun x : ColS => decide (x.id = n)) t.cols with ⟨i, hi, e1, e2⟩ | ⟨e1, e2⟩
    · rw [e1] at hic
      have hat := colsA_at t.cols i hi
      simp (maxSteps := 1000000) [hho, noHo, -List.reduceReplicate]
      refine draw_k hho (.take 0 (.take 1 (.take 2 (.take 3 (.alt 4 (.take 5 (.done)) (.nil)))))) [0] [] (by decide +kernel) (by simp) ?_
      simp (maxSteps := 1000000) [hho, noHo, roOf, holdOf, wrOf, altK, heldOk, Region.binds, -List.reduceReplicate]
      intro E1
      refine call_h [] (hic) rfl rfl ⟨rfl, rfl⟩ (by simp) (by simp) (by decide) (by simp) (by simp) ?_
      simp (maxSteps := 1000000) [hho, noHo, hi, hat, colA, tabA, roOf, holdOf, wrOf, altK, heldOk, Region.binds, -List.reduceReplicate]
      rw [if_neg (by omega)]
      unfold stOf
      rw [if_neg (by decide), e2]
      exact Ret.drop (by rfl) ⟨rfl, rfl⟩
    · rw [e1] at hic
      simp (maxSteps := 1000000) [hho, noHo, -List.reduceReplicate]
      refine draw_k hho (.take 0 (.take 1 (.take 2 (.take 3 (.alt 4 (.take 5 (.done)) (.nil)))))) [0] [] (by decide +kernel) (by simp) ?_
      simp (maxSteps := 1000000) [hho, noHo, roOf, holdOf, wrOf, altK, heldOk, Region.binds, -List.reduceReplicate]
      intro E1
      refine call_h [] (hic) rfl rfl ⟨rfl, rfl⟩ (by simp) (by simp) (by decide) (by simp) (by simp) ?_
      simp (maxSteps := 1000000) [hho, noHo, tabA, roOf, holdOf, wrOf, altK, heldOk, Region.binds, -List.reduceReplicate]
      unfold stOf
      rw [if_neg (by decide), e2]
      exact Ret.drop (by rfl) ⟨rfl, rfl⟩
end Go.Proofs.YtcjncgfhkgcbnaaDoor
