import Derived.Test.YthgoocdldnkogaaGreatDoorHJa
import Derived.Test.YthgoocdldnkogaaGreatDoorDr
import Derived.Test.YthgoocdldnkogaaGreatDoorHJc
namespace Go.Proofs.YthgoocdldnkogaaGreatDoor
set_option linter.unusedVariables false
set_option linter.unusedSimpArgs false
open Go.RowKit
attribute [local simp] isCut_nil isCut_region isCut_seq isCut_block isCut_loop isCut_cond isCut_skip isCut_exit isCut_ret isCut_range swapK putK altK condK_bool pickP_bool stepP stepO onPure_some onPure_none onImpl_some onImpl_none stepC onGP_some onGP_none onGV_some condG mkG onIt_it nextP_ptr takeP_eq takeV_some takeV_none takeU_some takeU_none takeQ takeW_some takeN_none takeN_some takeG_some takeO_some altO_some pureV binV2 eqF eqOp ovlV ovl2 rowAt capV binV intBin strBin isSh shV fldV ixV sliceV slice3V loadAV nilV lenV callV unV convV viewS cellsH loadV fldCut AV.ung AV.ungs AV.gc AV.cells AS.ev AS.put anyS gcsV gcO lens lnO gV guardV retK RetP_eq resV oneV anyRo loIx hiIx implO callP_clo evL gcsL clearV storeAV AS.push AS.setO appV appZ shortS copyV buildV partsV fillV srcV fzO okV isCell_c isCell_ptr isCell_sl isCell_fs isCell_fp isCell_clo rowZ_one rowZ_zero rowZ_2 rowZ_3 rowZ_4 rowZ_5 rowZ_6 rowZ_7 rowZ_8 rowZ_9 rowZ_10 rowZ_11 rowZ_12 noHo Value.oneCell' max2V min2V lookV updV updK updW cvals mkAt basV lenM msAt afterH putBack frzFrom frzO rebO backIx nilEq_sl nilEq_fs nilEq_ifn nilEq_ifh ifOp_eql ifOp_neq isLit nilOp_eql nilOp_neq AV.reb AV.rebL
attribute [local simp ↓] runK_skip runK_region runK_draw runK_seq runK_cut runK_cond runK_block runK_loop runK_exit runK_label runK_goto runK_ret runK_range contK_nil contK_seq contK_seq_ret contK_seq_exit contK_seq_goto contK_block contK_block_ret contK_block_goto contK_block_exit runO_nil runO_cons roundK_exit roundK_ret roundK_goto exitK_ret cutK_ret cutK_exit runE_done runE_nil runE_take runE_alt condG_true condG_false
set_option maxRecDepth 10000
theorem ixF_at {α : Type} (p : α → Bool) (l : List α) : (∃ i : Nat, ∃ hi : i < l.length, ixF p l = i ∧ l.find? p = some l[i]) ∨ (ixF p l = -1 ∧ l.find? p = none) := by
 rcases ixFC_cases p l with ⟨i, hi, h1, h2, h3⟩ | ⟨h1, h2⟩
 ·refine .inl ⟨i, hi, h1, ?_⟩
  rw [List.find?_eq_some_iff_getElem]
  refine ⟨h3, i, hi, rfl, fun j hj => ?_⟩
  rw [h2 j (by omega) hj]; rfl
 ·refine .inr ⟨h1, ?_⟩
  rw [List.find?_eq_none]
  intro x hx
  obtain ⟨k, hk, rfl⟩ := List.getElem_of_mem hx
  simp [h2 k hk]
def ofIdx (k : Int) : Bool := decide (k = 0) || decide (k = 1)
def tpA : Option TabS → AV | none => .c (.pointer none) | some t => .fp (tabA t)
def jTab (j : JobS) (s : SchS) : Option TabS := s.tabs.find? fun t => decide (t.id = j.table)
def stOf (t : TabS) (b : Bool) (n : Int) : Option Int := if b = true then (t.idxs.find? fun x => decide (x.id = n)).map IdxS.st else (t.cols.find? fun x => decide (x.id = n)).map ColS.st
def stA (o : Option Int) : AV := .tup [.c (.int .i64 (o.getD 0)), .c (.bool o.isSome)]
theorem jbofIndex_w (k : Int) : ACalls Tryz.prog 68 [.c (.int .i64 k)] [] (fun _ => false) (fun r h' => r = .c (.bool (ofIdx k)) ∧ h' = []) := by
 refine acalls mixed Tryz.func68 rfl Tryz.ntmps68 rfl fun E hE hst hho => ?_
 unfold ofIdx
 by_cases h0 : k = 0
 ·subst h0
  simp (maxSteps := 1000000) [hho, noHo, undef, onGP_none, condG_false, -List.reduceReplicate]
  exact Ret.same ⟨rfl, rfl⟩
 ·simp (maxSteps := 1000000) [hho, noHo, h0, undef, onGP_none, condG_false, -List.reduceReplicate]
  exact Ret.same ⟨rfl, rfl⟩
theorem jbtable_1_w (x : TabS) (j : JobS) : ACalls Tryz.prog 122 [.agg (tabA x), .ptr 0 0 18] [.o .box (jobA j)] (fun k => decide (k < 1)) (fun r h' => r = .c (.bool (decide (x.id = j.table))) ∧ h' = [.o .box (jobA j)]) := by
 refine acalls mixed Tryz.func122 rfl Tryz.ntmps122 rfl fun E hE hst hho => ?_
 simp (maxSteps := 1000000) [hho, noHo, tabA, jobA, -List.reduceReplicate]
 refine Ret.sel [0] (fun _ => false) (ho := by rfl) (ha := by rfl) ?_ ?_ (by decide) (by simp) (fun i _ h => ?_) ⟨?_, rfl⟩
 ·simp
 ·simp
 ·have e : i = 0 := of_decide_eq_true h
  subst e; rfl
 ·rfl
set_option maxHeartbeats 4000000 in
theorem jbtable_w (j : JobS) (s : SchS) (hl : s.tabs.length ≤ 1000000) : ACalls Tryz.prog 63 [.agg (jobA j), .agg (schA s)] [] (fun _ => false) (fun r h' => r = tpA (jTab j s) ∧ h' = []) := by
 refine acalls mixed Tryz.func63 rfl Tryz.ntmps63 rfl fun E hE hst hho => ?_
 have hic := ifc_tab s.tabs (fun x : TabS => decide (x.id = j.table)) 122 (by simp) (jobA j) 18 rfl rfl hl fun x _ => jbtable_1_w x j
 rcases ixF_at (fun x : TabS => decide (x.id = j.table)) s.tabs with ⟨i, hi, e1, e2⟩ | ⟨e1, e2⟩
 ·rw [e1] at hic
  have hat := tabsA_at s.tabs i hi
  simp (maxSteps := 1000000) [hho, noHo, schA, jobA, -List.reduceReplicate]
  refine call_x [0] (hic) rfl rfl ⟨rfl, rfl⟩ hho (by simp) (by decide) (by simp) (by simp) ?_
  simp (maxSteps := 1000000) [hho, noHo, hi, hat, -List.reduceReplicate]
  unfold jTab
  rw [e2]
  exact Ret.sel [] (fun _ => false) (ho := by rfl) (ha := by rfl) (by simp) (by simp) (by decide) (by simp) (fun i _ h => by cases h) ⟨rfl, rfl⟩
 ·rw [e1] at hic
  simp (maxSteps := 1000000) [hho, noHo, schA, jobA, -List.reduceReplicate]
  refine call_x [0] (hic) rfl rfl ⟨rfl, rfl⟩ hho (by simp) (by decide) (by simp) (by simp) ?_
  simp (maxSteps := 1000000) [hho, noHo, -List.reduceReplicate]
  unfold jTab
  rw [e2]
  exact Ret.drop (by rfl) ⟨rfl, rfl⟩
theorem jbstate_1_w (x : IdxS) (n : Int) : ACalls Tryz.prog 126 [.agg (idxA x), .ptr 0 0 1] [.o .box [.c (.int .i64 n)]] (fun k => decide (k < 1)) (fun r h' => r = .c (.bool (decide (x.id = n))) ∧ h' = [.o .box [.c (.int .i64 n)]]) := by
 refine acalls mixed Tryz.func126 rfl Tryz.ntmps126 rfl fun E hE hst hho => ?_
 simp (maxSteps := 1000000) [hho, noHo, idxA, -List.reduceReplicate]
 refine Ret.sel [0] (fun _ => false) (ho := by rfl) (ha := by rfl) ?_ ?_ (by decide) (by simp) (fun i _ h => ?_) ⟨?_, rfl⟩
 ·simp
 ·simp
 ·have e : i = 0 := of_decide_eq_true h
  subst e; rfl
 ·rfl
set_option maxHeartbeats 4000000 in
theorem jbstate_w (t : TabS) (b : Bool) (n : Int) (hcl : t.cols.length ≤ 1000000) (hil : t.idxs.length ≤ 1000000) : ACalls Tryz.prog 67 [.fp (tabA t), .c (.bool b), .c (.int .i64 n)] [] (fun _ => false) (fun r h' => r = stA (stOf t b n) ∧ h' = []) := by
 refine acallsC [2] mixed Tryz.func67 rfl Tryz.ntmps67 rfl fun E hE hst hho => ?_
 cases b with
 | true =>
  have hic := ifc_idx t.idxs (fun x : IdxS => decide (x.id = n)) 126 (by simp) [.c (.int .i64 n)] 1 rfl rfl hil fun x _ => jbstate_1_w x n
  rcases ixF_at (fun x : IdxS => decide (x.id = n)) t.idxs with ⟨i, hi, e1, e2⟩ | ⟨e1, e2⟩
  ·rw [e1] at hic
   have hat := idxsA_at t.idxs i hi
   simp (maxSteps := 1000000) [hho, noHo, tabA, -List.reduceReplicate]
   refine call_x [0] (hic) rfl rfl ⟨rfl, rfl⟩ hho (by simp) (by decide) (by simp) (by simp) ?_
   simp (maxSteps := 1000000) [hho, noHo, hi, hat, idxA, -List.reduceReplicate]
   unfold stOf
   rw [if_pos rfl, e2]
   exact Ret.drop (by rfl) ⟨rfl, rfl⟩
  ·rw [e1] at hic
   simp (maxSteps := 1000000) [hho, noHo, tabA, -List.reduceReplicate]
   refine call_x [0] (hic) rfl rfl ⟨rfl, rfl⟩ hho (by simp) (by decide) (by simp) (by simp) ?_
   simp (maxSteps := 1000000) [hho, noHo, -List.reduceReplicate]
   unfold stOf
   rw [if_pos rfl, e2]
   exact Ret.drop (by rfl) ⟨rfl, rfl⟩
 | false =>
  have hic := scColumnId_w t n hcl
  rcases ixF_at (fun x : ColS => decide (x.id = n)) t.cols with ⟨i, hi, e1, e2⟩ | ⟨e1, e2⟩
  ·rw [e1] at hic
   have hat := colsA_at t.cols i hi
   simp (maxSteps := 1000000) [hho, noHo, -List.reduceReplicate]
   refine draw_k hho (.take 0 (.take 1 (.take 2 (.take 3 (.alt 4 (.take 5 (.done)) (.nil)))))) [0] [] (by decide +kernel) (by simp) ?_
   simp (maxSteps := 1000000) [hho, noHo, roOf, holdOf, wrOf, altK, heldOk, Region.binds, -List.reduceReplicate]
   intro E1
   refine call_h [] (hic) rfl rfl ⟨rfl, rfl⟩ (by simp) (by simp) (by decide) (by simp) (by simp) ?_
   simp (maxSteps := 1000000) [hho, noHo, hi, hat, colA, tabA, roOf, holdOf, wrOf, altK, heldOk, Region.binds, -List.reduceReplicate]
   rw [if_neg (by omega)]
   unfold stOf
   rw [if_neg (by decide), e2]
   exact Ret.drop (by rfl) ⟨rfl, rfl⟩
  ·rw [e1] at hic
   simp (maxSteps := 1000000) [hho, noHo, -List.reduceReplicate]
   refine draw_k hho (.take 0 (.take 1 (.take 2 (.take 3 (.alt 4 (.take 5 (.done)) (.nil)))))) [0] [] (by decide +kernel) (by simp) ?_
   simp (maxSteps := 1000000) [hho, noHo, roOf, holdOf, wrOf, altK, heldOk, Region.binds, -List.reduceReplicate]
   intro E1
   refine call_h [] (hic) rfl rfl ⟨rfl, rfl⟩ (by simp) (by simp) (by decide) (by simp) (by simp) ?_
   simp (maxSteps := 1000000) [hho, noHo, tabA, roOf, holdOf, wrOf, altK, heldOk, Region.binds, -List.reduceReplicate]
   unfold stOf
   rw [if_neg (by decide), e2]
   exact Ret.drop (by rfl) ⟨rfl, rfl⟩
end Go.Proofs.YthgoocdldnkogaaGreatDoor
namespace Go.Proofs.YthgoocdldnkogaaGreatDoor
set_option linter.unusedVariables false
set_option linter.unusedSimpArgs false
open Go.RowKit
structure MvS where
 tab : Int
 ofi : Bool
 item : Int
 st : Int
def jvC (m : MvS) : List AV := [.c (.int .i64 m.tab), .c (.bool m.ofi), .c (.int .i64 m.item), .c (.int .i64 m.st)]
def mvsA (l : List MvS) : List AV := l.flatMap jvC
def mvA (l : List MvS) : AV := if l.length = 0 then .c (.slice none 0 0) else .fs 4 l.length (mvsA l)
structure NxS where
 ver : Int
 mv : List MvS
 up : Bool
def nxA (n : NxS) : AV := .agg [.c (.int .i64 n.ver), mvA n.mv, .c (.bool n.up)]
def plA (j : JobS) (t : TabS) : List AV := jobA j ++ [.fp (tabA t)]
def plMove (j : JobS) (st : Int) : MvS := ⟨j.table, ofIdx j.kind, j.item, st⟩
def plPart (j : JobS) (v : Int) (n : NxS) : NxS := if j.full = true then n else ⟨v, [], false⟩
def nx3 : NxS := ⟨3, [], false⟩
def plOther (j : JobS) (t : TabS) : NxS := if stOf t false j.other = some 2 then ⟨0, [⟨j.table, false, j.other, 1⟩], false⟩ else if stOf t false j.other = some 1 then plPart j 2 ⟨0, [⟨j.table, false, j.other, 0⟩], false⟩ else nx3
def plDown (j : JobS) (t : TabS) : NxS := if stOf t (ofIdx j.kind) j.item = some 3 then ⟨0, [plMove j 2], true⟩ else if stOf t (ofIdx j.kind) j.item = some 2 then ⟨0, [plMove j 1], false⟩ else if stOf t (ofIdx j.kind) j.item = some 1 then plPart j 2 ⟨0, [plMove j 0], false⟩ else nx3
def plUp (j : JobS) (t : TabS) : NxS := if stOf t (ofIdx j.kind) j.item = none ∧ j.item = -1 then ⟨0, [], false⟩ else if stOf t (ofIdx j.kind) j.item = some 1 then ⟨0, [plMove j 2], false⟩ else if stOf t (ofIdx j.kind) j.item = some 2 then plPart j 1 ⟨0, plMove j 3 :: (if j.kind = 4 ∧ stOf t false j.other = some 3 then [⟨j.table, false, j.other, 2⟩] else []), true⟩ else if j.kind = 4 ∧ stOf t (ofIdx j.kind) j.item = some 3 then plOther j t else nx3
def jNext (j : JobS) (s : SchS) : NxS := if j.fin = true then nx3 else match jTab j s with
 | none => if j.kind = 5 then ⟨0, [], true⟩ else nx3
 | some t => if j.kind = 5 then nx3 else if j.kind = 1 ∨ j.kind = 3 ∨ j.back = true then plDown j t else plUp j t
theorem mvA_isD (l : List MvS) : isD (mvA l) = true := by
 unfold mvA
 split <;> rfl
@[simp] theorem mvA_isD' (l : List MvS) : isD (mvA l) = true := mvA_isD l
@[simp] theorem mvA_cell (l : List MvS) : isCell (mvA l) = true := by
 unfold mvA
 split
 ·simp [isCell_c, Value.oneCell']
 ·simp [isCell_fs]
theorem part_or (j : JobS) (v : Int) (n : NxS) : plPart j v n = n ∨ plPart j v n = ⟨v, [], false⟩ := by
 unfold plPart
 split
 ·exact .inl rfl
 ·exact .inr rfl
theorem nxA_nil (v : Int) (b : Bool) : nxA ⟨v, [], b⟩ = .agg [.c (.int .i64 v), .c (.slice none 0 0), .c (.bool b)] := rfl
theorem nxA_cons (v : Int) (m : MvS) (l : List MvS) (b : Bool) : nxA ⟨v, m :: l, b⟩ = .agg [.c (.int .i64 v), .fs 4 (m :: l).length (mvsA (m :: l)), .c (.bool b)] := by
 unfold nxA mvA
 rw [if_neg (by simp)]
theorem mvA_one (m : MvS) : mvA [m] = .fs 4 1 (jvC m) := by
 unfold mvA mvsA
 simp
theorem mvA_two (a b : MvS) : mvA [a, b] = .fs 4 2 (jvC a ++ jvC b) := by
 unfold mvA mvsA
 simp
end Go.Proofs.YthgoocdldnkogaaGreatDoor
namespace Go.Proofs.YthgoocdldnkogaaGreatDoor
set_option linter.unusedVariables false
set_option linter.unusedSimpArgs false
open Go.RowKit
attribute [local simp] isCut_nil isCut_region isCut_seq isCut_block isCut_loop isCut_cond isCut_skip isCut_exit isCut_ret isCut_range swapK putK altK condK_bool pickP_bool stepP stepO onPure_some onPure_none onImpl_some onImpl_none stepC onGP_some onGP_none onGV_some condG mkG onIt_it nextP_ptr takeP_eq takeV_some takeV_none takeU_some takeU_none takeQ takeW_some takeN_none takeN_some takeG_some takeO_some altO_some pureV binV2 eqF eqOp ovlV ovl2 rowAt capV binV intBin strBin isSh shV fldV ixV sliceV slice3V loadAV nilV lenV callV unV convV viewS cellsH loadV fldCut AV.ung AV.ungs AV.gc AV.cells AS.ev AS.put anyS gcsV gcO lens lnO gV guardV retK RetP_eq resV oneV anyRo loIx hiIx implO callP_clo evL gcsL clearV storeAV AS.push AS.setO appV appZ shortS copyV buildV partsV fillV srcV fzO okV isCell_c isCell_ptr isCell_sl isCell_fs isCell_fp isCell_clo rowZ_one rowZ_zero rowZ_2 rowZ_3 rowZ_4 rowZ_5 rowZ_6 rowZ_7 rowZ_8 rowZ_9 rowZ_10 rowZ_11 rowZ_12 noHo Value.oneCell' max2V min2V lookV updV updK updW cvals mkAt basV lenM msAt afterH putBack frzFrom frzO rebO backIx nilEq_sl nilEq_fs nilEq_ifn nilEq_ifh ifOp_eql ifOp_neq isLit nilOp_eql nilOp_neq AV.reb AV.rebL
attribute [local simp ↓] runK_skip runK_region runK_draw runK_seq runK_cut runK_cond runK_block runK_loop runK_exit runK_label runK_goto runK_ret runK_range contK_nil contK_seq contK_seq_ret contK_seq_exit contK_seq_goto contK_block contK_block_ret contK_block_goto contK_block_exit runO_nil runO_cons roundK_exit roundK_ret roundK_goto exitK_ret cutK_ret cutK_exit runE_done runE_nil runE_take runE_alt condG_true condG_false
set_option maxRecDepth 10000
theorem jbclimb_w (b : Bool) (l : List MvS) : ACalls Tryz.prog 64 [.c (.bool b), mvA l] [] (fun _ => false) (fun r h' => r = nxA ⟨0, l, b⟩ ∧ h' = []) := by
 refine acalls mixed Tryz.func64 rfl Tryz.ntmps64 rfl fun E hE hst hho => ?_
 unfold nxA mvA
 by_cases h : l.length = 0
 ·rw [if_pos h]
  simp (maxSteps := 1000000) [hho, noHo, -List.reduceReplicate]
  exact Ret.drop (by rfl) ⟨rfl, rfl⟩
 ·rw [if_neg h]
  simp (maxSteps := 1000000) [hho, noHo, -List.reduceReplicate]
  exact Ret.sel [] (fun _ => false) (ho := by rfl) (ha := by rfl) (by simp) (by simp) (by decide) (by simp) (fun i _ h => by cases h) ⟨rfl, rfl⟩
theorem plmove_w (j : JobS) (t : TabS) (st : Int) : ACalls Tryz.prog 123 [.agg (plA j t), .c (.int .i64 st)] [] (fun _ => false) (fun r h' => r = .agg (jvC (plMove j st)) ∧ h' = []) := by
 refine acalls mixed Tryz.func123 rfl Tryz.ntmps123 rfl fun E hE hst hho => ?_
 have c1 := jbofIndex_w j.kind
 simp (maxSteps := 1000000) [hho, noHo, plA, jobA, -List.reduceReplicate]
 refine draw_k hho (.take 0 (.take 1 (.take 2 (.take 3 (.take 4 (.take 5 (.take 7 (.take 8 (.take 9 (.take 10 (.alt 6 (.take 11 (.alt 12 (.done) (.nil))) (.nil)))))))))))) [0] [(12, [1])] (by decide +kernel) (by simp) ?_
 simp (maxSteps := 1000000) [hho, noHo, roOf, holdOf, wrOf, altK, heldOk, Region.binds, -List.reduceReplicate]
 intro E1
 refine call_h [] (c1) rfl rfl ⟨rfl, rfl⟩ (by simp) (by simp) (by decide) (by simp) (by simp) ?_
 simp (maxSteps := 1000000) [hho, noHo, roOf, holdOf, wrOf, altK, heldOk, Region.binds, -List.reduceReplicate]
 intros
 exact Ret.drop (by rfl) ⟨rfl, rfl⟩
theorem plpart_w (j : JobS) (t : TabS) (v : Int) (n : NxS) : ACalls Tryz.prog 124 [.agg (plA j t), .c (.int .i64 v), nxA n] [] (fun _ => false) (fun r h' => r = nxA (plPart j v n) ∧ h' = []) := by
 refine acalls mixed Tryz.func124 rfl Tryz.ntmps124 rfl fun E hE hst hho => ?_
 unfold plPart
 cases hf : j.full with
 | false =>
  unfold nxA mvA
  by_cases h : n.mv.length = 0
  ·rw [if_pos h]
   simp (maxSteps := 1000000) [hho, noHo, plA, jobA, hf, -List.reduceReplicate]
   exact Ret.drop (by rfl) ⟨rfl, rfl⟩
  ·rw [if_neg h]
   simp (maxSteps := 1000000) [hho, noHo, plA, jobA, hf, -List.reduceReplicate]
   exact Ret.drop (by rfl) ⟨rfl, rfl⟩
 | true =>
  unfold nxA mvA
  by_cases h : n.mv.length = 0
  ·rw [if_pos h]
   simp (maxSteps := 1000000) [hho, noHo, plA, jobA, hf, -List.reduceReplicate]
   exact Ret.drop (by rfl) ⟨by simp_all, rfl⟩
  ·rw [if_neg h]
   simp (maxSteps := 1000000) [hho, noHo, plA, jobA, hf, -List.reduceReplicate]
   exact Ret.sel [] (fun _ => false) (ho := by rfl) (ha := by rfl) (by simp) (by simp) (by decide) (by simp) (fun i _ h => by cases h) ⟨by simp_all, rfl⟩
theorem climb_one (b : Bool) (m : MvS) : ACalls Tryz.prog 64 [.c (.bool b), .fs 4 1 (jvC m)] [] (fun _ => false) (fun r h' => r = .agg [.c (.int .i64 0), .fs 4 1 (jvC m), .c (.bool b)] ∧ h' = []) := by
 have h := jbclimb_w b [m]
 unfold nxA at h
 rw [mvA_one] at h
 exact h
theorem climb_two (b : Bool) (m n : MvS) : ACalls Tryz.prog 64 [.c (.bool b), .fs 4 2 (jvC m ++ jvC n)] [] (fun _ => false) (fun r h' => r = .agg [.c (.int .i64 0), .fs 4 2 (jvC m ++ jvC n), .c (.bool b)] ∧ h' = []) := by
 have h := jbclimb_w b [m, n]
 unfold nxA at h
 rw [mvA_two] at h
 exact h
theorem climb_nil (b : Bool) : ACalls Tryz.prog 64 [.c (.bool b), .c (.slice none 0 0)] [] (fun _ => false) (fun r h' => r = .agg [.c (.int .i64 0), .c (.slice none 0 0), .c (.bool b)] ∧ h' = []) := jbclimb_w b []
theorem part_one (j : JobS) (t : TabS) (v : Int) (b : Bool) (m : MvS) : ACalls Tryz.prog 124 [.agg (plA j t), .c (.int .i64 v), .agg [.c (.int .i64 0), .fs 4 1 (jvC m), .c (.bool b)]] [] (fun _ => false) (fun r h' => r = nxA (plPart j v ⟨0, [m], b⟩) ∧ h' = []) := by
 have h := plpart_w j t v ⟨0, [m], b⟩
 unfold nxA at h
 simp only [mvA_one] at h
 exact h
theorem part_two (j : JobS) (t : TabS) (v : Int) (b : Bool) (m n : MvS) : ACalls Tryz.prog 124 [.agg (plA j t), .c (.int .i64 v), .agg [.c (.int .i64 0), .fs 4 2 (jvC m ++ jvC n), .c (.bool b)]] [] (fun _ => false) (fun r h' => r = nxA (plPart j v ⟨0, [m, n], b⟩) ∧ h' = []) := by
 have h := plpart_w j t v ⟨0, [m, n], b⟩
 unfold nxA at h
 simp only [mvA_two] at h
 exact h
set_option maxHeartbeats 4000000 in
theorem plother_w (j : JobS) (t : TabS) (hcl : t.cols.length ≤ 1000000) (hil : t.idxs.length ≤ 1000000) : ACalls Tryz.prog 125 [.agg (plA j t)] [] (fun _ => false) (fun r h' => r = nxA (plOther j t) ∧ h' = []) := by
 refine acalls mixed Tryz.func125 rfl Tryz.ntmps125 rfl fun E hE hst hho => ?_
 have c1 := jbstate_w t false j.other hcl hil
 unfold plOther
 obtain ⟨o, ho⟩ : ∃ o, o = stOf t false j.other := ⟨_, rfl⟩
 rw [← ho] at c1 ⊢
 simp (maxSteps := 1000000) [hho, noHo, plA, jobA, -List.reduceReplicate]
 have c2 := climb_one false ⟨j.table, false, j.other, IntKind.i64.wrap (o.getD 0 - 1)⟩
 simp only [jvC] at c2
 refine call_0 (c1) rfl rfl hho (by simp) ?_
 simp (maxSteps := 1000000) [hho, noHo, stA, -List.reduceReplicate]
 refine call_f [] (fun k => k == 2) (c2) rfl rfl ⟨rfl, rfl⟩ hho (by simp) (by decide) (by simp) (by simp [isD_c, maxLen]) (by simp) ?_
 cases o with
 | none =>
  simp (maxSteps := 1000000) [hho, noHo, undef, onGP_none, condG_false, -List.reduceReplicate]
  exact Ret.drop (by rfl) ⟨rfl, rfl⟩
 | some v =>
  by_cases h2 : v = 2
  ·subst h2
   simp (maxSteps := 1000000) [hho, noHo, undef, onGP_none, condG_false, -List.reduceReplicate]
   exact Ret.sel [] (fun _ => false) (ho := by rfl) (ha := by rfl) (by simp) (by simp) (by decide) (by simp) (fun i _ h => by cases h) ⟨rfl, rfl⟩
  by_cases h1 : v = 1
  ·subst h1
   have c3 := part_one j t 2 false ⟨j.table, false, j.other, 0⟩
   simp only [jvC, plA, jobA] at c3
   simp (maxSteps := 1000000) [hho, noHo, undef, onGP_none, condG_false, -List.reduceReplicate]
   rcases part_or j 2 ⟨0, [⟨j.table, false, j.other, 0⟩], false⟩ with hp | hp
   all_goals
    rw [hp] at c3 ⊢
    unfold nxA at c3
    simp only [mvA_one] at c3
    refine call_0 (c3) rfl rfl hho (by simp) ?_
    simp (maxSteps := 1000000) [hho, noHo, mvA, jvC, undef, onGP_none, condG_false, -List.reduceReplicate]
    exact Ret.sel [] (fun _ => false) (ho := by rfl) (ha := by rfl) (by simp) (by simp) (by decide) (by simp) (fun i _ h => by cases h) ⟨rfl, rfl⟩
  simp (maxSteps := 1000000) [hho, noHo, h1, h2, undef, onGP_none, condG_false, -List.reduceReplicate]
  exact Ret.drop (by rfl) ⟨rfl, rfl⟩
set_option maxHeartbeats 4000000 in
theorem pldown_w (j : JobS) (t : TabS) (hcl : t.cols.length ≤ 1000000) (hil : t.idxs.length ≤ 1000000) : ACalls Tryz.prog 65 [.agg (plA j t)] [] (fun _ => false) (fun r h' => r = nxA (plDown j t) ∧ h' = []) := by
 refine acalls mixed Tryz.func65 rfl Tryz.ntmps65 rfl fun E hE hst hho => ?_
 have c0 := jbofIndex_w j.kind
 have c1 := jbstate_w t (ofIdx j.kind) j.item hcl hil
 unfold plDown
 obtain ⟨o, ho⟩ : ∃ o, o = stOf t (ofIdx j.kind) j.item := ⟨_, rfl⟩
 rw [← ho] at c1 ⊢
 simp (maxSteps := 1000000) [hho, noHo, plA, jobA, -List.reduceReplicate]
 refine draw_k hho (.take 0 (.take 1 (.take 2 (.take 3 (.take 4 (.take 6 (.take 7 (.take 8 (.alt 5 (.alt 9 (.take 10 (.take 11 (.take 12 (.take 13 (.take 14 (.done)))))) (.nil)) (.nil)))))))))) [0] [] (by decide +kernel) (by simp) ?_
 simp (maxSteps := 1000000) [hho, noHo, roOf, holdOf, wrOf, altK, heldOk, Region.binds, -List.reduceReplicate]
 intros
 refine call_h [] (c0) rfl rfl ⟨rfl, rfl⟩ (by simp) (by simp) (by decide) (by simp) (by simp) ?_
 simp (maxSteps := 1000000) [hho, noHo, roOf, holdOf, wrOf, altK, heldOk, Region.binds, -List.reduceReplicate]
 intros
 refine call_h [] (c1) rfl rfl ⟨rfl, rfl⟩ (by simp) (by simp) (by decide) (by simp) (by simp) ?_
 have m2 := plmove_w j t 2
 have m1 := plmove_w j t 1
 have m0 := plmove_w j t 0
 simp only [plA, jobA] at m2 m1 m0
 cases o with
 | none =>
  simp (maxSteps := 1000000) [hho, noHo, stA, undef, onGP_none, condG_false, roOf, holdOf, wrOf, altK, heldOk, Region.binds, -List.reduceReplicate]
  exact Ret.drop (by rfl) ⟨rfl, rfl⟩
 | some v =>
  by_cases h3 : v = 3
  ·subst h3
   have c2 := climb_one true (plMove j 2)
   simp (maxSteps := 1000000) [hho, noHo, stA, undef, onGP_none, condG_false, roOf, holdOf, wrOf, altK, heldOk, Region.binds, -List.reduceReplicate]
   refine call_0 (m2) rfl rfl hho (by simp) ?_
   simp (maxSteps := 1000000) [hho, noHo, jvC, undef, onGP_none, condG_false, -List.reduceReplicate]
   refine call_f [] (fun k => k == 2) (c2) rfl rfl ⟨rfl, rfl⟩ hho (by simp) (by decide) (by simp) (by simp [isD_c, maxLen]) (by simp) ?_
   simp (maxSteps := 1000000) [hho, noHo, jvC, undef, onGP_none, condG_false, -List.reduceReplicate]
   exact Ret.sel [] (fun _ => false) (ho := by rfl) (ha := by rfl) (by simp) (by simp) (by decide) (by simp) (fun i _ h => by cases h) ⟨rfl, rfl⟩
  by_cases h2 : v = 2
  ·subst h2
   have c2 := climb_one false (plMove j 1)
   simp (maxSteps := 1000000) [hho, noHo, stA, undef, onGP_none, condG_false, roOf, holdOf, wrOf, altK, heldOk, Region.binds, -List.reduceReplicate]
   refine call_0 (m1) rfl rfl hho (by simp) ?_
   simp (maxSteps := 1000000) [hho, noHo, jvC, undef, onGP_none, condG_false, -List.reduceReplicate]
   refine call_f [] (fun k => k == 2) (c2) rfl rfl ⟨rfl, rfl⟩ hho (by simp) (by decide) (by simp) (by simp [isD_c, maxLen]) (by simp) ?_
   simp (maxSteps := 1000000) [hho, noHo, jvC, undef, onGP_none, condG_false, -List.reduceReplicate]
   exact Ret.sel [] (fun _ => false) (ho := by rfl) (ha := by rfl) (by simp) (by simp) (by decide) (by simp) (fun i _ h => by cases h) ⟨rfl, rfl⟩
  by_cases h1 : v = 1
  ·subst h1
   have c2 := climb_one false (plMove j 0)
   have c3 := part_one j t 2 false (plMove j 0)
   simp only [jvC, plA, jobA] at c2 c3
   simp (maxSteps := 1000000) [hho, noHo, stA, undef, onGP_none, condG_false, roOf, holdOf, wrOf, altK, heldOk, Region.binds, -List.reduceReplicate]
   refine draw_k hho (.take 0 (.take 1 (.alt 2 (.alt 3 (.alt 4 (.alt 5 (.alt 6 (.done) (.nil)) (.nil)) (.nil)) (.nil)) (.nil)))) [0] [(6, [1])] (by decide +kernel) (by simp) ?_
   simp (maxSteps := 1000000) [hho, noHo, roOf, holdOf, wrOf, altK, heldOk, Region.binds, -List.reduceReplicate]
   intros
   refine call_h [] (m0) rfl rfl ⟨rfl, rfl⟩ (by simp) (by simp) (by decide) (by simp) (by simp) ?_
   simp (maxSteps := 1000000) [hho, noHo, jvC, roOf, holdOf, wrOf, altK, heldOk, Region.binds, -List.reduceReplicate]
   intros
   refine call_hd [] (fun k => decide (2 ≤ k)) (c2) rfl rfl ⟨rfl, rfl⟩ (by simp) (fun k hk => by have := of_decide_eq_true hk; simp; omega) (by simp) (by decide) (by simp) (by simp [isD_c, maxLen]) (by simp) ?_
   simp (maxSteps := 1000000) [hho, noHo, jvC, roOf, holdOf, wrOf, altK, heldOk, Region.binds, -List.reduceReplicate]
   intros
   rcases part_or j 2 ⟨0, [plMove j 0], false⟩ with hp | hp
   all_goals
    rw [hp] at c3 ⊢
    unfold nxA at c3
    simp only [mvA_one] at c3
    refine call_h [] (c3) rfl rfl ⟨rfl, rfl⟩ (by simp) (by simp) (by decide) (by simp) (by simp) ?_
    simp (maxSteps := 1000000) [hho, noHo, mvA, jvC, roOf, holdOf, wrOf, altK, heldOk, Region.binds, -List.reduceReplicate]
    intros
    exact Ret.sel [] (fun _ => false) (ho := by rfl) (ha := by rfl) (by simp) (by simp) (by decide) (by simp) (fun i _ h => by cases h) ⟨rfl, rfl⟩
  simp (maxSteps := 1000000) [hho, noHo, stA, undef, onGP_none, condG_false, h1, h2, h3, roOf, holdOf, wrOf, altK, heldOk, Region.binds, -List.reduceReplicate]
  exact Ret.drop (by rfl) ⟨rfl, rfl⟩
set_option maxHeartbeats 8000000 in
theorem plup_w (j : JobS) (t : TabS) (hcl : t.cols.length ≤ 1000000) (hil : t.idxs.length ≤ 1000000) : ACalls Tryz.prog 66 [.agg (plA j t)] [] (fun _ => false) (fun r h' => r = nxA (plUp j t) ∧ h' = []) := by
 refine acalls mixed Tryz.func66 rfl Tryz.ntmps66 rfl fun E hE hst hho => ?_
 have c0 := jbofIndex_w j.kind
 have c1 := jbstate_w t (ofIdx j.kind) j.item hcl hil
 have c9 := jbstate_w t false j.other hcl hil
 unfold plUp
 obtain ⟨o, ho⟩ : ∃ o, o = stOf t (ofIdx j.kind) j.item := ⟨_, rfl⟩
 obtain ⟨q, hq⟩ : ∃ q, q = stOf t false j.other := ⟨_, rfl⟩
 rw [← ho] at c1 ⊢
 rw [← hq] at c9 ⊢
 simp (maxSteps := 1000000) [hho, noHo, plA, jobA, -List.reduceReplicate]
 refine draw_k hho (.take 0 (.take 1 (.take 2 (.take 3 (.take 4 (.take 6 (.take 7 (.take 8 (.alt 5 (.alt 9 (.take 10 (.take 11 (.take 12 (.take 13 (.take 14 (.done)))))) (.nil)) (.nil)))))))))) [0] [] (by decide +kernel) (by simp) ?_
 simp (maxSteps := 1000000) [hho, noHo, roOf, holdOf, wrOf, altK, heldOk, Region.binds, -List.reduceReplicate]
 intros
 refine call_h [] (c0) rfl rfl ⟨rfl, rfl⟩ (by simp) (by simp) (by decide) (by simp) (by simp) ?_
 simp (maxSteps := 1000000) [hho, noHo, roOf, holdOf, wrOf, altK, heldOk, Region.binds, -List.reduceReplicate]
 intros
 refine call_h [] (c1) rfl rfl ⟨rfl, rfl⟩ (by simp) (by simp) (by decide) (by simp) (by simp) ?_
 have m2 := plmove_w j t 2
 have m3 := plmove_w j t 3
 simp only [plA, jobA] at m2 m3
 rcases o with _ | v
 ·by_cases hi : j.item = -1
  ·simp (maxSteps := 1000000) [hho, noHo, stA, undef, onGP_none, condG_false, hi, roOf, holdOf, wrOf, altK, heldOk, Region.binds, -List.reduceReplicate]
   refine call_0 (climb_nil false) rfl rfl hho (by simp) ?_
   simp (maxSteps := 1000000) [hho, noHo, undef, onGP_none, condG_false, -List.reduceReplicate]
   exact Ret.drop (by rfl) ⟨rfl, rfl⟩
  ·by_cases h4 : j.kind = 4
   ·simp (maxSteps := 1000000) [hho, noHo, stA, undef, onGP_none, condG_false, hi, h4, roOf, holdOf, wrOf, altK, heldOk, Region.binds, -List.reduceReplicate]
    exact Ret.drop (by rfl) ⟨rfl, rfl⟩
   ·simp (maxSteps := 1000000) [hho, noHo, stA, undef, onGP_none, condG_false, hi, h4, roOf, holdOf, wrOf, altK, heldOk, Region.binds, -List.reduceReplicate]
    exact Ret.drop (by rfl) ⟨rfl, rfl⟩
 by_cases h1 : v = 1
 ·subst h1
  have c2 := climb_one false (plMove j 2)
  simp (maxSteps := 1000000) [hho, noHo, stA, undef, onGP_none, condG_false, roOf, holdOf, wrOf, altK, heldOk, Region.binds, -List.reduceReplicate]
  refine call_0 (m2) rfl rfl hho (by simp) ?_
  simp (maxSteps := 1000000) [hho, noHo, jvC, undef, onGP_none, condG_false, -List.reduceReplicate]
  refine call_f [] (fun k => k == 2) (c2) rfl rfl ⟨rfl, rfl⟩ hho (by simp) (by decide) (by simp) (by simp [isD_c, maxLen]) (by simp) ?_
  simp (maxSteps := 1000000) [hho, noHo, jvC, undef, onGP_none, condG_false, -List.reduceReplicate]
  exact Ret.sel [] (fun _ => false) (ho := by rfl) (ha := by rfl) (by simp) (by simp) (by decide) (by simp) (fun i _ h => by cases h) ⟨rfl, rfl⟩
 by_cases h2 : v = 2
 ·subst h2
  by_cases hk : j.kind = 4 ∧ q = some 3
  ·obtain ⟨h4, rfl⟩ := hk
   have c2 := climb_two true (plMove j 3) ⟨j.table, false, j.other, 2⟩
   have c3 := part_two j t 1 true (plMove j 3) ⟨j.table, false, j.other, 2⟩
   simp only [jvC, plA, jobA, List.cons_append, List.nil_append] at c2 c3
   rw [h4] at c3
   simp (maxSteps := 1000000) [hho, noHo, stA, undef, onGP_none, condG_false, roOf, holdOf, wrOf, altK, heldOk, Region.binds, -List.reduceReplicate]
   refine call_0 (m3) rfl rfl hho (by simp) ?_
   simp (maxSteps := 1000000) [hho, noHo, jvC, undef, onGP_none, condG_false, -List.reduceReplicate]
   refine call_0 (c9) rfl rfl hho (by simp) ?_
   simp (maxSteps := 1000000) [hho, noHo, stA, h4, undef, onGP_none, condG_false, -List.reduceReplicate]
   refine draw_k hho (.take 0 (.take 1 (.alt 2 (.alt 3 (.alt 4 (.done) (.nil)) (.nil)) (.nil)))) [0] [(4, [1])] (by decide +kernel) (by simp) ?_
   simp (maxSteps := 1000000) [hho, noHo, roOf, holdOf, wrOf, altK, heldOk, Region.binds, -List.reduceReplicate]
   intros
   refine call_hd [] (fun k => decide (2 ≤ k)) (c2) rfl rfl ⟨rfl, rfl⟩ (by simp) (fun k hk => by have := of_decide_eq_true hk; simp; omega) (by simp) (by decide) (by simp) (by simp [isD_c, maxLen]) (by simp) ?_
   simp (maxSteps := 1000000) [hho, noHo, roOf, holdOf, wrOf, altK, heldOk, Region.binds, -List.reduceReplicate]
   intros
   rcases part_or j 1 ⟨0, [plMove j 3, ⟨j.table, false, j.other, 2⟩], true⟩ with hp | hp
   all_goals
    rw [hp] at c3 ⊢
    unfold nxA at c3
    simp only [mvA_two] at c3
    refine call_h [] (c3) rfl rfl ⟨rfl, rfl⟩ (by simp) (by simp) (by decide) (by simp) (by simp) ?_
    simp (maxSteps := 1000000) [hho, noHo, mvA, mvsA, jvC, roOf, holdOf, wrOf, altK, heldOk, Region.binds, -List.reduceReplicate]
    intros
    exact Ret.sel [] (fun _ => false) (ho := by rfl) (ha := by rfl) (by simp) (by simp) (by decide) (by simp) (fun i _ h => by cases h) ⟨rfl, rfl⟩
  have c2 := climb_one true (plMove j 3)
  have c3 := part_one j t 1 true (plMove j 3)
  simp only [jvC, plA, jobA, List.cons_append, List.nil_append] at c2 c3
  by_cases h4 : j.kind = 4
  ·rw [h4] at c3
   rcases q with _ | w
   ·simp (maxSteps := 1000000) [hho, noHo, stA, undef, onGP_none, condG_false, roOf, holdOf, wrOf, altK, heldOk, Region.binds, -List.reduceReplicate]
    refine call_0 (m3) rfl rfl hho (by simp) ?_
    simp (maxSteps := 1000000) [hho, noHo, jvC, undef, onGP_none, condG_false, -List.reduceReplicate]
    refine call_0 (c9) rfl rfl hho (by simp) ?_
    simp (maxSteps := 1000000) [hho, noHo, stA, h4, undef, onGP_none, condG_false, -List.reduceReplicate]
    refine draw_k hho (.take 0 (.take 1 (.alt 2 (.alt 3 (.alt 4 (.done) (.nil)) (.nil)) (.nil)))) [0] [(4, [1])] (by decide +kernel) (by simp) ?_
    simp (maxSteps := 1000000) [hho, noHo, roOf, holdOf, wrOf, altK, heldOk, Region.binds, -List.reduceReplicate]
    intros
    refine call_hd [] (fun k => decide (2 ≤ k)) (c2) rfl rfl ⟨rfl, rfl⟩ (by simp) (fun k hk => by have := of_decide_eq_true hk; simp; omega) (by simp) (by decide) (by simp) (by simp [isD_c, maxLen]) (by simp) ?_
    simp (maxSteps := 1000000) [hho, noHo, roOf, holdOf, wrOf, altK, heldOk, Region.binds, -List.reduceReplicate]
    intros
    rcases part_or j 1 ⟨0, [plMove j 3], true⟩ with hp | hp
    all_goals
     rw [hp] at c3 ⊢
     unfold nxA at c3
     simp only [mvA_one] at c3
     refine call_h [] (c3) rfl rfl ⟨rfl, rfl⟩ (by simp) (by simp) (by decide) (by simp) (by simp) ?_
     simp (maxSteps := 1000000) [hho, noHo, mvA, mvsA, jvC, roOf, holdOf, wrOf, altK, heldOk, Region.binds, -List.reduceReplicate]
     intros
     exact Ret.sel [] (fun _ => false) (ho := by rfl) (ha := by rfl) (by simp) (by simp) (by decide) (by simp) (fun i _ h => by cases h) ⟨rfl, rfl⟩
   ·have hw : ¬ w = 3 := fun h => hk ⟨h4, by rw [h]⟩
    simp (maxSteps := 1000000) [hho, noHo, stA, undef, onGP_none, condG_false, roOf, holdOf, wrOf, altK, heldOk, Region.binds, -List.reduceReplicate]
    refine call_0 (m3) rfl rfl hho (by simp) ?_
    simp (maxSteps := 1000000) [hho, noHo, jvC, undef, onGP_none, condG_false, -List.reduceReplicate]
    refine call_0 (c9) rfl rfl hho (by simp) ?_
    simp (maxSteps := 1000000) [hho, noHo, stA, h4, hw, undef, onGP_none, condG_false, -List.reduceReplicate]
    refine draw_k hho (.take 0 (.take 1 (.alt 2 (.alt 3 (.alt 4 (.done) (.nil)) (.nil)) (.nil)))) [0] [(4, [1])] (by decide +kernel) (by simp) ?_
    simp (maxSteps := 1000000) [hho, noHo, roOf, holdOf, wrOf, altK, heldOk, Region.binds, -List.reduceReplicate]
    intros
    refine call_hd [] (fun k => decide (2 ≤ k)) (c2) rfl rfl ⟨rfl, rfl⟩ (by simp) (fun k hk => by have := of_decide_eq_true hk; simp; omega) (by simp) (by decide) (by simp) (by simp [isD_c, maxLen]) (by simp) ?_
    simp (maxSteps := 1000000) [hho, noHo, roOf, holdOf, wrOf, altK, heldOk, Region.binds, -List.reduceReplicate]
    intros
    rcases part_or j 1 ⟨0, [plMove j 3], true⟩ with hp | hp
    all_goals
     rw [hp] at c3 ⊢
     unfold nxA at c3
     simp only [mvA_one] at c3
     refine call_h [] (c3) rfl rfl ⟨rfl, rfl⟩ (by simp) (by simp) (by decide) (by simp) (by simp) ?_
     simp (maxSteps := 1000000) [hho, noHo, mvA, mvsA, jvC, roOf, holdOf, wrOf, altK, heldOk, Region.binds, -List.reduceReplicate]
     intros
     exact Ret.sel [] (fun _ => false) (ho := by rfl) (ha := by rfl) (by simp) (by simp) (by decide) (by simp) (fun i _ h => by cases h) ⟨rfl, rfl⟩
  ·simp (maxSteps := 1000000) [hho, noHo, stA, undef, onGP_none, condG_false, roOf, holdOf, wrOf, altK, heldOk, Region.binds, -List.reduceReplicate]
   refine call_0 (m3) rfl rfl hho (by simp) ?_
   simp (maxSteps := 1000000) [hho, noHo, jvC, undef, onGP_none, condG_false, -List.reduceReplicate]
   refine call_0 (c9) rfl rfl hho (by simp) ?_
   simp (maxSteps := 1000000) [hho, noHo, stA, h4, undef, onGP_none, condG_false, -List.reduceReplicate]
   refine draw_k hho (.take 0 (.take 1 (.alt 2 (.alt 3 (.alt 4 (.done) (.nil)) (.nil)) (.nil)))) [0] [(4, [1])] (by decide +kernel) (by simp) ?_
   simp (maxSteps := 1000000) [hho, noHo, roOf, holdOf, wrOf, altK, heldOk, Region.binds, -List.reduceReplicate]
   intros
   refine call_hd [] (fun k => decide (2 ≤ k)) (c2) rfl rfl ⟨rfl, rfl⟩ (by simp) (fun k hk => by have := of_decide_eq_true hk; simp; omega) (by simp) (by decide) (by simp) (by simp [isD_c, maxLen]) (by simp) ?_
   simp (maxSteps := 1000000) [hho, noHo, roOf, holdOf, wrOf, altK, heldOk, Region.binds, -List.reduceReplicate]
   intros
   rcases part_or j 1 ⟨0, [plMove j 3], true⟩ with hp | hp
   all_goals
    rw [hp] at c3 ⊢
    unfold nxA at c3
    simp only [mvA_one] at c3
    refine call_h [] (c3) rfl rfl ⟨rfl, rfl⟩ (by simp) (by simp) (by decide) (by simp) (by simp) ?_
    simp (maxSteps := 1000000) [hho, noHo, mvA, mvsA, jvC, roOf, holdOf, wrOf, altK, heldOk, Region.binds, -List.reduceReplicate]
    intros
    exact Ret.sel [] (fun _ => false) (ho := by rfl) (ha := by rfl) (by simp) (by simp) (by decide) (by simp) (fun i _ h => by cases h) ⟨rfl, rfl⟩
 by_cases h3 : v = 3
 ·subst h3
  by_cases h4 : j.kind = 4
  ·have c5 := plother_w j t hcl hil
   obtain ⟨n, hn⟩ : ∃ n, n = plOther j t := ⟨_, rfl⟩
   have e5 : (if some (3 : Int) = none ∧ j.item = -1 then (⟨0, [], false⟩ : NxS) else if some (3 : Int) = some 1 then ⟨0, [plMove j 2], false⟩ else if some (3 : Int) = some 2 then plPart j 1 ⟨0, plMove j 3 :: (if j.kind = 4 ∧ q = some 3 then [⟨j.table, false, j.other, 2⟩] else []), true⟩ else if j.kind = 4 ∧ some (3 : Int) = some 3 then plOther j t else nx3) = plOther j t := by simp [h4]
   rw [e5]
   rw [← hn] at c5 ⊢
   simp only [plA, jobA, List.cons_append, List.nil_append] at c5
   rw [h4] at c5
   obtain ⟨nv, nm, nb⟩ := n
   rcases nm with _ | ⟨m, l⟩
   ·rw [nxA_nil] at c5 ⊢
    simp (maxSteps := 1000000) [hho, noHo, stA, undef, onGP_none, condG_false, h4, roOf, holdOf, wrOf, altK, heldOk, Region.binds, -List.reduceReplicate]
    refine call_0 (c5) rfl rfl hho (by simp) ?_
    simp (maxSteps := 1000000) [hho, noHo, undef, onGP_none, condG_false, -List.reduceReplicate]
    exact Ret.drop (by rfl) ⟨rfl, rfl⟩
   ·rw [nxA_cons] at c5 ⊢
    simp (maxSteps := 1000000) [hho, noHo, stA, undef, onGP_none, condG_false, h4, roOf, holdOf, wrOf, altK, heldOk, Region.binds, -List.reduceReplicate]
    refine call_0 (c5) rfl rfl hho (by simp) ?_
    simp (maxSteps := 1000000) [hho, noHo, undef, onGP_none, condG_false, -List.reduceReplicate]
    exact Ret.sel [] (fun _ => false) (ho := by rfl) (ha := by rfl) (by simp) (by simp) (by decide) (by simp) (fun i _ h => by cases h) ⟨rfl, rfl⟩
  ·simp (maxSteps := 1000000) [hho, noHo, stA, undef, onGP_none, condG_false, h4, roOf, holdOf, wrOf, altK, heldOk, Region.binds, -List.reduceReplicate]
   exact Ret.drop (by rfl) ⟨rfl, rfl⟩
 by_cases h4 : j.kind = 4
 ·simp (maxSteps := 1000000) [hho, noHo, stA, undef, onGP_none, condG_false, h1, h2, h3, h4, roOf, holdOf, wrOf, altK, heldOk, Region.binds, -List.reduceReplicate]
  exact Ret.drop (by rfl) ⟨rfl, rfl⟩
 ·simp (maxSteps := 1000000) [hho, noHo, stA, undef, onGP_none, condG_false, h1, h2, h3, h4, roOf, holdOf, wrOf, altK, heldOk, Region.binds, -List.reduceReplicate]
  exact Ret.drop (by rfl) ⟨rfl, rfl⟩
set_option maxHeartbeats 8000000 in
theorem jbNext_w (j : JobS) (s : SchS) (hl : s.tabs.length ≤ 1000000) (hb : ∀ t ∈ s.tabs, t.cols.length ≤ 1000000 ∧ t.idxs.length ≤ 1000000) : ACalls Tryz.prog 29 [.agg (jobA j), .agg (schA s)] [] (fun _ => false) (fun r h' => r = nxA (jNext j s) ∧ h' = []) := by
 refine acalls mixed Tryz.func29 rfl Tryz.ntmps29 rfl fun E hE hst hho => ?_
 have c1 := jbtable_w j s hl
 have hmem : ∀ t, jTab j s = some t → t ∈ s.tabs := fun t h => List.mem_of_find?_eq_some h
 unfold jNext
 obtain ⟨o, ho⟩ : ∃ o, o = jTab j s := ⟨_, rfl⟩
 rw [← ho] at c1 hmem ⊢
 clear ho
 rcases o with _ | t
 ·cases hf : j.fin with
  | true =>
   simp (maxSteps := 1000000) [hho, noHo, jobA, schA, -List.reduceReplicate]
   refine call_0 (c1) rfl rfl hho (by simp) ?_
   simp (maxSteps := 1000000) [hho, noHo, tpA, hf, undef, onGP_none, condG_false, -List.reduceReplicate]
   exact Ret.drop (by rfl) ⟨rfl, rfl⟩
  | false =>
   by_cases h5 : j.kind = 5
   ·simp (maxSteps := 1000000) [hho, noHo, jobA, schA, -List.reduceReplicate]
    refine call_0 (c1) rfl rfl hho (by simp) ?_
    simp (maxSteps := 1000000) [hho, noHo, tpA, hf, h5, undef, onGP_none, condG_false, -List.reduceReplicate]
    refine call_0 (climb_nil true) rfl rfl hho (by simp) ?_
    simp (maxSteps := 1000000) [hho, noHo, undef, onGP_none, condG_false, -List.reduceReplicate]
    exact Ret.drop (by rfl) ⟨rfl, rfl⟩
   ·simp (maxSteps := 1000000) [hho, noHo, jobA, schA, -List.reduceReplicate]
    refine call_0 (c1) rfl rfl hho (by simp) ?_
    simp (maxSteps := 1000000) [hho, noHo, tpA, hf, h5, undef, onGP_none, condG_false, -List.reduceReplicate]
    exact Ret.drop (by rfl) ⟨rfl, rfl⟩
 obtain ⟨hcl, hil⟩ := hb t (hmem t rfl)
 cases hf : j.fin with
 | true =>
  simp (maxSteps := 1000000) [hho, noHo, jobA, schA, -List.reduceReplicate]
  refine call_0 (c1) rfl rfl hho (by simp) ?_
  simp (maxSteps := 1000000) [hho, noHo, tpA, hf, undef, onGP_none, condG_false, -List.reduceReplicate]
  exact Ret.drop (by rfl) ⟨rfl, rfl⟩
 | false =>
 by_cases h5 : j.kind = 5
 ·simp (maxSteps := 1000000) [hho, noHo, jobA, schA, -List.reduceReplicate]
  refine call_0 (c1) rfl rfl hho (by simp) ?_
  simp (maxSteps := 1000000) [hho, noHo, tpA, hf, h5, undef, onGP_none, condG_false, -List.reduceReplicate]
  exact Ret.drop (by rfl) ⟨rfl, rfl⟩
 have eS : ∀ N : NxS, (if j.kind = 1 ∨ j.kind = 3 ∨ j.back = true then plDown j t else plUp j t) = N → (if false = true then nx3 else match some t with
 | none => if j.kind = 5 then ⟨0, [], true⟩ else nx3
 | some t => if j.kind = 5 then nx3 else if j.kind = 1 ∨ j.kind = 3 ∨ j.back = true then plDown j t else plUp j t) = N := fun N h => by
  rw [if_neg (by decide)]
  simp only
  rw [if_neg h5, h]
 by_cases hdn : j.kind = 1 ∨ j.kind = 3 ∨ j.back = true
 ·have c2 := pldown_w j t hcl hil
  rw [eS _ (if_pos hdn)]
  obtain ⟨n, hn⟩ : ∃ n, n = plDown j t := ⟨_, rfl⟩
  rw [← hn] at c2 ⊢
  clear hn eS
  obtain ⟨nv, nm, nb⟩ := n
  simp only [plA, jobA, List.cons_append, List.nil_append] at c2
  rw [hf] at c2
  by_cases k1 : j.kind = 1
  ·rw [k1] at c2
   rcases nm with _ | ⟨m, l⟩
   ·rw [nxA_nil] at c2 ⊢
    simp (maxSteps := 1000000) [hho, noHo, jobA, schA, -List.reduceReplicate]
    refine call_0 (c1) rfl rfl hho (by simp) ?_
    simp (maxSteps := 1000000) [hho, noHo, tpA, hf, h5, k1, undef, onGP_none, condG_false, -List.reduceReplicate]
    refine call_0 (c2) rfl rfl hho (by simp) ?_
    simp (maxSteps := 1000000) [hho, noHo, undef, onGP_none, condG_false, -List.reduceReplicate]
    exact Ret.drop (by rfl) ⟨rfl, rfl⟩
   ·rw [nxA_cons] at c2 ⊢
    simp (maxSteps := 1000000) [hho, noHo, jobA, schA, -List.reduceReplicate]
    refine call_0 (c1) rfl rfl hho (by simp) ?_
    simp (maxSteps := 1000000) [hho, noHo, tpA, hf, h5, k1, undef, onGP_none, condG_false, -List.reduceReplicate]
    refine call_0 (c2) rfl rfl hho (by simp) ?_
    simp (maxSteps := 1000000) [hho, noHo, undef, onGP_none, condG_false, -List.reduceReplicate]
    exact Ret.sel [] (fun _ => false) (ho := by rfl) (ha := by rfl) (by simp) (by simp) (by decide) (by simp) (fun i _ h => by cases h) ⟨rfl, rfl⟩
  by_cases k3 : j.kind = 3
  ·rw [k3] at c2
   rcases nm with _ | ⟨m, l⟩
   ·rw [nxA_nil] at c2 ⊢
    simp (maxSteps := 1000000) [hho, noHo, jobA, schA, -List.reduceReplicate]
    refine call_0 (c1) rfl rfl hho (by simp) ?_
    simp (maxSteps := 1000000) [hho, noHo, tpA, hf, h5, k1, k3, undef, onGP_none, condG_false, -List.reduceReplicate]
    refine call_0 (c2) rfl rfl hho (by simp) ?_
    simp (maxSteps := 1000000) [hho, noHo, undef, onGP_none, condG_false, -List.reduceReplicate]
    exact Ret.drop (by rfl) ⟨rfl, rfl⟩
   ·rw [nxA_cons] at c2 ⊢
    simp (maxSteps := 1000000) [hho, noHo, jobA, schA, -List.reduceReplicate]
    refine call_0 (c1) rfl rfl hho (by simp) ?_
    simp (maxSteps := 1000000) [hho, noHo, tpA, hf, h5, k1, k3, undef, onGP_none, condG_false, -List.reduceReplicate]
    refine call_0 (c2) rfl rfl hho (by simp) ?_
    simp (maxSteps := 1000000) [hho, noHo, undef, onGP_none, condG_false, -List.reduceReplicate]
    exact Ret.sel [] (fun _ => false) (ho := by rfl) (ha := by rfl) (by simp) (by simp) (by decide) (by simp) (fun i _ h => by cases h) ⟨rfl, rfl⟩
  have hbk : j.back = true := by rcases hdn with h | h | h <;> first | exact absurd h k1 | exact absurd h k3 | exact h
  rw [hbk] at c2
  rcases nm with _ | ⟨m, l⟩
  ·rw [nxA_nil] at c2 ⊢
   simp (maxSteps := 1000000) [hho, noHo, jobA, schA, -List.reduceReplicate]
   refine call_0 (c1) rfl rfl hho (by simp) ?_
   simp (maxSteps := 1000000) [hho, noHo, tpA, hf, h5, k1, k3, hbk, undef, onGP_none, condG_false, -List.reduceReplicate]
   refine call_0 (c2) rfl rfl hho (by simp) ?_
   simp (maxSteps := 1000000) [hho, noHo, undef, onGP_none, condG_false, -List.reduceReplicate]
   exact Ret.drop (by rfl) ⟨rfl, rfl⟩
  ·rw [nxA_cons] at c2 ⊢
   simp (maxSteps := 1000000) [hho, noHo, jobA, schA, -List.reduceReplicate]
   refine call_0 (c1) rfl rfl hho (by simp) ?_
   simp (maxSteps := 1000000) [hho, noHo, tpA, hf, h5, k1, k3, hbk, undef, onGP_none, condG_false, -List.reduceReplicate]
   refine call_0 (c2) rfl rfl hho (by simp) ?_
   simp (maxSteps := 1000000) [hho, noHo, undef, onGP_none, condG_false, -List.reduceReplicate]
   exact Ret.sel [] (fun _ => false) (ho := by rfl) (ha := by rfl) (by simp) (by simp) (by decide) (by simp) (fun i _ h => by cases h) ⟨rfl, rfl⟩
 ·have c2 := plup_w j t hcl hil
  rw [eS _ (if_neg hdn)]
  obtain ⟨n, hn⟩ : ∃ n, n = plUp j t := ⟨_, rfl⟩
  rw [← hn] at c2 ⊢
  clear hn eS
  obtain ⟨nv, nm, nb⟩ := n
  simp only [plA, jobA, List.cons_append, List.nil_append] at c2
  have k1 : ¬ j.kind = 1 := fun h => hdn (.inl h)
  have k3 : ¬ j.kind = 3 := fun h => hdn (.inr (.inl h))
  have hbk : j.back = false := by cases h : j.back with | false => rfl | true => exact absurd (.inr (.inr h)) hdn
  rw [hf, hbk] at c2
  rcases nm with _ | ⟨m, l⟩
  ·rw [nxA_nil] at c2 ⊢
   simp (maxSteps := 1000000) [hho, noHo, jobA, schA, -List.reduceReplicate]
   refine call_0 (c1) rfl rfl hho (by simp) ?_
   simp (maxSteps := 1000000) [hho, noHo, tpA, hf, h5, k1, k3, hbk, undef, onGP_none, condG_false, -List.reduceReplicate]
   refine call_0 (c2) rfl rfl hho (by simp) ?_
   simp (maxSteps := 1000000) [hho, noHo, undef, onGP_none, condG_false, -List.reduceReplicate]
   exact Ret.drop (by rfl) ⟨rfl, rfl⟩
  ·rw [nxA_cons] at c2 ⊢
   simp (maxSteps := 1000000) [hho, noHo, jobA, schA, -List.reduceReplicate]
   refine call_0 (c1) rfl rfl hho (by simp) ?_
   simp (maxSteps := 1000000) [hho, noHo, tpA, hf, h5, k1, k3, hbk, undef, onGP_none, condG_false, -List.reduceReplicate]
   refine call_0 (c2) rfl rfl hho (by simp) ?_
   simp (maxSteps := 1000000) [hho, noHo, undef, onGP_none, condG_false, -List.reduceReplicate]
   exact Ret.sel [] (fun _ => false) (ho := by rfl) (ha := by rfl) (by simp) (by simp) (by decide) (by simp) (fun i _ h => by cases h) ⟨rfl, rfl⟩
end Go.Proofs.YthgoocdldnkogaaGreatDoor
