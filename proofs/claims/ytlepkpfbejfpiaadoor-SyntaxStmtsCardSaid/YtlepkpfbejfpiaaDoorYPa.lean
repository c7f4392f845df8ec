import Derived.Test.YtlepkpfbejfpiaaDoorYO
namespace Go.Proofs.YtlepkpfbejfpiaaDoor
set_option linter.unusedVariables false
set_option linter.unusedSimpArgs false
open Go.RowKit
attribute [local simp] isCut_nil isCut_region isCut_seq isCut_block isCut_loop isCut_cond isCut_skip isCut_exit isCut_ret isCut_range swapK putK altK condK_bool pickP_bool stepP stepO onPure_some onPure_none onImpl_some onImpl_none stepC onGP_some onGP_none onGV_some condG mkG onIt_it nextP_ptr takeP_eq takeV_some takeV_none takeU_some takeU_none takeQ takeW_some takeN_none takeN_some takeG_some takeO_some altO_some pureV binV2 eqF eqOp ovlV ovl2 rowAt capV binV intBin strBin isSh shV fldV ixV sliceV slice3V loadAV nilV lenV callV unV convV viewS cellsH loadV fldCut AV.ung AV.ungs AV.gc AV.cells AS.ev AS.put anyS gcsV lens lnO gV guardV retK RetP_eq resV oneV anyRo loIx hiIx implO callP_clo evL gcsL clearV storeAV AS.push AS.setO appV appZ shortS copyV buildV partsV fillV srcV fzO okV isCell_c isCell_ptr isCell_sl isCell_fs isCell_fp isCell_clo rowZ_one rowZ_zero rowZ_2 rowZ_3 rowZ_4 rowZ_5 rowZ_6 rowZ_7 rowZ_8 rowZ_9 rowZ_10 rowZ_11 rowZ_12 noHo Value.oneCell' max2V min2V afterH putBack frzFrom frzO rebO backIx nilEq_sl nilEq_fs nilOp_eql nilOp_neq AV.reb AV.rebL
attribute [local simp ↓] runK_skip runK_region runK_draw runK_seq runK_cut runK_cond runK_block runK_loop runK_exit runK_label runK_goto runK_ret runK_range contK_nil contK_seq contK_seq_ret contK_seq_exit contK_seq_goto contK_block contK_block_ret contK_block_goto contK_block_exit runO_nil runO_cons roundK_exit roundK_ret roundK_goto exitK_ret cutK_ret cutK_exit runE_done runE_nil runE_take runE_alt condG_true condG_false
set_option maxRecDepth 10000
/-! ## parts -/
theorem rep10 (x : AV) : List.replicate 10 x = [x, x, x, x, x, x, x, x, x, x] := rfl
def partA (s : StmtS) : List AV := [.c (.int .i64 s.kind), .c (.string (if s.kind = 9 then ByteArray.empty else s.tab)), .c (.string (if s.kind = 1 ∨ s.kind = 2 ∨ s.kind = 4 ∨ s.kind = 5 then s.name else ByteArray.empty)), .c (.bool (if s.kind = 1 then s.uniq else false)), (if s.kind = 1 ∨ s.kind = 6 then .fs 1 s.names.length (strsA s.names) else .c (.slice none 0 0)), (if s.kind = 0 ∨ s.kind = 3 ∨ s.kind = 5 then .fs 10 s.cols.length (colsA s.cols) else .c (.slice none 0 0)), (if s.kind = 6 then .fs 1 s.rows.length (erowsA s.rows) else .c (.slice none 0 0)), (if s.kind = 7 then .fs 14 s.sets.length (setsA s.sets) else .c (.slice none 0 0)), (if s.kind = 7 ∨ s.kind = 8 ∨ s.kind = 9 then .fs 13 s.wher.length (exprsA s.wher) else .c (.slice none 0 0)), (if s.kind = 9 then .fs 14 s.items.length (itemsA s.items) else .c (.slice none 0 0)), (if s.kind = 9 then .fs 2 s.from_.length (srcsA s.from_) else .c (.slice none 0 0)), (if s.kind = 9 then .fs 13 s.on_.length (exprsA s.on_) else .c (.slice none 0 0)), (if s.kind = 9 then .fs 13 s.group.length (exprsA s.group) else .c (.slice none 0 0)), (if s.kind = 9 then .fs 14 s.order.length (ordsA s.order) else .c (.slice none 0 0)), .c (.int .i64 (if s.kind = 9 then s.limit else -1))]
def typeCol (t : TypS) : ColS := ⟨0, ByteArray.empty, t, false, ⟨0, 0, 0, ByteArray.empty⟩, 0⟩
def oneCol (p : ColS → Bool) (l : List ColS) : Bool := match l with | [c] => p c | _ => false
def partsOk (s : StmtS) : Bool :=
  if s.kind = 0 then nameOk s.tab && decide (1 ≤ s.cols.length) && !(s.cols.any fun c => !colOk c)
  else if s.kind = 1 then nameOk s.tab && nameOk s.name && namesOk s.names
  else if s.kind = 2 ∨ s.kind = 4 then nameOk s.tab && nameOk s.name
  else if s.kind = 3 then nameOk s.tab && oneCol colOk s.cols
  else if s.kind = 5 then nameOk s.tab && oneCol (fun c => nameOk s.name && colEq c (typeCol c.ty) && typOk c.ty) s.cols
  else if s.kind = 6 then nameOk s.tab && namesOk s.names && decide (1 ≤ s.rows.length) && !(s.rows.any fun r => !decide (r.length = s.names.length))
  else if s.kind = 7 then nameOk s.tab && decide (1 ≤ s.sets.length) && !(s.sets.any fun x => !nameOk x.name)
  else if s.kind = 8 then nameOk s.tab
  else if s.kind = 9 then selS s
  else false
structure Fit9 (s : StmtS) : Prop where
  tab : s.tab.size ≤ 9223372036854775807
  name : s.name.size ≤ 9223372036854775807
  names : s.names.length ≤ 1000000 ∧ ∀ x ∈ s.names, x.size ≤ 9223372036854775807
  cols : s.cols.length ≤ 1000000 ∧ ∀ x ∈ s.cols, Col9 x
  rows : s.rows.length ≤ 1000000
  sets : s.sets.length ≤ 1000000 ∧ ∀ x ∈ s.sets, x.name.size ≤ 9223372036854775807
  items : s.items.length ≤ 1000000 ∧ ∀ x ∈ s.items, x.as_.size ≤ 9223372036854775807
  from_ : s.from_.length ≤ 1000000 ∧ ∀ x ∈ s.from_, x.tab.size ≤ 9223372036854775807 ∧ x.as_.size ≤ 9223372036854775807
set_option maxHeartbeats 8000000 in
theorem parts1_w (c : ColS) (hc : Col9 c) : ACalls Tryd.prog 55 [.agg (colA c)] [] (fun _ => false) (fun r h' => r = .c (.bool (!colOk c)) ∧ h' = []) := by
  refine acalls mixed Tryd.func55 rfl Tryd.ntmps55 rfl fun E hE hst hho => ?_
  have c1 := columnOf_w c hc
  simp (maxSteps := 1000000) [hho, noHo, colA, undef, onGP_none, condG_false, -List.reduceReplicate]
  refine call_x [] c1 rfl rfl ⟨rfl, rfl⟩ hho (by simp) (by decide) (by simp) (by simp) ?_
  simp (maxSteps := 1000000) [hho, noHo, undef, onGP_none, condG_false, -List.reduceReplicate]
  exact Ret.drop (by rfl) ⟨rfl, rfl⟩
set_option maxHeartbeats 8000000 in
theorem parts3_w (x : SetS) (hc : x.name.size ≤ 9223372036854775807) : ACalls Tryd.prog 62 [.agg (setA x)] [] (fun _ => false) (fun r h' => r = .c (.bool (!nameOk x.name)) ∧ h' = []) := by
  refine acalls mixed Tryd.func62 rfl Tryd.ntmps62 rfl fun E hE hst hho => ?_
  have c1 := name_schB x.name hc
  simp (maxSteps := 1000000) [hho, noHo, setA, exprA, undef, onGP_none, condG_false, -List.reduceReplicate]
  refine call_x [] c1 rfl rfl ⟨rfl, rfl⟩ hho (by simp) (by decide) (by simp) (by simp) ?_
  simp (maxSteps := 1000000) [hho, noHo, undef, onGP_none, condG_false, -List.reduceReplicate]
  exact Ret.drop (by rfl) ⟨rfl, rfl⟩
set_option maxHeartbeats 8000000 in
theorem parts2_w (s : StmtS) (k : List ExprS) : ACalls Tryd.prog 60 [.fs 13 k.length (exprsA k), .ptr 0 0 15] [.o .box (stmtA s)] (fun k => decide (k < 1)) (fun r h' => r = .c (.bool (!decide (k.length = s.names.length))) ∧ h' = [.o .box (stmtA s)]) := by
  refine acalls mixed Tryd.func60 rfl Tryd.ntmps60 rfl fun E hE hst hho => ?_
  have hI : ((k.length : Int) = s.names.length) = (k.length = s.names.length) := by simp only [eq_iff_iff]; omega
  simp (maxSteps := 1000000) [hho, noHo, stmtA, hI, undef, onGP_none, condG_false, -List.reduceReplicate]
  exact Ret.same ⟨rfl, rfl⟩
theorem oneCol_ne {p : ColS → Bool} {l : List ColS} (h : ¬ l.length = 1) : oneCol p l = false := by
  rcases l with _ | ⟨c, _ | ⟨d, l⟩⟩
  · rfl
  · exact absurd rfl h
  · rfl
theorem colsA_one (c : ColS) : colsA [c] = colA c := by simp [colsA]
set_option maxHeartbeats 8000000 in
theorem parts_k0 (s : StmtS) (h : Fit9 s) (hk : s.kind = 0) : ACalls Tryd.prog 31 [.agg (stmtA s)] [] (fun _ => false) (fun r h' => r = .tup [.agg (partA s), .c (.bool (partsOk s))] ∧ h' = []) := by
  refine acalls mixed Tryd.func31 rfl Tryd.ntmps31 rfl fun E hE hst hho => ?_
  have c0 := name_schB s.tab h.tab
  obtain ⟨B0, hB0⟩ : ∃ B, B = nameOk s.tab := ⟨_, rfl⟩
  rw [← hB0] at c0
  have c1 := cf_col s.cols (fun c => !colOk c) 55 (by simp) (by have := h.cols.1; omega) fun x hx => parts1_w x (h.cols.2 x hx)
  obtain ⟨Q, hQ⟩ : ∃ B, B = s.cols.any fun c => !colOk c := ⟨_, rfl⟩
  rw [← hQ] at c1
  have hR : partsOk s = (B0 && decide (1 ≤ s.cols.length) && !Q) := by simp [partsOk, hk, hB0, hQ]
  rw [hR]
  simp only [partA, hk]
  clear hR
  by_cases hc : 1 ≤ s.cols.length
  · have hi : (1 : Int) ≤ s.cols.length := by omega
    simp (maxSteps := 1000000) [hho, noHo, hc, hi, stmtA, rep10, hk, undef, onGP_none, condG_false, -List.reduceReplicate]
    refine call_x [] c0 rfl rfl ⟨rfl, rfl⟩ hho (by simp) (by decide) (by simp) (by simp) ?_
    cases B0 with
    | false =>
      simp (maxSteps := 1000000) [hho, noHo, hc, hi, stmtA, rep10, hk, undef, onGP_none, condG_false, -List.reduceReplicate]
      refine draw_k hho (.take 0 (.take 1 (.take 2 (.take 3 (.take 4 (.take 5 (.take 6 (.take 7 (.take 8 (.take 9 (.take 10 (.alt 11 (.take 12 (.take 13 (.alt 14 (.take 15 (.done)) (.nil)))) (.nil))))))))))))) [0, 2] [] (by decide +kernel) (by simp) ?_
      simp (maxSteps := 1000000) [hho, noHo, hc, hi, stmtA, rep10, hk, undef, onGP_none, condG_false, roOf, holdOf, wrOf, altK, heldOk, Region.binds, -List.reduceReplicate]
      intros
      exact Ret.sel [] (fun _ => false) (ho := by rfl) (ha := by rfl) (by simp) (by simp) (by decide) (by simp) (by simp) ⟨by simp, rfl⟩
    | true =>
      simp (maxSteps := 1000000) [hho, noHo, hc, hi, stmtA, rep10, hk, undef, onGP_none, condG_false, -List.reduceReplicate]
      refine draw_k hho (.take 0 (.take 1 (.take 2 (.take 3 (.take 4 (.take 5 (.take 6 (.take 7 (.take 8 (.take 9 (.take 10 (.alt 11 (.take 12 (.take 13 (.alt 14 (.take 15 (.done)) (.nil)))) (.nil))))))))))))) [0, 2] [] (by decide +kernel) (by simp) ?_
      simp (maxSteps := 1000000) [hho, noHo, hc, hi, stmtA, rep10, hk, undef, onGP_none, condG_false, roOf, holdOf, wrOf, altK, heldOk, Region.binds, -List.reduceReplicate]
      intros
      refine call_h [] c1 rfl rfl ⟨rfl, rfl⟩ (by simp) (by simp) (by decide) (by simp) (by simp) ?_
      cases Q with
      | false =>
        simp (maxSteps := 1000000) [hho, noHo, hc, hi, stmtA, rep10, hk, undef, onGP_none, condG_false, roOf, holdOf, wrOf, altK, heldOk, Region.binds, -List.reduceReplicate]
        intros
        exact Ret.sel [] (fun _ => false) (ho := by rfl) (ha := by rfl) (by simp) (by simp) (by decide) (by simp) (by simp) ⟨by simp, rfl⟩
      | true =>
        simp (maxSteps := 1000000) [hho, noHo, hc, hi, stmtA, rep10, hk, undef, onGP_none, condG_false, roOf, holdOf, wrOf, altK, heldOk, Region.binds, -List.reduceReplicate]
        intros
        exact Ret.sel [] (fun _ => false) (ho := by rfl) (ha := by rfl) (by simp) (by simp) (by decide) (by simp) (by simp) ⟨by simp, rfl⟩
  · have hi : ¬ (1 : Int) ≤ s.cols.length := by omega
    simp (maxSteps := 1000000) [hho, noHo, hc, hi, stmtA, rep10, hk, undef, onGP_none, condG_false, -List.reduceReplicate]
    refine call_x [] c0 rfl rfl ⟨rfl, rfl⟩ hho (by simp) (by decide) (by simp) (by simp) ?_
    cases B0 with
    | false =>
      simp (maxSteps := 1000000) [hho, noHo, hc, hi, stmtA, rep10, hk, undef, onGP_none, condG_false, -List.reduceReplicate]
      refine draw_k hho (.take 0 (.take 1 (.take 2 (.take 3 (.take 4 (.take 5 (.take 6 (.take 7 (.take 8 (.take 9 (.take 10 (.alt 11 (.take 12 (.take 13 (.alt 14 (.take 15 (.done)) (.nil)))) (.nil))))))))))))) [0, 2] [] (by decide +kernel) (by simp) ?_
      simp (maxSteps := 1000000) [hho, noHo, hc, hi, stmtA, rep10, hk, undef, onGP_none, condG_false, roOf, holdOf, wrOf, altK, heldOk, Region.binds, -List.reduceReplicate]
      intros
      exact Ret.sel [] (fun _ => false) (ho := by rfl) (ha := by rfl) (by simp) (by simp) (by decide) (by simp) (by simp) ⟨by simp, rfl⟩
    | true =>
      simp (maxSteps := 1000000) [hho, noHo, hc, hi, stmtA, rep10, hk, undef, onGP_none, condG_false, -List.reduceReplicate]
      refine draw_k hho (.take 0 (.take 1 (.take 2 (.take 3 (.take 4 (.take 5 (.take 6 (.take 7 (.take 8 (.take 9 (.take 10 (.alt 11 (.take 12 (.take 13 (.alt 14 (.take 15 (.done)) (.nil)))) (.nil))))))))))))) [0, 2] [] (by decide +kernel) (by simp) ?_
      simp (maxSteps := 1000000) [hho, noHo, hc, hi, stmtA, rep10, hk, undef, onGP_none, condG_false, roOf, holdOf, wrOf, altK, heldOk, Region.binds, -List.reduceReplicate]
      intros
      exact Ret.sel [] (fun _ => false) (ho := by rfl) (ha := by rfl) (by simp) (by simp) (by decide) (by simp) (by simp) ⟨by simp, rfl⟩
set_option maxHeartbeats 8000000 in
theorem parts_k1 (s : StmtS) (h : Fit9 s) (hk : s.kind = 1) : ACalls Tryd.prog 31 [.agg (stmtA s)] [] (fun _ => false) (fun r h' => r = .tup [.agg (partA s), .c (.bool (partsOk s))] ∧ h' = []) := by
  refine acalls mixed Tryd.func31 rfl Tryd.ntmps31 rfl fun E hE hst hho => ?_
  have c0 := name_schB s.tab h.tab
  obtain ⟨B0, hB0⟩ : ∃ B, B = nameOk s.tab := ⟨_, rfl⟩
  rw [← hB0] at c0
  have c1 := name_schB s.name h.name
  obtain ⟨B1, hB1⟩ : ∃ B, B = nameOk s.name := ⟨_, rfl⟩
  rw [← hB1] at c1
  have c2 := names_w s.names h.names.1 h.names.2
  obtain ⟨B2, hB2⟩ : ∃ B, B = namesOk s.names := ⟨_, rfl⟩
  rw [← hB2] at c2
  have hR : partsOk s = (B0 && B1 && B2) := by simp [partsOk, hk, hB0, hB1, hB2]
  rw [hR]
  simp only [partA, hk]
  clear hR
  simp (maxSteps := 1000000) [hho, noHo, stmtA, rep10, hk, undef, onGP_none, condG_false, -List.reduceReplicate]
  refine call_x [] c0 rfl rfl ⟨rfl, rfl⟩ hho (by simp) (by decide) (by simp) (by simp) ?_
  cases B0 with
  | false =>
    simp (maxSteps := 1000000) [hho, noHo, stmtA, rep10, hk, undef, onGP_none, condG_false, -List.reduceReplicate]
    refine draw_k hho (.take 0 (.take 1 (.take 2 (.take 3 (.take 4 (.take 5 (.take 6 (.alt 7 (.take 8 (.alt 9 (.take 10 (.alt 11 (.done) (.nil))) (.nil))) (.nil))))))))) [0] [] (by decide +kernel) (by simp) ?_
    simp (maxSteps := 1000000) [hho, noHo, stmtA, rep10, hk, undef, onGP_none, condG_false, roOf, holdOf, wrOf, altK, heldOk, Region.binds, -List.reduceReplicate]
    intros
    refine draw_k hho (.take 0 (.take 1 (.take 2 (.take 3 (.take 4 (.alt 5 (.take 6 (.take 7 (.take 8 (.take 9 (.alt 10 (.take 11 (.alt 12 (.take 13 (.done)) (.nil))) (.nil)))))) (.nil))))))) [0, 2] [] (by decide +kernel) (by simp) ?_
    simp (maxSteps := 1000000) [hho, noHo, stmtA, rep10, hk, undef, onGP_none, condG_false, roOf, holdOf, wrOf, altK, heldOk, Region.binds, -List.reduceReplicate]
    intros
    exact Ret.sel [] (fun _ => false) (ho := by rfl) (ha := by rfl) (by simp) (by simp) (by decide) (by simp) (by simp) ⟨by simp, rfl⟩
  | true =>
    simp (maxSteps := 1000000) [hho, noHo, stmtA, rep10, hk, undef, onGP_none, condG_false, -List.reduceReplicate]
    refine draw_k hho (.take 0 (.take 1 (.take 2 (.take 3 (.take 4 (.take 5 (.take 6 (.alt 7 (.take 8 (.alt 9 (.take 10 (.alt 11 (.done) (.nil))) (.nil))) (.nil))))))))) [0] [] (by decide +kernel) (by simp) ?_
    simp (maxSteps := 1000000) [hho, noHo, stmtA, rep10, hk, undef, onGP_none, condG_false, roOf, holdOf, wrOf, altK, heldOk, Region.binds, -List.reduceReplicate]
    intros
    refine draw_k hho (.take 0 (.take 1 (.take 2 (.take 3 (.take 4 (.alt 5 (.take 6 (.take 7 (.take 8 (.take 9 (.alt 10 (.take 11 (.alt 12 (.take 13 (.done)) (.nil))) (.nil)))))) (.nil))))))) [0, 2] [] (by decide +kernel) (by simp) ?_
    simp (maxSteps := 1000000) [hho, noHo, stmtA, rep10, hk, undef, onGP_none, condG_false, roOf, holdOf, wrOf, altK, heldOk, Region.binds, -List.reduceReplicate]
    intros
    refine call_h [] c1 rfl rfl ⟨rfl, rfl⟩ (by simp) (by simp) (by decide) (by simp) (by simp) ?_
    cases B1 with
    | false =>
      simp (maxSteps := 1000000) [hho, noHo, stmtA, rep10, hk, undef, onGP_none, condG_false, roOf, holdOf, wrOf, altK, heldOk, Region.binds, -List.reduceReplicate]
      intros
      exact Ret.sel [] (fun _ => false) (ho := by rfl) (ha := by rfl) (by simp) (by simp) (by decide) (by simp) (by simp) ⟨by simp, rfl⟩
    | true =>
      simp (maxSteps := 1000000) [hho, noHo, stmtA, rep10, hk, undef, onGP_none, condG_false, roOf, holdOf, wrOf, altK, heldOk, Region.binds, -List.reduceReplicate]
      intros
      refine call_h [] c2 rfl rfl ⟨rfl, rfl⟩ (by simp) (by simp) (by decide) (by simp) (by simp) ?_
      cases B2 with
      | false =>
        simp (maxSteps := 1000000) [hho, noHo, stmtA, rep10, hk, undef, onGP_none, condG_false, roOf, holdOf, wrOf, altK, heldOk, Region.binds, -List.reduceReplicate]
        intros
        exact Ret.sel [] (fun _ => false) (ho := by rfl) (ha := by rfl) (by simp) (by simp) (by decide) (by simp) (by simp) ⟨by simp, rfl⟩
      | true =>
        simp (maxSteps := 1000000) [hho, noHo, stmtA, rep10, hk, undef, onGP_none, condG_false, roOf, holdOf, wrOf, altK, heldOk, Region.binds, -List.reduceReplicate]
        intros
        exact Ret.sel [] (fun _ => false) (ho := by rfl) (ha := by rfl) (by simp) (by simp) (by decide) (by simp) (by simp) ⟨by simp, rfl⟩
set_option maxHeartbeats 8000000 in
theorem parts_k2 (s : StmtS) (h : Fit9 s) (hk : s.kind = 2) : ACalls Tryd.prog 31 [.agg (stmtA s)] [] (fun _ => false) (fun r h' => r = .tup [.agg (partA s), .c (.bool (partsOk s))] ∧ h' = []) := by
  refine acalls mixed Tryd.func31 rfl Tryd.ntmps31 rfl fun E hE hst hho => ?_
  have c0 := name_schB s.tab h.tab
  obtain ⟨B0, hB0⟩ : ∃ B, B = nameOk s.tab := ⟨_, rfl⟩
  rw [← hB0] at c0
  have c1 := name_schB s.name h.name
  obtain ⟨B1, hB1⟩ : ∃ B, B = nameOk s.name := ⟨_, rfl⟩
  rw [← hB1] at c1
  have hR : partsOk s = (B0 && B1) := by simp [partsOk, hk, hB0, hB1]
  rw [hR]
  simp only [partA, hk]
  clear hR
  simp (maxSteps := 1000000) [hho, noHo, stmtA, rep10, hk, undef, onGP_none, condG_false, -List.reduceReplicate]
  refine call_x [] c0 rfl rfl ⟨rfl, rfl⟩ hho (by simp) (by decide) (by simp) (by simp) ?_
  cases B0 with
  | false =>
    simp (maxSteps := 1000000) [hho, noHo, stmtA, rep10, hk, undef, onGP_none, condG_false, -List.reduceReplicate]
    refine draw_k hho (.take 0 (.take 1 (.take 2 (.take 3 (.take 4 (.alt 5 (.take 6 (.alt 7 (.take 8 (.done)) (.nil))) (.nil))))))) [0, 2] [] (by decide +kernel) (by simp) ?_
    simp (maxSteps := 1000000) [hho, noHo, stmtA, rep10, hk, undef, onGP_none, condG_false, roOf, holdOf, wrOf, altK, heldOk, Region.binds, -List.reduceReplicate]
    intros
    exact Ret.sel [] (fun _ => false) (ho := by rfl) (ha := by rfl) (by simp) (by simp) (by decide) (by simp) (by simp) ⟨by simp, rfl⟩
  | true =>
    simp (maxSteps := 1000000) [hho, noHo, stmtA, rep10, hk, undef, onGP_none, condG_false, -List.reduceReplicate]
    refine draw_k hho (.take 0 (.take 1 (.take 2 (.take 3 (.take 4 (.alt 5 (.take 6 (.alt 7 (.take 8 (.done)) (.nil))) (.nil))))))) [0, 2] [] (by decide +kernel) (by simp) ?_
    simp (maxSteps := 1000000) [hho, noHo, stmtA, rep10, hk, undef, onGP_none, condG_false, roOf, holdOf, wrOf, altK, heldOk, Region.binds, -List.reduceReplicate]
    intros
    refine call_h [] c1 rfl rfl ⟨rfl, rfl⟩ (by simp) (by simp) (by decide) (by simp) (by simp) ?_
    cases B1 with
    | false =>
      simp (maxSteps := 1000000) [hho, noHo, stmtA, rep10, hk, undef, onGP_none, condG_false, roOf, holdOf, wrOf, altK, heldOk, Region.binds, -List.reduceReplicate]
      intros
      exact Ret.sel [] (fun _ => false) (ho := by rfl) (ha := by rfl) (by simp) (by simp) (by decide) (by simp) (by simp) ⟨by simp, rfl⟩
    | true =>
      simp (maxSteps := 1000000) [hho, noHo, stmtA, rep10, hk, undef, onGP_none, condG_false, roOf, holdOf, wrOf, altK, heldOk, Region.binds, -List.reduceReplicate]
      intros
      exact Ret.sel [] (fun _ => false) (ho := by rfl) (ha := by rfl) (by simp) (by simp) (by decide) (by simp) (by simp) ⟨by simp, rfl⟩
set_option maxHeartbeats 8000000 in
theorem parts_k4 (s : StmtS) (h : Fit9 s) (hk : s.kind = 4) : ACalls Tryd.prog 31 [.agg (stmtA s)] [] (fun _ => false) (fun r h' => r = .tup [.agg (partA s), .c (.bool (partsOk s))] ∧ h' = []) := by
  refine acalls mixed Tryd.func31 rfl Tryd.ntmps31 rfl fun E hE hst hho => ?_
  have c0 := name_schB s.tab h.tab
  obtain ⟨B0, hB0⟩ : ∃ B, B = nameOk s.tab := ⟨_, rfl⟩
  rw [← hB0] at c0
  have c1 := name_schB s.name h.name
  obtain ⟨B1, hB1⟩ : ∃ B, B = nameOk s.name := ⟨_, rfl⟩
  rw [← hB1] at c1
  have hR : partsOk s = (B0 && B1) := by simp [partsOk, hk, hB0, hB1]
  rw [hR]
  simp only [partA, hk]
  clear hR
  simp (maxSteps := 1000000) [hho, noHo, stmtA, rep10, hk, undef, onGP_none, condG_false, -List.reduceReplicate]
  refine call_x [] c0 rfl rfl ⟨rfl, rfl⟩ hho (by simp) (by decide) (by simp) (by simp) ?_
  cases B0 with
  | false =>
    simp (maxSteps := 1000000) [hho, noHo, stmtA, rep10, hk, undef, onGP_none, condG_false, -List.reduceReplicate]
    refine draw_k hho (.take 0 (.take 1 (.take 2 (.take 3 (.take 4 (.alt 5 (.take 6 (.alt 7 (.take 8 (.done)) (.nil))) (.nil))))))) [0, 2] [] (by decide +kernel) (by simp) ?_
    simp (maxSteps := 1000000) [hho, noHo, stmtA, rep10, hk, undef, onGP_none, condG_false, roOf, holdOf, wrOf, altK, heldOk, Region.binds, -List.reduceReplicate]
    intros
    exact Ret.sel [] (fun _ => false) (ho := by rfl) (ha := by rfl) (by simp) (by simp) (by decide) (by simp) (by simp) ⟨by simp, rfl⟩
  | true =>
    simp (maxSteps := 1000000) [hho, noHo, stmtA, rep10, hk, undef, onGP_none, condG_false, -List.reduceReplicate]
    refine draw_k hho (.take 0 (.take 1 (.take 2 (.take 3 (.take 4 (.alt 5 (.take 6 (.alt 7 (.take 8 (.done)) (.nil))) (.nil))))))) [0, 2] [] (by decide +kernel) (by simp) ?_
    simp (maxSteps := 1000000) [hho, noHo, stmtA, rep10, hk, undef, onGP_none, condG_false, roOf, holdOf, wrOf, altK, heldOk, Region.binds, -List.reduceReplicate]
    intros
    refine call_h [] c1 rfl rfl ⟨rfl, rfl⟩ (by simp) (by simp) (by decide) (by simp) (by simp) ?_
    cases B1 with
    | false =>
      simp (maxSteps := 1000000) [hho, noHo, stmtA, rep10, hk, undef, onGP_none, condG_false, roOf, holdOf, wrOf, altK, heldOk, Region.binds, -List.reduceReplicate]
      intros
      exact Ret.sel [] (fun _ => false) (ho := by rfl) (ha := by rfl) (by simp) (by simp) (by decide) (by simp) (by simp) ⟨by simp, rfl⟩
    | true =>
      simp (maxSteps := 1000000) [hho, noHo, stmtA, rep10, hk, undef, onGP_none, condG_false, roOf, holdOf, wrOf, altK, heldOk, Region.binds, -List.reduceReplicate]
      intros
      exact Ret.sel [] (fun _ => false) (ho := by rfl) (ha := by rfl) (by simp) (by simp) (by decide) (by simp) (by simp) ⟨by simp, rfl⟩
set_option maxHeartbeats 8000000 in
theorem parts_k3 (s : StmtS) (h : Fit9 s) (hk : s.kind = 3) : ACalls Tryd.prog 31 [.agg (stmtA s)] [] (fun _ => false) (fun r h' => r = .tup [.agg (partA s), .c (.bool (partsOk s))] ∧ h' = []) := by
  refine acalls mixed Tryd.func31 rfl Tryd.ntmps31 rfl fun E hE hst hho => ?_
  have c0 := name_schB s.tab h.tab
  obtain ⟨B0, hB0⟩ : ∃ B, B = nameOk s.tab := ⟨_, rfl⟩
  rw [← hB0] at c0
  by_cases hc : s.cols.length = 1
  · have hi : (s.cols.length : Int) = 1 := by omega
    obtain ⟨c, hcs⟩ := List.length_eq_one_iff.1 hc
    have hcc := h.cols.2 c (by rw [hcs]; simp)
    have c1 := columnOf_w c hcc
    obtain ⟨B1, hB1⟩ : ∃ B, B = colOk c := ⟨_, rfl⟩
    rw [← hB1] at c1
    have hR : partsOk s = (B0 && B1) := by simp [partsOk, hk, hcs, oneCol, hB0, hB1]
    rw [hR]
    simp only [partA, hk]
    clear hR
    simp (maxSteps := 1000000) [hho, noHo, hc, hi, hcs, colsA_one, colA, stmtA, rep10, hk, undef, onGP_none, condG_false, -List.reduceReplicate]
    refine call_x [] c0 rfl rfl ⟨rfl, rfl⟩ hho (by simp) (by decide) (by simp) (by simp) ?_
    cases B0 with
    | false =>
      simp (maxSteps := 1000000) [hho, noHo, hc, hi, hcs, colsA_one, colA, stmtA, rep10, hk, undef, onGP_none, condG_false, -List.reduceReplicate]
      refine draw_k hho (.take 0 (.take 1 (.take 2 (.take 3 (.take 4 (.take 5 (.take 6 (.take 7 (.take 8 (.take 9 (.alt 10 (.take 11 (.alt 12 (.take 13 (.done)) (.nil))) (.nil)))))))))))) [0, 2] [] (by decide +kernel) (by simp) ?_
      simp (maxSteps := 1000000) [hho, noHo, hc, hi, hcs, colsA_one, colA, stmtA, rep10, hk, undef, onGP_none, condG_false, roOf, holdOf, wrOf, altK, heldOk, Region.binds, -List.reduceReplicate]
      intros
      exact Ret.sel [] (fun _ => false) (ho := by rfl) (ha := by rfl) (by simp) (by simp) (by decide) (by simp) (by simp) ⟨by simp, rfl⟩
    | true =>
      simp (maxSteps := 1000000) [hho, noHo, hc, hi, hcs, colsA_one, colA, stmtA, rep10, hk, undef, onGP_none, condG_false, -List.reduceReplicate]
      refine draw_k hho (.take 0 (.take 1 (.take 2 (.take 3 (.take 4 (.take 5 (.take 6 (.take 7 (.take 8 (.take 9 (.alt 10 (.take 11 (.alt 12 (.take 13 (.done)) (.nil))) (.nil)))))))))))) [0, 2] [] (by decide +kernel) (by simp) ?_
      simp (maxSteps := 1000000) [hho, noHo, hc, hi, hcs, colsA_one, colA, stmtA, rep10, hk, undef, onGP_none, condG_false, roOf, holdOf, wrOf, altK, heldOk, Region.binds, -List.reduceReplicate]
      intros
      refine call_h [] c1 rfl rfl ⟨rfl, rfl⟩ (by simp) (by simp) (by decide) (by simp) (by simp) ?_
      cases B1 with
      | false =>
        simp (maxSteps := 1000000) [hho, noHo, hc, hi, hcs, colsA_one, colA, stmtA, rep10, hk, undef, onGP_none, condG_false, roOf, holdOf, wrOf, altK, heldOk, Region.binds, -List.reduceReplicate]
        intros
        exact Ret.sel [] (fun _ => false) (ho := by rfl) (ha := by rfl) (by simp) (by simp) (by decide) (by simp) (by simp) ⟨by simp, rfl⟩
      | true =>
        simp (maxSteps := 1000000) [hho, noHo, hc, hi, hcs, colsA_one, colA, stmtA, rep10, hk, undef, onGP_none, condG_false, roOf, holdOf, wrOf, altK, heldOk, Region.binds, -List.reduceReplicate]
        intros
        exact Ret.sel [] (fun _ => false) (ho := by rfl) (ha := by rfl) (by simp) (by simp) (by decide) (by simp) (by simp) ⟨by simp, rfl⟩
  · have hi : ¬ (s.cols.length : Int) = 1 := by omega
    have hR : partsOk s = (B0 && false) := by simp [partsOk, hk, oneCol_ne hc]
    rw [hR]
    simp only [partA, hk]
    clear hR
    simp (maxSteps := 1000000) [hho, noHo, hc, hi, stmtA, rep10, hk, undef, onGP_none, condG_false, -List.reduceReplicate]
    refine call_x [] c0 rfl rfl ⟨rfl, rfl⟩ hho (by simp) (by decide) (by simp) (by simp) ?_
    cases B0 with
    | false =>
      simp (maxSteps := 1000000) [hho, noHo, hc, hi, stmtA, rep10, hk, undef, onGP_none, condG_false, -List.reduceReplicate]
      refine draw_k hho (.take 0 (.take 1 (.take 2 (.take 3 (.take 4 (.take 5 (.take 6 (.take 7 (.take 8 (.take 9 (.alt 10 (.take 11 (.alt 12 (.take 13 (.done)) (.nil))) (.nil)))))))))))) [0, 2] [] (by decide +kernel) (by simp) ?_
      simp (maxSteps := 1000000) [hho, noHo, hc, hi, stmtA, rep10, hk, undef, onGP_none, condG_false, roOf, holdOf, wrOf, altK, heldOk, Region.binds, -List.reduceReplicate]
      intros
      exact Ret.sel [] (fun _ => false) (ho := by rfl) (ha := by rfl) (by simp) (by simp) (by decide) (by simp) (by simp) ⟨by simp, rfl⟩
    | true =>
      simp (maxSteps := 1000000) [hho, noHo, hc, hi, stmtA, rep10, hk, undef, onGP_none, condG_false, -List.reduceReplicate]
      refine draw_k hho (.take 0 (.take 1 (.take 2 (.take 3 (.take 4 (.take 5 (.take 6 (.take 7 (.take 8 (.take 9 (.alt 10 (.take 11 (.alt 12 (.take 13 (.done)) (.nil))) (.nil)))))))))))) [0, 2] [] (by decide +kernel) (by simp) ?_
      simp (maxSteps := 1000000) [hho, noHo, hc, hi, stmtA, rep10, hk, undef, onGP_none, condG_false, roOf, holdOf, wrOf, altK, heldOk, Region.binds, -List.reduceReplicate]
      intros
      exact Ret.sel [] (fun _ => false) (ho := by rfl) (ha := by rfl) (by simp) (by simp) (by decide) (by simp) (by simp) ⟨by simp, rfl⟩
end Go.Proofs.YtlepkpfbejfpiaaDoor
