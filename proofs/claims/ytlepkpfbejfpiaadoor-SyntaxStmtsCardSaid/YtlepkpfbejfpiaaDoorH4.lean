import Derived.Test.YtlepkpfbejfpiaaDoorH1
import Derived.Test.YtlepkpfbejfpiaaDoorYV
namespace Go.Proofs.YtlepkpfbejfpiaaDoor
set_option linter.unusedVariables false
set_option linter.unusedSimpArgs false
open Go.RowKit Go.ChangeShapes Go.WideShapes Go.ChangeAt
attribute [local simp] isCut_nil isCut_region isCut_seq isCut_block isCut_loop isCut_cond isCut_skip isCut_exit isCut_ret isCut_range swapK putK altK condK_bool pickP_bool stepP stepO onPure_some onPure_none onImpl_some onImpl_none stepC onGP_some onGP_none onGV_some condG mkG onIt_it nextP_ptr takeP_eq takeV_some takeV_none takeU_some takeU_none takeQ takeW_some takeN_none takeN_some takeG_some takeO_some altO_some pureV binV2 eqF eqOp ovlV ovl2 rowAt capV binV intBin strBin isSh shV fldV ixV sliceV slice3V loadAV nilV lenV callV unV convV viewS cellsH loadV fldCut AV.ung AV.ungs AV.gc AV.cells AS.ev AS.put anyS gcsV lens lnO gV guardV retK RetP_eq resV oneV anyRo loIx hiIx implO callP_clo evL gcsL clearV storeAV AS.push AS.setO appV appZ shortS copyV buildV partsV fillV srcV fzO okV isCell_c isCell_ptr isCell_sl isCell_fs isCell_fp isCell_clo rowZ_one rowZ_zero rowZ_2 rowZ_3 rowZ_4 rowZ_5 rowZ_6 rowZ_7 rowZ_8 rowZ_9 rowZ_10 rowZ_11 rowZ_12 noHo Value.oneCell' max2V min2V afterH putBack frzFrom frzO rebO backIx nilEq_sl nilEq_fs nilOp_eql nilOp_neq AV.reb AV.rebL
attribute [local simp ↓] runK_skip runK_region runK_draw runK_seq runK_cut runK_cond runK_block runK_loop runK_exit runK_label runK_goto runK_ret runK_range contK_nil contK_seq contK_seq_ret contK_seq_exit contK_seq_goto contK_block contK_block_ret contK_block_goto contK_block_exit runO_nil runO_cons roundK_exit roundK_ret roundK_goto exitK_ret cutK_ret cutK_exit runE_done runE_nil runE_take runE_alt condG_true condG_false
set_option maxRecDepth 10000
/-- a statement as it may come in: no string is longer than any may be -/
structure StmtOk (s : StmtS) : Prop where
  sets : ∀ x ∈ s.sets, x.name.size ≤ maxLen
  items : ∀ x ∈ s.items, x.as_.size ≤ maxLen
  from_ : ∀ x ∈ s.from_, x.tab.size ≤ maxLen ∧ x.as_.size ≤ maxLen
/-! what comes in -/
theorem flat_strs (l : List ByteArray) : l.flatMap (fun s => [AV.c (.string s)]) = strsA l := rfl
def opnStrs : Opn Tryd.prog 39 (List ByteArray) := (opnSlice opnStr 1 Tryd.underlying39 (by kernel_rfl) (by kernel_rfl) (by decide)).map id (fun l => [.fs 1 l.length (strsA l)]) (fun _ => True) (fun _ => rfl) (fun _ _ => trivial) fun _ => by kernel_rfl
def opnState : Opn Tryd.prog 58 Int := opnInt .i64 Tryd.underlying58 (by kernel_rfl)
def opnSKind : Opn Tryd.prog 38 Int := opnInt .i64 Tryd.underlying38 (by kernel_rfl)
def opnCol : Opn Tryd.prog 60 ColS :=
  (opnStruct Tryd.underlying60 rfl (opnCons 1 opnI (by kernel_rfl) rfl (opnCons 1 opnStr (by kernel_rfl) rfl (opnCons 2 opnTyp (by kernel_rfl) rfl (opnCons 1 opnBo (by kernel_rfl) rfl (opnCons 4 opnVal (by kernel_rfl) rfl (opnCons 1 opnState (by kernel_rfl) rfl (opnNil 10))))))) (by kernel_rfl)).map
    (fun x : Int × ByteArray × TypS × Bool × ValS × Int × Unit => (⟨x.1, x.2.1, x.2.2.1, x.2.2.2.1, x.2.2.2.2.1, x.2.2.2.2.2.1⟩ : ColS)) colA (fun _ => True) (fun _ => rfl) (fun _ _ => trivial) fun _ => by kernel_rfl
def opnCols : Opn Tryd.prog 40 (List ColS) := (opnSlice opnCol 10 Tryd.underlying40 (by kernel_rfl) (by kernel_rfl) (by decide)).map id (fun l => [.fs 10 l.length (colsA l)]) (fun _ => True) (fun _ => rfl) (fun _ _ => trivial) fun _ => by kernel_rfl
def opnExprs : Opn Tryd.prog 28 (List ExprS) := (opnSlice opnExpr 13 Tryd.underlying28 (by kernel_rfl) (by kernel_rfl) (by decide)).map id erowA (fun _ => True) (fun l => by show erowA l = [.fs 13 l.length (l.flatMap exprA)]; rw [erowA, exprsA_eq]) (fun _ _ => trivial) fun _ => by kernel_rfl
def opnERows : Opn Tryd.prog 41 (List (List ExprS)) := (opnSlice opnExprs 1 Tryd.underlying41 (by kernel_rfl) (by kernel_rfl) (by decide)).map id (fun l => [.fs 1 l.length (erowsA l)]) (fun _ => True) (fun _ => rfl) (fun _ _ => trivial) fun _ => by kernel_rfl
def opnSet : Opn Tryd.prog 65 SetS :=
  (opnStruct Tryd.underlying65 rfl (opnCons 1 opnStr (by kernel_rfl) rfl (opnCons 13 opnExpr (by kernel_rfl) rfl (opnNil 14))) (by kernel_rfl)).map
    (fun x : ByteArray × ExprS × Unit => (⟨x.1, x.2.1⟩ : SetS)) setA (fun x => x.name.size ≤ maxLen) (fun x => by show setA ⟨x.1, x.2.1⟩ = [AV.c (.string x.1)] ++ (exprA x.2.1 ++ []); rw [List.append_nil]; rfl) (fun x h => h.1) fun _ => by kernel_rfl
def opnSets : Opn Tryd.prog 42 (List SetS) := (opnSlice opnSet 14 Tryd.underlying42 (by kernel_rfl) (by kernel_rfl) (by decide)).map id (fun l => [.fs 14 l.length (setsA l)]) (fun l => ∀ x ∈ l, x.name.size ≤ maxLen) (fun _ => rfl) (fun _ h => h.2) fun _ => by kernel_rfl
def opnItem : Opn Tryd.prog 69 ItemS :=
  (opnStruct Tryd.underlying69 rfl (opnCons 13 opnExpr (by kernel_rfl) rfl (opnCons 1 opnStr (by kernel_rfl) rfl (opnNil 14))) (by kernel_rfl)).map
    (fun x : ExprS × ByteArray × Unit => (⟨x.1, x.2.1⟩ : ItemS)) itemA (fun x => x.as_.size ≤ maxLen) (fun x => rfl) (fun x h => h.2.1) fun _ => by kernel_rfl
def opnItems : Opn Tryd.prog 43 (List ItemS) := (opnSlice opnItem 14 Tryd.underlying43 (by kernel_rfl) (by kernel_rfl) (by decide)).map id (fun l => [.fs 14 l.length (itemsA l)]) (fun l => ∀ x ∈ l, x.as_.size ≤ maxLen) (fun _ => rfl) (fun _ h => h.2) fun _ => by kernel_rfl
def opnSrc : Opn Tryd.prog 67 SrcS :=
  (opnStruct Tryd.underlying67 rfl (opnCons 1 opnStr (by kernel_rfl) rfl (opnCons 1 opnStr (by kernel_rfl) rfl (opnNil 2))) (by kernel_rfl)).map
    (fun x : ByteArray × ByteArray × Unit => (⟨x.1, x.2.1⟩ : SrcS)) srcA (fun x => x.tab.size ≤ maxLen ∧ x.as_.size ≤ maxLen) (fun x => rfl) (fun x h => ⟨h.1, h.2.1⟩) fun _ => by kernel_rfl
def opnSrcs : Opn Tryd.prog 44 (List SrcS) := (opnSlice opnSrc 2 Tryd.underlying44 (by kernel_rfl) (by kernel_rfl) (by decide)).map id (fun l => [.fs 2 l.length (srcsA l)]) (fun l => ∀ x ∈ l, x.tab.size ≤ maxLen ∧ x.as_.size ≤ maxLen) (fun _ => rfl) (fun _ h => h.2) fun _ => by kernel_rfl
def opnOrd : Opn Tryd.prog 72 OrdS :=
  (opnStruct Tryd.underlying72 rfl (opnCons 13 opnExpr (by kernel_rfl) rfl (opnCons 1 opnBo (by kernel_rfl) rfl (opnNil 14))) (by kernel_rfl)).map
    (fun x : ExprS × Bool × Unit => (⟨x.1, x.2.1⟩ : OrdS)) ordA (fun _ => True) (fun x => rfl) (fun _ _ => trivial) fun _ => by kernel_rfl
def opnOrds : Opn Tryd.prog 45 (List OrdS) := (opnSlice opnOrd 14 Tryd.underlying45 (by kernel_rfl) (by kernel_rfl) (by decide)).map id (fun l => [.fs 14 l.length (ordsA l)]) (fun _ => True) (fun _ => rfl) (fun _ _ => trivial) fun _ => by kernel_rfl
def opnStmt : Opn Tryd.prog 47 StmtS :=
  (opnStruct Tryd.underlying47 rfl (opnCons 1 opnSKind (by kernel_rfl) rfl (opnCons 1 opnStr (by kernel_rfl) rfl (opnCons 1 opnStr (by kernel_rfl) rfl (opnCons 1 opnBo (by kernel_rfl) rfl (opnCons 1 opnStrs (by kernel_rfl) rfl (opnCons 1 opnCols (by kernel_rfl) rfl (opnCons 1 opnERows (by kernel_rfl) rfl (opnCons 1 opnSets (by kernel_rfl) rfl (opnCons 1 opnExprs (by kernel_rfl) rfl (opnCons 1 opnItems (by kernel_rfl) rfl (opnCons 1 opnSrcs (by kernel_rfl) rfl (opnCons 1 opnExprs (by kernel_rfl) rfl (opnCons 1 opnExprs (by kernel_rfl) rfl (opnCons 1 opnOrds (by kernel_rfl) rfl (opnCons 1 opnI (by kernel_rfl) rfl (opnNil 15)))))))))))))))) (by kernel_rfl)).map
    (fun x : Int × ByteArray × ByteArray × Bool × List ByteArray × List ColS × List (List ExprS) × List SetS × List ExprS × List ItemS × List SrcS × List ExprS × List ExprS × List OrdS × Int × Unit => (⟨x.1, x.2.1, x.2.2.1, x.2.2.2.1, x.2.2.2.2.1, x.2.2.2.2.2.1, x.2.2.2.2.2.2.1, x.2.2.2.2.2.2.2.1, x.2.2.2.2.2.2.2.2.1, x.2.2.2.2.2.2.2.2.2.1, x.2.2.2.2.2.2.2.2.2.2.1, x.2.2.2.2.2.2.2.2.2.2.2.1, x.2.2.2.2.2.2.2.2.2.2.2.2.1, x.2.2.2.2.2.2.2.2.2.2.2.2.2.1, x.2.2.2.2.2.2.2.2.2.2.2.2.2.2.1⟩ : StmtS)) stmtA StmtOk (fun _ => rfl) (fun x h => ⟨h.2.2.2.2.2.2.2.1, h.2.2.2.2.2.2.2.2.2.1, h.2.2.2.2.2.2.2.2.2.2.1⟩) fun _ => by kernel_rfl
end Go.Proofs.YtlepkpfbejfpiaaDoor
namespace Go.Proofs.YtlepkpfbejfpiaaDoor
set_option linter.unusedVariables false
set_option linter.unusedSimpArgs false
open Go.RowKit Go.ChangeShapes Go.WideShapes Go.ChangeAt
attribute [local simp] isCut_nil isCut_region isCut_seq isCut_block isCut_loop isCut_cond isCut_skip isCut_exit isCut_ret isCut_range swapK putK altK condK_bool pickP_bool stepP stepO onPure_some onPure_none onImpl_some onImpl_none stepC onGP_some onGP_none onGV_some condG mkG onIt_it nextP_ptr takeP_eq takeV_some takeV_none takeU_some takeU_none takeQ takeW_some takeN_none takeN_some takeG_some takeO_some altO_some pureV binV2 eqF eqOp ovlV ovl2 rowAt capV binV intBin strBin isSh shV fldV ixV sliceV slice3V loadAV nilV lenV callV unV convV viewS cellsH loadV fldCut AV.ung AV.ungs AV.gc AV.cells AS.ev AS.put anyS gcsV lens lnO gV guardV retK RetP_eq resV oneV anyRo loIx hiIx implO callP_clo evL gcsL clearV storeAV AS.push AS.setO appV appZ shortS copyV buildV partsV fillV srcV fzO okV isCell_c isCell_ptr isCell_sl isCell_fs isCell_fp isCell_clo rowZ_one rowZ_zero rowZ_2 rowZ_3 rowZ_4 rowZ_5 rowZ_6 rowZ_7 rowZ_8 rowZ_9 rowZ_10 rowZ_11 rowZ_12 noHo Value.oneCell' max2V min2V afterH putBack frzFrom frzO rebO backIx nilEq_sl nilEq_fs nilOp_eql nilOp_neq AV.reb AV.rebL
attribute [local simp ↓] runK_skip runK_region runK_draw runK_seq runK_cut runK_cond runK_block runK_loop runK_exit runK_label runK_goto runK_ret runK_range contK_nil contK_seq contK_seq_ret contK_seq_exit contK_seq_goto contK_block contK_block_ret contK_block_goto contK_block_exit runO_nil runO_cons roundK_exit roundK_ret roundK_goto exitK_ret cutK_ret cutK_exit runE_done runE_nil runE_take runE_alt condG_true condG_false
set_option maxRecDepth 10000
/-! ## SyntaxStmts -/
theorem goL_all : ∀ (l : List ExprS) (n m : Nat), goL l n = some m → m ≤ 3000 → n ≤ m ∧ ∀ x ∈ l, sizeE 70 x ≤ 3000
  | [], n, m, h, _ => by
    simp only [goL, Option.some.injEq] at h
    exact ⟨by omega, fun x hx => by cases hx⟩
  | y :: l, n, m, h, hm => by
    rw [goL] at h
    split at h
    · cases h
    · obtain ⟨h1, h2⟩ := goL_all l _ m h hm
      refine ⟨by omega, fun x hx => ?_⟩
      rcases List.mem_cons.1 hx with rfl | hx
      · omega
      · exact h2 x hx
theorem fit_of_small {s : StmtS} (ho : StmtOk s) (h : smallS s = true) : FitS s := by
  have hmax : maxLen = 9223372036854775807 := rfl
  simp only [smallS, Bool.and_eq_true, decide_eq_true_eq] at h
  obtain ⟨⟨hP, hR⟩, hS⟩ := h
  obtain ⟨t1, t2⟩ := small_total hP hR
  have hr : ∀ r ∈ s.rows, r.length ≤ 50 := fun r hr => by have := List.all_eq_true.1 hR r hr; simpa [rowSm] using this
  cases hg : goL (exprsS s) 0 with
  | none => rw [hg] at hS; cases hS
  | some n =>
    rw [hg] at hS
    simp only [sumOk, Bool.and_eq_true, decide_eq_true_eq] at hS
    obtain ⟨⟨hC, hN⟩, hn⟩ := hS
    have hx := (goL_all _ _ _ hg hn).2
    have hf : ∀ x ∈ exprsS s, Fit x := fun x h => (size_good x 70 (hx x h)).2.1
    have hc : ∀ c ∈ s.cols, c.name.size ≤ 300 ∧ c.dft.t.size ≤ 300 := fun c hc => by have := List.all_eq_true.1 hC c hc; simpa [colSm] using this
    have hs : ∀ x ∈ s.names, x.size ≤ 300 := fun c hc => by have := List.all_eq_true.1 hN c hc; simpa [strSm] using this
    obtain ⟨p0, p1, p2, p3, p4, p5, p6, p7, p8, p9, p10, p11⟩ := hP
    have mem : ∀ x, x ∈ exprsS s ↔ ((((((∃ r, r ∈ s.rows ∧ x ∈ r) ∨ (∃ y ∈ s.sets, y.val = x)) ∨ (∃ y ∈ s.items, y.val = x)) ∨ x ∈ s.on_) ∨ x ∈ s.wher) ∨ x ∈ s.group) ∨ (∃ y ∈ s.order, y.val = x) := fun x => by
      simp only [exprsS, List.mem_append, List.mem_flatten, List.mem_map]
    refine ⟨by omega, by omega, ⟨by omega, fun x h => by have := hs x h; omega⟩, ⟨by omega, fun x h => by have := hc x h; omega⟩, ⟨by omega, fun r h => ⟨by have := hr r h; omega, fun x hx => hf x ((mem x).2 (.inl (.inl (.inl (.inl (.inl (.inl ⟨r, h, hx⟩)))))))⟩⟩,
      ⟨by omega, fun x h => ⟨by have := ho.sets x h; omega, hf _ ((mem _).2 (.inl (.inl (.inl (.inl (.inl (.inr ⟨x, h, rfl⟩)))))))⟩⟩, ⟨by omega, fun x h => hf x ((mem x).2 (.inl (.inl (.inr h))))⟩, ⟨by omega, fun x h => ⟨by have := ho.items x h; omega, hf _ ((mem _).2 (.inl (.inl (.inl (.inl (.inr ⟨x, h, rfl⟩))))))⟩⟩,
      ⟨by omega, fun x h => by have := ho.from_ x h; omega⟩, ⟨by omega, fun x h => hf x ((mem x).2 (.inl (.inl (.inl (.inr h)))))⟩, ⟨by omega, fun x h => hf x ((mem x).2 (.inl (.inr h)))⟩, ⟨by omega, fun x h => hf _ ((mem _).2 (.inr ⟨x, h, rfl⟩))⟩, t2⟩
set_option maxHeartbeats 8000000 in
theorem stmtsLaw_w (s : StmtS) (ho : StmtOk s) : ACalls Tryd.prog 4 [.agg (stmtA s)] [] (fun _ => false) (fun r h' => r = .c (.bool true)) := by
  refine acalls mixed Tryd.func4 rfl Tryd.ntmps4 rfl fun E hE hst hho => ?_
  have c0 := small_w s
  cases hS : smallS s with
  | false =>
    rw [hS] at c0
    simp (maxSteps := 1000000) [hho, noHo, stmtA, undef, onGP_none, condG_false, -List.reduceReplicate]
    refine call_x [] first_w rfl rfl ⟨rfl, rfl⟩ hho (by simp) (by decide) (by simp) (by simp) ?_
    simp (maxSteps := 1000000) [hho, noHo, undef, onGP_none, condG_false, -List.reduceReplicate]
    refine call_x [] c0 rfl rfl ⟨rfl, rfl⟩ hho (by simp) (by decide) (by simp) (by simp) ?_
    simp (maxSteps := 1000000) [hho, noHo, undef, onGP_none, condG_false, -List.reduceReplicate]
    exact Ret.drop (by rfl) rfl
  | true =>
    have h := fit_of_small ho hS
    rw [hS] at c0
    have c1 := rightS_w s h
    have c2 := rightRef_w s h
    have c3 := exprs_w s h.rows.1 h.tot
    have c4 := exprs_ref s h.rows.1 h.tot
    have c5 := sameExprs_ref true (exprsS s) (exprsS s) h.exprs (by have := h.tot; omega)
    rw [eqL_refl fun y _ => sameE_refl true y] at c5
    obtain ⟨B1, h1⟩ : ∃ B, B = rightS s := ⟨_, rfl⟩
    rw [← h1] at c1 c2
    simp (maxSteps := 1000000) [hho, noHo, stmtA, undef, onGP_none, condG_false, -List.reduceReplicate]
    refine call_x [] first_w rfl rfl ⟨rfl, rfl⟩ hho (by simp) (by decide) (by simp) (by simp) ?_
    simp (maxSteps := 1000000) [hho, noHo, undef, onGP_none, condG_false, -List.reduceReplicate]
    refine call_x [] c0 rfl rfl ⟨rfl, rfl⟩ hho (by simp) (by decide) (by simp) (by simp) ?_
    simp (maxSteps := 1000000) [hho, noHo, undef, onGP_none, condG_false, -List.reduceReplicate]
    refine draw_k hho (.take 0 (.take 2 (.alt 1 (.alt 3 (.take 4 (.take 5 (.take 6 (.take 8 (.alt 7 (.alt 9 (.alt 10 (.take 11 (.take 12 (.done))) (.nil)) (.nil)) (.nil)))))) (.nil)) (.nil)))) [0] [] (by decide +kernel) (by simp) ?_
    simp (maxSteps := 1000000) [hho, noHo, undef, onGP_none, condG_false, roOf, holdOf, wrOf, altK, heldOk, Region.binds, -List.reduceReplicate]
    intros
    refine call_h [] c1 rfl rfl ⟨rfl, rfl⟩ (by simp) (by simp) (by decide) (by simp) (by simp) ?_
    simp (maxSteps := 1000000) [hho, noHo, undef, onGP_none, condG_false, roOf, holdOf, wrOf, altK, heldOk, Region.binds, -List.reduceReplicate]
    intros
    refine call_h [] c2 rfl rfl ⟨rfl, rfl⟩ (by simp) (by simp) (by decide) (by simp) (by simp) ?_
    simp (maxSteps := 1000000) [hho, noHo, undef, onGP_none, condG_false, roOf, holdOf, wrOf, altK, heldOk, Region.binds, -List.reduceReplicate]
    intros
    refine call_h [] c3 rfl rfl ⟨rfl, rfl⟩ (by simp) (by simp) (by decide) (by simp) (by simp) ?_
    simp (maxSteps := 1000000) [hho, noHo, undef, onGP_none, condG_false, roOf, holdOf, wrOf, altK, heldOk, Region.binds, -List.reduceReplicate]
    intros
    refine call_h [] c4 rfl rfl ⟨rfl, rfl⟩ (by simp) (by simp) (by decide) (by simp) (by simp) ?_
    simp (maxSteps := 1000000) [hho, noHo, undef, onGP_none, condG_false, roOf, holdOf, wrOf, altK, heldOk, Region.binds, -List.reduceReplicate]
    intros
    refine call_h [] c5 rfl rfl ⟨rfl, rfl⟩ (by simp) (by simp) (by decide) (by simp) (by simp) ?_
    simp (maxSteps := 1000000) [hho, noHo, undef, onGP_none, condG_false, roOf, holdOf, wrOf, altK, heldOk, Region.binds, -List.reduceReplicate]
    intros
    exact Ret.drop (by rfl) rfl
end Go.Proofs.YtlepkpfbejfpiaaDoor
