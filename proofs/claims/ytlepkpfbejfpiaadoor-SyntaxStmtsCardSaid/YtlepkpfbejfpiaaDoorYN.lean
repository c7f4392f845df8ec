import Derived.Test.YtlepkpfbejfpiaaDoorYM
namespace Go.Proofs.YtlepkpfbejfpiaaDoor
set_option linter.unusedVariables false
set_option linter.unusedSimpArgs false
open Go.RowKit
attribute [local simp] isCut_nil isCut_region isCut_seq isCut_block isCut_loop isCut_cond isCut_skip isCut_exit isCut_ret isCut_range swapK putK altK condK_bool pickP_bool stepP stepO onPure_some onPure_none onImpl_some onImpl_none stepC onGP_some onGP_none onGV_some condG mkG onIt_it nextP_ptr takeP_eq takeV_some takeV_none takeU_some takeU_none takeQ takeW_some takeN_none takeN_some takeG_some takeO_some altO_some pureV binV2 eqF eqOp ovlV ovl2 rowAt capV binV intBin strBin isSh shV fldV ixV sliceV slice3V loadAV nilV lenV callV unV convV viewS cellsH loadV fldCut AV.ung AV.ungs AV.gc AV.cells AS.ev AS.put anyS gcsV lens lnO gV guardV retK RetP_eq resV oneV anyRo loIx hiIx implO callP_clo evL gcsL clearV storeAV AS.push AS.setO appV appZ shortS copyV buildV partsV fillV srcV fzO okV isCell_c isCell_ptr isCell_sl isCell_fs isCell_fp isCell_clo rowZ_one rowZ_zero rowZ_2 rowZ_3 rowZ_4 rowZ_5 rowZ_6 rowZ_7 rowZ_8 rowZ_9 rowZ_10 rowZ_11 rowZ_12 noHo Value.oneCell' max2V min2V afterH putBack frzFrom frzO rebO backIx nilEq_sl nilEq_fs nilOp_eql nilOp_neq AV.reb AV.rebL
attribute [local simp ↓] runK_skip runK_region runK_draw runK_seq runK_cut runK_cond runK_block runK_loop runK_exit runK_label runK_goto runK_ret runK_range contK_nil contK_seq contK_seq_ret contK_seq_exit contK_seq_goto contK_block contK_block_ret contK_block_goto contK_block_exit runO_nil runO_cons roundK_exit roundK_ret roundK_goto exitK_ret cutK_ret cutK_exit runE_done runE_nil runE_take runE_alt condG_true condG_false
set_option maxRecDepth 10000
/-! ## Same -/
structure FitS (s : StmtS) : Prop where
  tab : s.tab.size ≤ 9223372036854775807
  name : s.name.size ≤ 9223372036854775807
  names : s.names.length ≤ 1000000 ∧ ∀ x ∈ s.names, x.size ≤ 9223372036854775807
  cols : s.cols.length ≤ 1000000 ∧ ∀ x ∈ s.cols, x.name.size ≤ 9223372036854775807 ∧ x.dft.t.size ≤ 9000000000000000000
  rows : s.rows.length ≤ 1000000 ∧ ∀ r ∈ s.rows, r.length ≤ 1000000 ∧ ∀ x ∈ r, Fit x
  sets : s.sets.length ≤ 1000000 ∧ ∀ x ∈ s.sets, x.name.size ≤ 9223372036854775807 ∧ Fit x.val
  wher : s.wher.length ≤ 1000000 ∧ ∀ x ∈ s.wher, Fit x
  items : s.items.length ≤ 1000000 ∧ ∀ x ∈ s.items, x.as_.size ≤ 9223372036854775807 ∧ Fit x.val
  from_ : s.from_.length ≤ 1000000 ∧ ∀ x ∈ s.from_, x.tab.size ≤ 9223372036854775807 ∧ x.as_.size ≤ 9223372036854775807
  on_ : s.on_.length ≤ 1000000 ∧ ∀ x ∈ s.on_, Fit x
  group : s.group.length ≤ 1000000 ∧ ∀ x ∈ s.group, Fit x
  order : s.order.length ≤ 1000000 ∧ ∀ x ∈ s.order, Fit x.val
  tot : (exprsS s).length ≤ 1000000
def headEq (a b : StmtS) : Bool := decide (a.kind = b.kind) && decide (a.tab = b.tab) && decide (a.name = b.name) && decide (a.uniq = b.uniq) && decide (a.limit = b.limit)
def sameS (a b : StmtS) : Bool := headEq a b && eqL strEq a.names b.names && eqL colEq a.cols b.cols && eqL srcEq a.from_ b.from_ && eqL (eqL (sameE false)) a.rows b.rows && eqL (sameE false) a.wher b.wher && eqL (sameE false) a.on_ b.on_ && eqL (sameE false) a.group b.group && eqL setEq a.sets b.sets && eqL itemEq a.items b.items && eqL ordEq a.order b.order
set_option maxHeartbeats 8000000 in
theorem same_w (a b : StmtS) (ha : FitS a) : ACalls Tryd.prog 22 [.agg (stmtA a), .agg (stmtA b)] [] (fun _ => false) (fun r h' => r = .c (.bool (sameS a b)) ∧ h' = []) := by
  refine acalls mixed Tryd.func22 rfl Tryd.ntmps22 rfl fun E hE hst hho => ?_
  have c1 := eq_str a.names b.names (by have := ha.names.1; omega)
  have c2 := eq_col a.cols b.cols (by have := ha.cols.1; omega)
  have c3 := eq_src a.from_ b.from_ (by have := ha.from_.1; omega)
  have c4 := ef_erow a.rows b.rows (eqL (sameE false)) 39 (by simp) (by have := ha.rows.1; omega) fun x hx y _ => sameExprs_w x y (ha.rows.2 x hx).2 (by have := (ha.rows.2 x hx).1; omega)
  have c5 := sameExprs_w a.wher b.wher ha.wher.2 (by have := ha.wher.1; omega)
  have c6 := sameExprs_w a.on_ b.on_ ha.on_.2 (by have := ha.on_.1; omega)
  have c7 := sameExprs_w a.group b.group ha.group.2 (by have := ha.group.1; omega)
  have c8 := ef_set a.sets b.sets setEq 41 (by simp) (by have := ha.sets.1; omega) fun x hx y _ => setEq_w x y (ha.sets.2 x hx).2
  have c9 := ef_item a.items b.items itemEq 44 (by simp) (by have := ha.items.1; omega) fun x hx y _ => itemEq_w x y (ha.items.2 x hx).2
  have c10 := ef_ord a.order b.order ordEq 46 (by simp) (by have := ha.order.1; omega) fun x hx y _ => ordEq_w x y (ha.order.2 x hx)
  obtain ⟨B1, h1⟩ : ∃ B, B = eqL strEq a.names b.names := ⟨_, rfl⟩
  obtain ⟨B2, h2⟩ : ∃ B, B = eqL colEq a.cols b.cols := ⟨_, rfl⟩
  obtain ⟨B3, h3⟩ : ∃ B, B = eqL srcEq a.from_ b.from_ := ⟨_, rfl⟩
  obtain ⟨B4, h4⟩ : ∃ B, B = eqL (eqL (sameE false)) a.rows b.rows := ⟨_, rfl⟩
  obtain ⟨B5, h5⟩ : ∃ B, B = eqL (sameE false) a.wher b.wher := ⟨_, rfl⟩
  obtain ⟨B6, h6⟩ : ∃ B, B = eqL (sameE false) a.on_ b.on_ := ⟨_, rfl⟩
  obtain ⟨B7, h7⟩ : ∃ B, B = eqL (sameE false) a.group b.group := ⟨_, rfl⟩
  obtain ⟨B8, h8⟩ : ∃ B, B = eqL setEq a.sets b.sets := ⟨_, rfl⟩
  obtain ⟨B9, h9⟩ : ∃ B, B = eqL itemEq a.items b.items := ⟨_, rfl⟩
  obtain ⟨B10, h10⟩ : ∃ B, B = eqL ordEq a.order b.order := ⟨_, rfl⟩
  have hS : sameS a b = (headEq a b && B1 && B2 && B3 && B4 && B5 && B6 && B7 && B8 && B9 && B10) := by rw [h1, h2, h3, h4, h5, h6, h7, h8, h9, h10]; rfl
  rw [← h1] at c1
  rw [← h2] at c2
  rw [← h3] at c3
  rw [← h4] at c4
  rw [← h5] at c5
  rw [← h6] at c6
  rw [← h7] at c7
  rw [← h8] at c8
  rw [← h9] at c9
  rw [← h10] at c10
  rw [hS]
  clear hS h1 h2 h3 h4 h5 h6 h7 h8 h9 h10
  simp (maxSteps := 1000000) [hho, noHo, stmtA, undef, onGP_none, condG_false, -List.reduceReplicate]
  split
  · rename_i hC
    have hd : headEq a b = false := by
      rw [Bool.eq_false_iff]; intro hd; simp [headEq] at hd; grind
    exact Ret.drop (by rfl) ⟨by rw [hd]; simp, rfl⟩
  rename_i hC
  have hd : headEq a b = true := by simp [headEq]; grind
  rw [hd, Bool.true_and]
  clear hC hd
  refine call_x [] c1 rfl rfl ⟨rfl, rfl⟩ hho (by simp) (by decide) (by simp) (by simp) ?_
  cases B1 with
  | false =>
    simp (maxSteps := 1000000) [hho, noHo, undef, onGP_none, condG_false, -List.reduceReplicate]
    exact Ret.drop (by rfl) ⟨by simp, rfl⟩
  | true =>
    simp (maxSteps := 1000000) [hho, noHo, undef, onGP_none, condG_false, -List.reduceReplicate]
    refine call_x [] c2 rfl rfl ⟨rfl, rfl⟩ hho (by simp) (by decide) (by simp) (by simp) ?_
    cases B2 with
    | false =>
      simp (maxSteps := 1000000) [hho, noHo, undef, onGP_none, condG_false, -List.reduceReplicate]
      exact Ret.drop (by rfl) ⟨by simp, rfl⟩
    | true =>
      simp (maxSteps := 1000000) [hho, noHo, undef, onGP_none, condG_false, -List.reduceReplicate]
      refine call_x [] c3 rfl rfl ⟨rfl, rfl⟩ hho (by simp) (by decide) (by simp) (by simp) ?_
      cases B3 with
      | false =>
        simp (maxSteps := 1000000) [hho, noHo, undef, onGP_none, condG_false, -List.reduceReplicate]
        exact Ret.drop (by rfl) ⟨by simp, rfl⟩
      | true =>
        simp (maxSteps := 1000000) [hho, noHo, undef, onGP_none, condG_false, -List.reduceReplicate]
        refine call_x [] c4 rfl rfl ⟨rfl, rfl⟩ hho (by simp) (by decide) (by simp) (by simp) ?_
        cases B4 with
        | false =>
          simp (maxSteps := 1000000) [hho, noHo, undef, onGP_none, condG_false, -List.reduceReplicate]
          exact Ret.drop (by rfl) ⟨by simp, rfl⟩
        | true =>
          simp (maxSteps := 1000000) [hho, noHo, undef, onGP_none, condG_false, -List.reduceReplicate]
          refine call_x [] c5 rfl rfl ⟨rfl, rfl⟩ hho (by simp) (by decide) (by simp) (by simp) ?_
          cases B5 with
          | false =>
            simp (maxSteps := 1000000) [hho, noHo, undef, onGP_none, condG_false, -List.reduceReplicate]
            exact Ret.drop (by rfl) ⟨by simp, rfl⟩
          | true =>
            simp (maxSteps := 1000000) [hho, noHo, undef, onGP_none, condG_false, -List.reduceReplicate]
            refine call_x [] c6 rfl rfl ⟨rfl, rfl⟩ hho (by simp) (by decide) (by simp) (by simp) ?_
            cases B6 with
            | false =>
              simp (maxSteps := 1000000) [hho, noHo, undef, onGP_none, condG_false, -List.reduceReplicate]
              exact Ret.drop (by rfl) ⟨by simp, rfl⟩
            | true =>
              simp (maxSteps := 1000000) [hho, noHo, undef, onGP_none, condG_false, -List.reduceReplicate]
              refine call_x [] c7 rfl rfl ⟨rfl, rfl⟩ hho (by simp) (by decide) (by simp) (by simp) ?_
              cases B7 with
              | false =>
                simp (maxSteps := 1000000) [hho, noHo, undef, onGP_none, condG_false, -List.reduceReplicate]
                exact Ret.drop (by rfl) ⟨by simp, rfl⟩
              | true =>
                simp (maxSteps := 1000000) [hho, noHo, undef, onGP_none, condG_false, -List.reduceReplicate]
                refine call_x [] c8 rfl rfl ⟨rfl, rfl⟩ hho (by simp) (by decide) (by simp) (by simp) ?_
                simp (maxSteps := 1000000) [hho, noHo, undef, onGP_none, condG_false, -List.reduceReplicate]
                refine call_x [] c9 rfl rfl ⟨rfl, rfl⟩ hho (by simp) (by decide) (by simp) (by simp) ?_
                simp (maxSteps := 1000000) [hho, noHo, undef, onGP_none, condG_false, -List.reduceReplicate]
                refine call_x [] c10 rfl rfl ⟨rfl, rfl⟩ hho (by simp) (by decide) (by simp) (by simp) ?_
                cases B8 <;> cases B9 <;>
                · simp (maxSteps := 1000000) [hho, noHo, undef, onGP_none, condG_false, -List.reduceReplicate]
                  exact Ret.drop (by rfl) ⟨by simp, rfl⟩
end Go.Proofs.YtlepkpfbejfpiaaDoor
