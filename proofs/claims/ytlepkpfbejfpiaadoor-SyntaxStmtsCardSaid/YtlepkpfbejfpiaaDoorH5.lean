import Derived.Test.YtlepkpfbejfpiaaDoorYPb
import Derived.Test.YtlepkpfbejfpiaaDoorYPc
namespace Go.Proofs.YtlepkpfbejfpiaaDoor
set_option linter.unusedVariables false
set_option linter.unusedSimpArgs false
open Go.RowKit
attribute [local simp] isCut_nil isCut_region isCut_seq isCut_block isCut_loop isCut_cond isCut_skip isCut_exit isCut_ret isCut_range swapK putK altK condK_bool pickP_bool stepP stepO onPure_some onPure_none onImpl_some onImpl_none stepC onGP_some onGP_none onGV_some condG mkG onIt_it nextP_ptr takeP_eq takeV_some takeV_none takeU_some takeU_none takeQ takeW_some takeN_none takeN_some takeG_some takeO_some altO_some pureV binV2 eqF eqOp ovlV ovl2 rowAt capV binV intBin strBin isSh shV fldV ixV sliceV slice3V loadAV nilV lenV callV unV convV viewS cellsH loadV fldCut AV.ung AV.ungs AV.gc AV.cells AS.ev AS.put anyS gcsV lens lnO gV guardV retK RetP_eq resV oneV anyRo loIx hiIx implO callP_clo evL gcsL clearV storeAV AS.push AS.setO appV appZ shortS copyV buildV partsV fillV srcV fzO okV isCell_c isCell_ptr isCell_sl isCell_fs isCell_fp isCell_clo rowZ_one rowZ_zero rowZ_2 rowZ_3 rowZ_4 rowZ_5 rowZ_6 rowZ_7 rowZ_8 rowZ_9 rowZ_10 rowZ_11 rowZ_12 noHo Value.oneCell' max2V min2V afterH putBack frzFrom frzO rebO backIx nilEq_sl nilEq_fs nilOp_eql nilOp_neq AV.reb AV.rebL
attribute [local simp ↓] runK_skip runK_region runK_draw runK_seq runK_cut runK_cond runK_block runK_loop runK_exit runK_label runK_goto runK_ret runK_range contK_nil contK_seq contK_seq_ret contK_seq_exit contK_seq_goto contK_block contK_block_ret contK_block_goto contK_block_exit runO_nil runO_cons roundK_exit roundK_ret roundK_goto exitK_ret cutK_ret cutK_exit runE_done runE_nil runE_take runE_alt condG_true condG_false
set_option maxRecDepth 10000
theorem parts_w (s : StmtS) (h : Fit9 s) : ACalls Tryd.prog 31 [.agg (stmtA s)] [] (fun _ => false) (fun r h' => r = .tup [.agg (partA s), .c (.bool (partsOk s))] ∧ h' = []) := by
  by_cases h0 : s.kind = 0
  · exact parts_k0 s h h0
  by_cases h1 : s.kind = 1
  · exact parts_k1 s h h1
  by_cases h2 : s.kind = 2
  · exact parts_k2 s h h2
  by_cases h3 : s.kind = 3
  · exact parts_k3 s h h3
  by_cases h4 : s.kind = 4
  · exact parts_k4 s h h4
  by_cases h5 : s.kind = 5
  · exact parts_k5 s h h5
  by_cases h6 : s.kind = 6
  · exact parts_k6 s h h6
  by_cases h7 : s.kind = 7
  · exact parts_k7 s h h7
  by_cases h8 : s.kind = 8
  · exact parts_k8 s h h8
  by_cases h9 : s.kind = 9
  · exact parts_k9 s h h9
  exact parts_ke s h h0 h1 h2 h3 h4 h5 h6 h7 h8 h9
end Go.Proofs.YtlepkpfbejfpiaaDoor
namespace Go.Proofs.YtlepkpfbejfpiaaDoor
set_option linter.unusedVariables false
set_option linter.unusedSimpArgs false
open Go.RowKit
attribute [local simp] isCut_nil isCut_region isCut_seq isCut_block isCut_loop isCut_cond isCut_skip isCut_exit isCut_ret isCut_range swapK putK altK condK_bool pickP_bool stepP stepO onPure_some onPure_none onImpl_some onImpl_none stepC onGP_some onGP_none onGV_some condG mkG onIt_it nextP_ptr takeP_eq takeV_some takeV_none takeU_some takeU_none takeQ takeW_some takeN_none takeN_some takeG_some takeO_some altO_some pureV binV2 eqF eqOp ovlV ovl2 rowAt capV binV intBin strBin isSh shV fldV ixV sliceV slice3V loadAV nilV lenV callV unV convV viewS cellsH loadV fldCut AV.ung AV.ungs AV.gc AV.cells AS.ev AS.put anyS gcsV lens lnO gV guardV retK RetP_eq resV oneV anyRo loIx hiIx implO callP_clo evL gcsL clearV storeAV AS.push AS.setO appV appZ shortS copyV buildV partsV fillV srcV fzO okV isCell_c isCell_ptr isCell_sl isCell_fs isCell_fp isCell_clo rowZ_one rowZ_zero rowZ_2 rowZ_3 rowZ_4 rowZ_5 rowZ_6 rowZ_7 rowZ_8 rowZ_9 rowZ_10 rowZ_11 rowZ_12 noHo Value.oneCell' max2V min2V afterH putBack frzFrom frzO rebO backIx nilEq_sl nilEq_fs nilOp_eql nilOp_neq AV.reb AV.rebL
attribute [local simp ↓] runK_skip runK_region runK_draw runK_seq runK_cut runK_cond runK_block runK_loop runK_exit runK_label runK_goto runK_ret runK_range contK_nil contK_seq contK_seq_ret contK_seq_exit contK_seq_goto contK_block contK_block_ret contK_block_goto contK_block_exit runO_nil runO_cons roundK_exit roundK_ret roundK_goto exitK_ret cutK_ret cutK_exit runE_done runE_nil runE_take runE_alt condG_true condG_false
set_option maxRecDepth 10000
/-! ## Right, of a statement -/
def bareS (s : StmtS) : StmtS where
  kind := s.kind
  tab := if s.kind = 9 then ByteArray.empty else s.tab
  name := if s.kind = 1 ∨ s.kind = 2 ∨ s.kind = 4 ∨ s.kind = 5 then s.name else ByteArray.empty
  uniq := if s.kind = 1 then s.uniq else false
  names := if s.kind = 1 ∨ s.kind = 6 then s.names else []
  cols := if s.kind = 0 ∨ s.kind = 3 ∨ s.kind = 5 then s.cols else []
  rows := if s.kind = 6 then s.rows else []
  sets := if s.kind = 7 then s.sets else []
  wher := if s.kind = 7 ∨ s.kind = 8 ∨ s.kind = 9 then s.wher else []
  items := if s.kind = 9 then s.items else []
  from_ := if s.kind = 9 then s.from_ else []
  on_ := if s.kind = 9 then s.on_ else []
  group := if s.kind = 9 then s.group else []
  order := if s.kind = 9 then s.order else []
  limit := if s.kind = 9 then s.limit else -1
theorem nil_ite {c : Prop} [Decidable c] {α : Type} {sz : Nat} (f : List α → List AV) (h0 : f [] = []) (l : List α) {a b : List AV} (h : NilL a b) : NilL ((if c then .fs sz l.length (f l) else .c (.slice none 0 0)) :: a) (.fs sz (if c then l else []).length (f (if c then l else [])) :: b) := by
  by_cases hc : c
  · rw [if_pos hc, if_pos hc]; exact .same _ h
  · rw [if_neg hc, if_neg hc, h0]; exact .slice sz h
theorem part_nil (s : StmtS) : NilL (partA s) (stmtA (bareS s)) := by
  refine .same _ (.same _ (.same _ (.same _ ?_)))
  refine nil_ite strsA rfl _ (nil_ite colsA rfl _ (nil_ite erowsA rfl _ (nil_ite setsA rfl _ (nil_ite exprsA (by simp [exprsA]) _ (nil_ite itemsA rfl _ (nil_ite srcsA rfl _ (nil_ite exprsA (by simp [exprsA]) _ (nil_ite exprsA (by simp [exprsA]) _ (nil_ite ordsA rfl _ ?_)))))))))
  exact .same _ .nil
theorem FitS.f9 {s : StmtS} (h : FitS s) : Fit9 s := ⟨h.tab, h.name, h.names, h.cols, h.rows.1, ⟨h.sets.1, fun x hx => (h.sets.2 x hx).1⟩, ⟨h.items.1, fun x hx => (h.items.2 x hx).1⟩, h.from_⟩
theorem FitS.exprs {s : StmtS} (h : FitS s) : ∀ x ∈ exprsS s, Fit x := by
  intro x hx
  simp only [exprsS, List.mem_append, List.mem_flatten, List.mem_map] at hx
  rcases hx with (((((⟨r, hr, hx⟩ | ⟨y, hy, rfl⟩) | ⟨y, hy, rfl⟩) | hx) | hx) | hx) | ⟨y, hy, rfl⟩
  · exact (h.rows.2 r hr).2 x hx
  · exact (h.sets.2 y hy).2
  · exact (h.items.2 y hy).2
  · exact h.on_.2 x hx
  · exact h.wher.2 x hx
  · exact h.group.2 x hx
  · exact h.order.2 y hy
theorem partA_length (s : StmtS) : (partA s).length = 15 := rfl
theorem partA_cells (s : StmtS) : ∀ x ∈ partA s, isCell x = true := by
  intro x hx
  simp only [partA, List.mem_cons, List.mem_nil_iff, or_false] at hx
  rcases hx with rfl | rfl | rfl | rfl | rfl | rfl | rfl | rfl | rfl | rfl | rfl | rfl | rfl | rfl | rfl <;> first | rfl | (split <;> rfl)
theorem partA_D (s : StmtS) : (partA s).all isD = true := by
  rw [List.all_eq_true]
  intro x hx
  simp only [partA, List.mem_cons, List.mem_nil_iff, or_false] at hx
  rcases hx with rfl | rfl | rfl | rfl | rfl | rfl | rfl | rfl | rfl | rfl | rfl | rfl | rfl | rfl | rfl <;> first | rfl | (split <;> rfl)
set_option maxHeartbeats 8000000 in
theorem right1_w (x : ExprS) (hx : Fit x) : ACalls Tryd.prog 32 [.agg (exprA x)] [] (fun _ => false) (fun r h' => r = .c (.bool (!rightE 0 x)) ∧ h' = []) := by
  refine acalls mixed Tryd.func32 rfl Tryd.ntmps32 rfl fun E hE hst hho => ?_
  simp (maxSteps := 1000000) [hho, noHo, exprA, -List.reduceReplicate]
  refine call_x [] (rightExpr_w x hx) rfl rfl ⟨rfl, rfl⟩ hho (by simp) (by decide) (by simp) (by simp) ?_
  simp (maxSteps := 1000000) [hho, noHo, -List.reduceReplicate]
  exact Ret.drop (by rfl) ⟨rfl, rfl⟩
def rightS (s : StmtS) : Bool := shortOk s && partsOk s && sameS s (bareS s) && !((exprsS s).any fun x => !rightE 0 x)
set_option maxHeartbeats 8000000 in
theorem rightS_w (s : StmtS) (h : FitS s) : ACalls Tryd.prog 18 [.agg (stmtA s)] [] (fun _ => false) (fun r h' => r = .c (.bool (rightS s)) ∧ h' = []) := by
  refine acalls mixed Tryd.func18 rfl Tryd.ntmps18 rfl fun E hE hst hho => ?_
  have c1 := short_w s
  have c2 := parts_w s h.f9
  have c3 := same_w s (bareS s) h
  have c4 := exprs_w s h.rows.1 h.tot
  have c5 := cf_expr (exprsS s) (fun x => !rightE 0 x) 32 (by simp) (by have := h.tot; omega) fun x hx => right1_w x (h.exprs x hx)
  have hn := part_nil s
  have hAl := partA_length s
  have hAc := partA_cells s
  have hreb : ∀ β, AV.rebL β (partA s) = partA s := fun β => rebL_isD (partA_D s)
  obtain ⟨A, hA⟩ : ∃ A, A = partA s := ⟨_, rfl⟩
  obtain ⟨L, hL⟩ : ∃ L, L = exprsS s := ⟨_, rfl⟩
  obtain ⟨B1, h1⟩ : ∃ B, B = shortOk s := ⟨_, rfl⟩
  obtain ⟨B2, h2⟩ : ∃ B, B = partsOk s := ⟨_, rfl⟩
  obtain ⟨B3, h3⟩ : ∃ B, B = sameS s (bareS s) := ⟨_, rfl⟩
  obtain ⟨Q, hQ⟩ : ∃ B, B = (exprsS s).any fun x => !rightE 0 x := ⟨_, rfl⟩
  have hR : rightS s = (B1 && B2 && B3 && !Q) := by rw [h1, h2, h3, hQ]; rfl
  rw [hR]
  rw [← hA] at c2 hn hAl hAc hreb
  rw [← h1] at c1
  rw [← h2] at c2
  rw [← h3] at c3
  rw [← hQ] at c5
  rw [← hL] at c4 c5
  have hAt : List.take 15 A = A := List.take_of_length_le (by omega)
  clear hR hA h1 h2 h3 hQ hL
  simp (maxSteps := 1000000) [hho, noHo, stmtA, undef, onGP_none, condG_false, -List.reduceReplicate]
  refine call_x [] c1 rfl rfl ⟨rfl, rfl⟩ hho (by simp) (by decide) (by simp) (by simp) ?_
  cases B1 with
  | false =>
    simp (maxSteps := 1000000) [hho, noHo, undef, onGP_none, condG_false, -List.reduceReplicate]
    exact Ret.drop (by rfl) ⟨by simp, rfl⟩
  | true =>
    simp (maxSteps := 1000000) [hho, noHo, undef, onGP_none, condG_false, -List.reduceReplicate]
    refine call_x [] c2 rfl rfl ⟨rfl, rfl⟩ hho (by simp) (by decide) (by simp) (by simp) ?_
    cases B2 with
    | false =>
      simp (maxSteps := 1000000) [hho, noHo, hAl, hAt, hreb, undef, onGP_none, condG_false, -List.reduceReplicate]
      refine ⟨hAc, ?_⟩
      exact Ret.drop (by rfl) ⟨by simp, rfl⟩
    | true =>
      simp (maxSteps := 1000000) [hho, noHo, hAl, hAt, hreb, undef, onGP_none, condG_false, -List.reduceReplicate]
      refine ⟨hAc, ?_⟩
      refine callG_aggNil 1 rfl hn ?_
      refine call_x [] c3 rfl rfl ⟨rfl, rfl⟩ hho (by simp) (by decide) (by simp) (by simp) ?_
      cases B3 with
      | false =>
        simp (maxSteps := 1000000) [hho, noHo, hAl, hAt, hreb, undef, onGP_none, condG_false, -List.reduceReplicate]
        exact Ret.drop (by rfl) ⟨by simp, rfl⟩
      | true =>
        simp (maxSteps := 1000000) [hho, noHo, hAl, hAt, hreb, undef, onGP_none, condG_false, -List.reduceReplicate]
        refine call_x [] c4 rfl rfl ⟨rfl, rfl⟩ hho (by simp) (by decide) (by simp) (by simp) ?_
        simp (maxSteps := 1000000) [hho, noHo, hAl, hAt, hreb, undef, onGP_none, condG_false, -List.reduceReplicate]
        refine call_x [] c5 rfl rfl ⟨rfl, rfl⟩ hho (by simp) (by decide) (by simp) (by simp) ?_
        simp (maxSteps := 1000000) [hho, noHo, hAl, hAt, hreb, undef, onGP_none, condG_false, -List.reduceReplicate]
        exact Ret.drop (by rfl) ⟨by simp, rfl⟩
end Go.Proofs.YtlepkpfbejfpiaaDoor
