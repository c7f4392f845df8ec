import Derived.Test.YtlepkpfbejfpiaaDoorYE
namespace Go.Proofs.YtlepkpfbejfpiaaDoor
set_option linter.unusedVariables false
set_option linter.unusedSimpArgs false
open Go.RowKit
attribute [local simp] isCut_nil isCut_region isCut_seq isCut_block isCut_loop isCut_cond isCut_skip isCut_exit isCut_ret isCut_range swapK putK altK condK_bool pickP_bool stepP stepO onPure_some onPure_none onImpl_some onImpl_none stepC onGP_some onGP_none onGV_some condG mkG onIt_it nextP_ptr takeP_eq takeV_some takeV_none takeU_some takeU_none takeQ takeW_some takeN_none takeN_some takeG_some takeO_some altO_some pureV binV2 eqF eqOp ovlV ovl2 rowAt capV binV intBin strBin isSh shV fldV ixV sliceV slice3V loadAV nilV lenV callV unV convV viewS cellsH loadV fldCut AV.ung AV.ungs AV.gc AV.cells AS.ev AS.put anyS gcsV lens lnO gV guardV retK RetP_eq resV oneV anyRo loIx hiIx implO callP_clo evL gcsL clearV storeAV AS.push AS.setO appV appZ shortS copyV buildV partsV fillV srcV fzO okV isCell_c isCell_ptr isCell_sl isCell_fs isCell_fp isCell_clo rowZ_one rowZ_zero rowZ_2 rowZ_3 rowZ_4 rowZ_5 rowZ_6 rowZ_7 rowZ_8 rowZ_9 rowZ_10 rowZ_11 rowZ_12 noHo Value.oneCell' max2V min2V afterH putBack frzFrom frzO rebO backIx nilEq_sl nilEq_fs nilOp_eql nilOp_neq AV.reb AV.rebL
attribute [local simp ↓] runK_skip runK_region runK_draw runK_seq runK_cut runK_cond runK_block runK_loop runK_exit runK_label runK_goto runK_ret runK_range contK_nil contK_seq contK_seq_ret contK_seq_exit contK_seq_goto contK_block contK_block_ret contK_block_goto contK_block_exit runO_nil runO_cons roundK_exit roundK_ret roundK_goto exitK_ret cutK_ret cutK_exit runE_done runE_nil runE_take runE_alt condG_true condG_false
set_option maxRecDepth 10000
/-! ## own -/
def bareE (e : ExprS) : ExprS := .mk e.kind e.at_ (if e.kind = 2 ∨ e.kind = 3 ∨ e.kind = 5 then e.op else ByteArray.empty) (if e.kind = 0 then e.val else ⟨0, 0, 0, ByteArray.empty⟩) (if e.kind = 1 then e.tab else ByteArray.empty) (if e.kind = 1 then e.name else ByteArray.empty) (if e.kind = 4 then e.neg else false) (if e.kind = 6 then e.ty else ⟨0, 0⟩) []
def kindOk (e : ExprS) : Bool :=
  if e.kind = 0 then litOk e.val
  else if e.kind = 1 then nameOk e.name && (decide (e.tab = ByteArray.empty) || nameOk e.tab)
  else if e.kind = 2 then decide (e.op = { data := #[78, 79, 84] }) || decide (e.op = { data := #[45] })
  else if e.kind = 3 then memS binL e.op
  else if e.kind = 4 then true
  else if e.kind = 5 then memS callL e.op
  else if e.kind = 6 then typOk e.ty
  else false
def ownOk (e : ExprS) : Bool := kindOk e && alikeB e (bareE e)
def E9 (x : ExprS) : Prop := x.op.size ≤ 9000000000000000000 ∧ x.val.t.size ≤ 9000000000000000000 ∧ x.tab.size ≤ 9000000000000000000 ∧ x.name.size ≤ 9000000000000000000
set_option maxHeartbeats 8000000 in
theorem own_w (e : ExprS) (he : E9 e) : ACalls Tryd.prog 47 [.agg (exprA e)] [] (fun _ => false) (fun r h' => r = .c (.bool (ownOk e)) ∧ h' = []) := by
  refine acalls mixed Tryd.func47 rfl Tryd.ntmps47 rfl fun E hE hst hho => ?_
  obtain ⟨he1, he2, he3, he4⟩ := he
  have hem : (ByteArray.empty = { data := #[] }) = True := eq_true rfl
  have hem : (ByteArray.empty = { data := #[] }) = True := eq_true rfl
  have ha := alike_nil e (bareE e)
  obtain ⟨A, hA⟩ : ∃ A, A = alikeB e (bareE e) := ⟨_, rfl⟩
  rw [← hA] at ha
  by_cases k0 : e.kind = 0
  · have hl := literal_w e.val he2
    obtain ⟨R, hR⟩ : ∃ R, R = litOk e.val := ⟨_, rfl⟩
    rw [← hR] at hl
    have hown : ownOk e = (R && A) := by simp [ownOk, kindOk, k0, hR, hA]
    clear hR hA
    have eb : bareE e = .mk 0 e.at_ ByteArray.empty e.val ByteArray.empty ByteArray.empty false ⟨0, 0⟩ [] := by simp [bareE, k0]
    rw [eb] at ha
    simp only [exprA, hdA, k0, ExprS.kind_mk, ExprS.at__mk, ExprS.op_mk, ExprS.val_mk, ExprS.tab_mk, ExprS.name_mk, ExprS.neg_mk, ExprS.ty_mk, ExprS.kids_mk, List.cons_append, List.nil_append] at ha
    cases R with
    | true =>
      simp (maxSteps := 1000000) [hho, noHo, exprA, k0, undef, onGP_none, condG_false, -List.reduceReplicate]
      refine draw_k hho (.take 0 (.take 1 (.take 2 (.take 3 (.take 5 (.alt 4 (.alt 6 (.take 7 (.done)) (.nil)) (.nil))))))) [0] [(6, [1])] (by decide +kernel) (by simp) ?_
      simp (maxSteps := 1000000) [hho, roOf, holdOf, wrOf, altK, heldOk, Region.binds, -List.reduceReplicate]
      intro E1
      refine call_h [] hl rfl rfl ⟨rfl, rfl⟩ (by simp) (by simp) (by decide) (by simp) (by simp) ?_
      simp (maxSteps := 1000000) [hho, roOf, holdOf, wrOf, altK, heldOk, Region.binds, -List.reduceReplicate]
      intro E2
      refine call_x [] ha rfl rfl ⟨rfl, rfl⟩ hho (by simp) (by decide) (by simp) (by simp) ?_
      simp (maxSteps := 1000000) [hho, noHo, -List.reduceReplicate]
      exact Ret.drop (by rfl) ⟨by rw [hown]; rfl, rfl⟩
    | false =>
      simp (maxSteps := 1000000) [hho, noHo, exprA, k0, undef, onGP_none, condG_false, -List.reduceReplicate]
      refine draw_k hho (.take 0 (.take 1 (.take 2 (.take 3 (.take 5 (.alt 4 (.alt 6 (.take 7 (.done)) (.nil)) (.nil))))))) [0] [(6, [1])] (by decide +kernel) (by simp) ?_
      simp (maxSteps := 1000000) [hho, roOf, holdOf, wrOf, altK, heldOk, Region.binds, -List.reduceReplicate]
      intro E1
      refine call_h [] hl rfl rfl ⟨rfl, rfl⟩ (by simp) (by simp) (by decide) (by simp) (by simp) ?_
      simp (maxSteps := 1000000) [hho, roOf, holdOf, wrOf, altK, heldOk, Region.binds, undef, onGP_none, condG_false, -List.reduceReplicate]
      intro E2
      exact Ret.drop (by rfl) ⟨by rw [hown]; rfl, rfl⟩
  by_cases k1 : e.kind = 1
  · have hl := name_sch e.name he4
    have hl2 := name_sch e.tab he3
    have eb : bareE e = .mk 1 e.at_ ByteArray.empty ⟨0, 0, 0, ByteArray.empty⟩ e.tab e.name false ⟨0, 0⟩ [] := by simp [bareE, k1]
    rw [eb] at ha
    simp only [exprA, hdA, k1, ExprS.kind_mk, ExprS.at__mk, ExprS.op_mk, ExprS.val_mk, ExprS.tab_mk, ExprS.name_mk, ExprS.neg_mk, ExprS.ty_mk, ExprS.kids_mk, List.cons_append, List.nil_append] at ha
    have hown : ownOk e = (nameOk e.name && (decide (e.tab = ByteArray.empty) || nameOk e.tab) && A) := by simp [ownOk, kindOk, k1, hA]
    cases hN : nameOk e.name with
    | false =>
      rw [hN] at hl
      simp (maxSteps := 1000000) [hho, noHo, exprA, k1, undef, onGP_none, condG_false, -List.reduceReplicate]
      refine draw_k hho (.take 0 (.take 1 (.take 2 (.take 3 (.take 4 (.alt 5 (.take 6 (.alt 7 (.done) (.nil))) (.nil))))))) [0] [(5, [1]), (7, [1])] (by decide +kernel) (by simp) ?_
      simp (maxSteps := 1000000) [hho, roOf, holdOf, wrOf, altK, heldOk, Region.binds, -List.reduceReplicate]
      intro E1 E2
      refine call_x [] hl rfl rfl ⟨rfl, rfl⟩ hho (by simp) (by decide) (by simp) (by simp) ?_
      simp (maxSteps := 1000000) [hho, noHo, undef, onGP_none, condG_false, -List.reduceReplicate]
      exact Ret.drop (by rfl) ⟨by rw [hown, hN]; rfl, rfl⟩
    | true =>
      rw [hN] at hl
      by_cases hT : e.tab = ByteArray.empty
      · simp (maxSteps := 1000000) [hho, noHo, exprA, k1, undef, onGP_none, condG_false, -List.reduceReplicate]
        refine draw_k hho (.take 0 (.take 1 (.take 2 (.take 3 (.take 4 (.alt 5 (.take 6 (.alt 7 (.done) (.nil))) (.nil))))))) [0] [(5, [1]), (7, [1])] (by decide +kernel) (by simp) ?_
        simp (maxSteps := 1000000) [hho, roOf, holdOf, wrOf, altK, heldOk, Region.binds, -List.reduceReplicate]
        intro E1 E2
        refine call_x [] hl rfl rfl ⟨rfl, rfl⟩ hho (by simp) (by decide) (by simp) (by simp) ?_
        simp (maxSteps := 1000000) [hho, noHo, hT, hem, undef, onGP_none, condG_false, -List.reduceReplicate]
        simp only [hT] at ha
        refine call_x [] ha rfl rfl ⟨rfl, rfl⟩ hho (by simp) (by decide) (by simp) (by simp) ?_
        simp (maxSteps := 1000000) [hho, noHo, -List.reduceReplicate]
        exact Ret.drop (by rfl) ⟨by rw [hown, hN]; simp [hT], rfl⟩
      · have hT2 : ¬ e.tab = { data := #[] } := hT
        cases hN2 : nameOk e.tab with
        | false =>
          rw [hN2] at hl2
          simp (maxSteps := 1000000) [hho, noHo, exprA, k1, undef, onGP_none, condG_false, -List.reduceReplicate]
          refine draw_k hho (.take 0 (.take 1 (.take 2 (.take 3 (.take 4 (.alt 5 (.take 6 (.alt 7 (.done) (.nil))) (.nil))))))) [0] [(5, [1]), (7, [1])] (by decide +kernel) (by simp) ?_
          simp (maxSteps := 1000000) [hho, roOf, holdOf, wrOf, altK, heldOk, Region.binds, -List.reduceReplicate]
          intro E1 E2
          refine call_x [] hl rfl rfl ⟨rfl, rfl⟩ hho (by simp) (by decide) (by simp) (by simp) ?_
          simp (maxSteps := 1000000) [hho, noHo, hT, hT2, undef, onGP_none, condG_false, -List.reduceReplicate]
          refine call_x [] hl2 rfl rfl ⟨rfl, rfl⟩ hho (by simp) (by decide) (by simp) (by simp) ?_
          simp (maxSteps := 1000000) [hho, noHo, undef, onGP_none, condG_false, -List.reduceReplicate]
          exact Ret.drop (by rfl) ⟨by rw [hown, hN, hN2]; simp [hT], rfl⟩
        | true =>
          rw [hN2] at hl2
          simp (maxSteps := 1000000) [hho, noHo, exprA, k1, undef, onGP_none, condG_false, -List.reduceReplicate]
          refine draw_k hho (.take 0 (.take 1 (.take 2 (.take 3 (.take 4 (.alt 5 (.take 6 (.alt 7 (.done) (.nil))) (.nil))))))) [0] [(5, [1]), (7, [1])] (by decide +kernel) (by simp) ?_
          simp (maxSteps := 1000000) [hho, roOf, holdOf, wrOf, altK, heldOk, Region.binds, -List.reduceReplicate]
          intro E1 E2
          refine call_x [] hl rfl rfl ⟨rfl, rfl⟩ hho (by simp) (by decide) (by simp) (by simp) ?_
          simp (maxSteps := 1000000) [hho, noHo, hT, hT2, undef, onGP_none, condG_false, -List.reduceReplicate]
          refine call_x [] hl2 rfl rfl ⟨rfl, rfl⟩ hho (by simp) (by decide) (by simp) (by simp) ?_
          simp (maxSteps := 1000000) [hho, noHo, undef, onGP_none, condG_false, -List.reduceReplicate]
          refine call_x [] ha rfl rfl ⟨rfl, rfl⟩ hho (by simp) (by decide) (by simp) (by simp) ?_
          simp (maxSteps := 1000000) [hho, noHo, -List.reduceReplicate]
          exact Ret.drop (by rfl) ⟨by rw [hown, hN, hN2]; simp, rfl⟩
  by_cases k2 : e.kind = 2
  · have hown : ownOk e = ((decide (e.op = { data := #[78, 79, 84] }) || decide (e.op = { data := #[45] })) && A) := by simp [ownOk, kindOk, k2, hA]
    have eb : bareE e = .mk 2 e.at_ e.op ⟨0, 0, 0, ByteArray.empty⟩ ByteArray.empty ByteArray.empty false ⟨0, 0⟩ [] := by simp [bareE, k2]
    rw [eb] at ha
    simp only [exprA, hdA, k2, ExprS.kind_mk, ExprS.at__mk, ExprS.op_mk, ExprS.val_mk, ExprS.tab_mk, ExprS.name_mk, ExprS.neg_mk, ExprS.ty_mk, ExprS.kids_mk, List.cons_append, List.nil_append] at ha
    by_cases o1 : e.op = { data := #[78, 79, 84] }
    · simp (maxSteps := 1000000) [hho, noHo, exprA, k2, undef, onGP_none, condG_false, -List.reduceReplicate]
      refine draw_k hho (.take 0 (.take 1 (.take 2 (.take 3 (.take 4 (.take 5 (.take 6 (.take 7 (.take 8 (.take 9 (.take 10 (.alt 11 (.take 12 (.done)) (.nil))))))))))))) [0] [(11, [1])] (by decide +kernel) (by simp) ?_
      simp (maxSteps := 1000000) [hho, o1, roOf, holdOf, wrOf, altK, heldOk, Region.binds, undef, onGP_none, condG_false, -List.reduceReplicate]
      intro E1
      simp only [o1] at ha
      refine call_x [] ha rfl rfl ⟨rfl, rfl⟩ hho (by simp) (by decide) (by simp) (by simp) ?_
      simp (maxSteps := 1000000) [hho, noHo, -List.reduceReplicate]
      exact Ret.drop (by rfl) ⟨by rw [hown]; simp [o1], rfl⟩
    · by_cases o2 : e.op = { data := #[45] }
      · simp (maxSteps := 1000000) [hho, noHo, exprA, k2, undef, onGP_none, condG_false, -List.reduceReplicate]
        refine draw_k hho (.take 0 (.take 1 (.take 2 (.take 3 (.take 4 (.take 5 (.take 6 (.take 7 (.take 8 (.take 9 (.take 10 (.alt 11 (.take 12 (.done)) (.nil))))))))))))) [0] [(11, [1])] (by decide +kernel) (by simp) ?_
        simp (maxSteps := 1000000) [hho, o2, roOf, holdOf, wrOf, altK, heldOk, Region.binds, undef, onGP_none, condG_false, -List.reduceReplicate]
        intro E1
        simp only [o2] at ha
        refine call_x [] ha rfl rfl ⟨rfl, rfl⟩ hho (by simp) (by decide) (by simp) (by simp) ?_
        simp (maxSteps := 1000000) [hho, noHo, -List.reduceReplicate]
        exact Ret.drop (by rfl) ⟨by rw [hown]; simp [o2], rfl⟩
      · simp (maxSteps := 1000000) [hho, noHo, exprA, k2, undef, onGP_none, condG_false, -List.reduceReplicate]
        refine draw_k hho (.take 0 (.take 1 (.take 2 (.take 3 (.take 4 (.take 5 (.take 6 (.take 7 (.take 8 (.take 9 (.take 10 (.alt 11 (.take 12 (.done)) (.nil))))))))))))) [0] [(11, [1])] (by decide +kernel) (by simp) ?_
        simp (maxSteps := 1000000) [hho, o1, o2, roOf, holdOf, wrOf, altK, heldOk, Region.binds, undef, onGP_none, condG_false, -List.reduceReplicate]
        intro E1
        exact Ret.drop (by rfl) ⟨by rw [hown]; simp [o1, o2], rfl⟩
  by_cases k3 : e.kind = 3
  · have hl := binary_w e.op
    obtain ⟨R, hR⟩ : ∃ R, R = memS binL e.op := ⟨_, rfl⟩
    rw [← hR] at hl
    have hown : ownOk e = (R && A) := by simp [ownOk, kindOk, k3, hR, hA]
    clear hR hA
    have eb : bareE e = .mk 3 e.at_ e.op ⟨0, 0, 0, ByteArray.empty⟩ ByteArray.empty ByteArray.empty false ⟨0, 0⟩ [] := by simp [bareE, k3]
    rw [eb] at ha
    simp only [exprA, hdA, k3, ExprS.kind_mk, ExprS.at__mk, ExprS.op_mk, ExprS.val_mk, ExprS.tab_mk, ExprS.name_mk, ExprS.neg_mk, ExprS.ty_mk, ExprS.kids_mk, List.cons_append, List.nil_append] at ha
    cases R with
    | true =>
      simp (maxSteps := 1000000) [hho, noHo, exprA, k3, undef, onGP_none, condG_false, -List.reduceReplicate]
      refine draw_k hho (.take 0 (.take 1 (.take 2 (.take 3 (.take 5 (.alt 4 (.alt 6 (.take 7 (.done)) (.nil)) (.nil))))))) [0] [(6, [1])] (by decide +kernel) (by simp) ?_
      simp (maxSteps := 1000000) [hho, roOf, holdOf, wrOf, altK, heldOk, Region.binds, -List.reduceReplicate]
      intro E1
      refine call_h [] hl rfl rfl ⟨rfl, rfl⟩ (by simp) (by simp) (by decide) (by simp) (by simp) ?_
      simp (maxSteps := 1000000) [hho, roOf, holdOf, wrOf, altK, heldOk, Region.binds, -List.reduceReplicate]
      intro E2
      refine call_x [] ha rfl rfl ⟨rfl, rfl⟩ hho (by simp) (by decide) (by simp) (by simp) ?_
      simp (maxSteps := 1000000) [hho, noHo, -List.reduceReplicate]
      exact Ret.drop (by rfl) ⟨by rw [hown]; rfl, rfl⟩
    | false =>
      simp (maxSteps := 1000000) [hho, noHo, exprA, k3, undef, onGP_none, condG_false, -List.reduceReplicate]
      refine draw_k hho (.take 0 (.take 1 (.take 2 (.take 3 (.take 5 (.alt 4 (.alt 6 (.take 7 (.done)) (.nil)) (.nil))))))) [0] [(6, [1])] (by decide +kernel) (by simp) ?_
      simp (maxSteps := 1000000) [hho, roOf, holdOf, wrOf, altK, heldOk, Region.binds, -List.reduceReplicate]
      intro E1
      refine call_h [] hl rfl rfl ⟨rfl, rfl⟩ (by simp) (by simp) (by decide) (by simp) (by simp) ?_
      simp (maxSteps := 1000000) [hho, roOf, holdOf, wrOf, altK, heldOk, Region.binds, undef, onGP_none, condG_false, -List.reduceReplicate]
      intro E2
      exact Ret.drop (by rfl) ⟨by rw [hown]; rfl, rfl⟩
  by_cases k4 : e.kind = 4
  · have hown : ownOk e = A := by simp [ownOk, kindOk, k4, hA]
    have eb : bareE e = .mk 4 e.at_ ByteArray.empty ⟨0, 0, 0, ByteArray.empty⟩ ByteArray.empty ByteArray.empty e.neg ⟨0, 0⟩ [] := by simp [bareE, k4]
    rw [eb] at ha
    simp only [exprA, hdA, k4, ExprS.kind_mk, ExprS.at__mk, ExprS.op_mk, ExprS.val_mk, ExprS.tab_mk, ExprS.name_mk, ExprS.neg_mk, ExprS.ty_mk, ExprS.kids_mk, List.cons_append, List.nil_append] at ha
    simp (maxSteps := 1000000) [hho, noHo, exprA, k4, undef, onGP_none, condG_false, -List.reduceReplicate]
    refine call_x [] ha rfl rfl ⟨rfl, rfl⟩ hho (by simp) (by decide) (by simp) (by simp) ?_
    simp (maxSteps := 1000000) [hho, noHo, -List.reduceReplicate]
    exact Ret.drop (by rfl) ⟨by rw [hown], rfl⟩
  by_cases k5 : e.kind = 5
  · have hl := call_w e.op
    obtain ⟨R, hR⟩ : ∃ R, R = memS callL e.op := ⟨_, rfl⟩
    rw [← hR] at hl
    have hown : ownOk e = (R && A) := by simp [ownOk, kindOk, k5, hR, hA]
    clear hR hA
    have eb : bareE e = .mk 5 e.at_ e.op ⟨0, 0, 0, ByteArray.empty⟩ ByteArray.empty ByteArray.empty false ⟨0, 0⟩ [] := by simp [bareE, k5]
    rw [eb] at ha
    simp only [exprA, hdA, k5, ExprS.kind_mk, ExprS.at__mk, ExprS.op_mk, ExprS.val_mk, ExprS.tab_mk, ExprS.name_mk, ExprS.neg_mk, ExprS.ty_mk, ExprS.kids_mk, List.cons_append, List.nil_append] at ha
    cases R with
    | true =>
      simp (maxSteps := 1000000) [hho, noHo, exprA, k5, undef, onGP_none, condG_false, -List.reduceReplicate]
      refine draw_k hho (.take 0 (.take 1 (.take 2 (.take 3 (.take 5 (.alt 4 (.alt 6 (.take 7 (.done)) (.nil)) (.nil))))))) [0] [(6, [1])] (by decide +kernel) (by simp) ?_
      simp (maxSteps := 1000000) [hho, roOf, holdOf, wrOf, altK, heldOk, Region.binds, -List.reduceReplicate]
      intro E1
      refine call_h [] hl rfl rfl ⟨rfl, rfl⟩ (by simp) (by simp) (by decide) (by simp) (by simp) ?_
      simp (maxSteps := 1000000) [hho, roOf, holdOf, wrOf, altK, heldOk, Region.binds, -List.reduceReplicate]
      intro E2
      refine call_x [] ha rfl rfl ⟨rfl, rfl⟩ hho (by simp) (by decide) (by simp) (by simp) ?_
      simp (maxSteps := 1000000) [hho, noHo, -List.reduceReplicate]
      exact Ret.drop (by rfl) ⟨by rw [hown]; rfl, rfl⟩
    | false =>
      simp (maxSteps := 1000000) [hho, noHo, exprA, k5, undef, onGP_none, condG_false, -List.reduceReplicate]
      refine draw_k hho (.take 0 (.take 1 (.take 2 (.take 3 (.take 5 (.alt 4 (.alt 6 (.take 7 (.done)) (.nil)) (.nil))))))) [0] [(6, [1])] (by decide +kernel) (by simp) ?_
      simp (maxSteps := 1000000) [hho, roOf, holdOf, wrOf, altK, heldOk, Region.binds, -List.reduceReplicate]
      intro E1
      refine call_h [] hl rfl rfl ⟨rfl, rfl⟩ (by simp) (by simp) (by decide) (by simp) (by simp) ?_
      simp (maxSteps := 1000000) [hho, roOf, holdOf, wrOf, altK, heldOk, Region.binds, undef, onGP_none, condG_false, -List.reduceReplicate]
      intro E2
      exact Ret.drop (by rfl) ⟨by rw [hown]; rfl, rfl⟩
  by_cases k6 : e.kind = 6
  · have hl := type_right e.ty
    obtain ⟨R, hR⟩ : ∃ R, R = typOk e.ty := ⟨_, rfl⟩
    rw [← hR] at hl
    have hown : ownOk e = (R && A) := by simp [ownOk, kindOk, k6, hR, hA]
    clear hR hA
    have eb : bareE e = .mk 6 e.at_ ByteArray.empty ⟨0, 0, 0, ByteArray.empty⟩ ByteArray.empty ByteArray.empty false e.ty [] := by simp [bareE, k6]
    rw [eb] at ha
    simp only [exprA, hdA, k6, ExprS.kind_mk, ExprS.at__mk, ExprS.op_mk, ExprS.val_mk, ExprS.tab_mk, ExprS.name_mk, ExprS.neg_mk, ExprS.ty_mk, ExprS.kids_mk, List.cons_append, List.nil_append] at ha
    cases R with
    | true =>
      simp (maxSteps := 1000000) [hho, noHo, exprA, k6, undef, onGP_none, condG_false, -List.reduceReplicate]
      refine draw_k hho (.take 0 (.take 1 (.take 2 (.take 3 (.take 5 (.alt 4 (.alt 6 (.take 7 (.done)) (.nil)) (.nil))))))) [0] [(6, [1])] (by decide +kernel) (by simp) ?_
      simp (maxSteps := 1000000) [hho, roOf, holdOf, wrOf, altK, heldOk, Region.binds, -List.reduceReplicate]
      intro E1
      refine call_h [] hl rfl rfl ⟨rfl, rfl⟩ (by simp) (by simp) (by decide) (by simp) (by simp) ?_
      simp (maxSteps := 1000000) [hho, roOf, holdOf, wrOf, altK, heldOk, Region.binds, -List.reduceReplicate]
      intro E2
      refine call_x [] ha rfl rfl ⟨rfl, rfl⟩ hho (by simp) (by decide) (by simp) (by simp) ?_
      simp (maxSteps := 1000000) [hho, noHo, -List.reduceReplicate]
      exact Ret.drop (by rfl) ⟨by rw [hown]; rfl, rfl⟩
    | false =>
      simp (maxSteps := 1000000) [hho, noHo, exprA, k6, undef, onGP_none, condG_false, -List.reduceReplicate]
      refine draw_k hho (.take 0 (.take 1 (.take 2 (.take 3 (.take 5 (.alt 4 (.alt 6 (.take 7 (.done)) (.nil)) (.nil))))))) [0] [(6, [1])] (by decide +kernel) (by simp) ?_
      simp (maxSteps := 1000000) [hho, roOf, holdOf, wrOf, altK, heldOk, Region.binds, -List.reduceReplicate]
      intro E1
      refine call_h [] hl rfl rfl ⟨rfl, rfl⟩ (by simp) (by simp) (by decide) (by simp) (by simp) ?_
      simp (maxSteps := 1000000) [hho, roOf, holdOf, wrOf, altK, heldOk, Region.binds, undef, onGP_none, condG_false, -List.reduceReplicate]
      intro E2
      exact Ret.drop (by rfl) ⟨by rw [hown]; rfl, rfl⟩
  have hown : ownOk e = false := by simp [ownOk, kindOk, k0, k1, k2, k3, k4, k5, k6]
  simp (maxSteps := 1000000) [hho, noHo, exprA, k0, k1, k2, k3, k4, k5, k6, undef, onGP_none, condG_false, -List.reduceReplicate]
  exact Ret.drop (by rfl) ⟨by rw [hown], rfl⟩
end Go.Proofs.YtlepkpfbejfpiaaDoor
