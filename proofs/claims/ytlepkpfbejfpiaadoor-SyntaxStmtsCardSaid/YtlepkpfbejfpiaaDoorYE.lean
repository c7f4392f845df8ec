import Derived.Test.YtlepkpfbejfpiaaDoorYD
namespace Go.Proofs.YtlepkpfbejfpiaaDoor
set_option linter.unusedVariables false
set_option linter.unusedSimpArgs false
open Go.RowKit
attribute [local simp] isCut_nil isCut_region isCut_seq isCut_block isCut_loop isCut_cond isCut_skip isCut_exit isCut_ret isCut_range swapK putK altK condK_bool pickP_bool stepP stepO onPure_some onPure_none onImpl_some onImpl_none stepC onGP_some onGP_none onGV_some condG mkG onIt_it nextP_ptr takeP_eq takeV_some takeV_none takeU_some takeU_none takeQ takeW_some takeN_none takeN_some takeG_some takeO_some altO_some pureV binV2 eqF eqOp ovlV ovl2 rowAt capV binV intBin strBin isSh shV fldV ixV sliceV slice3V loadAV nilV lenV callV unV convV viewS cellsH loadV fldCut AV.ung AV.ungs AV.gc AV.cells AS.ev AS.put anyS gcsV lens lnO gV guardV retK RetP_eq resV oneV anyRo loIx hiIx implO callP_clo evL gcsL clearV storeAV AS.push AS.setO appV appZ shortS copyV buildV partsV fillV srcV fzO okV isCell_c isCell_ptr isCell_sl isCell_fs isCell_fp isCell_clo rowZ_one rowZ_zero rowZ_2 rowZ_3 rowZ_4 rowZ_5 rowZ_6 rowZ_7 rowZ_8 rowZ_9 rowZ_10 rowZ_11 rowZ_12 noHo Value.oneCell' max2V min2V afterH putBack frzFrom frzO rebO backIx nilEq_sl nilEq_fs nilOp_eql nilOp_neq AV.reb AV.rebL
attribute [local simp ↓] runK_skip runK_region runK_draw runK_seq runK_cut runK_cond runK_block runK_loop runK_exit runK_label runK_goto runK_ret runK_range contK_nil contK_seq contK_seq_ret contK_seq_exit contK_seq_goto contK_block contK_block_ret contK_block_goto contK_block_exit runO_nil runO_cons roundK_exit roundK_ret roundK_goto exitK_ret cutK_ret cutK_exit runE_done runE_nil runE_take runE_alt condG_true condG_false
set_option maxRecDepth 10000
/-! ## An expression's own parts -/
def valEq (a b : ValS) : Bool := decide (a.k = b.k) && (decide (a.n = b.n) && (decide (a.s = b.s) && decide (a.t = b.t)))
def typEq (a b : TypS) : Bool := decide (a.k = b.k) && decide (a.s = b.s)
def alikeB (a b : ExprS) : Bool := decide (a.kind = b.kind) && decide (a.op = b.op) && valEq a.val b.val && decide (a.tab = b.tab) && decide (a.name = b.name) && decide (a.neg = b.neg) && typEq a.ty b.ty
/-- all cells but the last -/
def hdA (x : ExprS) : List AV := [.c (.int .i64 x.kind), .c (.int .i64 x.at_), .c (.string x.op), .c (.int .i64 x.val.k), .c (.int .i64 x.val.n), .c (.int .i64 x.val.s), .c (.string x.val.t), .c (.string x.tab), .c (.string x.name), .c (.bool x.neg), .c (.int .i64 x.ty.k), .c (.int .i64 x.ty.s)]
set_option maxHeartbeats 8000000 in
theorem alike_w (a b : ExprS) : ACalls Tryd.prog 67 [.agg (exprA a), .agg (exprA b)] [] (fun _ => false) (fun r h' => r = .c (.bool (alikeB a b)) ∧ h' = []) := by
  refine acalls mixed Tryd.func67 rfl Tryd.ntmps67 rfl fun E hE hst hho => ?_
  simp (maxSteps := 1000000) [hho, noHo, exprA, hdA, undef, onGP_none, condG_false, -List.reduceReplicate]
  exact Ret.drop (by rfl) ⟨rfl, rfl⟩
set_option maxHeartbeats 8000000 in
theorem alike_nil (a b : ExprS) : ACalls Tryd.prog 67 [.agg (exprA a), .agg (hdA b ++ [.c (.slice none 0 0)])] [] (fun _ => false) (fun r h' => r = .c (.bool (alikeB a b)) ∧ h' = []) := by
  refine acalls mixed Tryd.func67 rfl Tryd.ntmps67 rfl fun E hE hst hho => ?_
  simp (maxSteps := 1000000) [hho, noHo, exprA, hdA, undef, onGP_none, condG_false, -List.reduceReplicate]
  exact Ret.drop (by rfl) ⟨rfl, rfl⟩
def kidsOk (e : ExprS) : Bool := if e.kind = 0 ∨ e.kind = 1 then decide (e.kids.length = 0) else if e.kind = 3 then decide (e.kids.length = 2) else if e.kind = 5 then decide (e.kids.length = 1) || (decide (e.kids.length = 0) && decide (e.op = { data := #[67, 79, 85, 78, 84] })) else decide (e.kids.length = 1)
set_option maxHeartbeats 8000000 in
theorem kids_w (e : ExprS) : ACalls Tryd.prog 48 [.agg (exprA e)] [] (fun _ => false) (fun r h' => r = .c (.bool (kidsOk e)) ∧ h' = []) := by
  refine acalls mixed Tryd.func48 rfl Tryd.ntmps48 rfl fun E hE hst hho => ?_
  have e2 : decide ((e.kids.length : Int) = 2) = decide (e.kids.length = 2) := by rw [decide_eq_decide]; omega
  have e1 : decide ((e.kids.length : Int) = 1) = decide (e.kids.length = 1) := by rw [decide_eq_decide]; omega
  by_cases k0 : e.kind = 0
  · simp (maxSteps := 1000000) [hho, noHo, exprA, k0, undef, onGP_none, condG_false, -List.reduceReplicate]
    exact Ret.drop (by rfl) ⟨by simp [kidsOk, k0], rfl⟩
  by_cases k1 : e.kind = 1
  · simp (maxSteps := 1000000) [hho, noHo, exprA, k1, undef, onGP_none, condG_false, -List.reduceReplicate]
    exact Ret.drop (by rfl) ⟨by simp [kidsOk, k1], rfl⟩
  by_cases k3 : e.kind = 3
  · simp (maxSteps := 1000000) [hho, noHo, exprA, k3, undef, onGP_none, condG_false, -List.reduceReplicate]
    exact Ret.drop (by rfl) ⟨by simp [kidsOk, k3, e2], rfl⟩
  by_cases k5 : e.kind = 5
  · simp (maxSteps := 1000000) [hho, noHo, exprA, k5, undef, onGP_none, condG_false, -List.reduceReplicate]
    refine ⟨fun h => ⟨h, fun h2 => ⟨h, h2⟩⟩, ?_⟩
    have i1 : ((e.kids.length : Int) = 1) = (e.kids.length = 1) := propext (by omega)
    refine Ret.drop (by rfl) ⟨congrArg AV.c (congrArg Value.bool ?_), rfl⟩
    rw [Bool.eq_iff_iff]
    simp [kidsOk, k5, i1]
  simp (maxSteps := 1000000) [hho, noHo, exprA, k0, k1, k3, k5, undef, onGP_none, condG_false, -List.reduceReplicate]
  exact Ret.drop (by rfl) ⟨by simp [kidsOk, k0, k1, k3, k5, e1], rfl⟩
def litOk (v : ValS) : Bool := valOk v && (!(decide (v.k = 2) || decide (v.k = 3)) || decide (0 ≤ v.n)) && (!decide (v.k = 3) || decide (0 < v.s))
set_option maxHeartbeats 8000000 in
theorem literal_w (v : ValS) (hv : v.t.size ≤ 9000000000000000000) : ACalls Tryd.prog 68 [.agg (valA v)] [] (fun _ => false) (fun r h' => r = .c (.bool (litOk v)) ∧ h' = []) := by
  refine acalls mixed Tryd.func68 rfl Tryd.ntmps68 rfl fun E hE hst hho => ?_
  have h1 := val_right v hv
  cases hV : valOk v with
  | false =>
    rw [hV] at h1
    simp (maxSteps := 1000000) [hho, noHo, valA, undef, onGP_none, condG_false, -List.reduceReplicate]
    refine call_x [] h1 rfl rfl ⟨rfl, rfl⟩ hho (by simp) (by decide) (by simp) (by simp) ?_
    simp (maxSteps := 1000000) [hho, noHo, undef, onGP_none, condG_false, -List.reduceReplicate]
    exact Ret.drop (by rfl) ⟨by simp [litOk, hV], rfl⟩
  | true =>
    rw [hV] at h1
    by_cases k2 : v.k = 2
    · simp (maxSteps := 1000000) [hho, noHo, valA, k2, undef, onGP_none, condG_false, -List.reduceReplicate]
      refine call_x [] h1 rfl rfl ⟨by simp [valA, k2], rfl⟩ hho (by simp) (by decide) (by simp) (by simp) ?_
      by_cases n0 : 0 ≤ v.n
      · simp (maxSteps := 1000000) [hho, noHo, n0, undef, onGP_none, condG_false, -List.reduceReplicate]
        exact Ret.drop (by rfl) ⟨by simp [litOk, hV, k2, n0], rfl⟩
      · simp (maxSteps := 1000000) [hho, noHo, n0, undef, onGP_none, condG_false, -List.reduceReplicate]
        exact Ret.drop (by rfl) ⟨by simp [litOk, hV, k2, n0], rfl⟩
    by_cases k3 : v.k = 3
    · simp (maxSteps := 1000000) [hho, noHo, valA, k3, undef, onGP_none, condG_false, -List.reduceReplicate]
      refine call_x [] h1 rfl rfl ⟨by simp [valA, k3], rfl⟩ hho (by simp) (by decide) (by simp) (by simp) ?_
      by_cases n0 : 0 ≤ v.n
      · simp (maxSteps := 1000000) [hho, noHo, n0, undef, onGP_none, condG_false, -List.reduceReplicate]
        exact Ret.drop (by rfl) ⟨by simp [litOk, hV, k3, n0], rfl⟩
      · simp (maxSteps := 1000000) [hho, noHo, n0, undef, onGP_none, condG_false, -List.reduceReplicate]
        exact Ret.drop (by rfl) ⟨by simp [litOk, hV, k3, n0], rfl⟩
    · simp (maxSteps := 1000000) [hho, noHo, valA, k2, k3, undef, onGP_none, condG_false, -List.reduceReplicate]
      refine call_x [] h1 rfl rfl ⟨rfl, rfl⟩ hho (by simp) (by decide) (by simp) (by simp) ?_
      simp (maxSteps := 1000000) [hho, noHo, k2, k3, undef, onGP_none, condG_false, -List.reduceReplicate]
      exact Ret.drop (by rfl) ⟨by simp [litOk, hV, k2, k3], rfl⟩
end Go.Proofs.YtlepkpfbejfpiaaDoor
