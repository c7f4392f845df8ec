import Derived.Test.YtlepkpfbejfpiaaDoorYF
namespace Go.Proofs.YtlepkpfbejfpiaaDoor
set_option linter.unusedVariables false
set_option linter.unusedSimpArgs false
open Go.RowKit
attribute [local simp] isCut_nil isCut_region isCut_seq isCut_block isCut_loop isCut_cond isCut_skip isCut_exit isCut_ret isCut_range swapK putK altK condK_bool pickP_bool stepP stepO onPure_some onPure_none onImpl_some onImpl_none stepC onGP_some onGP_none onGV_some condG mkG onIt_it nextP_ptr takeP_eq takeV_some takeV_none takeU_some takeU_none takeQ takeW_some takeN_none takeN_some takeG_some takeO_some altO_some pureV binV2 eqF eqOp ovlV ovl2 rowAt capV binV intBin strBin isSh shV fldV ixV sliceV slice3V loadAV nilV lenV callV unV convV viewS cellsH loadV fldCut AV.ung AV.ungs AV.gc AV.cells AS.ev AS.put anyS gcsV lens lnO gV guardV retK RetP_eq resV oneV anyRo loIx hiIx implO callP_clo evL gcsL clearV storeAV AS.push AS.setO appV appZ shortS copyV buildV partsV fillV srcV fzO okV isCell_c isCell_ptr isCell_sl isCell_fs isCell_fp isCell_clo rowZ_one rowZ_zero rowZ_2 rowZ_3 rowZ_4 rowZ_5 rowZ_6 rowZ_7 rowZ_8 rowZ_9 rowZ_10 rowZ_11 rowZ_12 noHo Value.oneCell' max2V min2V afterH putBack frzFrom frzO rebO backIx nilEq_sl nilEq_fs nilOp_eql nilOp_neq AV.reb AV.rebL
attribute [local simp ↓] runK_skip runK_region runK_draw runK_seq runK_cut runK_cond runK_block runK_loop runK_exit runK_label runK_goto runK_ret runK_range contK_nil contK_seq contK_seq_ret contK_seq_exit contK_seq_goto contK_block contK_block_ret contK_block_goto contK_block_exit runO_nil runO_cons roundK_exit roundK_ret roundK_goto exitK_ret cutK_ret cutK_exit runE_done runE_nil runE_take runE_alt condG_true condG_false
set_option maxRecDepth 10000
/-! ## Recursion over expressions -/
theorem boolAll_eq {α : Type} {p q : α → Bool} {l : List α} (h : ∀ x ∈ l, p x = q x) : l.all p = l.all q := by
  induction l with
  | nil => rfl
  | cons x l ih => simp only [List.all_cons]; rw [h x (by simp), ih fun y hy => h y (by simp [hy])]
theorem boolAny_eq {α : Type} {p q : α → Bool} {l : List α} (h : ∀ x ∈ l, p x = q x) : l.any p = l.any q := by
  induction l with
  | nil => rfl
  | cons x l ih => simp only [List.any_cons]; rw [h x (by simp), ih fun y hy => h y (by simp [hy])]
/-! height -/
mutual
def hgt : ExprS → Nat
  | .mk _ _ _ _ _ _ _ _ l => hgts l + 1
def hgts : List ExprS → Nat
  | [] => 0
  | x :: l => max (hgt x) (hgts l)
end
theorem hgt_eq (x : ExprS) : hgt x = hgts x.kids + 1 := by cases x; simp [hgt]
theorem hgts_le {l : List ExprS} {x : ExprS} (h : x ∈ l) : hgt x ≤ hgts l := by
  induction l with
  | nil => cases h
  | cons y l ih =>
    simp only [hgts]
    rcases List.mem_cons.1 h with rfl | h
    · omega
    · have := ih h; omega
theorem hgts_snoc (l : List ExprS) (x : ExprS) : hgts (l ++ [x]) = max (hgts l) (hgt x) := by
  induction l with
  | nil => simp [hgts]
  | cons y l ih => simp only [List.cons_append, hgts, ih]; omega
/-! calls -/
mutual
def callsE : ExprS → Bool
  | .mk k _ _ _ _ _ _ _ l => decide (k = 5) || callsEs l
def callsEs : List ExprS → Bool
  | [] => false
  | x :: l => callsE x || callsEs l
end
theorem callsEs_any (l : List ExprS) : callsEs l = l.any callsE := by
  induction l with
  | nil => simp [callsEs]
  | cons x l ih => simp [callsEs, ih]
theorem callsE_eq (x : ExprS) : callsE x = (decide (x.kind = 5) || x.kids.any callsE) := by cases x; rw [callsE, callsEs_any]; rfl
/-! columns -/
mutual
def colsE : ExprS → List ExprS
  | .mk k a o v t n b y l => (if k = 1 then [.mk k a o v t n b y l] else []) ++ colsEs l
def colsEs : List ExprS → List ExprS
  | [] => []
  | x :: l => colsE x ++ colsEs l
end
theorem colsEs_flat (l : List ExprS) : colsEs l = l.flatMap colsE := by
  induction l with
  | nil => simp [colsEs]
  | cons x l ih => simp [colsEs, ih]
theorem colsE_eq (x : ExprS) : colsE x = (if x.kind = 1 then [x] else []) ++ x.kids.flatMap colsE := by cases x; rw [colsE, colsEs_flat]; rfl
/-! right -/
mutual
def rightE (d : Int) : ExprS → Bool
  | .mk k a o v t n b y l => decide (d < 60) && ownOk (.mk k a o v t n b y l) && kidsOk (.mk k a o v t n b y l) && rightEs (d + 1) l
def rightEs (d : Int) : List ExprS → Bool
  | [] => true
  | x :: l => rightE d x && rightEs d l
end
theorem rightEs_all (d : Int) (l : List ExprS) : rightEs d l = l.all (rightE d) := by
  induction l with
  | nil => simp [rightEs]
  | cons x l ih => simp [rightEs, ih]
theorem rightE_eq (d : Int) (x : ExprS) : rightE d x = (decide (d < 60) && ownOk x && kidsOk x && x.kids.all (rightE (d + 1))) := by cases x; rw [rightE, rightEs_all]; rfl
/-! alike to the bottom -/
mutual
def sameE (p : Bool) : ExprS → ExprS → Bool
  | .mk k a o v t n b y l, x => alikeB (.mk k a o v t n b y l) x && (!p || decide (a = x.at_)) && sameEs p l x.kids
def sameEs (p : Bool) : List ExprS → List ExprS → Bool
  | [], [] => true
  | x :: l, y :: m => sameE p x y && sameEs p l m
  | _, _ => false
end
theorem sameEs_eqL (p : Bool) (l m : List ExprS) : sameEs p l m = eqL (sameE p) l m := by
  induction l generalizing m with
  | nil => cases m <;> simp [sameEs, eqL]
  | cons x l ih => cases m <;> simp [sameEs, eqL, ih]
theorem sameE_eq (p : Bool) (x y : ExprS) : sameE p x y = (alikeB x y && (!p || decide (x.at_ = y.at_)) && eqL (sameE p) x.kids y.kids) := by cases x; rw [sameE, sameEs_eqL]; rfl
/-- what may be walked: strings and lists short enough, down to the leaves -/
inductive Fit : ExprS → Prop
  | mk (x : ExprS) (h1 : E9 x) (h2 : x.kids.length ≤ 5864062014805) (h3 : ∀ k ∈ x.kids, Fit k) : Fit x
theorem Fit.e9 {x : ExprS} (h : Fit x) : E9 x := by cases h; assumption
theorem Fit.len {x : ExprS} (h : Fit x) : x.kids.length ≤ 5864062014805 := by cases h; assumption
theorem Fit.kid {x : ExprS} (h : Fit x) : ∀ k ∈ x.kids, Fit k := by cases h; assumption
set_option maxHeartbeats 8000000 in
theorem height_w (x : ExprS) (hx : Fit x) (hb : hgt x ≤ 1000000) : ACalls Tryd.prog 10 [.agg (exprA x)] [] (fun _ => false) (fun r h' => r = .c (.int .i64 (hgt x : Nat)) ∧ h' = []) := by
  induction x using ExprS.ind with
  | _ x ih =>
  refine acalls mixed Tryd.func10 rfl Tryd.ntmps10 rfl fun E hE hst hho => ?_
  have hl := hx.len
  have hh := hgt_eq x
  simp (maxSteps := 1000000) [hho, noHo, exprA, -List.reduceReplicate]
  refine loop_k mixed (fun j : Nat => ⟨slotsOf 20 [(3, .c (.int .i64 (hgts (x.kids.take j) : Nat))), (7, .fs 13 x.kids.length (exprsA x.kids)), (8, .c (.int .i64 x.kids.length)), (9, .c (.int .i64 (j : Nat)))], []⟩) (fun j => x.kids.length - j) (fun j => j ≤ x.kids.length) 0 (Nat.zero_le _) ?_ ?_
  · exact wk_of 0 1 (by simp) (by simp [hE, lens]) (by simp) (by simp [livH, livO, AV.livL, AV.liv, wkL, wkV, List.range']) (by simp [livH, livO, AV.livL, AV.liv, wkL, wkV, List.range', slotsOf, hgts])
  · intro j hj
    by_cases hjl : j < x.kids.length
    · have hat := exprsA_at x.kids j hjl
      have ew : IntKind.i64.wrap ((j : Int) + 1) = (j + 1 : Nat) := by rw [IntWalk.i64_in _ (by omega)]; rfl
      have e0 : j * 13 + 13 ≤ x.kids.length * 13 := by omega
      have hle := hgts_le (List.getElem_mem hjl)
      have hc := ih _ (List.getElem_mem hjl) (hx.kid _ (List.getElem_mem hjl)) (by omega)
      have hs : hgts (x.kids.take (j + 1)) = max (hgts (x.kids.take j)) (hgt x.kids[j]) := by rw [List.take_succ_eq_append_getElem hjl, hgts_snoc]
      have hs' : ((hgts (x.kids.take (j + 1)) : Nat) : Int) = max (hgts (x.kids.take j) : Int) (hgt x.kids[j] : Int) := by rw [hs]; omega
      obtain ⟨y, hy⟩ : ∃ y, y = x.kids[j] := ⟨_, rfl⟩
      rw [← hy] at hat hc hs'
      simp (maxSteps := 1000000) [slotsOf, hho, noHo, hjl, hat, e0, exprA, -List.reduceReplicate]
      refine call_x [] hc rfl rfl ⟨rfl, rfl⟩ hho (by simp) (by decide) (by simp) (by simp) ?_
      simp (maxSteps := 1000000) [hho, noHo, ew, -List.reduceReplicate]
      refine round_next (j + 1) (by omega) (by omega) ?_
      exact wk_of 0 1 (by simp) (by simp [hE, lens]) (by simp) (by simp [livH, livO, AV.livL, AV.liv, wkL, wkV, List.range']) (by simp [livH, livO, AV.livL, AV.liv, wkL, wkV, List.range', slotsOf, hs'])
    · obtain rfl : j = x.kids.length := by omega
      have ew : IntKind.i64.wrap ((hgts x.kids : Int) + 1) = (hgt x : Nat) := by rw [IntWalk.i64_in _ (by omega)]; omega
      simp (maxSteps := 1000000) [slotsOf, hho, noHo, ew, -List.reduceReplicate]
      exact Ret.same ⟨rfl, rfl⟩
set_option maxHeartbeats 8000000 in
theorem height_ref (x : ExprS) (hx : Fit x) (hb : hgt x ≤ 1000000) : ACalls Tryd.prog 11 [.agg (exprA x)] [] (fun _ => false) (fun r h' => r = .c (.int .i64 (hgt x : Nat)) ∧ h' = []) := by
  induction x using ExprS.ind with
  | _ x ih =>
  refine acalls mixed Tryd.func11 rfl Tryd.ntmps11 rfl fun E hE hst hho => ?_
  have hl := hx.len
  have hh := hgt_eq x
  simp (maxSteps := 1000000) [hho, noHo, exprA, -List.reduceReplicate]
  refine loop_k mixed (fun j : Nat => ⟨slotsOf 20 [(3, .c (.int .i64 (hgts (x.kids.take j) : Nat))), (7, .fs 13 x.kids.length (exprsA x.kids)), (8, .c (.int .i64 x.kids.length)), (9, .c (.int .i64 (j : Nat)))], []⟩) (fun j => x.kids.length - j) (fun j => j ≤ x.kids.length) 0 (Nat.zero_le _) ?_ ?_
  · exact wk_of 0 1 (by simp) (by simp [hE, lens]) (by simp) (by simp [livH, livO, AV.livL, AV.liv, wkL, wkV, List.range']) (by simp [livH, livO, AV.livL, AV.liv, wkL, wkV, List.range', slotsOf, hgts])
  · intro j hj
    by_cases hjl : j < x.kids.length
    · have hat := exprsA_at x.kids j hjl
      have ew : IntKind.i64.wrap ((j : Int) + 1) = (j + 1 : Nat) := by rw [IntWalk.i64_in _ (by omega)]; rfl
      have e0 : j * 13 + 13 ≤ x.kids.length * 13 := by omega
      have hle := hgts_le (List.getElem_mem hjl)
      have hc := ih _ (List.getElem_mem hjl) (hx.kid _ (List.getElem_mem hjl)) (by omega)
      have hs : hgts (x.kids.take (j + 1)) = max (hgts (x.kids.take j)) (hgt x.kids[j]) := by rw [List.take_succ_eq_append_getElem hjl, hgts_snoc]
      have hs' : ((hgts (x.kids.take (j + 1)) : Nat) : Int) = max (hgts (x.kids.take j) : Int) (hgt x.kids[j] : Int) := by rw [hs]; omega
      obtain ⟨y, hy⟩ : ∃ y, y = x.kids[j] := ⟨_, rfl⟩
      rw [← hy] at hat hc hs'
      simp (maxSteps := 1000000) [slotsOf, hho, noHo, hjl, hat, e0, exprA, -List.reduceReplicate]
      refine call_x [] hc rfl rfl ⟨rfl, rfl⟩ hho (by simp) (by decide) (by simp) (by simp) ?_
      simp (maxSteps := 1000000) [hho, noHo, ew, -List.reduceReplicate]
      refine round_next (j + 1) (by omega) (by omega) ?_
      exact wk_of 0 1 (by simp) (by simp [hE, lens]) (by simp) (by simp [livH, livO, AV.livL, AV.liv, wkL, wkV, List.range']) (by simp [livH, livO, AV.livL, AV.liv, wkL, wkV, List.range', slotsOf, hs'])
    · obtain rfl : j = x.kids.length := by omega
      have ew : IntKind.i64.wrap ((hgts x.kids : Int) + 1) = (hgt x : Nat) := by rw [IntWalk.i64_in _ (by omega)]; omega
      simp (maxSteps := 1000000) [slotsOf, hho, noHo, ew, -List.reduceReplicate]
      exact Ret.same ⟨rfl, rfl⟩
set_option maxHeartbeats 8000000 in
theorem calls_w (x : ExprS) (hx : Fit x) : ACalls Tryd.prog 12 [.agg (exprA x)] [] (fun _ => false) (fun r h' => r = .c (.bool (callsE x)) ∧ h' = []) := by
  induction x using ExprS.ind with
  | _ x ih =>
  refine acalls mixed Tryd.func12 rfl Tryd.ntmps12 rfl fun E hE hst hho => ?_
  have hc := cf_expr x.kids callsE 12 (by simp) hx.len fun k hk => ih k hk (hx.kid k hk)
  rw [callsE_eq x]
  by_cases k5 : x.kind = 5
  · simp (maxSteps := 1000000) [hho, noHo, exprA, k5, undef, onGP_none, condG_false, -List.reduceReplicate]
    exact Ret.drop (by rfl) ⟨by simp, rfl⟩
  · simp (maxSteps := 1000000) [hho, noHo, exprA, k5, undef, onGP_none, condG_false, -List.reduceReplicate]
    refine call_x [] hc rfl rfl ⟨rfl, rfl⟩ hho (by simp) (by decide) (by simp) (by simp) ?_
    simp (maxSteps := 1000000) [hho, noHo, undef, onGP_none, condG_false, -List.reduceReplicate]
    exact Ret.drop (by rfl) ⟨by simp, rfl⟩
set_option maxHeartbeats 8000000 in
theorem calls_ref (x : ExprS) (hx : Fit x) : ACalls Tryd.prog 13 [.agg (exprA x)] [] (fun _ => false) (fun r h' => r = .c (.bool (callsE x)) ∧ h' = []) := by
  induction x using ExprS.ind with
  | _ x ih =>
  refine acalls mixed Tryd.func13 rfl Tryd.ntmps13 rfl fun E hE hst hho => ?_
  have hl := hx.len
  rw [callsE_eq x]
  simp (maxSteps := 1000000) [hho, noHo, exprA, -List.reduceReplicate]
  refine loop_k mixed (fun j : Nat => ⟨slotsOf 18 [(1, .ptr 0 0 13), (6, .fs 13 x.kids.length (exprsA x.kids)), (7, .c (.int .i64 x.kids.length)), (8, .c (.int .i64 (j : Nat)))], [.o .box (exprA x)]⟩) (fun j => x.kids.length - j) (fun j => j ≤ x.kids.length ∧ ∀ k (hk : k < x.kids.length), k < j → callsE x.kids[k] = false) 0 ⟨Nat.zero_le _, fun k _ h => by omega⟩ ?_ ?_
  · exact wk_eq (by simp [hE, lens]) (by simp [exprA]) (by simp [livH, livO, AV.livL, AV.liv, wkL, wkV, List.range', slotsOf])
  · rintro j ⟨hj, hI⟩
    by_cases hjl : j < x.kids.length
    · have hat := exprsA_at x.kids j hjl
      have ew : IntKind.i64.wrap ((j : Int) + 1) = (j + 1 : Nat) := by rw [IntWalk.i64_in _ (by omega)]; rfl
      have e0 : j * 13 + 13 ≤ x.kids.length * 13 := by omega
      have hc := ih _ (List.getElem_mem hjl) (hx.kid _ (List.getElem_mem hjl))
      have hany : callsE x.kids[j] = true → x.kids.any callsE = true := fun h => List.any_eq_true.2 ⟨_, List.getElem_mem hjl, h⟩
      have hI1 : callsE x.kids[j] = false → ∀ k (hk : k < x.kids.length), k < j + 1 → callsE x.kids[k] = false := fun h k hk hkj => by
        by_cases e : k = j
        · subst e; exact h
        · exact hI k hk (by omega)
      obtain ⟨y, hy⟩ : ∃ y, y = x.kids[j] := ⟨_, rfl⟩
      rw [← hy] at hat hc hany hI1
      cases hC : callsE y with
      | true =>
        rw [hC] at hc
        simp (maxSteps := 1000000) [slotsOf, hho, noHo, hjl, hat, e0, exprA, -List.reduceReplicate]
        refine call_x [] hc rfl rfl ⟨rfl, rfl⟩ hho (by simp) (by decide) (by simp) (by simp) ?_
        simp (maxSteps := 1000000) [hho, noHo, ew, -List.reduceReplicate]
        exact Ret.drop (by rfl) ⟨by rw [hany hC, Bool.or_true], rfl⟩
      | false =>
        rw [hC] at hc
        simp (maxSteps := 1000000) [slotsOf, hho, noHo, hjl, hat, e0, exprA, -List.reduceReplicate]
        refine call_x [] hc rfl rfl ⟨rfl, rfl⟩ hho (by simp) (by decide) (by simp) (by simp) ?_
        simp (maxSteps := 1000000) [hho, noHo, ew, -List.reduceReplicate]
        refine round_next (j + 1) ⟨by omega, hI1 hC⟩ (by omega) ?_
        exact wk_of 1 1 (by simp) (by simp [hE, lens]) (by simp [exprA]) (by simp [livH, livO, AV.livL, AV.liv, wkL, wkV, List.range']) (by simp [livH, livO, AV.livL, AV.liv, wkL, wkV, List.range', slotsOf])
    · obtain rfl : j = x.kids.length := by omega
      have hany : x.kids.any callsE = false := by
        rw [Bool.eq_false_iff]
        intro ha
        obtain ⟨y, hy, hp⟩ := List.any_eq_true.1 ha
        obtain ⟨i, hi, rfl⟩ := List.getElem_of_mem hy
        rw [hI i hi hi] at hp; cases hp
      simp (maxSteps := 1000000) [slotsOf, hho, noHo, exprA, -List.reduceReplicate]
      exact Ret.drop (by rfl) ⟨by rw [hany, Bool.or_false], rfl⟩
/-! right -/
set_option maxHeartbeats 8000000 in
theorem right_w (x : ExprS) (hx : Fit x) (d : Int) (hd : 0 ≤ d ∧ d ≤ 1000) : ACalls Tryd.prog 23 [.agg (exprA x), .c (.int .i64 d)] [] (fun _ => false) (fun r h' => r = .c (.bool (rightE d x)) ∧ h' = []) := by
  induction x using ExprS.ind generalizing d with
  | _ x ih =>
  refine acalls mixed Tryd.func23 rfl Tryd.ntmps23 rfl fun E hE hst hho => ?_
  rw [rightE_eq d x]
  have h1 := own_w x hx.e9
  have h2 := kids_w x
  by_cases h60 : d < 60
  · have h60' : ¬ 60 ≤ d := by omega
    have hc := cfc_expr x.kids (fun k => !rightE (d + 1) k) 49 (by simp) d hx.len fun k hk => by
      have hk := ih k hk (hx.kid k hk) (d + 1) (by omega)
      have ew : IntKind.i64.wrap (d + 1) = d + 1 := IntWalk.i64_in _ (by omega)
      refine acalls mixed Tryd.func49 rfl Tryd.ntmps49 rfl fun E hE hst hho => ?_
      simp (maxSteps := 1000000) [hho, noHo, exprA, ew, -List.reduceReplicate]
      refine call_x [] hk rfl rfl ⟨rfl, rfl⟩ hho (by simp) (by decide) (by simp) (by simp) ?_
      simp (maxSteps := 1000000) [hho, noHo, -List.reduceReplicate]
      refine Ret.sel [0] (fun _ => false) (ho := by rfl) (ha := by rfl) ?_ ?_ (by decide) (by simp) (by simp; intro i _ h; subst h; rfl) ⟨rfl, rfl⟩ <;> simp
    have hall : (!x.kids.any fun k => !rightE (d + 1) k) = x.kids.all (rightE (d + 1)) := by rw [List.all_eq_not_any_not]
    obtain ⟨Q, hQ⟩ : ∃ Q, Q = x.kids.any fun k => !rightE (d + 1) k := ⟨_, rfl⟩
    rw [← hQ] at hc hall
    rw [← hall]
    cases hO : ownOk x with
    | false =>
      rw [hO] at h1
      simp (maxSteps := 1000000) [hho, noHo, exprA, h60', undef, onGP_none, condG_false, -List.reduceReplicate]
      refine call_x [] h1 rfl rfl ⟨rfl, rfl⟩ hho (by simp) (by decide) (by simp) (by simp) ?_
      simp (maxSteps := 1000000) [hho, noHo, undef, onGP_none, condG_false, -List.reduceReplicate]
      exact Ret.drop (by rfl) ⟨by simp, rfl⟩
    | true =>
      rw [hO] at h1
      cases hK : kidsOk x with
      | false =>
        rw [hK] at h2
        simp (maxSteps := 1000000) [hho, noHo, exprA, h60', undef, onGP_none, condG_false, -List.reduceReplicate]
        refine call_x [] h1 rfl rfl ⟨rfl, rfl⟩ hho (by simp) (by decide) (by simp) (by simp) ?_
        simp (maxSteps := 1000000) [hho, noHo, undef, onGP_none, condG_false, -List.reduceReplicate]
        refine call_x [] h2 rfl rfl ⟨rfl, rfl⟩ hho (by simp) (by decide) (by simp) (by simp) ?_
        simp (maxSteps := 1000000) [hho, noHo, undef, onGP_none, condG_false, -List.reduceReplicate]
        exact Ret.drop (by rfl) ⟨by simp, rfl⟩
      | true =>
        rw [hK] at h2
        simp (maxSteps := 1000000) [hho, noHo, exprA, h60', undef, onGP_none, condG_false, -List.reduceReplicate]
        refine call_x [] h1 rfl rfl ⟨rfl, rfl⟩ hho (by simp) (by decide) (by simp) (by simp) ?_
        simp (maxSteps := 1000000) [hho, noHo, undef, onGP_none, condG_false, -List.reduceReplicate]
        refine call_x [] h2 rfl rfl ⟨rfl, rfl⟩ hho (by simp) (by decide) (by simp) (by simp) ?_
        simp (maxSteps := 1000000) [hho, noHo, undef, onGP_none, condG_false, -List.reduceReplicate]
        refine call_x [1] hc rfl rfl ⟨rfl, rfl⟩ hho (by simp) (by decide) (by simp) (by simp) ?_
        simp (maxSteps := 1000000) [hho, noHo, -List.reduceReplicate]
        exact Ret.drop (by rfl) ⟨by simp [h60], rfl⟩
  · have h60' : 60 ≤ d := by omega
    simp (maxSteps := 1000000) [hho, noHo, exprA, h60', undef, onGP_none, condG_false, -List.reduceReplicate]
    exact Ret.drop (by rfl) ⟨by simp [h60], rfl⟩
theorem rightExpr_w (x : ExprS) (hx : Fit x) : ACalls Tryd.prog 8 [.agg (exprA x)] [] (fun _ => false) (fun r h' => r = .c (.bool (rightE 0 x)) ∧ h' = []) := by
  refine acalls mixed Tryd.func8 rfl Tryd.ntmps8 rfl fun E hE hst hho => ?_
  simp (maxSteps := 1000000) [hho, noHo, exprA, -List.reduceReplicate]
  refine call_x [] (right_w x hx 0 (by omega)) rfl rfl ⟨rfl, rfl⟩ hho (by simp) (by decide) (by simp) (by simp) ?_
  simp (maxSteps := 1000000) [hho, noHo, -List.reduceReplicate]
  exact Ret.drop (by rfl) ⟨rfl, rfl⟩
end Go.Proofs.YtlepkpfbejfpiaaDoor
