import Derived.Test.YtlepkpfbejfpiaaDoorYT
import Derived.Test.YtlepkpfbejfpiaaDoorEw
namespace Go.Proofs.YtlepkpfbejfpiaaDoor
set_option linter.unusedVariables false
set_option linter.unusedSimpArgs false
open Go.RowKit Go.ChangeShapes Go.WideShapes Go.ChangeAt
attribute [local simp] isCut_nil isCut_region isCut_seq isCut_block isCut_loop isCut_cond isCut_skip isCut_exit isCut_ret isCut_range swapK putK altK condK_bool pickP_bool stepP stepO onPure_some onPure_none onImpl_some onImpl_none stepC onGP_some onGP_none onGV_some condG mkG onIt_it nextP_ptr takeP_eq takeV_some takeV_none takeU_some takeU_none takeQ takeW_some takeN_none takeN_some takeG_some takeO_some altO_some pureV binV2 eqF eqOp ovlV ovl2 rowAt capV binV intBin strBin isSh shV fldV ixV sliceV slice3V loadAV nilV lenV callV unV convV viewS cellsH loadV fldCut AV.ung AV.ungs AV.gc AV.cells AS.ev AS.put anyS gcsV lens lnO gV guardV retK RetP_eq resV oneV anyRo loIx hiIx implO callP_clo evL gcsL clearV storeAV AS.push AS.setO appV appZ shortS copyV buildV partsV fillV srcV fzO okV isCell_c isCell_ptr isCell_sl isCell_fs isCell_fp isCell_clo rowZ_one rowZ_zero rowZ_2 rowZ_3 rowZ_4 rowZ_5 rowZ_6 rowZ_7 rowZ_8 rowZ_9 rowZ_10 rowZ_11 rowZ_12 noHo Value.oneCell' max2V min2V afterH putBack frzFrom frzO rebO backIx nilEq_sl nilEq_fs nilOp_eql nilOp_neq AV.reb AV.rebL
attribute [local simp ↓] runK_skip runK_region runK_draw runK_seq runK_cut runK_cond runK_block runK_loop runK_exit runK_label runK_goto runK_ret runK_range contK_nil contK_seq contK_seq_ret contK_seq_exit contK_seq_goto contK_block contK_block_ret contK_block_goto contK_block_exit runO_nil runO_cons roundK_exit roundK_ret roundK_goto exitK_ret cutK_ret cutK_exit runE_done runE_nil runE_take runE_alt condG_true condG_false
set_option maxRecDepth 10000
/-! ## Small -/
structure SmallP (s : StmtS) : Prop where
  p0 : ¬ 300 < s.tab.size
  p1 : ¬ 300 < s.name.size
  p2 : ¬ 50 < s.names.length
  p3 : ¬ 50 < s.cols.length
  p4 : ¬ 80 < s.rows.length
  p5 : ¬ 50 < s.sets.length
  p6 : ¬ 3 < s.wher.length
  p7 : ¬ 50 < s.items.length
  p8 : ¬ 50 < s.from_.length
  p9 : ¬ 3 < s.on_.length
  p10 : ¬ 50 < s.group.length
  p11 : ¬ 50 < s.order.length
instance (s : StmtS) : Decidable (SmallP s) := decidable_of_iff (¬ 300 < s.tab.size ∧ ¬ 300 < s.name.size ∧ ¬ 50 < s.names.length ∧ ¬ 50 < s.cols.length ∧ ¬ 80 < s.rows.length ∧ ¬ 50 < s.sets.length ∧ ¬ 3 < s.wher.length ∧ ¬ 50 < s.items.length ∧ ¬ 50 < s.from_.length ∧ ¬ 3 < s.on_.length ∧ ¬ 50 < s.group.length ∧ ¬ 50 < s.order.length) ⟨fun ⟨h0, h1, h2, h3, h4, h5, h6, h7, h8, h9, h10, h11⟩ => ⟨h0, h1, h2, h3, h4, h5, h6, h7, h8, h9, h10, h11⟩, fun h => ⟨h.p0, h.p1, h.p2, h.p3, h.p4, h.p5, h.p6, h.p7, h.p8, h.p9, h.p10, h.p11⟩⟩
def goL : List ExprS → Nat → Option Nat
  | [], n => some n
  | x :: l, n => if 3000 < n then none else goL l (n + sizeE 70 x)
def rowSm (r : List ExprS) : Bool := decide (r.length ≤ 50)
def colSm (c : ColS) : Bool := decide (c.name.size ≤ 300) && decide (c.dft.t.size ≤ 300)
def strSm (x : ByteArray) : Bool := decide (x.size ≤ 300)
def sumOk (s : StmtS) : Option Nat → Bool
  | none => false
  | some n => s.cols.all colSm && s.names.all strSm && decide (n ≤ 3000)
def smallS (s : StmtS) : Bool := decide (SmallP s) && s.rows.all rowSm && sumOk s (goL (exprsS s) 0)
theorem flat_bound {α : Type} (l : List (List α)) (n : Nat) (h : ∀ r ∈ l, r.length ≤ n) : l.flatten.length ≤ l.length * n := by
  induction l with
  | nil => simp
  | cons r l ih =>
    have := ih fun r hr => h r (List.mem_cons_of_mem _ hr)
    have h1 := h r (List.mem_cons_self ..)
    simp only [List.flatten_cons, List.length_append, List.length_cons, Nat.add_mul]
    omega
theorem exprsS_length (s : StmtS) : (exprsS s).length = s.rows.flatten.length + s.sets.length + s.items.length + s.on_.length + s.wher.length + s.group.length + s.order.length := by unfold exprsS; simp only [List.length_append, List.length_map]
theorem small_total {s : StmtS} (h : SmallP s) (hr : s.rows.all rowSm = true) : s.rows.length ≤ 1000000 ∧ (exprsS s).length ≤ 1000000 := by
  have h1 := flat_bound s.rows 50 fun r hr' => by have := List.all_eq_true.1 hr r hr'; simpa [rowSm] using this
  obtain ⟨p0, p1, p2, p3, p4, p5, p6, p7, p8, p9, p10, p11⟩ := h
  rw [exprsS_length]
  omega
set_option maxHeartbeats 8000000 in
theorem small_w (s : StmtS) : ACalls Tryd.prog 17 [.agg (stmtA s)] [] (fun _ => false) (fun r h' => r = .c (.bool (smallS s)) ∧ h' = []) := by
  refine acallsE mixed Tryd.func17 rfl Tryd.ntmps17 rfl fun E hE hst hho => ?_
  refine ew_cut mixed 3 (fun _ : Unit => ⟨slotsOf 139 [(1, .ptr 0 0 15), (3, .c (.int .i64 0))], [.o .box (stmtA s)]⟩) (fun _ => SmallP s) rfl ?_ ?_
  rotate_left
  by_cases p0 : 300 < s.tab.size
  · have q0 : (300 : Int) < s.tab.size := by omega
    have hS : smallS s = false := by simp only [smallS, decide_eq_false (fun h : SmallP s => h.p0 p0), Bool.false_and]
    simp (maxSteps := 1000000) [hho, noHo, stmtA, q0, undef, onGP_none, condG_false, -List.reduceReplicate]
    exact Ret.drop (by rfl) ⟨by rw [hS], rfl⟩
  have q0 : ¬ (300 : Int) < s.tab.size := by omega
  by_cases p1 : 300 < s.name.size
  · have q1 : (300 : Int) < s.name.size := by omega
    have hS : smallS s = false := by simp only [smallS, decide_eq_false (fun h : SmallP s => h.p1 p1), Bool.false_and]
    simp (maxSteps := 1000000) [hho, noHo, stmtA, q0, q1, undef, onGP_none, condG_false, -List.reduceReplicate]
    exact Ret.drop (by rfl) ⟨by rw [hS], rfl⟩
  have q1 : ¬ (300 : Int) < s.name.size := by omega
  by_cases p2 : 50 < s.names.length
  · have q2 : (50 : Int) < s.names.length := by omega
    have hS : smallS s = false := by simp only [smallS, decide_eq_false (fun h : SmallP s => h.p2 p2), Bool.false_and]
    simp (maxSteps := 1000000) [hho, noHo, stmtA, q0, q1, q2, undef, onGP_none, condG_false, -List.reduceReplicate]
    exact Ret.drop (by rfl) ⟨by rw [hS], rfl⟩
  have q2 : ¬ (50 : Int) < s.names.length := by omega
  by_cases p3 : 50 < s.cols.length
  · have q3 : (50 : Int) < s.cols.length := by omega
    have hS : smallS s = false := by simp only [smallS, decide_eq_false (fun h : SmallP s => h.p3 p3), Bool.false_and]
    simp (maxSteps := 1000000) [hho, noHo, stmtA, q0, q1, q2, q3, undef, onGP_none, condG_false, -List.reduceReplicate]
    exact Ret.drop (by rfl) ⟨by rw [hS], rfl⟩
  have q3 : ¬ (50 : Int) < s.cols.length := by omega
  by_cases p4 : 80 < s.rows.length
  · have q4 : (80 : Int) < s.rows.length := by omega
    have hS : smallS s = false := by simp only [smallS, decide_eq_false (fun h : SmallP s => h.p4 p4), Bool.false_and]
    simp (maxSteps := 1000000) [hho, noHo, stmtA, q0, q1, q2, q3, q4, undef, onGP_none, condG_false, -List.reduceReplicate]
    exact Ret.drop (by rfl) ⟨by rw [hS], rfl⟩
  have q4 : ¬ (80 : Int) < s.rows.length := by omega
  by_cases p5 : 50 < s.sets.length
  · have q5 : (50 : Int) < s.sets.length := by omega
    have hS : smallS s = false := by simp only [smallS, decide_eq_false (fun h : SmallP s => h.p5 p5), Bool.false_and]
    simp (maxSteps := 1000000) [hho, noHo, stmtA, q0, q1, q2, q3, q4, q5, undef, onGP_none, condG_false, -List.reduceReplicate]
    exact Ret.drop (by rfl) ⟨by rw [hS], rfl⟩
  have q5 : ¬ (50 : Int) < s.sets.length := by omega
  by_cases p6 : 3 < s.wher.length
  · have q6 : (3 : Int) < s.wher.length := by omega
    have hS : smallS s = false := by simp only [smallS, decide_eq_false (fun h : SmallP s => h.p6 p6), Bool.false_and]
    simp (maxSteps := 1000000) [hho, noHo, stmtA, q0, q1, q2, q3, q4, q5, q6, undef, onGP_none, condG_false, -List.reduceReplicate]
    exact Ret.drop (by rfl) ⟨by rw [hS], rfl⟩
  have q6 : ¬ (3 : Int) < s.wher.length := by omega
  by_cases p7 : 50 < s.items.length
  · have q7 : (50 : Int) < s.items.length := by omega
    have hS : smallS s = false := by simp only [smallS, decide_eq_false (fun h : SmallP s => h.p7 p7), Bool.false_and]
    simp (maxSteps := 1000000) [hho, noHo, stmtA, q0, q1, q2, q3, q4, q5, q6, q7, undef, onGP_none, condG_false, -List.reduceReplicate]
    exact Ret.drop (by rfl) ⟨by rw [hS], rfl⟩
  have q7 : ¬ (50 : Int) < s.items.length := by omega
  by_cases p8 : 50 < s.from_.length
  · have q8 : (50 : Int) < s.from_.length := by omega
    have hS : smallS s = false := by simp only [smallS, decide_eq_false (fun h : SmallP s => h.p8 p8), Bool.false_and]
    simp (maxSteps := 1000000) [hho, noHo, stmtA, q0, q1, q2, q3, q4, q5, q6, q7, q8, undef, onGP_none, condG_false, -List.reduceReplicate]
    exact Ret.drop (by rfl) ⟨by rw [hS], rfl⟩
  have q8 : ¬ (50 : Int) < s.from_.length := by omega
  by_cases p9 : 3 < s.on_.length
  · have q9 : (3 : Int) < s.on_.length := by omega
    have hS : smallS s = false := by simp only [smallS, decide_eq_false (fun h : SmallP s => h.p9 p9), Bool.false_and]
    simp (maxSteps := 1000000) [hho, noHo, stmtA, q0, q1, q2, q3, q4, q5, q6, q7, q8, q9, undef, onGP_none, condG_false, -List.reduceReplicate]
    exact Ret.drop (by rfl) ⟨by rw [hS], rfl⟩
  have q9 : ¬ (3 : Int) < s.on_.length := by omega
  by_cases p10 : 50 < s.group.length
  · have q10 : (50 : Int) < s.group.length := by omega
    have hS : smallS s = false := by simp only [smallS, decide_eq_false (fun h : SmallP s => h.p10 p10), Bool.false_and]
    simp (maxSteps := 1000000) [hho, noHo, stmtA, q0, q1, q2, q3, q4, q5, q6, q7, q8, q9, q10, undef, onGP_none, condG_false, -List.reduceReplicate]
    exact Ret.drop (by rfl) ⟨by rw [hS], rfl⟩
  have q10 : ¬ (50 : Int) < s.group.length := by omega
  by_cases p11 : 50 < s.order.length
  · have q11 : (50 : Int) < s.order.length := by omega
    have hS : smallS s = false := by simp only [smallS, decide_eq_false (fun h : SmallP s => h.p11 p11), Bool.false_and]
    simp (maxSteps := 1000000) [hho, noHo, stmtA, q0, q1, q2, q3, q4, q5, q6, q7, q8, q9, q10, q11, undef, onGP_none, condG_false, -List.reduceReplicate]
    exact Ret.drop (by rfl) ⟨by rw [hS], rfl⟩
  have q11 : ¬ (50 : Int) < s.order.length := by omega
  · simp (maxSteps := 1000000) [hho, noHo, stmtA, q0, q1, q2, q3, q4, q5, q6, q7, q8, q9, q10, q11, undef, onGP_none, condG_false, -List.reduceReplicate]
    exact cut_to () ⟨p0, p1, p2, p3, p4, p5, p6, p7, p8, p9, p10, p11⟩ (wk_eq (by simp [hE, lens]) (by simp [stmtA]) (by simp [livH, livO, AV.livL, AV.liv, wkL, wkV, List.range', slotsOf]))
  intro _ hP
  have hrn : s.rows.length ≤ 80 := by have := hP.p4; omega
  refine ew_cut mixed 1 (fun _ : Unit => ⟨slotsOf 139 [(1, .ptr 0 0 15), (3, .c (.int .i64 0))], [.o .box (stmtA s)]⟩) (fun _ => ∀ x ∈ s.rows, rowSm x = true) rfl ?_ ?_
  rotate_left
  · simp (maxSteps := 1000000) [hho, noHo, slotsOf, stmtA, undef, onGP_none, condG_false, -List.reduceReplicate]
    refine loop_k mixed (fun j : Nat => ⟨slotsOf 139 [(1, .ptr 0 0 15), (3, .c (.int .i64 0)), (83, .fs 1 s.rows.length (erowsA s.rows)), (84, .c (.int .i64 s.rows.length)), (85, .c (.int .i64 (j : Nat)))], [.o .box (stmtA s)]⟩) (fun j => s.rows.length - j) (fun j => j ≤ s.rows.length ∧ ∀ k (hk : k < s.rows.length), k < j → rowSm s.rows[k] = true) 0 ⟨Nat.zero_le _, fun k _ h => by omega⟩ ?_ ?_
    · exact wk_eq (by simp [hE, lens]) (by simp [stmtA]) (by simp [livH, livO, AV.livL, AV.liv, wkL, wkV, List.range', slotsOf])
    · rintro j ⟨hj, hI⟩
      by_cases hjl : j < s.rows.length
      · have hat := erowsA_at s.rows j hjl
        have ew : IntKind.i64.wrap ((j : Int) + 1) = (j + 1 : Nat) := by rw [IntWalk.i64_in _ (by omega)]; rfl
        have e0 : j * 1 + 1 ≤ s.rows.length * 1 := by omega
        obtain ⟨x, hx⟩ : ∃ x, x = s.rows[j] := ⟨_, rfl⟩
        have hg : (erowsA s.rows)[j]'(by simp; omega) = .fs 13 x.length (exprsA x) := by rw [hx]; exact erowsA_get s.rows j hjl
        have hfalse := @all_false _ rowSm s.rows j hjl
        have hI1 : rowSm s.rows[j] = true → ∀ k (hk : k < s.rows.length), k < j + 1 → rowSm s.rows[k] = true := fun h k hk hkj => by
          by_cases e : k = j
          · subst e; exact h
          · exact hI k hk (by omega)
        rw [← hx] at hat hfalse hI1
        by_cases h50 : x.length ≤ 50
        · have hI50 : ¬ (50 : Int) < x.length := by omega
          simp (maxSteps := 1000000) [hho, noHo, slotsOf, hjl, hat, e0, hg, erowA, stmtA, ew, h50, hI50, undef, onGP_none, condG_false, -List.reduceReplicate]
          refine ⟨by omega, ?_⟩
          refine round_next (j + 1) ⟨by omega, hI1 (by simp [rowSm, h50])⟩ (by omega) ?_
          exact wk_eq (by simp [hE, lens]) (by simp [stmtA]) (by simp [livH, livO, AV.livL, AV.liv, wkL, wkV, List.range', slotsOf])
        · have hI50 : (50 : Int) < x.length := by omega
          simp (maxSteps := 1000000) [hho, noHo, slotsOf, hjl, hat, e0, hg, erowA, stmtA, ew, h50, hI50, undef, onGP_none, condG_false, -List.reduceReplicate]
          refine ⟨by omega, ?_⟩
          have hS : smallS s = false := by simp only [smallS, hfalse (by simp [rowSm, h50]), Bool.and_false, Bool.false_and]
          exact Ret.drop (by rfl) ⟨by rw [hS], rfl⟩
      · obtain rfl : j = s.rows.length := by omega
        have hall : s.rows.all rowSm = true := all_true fun k hk _ => hI k hk hk
        simp (maxSteps := 1000000) [hho, noHo, slotsOf, stmtA, undef, onGP_none, condG_false, -List.reduceReplicate]
        exact cut_to () (List.all_eq_true.1 hall) (wk_eq (by simp [hE, lens]) (by simp [stmtA]) (by simp [livH, livO, AV.livL, AV.liv, wkL, wkV, List.range', slotsOf]))
  intro _ hR
  have hR : s.rows.all rowSm = true := List.all_eq_true.2 hR
  obtain ⟨t1, t2⟩ := small_total hP hR
  have c1 := exprs_ref s t1 t2
  refine ew_cut mixed 1 (fun y : Nat => ⟨slotsOf 139 [(1, .ptr 0 0 15), (3, .c (.int .i64 (y : Nat)))], [.o .box (stmtA s)]⟩) (fun y => goL (exprsS s) 0 = some y ∧ y ≤ 2000000) rfl ?_ ?_
  rotate_left
  · simp (maxSteps := 1000000) [hho, noHo, slotsOf, stmtA, undef, onGP_none, condG_false, -List.reduceReplicate]
    refine call_x [] c1 rfl rfl ⟨rfl, rfl⟩ hho (by simp) (by decide) (by simp) (by simp) ?_
    obtain ⟨L, hL⟩ : ∃ L, L = exprsS s := ⟨_, rfl⟩
    rw [← hL] at t2 ⊢
    simp (maxSteps := 1000000) [hho, noHo, slotsOf, stmtA, undef, onGP_none, condG_false, -List.reduceReplicate]
    refine loop_k mixed (fun y : Nat × Nat => ⟨slotsOf 139 [(1, .ptr 0 0 15), (3, .c (.int .i64 (y.2 : Nat))), (94, .fs 13 L.length (exprsA L)), (95, .c (.int .i64 L.length)), (96, .c (.int .i64 (y.1 : Nat)))], [.o .box (stmtA s)]⟩) (fun y => L.length - y.1) (fun y => y.1 ≤ L.length ∧ goL (L.drop y.1) y.2 = goL L 0 ∧ y.2 ≤ 2000000) (0, 0) ⟨Nat.zero_le _, rfl, by omega⟩ ?_ ?_
    · exact wk_eq (by simp [hE, lens]) (by simp [stmtA]) (by simp [livH, livO, AV.livL, AV.liv, wkL, wkV, List.range', slotsOf])
    · rintro ⟨j, n⟩ ⟨hj, hg, hn⟩
      simp only at hj hg hn
      by_cases hjl : j < L.length
      · have hat := exprsA_at L j hjl
        have ew : IntKind.i64.wrap ((j : Int) + 1) = (j + 1 : Nat) := by rw [IntWalk.i64_in _ (by omega)]; rfl
        have e0 : j * 13 + 13 ≤ L.length * 13 := by omega
        rw [List.drop_eq_getElem_cons hjl, goL] at hg
        obtain ⟨x, hx⟩ : ∃ x, x = L[j] := ⟨_, rfl⟩
        rw [← hx] at hat hg
        have c2 := size_ref x 70 (by omega)
        have hb := sizeE_bound x 70
        by_cases h3 : 3000 < n
        · have hI3 : (3000 : Int) < n := by omega
          rw [if_pos h3] at hg
          have hS : smallS s = false := by simp only [smallS, ← hL, ← hg, sumOk, Bool.and_false]
          simp (maxSteps := 1000000) [hho, noHo, slotsOf, hjl, hat, e0, exprA, stmtA, ew, h3, hI3, undef, onGP_none, condG_false, -List.reduceReplicate]
          exact Ret.drop (by rfl) ⟨by rw [hS], rfl⟩
        · have hI3 : ¬ (3000 : Int) < n := by omega
          rw [if_neg h3] at hg
          have es : IntKind.i64.wrap ((n : Int) + (sizeE 70 x : Nat)) = (n + sizeE 70 x : Nat) := by rw [IntWalk.i64_in _ (by omega)]; rfl
          simp (maxSteps := 1000000) [hho, noHo, slotsOf, hjl, hat, e0, exprA, stmtA, ew, h3, hI3, undef, onGP_none, condG_false, -List.reduceReplicate]
          refine call_x [] c2 rfl rfl ⟨rfl, rfl⟩ hho (by simp) (by decide) (by simp) (by simp) ?_
          simp (maxSteps := 1000000) [hho, noHo, es, ew, undef, onGP_none, condG_false, -List.reduceReplicate]
          refine round_next (j + 1, n + sizeE 70 x) ⟨by simp only; omega, hg, by simp only; omega⟩ (by simp only; omega) ?_
          exact wk_of 1 1 (by simp) (by simp [hE, lens]) (by simp [stmtA]) (by simp [livH, livO, AV.livL, AV.liv, wkL, wkV, List.range']) (by simp [livH, livO, AV.livL, AV.liv, wkL, wkV, List.range', slotsOf])
      · obtain rfl : j = L.length := by omega
        rw [List.drop_length, goL] at hg
        simp (maxSteps := 1000000) [hho, noHo, slotsOf, stmtA, undef, onGP_none, condG_false, -List.reduceReplicate]
        exact cut_to n ⟨hg.symm, hn⟩ (wk_eq (by simp [hE, lens]) (by simp [stmtA]) (by simp [livH, livO, AV.livL, AV.liv, wkL, wkV, List.range', slotsOf]))
  rintro n ⟨hg, hn⟩
  have hcn : s.cols.length ≤ 50 := by have := hP.p3; omega
  refine ew_cut mixed 1 (fun _ : Unit => ⟨slotsOf 139 [(1, .ptr 0 0 15), (3, .c (.int .i64 (n : Nat)))], [.o .box (stmtA s)]⟩) (fun _ => ∀ x ∈ s.cols, colSm x = true) rfl ?_ ?_
  rotate_left
  · simp (maxSteps := 1000000) [hho, noHo, slotsOf, stmtA, undef, onGP_none, condG_false, -List.reduceReplicate]
    refine loop_k mixed (fun j : Nat => ⟨slotsOf 139 [(1, .ptr 0 0 15), (3, .c (.int .i64 (n : Nat))), (108, .fs 10 s.cols.length (colsA s.cols)), (109, .c (.int .i64 s.cols.length)), (110, .c (.int .i64 (j : Nat)))], [.o .box (stmtA s)]⟩) (fun j => s.cols.length - j) (fun j => j ≤ s.cols.length ∧ ∀ k (hk : k < s.cols.length), k < j → colSm s.cols[k] = true) 0 ⟨Nat.zero_le _, fun k _ h => by omega⟩ ?_ ?_
    · exact wk_eq (by simp [hE, lens]) (by simp [stmtA]) (by simp [livH, livO, AV.livL, AV.liv, wkL, wkV, List.range', slotsOf])
    · rintro j ⟨hj, hI⟩
      by_cases hjl : j < s.cols.length
      · have hat := colsA_at s.cols j hjl
        have ew : IntKind.i64.wrap ((j : Int) + 1) = (j + 1 : Nat) := by rw [IntWalk.i64_in _ (by omega)]; rfl
        have e0 : j * 10 + 10 ≤ s.cols.length * 10 := by omega
        obtain ⟨x, hx⟩ : ∃ x, x = s.cols[j] := ⟨_, rfl⟩
        have hfalse := @all_false _ colSm s.cols j hjl
        have hI1 : colSm s.cols[j] = true → ∀ k (hk : k < s.cols.length), k < j + 1 → colSm s.cols[k] = true := fun h k hk hkj => by
          by_cases e : k = j
          · subst e; exact h
          · exact hI k hk (by omega)
        rw [← hx] at hat hfalse hI1
        by_cases u1 : x.name.size ≤ 300
        · have v1 : ¬ (300 : Int) < x.name.size := by omega
          by_cases u2 : x.dft.t.size ≤ 300
          · have v2 : ¬ (300 : Int) < x.dft.t.size := by omega
            simp (maxSteps := 1000000) [hho, noHo, slotsOf, hjl, hat, e0, colA, stmtA, ew, v1, v2, undef, onGP_none, condG_false, -List.reduceReplicate]
            refine round_next (j + 1) ⟨by omega, hI1 (by simp [colSm, u1, u2])⟩ (by omega) ?_
            exact wk_of 1 1 (by simp) (by simp [hE, lens]) (by simp [stmtA]) (by simp [livH, livO, AV.livL, AV.liv, wkL, wkV, List.range']) (by simp [livH, livO, AV.livL, AV.liv, wkL, wkV, List.range', slotsOf])
          · have v2 : (300 : Int) < x.dft.t.size := by omega
            simp (maxSteps := 1000000) [hho, noHo, slotsOf, hjl, hat, e0, colA, stmtA, ew, v1, v2, undef, onGP_none, condG_false, -List.reduceReplicate]
            have hS : smallS s = false := by simp only [smallS, hg, sumOk, hfalse (by simp [colSm, u1, u2]), Bool.and_false, Bool.false_and]
            exact Ret.drop (by rfl) ⟨by rw [hS], rfl⟩
        · have v1 : (300 : Int) < x.name.size := by omega
          simp (maxSteps := 1000000) [hho, noHo, slotsOf, hjl, hat, e0, colA, stmtA, ew, v1, undef, onGP_none, condG_false, -List.reduceReplicate]
          have hS : smallS s = false := by simp only [smallS, hg, sumOk, hfalse (by simp [colSm, u1]), Bool.and_false, Bool.false_and]
          exact Ret.drop (by rfl) ⟨by rw [hS], rfl⟩
      · obtain rfl : j = s.cols.length := by omega
        have hall : s.cols.all colSm = true := all_true fun k hk _ => hI k hk hk
        simp (maxSteps := 1000000) [hho, noHo, slotsOf, stmtA, undef, onGP_none, condG_false, -List.reduceReplicate]
        exact cut_to () (List.all_eq_true.1 hall) (wk_eq (by simp [hE, lens]) (by simp [stmtA]) (by simp [livH, livO, AV.livL, AV.liv, wkL, wkV, List.range', slotsOf]))
  intro _ hC
  have hC : s.cols.all colSm = true := List.all_eq_true.2 hC
  have hnn : s.names.length ≤ 50 := by have := hP.p2; omega
  refine ew_cut mixed 1 (fun _ : Unit => ⟨slotsOf 139 [(1, .ptr 0 0 15), (3, .c (.int .i64 (n : Nat)))], [.o .box (stmtA s)]⟩) (fun _ => ∀ x ∈ s.names, strSm x = true) rfl ?_ ?_
  rotate_left
  · simp (maxSteps := 1000000) [hho, noHo, slotsOf, stmtA, undef, onGP_none, condG_false, -List.reduceReplicate]
    refine loop_k mixed (fun j : Nat => ⟨slotsOf 139 [(1, .ptr 0 0 15), (3, .c (.int .i64 (n : Nat))), (127, .fs 1 s.names.length (strsA s.names)), (128, .c (.int .i64 s.names.length)), (129, .c (.int .i64 (j : Nat)))], [.o .box (stmtA s)]⟩) (fun j => s.names.length - j) (fun j => j ≤ s.names.length ∧ ∀ k (hk : k < s.names.length), k < j → strSm s.names[k] = true) 0 ⟨Nat.zero_le _, fun k _ h => by omega⟩ ?_ ?_
    · exact wk_eq (by simp [hE, lens]) (by simp [stmtA]) (by simp [livH, livO, AV.livL, AV.liv, wkL, wkV, List.range', slotsOf])
    · rintro j ⟨hj, hI⟩
      by_cases hjl : j < s.names.length
      · have hat := strsA_at s.names j hjl
        have ew : IntKind.i64.wrap ((j : Int) + 1) = (j + 1 : Nat) := by rw [IntWalk.i64_in _ (by omega)]; rfl
        have e0 : j * 1 + 1 ≤ s.names.length * 1 := by omega
        obtain ⟨x, hx⟩ : ∃ x, x = s.names[j] := ⟨_, rfl⟩
        have hg1 : (strsA s.names)[j]'(by simp; omega) = .c (.string x) := by rw [hx]; exact strsA_get s.names j hjl
        have hfalse := @all_false _ strSm s.names j hjl
        have hI1 : strSm s.names[j] = true → ∀ k (hk : k < s.names.length), k < j + 1 → strSm s.names[k] = true := fun h k hk hkj => by
          by_cases e : k = j
          · subst e; exact h
          · exact hI k hk (by omega)
        rw [← hx] at hat hfalse hI1
        by_cases u1 : x.size ≤ 300
        · have v1 : ¬ (300 : Int) < x.size := by omega
          simp (maxSteps := 1000000) [hho, noHo, slotsOf, hjl, hat, e0, hg1, strA, stmtA, ew, v1, undef, onGP_none, condG_false, -List.reduceReplicate]
          refine ⟨by omega, ?_⟩
          refine round_next (j + 1) ⟨by omega, hI1 (by simp [strSm, u1])⟩ (by omega) ?_
          exact wk_eq (by simp [hE, lens]) (by simp [stmtA]) (by simp [livH, livO, AV.livL, AV.liv, wkL, wkV, List.range', slotsOf])
        · have v1 : (300 : Int) < x.size := by omega
          simp (maxSteps := 1000000) [hho, noHo, slotsOf, hjl, hat, e0, hg1, strA, stmtA, ew, v1, undef, onGP_none, condG_false, -List.reduceReplicate]
          refine ⟨by omega, ?_⟩
          have hS : smallS s = false := by simp only [smallS, hg, sumOk, hfalse (by simp [strSm, u1]), Bool.and_false, Bool.false_and]
          exact Ret.drop (by rfl) ⟨by rw [hS], rfl⟩
      · obtain rfl : j = s.names.length := by omega
        have hall : s.names.all strSm = true := all_true fun k hk _ => hI k hk hk
        simp (maxSteps := 1000000) [hho, noHo, slotsOf, stmtA, undef, onGP_none, condG_false, -List.reduceReplicate]
        exact cut_to () (List.all_eq_true.1 hall) (wk_eq (by simp [hE, lens]) (by simp [stmtA]) (by simp [livH, livO, AV.livL, AV.liv, wkL, wkV, List.range', slotsOf]))
  intro _ hN
  have hN : s.names.all strSm = true := List.all_eq_true.2 hN
  refine ew_run mixed [] ?_
  have hS : smallS s = decide (n ≤ 3000) := by simp only [smallS, hg, sumOk, hC, hN, hR, decide_eq_true hP, Bool.true_and]
  have hI : ((n : Int) ≤ 3000) = (n ≤ 3000) := by simp only [eq_iff_iff]; omega
  rw [hS]
  simp (maxSteps := 1000000) [hho, noHo, slotsOf, stmtA, hI, undef, onGP_none, condG_false, -List.reduceReplicate]
  exact Ret.drop (by rfl) ⟨rfl, rfl⟩
end Go.Proofs.YtlepkpfbejfpiaaDoor
