import Derived.Test.YtlepkpfbejfpiaaDoorH1
namespace Go.Proofs.YtlepkpfbejfpiaaDoor
set_option linter.unusedVariables false
set_option linter.unusedSimpArgs false
open Go.RowKit
attribute [local simp] isCut_nil isCut_region isCut_seq isCut_block isCut_loop isCut_cond isCut_skip isCut_exit isCut_ret isCut_range swapK putK altK condK_bool pickP_bool stepP stepO onPure_some onPure_none onImpl_some onImpl_none stepC onGP_some onGP_none onGV_some condG mkG onIt_it nextP_ptr takeP_eq takeV_some takeV_none takeU_some takeU_none takeQ takeW_some takeN_none takeN_some takeG_some takeO_some altO_some pureV binV2 eqF eqOp ovlV ovl2 rowAt capV binV intBin strBin isSh shV fldV ixV sliceV slice3V loadAV nilV lenV callV unV convV viewS cellsH loadV fldCut AV.ung AV.ungs AV.gc AV.cells AS.ev AS.put anyS gcsV lens lnO gV guardV retK RetP_eq resV oneV anyRo loIx hiIx implO callP_clo evL gcsL clearV storeAV AS.push AS.setO appV appZ shortS copyV buildV partsV fillV srcV fzO okV isCell_c isCell_ptr isCell_sl isCell_fs isCell_fp isCell_clo rowZ_one rowZ_zero rowZ_2 rowZ_3 rowZ_4 rowZ_5 rowZ_6 rowZ_7 rowZ_8 rowZ_9 rowZ_10 rowZ_11 rowZ_12 noHo Value.oneCell' max2V min2V afterH putBack frzFrom frzO rebO backIx nilEq_sl nilEq_fs nilOp_eql nilOp_neq AV.reb AV.rebL
attribute [local simp ↓] runK_skip runK_region runK_draw runK_seq runK_cut runK_cond runK_block runK_loop runK_exit runK_label runK_goto runK_ret runK_range contK_nil contK_seq contK_seq_ret contK_seq_exit contK_seq_goto contK_block contK_block_ret contK_block_goto contK_block_exit runO_nil runO_cons roundK_exit roundK_ret roundK_goto exitK_ret cutK_ret cutK_exit runE_done runE_nil runE_take runE_alt condG_true condG_false
set_option maxRecDepth 10000
set_option maxHeartbeats 8000000 in
theorem rr_0 (s : StmtS) (h : FitS s) {E : Env} (hE : E.ln0 = lens []) (hho : E.ho = noHo) : OnC (fun c => runK Tryd.prog E [] c [] (cutK E (fun _ : Unit => ⟨slotsOf 376 [(1, .ptr 0 0 15), (3, .c (.int .i64 s.kind))], [.o .box (stmtA s)]⟩) (fun _ => 0 ≤ s.kind ∧ s.kind ≤ 9 ∧ LenP s) (retK Tryd.prog (fun _ => false) [ResultVar.tmp 2] (fun r h' => r = .c (.bool (rightS s)) ∧ h' = []))) ⟨[.agg (stmtA s)] ++ anyS (376 - 1), []⟩) (takeC 0 3 Tryd.f19.body) := by
  refine OnC.mk rfl ?_
  by_cases p0 : s.kind < 0
  · have q0 : s.kind < 0 := by omega
    have hS : rightS s = false := noR fun R => by have := R.k0; omega
    simp (maxSteps := 1000000) [hho, noHo, stmtA, q0, undef, onGP_none, condG_false, -List.reduceReplicate]
    exact Ret.drop (by rfl) ⟨by rw [hS], rfl⟩
  have q0 : ¬ s.kind < 0 := by omega
  by_cases p1 : 9 < s.kind
  · have q1 : 9 < s.kind := by omega
    have hS : rightS s = false := noR fun R => by have := R.k9; omega
    simp (maxSteps := 1000000) [hho, noHo, stmtA, q0, q1, undef, onGP_none, condG_false, -List.reduceReplicate]
    exact Ret.drop (by rfl) ⟨by rw [hS], rfl⟩
  have q1 : ¬ 9 < s.kind := by omega
  by_cases p2 : 20 < s.names.length
  · have q2 : (20 : Int) < s.names.length := by omega
    have hS : rightS s = false := noR fun R => by have := R.len.a1; omega
    simp (maxSteps := 1000000) [hho, noHo, stmtA, q0, q1, q2, undef, onGP_none, condG_false, -List.reduceReplicate]
    exact Ret.drop (by rfl) ⟨by rw [hS], rfl⟩
  have q2 : ¬ (20 : Int) < s.names.length := by omega
  by_cases p3 : 20 < s.cols.length
  · have q3 : (20 : Int) < s.cols.length := by omega
    have hS : rightS s = false := noR fun R => by have := R.len.a2; omega
    simp (maxSteps := 1000000) [hho, noHo, stmtA, q0, q1, q2, q3, undef, onGP_none, condG_false, -List.reduceReplicate]
    exact Ret.drop (by rfl) ⟨by rw [hS], rfl⟩
  have q3 : ¬ (20 : Int) < s.cols.length := by omega
  by_cases p4 : 50 < s.rows.length
  · have q4 : (50 : Int) < s.rows.length := by omega
    have hS : rightS s = false := noR fun R => by have := R.len.a3; omega
    simp (maxSteps := 1000000) [hho, noHo, stmtA, q0, q1, q2, q3, q4, undef, onGP_none, condG_false, -List.reduceReplicate]
    exact Ret.drop (by rfl) ⟨by rw [hS], rfl⟩
  have q4 : ¬ (50 : Int) < s.rows.length := by omega
  by_cases p5 : 20 < s.sets.length
  · have q5 : (20 : Int) < s.sets.length := by omega
    have hS : rightS s = false := noR fun R => by have := R.len.a4; omega
    simp (maxSteps := 1000000) [hho, noHo, stmtA, q0, q1, q2, q3, q4, q5, undef, onGP_none, condG_false, -List.reduceReplicate]
    exact Ret.drop (by rfl) ⟨by rw [hS], rfl⟩
  have q5 : ¬ (20 : Int) < s.sets.length := by omega
  by_cases p6 : 1 < s.wher.length
  · have q6 : (1 : Int) < s.wher.length := by omega
    have hS : rightS s = false := noR fun R => by have := R.len.a5; omega
    simp (maxSteps := 1000000) [hho, noHo, stmtA, q0, q1, q2, q3, q4, q5, q6, undef, onGP_none, condG_false, -List.reduceReplicate]
    exact Ret.drop (by rfl) ⟨by rw [hS], rfl⟩
  have q6 : ¬ (1 : Int) < s.wher.length := by omega
  by_cases p7 : 20 < s.items.length
  · have q7 : (20 : Int) < s.items.length := by omega
    have hS : rightS s = false := noR fun R => by have := R.len.a6; omega
    simp (maxSteps := 1000000) [hho, noHo, stmtA, q0, q1, q2, q3, q4, q5, q6, q7, undef, onGP_none, condG_false, -List.reduceReplicate]
    exact Ret.drop (by rfl) ⟨by rw [hS], rfl⟩
  have q7 : ¬ (20 : Int) < s.items.length := by omega
  by_cases p8 : 20 < s.from_.length
  · have q8 : (20 : Int) < s.from_.length := by omega
    have hS : rightS s = false := noR fun R => by have := R.len.a7; omega
    simp (maxSteps := 1000000) [hho, noHo, stmtA, q0, q1, q2, q3, q4, q5, q6, q7, q8, undef, onGP_none, condG_false, -List.reduceReplicate]
    exact Ret.drop (by rfl) ⟨by rw [hS], rfl⟩
  have q8 : ¬ (20 : Int) < s.from_.length := by omega
  by_cases p9 : 1 < s.on_.length
  · have q9 : (1 : Int) < s.on_.length := by omega
    have hS : rightS s = false := noR fun R => by have := R.len.a8; omega
    simp (maxSteps := 1000000) [hho, noHo, stmtA, q0, q1, q2, q3, q4, q5, q6, q7, q8, q9, undef, onGP_none, condG_false, -List.reduceReplicate]
    exact Ret.drop (by rfl) ⟨by rw [hS], rfl⟩
  have q9 : ¬ (1 : Int) < s.on_.length := by omega
  by_cases p10 : 20 < s.group.length
  · have q10 : (20 : Int) < s.group.length := by omega
    have hS : rightS s = false := noR fun R => by have := R.len.a9; omega
    simp (maxSteps := 1000000) [hho, noHo, stmtA, q0, q1, q2, q3, q4, q5, q6, q7, q8, q9, q10, undef, onGP_none, condG_false, -List.reduceReplicate]
    exact Ret.drop (by rfl) ⟨by rw [hS], rfl⟩
  have q10 : ¬ (20 : Int) < s.group.length := by omega
  by_cases p11 : 20 < s.order.length
  · have q11 : (20 : Int) < s.order.length := by omega
    have hS : rightS s = false := noR fun R => by have := R.len.a10; omega
    simp (maxSteps := 1000000) [hho, noHo, stmtA, q0, q1, q2, q3, q4, q5, q6, q7, q8, q9, q10, q11, undef, onGP_none, condG_false, -List.reduceReplicate]
    exact Ret.drop (by rfl) ⟨by rw [hS], rfl⟩
  have q11 : ¬ (20 : Int) < s.order.length := by omega
  · simp (maxSteps := 1000000) [hho, noHo, stmtA, q0, q1, q2, q3, q4, q5, q6, q7, q8, q9, q10, q11, undef, onGP_none, condG_false, -List.reduceReplicate]
    exact cut_to () (by first | trivial | omega | (simp only [← List.length_eq_zero_iff]; omega) | exact ⟨by omega, by omega, by omega, by omega, by omega, by omega, by omega, by omega, by omega, by omega, by omega, by omega⟩) (wk_eq (by simp [hE, lens]) (by simp [stmtA]) (by simp [livH, livO, AV.livL, AV.liv, wkL, wkV, List.range', slotsOf]))
end Go.Proofs.YtlepkpfbejfpiaaDoor
namespace Go.Proofs.YtlepkpfbejfpiaaDoor
set_option linter.unusedVariables false
set_option linter.unusedSimpArgs false
open Go.RowKit
attribute [local simp] isCut_nil isCut_region isCut_seq isCut_block isCut_loop isCut_cond isCut_skip isCut_exit isCut_ret isCut_range swapK putK altK condK_bool pickP_bool stepP stepO onPure_some onPure_none onImpl_some onImpl_none stepC onGP_some onGP_none onGV_some condG mkG onIt_it nextP_ptr takeP_eq takeV_some takeV_none takeU_some takeU_none takeQ takeW_some takeN_none takeN_some takeG_some takeO_some altO_some pureV binV2 eqF eqOp ovlV ovl2 rowAt capV binV intBin strBin isSh shV fldV ixV sliceV slice3V loadAV nilV lenV callV unV convV viewS cellsH loadV fldCut AV.ung AV.ungs AV.gc AV.cells AS.ev AS.put anyS gcsV lens lnO gV guardV retK RetP_eq resV oneV anyRo loIx hiIx implO callP_clo evL gcsL clearV storeAV AS.push AS.setO appV appZ shortS copyV buildV partsV fillV srcV fzO okV isCell_c isCell_ptr isCell_sl isCell_fs isCell_fp isCell_clo rowZ_one rowZ_zero rowZ_2 rowZ_3 rowZ_4 rowZ_5 rowZ_6 rowZ_7 rowZ_8 rowZ_9 rowZ_10 rowZ_11 rowZ_12 noHo Value.oneCell' max2V min2V afterH putBack frzFrom frzO rebO backIx nilEq_sl nilEq_fs nilOp_eql nilOp_neq AV.reb AV.rebL
attribute [local simp ↓] runK_skip runK_region runK_draw runK_seq runK_cut runK_cond runK_block runK_loop runK_exit runK_label runK_goto runK_ret runK_range contK_nil contK_seq contK_seq_ret contK_seq_exit contK_seq_goto contK_block contK_block_ret contK_block_goto contK_block_exit runO_nil runO_cons roundK_exit roundK_ret roundK_goto exitK_ret cutK_ret cutK_exit runE_done runE_nil runE_take runE_alt condG_true condG_false
set_option maxRecDepth 10000
set_option maxHeartbeats 8000000 in
theorem rr_14 (s : StmtS) (h : FitS s) (hk0 : 0 ≤ s.kind) (hk9 : s.kind ≤ 9) (hL : LenP s) {E : Env} (hE : E.ln0 = lens []) (hho : E.ho = noHo) : OnC (fun c => runK Tryd.prog E [] c [] (cutK E (fun _ : Unit => ⟨slotsOf 376 [(1, .ptr 0 0 15), (3, .c (.int .i64 s.kind)), (4, .c (.bool (decide (named s.kind))))], [.o .box (stmtA s)]⟩) (fun _ => ∀ x ∈ s.items, (fun x : ItemS => optOk x.as_) x = true) (retK Tryd.prog (fun _ => false) [ResultVar.tmp 2] (fun r h' => r = .c (.bool (rightS s)) ∧ h' = []))) ⟨slotsOf 376 [(1, .ptr 0 0 15), (3, .c (.int .i64 s.kind)), (4, .c (.bool (decide (named s.kind))))], [.o .box (stmtA s)]⟩) (takeC 16 1 Tryd.f19.body) := by
  refine OnC.mk rfl ?_
  obtain ⟨a1, a2, a3, a4, a5, a6, a7, a8, a9, a10⟩ := hL
  have hin : s.items.length ≤ 20 := a6
  · simp (maxSteps := 1000000) [hho, noHo, slotsOf, stmtA, undef, onGP_none, condG_false, -List.reduceReplicate]
    refine loop_k mixed (fun j : Nat => ⟨slotsOf 376 [(1, .ptr 0 0 15), (3, .c (.int .i64 s.kind)), (4, .c (.bool (decide (named s.kind)))), (349, .fs 14 s.items.length (itemsA s.items)), (350, .c (.int .i64 s.items.length)), (351, .c (.int .i64 (j : Nat)))], [.o .box (stmtA s)]⟩) (fun j => s.items.length - j) (fun j => j ≤ s.items.length ∧ ∀ k (hk : k < s.items.length), k < j → (fun x : ItemS => optOk x.as_) s.items[k] = true) 0 ⟨Nat.zero_le _, fun k _ h => by omega⟩ ?_ ?_
    · exact wk_eq (by simp [hE, lens]) (by simp [stmtA]) (by simp [livH, livO, AV.livL, AV.liv, wkL, wkV, List.range', slotsOf])
    · rintro j ⟨hj, hI⟩
      by_cases hjl : j < s.items.length
      · have hat := itemsA_at s.items j hjl
        have ew : IntKind.i64.wrap ((j : Int) + 1) = (j + 1 : Nat) := by rw [IntWalk.i64_in _ (by omega)]; rfl
        have e0 : j * 14 + 14 ≤ s.items.length * 14 := by omega
        obtain ⟨x, hx⟩ : ∃ x, x = s.items[j] := ⟨_, rfl⟩
        have hm : x ∈ s.items := hx ▸ List.getElem_mem hjl
        have c1 := name_refB x.as_ (h.items.2 x hm).1
        have hfalse := @all_false _ (fun x : ItemS => optOk x.as_) s.items j hjl
        have hI1 : (fun x : ItemS => optOk x.as_) s.items[j] = true → ∀ k (hk : k < s.items.length), k < j + 1 → (fun x : ItemS => optOk x.as_) s.items[k] = true := fun h k hk hkj => by
          by_cases e : k = j
          · subst e; exact h
          · exact hI k hk (by omega)
        rw [← hx] at hat hfalse hI1
        by_cases u : x.as_ = { data := #[] }
        · simp (maxSteps := 1000000) [hho, noHo, slotsOf, hjl, hat, e0, itemA, exprA, stmtA, ew, u, undef, onGP_none, condG_false, -List.reduceReplicate]
          refine round_next (j + 1) ⟨by omega, hI1 (by simp [optOk, u])⟩ (by omega) ?_
          exact wk_of 1 1 (by simp) (by simp [hE, lens]) (by simp [stmtA]) (by simp [livH, livO, AV.livL, AV.liv, wkL, wkV, List.range']) (by simp [livH, livO, AV.livL, AV.liv, wkL, wkV, List.range', slotsOf])
        · cases hC : nameOk x.as_ with
          | false =>
            rw [hC] at c1
            simp (maxSteps := 1000000) [hho, noHo, slotsOf, hjl, hat, e0, itemA, exprA, stmtA, ew, u, undef, onGP_none, condG_false, -List.reduceReplicate]
            refine call_x [] c1 rfl rfl ⟨rfl, rfl⟩ hho (by simp) (by decide) (by simp) (by simp) ?_
            simp (maxSteps := 1000000) [hho, noHo, ew, u, undef, onGP_none, condG_false, -List.reduceReplicate]
            have hS : rightS s = false := noR fun R => by have := R.f2 x hm; simp [optOk, hC, u] at this
            exact Ret.drop (by rfl) ⟨by rw [hS], rfl⟩
          | true =>
            rw [hC] at c1
            simp (maxSteps := 1000000) [hho, noHo, slotsOf, hjl, hat, e0, itemA, exprA, stmtA, ew, u, undef, onGP_none, condG_false, -List.reduceReplicate]
            refine call_x [] c1 rfl rfl ⟨rfl, rfl⟩ hho (by simp) (by decide) (by simp) (by simp) ?_
            simp (maxSteps := 1000000) [hho, noHo, ew, u, undef, onGP_none, condG_false, -List.reduceReplicate]
            refine round_next (j + 1) ⟨by omega, hI1 (by simp [optOk, hC])⟩ (by omega) ?_
            exact wk_of 1 1 (by simp) (by simp [hE, lens]) (by simp [stmtA]) (by simp [livH, livO, AV.livL, AV.liv, wkL, wkV, List.range']) (by simp [livH, livO, AV.livL, AV.liv, wkL, wkV, List.range', slotsOf])
      · obtain rfl : j = s.items.length := by omega
        have hall : s.items.all (fun x : ItemS => optOk x.as_) = true := all_true fun k hk _ => hI k hk hk
        simp (maxSteps := 1000000) [hho, noHo, slotsOf, stmtA, undef, onGP_none, condG_false, -List.reduceReplicate]
        exact cut_to () (List.all_eq_true.1 hall) (wk_eq (by simp [hE, lens]) (by simp [stmtA]) (by simp [livH, livO, AV.livL, AV.liv, wkL, wkV, List.range', slotsOf]))
set_option maxHeartbeats 8000000 in
theorem rr_15 (s : StmtS) (h : FitS s) (hk0 : 0 ≤ s.kind) (hk9 : s.kind ≤ 9) (hL : LenP s) {E : Env} (hE : E.ln0 = lens []) (hho : E.ho = noHo) : OnC (fun c => runK Tryd.prog E [] c [] (cutK E (fun _ : Unit => ⟨slotsOf 376 [(1, .ptr 0 0 15), (3, .c (.int .i64 s.kind)), (4, .c (.bool (decide (named s.kind))))], [.o .box (stmtA s)]⟩) (fun _ => ∀ x ∈ exprsS s, (fun x => rightE 0 x) x = true) (retK Tryd.prog (fun _ => false) [ResultVar.tmp 2] (fun r h' => r = .c (.bool (rightS s)) ∧ h' = []))) ⟨slotsOf 376 [(1, .ptr 0 0 15), (3, .c (.int .i64 s.kind)), (4, .c (.bool (decide (named s.kind))))], [.o .box (stmtA s)]⟩) (takeC 17 1 Tryd.f19.body) := by
  refine OnC.mk rfl ?_
  obtain ⟨a1, a2, a3, a4, a5, a6, a7, a8, a9, a10⟩ := hL
  have c9 := exprs_ref s h.rows.1 h.tot
  · simp (maxSteps := 1000000) [hho, noHo, slotsOf, stmtA, undef, onGP_none, condG_false, -List.reduceReplicate]
    refine call_x [] c9 rfl rfl ⟨rfl, rfl⟩ hho (by simp) (by decide) (by simp) (by simp) ?_
    obtain ⟨L, hL⟩ : ∃ L, L = exprsS s := ⟨_, rfl⟩
    have hLn : L.length ≤ 1000000 := by rw [hL]; exact h.tot
    rw [← hL]
    simp (maxSteps := 1000000) [hho, noHo, slotsOf, stmtA, undef, onGP_none, condG_false, -List.reduceReplicate]
    refine loop_k mixed (fun j : Nat => ⟨slotsOf 376 [(1, .ptr 0 0 15), (3, .c (.int .i64 s.kind)), (4, .c (.bool (decide (named s.kind)))), (366, .fs 13 L.length (exprsA L)), (367, .c (.int .i64 L.length)), (368, .c (.int .i64 (j : Nat)))], [.o .box (stmtA s)]⟩) (fun j => L.length - j) (fun j => j ≤ L.length ∧ ∀ k (hk : k < L.length), k < j → (fun x => rightE 0 x) L[k] = true) 0 ⟨Nat.zero_le _, fun k _ h => by omega⟩ ?_ ?_
    · exact wk_eq (by simp [hE, lens]) (by simp [stmtA]) (by simp [livH, livO, AV.livL, AV.liv, wkL, wkV, List.range', slotsOf])
    · rintro j ⟨hj, hI⟩
      by_cases hjl : j < L.length
      · have hat := exprsA_at L j hjl
        have ew : IntKind.i64.wrap ((j : Int) + 1) = (j + 1 : Nat) := by rw [IntWalk.i64_in _ (by omega)]; rfl
        have e0 : j * 13 + 13 ≤ L.length * 13 := by omega
        obtain ⟨x, hx⟩ : ∃ x, x = L[j] := ⟨_, rfl⟩
        have hm : x ∈ exprsS s := hL ▸ hx ▸ List.getElem_mem hjl
        have c0 := expr_ref x (h.exprs x hm) 0 (by omega)
        have hfalse := @all_false _ (fun x => rightE 0 x) L j hjl
        have hI1 : (fun x => rightE 0 x) L[j] = true → ∀ k (hk : k < L.length), k < j + 1 → (fun x => rightE 0 x) L[k] = true := fun h k hk hkj => by
          by_cases e : k = j
          · subst e; exact h
          · exact hI k hk (by omega)
        rw [← hx] at hat hfalse hI1
        simp (maxSteps := 1000000) [hho, noHo, slotsOf, hjl, hat, e0, exprA, stmtA, ew, undef, onGP_none, condG_false, -List.reduceReplicate]
        refine call_x [] c0 rfl rfl ⟨rfl, rfl⟩ hho (by simp) (by decide) (by simp) (by simp) ?_
        cases hB : rightE 0 x with
        | false =>
          simp (maxSteps := 1000000) [hho, noHo, hB, ew, undef, onGP_none, condG_false, -List.reduceReplicate]
          have hS : rightS s = false := noR fun R => by have := R.e1 x hm; rw [hB] at this; cases this
          exact Ret.drop (by rfl) ⟨by rw [hS], rfl⟩
        | true =>
          simp (maxSteps := 1000000) [hho, noHo, hB, ew, undef, onGP_none, condG_false, -List.reduceReplicate]
          refine round_next (j + 1) ⟨by omega, hI1 (by exact hB)⟩ (by omega) ?_
          exact wk_of 1 1 (by simp) (by simp [hE, lens]) (by simp [stmtA]) (by simp [livH, livO, AV.livL, AV.liv, wkL, wkV, List.range']) (by simp [livH, livO, AV.livL, AV.liv, wkL, wkV, List.range', slotsOf])
      · obtain rfl : j = L.length := by omega
        have hall : L.all (fun x => rightE 0 x) = true := all_true fun k hk _ => hI k hk hk
        simp (maxSteps := 1000000) [hho, noHo, slotsOf, stmtA, undef, onGP_none, condG_false, -List.reduceReplicate]
        exact cut_to () (List.all_eq_true.1 hall) (wk_eq (by simp [hE, lens]) (by simp [stmtA]) (by simp [livH, livO, AV.livL, AV.liv, wkL, wkV, List.range', slotsOf]))
end Go.Proofs.YtlepkpfbejfpiaaDoor
