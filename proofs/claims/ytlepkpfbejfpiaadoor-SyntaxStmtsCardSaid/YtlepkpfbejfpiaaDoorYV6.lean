import Derived.Test.YtlepkpfbejfpiaaDoorH1
namespace Go.Proofs.YtlepkpfbejfpiaaDoor
set_option linter.unusedVariables false
set_option linter.unusedSimpArgs false
open Go.RowKit
attribute [local simp] isCut_nil isCut_region isCut_seq isCut_block isCut_loop isCut_cond isCut_skip isCut_exit isCut_ret isCut_range swapK putK altK condK_bool pickP_bool stepP stepO onPure_some onPure_none onImpl_some onImpl_none stepC onGP_some onGP_none onGV_some condG mkG onIt_it nextP_ptr takeP_eq takeV_some takeV_none takeU_some takeU_none takeQ takeW_some takeN_none takeN_some takeG_some takeO_some altO_some pureV binV2 eqF eqOp ovlV ovl2 rowAt capV binV intBin strBin isSh shV fldV ixV sliceV slice3V loadAV nilV lenV callV unV convV viewS cellsH loadV fldCut AV.ung AV.ungs AV.gc AV.cells AS.ev AS.put anyS gcsV lens lnO gV guardV retK RetP_eq resV oneV anyRo loIx hiIx implO callP_clo evL gcsL clearV storeAV AS.push AS.setO appV appZ shortS copyV buildV partsV fillV srcV fzO okV isCell_c isCell_ptr isCell_sl isCell_fs isCell_fp isCell_clo rowZ_one rowZ_zero rowZ_2 rowZ_3 rowZ_4 rowZ_5 rowZ_6 rowZ_7 rowZ_8 rowZ_9 rowZ_10 rowZ_11 rowZ_12 noHo Value.oneCell' max2V min2V afterH putBack frzFrom frzO rebO backIx nilEq_sl nilEq_fs nilOp_eql nilOp_neq AV.reb AV.rebL
attribute [local simp ↓] runK_skip runK_region runK_draw runK_seq runK_cut runK_cond runK_block runK_loop runK_exit runK_label runK_goto runK_ret runK_range contK_nil contK_seq contK_seq_ret contK_seq_exit contK_seq_goto contK_block contK_block_ret contK_block_goto contK_block_exit runO_nil runO_cons roundK_exit roundK_ret roundK_goto exitK_ret cutK_ret cutK_exit runE_done runE_nil runE_take runE_alt condG_true condG_false
set_option maxRecDepth 10000
set_option maxHeartbeats 8000000 in
theorem rr_11 (s : StmtS) (h : FitS s) (hk0 : 0 ≤ s.kind) (hk9 : s.kind ≤ 9) (hL : LenP s) {E : Env} (hE : E.ln0 = lens []) (hho : E.ho = noHo) : OnC (fun c => runK Tryd.prog E [] c [] (cutK E (fun _ : Unit => ⟨slotsOf 376 [(1, .ptr 0 0 15), (3, .c (.int .i64 s.kind)), (4, .c (.bool (decide (named s.kind))))], [.o .box (stmtA s)]⟩) (fun _ => (s.kind ≠ 9 → s.items.length + s.from_.length + s.on_.length + s.group.length + s.order.length = 0) ∧ (s.kind ≠ 9 → s.limit = -1)) (retK Tryd.prog (fun _ => false) [ResultVar.tmp 2] (fun r h' => r = .c (.bool (rightS s)) ∧ h' = []))) ⟨slotsOf 376 [(1, .ptr 0 0 15), (3, .c (.int .i64 s.kind)), (4, .c (.bool (decide (named s.kind))))], [.o .box (stmtA s)]⟩) (takeC 13 1 Tryd.f19.body) := by
  refine OnC.mk rfl ?_
  obtain ⟨a1, a2, a3, a4, a5, a6, a7, a8, a9, a10⟩ := hL
  · by_cases k9 : s.kind = 9
    · simp (maxSteps := 1000000) [hho, noHo, slotsOf, stmtA, k9, undef, onGP_none, condG_false, -List.reduceReplicate]
      exact cut_to () (by first | trivial | omega | (simp only [← List.length_eq_zero_iff]; omega) | exact ⟨fun e => absurd k9 e, fun e => absurd k9 e⟩) (wk_eq (by simp [hE, lens]) (by simp [stmtA, k9]) (by simp [livH, livO, AV.livL, AV.liv, wkL, wkV, List.range', slotsOf, k9]))
    · have w1 : IntKind.i64.wrap ((s.items.length : Int) + s.from_.length) = (s.items.length : Int) + s.from_.length := IntWalk.i64_in _ (by omega)
      have w2 : IntKind.i64.wrap ((s.items.length : Int) + s.from_.length + s.on_.length) = (s.items.length : Int) + s.from_.length + s.on_.length := IntWalk.i64_in _ (by omega)
      have w3 : IntKind.i64.wrap ((s.items.length : Int) + s.from_.length + s.on_.length + s.group.length) = (s.items.length : Int) + s.from_.length + s.on_.length + s.group.length := IntWalk.i64_in _ (by omega)
      have w4 : IntKind.i64.wrap ((s.items.length : Int) + s.from_.length + s.on_.length + s.group.length + s.order.length) = (s.items.length : Int) + s.from_.length + s.on_.length + s.group.length + s.order.length := IntWalk.i64_in _ (by omega)
      by_cases u : 0 < (s.items.length : Int) + s.from_.length + s.on_.length + s.group.length + s.order.length
      · simp (maxSteps := 1000000) [hho, noHo, slotsOf, stmtA, k9, w1, w2, w3, w4, u, undef, onGP_none, condG_false, -List.reduceReplicate]
        have hS : rightS s = false := noR fun R => by have := R.q1 k9; omega
        exact Ret.drop (by rfl) ⟨by rw [hS], rfl⟩
      · by_cases lm : s.limit = -1
        · simp (maxSteps := 1000000) [hho, noHo, slotsOf, stmtA, k9, w1, w2, w3, w4, u, lm, undef, onGP_none, condG_false, -List.reduceReplicate]
          exact cut_to () (by first | trivial | omega | (simp only [← List.length_eq_zero_iff]; omega) | exact ⟨fun _ => by omega, fun _ => lm⟩) (wk_eq (by simp [hE, lens]) (by simp [stmtA, lm]) (by simp [livH, livO, AV.livL, AV.liv, wkL, wkV, List.range', slotsOf, lm]))
        · simp (maxSteps := 1000000) [hho, noHo, slotsOf, stmtA, k9, w1, w2, w3, w4, u, lm, undef, onGP_none, condG_false, -List.reduceReplicate]
          have hS : rightS s = false := noR fun R => by exact lm (R.q2 k9)
          exact Ret.drop (by rfl) ⟨by rw [hS], rfl⟩
set_option maxHeartbeats 8000000 in
theorem rr_12 (s : StmtS) (h : FitS s) (hk0 : 0 ≤ s.kind) (hk9 : s.kind ≤ 9) (hL : LenP s) {E : Env} (hE : E.ln0 = lens []) (hho : E.ho = noHo) : OnC (fun c => runK Tryd.prog E [] c [] (cutK E (fun _ : Unit => ⟨slotsOf 376 [(1, .ptr 0 0 15), (3, .c (.int .i64 s.kind)), (4, .c (.bool (decide (named s.kind))))], [.o .box (stmtA s)]⟩) (fun _ => (s.kind = 9 → s.from_.length = 1 + s.on_.length) ∧ (s.kind = 9 → -1 ≤ s.limit ∧ s.limit ≤ 1000000)) (retK Tryd.prog (fun _ => false) [ResultVar.tmp 2] (fun r h' => r = .c (.bool (rightS s)) ∧ h' = []))) ⟨slotsOf 376 [(1, .ptr 0 0 15), (3, .c (.int .i64 s.kind)), (4, .c (.bool (decide (named s.kind))))], [.o .box (stmtA s)]⟩) (takeC 14 1 Tryd.f19.body) := by
  refine OnC.mk rfl ?_
  obtain ⟨a1, a2, a3, a4, a5, a6, a7, a8, a9, a10⟩ := hL
  · have w1 : IntKind.i64.wrap (1 + (s.on_.length : Int)) = 1 + (s.on_.length : Int) := IntWalk.i64_in _ (by omega)
    by_cases k9 : s.kind = 9
    · by_cases u : (s.from_.length : Int) = 1 + s.on_.length
      · by_cases l1 : s.limit < -1
        · simp (maxSteps := 1000000) [hho, noHo, slotsOf, stmtA, k9, w1, u, l1, undef, onGP_none, condG_false, -List.reduceReplicate]
          have hS : rightS s = false := noR fun R => by have := R.q4 k9; omega
          exact Ret.drop (by rfl) ⟨by rw [hS], rfl⟩
        · have l1I : -1 ≤ s.limit := by omega
          by_cases l2 : 1000000 < s.limit
          · simp (maxSteps := 1000000) [hho, noHo, slotsOf, stmtA, k9, w1, u, l1, l1I, l2, undef, onGP_none, condG_false, -List.reduceReplicate]
            have hS : rightS s = false := noR fun R => by have := R.q4 k9; omega
            exact Ret.drop (by rfl) ⟨by rw [hS], rfl⟩
          · simp (maxSteps := 1000000) [hho, noHo, slotsOf, stmtA, k9, w1, u, l1, l1I, l2, undef, onGP_none, condG_false, -List.reduceReplicate]
            exact cut_to () (by first | trivial | omega | (simp only [← List.length_eq_zero_iff]; omega) | exact ⟨fun _ => by omega, fun _ => by omega⟩) (wk_eq (by simp [hE, lens]) (by simp [stmtA, k9, u]) (by simp [livH, livO, AV.livL, AV.liv, wkL, wkV, List.range', slotsOf, k9, u]))
      · simp (maxSteps := 1000000) [hho, noHo, slotsOf, stmtA, k9, w1, u, undef, onGP_none, condG_false, -List.reduceReplicate]
        have hS : rightS s = false := noR fun R => by have := R.q3 k9; omega
        exact Ret.drop (by rfl) ⟨by rw [hS], rfl⟩
    · simp (maxSteps := 1000000) [hho, noHo, slotsOf, stmtA, k9, w1, undef, onGP_none, condG_false, -List.reduceReplicate]
      exact cut_to () (by first | trivial | omega | (simp only [← List.length_eq_zero_iff]; omega) | exact ⟨fun e => absurd e k9, fun e => absurd e k9⟩) (wk_eq (by simp [hE, lens]) (by simp [stmtA]) (by simp [livH, livO, AV.livL, AV.liv, wkL, wkV, List.range', slotsOf]))
set_option maxHeartbeats 8000000 in
theorem rr_13 (s : StmtS) (h : FitS s) (hk0 : 0 ≤ s.kind) (hk9 : s.kind ≤ 9) (hL : LenP s) {E : Env} (hE : E.ln0 = lens []) (hho : E.ho = noHo) : OnC (fun c => runK Tryd.prog E [] c [] (cutK E (fun _ : Unit => ⟨slotsOf 376 [(1, .ptr 0 0 15), (3, .c (.int .i64 s.kind)), (4, .c (.bool (decide (named s.kind))))], [.o .box (stmtA s)]⟩) (fun _ => ∀ x ∈ s.from_, srcOk x = true) (retK Tryd.prog (fun _ => false) [ResultVar.tmp 2] (fun r h' => r = .c (.bool (rightS s)) ∧ h' = []))) ⟨slotsOf 376 [(1, .ptr 0 0 15), (3, .c (.int .i64 s.kind)), (4, .c (.bool (decide (named s.kind))))], [.o .box (stmtA s)]⟩) (takeC 15 1 Tryd.f19.body) := by
  refine OnC.mk rfl ?_
  obtain ⟨a1, a2, a3, a4, a5, a6, a7, a8, a9, a10⟩ := hL
  have hfn : s.from_.length ≤ 20 := a7
  · simp (maxSteps := 1000000) [hho, noHo, slotsOf, stmtA, undef, onGP_none, condG_false, -List.reduceReplicate]
    refine loop_k mixed (fun j : Nat => ⟨slotsOf 376 [(1, .ptr 0 0 15), (3, .c (.int .i64 s.kind)), (4, .c (.bool (decide (named s.kind)))), (326, .fs 2 s.from_.length (srcsA s.from_)), (327, .c (.int .i64 s.from_.length)), (328, .c (.int .i64 (j : Nat)))], [.o .box (stmtA s)]⟩) (fun j => s.from_.length - j) (fun j => j ≤ s.from_.length ∧ ∀ k (hk : k < s.from_.length), k < j → srcOk s.from_[k] = true) 0 ⟨Nat.zero_le _, fun k _ h => by omega⟩ ?_ ?_
    · exact wk_eq (by simp [hE, lens]) (by simp [stmtA]) (by simp [livH, livO, AV.livL, AV.liv, wkL, wkV, List.range', slotsOf])
    · rintro j ⟨hj, hI⟩
      by_cases hjl : j < s.from_.length
      · have hat := srcsA_at s.from_ j hjl
        have ew : IntKind.i64.wrap ((j : Int) + 1) = (j + 1 : Nat) := by rw [IntWalk.i64_in _ (by omega)]; rfl
        have e0 : j * 2 + 2 ≤ s.from_.length * 2 := by omega
        obtain ⟨x, hx⟩ : ∃ x, x = s.from_[j] := ⟨_, rfl⟩
        have hm : x ∈ s.from_ := hx ▸ List.getElem_mem hjl
        have c0 := name_refB x.tab (h.from_.2 x hm).1
        have c1 := name_refB x.as_ (h.from_.2 x hm).2
        have hfalse := @all_false _ srcOk s.from_ j hjl
        have hI1 : srcOk s.from_[j] = true → ∀ k (hk : k < s.from_.length), k < j + 1 → srcOk s.from_[k] = true := fun h k hk hkj => by
          by_cases e : k = j
          · subst e; exact h
          · exact hI k hk (by omega)
        rw [← hx] at hat hfalse hI1
        cases hB : nameOk x.tab with
        | false =>
          rw [hB] at c0
          simp (maxSteps := 1000000) [hho, noHo, slotsOf, hjl, hat, e0, srcA, stmtA, ew, undef, onGP_none, condG_false, -List.reduceReplicate]
          refine call_x [] c0 rfl rfl ⟨rfl, rfl⟩ hho (by simp) (by decide) (by simp) (by simp) ?_
          simp (maxSteps := 1000000) [hho, noHo, ew, undef, onGP_none, condG_false, -List.reduceReplicate]
          have hS : rightS s = false := noR fun R => by have := R.f1 x hm; simp [srcOk, hB] at this
          exact Ret.drop (by rfl) ⟨by rw [hS], rfl⟩
        | true =>
          rw [hB] at c0
          by_cases u : x.as_ = { data := #[] }
          · simp (maxSteps := 1000000) [hho, noHo, slotsOf, hjl, hat, e0, srcA, stmtA, ew, u, undef, onGP_none, condG_false, -List.reduceReplicate]
            refine call_x [] c0 rfl rfl ⟨rfl, rfl⟩ hho (by simp) (by decide) (by simp) (by simp) ?_
            simp (maxSteps := 1000000) [hho, noHo, ew, u, undef, onGP_none, condG_false, -List.reduceReplicate]
            refine round_next (j + 1) ⟨by omega, hI1 (by simp [srcOk, optOk, hB, u])⟩ (by omega) ?_
            exact wk_of 1 1 (by simp) (by simp [hE, lens]) (by simp [stmtA]) (by simp [livH, livO, AV.livL, AV.liv, wkL, wkV, List.range']) (by simp [livH, livO, AV.livL, AV.liv, wkL, wkV, List.range', slotsOf])
          · cases hC : nameOk x.as_ with
            | false =>
              rw [hC] at c1
              simp (maxSteps := 1000000) [hho, noHo, slotsOf, hjl, hat, e0, srcA, stmtA, ew, u, undef, onGP_none, condG_false, -List.reduceReplicate]
              refine call_x [] c0 rfl rfl ⟨rfl, rfl⟩ hho (by simp) (by decide) (by simp) (by simp) ?_
              simp (maxSteps := 1000000) [hho, noHo, ew, u, undef, onGP_none, condG_false, -List.reduceReplicate]
              refine call_x [] c1 rfl rfl ⟨rfl, rfl⟩ hho (by simp) (by decide) (by simp) (by simp) ?_
              simp (maxSteps := 1000000) [hho, noHo, ew, u, undef, onGP_none, condG_false, -List.reduceReplicate]
              have hS : rightS s = false := noR fun R => by have := R.f1 x hm; simp [srcOk, optOk, hC, u] at this
              exact Ret.drop (by rfl) ⟨by rw [hS], rfl⟩
            | true =>
              rw [hC] at c1
              simp (maxSteps := 1000000) [hho, noHo, slotsOf, hjl, hat, e0, srcA, stmtA, ew, u, undef, onGP_none, condG_false, -List.reduceReplicate]
              refine call_x [] c0 rfl rfl ⟨rfl, rfl⟩ hho (by simp) (by decide) (by simp) (by simp) ?_
              simp (maxSteps := 1000000) [hho, noHo, ew, u, undef, onGP_none, condG_false, -List.reduceReplicate]
              refine call_x [] c1 rfl rfl ⟨rfl, rfl⟩ hho (by simp) (by decide) (by simp) (by simp) ?_
              simp (maxSteps := 1000000) [hho, noHo, ew, u, undef, onGP_none, condG_false, -List.reduceReplicate]
              refine round_next (j + 1) ⟨by omega, hI1 (by simp [srcOk, optOk, hB, hC])⟩ (by omega) ?_
              exact wk_of 1 1 (by simp) (by simp [hE, lens]) (by simp [stmtA]) (by simp [livH, livO, AV.livL, AV.liv, wkL, wkV, List.range']) (by simp [livH, livO, AV.livL, AV.liv, wkL, wkV, List.range', slotsOf])
      · obtain rfl : j = s.from_.length := by omega
        have hall : s.from_.all srcOk = true := all_true fun k hk _ => hI k hk hk
        simp (maxSteps := 1000000) [hho, noHo, slotsOf, stmtA, undef, onGP_none, condG_false, -List.reduceReplicate]
        exact cut_to () (List.all_eq_true.1 hall) (wk_eq (by simp [hE, lens]) (by simp [stmtA]) (by simp [livH, livO, AV.livL, AV.liv, wkL, wkV, List.range', slotsOf]))
end Go.Proofs.YtlepkpfbejfpiaaDoor
