import Derived.Test.YtlepkpfbejfpiaaDoorH1
namespace Go.Proofs.YtlepkpfbejfpiaaDoor
set_option linter.unusedVariables false
set_option linter.unusedSimpArgs false
open Go.RowKit
attribute [local simp] isCut_nil isCut_region isCut_seq isCut_block isCut_loop isCut_cond isCut_skip isCut_exit isCut_ret isCut_range swapK putK altK condK_bool pickP_bool stepP stepO onPure_some onPure_none onImpl_some onImpl_none stepC onGP_some onGP_none onGV_some condG mkG onIt_it nextP_ptr takeP_eq takeV_some takeV_none takeU_some takeU_none takeQ takeW_some takeN_none takeN_some takeG_some takeO_some altO_some pureV binV2 eqF eqOp ovlV ovl2 rowAt capV binV intBin strBin isSh shV fldV ixV sliceV slice3V loadAV nilV lenV callV unV convV viewS cellsH loadV fldCut AV.ung AV.ungs AV.gc AV.cells AS.ev AS.put anyS gcsV lens lnO gV guardV retK RetP_eq resV oneV anyRo loIx hiIx implO callP_clo evL gcsL clearV storeAV AS.push AS.setO appV appZ shortS copyV buildV partsV fillV srcV fzO okV isCell_c isCell_ptr isCell_sl isCell_fs isCell_fp isCell_clo rowZ_one rowZ_zero rowZ_2 rowZ_3 rowZ_4 rowZ_5 rowZ_6 rowZ_7 rowZ_8 rowZ_9 rowZ_10 rowZ_11 rowZ_12 noHo Value.oneCell' max2V min2V afterH putBack frzFrom frzO rebO backIx nilEq_sl nilEq_fs nilOp_eql nilOp_neq AV.reb AV.rebL
attribute [local simp ↓] runK_skip runK_region runK_draw runK_seq runK_cut runK_cond runK_block runK_loop runK_exit runK_label runK_goto runK_ret runK_range contK_nil contK_seq contK_seq_ret contK_seq_exit contK_seq_goto contK_block contK_block_ret contK_block_goto contK_block_exit runO_nil runO_cons roundK_exit roundK_ret roundK_goto exitK_ret cutK_ret cutK_exit runE_done runE_nil runE_take runE_alt condG_true condG_false
set_option maxRecDepth 10000
set_option maxHeartbeats 8000000 in
theorem rr_1 (s : StmtS) (h : FitS s) (hk0 : 0 ≤ s.kind) (hk9 : s.kind ≤ 9) (hL : LenP s) {E : Env} (hE : E.ln0 = lens []) (hho : E.ho = noHo) : OnC (fun c => runK Tryd.prog E [] c [] (cutK E (fun _ : Unit => ⟨slotsOf 376 [(1, .ptr 0 0 15), (3, .c (.int .i64 s.kind))], [.o .box (stmtA s)]⟩) (fun _ => (s.kind = 9 ↔ s.tab = { data := #[] }) ∧ (s.kind ≠ 9 → nameOk s.tab = true)) (retK Tryd.prog (fun _ => false) [ResultVar.tmp 2] (fun r h' => r = .c (.bool (rightS s)) ∧ h' = []))) ⟨slotsOf 376 [(1, .ptr 0 0 15), (3, .c (.int .i64 s.kind))], [.o .box (stmtA s)]⟩) (takeC 3 1 Tryd.f19.body) := by
  refine OnC.mk rfl ?_
  obtain ⟨a1, a2, a3, a4, a5, a6, a7, a8, a9, a10⟩ := hL
  · have c0 := name_refB s.tab h.tab
    by_cases k9 : s.kind = 9
    · by_cases ht : s.tab = { data := #[] }
      · simp (maxSteps := 1000000) [hho, noHo, slotsOf, stmtA, k9, ht, undef, onGP_none, condG_false, -List.reduceReplicate]
        exact cut_to () (by first | trivial | omega | (simp only [← List.length_eq_zero_iff]; omega) | exact ⟨⟨fun _ => ht, fun _ => k9⟩, fun e => absurd k9 e⟩) (wk_eq (by simp [hE, lens]) (by simp [stmtA, k9, ht]) (by simp [livH, livO, AV.livL, AV.liv, wkL, wkV, List.range', slotsOf, k9, ht]))
      · simp (maxSteps := 1000000) [hho, noHo, slotsOf, stmtA, k9, ht, undef, onGP_none, condG_false, -List.reduceReplicate]
        have hS : rightS s = false := noR fun R => by exact ht (R.t1.1 k9)
        exact Ret.drop (by rfl) ⟨by rw [hS], rfl⟩
    · by_cases ht : s.tab = { data := #[] }
      · simp (maxSteps := 1000000) [hho, noHo, slotsOf, stmtA, k9, ht, undef, onGP_none, condG_false, -List.reduceReplicate]
        have hS : rightS s = false := noR fun R => by exact k9 (R.t1.2 ht)
        exact Ret.drop (by rfl) ⟨by rw [hS], rfl⟩
      · simp (maxSteps := 1000000) [hho, noHo, slotsOf, stmtA, k9, ht, undef, onGP_none, condG_false, -List.reduceReplicate]
        refine call_x [] c0 rfl rfl ⟨rfl, rfl⟩ hho (by simp) (by decide) (by simp) (by simp) ?_
        cases hB : nameOk s.tab with
        | false =>
          simp (maxSteps := 1000000) [hho, noHo, hB, undef, onGP_none, condG_false, -List.reduceReplicate]
          have hS : rightS s = false := noR fun R => by have := R.t2 k9; rw [hB] at this; cases this
          exact Ret.drop (by rfl) ⟨by rw [hS], rfl⟩
        | true =>
          simp (maxSteps := 1000000) [hho, noHo, hB, undef, onGP_none, condG_false, -List.reduceReplicate]
          exact cut_to () (by first | trivial | omega | (simp only [← List.length_eq_zero_iff]; omega) | exact ⟨⟨fun e => absurd e k9, fun e => absurd e ht⟩, fun _ => hB⟩) (wk_eq (by simp [hE, lens]) (by simp [stmtA]) (by simp [livH, livO, AV.livL, AV.liv, wkL, wkV, List.range', slotsOf]))
set_option maxHeartbeats 8000000 in
theorem rr_2 (s : StmtS) (h : FitS s) (hk0 : 0 ≤ s.kind) (hk9 : s.kind ≤ 9) (hL : LenP s) {E : Env} (hE : E.ln0 = lens []) (hho : E.ho = noHo) : OnC (fun c => runK Tryd.prog E [] c [] (cutK E (fun _ : Unit => ⟨slotsOf 376 [(1, .ptr 0 0 15), (3, .c (.int .i64 s.kind)), (4, .c (.bool (decide (named s.kind))))], [.o .box (stmtA s)]⟩) (fun _ => True) (retK Tryd.prog (fun _ => false) [ResultVar.tmp 2] (fun r h' => r = .c (.bool (rightS s)) ∧ h' = []))) ⟨slotsOf 376 [(1, .ptr 0 0 15), (3, .c (.int .i64 s.kind))], [.o .box (stmtA s)]⟩) (takeC 4 1 Tryd.f19.body) := by
  refine OnC.mk rfl ?_
  obtain ⟨a1, a2, a3, a4, a5, a6, a7, a8, a9, a10⟩ := hL
  · skip
    by_cases m0 : s.kind = 1
    · simp (maxSteps := 1000000) [hho, noHo, slotsOf, stmtA, m0, undef, onGP_none, condG_false, -List.reduceReplicate]
      exact cut_to () (by first | trivial | omega | (simp only [← List.length_eq_zero_iff]; omega) | exact trivial) (wk_eq (by simp [hE, lens]) (by simp [stmtA, named, m0]) (by simp [livH, livO, AV.livL, AV.liv, wkL, wkV, List.range', slotsOf, named, m0]))
    by_cases m1 : s.kind = 2
    · simp (maxSteps := 1000000) [hho, noHo, slotsOf, stmtA, m0, m1, undef, onGP_none, condG_false, -List.reduceReplicate]
      exact cut_to () (by first | trivial | omega | (simp only [← List.length_eq_zero_iff]; omega) | exact trivial) (wk_eq (by simp [hE, lens]) (by simp [stmtA, named, m0, m1]) (by simp [livH, livO, AV.livL, AV.liv, wkL, wkV, List.range', slotsOf, named, m0, m1]))
    by_cases m2 : s.kind = 4
    · simp (maxSteps := 1000000) [hho, noHo, slotsOf, stmtA, m0, m1, m2, undef, onGP_none, condG_false, -List.reduceReplicate]
      exact cut_to () (by first | trivial | omega | (simp only [← List.length_eq_zero_iff]; omega) | exact trivial) (wk_eq (by simp [hE, lens]) (by simp [stmtA, named, m0, m1, m2]) (by simp [livH, livO, AV.livL, AV.liv, wkL, wkV, List.range', slotsOf, named, m0, m1, m2]))
    by_cases m3 : s.kind = 5
    · simp (maxSteps := 1000000) [hho, noHo, slotsOf, stmtA, m0, m1, m2, m3, undef, onGP_none, condG_false, -List.reduceReplicate]
      exact cut_to () (by first | trivial | omega | (simp only [← List.length_eq_zero_iff]; omega) | exact trivial) (wk_eq (by simp [hE, lens]) (by simp [stmtA, named, m0, m1, m2, m3]) (by simp [livH, livO, AV.livL, AV.liv, wkL, wkV, List.range', slotsOf, named, m0, m1, m2, m3]))
    simp (maxSteps := 1000000) [hho, noHo, slotsOf, stmtA, m0, m1, m2, m3, undef, onGP_none, condG_false, -List.reduceReplicate]
    exact cut_to () (by first | trivial | omega | (simp only [← List.length_eq_zero_iff]; omega) | exact trivial) (wk_eq (by simp [hE, lens]) (by simp [stmtA, named, m0, m1, m2, m3]) (by simp [livH, livO, AV.livL, AV.liv, wkL, wkV, List.range', slotsOf, named, m0, m1, m2, m3]))
set_option maxHeartbeats 8000000 in
theorem rr_3 (s : StmtS) (h : FitS s) (hk0 : 0 ≤ s.kind) (hk9 : s.kind ≤ 9) (hL : LenP s) {E : Env} (hE : E.ln0 = lens []) (hho : E.ho = noHo) : OnC (fun c => runK Tryd.prog E [] c [] (cutK E (fun _ : Unit => ⟨slotsOf 376 [(1, .ptr 0 0 15), (3, .c (.int .i64 s.kind)), (4, .c (.bool (decide (named s.kind))))], [.o .box (stmtA s)]⟩) (fun _ => (named s.kind ↔ ¬ s.name = { data := #[] }) ∧ (named s.kind → nameOk s.name = true) ∧ (s.uniq = true → s.kind = 1)) (retK Tryd.prog (fun _ => false) [ResultVar.tmp 2] (fun r h' => r = .c (.bool (rightS s)) ∧ h' = []))) ⟨slotsOf 376 [(1, .ptr 0 0 15), (3, .c (.int .i64 s.kind)), (4, .c (.bool (decide (named s.kind))))], [.o .box (stmtA s)]⟩) (takeC 5 1 Tryd.f19.body) := by
  refine OnC.mk rfl ?_
  obtain ⟨a1, a2, a3, a4, a5, a6, a7, a8, a9, a10⟩ := hL
  · have c0 := name_refB s.name h.name
    by_cases hn : named s.kind
    · by_cases he : s.name = { data := #[] }
      · simp (maxSteps := 1000000) [hho, noHo, slotsOf, stmtA, hn, he, undef, onGP_none, condG_false, -List.reduceReplicate]
        have hS : rightS s = false := noR fun R => by exact R.n1.1 hn he
        exact Ret.drop (by rfl) ⟨by rw [hS], rfl⟩
      · cases hB : nameOk s.name with
        | false =>
          rw [hB] at c0
          simp (maxSteps := 1000000) [hho, noHo, slotsOf, stmtA, hn, he, undef, onGP_none, condG_false, -List.reduceReplicate]
          refine call_x [] c0 rfl rfl ⟨rfl, rfl⟩ hho (by simp) (by decide) (by simp) (by simp) ?_
          simp (maxSteps := 1000000) [hho, noHo, hn, he, undef, onGP_none, condG_false, -List.reduceReplicate]
          have hS : rightS s = false := noR fun R => by have := R.n2 hn; rw [hB] at this; cases this
          exact Ret.drop (by rfl) ⟨by rw [hS], rfl⟩
        | true =>
          rw [hB] at c0
          cases hu : s.uniq with
          | false =>
            simp (maxSteps := 1000000) [hho, noHo, slotsOf, stmtA, hn, he, hu, undef, onGP_none, condG_false, -List.reduceReplicate]
            refine call_x [] c0 rfl rfl ⟨rfl, rfl⟩ hho (by simp) (by decide) (by simp) (by simp) ?_
            simp (maxSteps := 1000000) [hho, noHo, hn, he, hu, undef, onGP_none, condG_false, -List.reduceReplicate]
            exact cut_to () (by first | trivial | omega | (simp only [← List.length_eq_zero_iff]; omega) | exact ⟨⟨fun _ => he, fun _ => hn⟩, fun _ => hB, fun e => by cases hu.symm.trans e⟩) (wk_eq (by simp [hE, lens]) (by simp [stmtA, hu]) (by simp [livH, livO, AV.livL, AV.liv, wkL, wkV, List.range', slotsOf, hu]))
          | true =>
            have hn1 : named 1 := Or.inl rfl
            by_cases k1 : s.kind = 1
            · simp (maxSteps := 1000000) [hho, noHo, slotsOf, stmtA, hn, he, hu, k1, hn1, undef, onGP_none, condG_false, -List.reduceReplicate]
              refine call_x [] c0 rfl rfl ⟨rfl, rfl⟩ hho (by simp) (by decide) (by simp) (by simp) ?_
              simp (maxSteps := 1000000) [hho, noHo, hn, he, hu, k1, hn1, undef, onGP_none, condG_false, -List.reduceReplicate]
              exact cut_to () (by first | trivial | omega | (simp only [← List.length_eq_zero_iff]; omega) | exact ⟨⟨fun _ => he, fun _ => hn⟩, fun _ => hB, fun _ => k1⟩) (wk_eq (by simp [hE, lens]) (by simp [stmtA, hu, k1, hn1]) (by simp [livH, livO, AV.livL, AV.liv, wkL, wkV, List.range', slotsOf, hu, k1, hn1]))
            · simp (maxSteps := 1000000) [hho, noHo, slotsOf, stmtA, hn, he, hu, k1, undef, onGP_none, condG_false, -List.reduceReplicate]
              refine call_x [] c0 rfl rfl ⟨rfl, rfl⟩ hho (by simp) (by decide) (by simp) (by simp) ?_
              simp (maxSteps := 1000000) [hho, noHo, hn, he, hu, k1, undef, onGP_none, condG_false, -List.reduceReplicate]
              have hS : rightS s = false := noR fun R => by exact k1 (R.n3 hu)
              exact Ret.drop (by rfl) ⟨by rw [hS], rfl⟩
    · by_cases he : s.name = { data := #[] }
      · cases hu : s.uniq with
        | false =>
          simp (maxSteps := 1000000) [hho, noHo, slotsOf, stmtA, hn, he, hu, undef, onGP_none, condG_false, -List.reduceReplicate]
          exact cut_to () (by first | trivial | omega | (simp only [← List.length_eq_zero_iff]; omega) | exact ⟨⟨fun e => absurd e hn, fun e => absurd he e⟩, fun e => absurd e hn, fun e => by cases hu.symm.trans e⟩) (wk_eq (by simp [hE, lens]) (by simp [stmtA, hu]) (by simp [livH, livO, AV.livL, AV.liv, wkL, wkV, List.range', slotsOf, hu]))
        | true =>
          by_cases k1 : s.kind = 1
          · exact absurd (Or.inl k1) hn
          · simp (maxSteps := 1000000) [hho, noHo, slotsOf, stmtA, hn, he, hu, k1, undef, onGP_none, condG_false, -List.reduceReplicate]
            have hS : rightS s = false := noR fun R => by exact k1 (R.n3 hu)
            exact Ret.drop (by rfl) ⟨by rw [hS], rfl⟩
      · simp (maxSteps := 1000000) [hho, noHo, slotsOf, stmtA, hn, he, undef, onGP_none, condG_false, -List.reduceReplicate]
        have hS : rightS s = false := noR fun R => by exact hn (R.n1.2 he)
        exact Ret.drop (by rfl) ⟨by rw [hS], rfl⟩
set_option maxHeartbeats 8000000 in
theorem rr_4 (s : StmtS) (h : FitS s) (hk0 : 0 ≤ s.kind) (hk9 : s.kind ≤ 9) (hL : LenP s) {E : Env} (hE : E.ln0 = lens []) (hho : E.ho = noHo) : OnC (fun c => runK Tryd.prog E [] c [] (cutK E (fun _ : Unit => ⟨slotsOf 376 [(1, .ptr 0 0 15), (3, .c (.int .i64 s.kind)), (4, .c (.bool (decide (named s.kind))))], [.o .box (stmtA s)]⟩) (fun _ => (s.kind = 1 ∨ s.kind = 6) ↔ 0 < s.names.length) (retK Tryd.prog (fun _ => false) [ResultVar.tmp 2] (fun r h' => r = .c (.bool (rightS s)) ∧ h' = []))) ⟨slotsOf 376 [(1, .ptr 0 0 15), (3, .c (.int .i64 s.kind)), (4, .c (.bool (decide (named s.kind))))], [.o .box (stmtA s)]⟩) (takeC 6 1 Tryd.f19.body) := by
  refine OnC.mk rfl ?_
  obtain ⟨a1, a2, a3, a4, a5, a6, a7, a8, a9, a10⟩ := hL
  · skip
    by_cases z : 0 < s.names.length
    · have zI : (0 : Int) < s.names.length := by omega
      have zE : ¬ s.names = [] := fun e => by rw [e] at z; cases z
      by_cases m0 : s.kind = 1
      · simp (maxSteps := 1000000) [hho, noHo, slotsOf, stmtA, z, zI, zE, m0, undef, onGP_none, condG_false, -List.reduceReplicate]
        exact cut_to () (by first | trivial | omega | (simp only [← List.length_eq_zero_iff]; omega) | exact ⟨fun _ => z, fun _ => by omega⟩) (wk_eq (by simp [hE, lens]) (by simp [stmtA, m0]) (by simp [livH, livO, AV.livL, AV.liv, wkL, wkV, List.range', slotsOf, m0]))
      by_cases m1 : s.kind = 6
      · simp (maxSteps := 1000000) [hho, noHo, slotsOf, stmtA, z, zI, zE, m0, m1, undef, onGP_none, condG_false, -List.reduceReplicate]
        exact cut_to () (by first | trivial | omega | (simp only [← List.length_eq_zero_iff]; omega) | exact ⟨fun _ => z, fun _ => by omega⟩) (wk_eq (by simp [hE, lens]) (by simp [stmtA, m1]) (by simp [livH, livO, AV.livL, AV.liv, wkL, wkV, List.range', slotsOf, m1]))
      simp (maxSteps := 1000000) [hho, noHo, slotsOf, stmtA, z, zI, zE, m0, m1, undef, onGP_none, condG_false, -List.reduceReplicate]
      have hS : rightS s = false := noR fun R => by have := R.l1; omega
      exact Ret.drop (by rfl) ⟨by rw [hS], rfl⟩
    · have zI : ¬ (0 : Int) < s.names.length := by omega
      have zE : s.names = [] := List.eq_nil_of_length_eq_zero (by omega)
      by_cases m0 : s.kind = 1
      · simp (maxSteps := 1000000) [hho, noHo, slotsOf, stmtA, z, zI, zE, m0, undef, onGP_none, condG_false, -List.reduceReplicate]
        have hS : rightS s = false := noR fun R => by have := R.l1; omega
        exact Ret.drop (by rfl) ⟨by rw [hS], rfl⟩
      by_cases m1 : s.kind = 6
      · simp (maxSteps := 1000000) [hho, noHo, slotsOf, stmtA, z, zI, zE, m0, m1, undef, onGP_none, condG_false, -List.reduceReplicate]
        have hS : rightS s = false := noR fun R => by have := R.l1; omega
        exact Ret.drop (by rfl) ⟨by rw [hS], rfl⟩
      simp (maxSteps := 1000000) [hho, noHo, slotsOf, stmtA, z, zI, zE, m0, m1, undef, onGP_none, condG_false, -List.reduceReplicate]
      exact cut_to () (by first | trivial | omega | (simp only [← List.length_eq_zero_iff]; omega) | exact ⟨fun e => by omega, fun e => absurd e z⟩) (wk_eq (by simp [hE, lens]) (by simp [stmtA]) (by simp [livH, livO, AV.livL, AV.liv, wkL, wkV, List.range', slotsOf]))
end Go.Proofs.YtlepkpfbejfpiaaDoor
namespace Go.Proofs.YtlepkpfbejfpiaaDoor
set_option linter.unusedVariables false
set_option linter.unusedSimpArgs false
open Go.RowKit
attribute [local simp] isCut_nil isCut_region isCut_seq isCut_block isCut_loop isCut_cond isCut_skip isCut_exit isCut_ret isCut_range swapK putK altK condK_bool pickP_bool stepP stepO onPure_some onPure_none onImpl_some onImpl_none stepC onGP_some onGP_none onGV_some condG mkG onIt_it nextP_ptr takeP_eq takeV_some takeV_none takeU_some takeU_none takeQ takeW_some takeN_none takeN_some takeG_some takeO_some altO_some pureV binV2 eqF eqOp ovlV ovl2 rowAt capV binV intBin strBin isSh shV fldV ixV sliceV slice3V loadAV nilV lenV callV unV convV viewS cellsH loadV fldCut AV.ung AV.ungs AV.gc AV.cells AS.ev AS.put anyS gcsV lens lnO gV guardV retK RetP_eq resV oneV anyRo loIx hiIx implO callP_clo evL gcsL clearV storeAV AS.push AS.setO appV appZ shortS copyV buildV partsV fillV srcV fzO okV isCell_c isCell_ptr isCell_sl isCell_fs isCell_fp isCell_clo rowZ_one rowZ_zero rowZ_2 rowZ_3 rowZ_4 rowZ_5 rowZ_6 rowZ_7 rowZ_8 rowZ_9 rowZ_10 rowZ_11 rowZ_12 noHo Value.oneCell' max2V min2V afterH putBack frzFrom frzO rebO backIx nilEq_sl nilEq_fs nilOp_eql nilOp_neq AV.reb AV.rebL
attribute [local simp ↓] runK_skip runK_region runK_draw runK_seq runK_cut runK_cond runK_block runK_loop runK_exit runK_label runK_goto runK_ret runK_range contK_nil contK_seq contK_seq_ret contK_seq_exit contK_seq_goto contK_block contK_block_ret contK_block_goto contK_block_exit runO_nil runO_cons roundK_exit roundK_ret roundK_goto exitK_ret cutK_ret cutK_exit runE_done runE_nil runE_take runE_alt condG_true condG_false
set_option maxRecDepth 10000
set_option maxHeartbeats 8000000 in
theorem rr_5 (s : StmtS) (h : FitS s) (hk0 : 0 ≤ s.kind) (hk9 : s.kind ≤ 9) (hL : LenP s) {E : Env} (hE : E.ln0 = lens []) (hho : E.ho = noHo) : OnC (fun c => runK Tryd.prog E [] c [] (cutK E (fun _ : Unit => ⟨slotsOf 376 [(1, .ptr 0 0 15), (3, .c (.int .i64 s.kind)), (4, .c (.bool (decide (named s.kind))))], [.o .box (stmtA s)]⟩) (fun _ => ∀ x ∈ s.names, nameOk x = true) (retK Tryd.prog (fun _ => false) [ResultVar.tmp 2] (fun r h' => r = .c (.bool (rightS s)) ∧ h' = []))) ⟨slotsOf 376 [(1, .ptr 0 0 15), (3, .c (.int .i64 s.kind)), (4, .c (.bool (decide (named s.kind))))], [.o .box (stmtA s)]⟩) (takeC 7 1 Tryd.f19.body) := by
  refine OnC.mk rfl ?_
  obtain ⟨a1, a2, a3, a4, a5, a6, a7, a8, a9, a10⟩ := hL
  have hnn : s.names.length ≤ 20 := a1
  · simp (maxSteps := 1000000) [hho, noHo, slotsOf, stmtA, undef, onGP_none, condG_false, -List.reduceReplicate]
    refine loop_k mixed (fun j : Nat => ⟨slotsOf 376 [(1, .ptr 0 0 15), (3, .c (.int .i64 s.kind)), (4, .c (.bool (decide (named s.kind)))), (151, .fs 1 s.names.length (strsA s.names)), (152, .c (.int .i64 s.names.length)), (153, .c (.int .i64 (j : Nat)))], [.o .box (stmtA s)]⟩) (fun j => s.names.length - j) (fun j => j ≤ s.names.length ∧ ∀ k (hk : k < s.names.length), k < j → nameOk s.names[k] = true) 0 ⟨Nat.zero_le _, fun k _ h => by omega⟩ ?_ ?_
    · exact wk_eq (by simp [hE, lens]) (by simp [stmtA]) (by simp [livH, livO, AV.livL, AV.liv, wkL, wkV, List.range', slotsOf])
    · rintro j ⟨hj, hI⟩
      by_cases hjl : j < s.names.length
      · have hat := strsA_at s.names j hjl
        have ew : IntKind.i64.wrap ((j : Int) + 1) = (j + 1 : Nat) := by rw [IntWalk.i64_in _ (by omega)]; rfl
        have e0 : j * 1 + 1 ≤ s.names.length * 1 := by omega
        obtain ⟨x, hx⟩ : ∃ x, x = s.names[j] := ⟨_, rfl⟩
        have hg1 : (strsA s.names)[j]'(by simp; omega) = .c (.string x) := by rw [hx]; exact strsA_get s.names j hjl
        have hm : x ∈ s.names := hx ▸ List.getElem_mem hjl
        have c0 := name_refB x (h.names.2 x hm)
        have hfalse := @all_false _ nameOk s.names j hjl
        have hI1 : nameOk s.names[j] = true → ∀ k (hk : k < s.names.length), k < j + 1 → nameOk s.names[k] = true := fun h k hk hkj => by
          by_cases e : k = j
          · subst e; exact h
          · exact hI k hk (by omega)
        rw [← hx] at hat hfalse hI1
        simp (maxSteps := 1000000) [hho, noHo, slotsOf, hjl, hat, e0, hg1, strA, stmtA, ew, undef, onGP_none, condG_false, -List.reduceReplicate]
        refine ⟨by omega, ?_⟩
        refine call_x [] c0 rfl rfl ⟨rfl, rfl⟩ hho (by simp) (by decide) (by simp) (by simp) ?_
        cases hB : nameOk x with
        | false =>
          simp (maxSteps := 1000000) [hho, noHo, hB, ew, undef, onGP_none, condG_false, -List.reduceReplicate]
          have hS : rightS s = false := noR fun R => by have := R.l2 x hm; rw [hB] at this; cases this
          exact Ret.drop (by rfl) ⟨by rw [hS], rfl⟩
        | true =>
          simp (maxSteps := 1000000) [hho, noHo, hB, ew, undef, onGP_none, condG_false, -List.reduceReplicate]
          refine round_next (j + 1) ⟨by omega, hI1 (by exact hB)⟩ (by omega) ?_
          exact wk_eq (by simp [hE, lens]) (by simp [stmtA]) (by simp [livH, livO, AV.livL, AV.liv, wkL, wkV, List.range', slotsOf])
      · obtain rfl : j = s.names.length := by omega
        have hall : s.names.all nameOk = true := all_true fun k hk _ => hI k hk hk
        simp (maxSteps := 1000000) [hho, noHo, slotsOf, stmtA, undef, onGP_none, condG_false, -List.reduceReplicate]
        exact cut_to () (List.all_eq_true.1 hall) (wk_eq (by simp [hE, lens]) (by simp [stmtA]) (by simp [livH, livO, AV.livL, AV.liv, wkL, wkV, List.range', slotsOf]))
set_option maxHeartbeats 8000000 in
theorem rr_6 (s : StmtS) (h : FitS s) (hk0 : 0 ≤ s.kind) (hk9 : s.kind ≤ 9) (hL : LenP s) {E : Env} (hE : E.ln0 = lens []) (hho : E.ho = noHo) : OnC (fun c => runK Tryd.prog E [] c [] (cutK E (fun _ : Unit => ⟨slotsOf 376 [(1, .ptr 0 0 15), (3, .c (.int .i64 s.kind)), (4, .c (.bool (decide (named s.kind))))], [.o .box (stmtA s)]⟩) (fun _ => ((s.kind = 0 ∨ s.kind = 3 ∨ s.kind = 5) ↔ 0 < s.cols.length) ∧ ((s.kind = 3 ∨ s.kind = 5) → s.cols.length = 1)) (retK Tryd.prog (fun _ => false) [ResultVar.tmp 2] (fun r h' => r = .c (.bool (rightS s)) ∧ h' = []))) ⟨slotsOf 376 [(1, .ptr 0 0 15), (3, .c (.int .i64 s.kind)), (4, .c (.bool (decide (named s.kind))))], [.o .box (stmtA s)]⟩) (takeC 8 1 Tryd.f19.body) := by
  refine OnC.mk rfl ?_
  obtain ⟨a1, a2, a3, a4, a5, a6, a7, a8, a9, a10⟩ := hL
  · skip
    by_cases z : 0 < s.cols.length
    · have zI : (0 : Int) < s.cols.length := by omega
      have zE : ¬ s.cols = [] := fun e => by rw [e] at z; cases z
      by_cases o : s.cols.length = 1
      · have oI : (s.cols.length : Int) = 1 := by omega
        by_cases m0 : s.kind = 0
        · simp (maxSteps := 1000000) [hho, noHo, slotsOf, stmtA, z, zI, zE, o, oI, m0, undef, onGP_none, condG_false, -List.reduceReplicate]
          exact cut_to () (by first | trivial | omega | (simp only [← List.length_eq_zero_iff]; omega) | exact ⟨⟨fun _ => by omega, fun _ => by omega⟩, fun _ => by omega⟩) (wk_eq (by simp [hE, lens]) (by simp [stmtA, m0]) (by simp [livH, livO, AV.livL, AV.liv, wkL, wkV, List.range', slotsOf, m0]))
        by_cases m1 : s.kind = 3
        · simp (maxSteps := 1000000) [hho, noHo, slotsOf, stmtA, z, zI, zE, o, oI, m0, m1, undef, onGP_none, condG_false, -List.reduceReplicate]
          exact cut_to () (by first | trivial | omega | (simp only [← List.length_eq_zero_iff]; omega) | exact ⟨⟨fun _ => by omega, fun _ => by omega⟩, fun _ => by omega⟩) (wk_eq (by simp [hE, lens]) (by simp [stmtA, m1]) (by simp [livH, livO, AV.livL, AV.liv, wkL, wkV, List.range', slotsOf, m1]))
        by_cases m2 : s.kind = 5
        · simp (maxSteps := 1000000) [hho, noHo, slotsOf, stmtA, z, zI, zE, o, oI, m0, m1, m2, undef, onGP_none, condG_false, -List.reduceReplicate]
          exact cut_to () (by first | trivial | omega | (simp only [← List.length_eq_zero_iff]; omega) | exact ⟨⟨fun _ => by omega, fun _ => by omega⟩, fun _ => by omega⟩) (wk_eq (by simp [hE, lens]) (by simp [stmtA, m2]) (by simp [livH, livO, AV.livL, AV.liv, wkL, wkV, List.range', slotsOf, m2]))
        simp (maxSteps := 1000000) [hho, noHo, slotsOf, stmtA, z, zI, zE, o, oI, m0, m1, m2, undef, onGP_none, condG_false, -List.reduceReplicate]
        have hS : rightS s = false := noR fun R => by have := R.c1; have := R.c2; omega
        exact Ret.drop (by rfl) ⟨by rw [hS], rfl⟩
      · have oI : ¬ (s.cols.length : Int) = 1 := by omega
        by_cases m0 : s.kind = 0
        · simp (maxSteps := 1000000) [hho, noHo, slotsOf, stmtA, z, zI, zE, o, oI, m0, undef, onGP_none, condG_false, -List.reduceReplicate]
          exact cut_to () (by first | trivial | omega | (simp only [← List.length_eq_zero_iff]; omega) | exact ⟨⟨fun _ => by omega, fun _ => by omega⟩, fun _ => by omega⟩) (wk_eq (by simp [hE, lens]) (by simp [stmtA, m0]) (by simp [livH, livO, AV.livL, AV.liv, wkL, wkV, List.range', slotsOf, m0]))
        by_cases m1 : s.kind = 3
        · simp (maxSteps := 1000000) [hho, noHo, slotsOf, stmtA, z, zI, zE, o, oI, m0, m1, undef, onGP_none, condG_false, -List.reduceReplicate]
          have hS : rightS s = false := noR fun R => by have := R.c1; have := R.c2; omega
          exact Ret.drop (by rfl) ⟨by rw [hS], rfl⟩
        by_cases m2 : s.kind = 5
        · simp (maxSteps := 1000000) [hho, noHo, slotsOf, stmtA, z, zI, zE, o, oI, m0, m1, m2, undef, onGP_none, condG_false, -List.reduceReplicate]
          have hS : rightS s = false := noR fun R => by have := R.c1; have := R.c2; omega
          exact Ret.drop (by rfl) ⟨by rw [hS], rfl⟩
        simp (maxSteps := 1000000) [hho, noHo, slotsOf, stmtA, z, zI, zE, o, oI, m0, m1, m2, undef, onGP_none, condG_false, -List.reduceReplicate]
        have hS : rightS s = false := noR fun R => by have := R.c1; have := R.c2; omega
        exact Ret.drop (by rfl) ⟨by rw [hS], rfl⟩
    · have zI : ¬ (0 : Int) < s.cols.length := by omega
      have zE : s.cols = [] := List.eq_nil_of_length_eq_zero (by omega)
      by_cases m0 : s.kind = 0
      · simp (maxSteps := 1000000) [hho, noHo, slotsOf, stmtA, z, zI, zE, m0, undef, onGP_none, condG_false, -List.reduceReplicate]
        have hS : rightS s = false := noR fun R => by have := R.c1; have := R.c2; omega
        exact Ret.drop (by rfl) ⟨by rw [hS], rfl⟩
      by_cases m1 : s.kind = 3
      · simp (maxSteps := 1000000) [hho, noHo, slotsOf, stmtA, z, zI, zE, m0, m1, undef, onGP_none, condG_false, -List.reduceReplicate]
        have hS : rightS s = false := noR fun R => by have := R.c1; have := R.c2; omega
        exact Ret.drop (by rfl) ⟨by rw [hS], rfl⟩
      by_cases m2 : s.kind = 5
      · simp (maxSteps := 1000000) [hho, noHo, slotsOf, stmtA, z, zI, zE, m0, m1, m2, undef, onGP_none, condG_false, -List.reduceReplicate]
        have hS : rightS s = false := noR fun R => by have := R.c1; have := R.c2; omega
        exact Ret.drop (by rfl) ⟨by rw [hS], rfl⟩
      simp (maxSteps := 1000000) [hho, noHo, slotsOf, stmtA, z, zI, zE, m0, m1, m2, undef, onGP_none, condG_false, -List.reduceReplicate]
      exact cut_to () (by first | trivial | omega | (simp only [← List.length_eq_zero_iff]; omega) | exact ⟨⟨fun _ => by omega, fun _ => by omega⟩, fun _ => by omega⟩) (wk_eq (by simp [hE, lens]) (by simp [stmtA]) (by simp [livH, livO, AV.livL, AV.liv, wkL, wkV, List.range', slotsOf]))
end Go.Proofs.YtlepkpfbejfpiaaDoor
