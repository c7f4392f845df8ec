import Derived.Test.YtlepkpfbejfpiaaDoorH1
namespace Go.Proofs.YtlepkpfbejfpiaaDoor
set_option linter.unusedVariables false
set_option linter.unusedSimpArgs false
open Go.RowKit
attribute [local simp] isCut_nil isCut_region isCut_seq isCut_block isCut_loop isCut_cond isCut_skip isCut_exit isCut_ret isCut_range swapK putK altK condK_bool pickP_bool stepP stepO onPure_some onPure_none onImpl_some onImpl_none stepC onGP_some onGP_none onGV_some condG mkG onIt_it nextP_ptr takeP_eq takeV_some takeV_none takeU_some takeU_none takeQ takeW_some takeN_none takeN_some takeG_some takeO_some altO_some pureV binV2 eqF eqOp ovlV ovl2 rowAt capV binV intBin strBin isSh shV fldV ixV sliceV slice3V loadAV nilV lenV callV unV convV viewS cellsH loadV fldCut AV.ung AV.ungs AV.gc AV.cells AS.ev AS.put anyS gcsV lens lnO gV guardV retK RetP_eq resV oneV anyRo loIx hiIx implO callP_clo evL gcsL clearV storeAV AS.push AS.setO appV appZ shortS copyV buildV partsV fillV srcV fzO okV isCell_c isCell_ptr isCell_sl isCell_fs isCell_fp isCell_clo rowZ_one rowZ_zero rowZ_2 rowZ_3 rowZ_4 rowZ_5 rowZ_6 rowZ_7 rowZ_8 rowZ_9 rowZ_10 rowZ_11 rowZ_12 noHo Value.oneCell' max2V min2V afterH putBack frzFrom frzO rebO backIx nilEq_sl nilEq_fs nilOp_eql nilOp_neq AV.reb AV.rebL
attribute [local simp ↓] runK_skip runK_region runK_draw runK_seq runK_cut runK_cond runK_block runK_loop runK_exit runK_label runK_goto runK_ret runK_range contK_nil contK_seq contK_seq_ret contK_seq_exit contK_seq_goto contK_block contK_block_ret contK_block_goto contK_block_exit runO_nil runO_cons roundK_exit roundK_ret roundK_goto exitK_ret cutK_ret cutK_exit runE_done runE_nil runE_take runE_alt condG_true condG_false
set_option maxRecDepth 10000
set_option maxHeartbeats 8000000 in
theorem rr_7 (s : StmtS) (h : FitS s) (hk0 : 0 ≤ s.kind) (hk9 : s.kind ≤ 9) (hL : LenP s) {E : Env} (hE : E.ln0 = lens []) (hho : E.ho = noHo) : OnC (fun c => runK Tryd.prog E [] c [] (cutK E (fun _ : Unit => ⟨slotsOf 376 [(1, .ptr 0 0 15), (3, .c (.int .i64 s.kind)), (4, .c (.bool (decide (named s.kind))))], [.o .box (stmtA s)]⟩) (fun _ => ∀ x ∈ s.cols, colK s.kind x = true) (retK Tryd.prog (fun _ => false) [ResultVar.tmp 2] (fun r h' => r = .c (.bool (rightS s)) ∧ h' = []))) ⟨slotsOf 376 [(1, .ptr 0 0 15), (3, .c (.int .i64 s.kind)), (4, .c (.bool (decide (named s.kind))))], [.o .box (stmtA s)]⟩) (takeC 9 1 Tryd.f19.body) := by
  refine OnC.mk rfl ?_
  obtain ⟨a1, a2, a3, a4, a5, a6, a7, a8, a9, a10⟩ := hL
  have hcn : s.cols.length ≤ 20 := a2
  · simp (maxSteps := 1000000) [hho, noHo, slotsOf, stmtA, undef, onGP_none, condG_false, -List.reduceReplicate]
    refine loop_k mixed (fun j : Nat => ⟨slotsOf 376 [(1, .ptr 0 0 15), (3, .c (.int .i64 s.kind)), (4, .c (.bool (decide (named s.kind)))), (191, .fs 10 s.cols.length (colsA s.cols)), (192, .c (.int .i64 s.cols.length)), (193, .c (.int .i64 (j : Nat)))], [.o .box (stmtA s)]⟩) (fun j => s.cols.length - j) (fun j => j ≤ s.cols.length ∧ ∀ k (hk : k < s.cols.length), k < j → (colK s.kind) s.cols[k] = true) 0 ⟨Nat.zero_le _, fun k _ h => by omega⟩ ?_ ?_
    · exact wk_eq (by simp [hE, lens]) (by simp [stmtA]) (by simp [livH, livO, AV.livL, AV.liv, wkL, wkV, List.range', slotsOf])
    · rintro j ⟨hj, hI⟩
      by_cases hjl : j < s.cols.length
      · have hat := colsA_at s.cols j hjl
        have ew : IntKind.i64.wrap ((j : Int) + 1) = (j + 1 : Nat) := by rw [IntWalk.i64_in _ (by omega)]; rfl
        have e0 : j * 10 + 10 ≤ s.cols.length * 10 := by omega
        obtain ⟨x, hx⟩ : ∃ x, x = s.cols[j] := ⟨_, rfl⟩
        have hm : x ∈ s.cols := hx ▸ List.getElem_mem hjl
        have c1 := type_ref x.ty
        have c2 := colRef_w x (h.cols.2 x hm)
        have hfalse := @all_false _ (colK s.kind) s.cols j hjl
        have hI1 : (colK s.kind) s.cols[j] = true → ∀ k (hk : k < s.cols.length), k < j + 1 → (colK s.kind) s.cols[k] = true := fun h k hk hkj => by
          by_cases e : k = j
          · subst e; exact h
          · exact hI k hk (by omega)
        rw [← hx] at hat hfalse hI1
        by_cases k5 : s.kind = 5
        · by_cases hq : colEq x (typeCol x.ty) = true
          · obtain ⟨q1, q2, q3, q4, q5, q6, q7, q8⟩ := (colEq_type x).1 hq
            simp (maxSteps := 1000000) [hho, noHo, slotsOf, hjl, hat, e0, colA, q1, q2, q3, q4, q5, q6, q7, q8, k5, stmtA, ew, undef, onGP_none, condG_false, -List.reduceReplicate]
            refine call_x [] c1 rfl rfl ⟨rfl, rfl⟩ hho (by simp) (by decide) (by simp) (by simp) ?_
            cases hB : typOk x.ty with
            | false =>
              simp (maxSteps := 1000000) [hho, noHo, hB, k5, ew, undef, onGP_none, condG_false, -List.reduceReplicate]
              have hS : rightS s = false := noR fun R => by have := R.c3 x hm; simp [colK, k5, hB] at this
              exact Ret.drop (by rfl) ⟨by rw [hS], rfl⟩
            | true =>
              simp (maxSteps := 1000000) [hho, noHo, hB, k5, ew, undef, onGP_none, condG_false, -List.reduceReplicate]
              refine round_next (j + 1) ⟨by omega, by have hz := hI1 (by simp [colK, k5, hq, hB]); rw [k5] at hz; exact hz⟩ (by omega) ?_
              exact wk_of 1 1 (by simp) (by simp [hE, lens]) (by simp [stmtA, k5]) (by simp [livH, livO, AV.livL, AV.liv, wkL, wkV, List.range']) (by simp [livH, livO, AV.livL, AV.liv, wkL, wkV, List.range', slotsOf, k5])
          · have hq0 : colEq x (typeCol x.ty) = false := by simpa using hq
            have hS : rightS s = false := noR fun R => by have := R.c3 x hm; simp [colK, k5, hq0] at this
            by_cases q1 : x.id = 0
            case neg =>
              simp (maxSteps := 1000000) [hho, noHo, slotsOf, hjl, hat, e0, colA, q1, k5, stmtA, ew, undef, onGP_none, condG_false, -List.reduceReplicate]
              exact Ret.drop (by rfl) ⟨by rw [hS], rfl⟩
            by_cases q2 : x.name = ByteArray.empty
            case neg =>
              simp (maxSteps := 1000000) [hho, noHo, slotsOf, hjl, hat, e0, colA, q1, q2, k5, stmtA, ew, undef, onGP_none, condG_false, -List.reduceReplicate]
              exact Ret.drop (by rfl) ⟨by rw [hS], rfl⟩
            by_cases q3 : x.nn = false
            case neg =>
              have q3n : x.nn = true := by simpa using q3
              simp (maxSteps := 1000000) [hho, noHo, slotsOf, hjl, hat, e0, colA, q1, q2, q3n, k5, stmtA, ew, undef, onGP_none, condG_false, -List.reduceReplicate]
              exact Ret.drop (by rfl) ⟨by rw [hS], rfl⟩
            by_cases q4 : x.dft.k = 0
            case neg =>
              simp (maxSteps := 1000000) [hho, noHo, slotsOf, hjl, hat, e0, colA, q1, q2, q3, q4, k5, stmtA, ew, undef, onGP_none, condG_false, -List.reduceReplicate]
              exact Ret.drop (by rfl) ⟨by rw [hS], rfl⟩
            by_cases q5 : x.dft.n = 0
            case neg =>
              simp (maxSteps := 1000000) [hho, noHo, slotsOf, hjl, hat, e0, colA, q1, q2, q3, q4, q5, k5, stmtA, ew, undef, onGP_none, condG_false, -List.reduceReplicate]
              exact Ret.drop (by rfl) ⟨by rw [hS], rfl⟩
            by_cases q6 : x.dft.s = 0
            case neg =>
              simp (maxSteps := 1000000) [hho, noHo, slotsOf, hjl, hat, e0, colA, q1, q2, q3, q4, q5, q6, k5, stmtA, ew, undef, onGP_none, condG_false, -List.reduceReplicate]
              exact Ret.drop (by rfl) ⟨by rw [hS], rfl⟩
            by_cases q7 : x.dft.t = ByteArray.empty
            case neg =>
              simp (maxSteps := 1000000) [hho, noHo, slotsOf, hjl, hat, e0, colA, q1, q2, q3, q4, q5, q6, q7, k5, stmtA, ew, undef, onGP_none, condG_false, -List.reduceReplicate]
              exact Ret.drop (by rfl) ⟨by rw [hS], rfl⟩
            by_cases q8 : x.st = 0
            case neg =>
              simp (maxSteps := 1000000) [hho, noHo, slotsOf, hjl, hat, e0, colA, q1, q2, q3, q4, q5, q6, q7, q8, k5, stmtA, ew, undef, onGP_none, condG_false, -List.reduceReplicate]
              exact Ret.drop (by rfl) ⟨by rw [hS], rfl⟩
            exact absurd ((colEq_type x).2 ⟨q1, q2, q3, q4, q5, q6, q7, q8⟩) hq
        · cases hB : colOk x with
          | false =>
            rw [hB] at c2
            simp (maxSteps := 1000000) [hho, noHo, slotsOf, hjl, hat, e0, colA, k5, stmtA, ew, undef, onGP_none, condG_false, -List.reduceReplicate]
            refine call_x [] c2 rfl rfl ⟨rfl, rfl⟩ hho (by simp) (by decide) (by simp) (by simp) ?_
            simp (maxSteps := 1000000) [hho, noHo, k5, ew, undef, onGP_none, condG_false, -List.reduceReplicate]
            have hS : rightS s = false := noR fun R => by have := R.c3 x hm; simp [colK, k5, hB] at this
            exact Ret.drop (by rfl) ⟨by rw [hS], rfl⟩
          | true =>
            rw [hB] at c2
            simp (maxSteps := 1000000) [hho, noHo, slotsOf, hjl, hat, e0, colA, k5, stmtA, ew, undef, onGP_none, condG_false, -List.reduceReplicate]
            refine call_x [] c2 rfl rfl ⟨rfl, rfl⟩ hho (by simp) (by decide) (by simp) (by simp) ?_
            simp (maxSteps := 1000000) [hho, noHo, k5, ew, undef, onGP_none, condG_false, -List.reduceReplicate]
            refine round_next (j + 1) ⟨by omega, hI1 (by simp [colK, k5, hB])⟩ (by omega) ?_
            exact wk_of 1 1 (by simp) (by simp [hE, lens]) (by simp [stmtA]) (by simp [livH, livO, AV.livL, AV.liv, wkL, wkV, List.range']) (by simp [livH, livO, AV.livL, AV.liv, wkL, wkV, List.range', slotsOf])
      · obtain rfl : j = s.cols.length := by omega
        have hall : s.cols.all (colK s.kind) = true := all_true fun k hk _ => hI k hk hk
        simp (maxSteps := 1000000) [hho, noHo, slotsOf, stmtA, undef, onGP_none, condG_false, -List.reduceReplicate]
        exact cut_to () (List.all_eq_true.1 hall) (wk_eq (by simp [hE, lens]) (by simp [stmtA]) (by simp [livH, livO, AV.livL, AV.liv, wkL, wkV, List.range', slotsOf]))
end Go.Proofs.YtlepkpfbejfpiaaDoor
