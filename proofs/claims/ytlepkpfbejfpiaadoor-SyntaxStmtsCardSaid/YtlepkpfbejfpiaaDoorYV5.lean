import Derived.Test.YtlepkpfbejfpiaaDoorH1
namespace Go.Proofs.YtlepkpfbejfpiaaDoor
set_option linter.unusedVariables false
set_option linter.unusedSimpArgs false
open Go.RowKit
attribute [local simp] isCut_nil isCut_region isCut_seq isCut_block isCut_loop isCut_cond isCut_skip isCut_exit isCut_ret isCut_range swapK putK altK condK_bool pickP_bool stepP stepO onPure_some onPure_none onImpl_some onImpl_none stepC onGP_some onGP_none onGV_some condG mkG onIt_it nextP_ptr takeP_eq takeV_some takeV_none takeU_some takeU_none takeQ takeW_some takeN_none takeN_some takeG_some takeO_some altO_some pureV binV2 eqF eqOp ovlV ovl2 rowAt capV binV intBin strBin isSh shV fldV ixV sliceV slice3V loadAV nilV lenV callV unV convV viewS cellsH loadV fldCut AV.ung AV.ungs AV.gc AV.cells AS.ev AS.put anyS gcsV lens lnO gV guardV retK RetP_eq resV oneV anyRo loIx hiIx implO callP_clo evL gcsL clearV storeAV AS.push AS.setO appV appZ shortS copyV buildV partsV fillV srcV fzO okV isCell_c isCell_ptr isCell_sl isCell_fs isCell_fp isCell_clo rowZ_one rowZ_zero rowZ_2 rowZ_3 rowZ_4 rowZ_5 rowZ_6 rowZ_7 rowZ_8 rowZ_9 rowZ_10 rowZ_11 rowZ_12 noHo Value.oneCell' max2V min2V afterH putBack frzFrom frzO rebO backIx nilEq_sl nilEq_fs nilOp_eql nilOp_neq AV.reb AV.rebL
attribute [local simp ↓] runK_skip runK_region runK_draw runK_seq runK_cut runK_cond runK_block runK_loop runK_exit runK_label runK_goto runK_ret runK_range contK_nil contK_seq contK_seq_ret contK_seq_exit contK_seq_goto contK_block contK_block_ret contK_block_goto contK_block_exit runO_nil runO_cons roundK_exit roundK_ret roundK_goto exitK_ret cutK_ret cutK_exit runE_done runE_nil runE_take runE_alt condG_true condG_false
set_option maxRecDepth 10000
set_option maxHeartbeats 8000000 in
theorem rr_8 (s : StmtS) (h : FitS s) (hk0 : 0 ≤ s.kind) (hk9 : s.kind ≤ 9) (hL : LenP s) {E : Env} (hE : E.ln0 = lens []) (hho : E.ho = noHo) : OnC (fun c => runK Tryd.prog E [] c [] (cutK E (fun _ : Unit => ⟨slotsOf 376 [(1, .ptr 0 0 15), (3, .c (.int .i64 s.kind)), (4, .c (.bool (decide (named s.kind))))], [.o .box (stmtA s)]⟩) (fun _ => (s.kind = 6 ↔ 0 < s.rows.length) ∧ (s.kind = 7 ↔ 0 < s.sets.length) ∧ (0 < s.wher.length → 7 ≤ s.kind)) (retK Tryd.prog (fun _ => false) [ResultVar.tmp 2] (fun r h' => r = .c (.bool (rightS s)) ∧ h' = []))) ⟨slotsOf 376 [(1, .ptr 0 0 15), (3, .c (.int .i64 s.kind)), (4, .c (.bool (decide (named s.kind))))], [.o .box (stmtA s)]⟩) (takeC 10 1 Tryd.f19.body) := by
  refine OnC.mk rfl ?_
  obtain ⟨a1, a2, a3, a4, a5, a6, a7, a8, a9, a10⟩ := hL
  · skip
    by_cases m6 : s.kind = 6
    · skip
      by_cases zr : 0 < s.rows.length
      · skip
        have zrI : (0 : Int) < s.rows.length := by omega
        have zrE : ¬ s.rows = [] := fun e => by rw [e] at zr; cases zr
        by_cases m7 : s.kind = 7
        · skip
          omega
        · skip
          by_cases zs : 0 < s.sets.length
          · skip
            have zsI : (0 : Int) < s.sets.length := by omega
            have zsE : ¬ s.sets = [] := fun e => by rw [e] at zs; cases zs
            simp (maxSteps := 1000000) [hho, noHo, slotsOf, stmtA, m6, zr, zrI, zrE, m7, zs, zsI, zsE, undef, onGP_none, condG_false, -List.reduceReplicate]
            have hS : rightS s = false := noR fun R => by have := R.r2; omega
            exact Ret.drop (by rfl) ⟨by rw [hS], rfl⟩
          · skip
            have zsI : ¬ (0 : Int) < s.sets.length := by omega
            have zsE : s.sets = [] := List.eq_nil_of_length_eq_zero (by omega)
            by_cases zw : 0 < s.wher.length
            · skip
              have zwI : (0 : Int) < s.wher.length := by omega
              have zwE : ¬ s.wher = [] := fun e => by rw [e] at zw; cases zw
              simp (maxSteps := 1000000) [hho, noHo, slotsOf, stmtA, m6, zr, zrI, zrE, m7, zs, zsI, zsE, zw, zwI, zwE, undef, onGP_none, condG_false, -List.reduceReplicate]
              have hS : rightS s = false := noR fun R => by have := R.r3; omega
              exact Ret.drop (by rfl) ⟨by rw [hS], rfl⟩
            · skip
              have zwI : ¬ (0 : Int) < s.wher.length := by omega
              have zwE : s.wher = [] := List.eq_nil_of_length_eq_zero (by omega)
              simp (maxSteps := 1000000) [hho, noHo, slotsOf, stmtA, m6, zr, zrI, zrE, m7, zs, zsI, zsE, zw, zwI, zwE, undef, onGP_none, condG_false, -List.reduceReplicate]
              exact cut_to () (by first | trivial | omega | (simp only [← List.length_eq_zero_iff]; omega) | exact ⟨by omega, by omega, fun e => by omega⟩) (wk_eq (by simp [hE, lens]) (by simp [stmtA, m6, zr, zrI, zrE, m7, zs, zsI, zsE, zw, zwI, zwE]) (by simp [livH, livO, AV.livL, AV.liv, wkL, wkV, List.range', slotsOf, m6, zr, zrI, zrE, m7, zs, zsI, zsE, zw, zwI, zwE]))
      · skip
        have zrI : ¬ (0 : Int) < s.rows.length := by omega
        have zrE : s.rows = [] := List.eq_nil_of_length_eq_zero (by omega)
        simp (maxSteps := 1000000) [hho, noHo, slotsOf, stmtA, m6, zr, zrI, zrE, undef, onGP_none, condG_false, -List.reduceReplicate]
        have hS : rightS s = false := noR fun R => by have := R.r1; omega
        exact Ret.drop (by rfl) ⟨by rw [hS], rfl⟩
    · skip
      by_cases zr : 0 < s.rows.length
      · skip
        have zrI : (0 : Int) < s.rows.length := by omega
        have zrE : ¬ s.rows = [] := fun e => by rw [e] at zr; cases zr
        simp (maxSteps := 1000000) [hho, noHo, slotsOf, stmtA, m6, zr, zrI, zrE, undef, onGP_none, condG_false, -List.reduceReplicate]
        have hS : rightS s = false := noR fun R => by have := R.r1; omega
        exact Ret.drop (by rfl) ⟨by rw [hS], rfl⟩
      · skip
        have zrI : ¬ (0 : Int) < s.rows.length := by omega
        have zrE : s.rows = [] := List.eq_nil_of_length_eq_zero (by omega)
        by_cases m7 : s.kind = 7
        · skip
          by_cases zs : 0 < s.sets.length
          · skip
            have zsI : (0 : Int) < s.sets.length := by omega
            have zsE : ¬ s.sets = [] := fun e => by rw [e] at zs; cases zs
            by_cases zw : 0 < s.wher.length
            · skip
              have zwI : (0 : Int) < s.wher.length := by omega
              have zwE : ¬ s.wher = [] := fun e => by rw [e] at zw; cases zw
              simp (maxSteps := 1000000) [hho, noHo, slotsOf, stmtA, m6, zr, zrI, zrE, m7, zs, zsI, zsE, zw, zwI, zwE, undef, onGP_none, condG_false, -List.reduceReplicate]
              exact cut_to () (by first | trivial | omega | (simp only [← List.length_eq_zero_iff]; omega) | exact ⟨by omega, by omega, fun _ => by omega⟩) (wk_eq (by simp [hE, lens]) (by simp [stmtA, m6, zr, zrI, zrE, m7, zs, zsI, zsE, zw, zwI, zwE]) (by simp [livH, livO, AV.livL, AV.liv, wkL, wkV, List.range', slotsOf, m6, zr, zrI, zrE, m7, zs, zsI, zsE, zw, zwI, zwE]))
            · skip
              have zwI : ¬ (0 : Int) < s.wher.length := by omega
              have zwE : s.wher = [] := List.eq_nil_of_length_eq_zero (by omega)
              simp (maxSteps := 1000000) [hho, noHo, slotsOf, stmtA, m6, zr, zrI, zrE, m7, zs, zsI, zsE, zw, zwI, zwE, undef, onGP_none, condG_false, -List.reduceReplicate]
              exact cut_to () (by first | trivial | omega | (simp only [← List.length_eq_zero_iff]; omega) | exact ⟨by omega, by omega, fun e => by omega⟩) (wk_eq (by simp [hE, lens]) (by simp [stmtA, m6, zr, zrI, zrE, m7, zs, zsI, zsE, zw, zwI, zwE]) (by simp [livH, livO, AV.livL, AV.liv, wkL, wkV, List.range', slotsOf, m6, zr, zrI, zrE, m7, zs, zsI, zsE, zw, zwI, zwE]))
          · skip
            have zsI : ¬ (0 : Int) < s.sets.length := by omega
            have zsE : s.sets = [] := List.eq_nil_of_length_eq_zero (by omega)
            simp (maxSteps := 1000000) [hho, noHo, slotsOf, stmtA, m6, zr, zrI, zrE, m7, zs, zsI, zsE, undef, onGP_none, condG_false, -List.reduceReplicate]
            have hS : rightS s = false := noR fun R => by have := R.r2; omega
            exact Ret.drop (by rfl) ⟨by rw [hS], rfl⟩
        · skip
          by_cases zs : 0 < s.sets.length
          · skip
            have zsI : (0 : Int) < s.sets.length := by omega
            have zsE : ¬ s.sets = [] := fun e => by rw [e] at zs; cases zs
            simp (maxSteps := 1000000) [hho, noHo, slotsOf, stmtA, m6, zr, zrI, zrE, m7, zs, zsI, zsE, undef, onGP_none, condG_false, -List.reduceReplicate]
            have hS : rightS s = false := noR fun R => by have := R.r2; omega
            exact Ret.drop (by rfl) ⟨by rw [hS], rfl⟩
          · skip
            have zsI : ¬ (0 : Int) < s.sets.length := by omega
            have zsE : s.sets = [] := List.eq_nil_of_length_eq_zero (by omega)
            by_cases zw : 0 < s.wher.length
            · skip
              have zwI : (0 : Int) < s.wher.length := by omega
              have zwE : ¬ s.wher = [] := fun e => by rw [e] at zw; cases zw
              by_cases kl : s.kind < 7
              · skip
                simp (maxSteps := 1000000) [hho, noHo, slotsOf, stmtA, m6, zr, zrI, zrE, m7, zs, zsI, zsE, zw, zwI, zwE, kl, undef, onGP_none, condG_false, -List.reduceReplicate]
                have hS : rightS s = false := noR fun R => by have := R.r3; omega
                exact Ret.drop (by rfl) ⟨by rw [hS], rfl⟩
              · skip
                have klI : 7 ≤ s.kind := by omega
                simp (maxSteps := 1000000) [hho, noHo, slotsOf, stmtA, m6, zr, zrI, zrE, m7, zs, zsI, zsE, zw, zwI, zwE, kl, klI, undef, onGP_none, condG_false, -List.reduceReplicate]
                exact cut_to () (by first | trivial | omega | (simp only [← List.length_eq_zero_iff]; omega) | exact ⟨by omega, by omega, fun _ => by omega⟩) (wk_eq (by simp [hE, lens]) (by simp [stmtA, m6, zr, zrI, zrE, m7, zs, zsI, zsE, zw, zwI, zwE, kl, klI]) (by simp [livH, livO, AV.livL, AV.liv, wkL, wkV, List.range', slotsOf, m6, zr, zrI, zrE, m7, zs, zsI, zsE, zw, zwI, zwE, kl, klI]))
            · skip
              have zwI : ¬ (0 : Int) < s.wher.length := by omega
              have zwE : s.wher = [] := List.eq_nil_of_length_eq_zero (by omega)
              simp (maxSteps := 1000000) [hho, noHo, slotsOf, stmtA, m6, zr, zrI, zrE, m7, zs, zsI, zsE, zw, zwI, zwE, undef, onGP_none, condG_false, -List.reduceReplicate]
              exact cut_to () (by first | trivial | omega | (simp only [← List.length_eq_zero_iff]; omega) | exact ⟨by omega, by omega, fun e => by omega⟩) (wk_eq (by simp [hE, lens]) (by simp [stmtA, m6, zr, zrI, zrE, m7, zs, zsI, zsE, zw, zwI, zwE]) (by simp [livH, livO, AV.livL, AV.liv, wkL, wkV, List.range', slotsOf, m6, zr, zrI, zrE, m7, zs, zsI, zsE, zw, zwI, zwE]))
set_option maxHeartbeats 8000000 in
theorem rr_9 (s : StmtS) (h : FitS s) (hk0 : 0 ≤ s.kind) (hk9 : s.kind ≤ 9) (hL : LenP s) {E : Env} (hE : E.ln0 = lens []) (hho : E.ho = noHo) : OnC (fun c => runK Tryd.prog E [] c [] (cutK E (fun _ : Unit => ⟨slotsOf 376 [(1, .ptr 0 0 15), (3, .c (.int .i64 s.kind)), (4, .c (.bool (decide (named s.kind))))], [.o .box (stmtA s)]⟩) (fun _ => ∀ x ∈ s.rows, (rowP s) x = true) (retK Tryd.prog (fun _ => false) [ResultVar.tmp 2] (fun r h' => r = .c (.bool (rightS s)) ∧ h' = []))) ⟨slotsOf 376 [(1, .ptr 0 0 15), (3, .c (.int .i64 s.kind)), (4, .c (.bool (decide (named s.kind))))], [.o .box (stmtA s)]⟩) (takeC 11 1 Tryd.f19.body) := by
  refine OnC.mk rfl ?_
  obtain ⟨a1, a2, a3, a4, a5, a6, a7, a8, a9, a10⟩ := hL
  have hrn : s.rows.length ≤ 50 := a3
  · simp (maxSteps := 1000000) [hho, noHo, slotsOf, stmtA, undef, onGP_none, condG_false, -List.reduceReplicate]
    refine loop_k mixed (fun j : Nat => ⟨slotsOf 376 [(1, .ptr 0 0 15), (3, .c (.int .i64 s.kind)), (4, .c (.bool (decide (named s.kind)))), (249, .fs 1 s.rows.length (erowsA s.rows)), (250, .c (.int .i64 s.rows.length)), (251, .c (.int .i64 (j : Nat)))], [.o .box (stmtA s)]⟩) (fun j => s.rows.length - j) (fun j => j ≤ s.rows.length ∧ ∀ k (hk : k < s.rows.length), k < j → (rowP s) s.rows[k] = true) 0 ⟨Nat.zero_le _, fun k _ h => by omega⟩ ?_ ?_
    · exact wk_eq (by simp [hE, lens]) (by simp [stmtA]) (by simp [livH, livO, AV.livL, AV.liv, wkL, wkV, List.range', slotsOf])
    · rintro j ⟨hj, hI⟩
      by_cases hjl : j < s.rows.length
      · have hat := erowsA_at s.rows j hjl
        have ew : IntKind.i64.wrap ((j : Int) + 1) = (j + 1 : Nat) := by rw [IntWalk.i64_in _ (by omega)]; rfl
        have e0 : j * 1 + 1 ≤ s.rows.length * 1 := by omega
        obtain ⟨x, hx⟩ : ∃ x, x = s.rows[j] := ⟨_, rfl⟩
        have hg : (erowsA s.rows)[j]'(by simp; omega) = .fs 13 x.length (exprsA x) := by rw [hx]; exact erowsA_get s.rows j hjl
        have hm : x ∈ s.rows := hx ▸ List.getElem_mem hjl
        have hfalse := @all_false _ (rowP s) s.rows j hjl
        have hI1 : (rowP s) s.rows[j] = true → ∀ k (hk : k < s.rows.length), k < j + 1 → (rowP s) s.rows[k] = true := fun h k hk hkj => by
          by_cases e : k = j
          · subst e; exact h
          · exact hI k hk (by omega)
        rw [← hx] at hat hfalse hI1
        by_cases u : x.length = s.names.length
        · have uI : (x.length : Int) = s.names.length := by omega
          simp (maxSteps := 1000000) [hho, noHo, slotsOf, hjl, hat, e0, hg, erowA, stmtA, ew, u, uI, undef, onGP_none, condG_false, -List.reduceReplicate]
          refine ⟨by omega, ?_⟩
          refine round_next (j + 1) ⟨by omega, hI1 (by exact decide_eq_true u)⟩ (by omega) ?_
          exact wk_eq (by simp [hE, lens]) (by simp [stmtA]) (by simp [livH, livO, AV.livL, AV.liv, wkL, wkV, List.range', slotsOf])
        · have uI : ¬ (x.length : Int) = s.names.length := by omega
          simp (maxSteps := 1000000) [hho, noHo, slotsOf, hjl, hat, e0, hg, erowA, stmtA, ew, u, uI, undef, onGP_none, condG_false, -List.reduceReplicate]
          refine ⟨by omega, ?_⟩
          have hS : rightS s = false := noR fun R => by exact u (R.r4 x hm)
          exact Ret.drop (by rfl) ⟨by rw [hS], rfl⟩
      · obtain rfl : j = s.rows.length := by omega
        have hall : s.rows.all (rowP s) = true := all_true fun k hk _ => hI k hk hk
        simp (maxSteps := 1000000) [hho, noHo, slotsOf, stmtA, undef, onGP_none, condG_false, -List.reduceReplicate]
        exact cut_to () (List.all_eq_true.1 hall) (wk_eq (by simp [hE, lens]) (by simp [stmtA]) (by simp [livH, livO, AV.livL, AV.liv, wkL, wkV, List.range', slotsOf]))
set_option maxHeartbeats 8000000 in
theorem rr_10 (s : StmtS) (h : FitS s) (hk0 : 0 ≤ s.kind) (hk9 : s.kind ≤ 9) (hL : LenP s) {E : Env} (hE : E.ln0 = lens []) (hho : E.ho = noHo) : OnC (fun c => runK Tryd.prog E [] c [] (cutK E (fun _ : Unit => ⟨slotsOf 376 [(1, .ptr 0 0 15), (3, .c (.int .i64 s.kind)), (4, .c (.bool (decide (named s.kind))))], [.o .box (stmtA s)]⟩) (fun _ => ∀ x ∈ s.sets, (fun x : SetS => nameOk x.name) x = true) (retK Tryd.prog (fun _ => false) [ResultVar.tmp 2] (fun r h' => r = .c (.bool (rightS s)) ∧ h' = []))) ⟨slotsOf 376 [(1, .ptr 0 0 15), (3, .c (.int .i64 s.kind)), (4, .c (.bool (decide (named s.kind))))], [.o .box (stmtA s)]⟩) (takeC 12 1 Tryd.f19.body) := by
  refine OnC.mk rfl ?_
  obtain ⟨a1, a2, a3, a4, a5, a6, a7, a8, a9, a10⟩ := hL
  have hsn : s.sets.length ≤ 20 := a4
  · simp (maxSteps := 1000000) [hho, noHo, slotsOf, stmtA, undef, onGP_none, condG_false, -List.reduceReplicate]
    refine loop_k mixed (fun j : Nat => ⟨slotsOf 376 [(1, .ptr 0 0 15), (3, .c (.int .i64 s.kind)), (4, .c (.bool (decide (named s.kind)))), (263, .fs 14 s.sets.length (setsA s.sets)), (264, .c (.int .i64 s.sets.length)), (265, .c (.int .i64 (j : Nat)))], [.o .box (stmtA s)]⟩) (fun j => s.sets.length - j) (fun j => j ≤ s.sets.length ∧ ∀ k (hk : k < s.sets.length), k < j → (fun x : SetS => nameOk x.name) s.sets[k] = true) 0 ⟨Nat.zero_le _, fun k _ h => by omega⟩ ?_ ?_
    · exact wk_eq (by simp [hE, lens]) (by simp [stmtA]) (by simp [livH, livO, AV.livL, AV.liv, wkL, wkV, List.range', slotsOf])
    · rintro j ⟨hj, hI⟩
      by_cases hjl : j < s.sets.length
      · have hat := setsA_at s.sets j hjl
        have ew : IntKind.i64.wrap ((j : Int) + 1) = (j + 1 : Nat) := by rw [IntWalk.i64_in _ (by omega)]; rfl
        have e0 : j * 14 + 14 ≤ s.sets.length * 14 := by omega
        obtain ⟨x, hx⟩ : ∃ x, x = s.sets[j] := ⟨_, rfl⟩
        have hm : x ∈ s.sets := hx ▸ List.getElem_mem hjl
        have c0 := name_refB x.name (h.sets.2 x hm).1
        have hfalse := @all_false _ (fun x : SetS => nameOk x.name) s.sets j hjl
        have hI1 : (fun x : SetS => nameOk x.name) s.sets[j] = true → ∀ k (hk : k < s.sets.length), k < j + 1 → (fun x : SetS => nameOk x.name) s.sets[k] = true := fun h k hk hkj => by
          by_cases e : k = j
          · subst e; exact h
          · exact hI k hk (by omega)
        rw [← hx] at hat hfalse hI1
        simp (maxSteps := 1000000) [hho, noHo, slotsOf, hjl, hat, e0, setA, exprA, stmtA, ew, undef, onGP_none, condG_false, -List.reduceReplicate]
        refine call_x [] c0 rfl rfl ⟨rfl, rfl⟩ hho (by simp) (by decide) (by simp) (by simp) ?_
        cases hB : nameOk x.name with
        | false =>
          simp (maxSteps := 1000000) [hho, noHo, hB, ew, undef, onGP_none, condG_false, -List.reduceReplicate]
          have hS : rightS s = false := noR fun R => by have := R.r5 x hm; rw [hB] at this; cases this
          exact Ret.drop (by rfl) ⟨by rw [hS], rfl⟩
        | true =>
          simp (maxSteps := 1000000) [hho, noHo, hB, ew, undef, onGP_none, condG_false, -List.reduceReplicate]
          refine round_next (j + 1) ⟨by omega, hI1 (by exact hB)⟩ (by omega) ?_
          exact wk_of 1 1 (by simp) (by simp [hE, lens]) (by simp [stmtA]) (by simp [livH, livO, AV.livL, AV.liv, wkL, wkV, List.range']) (by simp [livH, livO, AV.livL, AV.liv, wkL, wkV, List.range', slotsOf])
      · obtain rfl : j = s.sets.length := by omega
        have hall : s.sets.all (fun x : SetS => nameOk x.name) = true := all_true fun k hk _ => hI k hk hk
        simp (maxSteps := 1000000) [hho, noHo, slotsOf, stmtA, undef, onGP_none, condG_false, -List.reduceReplicate]
        exact cut_to () (List.all_eq_true.1 hall) (wk_eq (by simp [hE, lens]) (by simp [stmtA]) (by simp [livH, livO, AV.livL, AV.liv, wkL, wkV, List.range', slotsOf]))
end Go.Proofs.YtlepkpfbejfpiaaDoor
