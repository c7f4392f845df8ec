import Derived.Test.YtlepkpfbejfpiaaDoorYL
import Derived.Test.YtlepkpfbejfpiaaDoorCut
namespace Go.Proofs.YtlepkpfbejfpiaaDoor
set_option linter.unusedVariables false
set_option linter.unusedSimpArgs false
open Go.RowKit
attribute [local simp] isCut_nil isCut_region isCut_seq isCut_block isCut_loop isCut_cond isCut_skip isCut_exit isCut_ret isCut_range swapK putK altK condK_bool pickP_bool stepP stepO onPure_some onPure_none onImpl_some onImpl_none stepC onGP_some onGP_none onGV_some condG mkG onIt_it nextP_ptr takeP_eq takeV_some takeV_none takeU_some takeU_none takeQ takeW_some takeN_none takeN_some takeG_some takeO_some altO_some pureV binV2 eqF eqOp ovlV ovl2 rowAt capV binV intBin strBin isSh shV fldV ixV sliceV slice3V loadAV nilV lenV callV unV convV viewS cellsH loadV fldCut AV.ung AV.ungs AV.gc AV.cells AS.ev AS.put anyS gcsV lens lnO gV guardV retK RetP_eq resV oneV anyRo loIx hiIx implO callP_clo evL gcsL clearV storeAV AS.push AS.setO appV appZ shortS copyV buildV partsV fillV srcV fzO okV isCell_c isCell_ptr isCell_sl isCell_fs isCell_fp isCell_clo rowZ_one rowZ_zero rowZ_2 rowZ_3 rowZ_4 rowZ_5 rowZ_6 rowZ_7 rowZ_8 rowZ_9 rowZ_10 rowZ_11 rowZ_12 noHo Value.oneCell' max2V min2V afterH putBack frzFrom frzO rebO backIx nilEq_sl nilEq_fs nilOp_eql nilOp_neq AV.reb AV.rebL
attribute [local simp ↓] runK_skip runK_region runK_draw runK_seq runK_cut runK_cond runK_block runK_loop runK_exit runK_label runK_goto runK_ret runK_range contK_nil contK_seq contK_seq_ret contK_seq_exit contK_seq_goto contK_block contK_block_ret contK_block_goto contK_block_exit runO_nil runO_cons roundK_exit roundK_ret roundK_goto exitK_ret cutK_ret cutK_exit runE_done runE_nil runE_take runE_alt condG_true condG_false
set_option maxRecDepth 10000
/-! ## Grow, Concat -/
set_option maxHeartbeats 8000000 in
theorem grow_w (n : Nat) (hn : n ≤ 1000000) : ACalls Tryd.prog 65 [.c (.slice none 0 0), .c (.int .i64 (n : Nat))] [] (fun _ => false) (fun r h' => r = .sl 0 13 0 0 0 ∧ h' = [rowE []]) := by
  refine acalls mixed Tryd.func65 rfl Tryd.ntmps65 rfl fun E hE hst hho => ?_
  have w1 : IntKind.i64.wrap (n : Int) = n := IntWalk.i64_in _ (by omega)
  have n0 : ¬ (n : Int) < 0 := by omega
  have w0 : IntKind.i64.wrap 0 = 0 := by decide
  by_cases h : n = 0
  · subst h
    simp (maxSteps := 1000000) [hho, noHo, w0, -List.reduceReplicate]
    refine Ret.wk (h2 := [rowE []]) (r2 := .sl 0 13 0 0 0) (fun E hE => ?_) (Ret.same ⟨rfl, rfl⟩)
    have := wk_virt (E := E) (s := ⟨[.c (.slice none 0 0)], []⟩) 0 30 13 rfl
    simpa [rowE, exprsA] using this
  · have hp : (0 : Int) < n := by omega
    have hp' : 0 < n := by omega
    have hz : ∀ z : List Value, z.length = 13 → (rowZ n z).length = n * 13 := fun z hz => by rw [rowZ_length, hz]
    simp (maxSteps := 1000000) [hho, noHo, w0, w1, n0, hp, hp', -List.reduceReplicate]
    refine ⟨by omega, hz _ rfl, ?_⟩
    refine Ret.cut 0 0 rfl (hz _ rfl) (by omega) rfl ?_ rfl ?_
    · rw [List.all_eq_true]
      intro v hv
      obtain ⟨q, hq⟩ := List.getElem?_of_mem hv
      obtain ⟨u, _, rfl⟩ := rowZ_at _ _ _ _ hq
      rfl
    · simp
      exact Ret.same ⟨rfl, by simp [rowE, exprsA]⟩
set_option maxHeartbeats 8000000 in
theorem concat_w (l : List (List ExprS)) (hl : l.length ≤ 1000000) (hb : l.flatten.length ≤ 1000000) : ACalls Tryd.prog 34 [.fs 1 l.length (erowsA l)] [] (fun _ => false) (fun r h' => r = .sl 0 13 0 l.flatten.length (l.flatten.length * 13) ∧ h' = [rowE l.flatten]) := by
  refine acalls mixed Tryd.func34 rfl Tryd.ntmps34 rfl fun E hE hst hho => ?_
  have hb2 : (List.map List.length l).sum ≤ 1000000 := by rw [← List.length_flatten]; exact hb
  simp (maxSteps := 1000000) [hho, noHo, -List.reduceReplicate]
  refine loop_k mixed (fun y : Nat × Nat => ⟨slotsOf 36 [(0, .fs 1 l.length (erowsA l)), (3, .c (.int .i64 (y.2 : Nat))), (9, .fs 1 l.length (erowsA l)), (10, .c (.int .i64 l.length)), (11, .c (.int .i64 (y.1 : Nat)))], []⟩) (fun y => l.length - y.1) (fun y => y.1 ≤ l.length ∧ y.2 = (l.take y.1).flatten.length) (0, 0) ⟨Nat.zero_le _, by simp⟩ ?_ ?_
  · exact wk_eq (by simp [hE, lens]) (by simp) (by simp [livH, livO, AV.livL, AV.liv, wkL, wkV, List.range', slotsOf])
  · rintro ⟨j, n⟩ ⟨hj, hn⟩
    simp only at hj hn
    have hle := flatten_le l j
    by_cases hjl : j < l.length
    · have hat := erowsA_get l j hjl
      have ew : IntKind.i64.wrap ((j : Int) + 1) = (j + 1 : Nat) := by rw [IntWalk.i64_in _ (by omega)]; rfl
      have hle1 := flatten_le1 l j hjl
      have hs : n + l[j].length = (l.take (j + 1)).flatten.length := by rw [flatten_take _ j hjl, hn, List.length_append]
      obtain ⟨x, hx⟩ : ∃ x, x = l[j] := ⟨_, rfl⟩
      rw [← hx] at hat hs hle1
      have en : IntKind.i64.wrap ((n : Int) + x.length) = ((n + x.length : Nat) : Int) := by rw [IntWalk.i64_in _ (by omega)]; rfl
      have eneg : ¬ ((n : Int) + x.length) < 0 := by omega
      simp (maxSteps := 1000000) [slotsOf, hho, noHo, hjl, hat, ew, en, eneg, -List.reduceReplicate]
      refine ⟨by omega, round_next (j + 1, n + x.length) ⟨by simp only; omega, by first | exact hs | (simp only; rw [hs, List.length_flatten, List.map_take])⟩ (by simp only; omega) ?_⟩
      exact wk_eq (by simp [hE, lens]) (by simp) (by simp [livH, livO, AV.livL, AV.liv, wkL, wkV, List.range', slotsOf])
    · obtain rfl : j = l.length := by omega
      rw [List.take_length] at hn
      have hg := grow_w n (by omega)
      simp (maxSteps := 1000000) [slotsOf, hho, noHo, -List.reduceReplicate]
      refine call_x [] hg rfl rfl ⟨rfl, rfl⟩ hho (by simp) (by decide) (by simp) (by simp) ?_
      simp (maxSteps := 1000000) [slotsOf, rowE, hho, noHo, -List.reduceReplicate]
      refine loop_k mixed (fun y : Nat × List ExprS => ⟨slotsOf 36 [(6, .sl 0 13 0 y.2.length (y.2.length * 13)), (25, .fs 1 l.length (erowsA l)), (26, .c (.int .i64 l.length)), (27, .c (.int .i64 (y.1 : Nat)))], [rowE y.2]⟩) (fun y => l.length - y.1) (fun y => y.1 ≤ l.length ∧ y.2 = (l.take y.1).flatten) (0, []) ⟨Nat.zero_le _, by simp⟩ ?_ ?_
      · exact wk_eq (by simp [hE, lens]) (by simp [rowE]) (by simp [livH, livO, AV.livL, AV.liv, wkL, wkV, List.range', slotsOf])
      · rintro ⟨j, D⟩ ⟨hj, hD⟩
        simp only at hj hD
        by_cases hjl : j < l.length
        · have hat := erowsA_get l j hjl
          have ew : IntKind.i64.wrap ((j : Int) + 1) = (j + 1 : Nat) := by rw [IntWalk.i64_in _ (by omega)]; rfl
          have hle1 := flatten_le1 l j hjl
          have hs : D ++ l[j] = (l.take (j + 1)).flatten := by rw [flatten_take _ j hjl, hD]
          rw [← hD] at hle1
          obtain ⟨x, hx⟩ : ∃ x, x = l[j] := ⟨_, rfl⟩
          rw [← hx] at hat hs hle1
          have hap := exprsA_app D x
          simp (maxSteps := 1000000) [slotsOf, rowE, hho, noHo, hjl, hat, ew, -List.reduceReplicate]
          refine ⟨by omega, ?_⟩
          refine ⟨by omega, round_next (j + 1, D ++ x) ⟨by simp only; omega, hs⟩ (by simp only; omega) ?_⟩
          exact wk_eq (by simp [hE, lens]) (by simp [rowE, hap]) (by simp [livH, livO, AV.livL, AV.liv, wkL, wkV, List.range', slotsOf, Nat.add_mul])
        · obtain rfl : j = l.length := by omega
          rw [List.take_length] at hD
          rw [hD]
          simp (maxSteps := 1000000) [slotsOf, rowE, hho, noHo, -List.reduceReplicate]
          exact Ret.same ⟨rfl, rfl⟩
end Go.Proofs.YtlepkpfbejfpiaaDoor
namespace Go.Proofs.YtlepkpfbejfpiaaDoor
set_option linter.unusedVariables false
set_option linter.unusedSimpArgs false
open Go.RowKit
attribute [local simp] isCut_nil isCut_region isCut_seq isCut_block isCut_loop isCut_cond isCut_skip isCut_exit isCut_ret isCut_range swapK putK altK condK_bool pickP_bool stepP stepO onPure_some onPure_none onImpl_some onImpl_none stepC onGP_some onGP_none onGV_some condG mkG onIt_it nextP_ptr takeP_eq takeV_some takeV_none takeU_some takeU_none takeQ takeW_some takeN_none takeN_some takeG_some takeO_some altO_some pureV binV2 eqF eqOp ovlV ovl2 rowAt capV binV intBin strBin isSh shV fldV ixV sliceV slice3V loadAV nilV lenV callV unV convV viewS cellsH loadV fldCut AV.ung AV.ungs AV.gc AV.cells AS.ev AS.put anyS gcsV lens lnO gV guardV retK RetP_eq resV oneV anyRo loIx hiIx implO callP_clo evL gcsL clearV storeAV AS.push AS.setO appV appZ shortS copyV buildV partsV fillV srcV fzO okV isCell_c isCell_ptr isCell_sl isCell_fs isCell_fp isCell_clo rowZ_one rowZ_zero rowZ_2 rowZ_3 rowZ_4 rowZ_5 rowZ_6 rowZ_7 rowZ_8 rowZ_9 rowZ_10 rowZ_11 rowZ_12 noHo Value.oneCell' max2V min2V afterH putBack frzFrom frzO rebO backIx nilEq_sl nilEq_fs nilOp_eql nilOp_neq AV.reb AV.rebL
attribute [local simp ↓] runK_skip runK_region runK_draw runK_seq runK_cut runK_cond runK_block runK_loop runK_exit runK_label runK_goto runK_ret runK_range contK_nil contK_seq contK_seq_ret contK_seq_exit contK_seq_goto contK_block contK_block_ret contK_block_goto contK_block_exit runO_nil runO_cons roundK_exit roundK_ret roundK_goto exitK_ret cutK_ret cutK_exit runE_done runE_nil runE_take runE_alt condG_true condG_false
set_option maxRecDepth 10000
theorem livL_isD (dead : List Nat) : ∀ l : List AV, l.all isD = true → AV.livL dead l = true
  | [], _ => by simp [AV.livL]
  | v :: l, h => by
    simp only [List.all_cons, Bool.and_eq_true] at h
    have h2 := livL_isD dead l h.2
    rw [AV.livL, h2, Bool.and_true]
    cases v <;> first | (simp [isD] at h; done) | simp [AV.liv]
set_option maxHeartbeats 8000000 in
theorem exprs_w (s : StmtS) (hrow : s.rows.length ≤ 1000000) (hb : (exprsS s).length ≤ 1000000) : ACalls Tryd.prog 20 [.agg (stmtA s)] [] (fun _ => false) (fun r h' => r = .fs 13 (exprsS s).length (exprsA (exprsS s)) ∧ h' = []) := by
  refine acalls mixed Tryd.func20 rfl Tryd.ntmps20 rfl fun E hE hst hho => ?_
  have hlen : (exprsS s).length = s.rows.flatten.length + s.sets.length + s.items.length + s.on_.length + s.wher.length + s.group.length + s.order.length := by unfold exprsS; simp only [List.length_append, List.length_map]
  rw [hlen] at hb
  have hc0 := concat_w s.rows hrow (by omega)
  simp (maxSteps := 1000000) [hho, noHo, stmtA, -List.reduceReplicate]
  refine call_x [] hc0 rfl rfl ⟨rfl, rfl⟩ hho (by simp) (by decide) (by simp) (by simp) ?_
  obtain ⟨A, hA⟩ : ∃ A, A = s.rows.flatten := ⟨_, rfl⟩
  rw [← hA]
  have hAl : A.length = s.rows.flatten.length := by rw [hA]
  simp (maxSteps := 1000000) [slotsOf, rowE, hho, noHo, stmtA, -List.reduceReplicate]
  refine loop_k mixed (fun y : Nat × List ExprS => ⟨slotsOf 62 [(1, .ptr 0 0 15), (3, .sl 1 13 0 y.2.length (y.2.length * 13)), (14, .fs 14 s.sets.length (setsA s.sets)), (15, .c (.int .i64 s.sets.length)), (16, .c (.int .i64 (y.1 : Nat)))], [.o .box (stmtA s), rowE y.2]⟩) (fun y => s.sets.length - y.1) (fun y => y.1 ≤ s.sets.length ∧ y.2 = A ++ (s.sets.take y.1).map (·.val)) (0, A) ⟨Nat.zero_le _, by simp⟩ ?_ ?_
  · exact wk_eq (by simp [hE, lens]) (by simp [stmtA, rowE]) (by simp [livH, livO, AV.livL, AV.liv, wkL, wkV, List.range', slotsOf])
  · rintro ⟨j, D⟩ ⟨hj, hD⟩
    simp only at hj hD
    by_cases hjl : j < s.sets.length
    · have hat := setsA_at s.sets j hjl
      have ew : IntKind.i64.wrap ((j : Int) + 1) = (j + 1 : Nat) := by rw [IntWalk.i64_in _ (by omega)]; rfl
      have e0 : j * 14 + 14 ≤ s.sets.length * 14 := by omega
      have hs : D ++ [s.sets[j].val] = A ++ (s.sets.take (j + 1)).map (·.val) := by rw [map_take_succ _ _ j hjl, hD, List.append_assoc]
      have hDl : D.length ≤ 1000000 := by
        rw [hD]; simp only [List.length_append, List.length_map, List.length_take]
        have hmin : min j s.sets.length = j := by omega
        omega
      obtain ⟨x, hx⟩ : ∃ x, x = s.sets[j] := ⟨_, rfl⟩
      rw [← hx] at hat hs
      simp (maxSteps := 1000000) [slotsOf, rowE, hho, noHo, hjl, hat, e0, stmtA, setA, exprA, ew, -List.reduceReplicate]
      refine ⟨by omega, round_next (j + 1, D ++ [x.val]) ⟨by simp only; omega, by first | exact hs | (simp only; rw [← List.map_take]; exact hs)⟩ (by simp only; omega) ?_⟩
      exact wk_of 2 2 (by simp) (by simp [hE, lens]) (by simp [stmtA, rowE, exprsA_app, exprsA_one, exprA]) (by simp [livH, livO, AV.livL, AV.liv, wkL, wkV, List.range', rowE]) (by simp [livH, livO, AV.livL, AV.liv, wkL, wkV, List.range', slotsOf, Nat.add_mul])
    · obtain rfl : j = s.sets.length := by omega
      rw [List.take_length] at hD
      clear hjl hj
      obtain ⟨B, hB⟩ : ∃ B : List ExprS, B = D := ⟨_, rfl⟩
      rw [← hB] at hD ⊢
      clear hB D
      have hB := hD
      clear hD
      have hBl : B.length = A.length + s.sets.length := by rw [hB]; simp
      simp (maxSteps := 1000000) [slotsOf, rowE, hho, noHo, stmtA, -List.reduceReplicate]
      refine loop_k2c [] mixed (fun y : Nat × List ExprS => ⟨slotsOf 62 [(1, .ptr 0 0 15), (3, .sl 1 13 0 y.2.length (y.2.length * 13)), (27, .fs 14 s.items.length (itemsA s.items)), (28, .c (.int .i64 s.items.length)), (29, .c (.int .i64 (y.1 : Nat)))], [.o .box (stmtA s), rowE y.2]⟩) (fun y => s.items.length - y.1) (fun y => y.1 ≤ s.items.length ∧ y.2 = B ++ (s.items.take y.1).map (·.val)) (0, B) (fun C : List ExprS => ⟨slotsOf 62 [(1, .ptr 0 0 15), (3, .fs 13 C.length (exprsA C))], [.o .box (stmtA s), .o .fz (exprsA C)]⟩) (fun C => C = B ++ s.items.map (·.val)) 2 ⟨Nat.zero_le _, by simp⟩ ?_ ?_ ?_
      · exact wk_eq (by simp [hE, lens]) (by simp [stmtA, rowE]) (by simp [livH, livO, AV.livL, AV.liv, wkL, wkV, List.range', slotsOf])
      · intro C hC
        have hCl : C.length = B.length + s.items.length := by rw [hC]; simp
        simp (maxSteps := 1000000) [slotsOf, hho, noHo, stmtA, -List.reduceReplicate]
        have hc := concat_w [C, s.on_, s.wher, s.group] (by simp) (by simp; omega)
        have hfl : [C, s.on_, s.wher, s.group].flatten = C ++ s.on_ ++ s.wher ++ s.group := by simp
        rw [hfl] at hc
        refine call_f [] (fun k => k == 2) hc rfl rfl ⟨?_, rfl⟩ hho (by simp) (by decide) (by simp) ?_ (by simp) ?_
        · simp [erowsA, erowA]
        · simp [isD]
          unfold maxLen; decide
        obtain ⟨O, hO⟩ : ∃ O, O = C ++ s.on_ ++ s.wher ++ s.group := ⟨_, rfl⟩
        rw [← hO]
        have hOl : O.length = C.length + s.on_.length + s.wher.length + s.group.length := by rw [hO]; simp; omega
        simp (maxSteps := 1000000) [slotsOf, rowE, hho, noHo, stmtA, -List.reduceReplicate]
        refine loop_k mixed (fun y : Nat × List ExprS => ⟨slotsOf 62 [(1, .ptr 0 0 15), (3, .sl 3 13 0 y.2.length (y.2.length * 13)), (49, .fs 14 s.order.length (ordsA s.order)), (50, .c (.int .i64 s.order.length)), (51, .c (.int .i64 (y.1 : Nat)))], [.o .box (stmtA s), .o .fz (exprsA C), .o .fz [.fs 13 C.length (exprsA C), .fs 13 s.on_.length (exprsA s.on_), .fs 13 s.wher.length (exprsA s.wher), .fs 13 s.group.length (exprsA s.group)], rowE y.2]⟩) (fun y => s.order.length - y.1) (fun y => y.1 ≤ s.order.length ∧ y.2 = O ++ (s.order.take y.1).map (·.val)) (0, O) ⟨Nat.zero_le _, by simp⟩ ?_ ?_
        · exact wk_eq (by simp [hE, lens]) (by simp [stmtA, rowE]) (by simp [livH, livO, AV.livL, AV.liv, wkL, wkV, List.range', slotsOf])
        · rintro ⟨j, D⟩ ⟨hj, hD⟩
          simp only at hj hD
          by_cases hjl : j < s.order.length
          · have hat := ordsA_at s.order j hjl
            have ew : IntKind.i64.wrap ((j : Int) + 1) = (j + 1 : Nat) := by rw [IntWalk.i64_in _ (by omega)]; rfl
            have e0 : j * 14 + 14 ≤ s.order.length * 14 := by omega
            have hs : D ++ [s.order[j].val] = O ++ (s.order.take (j + 1)).map (·.val) := by rw [map_take_succ _ _ j hjl, hD, List.append_assoc]
            have hDl : D.length ≤ 1000000 := by
              rw [hD]; simp only [List.length_append, List.length_map, List.length_take]
              have hmin : min j s.order.length = j := by omega
              omega
            obtain ⟨x, hx⟩ : ∃ x, x = s.order[j] := ⟨_, rfl⟩
            rw [← hx] at hat hs
            simp (maxSteps := 1000000) [slotsOf, rowE, hho, noHo, hjl, hat, e0, stmtA, ordA, exprA, ew, -List.reduceReplicate]
            refine ⟨by omega, round_next (j + 1, D ++ [x.val]) ⟨by simp only; omega, by first | exact hs | (simp only; rw [← List.map_take]; exact hs)⟩ (by simp only; omega) ?_⟩
            exact wk_of 4 2 (by simp) (by simp [hE, lens]) (by simp [stmtA, rowE, exprsA_app, exprsA_one, exprA]) (by simp [livH, livO, AV.livL, AV.liv, wkL, wkV, List.range', rowE, livL_isD _ _ (exprsD _)]) (by simp [livH, livO, AV.livL, AV.liv, wkL, wkV, List.range', slotsOf, Nat.add_mul])
          · obtain rfl : j = s.order.length := by omega
            rw [List.take_length] at hD
            clear hjl hj
            have hD4 : D = exprsS s := by rw [hD, hO, hC, hB, hA]; simp [exprsS]
            rw [hD4]
            simp (maxSteps := 1000000) [slotsOf, rowE, hho, noHo, stmtA, -List.reduceReplicate]
            refine Ret.sel [] (fun k => k == 3) (ho := by rfl) (ha := by rfl) ?_ ?_ (by decide) (by simp) (by simp) ⟨?_, rfl⟩
            · exact trivial
            · exact ⟨by simp, by omega, by unfold maxLen; omega, by rw [List.drop_zero, List.take_of_length_le (by simp)]; exact exprsD _⟩
            · rw [List.drop_zero, List.take_of_length_le (by simp)]
      · rintro ⟨j, D⟩ ⟨hj, hD⟩
        simp only at hj hD
        by_cases hjl : j < s.items.length
        · have hat := itemsA_at s.items j hjl
          have ew : IntKind.i64.wrap ((j : Int) + 1) = (j + 1 : Nat) := by rw [IntWalk.i64_in _ (by omega)]; rfl
          have e0 : j * 14 + 14 ≤ s.items.length * 14 := by omega
          have hs : D ++ [s.items[j].val] = B ++ (s.items.take (j + 1)).map (·.val) := by rw [map_take_succ _ _ j hjl, hD, List.append_assoc]
          have hDl : D.length ≤ 1000000 := by
            rw [hD]; simp only [List.length_append, List.length_map, List.length_take]
            have hmin : min j s.items.length = j := by omega
            omega
          obtain ⟨x, hx⟩ : ∃ x, x = s.items[j] := ⟨_, rfl⟩
          rw [← hx] at hat hs
          simp (maxSteps := 1000000) [slotsOf, rowE, hho, noHo, hjl, hat, e0, stmtA, itemA, exprA, ew, -List.reduceReplicate]
          refine ⟨by omega, round_next (j + 1, D ++ [x.val]) ⟨by simp only; omega, by first | exact hs | (simp only; rw [← List.map_take]; exact hs)⟩ (by simp only; omega) ?_⟩
          exact wk_of 2 2 (by simp) (by simp [hE, lens]) (by simp [stmtA, rowE, exprsA_app, exprsA_one, exprA]) (by simp [livH, livO, AV.livL, AV.liv, wkL, wkV, List.range', rowE]) (by simp [livH, livO, AV.livL, AV.liv, wkL, wkV, List.range', slotsOf, Nat.add_mul])
        · obtain rfl : j = s.items.length := by omega
          rw [List.take_length] at hD
          have hDl : D.length ≤ 1000000 := by rw [hD]; simp only [List.length_append, List.length_map]; omega
          simp (maxSteps := 1000000) [slotsOf, rowE, hho, noHo, stmtA, -List.reduceReplicate]
          refine exit_to D hD ?_
          refine Wk.trans (wk_fz 1 rfl (by rw [hho]; rfl)) ?_
          refine Wk.trans (wk_slot 3 (new := .fs 13 D.length ((exprsA D).drop 0 |>.take (D.length * 13))) rfl fun G F w v hh hv => fz_fs (off := 0) rfl (by simp) (by omega) (by unfold maxLen; omega) (by rw [List.drop_zero, List.take_of_length_le (by simp)]; exact exprsD _) hh hv) ?_
          rw [List.drop_zero, List.take_of_length_le (by simp)]
          exact wk_eq (by simp [hE, lens]) (by simp [stmtA, rowE]) (by simp [livH, livO, AV.livL, AV.liv, wkL, wkV, List.range', slotsOf])
end Go.Proofs.YtlepkpfbejfpiaaDoor
