import Derived.Test.YtlepkpfbejfpiaaDoorYK
namespace Go.Proofs.YtlepkpfbejfpiaaDoor
set_option linter.unusedVariables false
set_option linter.unusedSimpArgs false
open Go.RowKit
attribute [local simp] isCut_nil isCut_region isCut_seq isCut_block isCut_loop isCut_cond isCut_skip isCut_exit isCut_ret isCut_range swapK putK altK condK_bool pickP_bool stepP stepO onPure_some onPure_none onImpl_some onImpl_none stepC onGP_some onGP_none onGV_some condG mkG onIt_it nextP_ptr takeP_eq takeV_some takeV_none takeU_some takeU_none takeQ takeW_some takeN_none takeN_some takeG_some takeO_some altO_some pureV binV2 eqF eqOp ovlV ovl2 rowAt capV binV intBin strBin isSh shV fldV ixV sliceV slice3V loadAV nilV lenV callV unV convV viewS cellsH loadV fldCut AV.ung AV.ungs AV.gc AV.cells AS.ev AS.put anyS gcsV lens lnO gV guardV retK RetP_eq resV oneV anyRo loIx hiIx implO callP_clo evL gcsL clearV storeAV AS.push AS.setO appV appZ shortS copyV buildV partsV fillV srcV fzO okV isCell_c isCell_ptr isCell_sl isCell_fs isCell_fp isCell_clo rowZ_one rowZ_zero rowZ_2 rowZ_3 rowZ_4 rowZ_5 rowZ_6 rowZ_7 rowZ_8 rowZ_9 rowZ_10 rowZ_11 rowZ_12 noHo Value.oneCell' max2V min2V afterH putBack frzFrom frzO rebO backIx nilEq_sl nilEq_fs nilOp_eql nilOp_neq AV.reb AV.rebL
attribute [local simp ↓] runK_skip runK_region runK_draw runK_seq runK_cut runK_cond runK_block runK_loop runK_exit runK_label runK_goto runK_ret runK_range contK_nil contK_seq contK_seq_ret contK_seq_exit contK_seq_goto contK_block contK_block_ret contK_block_goto contK_block_exit runO_nil runO_cons roundK_exit roundK_ret roundK_goto exitK_ret cutK_ret cutK_exit runE_done runE_nil runE_take runE_alt condG_true condG_false
set_option maxRecDepth 10000
/-! ## The expressions of a statement -/
def exprsS (s : StmtS) : List ExprS := s.rows.flatten ++ s.sets.map (·.val) ++ s.items.map (·.val) ++ s.on_ ++ s.wher ++ s.group ++ s.order.map (·.val)
theorem flatten_take {α : Type} (l : List (List α)) (j : Nat) (hj : j < l.length) : (l.take (j + 1)).flatten = (l.take j).flatten ++ l[j] := by
  rw [List.take_succ_eq_append_getElem hj, List.flatten_append, List.flatten_cons, List.flatten_nil, List.append_nil]
theorem map_take_succ {α β : Type} (f : α → β) (l : List α) (j : Nat) (hj : j < l.length) : (l.take (j + 1)).map f = (l.take j).map f ++ [f l[j]] := by
  rw [List.take_succ_eq_append_getElem hj, List.map_append, List.map_cons, List.map_nil]
theorem flatten_le {α : Type} (l : List (List α)) (j : Nat) : (l.take j).flatten.length ≤ l.flatten.length := by
  have e : l.flatten = (l.take j).flatten ++ (l.drop j).flatten := by rw [← List.flatten_append, List.take_append_drop]
  rw [e]; simp
theorem flatten_le1 {α : Type} (l : List (List α)) (j : Nat) (hj : j < l.length) : (l.take j).flatten.length + l[j].length ≤ l.flatten.length := by
  have h := flatten_le l (j + 1)
  rw [flatten_take l j hj, List.length_append] at h
  exact h
theorem erowsA_get (l : List (List ExprS)) (j : Nat) (hj : j < l.length) : (erowsA l)[j]'(by simp; omega) = .fs 13 l[j].length (exprsA l[j]) := by
  have hat := erowsA_at l j hj
  have h0 : (erowsA l).drop j = (erowsA l)[j]'(by simp; omega) :: (erowsA l).drop (j + 1) := List.drop_eq_getElem_cons _
  rw [Nat.mul_one, h0, List.take_succ_cons, List.take_zero] at hat
  exact (List.cons.inj hat).1
set_option maxHeartbeats 8000000 in
theorem exprs_ref (s : StmtS) (hrow : s.rows.length ≤ 1000000) (hb : (exprsS s).length ≤ 1000000) : ACalls Tryd.prog 21 [.agg (stmtA s)] [] (fun _ => false) (fun r h' => r = .fs 13 (exprsS s).length (exprsA (exprsS s)) ∧ h' = []) := by
  refine acalls mixed Tryd.func21 rfl Tryd.ntmps21 rfl fun E hE hst hho => ?_
  have hlen : (exprsS s).length = s.rows.flatten.length + s.sets.length + s.items.length + s.on_.length + s.wher.length + s.group.length + s.order.length := by unfold exprsS; simp only [List.length_append, List.length_map]
  rw [hlen] at hb
  simp (maxSteps := 1000000) [hho, noHo, stmtA, -List.reduceReplicate]
  refine loop_k mixed (fun y : Nat × List ExprS => ⟨slotsOf 75 [(1, .ptr 0 0 15), (3, .sl 1 13 0 y.2.length (y.2.length * 13)), (13, .fs 1 s.rows.length (erowsA s.rows)), (14, .c (.int .i64 s.rows.length)), (15, .c (.int .i64 (y.1 : Nat)))], [.o .box (stmtA s), rowE y.2]⟩) (fun y => s.rows.length - y.1) (fun y => y.1 ≤ s.rows.length ∧ y.2 = (s.rows.take y.1).flatten) (0, []) ⟨Nat.zero_le _, by simp⟩ ?_ ?_
  · refine Wk.trans (wk_virt 3 30 13 rfl) ?_
    exact wk_eq (by simp [hE, lens]) (by simp [stmtA, rowE, exprsA]) (by simp [livH, livO, AV.livL, AV.liv, wkL, wkV, List.range', slotsOf])
  · rintro ⟨j, D⟩ ⟨hj, hD⟩
    simp only at hj hD
    by_cases hjl : j < s.rows.length
    · have hat := erowsA_get s.rows j hjl
      have ew : IntKind.i64.wrap ((j : Int) + 1) = (j + 1 : Nat) := by rw [IntWalk.i64_in _ (by omega)]; rfl
      have hle := flatten_le1 s.rows j hjl
      have hs : D ++ s.rows[j] = (s.rows.take (j + 1)).flatten := by rw [flatten_take _ j hjl, hD]
      rw [← hD] at hle
      obtain ⟨x, hx⟩ : ∃ x, x = s.rows[j] := ⟨_, rfl⟩
      rw [← hx] at hat hs hle
      have hap := exprsA_app D x
      simp (maxSteps := 1000000) [slotsOf, rowE, hho, noHo, hjl, hat, stmtA, ew, -List.reduceReplicate]
      refine ⟨by omega, ?_⟩
      refine ⟨by omega, round_next (j + 1, D ++ x) ⟨by simp only; omega, hs⟩ (by simp only; omega) ?_⟩
      exact wk_eq (by simp [hE, lens]) (by simp [stmtA, rowE, hap]) (by simp [livH, livO, AV.livL, AV.liv, wkL, wkV, List.range', slotsOf, Nat.add_mul])
    · obtain rfl : j = s.rows.length := by omega
      rw [List.take_length] at hD
      clear hjl hj
      obtain ⟨A, hA⟩ : ∃ A : List ExprS, A = D := ⟨_, rfl⟩
      rw [← hA] at hD ⊢
      clear hA D
      have hA := hD
      clear hD
      have hAl : A.length = s.rows.flatten.length := by rw [hA]
      simp (maxSteps := 1000000) [slotsOf, rowE, hho, noHo, stmtA, -List.reduceReplicate]
      refine loop_k mixed (fun y : Nat × List ExprS => ⟨slotsOf 75 [(1, .ptr 0 0 15), (3, .sl 1 13 0 y.2.length (y.2.length * 13)), (24, .fs 14 s.sets.length (setsA s.sets)), (25, .c (.int .i64 s.sets.length)), (26, .c (.int .i64 (y.1 : Nat)))], [.o .box (stmtA s), rowE y.2]⟩) (fun y => s.sets.length - y.1) (fun y => y.1 ≤ s.sets.length ∧ y.2 = A ++ (s.sets.take y.1).map (·.val)) (0, A) ⟨Nat.zero_le _, by simp⟩ ?_ ?_
      · exact wk_eq (by simp [hE, lens]) (by simp [stmtA, rowE]) (by simp [livH, livO, AV.livL, AV.liv, wkL, wkV, List.range', slotsOf])
      · rintro ⟨j, D⟩ ⟨hj, hD⟩
        simp only at hj hD
        by_cases hjl : j < s.sets.length
        · have hat := setsA_at s.sets j hjl
          have ew : IntKind.i64.wrap ((j : Int) + 1) = (j + 1 : Nat) := by rw [IntWalk.i64_in _ (by omega)]; rfl
          have e0 : j * 14 + 14 ≤ s.sets.length * 14 := by omega
          have hs : D ++ [s.sets[j].val] = A ++ (s.sets.take (j + 1)).map (·.val) := by rw [map_take_succ _ _ j hjl, hD, List.append_assoc]
          have hDl : D.length ≤ 1000000 := by
            rw [hD]; simp only [List.length_append, List.length_map, List.length_take]
            have hmin : min j s.sets.length = j := by omega
            omega
          obtain ⟨x, hx⟩ : ∃ x, x = s.sets[j] := ⟨_, rfl⟩
          rw [← hx] at hat hs
          simp (maxSteps := 1000000) [slotsOf, rowE, hho, noHo, hjl, hat, e0, stmtA, setA, exprA, ew, -List.reduceReplicate]
          refine ⟨by omega, round_next (j + 1, D ++ [x.val]) ⟨by simp only; omega, by first | exact hs | (simp only; rw [← List.map_take]; exact hs)⟩ (by simp only; omega) ?_⟩
          exact wk_of 2 2 (by simp) (by simp [hE, lens]) (by simp [stmtA, rowE, exprsA_app, exprsA_one, exprA]) (by simp [livH, livO, AV.livL, AV.liv, wkL, wkV, List.range', rowE]) (by simp [livH, livO, AV.livL, AV.liv, wkL, wkV, List.range', slotsOf, Nat.add_mul])
        · obtain rfl : j = s.sets.length := by omega
          rw [List.take_length] at hD
          clear hjl hj
          obtain ⟨B, hB⟩ : ∃ B : List ExprS, B = D := ⟨_, rfl⟩
          rw [← hB] at hD ⊢
          clear hB D
          have hB := hD
          clear hD
          have hBl : B.length = A.length + s.sets.length := by rw [hB]; simp
          simp (maxSteps := 1000000) [slotsOf, rowE, hho, noHo, stmtA, -List.reduceReplicate]
          refine loop_k mixed (fun y : Nat × List ExprS => ⟨slotsOf 75 [(1, .ptr 0 0 15), (3, .sl 1 13 0 y.2.length (y.2.length * 13)), (37, .fs 14 s.items.length (itemsA s.items)), (38, .c (.int .i64 s.items.length)), (39, .c (.int .i64 (y.1 : Nat)))], [.o .box (stmtA s), rowE y.2]⟩) (fun y => s.items.length - y.1) (fun y => y.1 ≤ s.items.length ∧ y.2 = B ++ (s.items.take y.1).map (·.val)) (0, B) ⟨Nat.zero_le _, by simp⟩ ?_ ?_
          · exact wk_eq (by simp [hE, lens]) (by simp [stmtA, rowE]) (by simp [livH, livO, AV.livL, AV.liv, wkL, wkV, List.range', slotsOf])
          · rintro ⟨j, D⟩ ⟨hj, hD⟩
            simp only at hj hD
            by_cases hjl : j < s.items.length
            · have hat := itemsA_at s.items j hjl
              have ew : IntKind.i64.wrap ((j : Int) + 1) = (j + 1 : Nat) := by rw [IntWalk.i64_in _ (by omega)]; rfl
              have e0 : j * 14 + 14 ≤ s.items.length * 14 := by omega
              have hs : D ++ [s.items[j].val] = B ++ (s.items.take (j + 1)).map (·.val) := by rw [map_take_succ _ _ j hjl, hD, List.append_assoc]
              have hDl : D.length ≤ 1000000 := by
                rw [hD]; simp only [List.length_append, List.length_map, List.length_take]
                have hmin : min j s.items.length = j := by omega
                omega
              obtain ⟨x, hx⟩ : ∃ x, x = s.items[j] := ⟨_, rfl⟩
              rw [← hx] at hat hs
              simp (maxSteps := 1000000) [slotsOf, rowE, hho, noHo, hjl, hat, e0, stmtA, itemA, exprA, ew, -List.reduceReplicate]
              refine ⟨by omega, round_next (j + 1, D ++ [x.val]) ⟨by simp only; omega, by first | exact hs | (simp only; rw [← List.map_take]; exact hs)⟩ (by simp only; omega) ?_⟩
              exact wk_of 2 2 (by simp) (by simp [hE, lens]) (by simp [stmtA, rowE, exprsA_app, exprsA_one, exprA]) (by simp [livH, livO, AV.livL, AV.liv, wkL, wkV, List.range', rowE]) (by simp [livH, livO, AV.livL, AV.liv, wkL, wkV, List.range', slotsOf, Nat.add_mul])
            · obtain rfl : j = s.items.length := by omega
              rw [List.take_length] at hD
              clear hjl hj
              obtain ⟨C, hC⟩ : ∃ C : List ExprS, C = D := ⟨_, rfl⟩
              rw [← hC] at hD ⊢
              clear hC D
              have hC := hD
              clear hD
              have hCl : C.length = B.length + s.items.length := by rw [hC]; simp
              simp (maxSteps := 1000000) [slotsOf, rowE, hho, noHo, stmtA, -List.reduceReplicate]
              have q1 := exprsA_app C s.on_
              have q2 := exprsA_app (C ++ s.on_) s.wher
              have q3 := exprsA_app (C ++ s.on_ ++ s.wher) s.group
              refine ⟨by omega, by omega, by omega, ?_⟩
              obtain ⟨O, hO⟩ : ∃ O, O = C ++ s.on_ ++ s.wher ++ s.group := ⟨_, rfl⟩
              have hOl : C.length + s.on_.length + s.wher.length + s.group.length = O.length := by rw [hO]; simp; omega
              have hOA : exprsA C ++ (exprsA s.on_ ++ (exprsA s.wher ++ exprsA s.group)) = exprsA O := by rw [hO]; simp [exprsA_app]
              have hO13 : C.length * 13 + s.on_.length * 13 + s.wher.length * 13 + s.group.length * 13 = O.length * 13 := by omega
              refine loop_k mixed (fun y : Nat × List ExprS => ⟨slotsOf 75 [(1, .ptr 0 0 15), (3, .sl 1 13 0 y.2.length (y.2.length * 13)), (62, .fs 14 s.order.length (ordsA s.order)), (63, .c (.int .i64 s.order.length)), (64, .c (.int .i64 (y.1 : Nat)))], [.o .box (stmtA s), rowE y.2]⟩) (fun y => s.order.length - y.1) (fun y => y.1 ≤ s.order.length ∧ y.2 = O ++ (s.order.take y.1).map (·.val)) (0, O) ⟨Nat.zero_le _, by simp⟩ ?_ ?_
              · exact wk_eq (by simp [hE, lens]) (by simp [stmtA, rowE, hOA]) (by simp [livH, livO, AV.livL, AV.liv, wkL, wkV, List.range', slotsOf, hOl, hO13])
              · rintro ⟨j, D⟩ ⟨hj, hD⟩
                simp only at hj hD
                by_cases hjl : j < s.order.length
                · have hat := ordsA_at s.order j hjl
                  have ew : IntKind.i64.wrap ((j : Int) + 1) = (j + 1 : Nat) := by rw [IntWalk.i64_in _ (by omega)]; rfl
                  have e0 : j * 14 + 14 ≤ s.order.length * 14 := by omega
                  have hs : D ++ [s.order[j].val] = O ++ (s.order.take (j + 1)).map (·.val) := by rw [map_take_succ _ _ j hjl, hD, List.append_assoc]
                  have hDl : D.length ≤ 1000000 := by
                    rw [hD]; simp only [List.length_append, List.length_map, List.length_take]
                    have hmin : min j s.order.length = j := by omega
                    omega
                  obtain ⟨x, hx⟩ : ∃ x, x = s.order[j] := ⟨_, rfl⟩
                  rw [← hx] at hat hs
                  simp (maxSteps := 1000000) [slotsOf, rowE, hho, noHo, hjl, hat, e0, stmtA, ordA, exprA, ew, -List.reduceReplicate]
                  refine ⟨by omega, round_next (j + 1, D ++ [x.val]) ⟨by simp only; omega, by first | exact hs | (simp only; rw [← List.map_take]; exact hs)⟩ (by simp only; omega) ?_⟩
                  exact wk_of 2 2 (by simp) (by simp [hE, lens]) (by simp [stmtA, rowE, exprsA_app, exprsA_one, exprA]) (by simp [livH, livO, AV.livL, AV.liv, wkL, wkV, List.range', rowE]) (by simp [livH, livO, AV.livL, AV.liv, wkL, wkV, List.range', slotsOf, Nat.add_mul])
                · obtain rfl : j = s.order.length := by omega
                  rw [List.take_length] at hD
                  clear hjl hj
                  have hD4 : D = exprsS s := by rw [hD, hO, hC, hB, hA]; simp [exprsS]
                  rw [hD4]
                  simp (maxSteps := 1000000) [slotsOf, rowE, hho, noHo, stmtA, -List.reduceReplicate]
                  refine Ret.sel [] (fun k => k == 1) (ho := by rfl) (ha := by rfl) ?_ ?_ (by decide) (by simp) (by simp) ⟨?_, rfl⟩
                  · exact trivial
                  · exact ⟨by simp, by omega, by unfold maxLen; omega, by rw [List.drop_zero, List.take_of_length_le (by simp)]; exact exprsD _⟩
                  · rw [List.drop_zero, List.take_of_length_le (by simp)]
end Go.Proofs.YtlepkpfbejfpiaaDoor
