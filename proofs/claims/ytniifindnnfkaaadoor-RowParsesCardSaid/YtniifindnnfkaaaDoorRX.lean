import Derived.Test.YtniifindnnfkaaaDoorRW
import Derived.Test.YtniifindnnfkaaaDoorDr
namespace Go.Proofs.YtniifindnnfkaaaDoor
set_option linter.unusedVariables false
set_option linter.unusedSimpArgs false
open Go.RowKit Go.ChangeShapes Go.WideShapes Go.ChangeAt
attribute [local simp] isCut_nil isCut_region isCut_seq isCut_block isCut_loop isCut_cond isCut_skip isCut_exit isCut_ret isCut_range swapK putK altK condK_bool pickP_bool stepP stepO onPure_some onPure_none onImpl_some onImpl_none stepC onGP_some onGP_none onGV_some condG mkG onIt_it nextP_ptr takeP_eq takeV_some takeV_none takeU_some takeU_none takeQ takeW_some takeN_none takeN_some takeG_some takeO_some altO_some pureV binV2 eqF eqOp ovlV ovl2 rowAt capV binV intBin strBin isSh shV fldV ixV sliceV slice3V loadAV nilV lenV callV unV convV viewS cellsH loadV fldCut AV.ung AV.ungs AV.gc AV.cells AS.ev AS.put anyS gcsV lens lnO gV guardV retK RetP_eq resV oneV anyRo loIx hiIx implO callP_clo evL gcsL clearV storeAV AS.push AS.setO appV appZ shortS copyV buildV partsV fillV srcV fzO okV isCell_c isCell_ptr isCell_sl isCell_fs isCell_fp isCell_clo rowZ_one rowZ_zero rowZ_2 rowZ_3 rowZ_4 rowZ_5 rowZ_6 rowZ_7 rowZ_8 rowZ_9 rowZ_10 rowZ_11 rowZ_12 noHo Value.oneCell' max2V min2V lookV updV lenM msAt afterH putBack frzFrom frzO rebO backIx nilEq_sl nilEq_fs nilOp_eql nilOp_neq AV.reb AV.rebL
attribute [local simp ↓] runK_skip runK_region runK_draw runK_seq runK_cut runK_cond runK_block runK_loop runK_exit runK_label runK_goto runK_ret runK_range contK_nil contK_seq contK_seq_ret contK_seq_exit contK_seq_goto contK_block contK_block_ret contK_block_goto contK_block_exit runO_nil runO_cons roundK_exit roundK_ret roundK_goto exitK_ret cutK_ret cutK_exit runE_done runE_nil runE_take runE_alt condG_true condG_false
set_option maxRecDepth 10000
/-! ## RowPuts, RowParses -/
theorem shortR_mem {l : List CellS} (h : shortR l) : ∀ c ∈ l, c.v.t.size ≤ 500 := fun c hc => by
  obtain ⟨i, hi, rfl⟩ := List.getElem_of_mem hc
  exact h.2 i hi
theorem long_dec (l : List CellS) : ∃ R : Bool, R = true ↔ ¬ shortR l := ⟨@decide (¬ shortR l) (Classical.propDecidable _), by simp⟩
theorem cellI_of {c : CellS} (h : c.Ok) : CellI c := ⟨h.1, h.2.2.1, h.2.2.2.1, h.2.2.2.2⟩
theorem parseS_len {b : List UInt8} {l : List CellS} (h : parseS b = some l) (hb : b.length ≤ 1000000) : l.length ≤ 1000000 := by
  rw [parse_eq] at h
  unfold parseL at h
  cases hr : rnum b with
  | none => rw [hr] at h; cases h
  | some x =>
    have h1 := rnum_lt (b := b) (n := x.1) (r := x.2) hr
    rw [hr, Option.bind_some] at h
    split at h
    · cases h
    · cases h2 : readN x.1.toNat x.2 with
      | none => rw [h2] at h; cases h
      | some y =>
        have h3 := readN_len _ _ y.1 y.2 h2
        rw [h2, Option.bind_some] at h
        split at h
        · injection h with h; subst h; omega
        · cases h
set_option maxHeartbeats 8000000 in
theorem puts_w (l : List CellS) (ho : ∀ x ∈ l, x.Ok) : ACalls Tryd.prog 3 [.fs 5 l.length (cellsA l)] [] (fun _ => false) (fun r h' => r = .c (.bool true)) := by
  refine acalls mixed Tryd.func3 rfl Tryd.ntmps3 rfl fun E hE hst hho => ?_
  obtain ⟨R, hR⟩ := long_dec l
  have c0 := long_row l R hR
  cases R with
  | true =>
    simp (maxSteps := 1000000) [hho, noHo, -List.reduceReplicate]
    refine call_x [] first11 rfl rfl ⟨rfl, rfl⟩ hho (by simp) (by decide) (by simp) (by simp) ?_
    simp (maxSteps := 1000000) [hho, noHo, -List.reduceReplicate]
    refine call_x [] c0 rfl rfl ⟨rfl, rfl⟩ hho (by simp) (by decide) (by simp) (by simp) ?_
    simp (maxSteps := 1000000) [hho, noHo, -List.reduceReplicate]
    exact Ret.drop (by rfl) rfl
  | false =>
    have hS : shortR l := by
      apply Classical.byContradiction
      intro h; have := hR.2 h; cases this
    have hl := hS.1
    have hs := shortR_mem hS
    have c1 := put_row l (by omega) ho fun c hc => Nat.le_trans (hs c hc) (by omega)
    have c2 := right_rows l (by omega) fun c hc => Nat.le_trans (hs c hc) (by omega)
    have c3 := right_row l (by omega) fun c hc => Nat.le_trans (hs c hc) (by omega)
    unfold rowPutA at c1
    cases hok : okR (-1) l with
    | false =>
      rw [hok] at c1 c2 c3
      simp (maxSteps := 1000000) [hho, noHo, -List.reduceReplicate]
      refine call_x [] first11 rfl rfl ⟨rfl, rfl⟩ hho (by simp) (by decide) (by simp) (by simp) ?_
      simp (maxSteps := 1000000) [hho, noHo, -List.reduceReplicate]
      refine call_x [] c0 rfl rfl ⟨rfl, rfl⟩ hho (by simp) (by decide) (by simp) (by simp) ?_
      simp (maxSteps := 1000000) [hho, noHo, -List.reduceReplicate]
      refine call_x [] c1 rfl rfl ⟨rfl, rfl⟩ hho (by simp) (by decide) (by simp) (by simp) ?_
      simp (maxSteps := 1000000) [hho, noHo, -List.reduceReplicate]
      refine call_x [] c2 rfl rfl ⟨rfl, rfl⟩ hho (by simp) (by decide) (by simp) (by simp) ?_
      simp (maxSteps := 1000000) [hho, noHo, -List.reduceReplicate]
      refine call_x [] c3 rfl rfl ⟨rfl, rfl⟩ hho (by simp) (by decide) (by simp) (by simp) ?_
      simp (maxSteps := 1000000) [hho, noHo, -List.reduceReplicate]
      exact Ret.drop (by rfl) rfl
    | true =>
      rw [hok] at c1 c2 c3
      have hro := rowOk_of ho hok
      have hbl := cellsB_len l hro
      have hnl := num_len (l.length : Int) (by omega) (by omega)
      have hbl2 : (rowB l).length ≤ 100000 := by unfold rowB; rw [List.length_append]; omega
      have c4 := parse_row (rowB l) hbl2
      have hpp : parseS (rowB l) = some l := parse_put l (by omega) hok fun c hc => cellI_of (ho c hc)
      unfold rowParseA at c4
      rw [hpp] at c4
      have c5 := put_ref l (by omega) hro
      have c6 := same_ref l l (by omega) true (by simp)
      obtain ⟨B, hB⟩ : ∃ B, B = rowB l := ⟨_, rfl⟩
      rw [← hB] at c1 c4 c5
      simp (maxSteps := 1000000) [hho, noHo, -List.reduceReplicate]
      refine call_x [] first11 rfl rfl ⟨rfl, rfl⟩ hho (by simp) (by decide) (by simp) (by simp) ?_
      simp (maxSteps := 1000000) [hho, noHo, -List.reduceReplicate]
      refine call_x [] c0 rfl rfl ⟨rfl, rfl⟩ hho (by simp) (by decide) (by simp) (by simp) ?_
      simp (maxSteps := 1000000) [hho, noHo, -List.reduceReplicate]
      refine call_x [] c1 rfl rfl ⟨rfl, rfl⟩ hho (by simp) (by decide) (by simp) (by simp) ?_
      simp (maxSteps := 1000000) [hho, noHo, -List.reduceReplicate]
      refine call_x [] c2 rfl rfl ⟨rfl, rfl⟩ hho (by simp) (by decide) (by simp) (by simp) ?_
      simp (maxSteps := 1000000) [hho, noHo, -List.reduceReplicate]
      refine call_x [] c4 rfl rfl ⟨rfl, rfl⟩ hho (by simp) (by decide) (by simp) (by simp) ?_
      simp (maxSteps := 1000000) [hho, noHo, -List.reduceReplicate]
      refine draw_k hho (.take 0 (.alt 1 (.take 2 (.take 3 (.take 4 (.take 5 (.take 6 (.take 7 (.take 8 (.take 9 (.alt 10 (.take 11 (.take 12 (.take 13 (.take 14 (.take 15 (.take 16 (.take 17 (.take 18 (.alt 19 (.take 20 (.take 21 (.done))) (.nil)))))))))) (.nil)))))))))) (.nil))) [] [] (by decide +kernel) (by simp) ?_
      simp (maxSteps := 1000000) [hho, noHo, roOf, holdOf, wrOf, altK, heldOk, Region.binds, -List.reduceReplicate]
      intros
      refine call_h [] c3 rfl rfl ⟨rfl, rfl⟩ (by simp) (by simp) (by decide) (by simp) (by simp) ?_
      simp (maxSteps := 1000000) [hho, noHo, bytesOf_str, roOf, holdOf, wrOf, altK, heldOk, Region.binds, -List.reduceReplicate]
      intros
      refine call_h [] c5 rfl rfl ⟨rfl, rfl⟩ (by simp) (by simp) (by decide) (by simp) (by simp) ?_
      simp (maxSteps := 1000000) [hho, noHo, bytesOf_str, roOf, holdOf, wrOf, altK, heldOk, Region.binds, -List.reduceReplicate]
      intros
      refine call_h [] c6 rfl rfl ⟨rfl, rfl⟩ (by simp) (by simp) (by decide) (by simp) (by simp) ?_
      simp (maxSteps := 1000000) [hho, noHo, bytesOf_str, roOf, holdOf, wrOf, altK, heldOk, Region.binds, -List.reduceReplicate]
      intros
      exact Ret.drop (by rfl) rfl
set_option maxHeartbeats 8000000 in
theorem parses_w (b : List UInt8) (hb : b.length ≤ maxLen) : ACalls Tryd.prog 4 [.fs 1 b.length (u8av b)] [] (fun _ => false) (fun r h' => r = .c (.bool true)) := by
  refine acalls mixed Tryd.func4 rfl Tryd.ntmps4 rfl fun E hE hst hho => ?_
  by_cases h1 : 1000 < b.length
  · have h1' : (1000 : Int) < b.length := by omega
    simp (maxSteps := 1000000) [hho, noHo, -List.reduceReplicate]
    refine call_x [] first11 rfl rfl ⟨rfl, rfl⟩ hho (by simp) (by decide) (by simp) (by simp) ?_
    simp (maxSteps := 1000000) [hho, noHo, h1, h1', -List.reduceReplicate]
    exact Ret.drop (by rfl) rfl
  · have h1' : ¬ (1000 : Int) < b.length := by omega
    have c1 := parse_row b (by omega)
    have c2 := parse_ref b (by omega)
    unfold rowParseA at c1 c2
    cases hp : parseS b with
    | none =>
      rw [hp] at c1 c2
      have c3 := same_ref [] [] (by simp) true (by simp)
      simp (maxSteps := 1000000) [hho, noHo, -List.reduceReplicate]
      refine call_x [] first11 rfl rfl ⟨rfl, rfl⟩ hho (by simp) (by decide) (by simp) (by simp) ?_
      simp (maxSteps := 1000000) [hho, noHo, h1, h1', -List.reduceReplicate]
      refine call_x [] c1 rfl rfl ⟨rfl, rfl⟩ hho (by simp) (by decide) (by simp) (by simp) ?_
      simp (maxSteps := 1000000) [hho, noHo, -List.reduceReplicate]
      refine call_x [] c2 rfl rfl ⟨rfl, rfl⟩ hho (by simp) (by decide) (by simp) (by simp) ?_
      simp (maxSteps := 1000000) [hho, noHo, -List.reduceReplicate]
      refine callG_nilAt 0 5 rfl (callG_nilAt 1 5 rfl ?_)
      refine call_x [] c3 rfl rfl ⟨rfl, rfl⟩ hho (by simp) (by decide) (by simp) (by simp) ?_
      simp (maxSteps := 1000000) [hho, noHo, -List.reduceReplicate]
      exact Ret.drop (by rfl) rfl
    | some l =>
      rw [hp] at c1 c2
      have hll : l.length ≤ 1000000 := parseS_len hp (by omega)
      have c3 := same_ref l l hll true (by simp)
      simp (maxSteps := 1000000) [hho, noHo, -List.reduceReplicate]
      refine call_x [] first11 rfl rfl ⟨rfl, rfl⟩ hho (by simp) (by decide) (by simp) (by simp) ?_
      simp (maxSteps := 1000000) [hho, noHo, h1, h1', -List.reduceReplicate]
      refine call_x [] c1 rfl rfl ⟨rfl, rfl⟩ hho (by simp) (by decide) (by simp) (by simp) ?_
      simp (maxSteps := 1000000) [hho, noHo, -List.reduceReplicate]
      refine call_x [] c2 rfl rfl ⟨rfl, rfl⟩ hho (by simp) (by decide) (by simp) (by simp) ?_
      simp (maxSteps := 1000000) [hho, noHo, -List.reduceReplicate]
      refine call_x [] c3 rfl rfl ⟨rfl, rfl⟩ hho (by simp) (by decide) (by simp) (by simp) ?_
      simp (maxSteps := 1000000) [hho, noHo, -List.reduceReplicate]
      exact Ret.drop (by rfl) rfl
end Go.Proofs.YtniifindnnfkaaaDoor
