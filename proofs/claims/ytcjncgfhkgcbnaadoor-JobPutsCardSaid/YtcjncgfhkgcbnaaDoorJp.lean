import Derived.Test.YtcjncgfhkgcbnaaDoorJr
import Derived.Test.YtcjncgfhkgcbnaaDoorRb
import Derived.Test.YtcjncgfhkgcbnaaDoorHRv
import Derived.Test.YtcjncgfhkgcbnaaDoorFp
namespace Go.Proofs.YtcjncgfhkgcbnaaDoor
set_option linter.unusedVariables false
set_option linter.unusedSimpArgs false
open Go.RowKit
attribute [local simp] isCut_nil isCut_region isCut_seq isCut_block isCut_loop isCut_cond isCut_skip isCut_exit isCut_ret isCut_range swapK putK altK condK_bool pickP_bool stepP stepO onPure_some onPure_none onImpl_some onImpl_none stepC onGP_some onGP_none onGV_some condG mkG onIt_it nextP_ptr takeP_eq takeV_some takeV_none takeU_some takeU_none takeQ takeW_some takeN_none takeN_some takeG_some takeO_some altO_some pureV binV2 eqF eqOp ovlV ovl2 rowAt capV binV intBin strBin isSh shV fldV ixV sliceV slice3V loadAV nilV lenV callV unV convV viewS cellsH loadV fldCut AV.ung AV.ungs AV.gc AV.cells AS.ev AS.put anyS gcsV gcO lens lnO gV guardV retK RetP_eq resV oneV anyRo loIx hiIx implO callP_clo evL gcsL clearV storeAV AS.push AS.setO appV appZ shortS copyV buildV partsV fillV srcV fzO okV isCell_c isCell_ptr isCell_sl isCell_fs isCell_fp isCell_clo rowZ_one rowZ_zero rowZ_2 rowZ_3 rowZ_4 rowZ_5 rowZ_6 rowZ_7 rowZ_8 rowZ_9 rowZ_10 rowZ_11 rowZ_12 noHo Value.oneCell' max2V min2V lookV updV lenM msAt afterH putBack frzFrom frzO rebO backIx nilEq_sl nilEq_fs nilOp_eql nilOp_neq AV.reb AV.rebL
attribute [local simp ↓] runK_skip runK_region runK_draw runK_seq runK_cut runK_cond runK_block runK_loop runK_exit runK_label runK_goto runK_ret runK_range contK_nil contK_seq contK_seq_ret contK_seq_exit contK_seq_goto contK_block contK_block_ret contK_block_goto contK_block_exit runO_nil runO_cons roundK_exit roundK_ret roundK_goto exitK_ret cutK_ret cutK_exit runE_done runE_nil runE_take runE_alt condG_true condG_false
set_option maxRecDepth 10000
theorem big_ofJ {s : Option Bs} {m : Nat} (h : ∀ l, s = some l → l.length ≤ m) (hm : m ≤ 1000000000) : Big s := fun l e => Nat.le_trans (h l e) hm
theorem cellsOf_someJ {b : Bs} {l : List CellS} (h : parseS b = some l) : cellsOf b = l := by unfold cellsOf; rw [h]; rfl
theorem cellsOf_noneJ {b : Bs} (h : parseS b = none) : cellsOf b = [] := by unfold cellsOf; rw [h]; rfl
def badLJ : List CellS → Bool
  | [] => false
  | [c] => decide (c.col ≠ 0)
  | _ => true
theorem badOf_someJ {b : Bs} {l : List CellS} (h : parseS b = some l) : badOf b = badLJ l := by
  unfold badOf badLJ; rw [h]; rcases l with _ | ⟨a, _ | ⟨c, l⟩⟩ <;> rfl
theorem parse_lenJ {b : List UInt8} {l : List CellS} (h : parseS b = some l) (hb : b.length ≤ 1000000) : l.length ≤ 1000000 := by
  rw [parse_eq] at h
  unfold parseL at h
  cases hr : rnum b with
  | none => rw [hr] at h; cases h
  | some x =>
    have h1 := rnum_lt (b := b) (n := x.1) (r := x.2) hr
    rw [hr, Option.bind_some] at h
    split at h
    · cases h
    · cases h2 : readN x.1.toNat x.2 with
      | none => rw [h2] at h; cases h
      | some y =>
        have h3 := readN_len _ _ y.1 y.2 h2
        rw [h2, Option.bind_some] at h
        split at h
        · injection h with h; subst h; omega
        · cases h
set_option maxHeartbeats 8000000 in
theorem jbun_w (s : Option Bs) (hs : ∀ l, s = some l → l.length ≤ 100000) : ACalls Tryd.prog 34 [.ptr 0 0 2] [.o .box (rdCells s)] (fun k => decide (k < 1)) (fun r h' => r = .tup [.agg (colA (pJC (s, false)).1), .c (.bool (!(pJC (s, false)).2.2))] ∧ h' = [.o .box (rdCells (pJC (s, false)).2.1)]) := by
  refine acalls mixed Tryd.func34 rfl Tryd.ntmps34 rfl fun E hE hst hho => ?_
  have c1 := text_b s (big_ofJ hs (by omega))
  have b1 := (rtextS_lens hs).2
  obtain ⟨q1, e1⟩ : ∃ q, q = rtextS s := ⟨_, rfl⟩
  rw [← e1] at c1 b1
  have c2 := number_b q1.2 (big_ofJ b1 (by omega))
  have b2 := rnumS_len b1
  obtain ⟨q2, e2⟩ : ∃ q, q = rnumS q1.2 := ⟨_, rfl⟩
  rw [← e2] at c2 b2
  have c3 := number_b q2.2 (big_ofJ b2 (by omega))
  have b3 := rnumS_len b2
  obtain ⟨q3, e3⟩ : ∃ q, q = rnumS q2.2 := ⟨_, rfl⟩
  rw [← e3] at c3 b3
  have c4 := flag_b q3.2 (big_ofJ b3 (by omega))
  have b4 : ∀ l, (rflagS q3.2).2 = some l → l.length ≤ 100000 := rcountS_len' (m := 1) b3
  obtain ⟨q4, e4⟩ : ∃ q, q = rflagS q3.2 := ⟨_, rfl⟩
  rw [← e4] at c4 b4
  have c5 := text_b q4.2 (big_ofJ b4 (by omega))
  have b5 := (rtextS_lens b4).1
  obtain ⟨q5, e5⟩ : ∃ q, q = rtextS q4.2 := ⟨_, rfl⟩
  rw [← e5] at c5 b5
  have eT : pJC (s, false) = (⟨0, str q1.1, ⟨q2.1, q3.1⟩, q4.1, getR (cellsOf q5.1) 0, 0⟩, (q5.2, badOf q5.1)) := by
    rw [e5, e4, e3, e2, e1]
    simp only [pJC, sq, un, pText, pNum, pFlag, pDft, Bool.false_or]
  rw [eT]
  clear eT
  have c6 := parse_row q5.1 b5
  unfold rowParseA at c6
  have ed : (str q5.1).data.toList = q5.1 := by simp [str]
  have es : (str q5.1).size = q5.1.length := str_size _
  simp (maxSteps := 1000000) [hho, noHo, -List.reduceReplicate]
  refine call_x [0] (c1) rfl (rd_ho rfl) ⟨rfl, rfl⟩ hho (by simp) (by decide) ⟨by simp, rdP_ok _, trivial⟩ (by simp) ?_
  simp (maxSteps := 1000000) [hho, noHo, -List.reduceReplicate]
  refine call_x [0] (c2) rfl (rd_ho rfl) ⟨rfl, rfl⟩ hho (by simp) (by decide) ⟨by simp, rdP_ok _, trivial⟩ (by simp) ?_
  simp (maxSteps := 1000000) [hho, noHo, -List.reduceReplicate]
  refine call_x [0] (c3) rfl (rd_ho rfl) ⟨rfl, rfl⟩ hho (by simp) (by decide) ⟨by simp, rdP_ok _, trivial⟩ (by simp) ?_
  simp (maxSteps := 1000000) [hho, noHo, -List.reduceReplicate]
  refine call_x [0] (c4) rfl (rd_ho rfl) ⟨rfl, rfl⟩ hho (by simp) (by decide) ⟨by simp, rdP_ok _, trivial⟩ (by simp) ?_
  simp (maxSteps := 1000000) [hho, noHo, -List.reduceReplicate]
  refine call_x [0] (c5) rfl (rd_ho rfl) ⟨rfl, rfl⟩ hho (by simp) (by decide) ⟨by simp, rdP_ok _, trivial⟩ (by simp) ?_
  simp (maxSteps := 1000000) [hho, noHo, ed, es, -List.reduceReplicate]
  refine ⟨by omega, ?_⟩
  cases hp : parseS q5.1 with
  | none =>
    rw [hp] at c6
    have c7 := get_row [] (by simp) 0
    rw [cellsOf_noneJ hp, show badOf q5.1 = true by unfold badOf; rw [hp]]
    refine call_x [] (c6) rfl rfl ⟨rfl, rfl⟩ hho (by simp) (by decide) (by simp) (by simp) ?_
    simp (maxSteps := 1000000) [hho, noHo, -List.reduceReplicate]
    refine callG_nilAt 0 5 rfl ?_
    refine call_x [] (c7) rfl rfl ⟨rfl, rfl⟩ hho (by simp) (by decide) (by simp) (by simp) ?_
    simp (maxSteps := 1000000) [hho, noHo, valA, -List.reduceReplicate]
    refine draw_k hho (.take 0 (.take 1 (.take 2 (.take 3 (.take 4 (.take 5 (.take 6 (.take 7 (.take 8 (.take 9 (.take 10 (.take 11 (.take 12 (.take 13 (.take 14 (.take 15 (.take 16 (.take 17 (.take 18 (.alt 19 (.take 20 (.done)) (.nil))))))))))))))))))))) [2] [(19, [1])] (by decide +kernel) (by simp) ?_
    simp (maxSteps := 1000000) [hho, noHo, undef, onGP_none, condG_false, roOf, holdOf, wrOf, altK, heldOk, Region.binds, -List.reduceReplicate]
    intros
    refine Ret.sel [0] (fun _ => false) (ho := rd_ho rfl) (ha := by rfl) ?_ ?_ (by decide) (by simp) (fun i _ h => ?_) ⟨rfl, rfl⟩
    · first | exact ⟨rdP_ok _, trivial⟩ | simp
    · first | exact ⟨rdP_ok _, trivial⟩ | simp
    · have e : i = 0 := of_decide_eq_true h
      subst e; rfl
  | some l =>
    rw [hp] at c6
    have hll := parse_lenJ hp (Nat.le_trans b5 (by omega : 100000 ≤ 1000000))
    have c7 := get_row l hll 0
    rw [cellsOf_someJ hp]
    have hbad := badOf_someJ hp
    rw [hbad]
    obtain ⟨v, hv⟩ : ∃ v, v = getR l 0 := ⟨_, rfl⟩
    rw [← hv] at c7 ⊢
    clear hv hbad
    rcases l with _ | ⟨a, _ | ⟨a2, l2⟩⟩
    · refine call_x [] (c6) rfl rfl ⟨rfl, rfl⟩ hho (by simp) (by decide) (by simp) (by simp) ?_
      simp (maxSteps := 1000000) [hho, noHo, cellsA, badLJ, -List.reduceReplicate]
      refine call_x [] (c7) rfl rfl ⟨rfl, rfl⟩ hho (by simp) (by decide) (by simp) (by simp) ?_
      simp (maxSteps := 1000000) [hho, noHo, valA, -List.reduceReplicate]
      refine draw_k hho (.take 0 (.take 1 (.take 2 (.take 3 (.take 4 (.take 5 (.take 6 (.take 7 (.take 8 (.take 9 (.take 10 (.take 11 (.take 12 (.take 13 (.take 14 (.take 15 (.take 16 (.take 17 (.take 18 (.alt 19 (.take 20 (.done)) (.nil))))))))))))))))))))) [2] [(19, [1])] (by decide +kernel) (by simp) ?_
      simp (maxSteps := 1000000) [hho, noHo, undef, onGP_none, condG_false, cellsA, badLJ, roOf, holdOf, wrOf, altK, heldOk, Region.binds, -List.reduceReplicate]
      intros
      refine Ret.sel [0] (fun _ => false) (ho := rd_ho rfl) (ha := by rfl) ?_ ?_ (by decide) (by simp) (fun i _ h => ?_) ⟨rfl, rfl⟩
      · first | exact ⟨rdP_ok _, trivial⟩ | simp
      · first | exact ⟨rdP_ok _, trivial⟩ | simp
      · have e : i = 0 := of_decide_eq_true h
        subst e; rfl
    · by_cases hc0 : a.col = 0
      · refine call_x [] (c6) rfl rfl ⟨rfl, rfl⟩ hho (by simp) (by decide) (by simp) (by simp) ?_
        simp (maxSteps := 1000000) [hho, noHo, -List.reduceReplicate]
        refine call_x [] (c7) rfl rfl ⟨rfl, rfl⟩ hho (by simp) (by decide) (by simp) (by simp) ?_
        simp (maxSteps := 1000000) [hho, noHo, valA, -List.reduceReplicate]
        refine draw_k hho (.take 0 (.take 1 (.take 2 (.take 3 (.take 4 (.take 5 (.take 6 (.take 7 (.take 8 (.take 9 (.take 10 (.take 11 (.take 12 (.take 13 (.take 14 (.take 15 (.take 16 (.take 17 (.take 18 (.alt 19 (.take 20 (.done)) (.nil))))))))))))))))))))) [2] [(19, [1])] (by decide +kernel) (by simp) ?_
        simp (maxSteps := 1000000) [hho, noHo, undef, onGP_none, condG_false, cellsA_one, cellA, hc0, badLJ, roOf, holdOf, wrOf, altK, heldOk, Region.binds, -List.reduceReplicate]
        intros
        refine Ret.sel [0] (fun _ => false) (ho := rd_ho rfl) (ha := by rfl) ?_ ?_ (by decide) (by simp) (fun i _ h => ?_) ⟨rfl, rfl⟩
        · first | exact ⟨rdP_ok _, trivial⟩ | simp
        · first | exact ⟨rdP_ok _, trivial⟩ | simp
        · have e : i = 0 := of_decide_eq_true h
          subst e; rfl
      · refine call_x [] (c6) rfl rfl ⟨rfl, rfl⟩ hho (by simp) (by decide) (by simp) (by simp) ?_
        simp (maxSteps := 1000000) [hho, noHo, -List.reduceReplicate]
        refine call_x [] (c7) rfl rfl ⟨rfl, rfl⟩ hho (by simp) (by decide) (by simp) (by simp) ?_
        simp (maxSteps := 1000000) [hho, noHo, valA, -List.reduceReplicate]
        refine draw_k hho (.take 0 (.take 1 (.take 2 (.take 3 (.take 4 (.take 5 (.take 6 (.take 7 (.take 8 (.take 9 (.take 10 (.take 11 (.take 12 (.take 13 (.take 14 (.take 15 (.take 16 (.take 17 (.take 18 (.alt 19 (.take 20 (.done)) (.nil))))))))))))))))))))) [2] [(19, [1])] (by decide +kernel) (by simp) ?_
        simp (maxSteps := 1000000) [hho, noHo, undef, onGP_none, condG_false, cellsA_one, cellA, hc0, badLJ, roOf, holdOf, wrOf, altK, heldOk, Region.binds, -List.reduceReplicate]
        intros
        refine Ret.sel [0] (fun _ => false) (ho := rd_ho rfl) (ha := by rfl) ?_ ?_ (by decide) (by simp) (fun i _ h => ?_) ⟨rfl, rfl⟩
        · first | exact ⟨rdP_ok _, trivial⟩ | simp
        · first | exact ⟨rdP_ok _, trivial⟩ | simp
        · have e : i = 0 := of_decide_eq_true h
          subst e; rfl
    · have hb2 : badLJ (a :: a2 :: l2) = true := rfl
      have hl4 : ¬ ((l2.length : Int) + 1 + 1 ≤ 1) := by omega
      rw [hb2]
      refine call_x [] (c6) rfl rfl ⟨rfl, rfl⟩ hho (by simp) (by decide) (by simp) (by simp) ?_
      simp (maxSteps := 1000000) [hho, noHo, -List.reduceReplicate]
      refine call_x [] (c7) rfl rfl ⟨rfl, rfl⟩ hho (by simp) (by decide) (by simp) (by simp) ?_
      simp (maxSteps := 1000000) [hho, noHo, valA, -List.reduceReplicate]
      refine draw_k hho (.take 0 (.take 1 (.take 2 (.take 3 (.take 4 (.take 5 (.take 6 (.take 7 (.take 8 (.take 9 (.take 10 (.take 11 (.take 12 (.take 13 (.take 14 (.take 15 (.take 16 (.take 17 (.take 18 (.alt 19 (.take 20 (.done)) (.nil))))))))))))))))))))) [2] [(19, [1])] (by decide +kernel) (by simp) ?_
      simp (maxSteps := 1000000) [hho, noHo, undef, onGP_none, condG_false, cellsA_cons, cellA, hl4, roOf, holdOf, wrOf, altK, heldOk, Region.binds, -List.reduceReplicate]
      intros
      refine Ret.sel [0] (fun _ => false) (ho := rd_ho rfl) (ha := by rfl) ?_ ?_ (by decide) (by simp) (fun i _ h => ?_) ⟨rfl, rfl⟩
      · first | exact ⟨rdP_ok _, trivial⟩ | simp
      · first | exact ⟨rdP_ok _, trivial⟩ | simp
      · have e : i = 0 := of_decide_eq_true h
        subst e; rfl
end Go.Proofs.YtcjncgfhkgcbnaaDoor
