import Derived.Test.YthgoocdldnkogaaGreatDoorCv
import Derived.Test.YthgoocdldnkogaaGreatDoorHR2
import Derived.Test.YthgoocdldnkogaaGreatDoorHU
import Derived.Test.YthgoocdldnkogaaGreatDoorHJa
import Derived.Test.YthgoocdldnkogaaGreatDoorHRv
import Derived.Test.YthgoocdldnkogaaGreatDoorFp
import Derived.Test.YthgoocdldnkogaaGreatDoorH6
import Derived.Test.YthgoocdldnkogaaGreatDoorHJn
import Derived.Test.YthgoocdldnkogaaGreatDoorHJc
namespace Go.Proofs.YthgoocdldnkogaaGreatDoor
set_option linter.unusedVariables false
set_option linter.unusedSimpArgs false
open Go.RowKit
def rdCells : Option (List UInt8) → List AV
 | some l => [.fs 1 l.length (u8av l), .c (.bool false)]
 | none => [.c (.slice none 0 0), .c (.bool true)]
theorem rdS_cells (s : Option (List UInt8)) : rdS s = [.o .box (rdCells s)] := by cases s <;> rfl
@[simp] theorem rdCells_length (s : Option (List UInt8)) : (rdCells s).length = 2 := by cases s <;> rfl
theorem rdCells_isD (s : Option (List UInt8)) : (rdCells s).all isD = true := by cases s <;> rfl
@[simp] theorem rdCells_reb (β : Nat → Nat) (s : Option (List UInt8)) : AV.rebL β (rdCells s) = rdCells s := rebL_isD (rdCells_isD s)
def rdP (s : Option (List UInt8)) : Prop := Classical.choose (conv_isD (rdCells_isD s))
theorem rdP_ok (s : Option (List UInt8)) : rdP s := (Classical.choose_spec (conv_isD (rdCells_isD s))).1
theorem rd_cv (s : Option (List UInt8)) : ∀ ρ ok h, AV.convL ρ ok h (rdCells s) = some (rdP s, rdCells s) := (Classical.choose_spec (conv_isD (rdCells_isD s))).2
theorem rd_ho {h : List AObj} {i : Nat} {s : Option (List UInt8)} (hi : h[i]? = some (.o .box (rdCells s))) : convOs [i] (fun _ => false) h [i] = some (rdP s ∧ True, [.o .box (rdCells s)]) := convOs_box hi (rd_cv s)
abbrev Big (s : Option (List UInt8)) : Prop := ∀ l, s = some l → l.length ≤ 1000000000
theorem number_b (s : Option (List UInt8)) (hs : Big s) : ACalls Tryz.prog 101 [.ptr 0 0 2] [.o .box (rdCells s)] (fun k => decide (k < 1)) (fun r h' => r = .c (.int .i64 (rnumS s).1) ∧ h' = [.o .box (rdCells (rnumS s).2)]) := by
 have := number_r s hs
 rw [rdS_cells, rdS_cells] at this; exact this
theorem count_b (s : Option (List UInt8)) (hs : Big s) (most : Int) : ACalls Tryz.prog 115 [.ptr 0 0 2, .c (.int .i64 most)] [.o .box (rdCells s)] (fun k => decide (k < 1)) (fun r h' => r = .c (.int .i64 (rcountS s most).1) ∧ h' = [.o .box (rdCells (rcountS s most).2)]) := by
 have := count_r s hs most
 rw [rdS_cells, rdS_cells] at this; exact this
theorem flag_b (s : Option (List UInt8)) (hs : Big s) : ACalls Tryz.prog 117 [.ptr 0 0 2] [.o .box (rdCells s)] (fun k => decide (k < 1)) (fun r h' => r = .c (.bool (rflagS s).1) ∧ h' = [.o .box (rdCells (rflagS s).2)]) := by
 have := flag_r s hs
 rw [rdS_cells, rdS_cells] at this; exact this
theorem text_b (s : Option (List UInt8)) (hs : Big s) : ACalls Tryz.prog 114 [.ptr 0 0 2] [.o .box (rdCells s)] (fun k => decide (k < 1)) (fun r h' => r = .c (.string (str (rtextS s).1)) ∧ h' = [.o .box (rdCells (rtextS s).2)]) := by
 have := text_r s hs
 rw [rdS_cells, rdS_cells] at this; exact this
theorem end_b (s : Option (List UInt8)) : ACalls Tryz.prog 104 [.ptr 0 0 2] [.o .box (rdCells s)] (fun k => decide (k < 1)) (fun r h' => r = .c (.bool (decide (s = some []))) ∧ h' = [.o .box (rdCells s)]) := by
 have := end_r s
 rw [rdS_cells] at this; exact this
theorem read_b (l : List UInt8) (hl : l.length ≤ 1000000000) : ACalls Tryz.prog 100 [.fs 1 l.length (u8av l)] [] (fun _ => false) (fun r h' => r = .ptr 0 0 2 ∧ h' = [.o .box (rdCells (some l))]) := by
 have := read_r l hl
 rw [rdS_cells] at this; exact this
end Go.Proofs.YthgoocdldnkogaaGreatDoor
namespace Go.Proofs.YthgoocdldnkogaaGreatDoor
set_option linter.unusedVariables false
set_option linter.unusedSimpArgs false
open Go.RowKit
attribute [local simp] isCut_nil isCut_region isCut_seq isCut_block isCut_loop isCut_cond isCut_skip isCut_exit isCut_ret isCut_range swapK putK altK condK_bool pickP_bool stepP stepO onPure_some onPure_none onImpl_some onImpl_none stepC onGP_some onGP_none onGV_some condG mkG onIt_it nextP_ptr takeP_eq takeV_some takeV_none takeU_some takeU_none takeQ takeW_some takeN_none takeN_some takeG_some takeO_some altO_some pureV binV2 eqF eqOp ovlV ovl2 rowAt capV binV intBin strBin isSh shV fldV ixV sliceV slice3V loadAV nilV lenV callV unV convV viewS cellsH loadV fldCut AV.ung AV.ungs AV.gc AV.cells AS.ev AS.put anyS gcsV gcO lens lnO gV guardV retK RetP_eq resV oneV anyRo loIx hiIx implO callP_clo evL gcsL clearV storeAV AS.push AS.setO appV appZ shortS copyV buildV partsV fillV srcV fzO okV isCell_c isCell_ptr isCell_sl isCell_fs isCell_fp isCell_clo rowZ_one rowZ_zero rowZ_2 rowZ_3 rowZ_4 rowZ_5 rowZ_6 rowZ_7 rowZ_8 rowZ_9 rowZ_10 rowZ_11 rowZ_12 noHo Value.oneCell' max2V min2V lookV updV updK updW cvals mkAt basV lenM msAt afterH putBack frzFrom frzO rebO backIx nilEq_sl nilEq_fs nilEq_ifn nilEq_ifh ifOp_eql ifOp_neq isLit nilOp_eql nilOp_neq AV.reb AV.rebL
attribute [local simp ↓] runK_skip runK_region runK_draw runK_seq runK_cut runK_cond runK_block runK_loop runK_exit runK_label runK_goto runK_ret runK_range contK_nil contK_seq contK_seq_ret contK_seq_exit contK_seq_goto contK_block contK_block_ret contK_block_goto contK_block_exit runO_nil runO_cons roundK_exit roundK_ret roundK_goto exitK_ret cutK_ret cutK_exit runE_done runE_nil runE_take runE_alt condG_true condG_false
set_option maxRecDepth 10000
theorem big_ofJ {s : Option Bs} {m : Nat} (h : ∀ l, s = some l → l.length ≤ m) (hm : m ≤ 1000000000) : Big s := fun l e => Nat.le_trans (h l e) hm
theorem cellsOf_someJ {b : Bs} {l : List CellS} (h : parseS b = some l) : cellsOf b = l := by unfold cellsOf; rw [h]; rfl
theorem cellsOf_noneJ {b : Bs} (h : parseS b = none) : cellsOf b = [] := by unfold cellsOf; rw [h]; rfl
def badLJ : List CellS → Bool
 | [] => false
 | [c] => decide (c.col ≠ 0)
 | _ => true
theorem badOf_someJ {b : Bs} {l : List CellS} (h : parseS b = some l) : badOf b = badLJ l := by
 unfold badOf badLJ; rw [h]; rcases l with _ | ⟨a, _ | ⟨c, l⟩⟩ <;> rfl
theorem parse_lenJ {b : List UInt8} {l : List CellS} (h : parseS b = some l) (hb : b.length ≤ 1000000) : l.length ≤ 1000000 := by
 rw [parse_eq] at h
 unfold parseL at h
 cases hr : rnum b with
 | none => rw [hr] at h; cases h
 | some x =>
  have h1 := rnum_lt (b := b) (n := x.1) (r := x.2) hr
  rw [hr, Option.bind_some] at h
  split at h
  ·cases h
  ·cases h2 : readN x.1.toNat x.2 with
   | none => rw [h2] at h; cases h
   | some y =>
    have h3 := readN_len _ _ y.1 y.2 h2
    rw [h2, Option.bind_some] at h
    split at h
    ·injection h with h; subst h; omega
    ·cases h
set_option maxHeartbeats 8000000 in
theorem jbun_w (s : Option Bs) (hs : ∀ l, s = some l → l.length ≤ 100000) : ACalls Tryz.prog 116 [.ptr 0 0 2] [.o .box (rdCells s)] (fun k => decide (k < 1)) (fun r h' => r = .tup [.agg (colA (pJC (s, false)).1), .c (.bool (!(pJC (s, false)).2.2))] ∧ h' = [.o .box (rdCells (pJC (s, false)).2.1)]) := by
 refine acalls mixed Tryz.func116 rfl Tryz.ntmps116 rfl fun E hE hst hho => ?_
 have c1 := text_b s (big_ofJ hs (by omega))
 have b1 := (rtextS_lens hs).2
 obtain ⟨q1, e1⟩ : ∃ q, q = rtextS s := ⟨_, rfl⟩
 rw [← e1] at c1 b1
 have c2 := number_b q1.2 (big_ofJ b1 (by omega))
 have b2 := rnumS_len b1
 obtain ⟨q2, e2⟩ : ∃ q, q = rnumS q1.2 := ⟨_, rfl⟩
 rw [← e2] at c2 b2
 have c3 := number_b q2.2 (big_ofJ b2 (by omega))
 have b3 := rnumS_len b2
 obtain ⟨q3, e3⟩ : ∃ q, q = rnumS q2.2 := ⟨_, rfl⟩
 rw [← e3] at c3 b3
 have c4 := flag_b q3.2 (big_ofJ b3 (by omega))
 have b4 : ∀ l, (rflagS q3.2).2 = some l → l.length ≤ 100000 := rcountS_len' (m := 1) b3
 obtain ⟨q4, e4⟩ : ∃ q, q = rflagS q3.2 := ⟨_, rfl⟩
 rw [← e4] at c4 b4
 have c5 := text_b q4.2 (big_ofJ b4 (by omega))
 have b5 := (rtextS_lens b4).1
 obtain ⟨q5, e5⟩ : ∃ q, q = rtextS q4.2 := ⟨_, rfl⟩
 rw [← e5] at c5 b5
 have eT : pJC (s, false) = (⟨0, str q1.1, ⟨q2.1, q3.1⟩, q4.1, getR (cellsOf q5.1) 0, 0⟩, (q5.2, badOf q5.1)) := by
  rw [e5, e4, e3, e2, e1]
  simp only [pJC, sq, un, pText, pNum, pFlag, pDft, Bool.false_or]
 rw [eT]
 clear eT
 have c6 := parse_row q5.1 b5
 unfold rowParseA at c6
 have ed : (str q5.1).data.toList = q5.1 := by simp [str]
 have es : (str q5.1).size = q5.1.length := str_size _
 simp (maxSteps := 1000000) [hho, noHo, -List.reduceReplicate]
 refine call_x [0] (c1) rfl (rd_ho rfl) ⟨rfl, rfl⟩ hho (by simp) (by decide) ⟨by simp, rdP_ok _, trivial⟩ (by simp) ?_
 simp (maxSteps := 1000000) [hho, noHo, -List.reduceReplicate]
 refine call_x [0] (c2) rfl (rd_ho rfl) ⟨rfl, rfl⟩ hho (by simp) (by decide) ⟨by simp, rdP_ok _, trivial⟩ (by simp) ?_
 simp (maxSteps := 1000000) [hho, noHo, -List.reduceReplicate]
 refine call_x [0] (c3) rfl (rd_ho rfl) ⟨rfl, rfl⟩ hho (by simp) (by decide) ⟨by simp, rdP_ok _, trivial⟩ (by simp) ?_
 simp (maxSteps := 1000000) [hho, noHo, -List.reduceReplicate]
 refine call_x [0] (c4) rfl (rd_ho rfl) ⟨rfl, rfl⟩ hho (by simp) (by decide) ⟨by simp, rdP_ok _, trivial⟩ (by simp) ?_
 simp (maxSteps := 1000000) [hho, noHo, -List.reduceReplicate]
 refine call_x [0] (c5) rfl (rd_ho rfl) ⟨rfl, rfl⟩ hho (by simp) (by decide) ⟨by simp, rdP_ok _, trivial⟩ (by simp) ?_
 simp (maxSteps := 1000000) [hho, noHo, ed, es, -List.reduceReplicate]
 refine ⟨by omega, ?_⟩
 cases hp : parseS q5.1 with
 | none =>
  rw [hp] at c6
  have c7 := get_row [] (by simp) 0
  rw [cellsOf_noneJ hp, show badOf q5.1 = true by unfold badOf; rw [hp]]
  refine call_0 (c6) rfl rfl hho (by simp) ?_
  simp (maxSteps := 1000000) [hho, noHo, -List.reduceReplicate]
  refine callG_nilAt 0 5 rfl ?_
  refine call_0 (c7) rfl rfl hho (by simp) ?_
  simp (maxSteps := 1000000) [hho, noHo, valA, -List.reduceReplicate]
  refine draw_k hho (.take 0 (.take 1 (.take 2 (.take 3 (.take 4 (.take 5 (.take 6 (.take 7 (.take 8 (.take 9 (.take 10 (.take 11 (.take 12 (.take 13 (.take 14 (.take 15 (.take 16 (.take 17 (.take 18 (.alt 19 (.take 20 (.done)) (.nil))))))))))))))))))))) [2] [(19, [1])] (by decide +kernel) (by simp) ?_
  simp (maxSteps := 1000000) [hho, noHo, undef, onGP_none, condG_false, roOf, holdOf, wrOf, altK, heldOk, Region.binds, -List.reduceReplicate]
  intros
  refine Ret.sel [0] (fun _ => false) (ho := rd_ho rfl) (ha := by rfl) ?_ ?_ (by decide) (by simp) (fun i _ h => ?_) ⟨rfl, rfl⟩
  ·first | exact ⟨rdP_ok _, trivial⟩ | simp
  ·first | exact ⟨rdP_ok _, trivial⟩ | simp
  ·have e : i = 0 := of_decide_eq_true h
   subst e; rfl
 | some l =>
  rw [hp] at c6
  have hll := parse_lenJ hp (Nat.le_trans b5 (by omega : 100000 ≤ 1000000))
  have c7 := get_row l hll 0
  rw [cellsOf_someJ hp]
  have hbad := badOf_someJ hp
  rw [hbad]
  obtain ⟨v, hv⟩ : ∃ v, v = getR l 0 := ⟨_, rfl⟩
  rw [← hv] at c7 ⊢
  clear hv hbad
  rcases l with _ | ⟨a, _ | ⟨a2, l2⟩⟩
  ·refine call_0 (c6) rfl rfl hho (by simp) ?_
   simp (maxSteps := 1000000) [hho, noHo, cellsA, badLJ, -List.reduceReplicate]
   refine call_0 (c7) rfl rfl hho (by simp) ?_
   simp (maxSteps := 1000000) [hho, noHo, valA, -List.reduceReplicate]
   refine draw_k hho (.take 0 (.take 1 (.take 2 (.take 3 (.take 4 (.take 5 (.take 6 (.take 7 (.take 8 (.take 9 (.take 10 (.take 11 (.take 12 (.take 13 (.take 14 (.take 15 (.take 16 (.take 17 (.take 18 (.alt 19 (.take 20 (.done)) (.nil))))))))))))))))))))) [2] [(19, [1])] (by decide +kernel) (by simp) ?_
   simp (maxSteps := 1000000) [hho, noHo, undef, onGP_none, condG_false, cellsA, badLJ, roOf, holdOf, wrOf, altK, heldOk, Region.binds, -List.reduceReplicate]
   intros
   refine Ret.sel [0] (fun _ => false) (ho := rd_ho rfl) (ha := by rfl) ?_ ?_ (by decide) (by simp) (fun i _ h => ?_) ⟨rfl, rfl⟩
   ·first | exact ⟨rdP_ok _, trivial⟩ | simp
   ·first | exact ⟨rdP_ok _, trivial⟩ | simp
   ·have e : i = 0 := of_decide_eq_true h
    subst e; rfl
  ·by_cases hc0 : a.col = 0
   ·refine call_0 (c6) rfl rfl hho (by simp) ?_
    simp (maxSteps := 1000000) [hho, noHo, -List.reduceReplicate]
    refine call_0 (c7) rfl rfl hho (by simp) ?_
    simp (maxSteps := 1000000) [hho, noHo, valA, -List.reduceReplicate]
    refine draw_k hho (.take 0 (.take 1 (.take 2 (.take 3 (.take 4 (.take 5 (.take 6 (.take 7 (.take 8 (.take 9 (.take 10 (.take 11 (.take 12 (.take 13 (.take 14 (.take 15 (.take 16 (.take 17 (.take 18 (.alt 19 (.take 20 (.done)) (.nil))))))))))))))))))))) [2] [(19, [1])] (by decide +kernel) (by simp) ?_
    simp (maxSteps := 1000000) [hho, noHo, undef, onGP_none, condG_false, cellsA_one, cellA, hc0, badLJ, roOf, holdOf, wrOf, altK, heldOk, Region.binds, -List.reduceReplicate]
    intros
    refine Ret.sel [0] (fun _ => false) (ho := rd_ho rfl) (ha := by rfl) ?_ ?_ (by decide) (by simp) (fun i _ h => ?_) ⟨rfl, rfl⟩
    ·first | exact ⟨rdP_ok _, trivial⟩ | simp
    ·first | exact ⟨rdP_ok _, trivial⟩ | simp
    ·have e : i = 0 := of_decide_eq_true h
     subst e; rfl
   ·refine call_0 (c6) rfl rfl hho (by simp) ?_
    simp (maxSteps := 1000000) [hho, noHo, -List.reduceReplicate]
    refine call_0 (c7) rfl rfl hho (by simp) ?_
    simp (maxSteps := 1000000) [hho, noHo, valA, -List.reduceReplicate]
    refine draw_k hho (.take 0 (.take 1 (.take 2 (.take 3 (.take 4 (.take 5 (.take 6 (.take 7 (.take 8 (.take 9 (.take 10 (.take 11 (.take 12 (.take 13 (.take 14 (.take 15 (.take 16 (.take 17 (.take 18 (.alt 19 (.take 20 (.done)) (.nil))))))))))))))))))))) [2] [(19, [1])] (by decide +kernel) (by simp) ?_
    simp (maxSteps := 1000000) [hho, noHo, undef, onGP_none, condG_false, cellsA_one, cellA, hc0, badLJ, roOf, holdOf, wrOf, altK, heldOk, Region.binds, -List.reduceReplicate]
    intros
    refine Ret.sel [0] (fun _ => false) (ho := rd_ho rfl) (ha := by rfl) ?_ ?_ (by decide) (by simp) (fun i _ h => ?_) ⟨rfl, rfl⟩
    ·first | exact ⟨rdP_ok _, trivial⟩ | simp
    ·first | exact ⟨rdP_ok _, trivial⟩ | simp
    ·have e : i = 0 := of_decide_eq_true h
     subst e; rfl
  ·have hb2 : badLJ (a :: a2 :: l2) = true := rfl
   have hl4 : ¬ ((l2.length : Int) + 1 + 1 ≤ 1) := by omega
   rw [hb2]
   refine call_0 (c6) rfl rfl hho (by simp) ?_
   simp (maxSteps := 1000000) [hho, noHo, -List.reduceReplicate]
   refine call_0 (c7) rfl rfl hho (by simp) ?_
   simp (maxSteps := 1000000) [hho, noHo, valA, -List.reduceReplicate]
   refine draw_k hho (.take 0 (.take 1 (.take 2 (.take 3 (.take 4 (.take 5 (.take 6 (.take 7 (.take 8 (.take 9 (.take 10 (.take 11 (.take 12 (.take 13 (.take 14 (.take 15 (.take 16 (.take 17 (.take 18 (.alt 19 (.take 20 (.done)) (.nil))))))))))))))))))))) [2] [(19, [1])] (by decide +kernel) (by simp) ?_
   simp (maxSteps := 1000000) [hho, noHo, undef, onGP_none, condG_false, cellsA_cons, cellA, hl4, roOf, holdOf, wrOf, altK, heldOk, Region.binds, -List.reduceReplicate]
   intros
   refine Ret.sel [0] (fun _ => false) (ho := rd_ho rfl) (ha := by rfl) ?_ ?_ (by decide) (by simp) (fun i _ h => ?_) ⟨rfl, rfl⟩
   ·first | exact ⟨rdP_ok _, trivial⟩ | simp
   ·first | exact ⟨rdP_ok _, trivial⟩ | simp
   ·have e : i = 0 := of_decide_eq_true h
    subst e; rfl

theorem Kt.goK {σ α R : Type} {S : Sys σ} {t : σ} {g : Bs → Option (α × Bs)} {k : List α → Bs → Option R} {n : Int} {acc : List α} {tot : Option R} (h : Kt S t (kL g k n acc) tot) (hn : 0 < n) : Kt S t (bd g fun x => kL g k (n - 1) (acc ++ [x])) tot := by
 rw [kL_go g k n hn] at h; exact h
theorem Kt.endK {σ α R : Type} {S : Sys σ} {t : σ} {g : Bs → Option (α × Bs)} {k : List α → Bs → Option R} {acc : List α} {tot : Option R} (h : Kt S t (kL g k 0 acc) tot) : Kt S t (k acc) tot := by
 rw [kL_end] at h; exact h
theorem Kt.deadP {m : Nat} {R : Type} {t : PSt} {k : Bs → Option R} {tot : Option R} (h : Kt (pSys m) t k tot) (hd : t.1 = none ∨ t.2 = true) : tot = none := by
 rcases h.2 with ⟨_, h2⟩ | ⟨b, rfl, _⟩
 ·exact h2
 ·rcases hd with h | h <;> cases h
theorem Kt.liveP {m : Nat} {R : Type} {b : Bs} {k : Bs → Option R} {tot : Option R} (h : Kt (pSys m) (some b, false) k tot) : tot = k b := by
 rcases h.2 with ⟨h1, _⟩ | ⟨c, e, h2⟩
 ·rcases h1 with h1 | h1 <;> cases h1
 ·have e := congrArg Prod.fst e
  have e : some b = some c := e
  injection e with e
  rw [e]; exact h2
theorem sN_kL {α R : Type} (g : Bs → Option (α × Bs)) (K : List α → Bs → Option R) (n : Int) (hn : 0 ≤ n) : bd (sN g n.toNat) K = kL g K n [] := by
 funext b
 have h : ¬ n < 0 := by omega
 simp only [kL, if_neg h, List.nil_append]
def nilJ : AV := .c (.slice none 0 0)
def jbX (id kind table : Int) (name : ByteArray) (a : AV) (iname : ByteArray) (b : AV) (u : Bool) (item other : Int) (mark : ByteArray) (full fence back : Bool) (err : Int) (fin : Bool) : List AV := [.c (.int .i64 id), .c (.int .i64 kind), .c (.int .i64 table), .c (.string name), a, .c (.int .i64 0), .c (.string iname), b, .c (.bool u), .c (.int .i64 0), .c (.int .i64 item), .c (.int .i64 other), .c (.string mark), .c (.bool full), .c (.bool fence), .c (.bool back), .c (.int .i64 err), .c (.bool fin)]
def jb0 (id kind table : Int) (name : ByteArray) (a : AV) (iname : ByteArray) (b : AV) : List AV := jbX id kind table name a iname b false 0 0 ByteArray.empty false false false 0 false
def jobZc : List AV := jb0 0 0 0 ByteArray.empty nilJ ByteArray.empty nilJ
def jobZ : JobS := ⟨0, 0, 0, ByteArray.empty, [], ⟨0, ByteArray.empty, [], false, 0⟩, 0, 0, ByteArray.empty, false, false, false, 0, false⟩
theorem jobZ_nil : NilL jobZc (jobA jobZ) := .same _ (.same _ (.same _ (.same _ (.slice 10 (.same _ (.same _ (.slice 1 (.same _ (.same _ (.same _ (.same _ (.same _ (.same _ (.same _ (.same _ (.same _ (.same _ .nil)))))))))))))))))
def jobParseA (b : Bs) : AV := match parJob b with
 | some j => .tup [.agg (jobA j), .c (.bool true)]
 | none => .tup [.agg (jobA jobZ), .c (.bool false)]
theorem Ret.nilJ {st : Nat → Bool} {h : List AObj} {l l' : List AV} {u : AV} {Post : AV → List AObj → Prop} (hn : NilL l l') (hr : Ret st Post h (.tup [.agg l', u])) : Ret st Post h (.tup [.agg l, u]) := by
 refine Ret.wk (fun E hE => ?_) hr
 refine wk_slot 0 (old := .tup [.agg l, u]) rfl fun G F w v _ hv => ?_
 obtain ⟨cs, rfl, h1, h2⟩ := tup_inv hv
 refine .tup _ cs h1 fun j u' x hu hx => ?_
 match j, hu with
 | 0, hu => simp at hu; subst hu; exact nil_agg hn (h2 0 _ x rfl hx)
 | 1, hu => simp at hu; subst hu; exact h2 1 _ x rfl hx
@[simp] theorem rdCells_livJ (l : List Nat) (s : Option Bs) : AV.livL l (rdCells s) = true := by cases s <;> simp [rdCells, AV.livL, AV.liv]
set_option maxHeartbeats 32000000 in
theorem jbParse_w (b : Bs) (hb : b.length ≤ 100000) : ACalls Tryz.prog 61 [.fs 1 b.length (u8av b)] [] (fun _ => false) (fun r h' => r = jobParseA b ∧ h' = []) := by
 refine acalls mixed Tryz.func61 rfl Tryz.ntmps61 rfl fun E hE hst hho => ?_
 unfold jobParseA
 obtain ⟨tot, htot⟩ : ∃ tot, tot = parJob b := ⟨_, rfl⟩
 rw [← htot]
 have k0 : Kt (pSys 100000) (some b, false) parJob tot := ⟨fun l e => (by injection e with e; subst e; exact hb), .inr ⟨b, rfl, htot⟩⟩
 clear htot
 have c0 := read_b b (by omega)
 obtain ⟨s0, hs0⟩ : ∃ s, s = some b := ⟨_, rfl⟩
 rw [← hs0] at k0 c0
 clear hs0
 unfold parJob at k0
 have c1 := number_b s0 (big_ofJ (show ∀ l, s0 = some l → l.length ≤ 100000 from k0.1) (by omega))
 obtain ⟨k1, o1⟩ := Kt.step (pNum_sim 100000) k0
 simp only [pNum] at k1 o1
 obtain ⟨q1, e1⟩ : ∃ q, q = rnumS s0 := ⟨_, rfl⟩
 rw [← e1] at c1 k1 o1
 obtain ⟨id, s1⟩ := q1
 simp only at c1 k1 o1
 clear e1
 have c2 := number_b s1 (big_ofJ (show ∀ l, s1 = some l → l.length ≤ 100000 from k1.1) (by omega))
 obtain ⟨k2, o2⟩ := Kt.step (pNum_sim 100000) k1
 simp only [pNum] at k2 o2
 obtain ⟨q2, e2⟩ : ∃ q, q = rnumS s1 := ⟨_, rfl⟩
 rw [← e2] at c2 k2 o2
 obtain ⟨kind, s2⟩ := q2
 simp only at c2 k2 o2
 clear e2
 have c3 := number_b s2 (big_ofJ (show ∀ l, s2 = some l → l.length ≤ 100000 from k2.1) (by omega))
 obtain ⟨k3, o3⟩ := Kt.step (pNum_sim 100000) k2
 simp only [pNum] at k3 o3
 obtain ⟨q3, e3⟩ : ∃ q, q = rnumS s2 := ⟨_, rfl⟩
 rw [← e3] at c3 k3 o3
 obtain ⟨table, s3⟩ := q3
 simp only at c3 k3 o3
 clear e3
 have c4 := text_b s3 (big_ofJ (show ∀ l, s3 = some l → l.length ≤ 100000 from k3.1) (by omega))
 obtain ⟨k4, o4⟩ := Kt.step (pText_sim 100000) k3
 simp only [pText] at k4 o4
 obtain ⟨q4, e4⟩ : ∃ q, q = rtextS s3 := ⟨_, rfl⟩
 rw [← e4] at c4 k4 o4
 obtain ⟨name, s4⟩ := q4
 simp only at c4 k4 o4
 clear e4
 simp only [sMany, bd_assoc] at k4
 have c5 := count_b s4 (big_ofJ (show ∀ l, s4 = some l → l.length ≤ 100000 from k4.1) (by omega)) 12
 obtain ⟨k5, o5⟩ := Kt.step (pCnt_sim 100000 12 (by omega)) k4
 simp only [pCnt] at k5 o5
 obtain ⟨q5, e5⟩ : ∃ q, q = rcountS s4 12 := ⟨_, rfl⟩
 rw [← e5] at c5 k5 o5
 obtain ⟨ni, s5⟩ := q5
 simp only at c5 k5 o5
 clear e5
 rw [sN_kL _ _ _ o5.1] at k5
 obtain ⟨n, rfl⟩ : ∃ n : Nat, ni = n := ⟨ni.toNat, by omega⟩
 simp (maxSteps := 1000000) [hho, noHo, -List.reduceReplicate]
 refine call_0 (c0) rfl rfl hho (by simp) ?_
 simp (maxSteps := 1000000) [hho, noHo, -List.reduceReplicate]
 refine call_x [1] (c1) rfl (rd_ho rfl) ⟨rfl, rfl⟩ hho (by simp) (by decide) ⟨by simp, rdP_ok _, trivial⟩ (by simp) ?_
 simp (maxSteps := 1000000) [hho, noHo, -List.reduceReplicate]
 refine call_x [1] (c2) rfl (rd_ho rfl) ⟨rfl, rfl⟩ hho (by simp) (by decide) ⟨by simp, rdP_ok _, trivial⟩ (by simp) ?_
 simp (maxSteps := 1000000) [hho, noHo, -List.reduceReplicate]
 refine call_x [1] (c3) rfl (rd_ho rfl) ⟨rfl, rfl⟩ hho (by simp) (by decide) ⟨by simp, rdP_ok _, trivial⟩ (by simp) ?_
 simp (maxSteps := 1000000) [hho, noHo, -List.reduceReplicate]
 refine call_x [1] (c4) rfl (rd_ho rfl) ⟨rfl, rfl⟩ hho (by simp) (by decide) ⟨by simp, rdP_ok _, trivial⟩ (by simp) ?_
 simp (maxSteps := 1000000) [hho, noHo, -List.reduceReplicate]
 refine call_x [1] (c5) rfl (rd_ho rfl) ⟨rfl, rfl⟩ hho (by simp) (by decide) ⟨by simp, rdP_ok _, trivial⟩ (by simp) ?_
 simp (maxSteps := 1000000) [hho, noHo, -List.reduceReplicate]
 refine loop_k mixed (fun y : Nat × List ColS × Option Bs => ⟨slotsOf 94 [(2, .ptr 0 0 18), (4, .ptr 1 0 2), (5, .ptr 2 0 18), (20, .c (.int .i64 n)), (21, .c (.int .i64 (y.1 : Nat)))], [.o .box jobZc, .o .box (rdCells y.2.2), .o .box (jb0 id kind table (str name) (.sl 3 10 0 y.1 (y.1 * 10)) ByteArray.empty nilJ), .o (.row 44 10) (colsA y.2.1)]⟩) (fun y => n - y.1) (fun y => y.1 ≤ n ∧ y.2.1.length = y.1 ∧ Kt (pSys 100000) (y.2.2, false) (kL sJC (fun cols => sJob2 id kind table (str name) cols) ((n : Int) - y.1) y.2.1) tot ∧ ∀ c ∈ y.2.1, ColM 100000 c) (0, [], s5) ⟨Nat.zero_le _, rfl, by simpa using k5, fun c h => (by cases h)⟩ ?_ ?_
 ·refine Wk.trans (wk_virtC 2 4 44 10 rfl rfl) ?_
  exact wk_eq (by simp [hE, lens]) (by simp [jobZc, jb0, jbX, nilJ, colsA]) (by simp [livH, livO, AV.livL, AV.liv, wkL, wkV, List.range', slotsOf])
 rintro ⟨i, cols, s⟩ ⟨hi, hl, hk, hc⟩
 simp only at hi hl hk hc
 by_cases hin : i < n
 ·have ew : IntKind.i64.wrap ((i : Int) + 1) = (i + 1 : Nat) := by rw [IntWalk.i64_in _ (by omega)]; rfl
  have hin' : (i : Int) < n := by omega
  have k6 := hk.goK (by omega)
  have c6 := jbun_w s (show ∀ l, s = some l → l.length ≤ 100000 from k6.1)
  obtain ⟨k7, o7⟩ := Kt.step (pJC_sim 100000) k6
  obtain ⟨q, e⟩ : ∃ q, q = pJC (s, false) := ⟨_, rfl⟩
  rw [← e] at c6 k7 o7
  obtain ⟨v, s', x⟩ := q
  simp only at c6 k7 o7
  clear e
  cases x with
  | true =>
   rw [k7.deadP (.inr rfl)]
   simp (maxSteps := 1000000) [hho, noHo, slotsOf, jobZc, jb0, jbX, nilJ, hin, hin', undef, onGP_none, condG_false, -List.reduceReplicate]
   refine call_x [1] (c6) rfl (rd_ho rfl) ⟨rfl, rfl⟩ hho (by simp) (by decide) ⟨by simp, rdP_ok _, trivial⟩ (by simp) ?_
   simp (maxSteps := 1000000) [hho, noHo, colA, undef, onGP_none, condG_false, -List.reduceReplicate]
   exact Ret.nilJ jobZ_nil (Ret.sel [] (fun _ => false) (ho := by rfl) (ha := by rfl) (by simp) (by simp [jobA, jobZ]) (by decide) (by simp) (fun i _ h => by cases h) ⟨rfl, rfl⟩)
  | false =>
  have hsn := colsA_snoc cols v
  have enk : (n : Int) - i - 1 = n - (i + 1 : Nat) := by omega
  rw [enk] at k7
  simp (maxSteps := 1000000) [hho, noHo, slotsOf, jobZc, jb0, jbX, nilJ, hin, hin', undef, onGP_none, condG_false, -List.reduceReplicate]
  refine call_x [1] (c6) rfl (rd_ho rfl) ⟨rfl, rfl⟩ hho (by simp) (by decide) ⟨by simp, rdP_ok _, trivial⟩ (by simp) ?_
  simp (maxSteps := 1000000) [hho, noHo, colA, ew, hl, undef, onGP_none, condG_false, -List.reduceReplicate]
  refine ⟨by omega, round_next (i + 1, cols ++ [v], s') ⟨by simp only; omega, by simp [hl], k7, fun y hy => (List.mem_append.1 hy).elim (hc y) fun h => by rw [List.mem_singleton.1 h]; exact o7⟩ (by simp only; omega) ?_⟩
  exact wk_of 4 2 (by simp) (by simp [hE, lens]) (by simp [jobZc, jb0, jbX, nilJ, hsn, colA, Nat.add_mul]) (by simp [livH, livO, AV.livL, AV.liv, wkL, wkV, List.range', jobZc, jb0, jbX, nilJ]) (by simp [livH, livO, AV.livL, AV.liv, wkL, wkV, List.range', slotsOf, Nat.add_mul])
 obtain rfl : i = n := by omega
 rw [Int.sub_self] at hk
 have k8 := hk.endK
 clear k0 k1 k2 k3 k4 k5 hk
 simp only [sJob2] at k8
 have c9 := text_b s (big_ofJ (show ∀ l, s = some l → l.length ≤ 100000 from k8.1) (by omega))
 obtain ⟨k9, o9⟩ := Kt.step (pText_sim 100000) k8
 simp only [pText] at k9 o9
 obtain ⟨q9, e9⟩ : ∃ q, q = rtextS s := ⟨_, rfl⟩
 rw [← e9] at c9 k9 o9
 obtain ⟨iname, s9⟩ := q9
 simp only at c9 k9 o9
 clear e9
 simp only [sMany, bd_assoc] at k9
 have c10 := count_b s9 (big_ofJ (show ∀ l, s9 = some l → l.length ≤ 100000 from k9.1) (by omega)) 4
 obtain ⟨k10, o10⟩ := Kt.step (pCnt_sim 100000 4 (by omega)) k9
 simp only [pCnt] at k10 o10
 obtain ⟨q10, e10⟩ : ∃ q, q = rcountS s9 4 := ⟨_, rfl⟩
 rw [← e10] at c10 k10 o10
 obtain ⟨mi, s10⟩ := q10
 simp only at c10 k10 o10
 clear e10
 rw [sN_kL _ _ _ o10.1] at k10
 obtain ⟨m, rfl⟩ : ∃ m : Nat, mi = m := ⟨mi.toNat, by omega⟩
 simp (maxSteps := 1000000) [hho, noHo, slotsOf, jobZc, jb0, jbX, nilJ, -List.reduceReplicate]
 refine call_x [1] (c9) rfl (rd_ho rfl) ⟨rfl, rfl⟩ hho (by simp) (by decide) ⟨by simp, rdP_ok _, trivial⟩ (by simp) ?_
 simp (maxSteps := 1000000) [hho, noHo, -List.reduceReplicate]
 refine call_x [1] (c10) rfl (rd_ho rfl) ⟨rfl, rfl⟩ hho (by simp) (by decide) ⟨by simp, rdP_ok _, trivial⟩ (by simp) ?_
 simp (maxSteps := 1000000) [hho, noHo, -List.reduceReplicate]
 refine loop_k mixed (fun y : Nat × List Int × Option Bs => ⟨slotsOf 94 [(2, .ptr 0 0 18), (4, .ptr 1 0 2), (5, .ptr 2 0 18), (43, .c (.int .i64 m)), (44, .c (.int .i64 (y.1 : Nat)))], [.o .box jobZc, .o .box (rdCells y.2.2), .o .box (jb0 id kind table (str name) (.sl 3 10 0 i (i * 10)) (str iname) (.sl 4 1 0 y.1 y.1)), .o (.row 44 10) (colsA cols), .o (.row 3 1) (intsA y.2.1)]⟩) (fun y => m - y.1) (fun y => y.1 ≤ m ∧ y.2.1.length = y.1 ∧ Kt (pSys 100000) (y.2.2, false) (kL sNum (fun icols => sJob3 id kind table (str name) cols (str iname) icols) ((m : Int) - y.1) y.2.1) tot) (0, [], s10) ⟨Nat.zero_le _, rfl, by simpa using k10⟩ ?_ ?_
 ·refine Wk.trans (wk_virtC 2 7 3 1 rfl rfl) ?_
  exact wk_eq (by simp [hE, lens]) (by simp [jobZc, jb0, jbX, nilJ, intsA]) (by simp [livH, livO, AV.livL, AV.liv, wkL, wkV, List.range', slotsOf])
 rintro ⟨p, ks, s⟩ ⟨hp, hpl, hpk⟩
 simp only at hp hpl hpk
 by_cases hpm : p < m
 ·have ew : IntKind.i64.wrap ((p : Int) + 1) = (p + 1 : Nat) := by rw [IntWalk.i64_in _ (by omega)]; rfl
  have hpm' : (p : Int) < m := by omega
  have k11 := hpk.goK (by omega)
  have c12 := number_b s (big_ofJ (show ∀ l, s = some l → l.length ≤ 100000 from k11.1) (by omega))
  obtain ⟨k12, o12⟩ := Kt.step (pNum_sim 100000) k11
  simp only [pNum] at k12 o12
  obtain ⟨q12, e12⟩ : ∃ q, q = rnumS s := ⟨_, rfl⟩
  rw [← e12] at c12 k12 o12
  obtain ⟨z, s12⟩ := q12
  simp only at c12 k12 o12
  clear e12
  have hsn : intsA (ks ++ [z]) = intsA ks ++ [.c (.int .i64 z)] := by simp [intsA]
  have enk : (m : Int) - p - 1 = m - (p + 1 : Nat) := by omega
  rw [enk] at k12
  simp (maxSteps := 1000000) [hho, noHo, slotsOf, jobZc, jb0, jbX, nilJ, hpm, hpm', undef, onGP_none, condG_false, -List.reduceReplicate]
  refine draw_k hho (.take 0 (.take 1 (.take 2 (.take 3 (.alt 4 (.alt 5 (.alt 6 (.take 7 (.take 8 (.alt 9 (.done) (.nil)))) (.nil)) (.nil)) (.nil)))))) [2] [(4, [1]), (6, [4]), (9, [2])] (by decide +kernel) (by simp) ?_
  simp (maxSteps := 1000000) [hho, noHo, roOf, holdOf, wrOf, altK, heldOk, Region.binds, -List.reduceReplicate]
  intros
  refine call_h [1] (c12) rfl (rd_ho rfl) ⟨rfl, rfl⟩ (by simp) (by simp) (by decide) ⟨by simp, rdP_ok _, trivial⟩ (by simp) ?_
  simp (maxSteps := 1000000) [hho, noHo, hpl, ew, roOf, holdOf, wrOf, altK, heldOk, Region.binds, -List.reduceReplicate]
  repeat' (first | apply And.intro | with_reducible intro _)
  all_goals try omega
  all_goals
   refine round_next (p + 1, ks ++ [z], s12) ⟨by simp only; omega, by simp [hpl], k12⟩ (by simp only; omega) ?_
   exact wk_of 5 1 (by simp) (by simp [hE, lens]) (by simp [jobZc, jb0, jbX, nilJ, hsn]) (by simp [livH, livO, AV.livL, AV.liv, wkL, wkV, List.range', jobZc, jb0, jbX, nilJ]) (by simp [livH, livO, AV.livL, AV.liv, wkL, wkV, List.range', slotsOf])
 obtain rfl : p = m := by omega
 rw [Int.sub_self] at hpk
 have k13 := hpk.endK
 clear k8 k9 k10 hpk
 simp only [sJob3] at k13
 have c14 := flag_b s (big_ofJ (show ∀ l, s = some l → l.length ≤ 100000 from k13.1) (by omega))
 obtain ⟨k14, o14⟩ := Kt.step (pFlag_sim 100000) k13
 simp only [pFlag] at k14 o14
 obtain ⟨q14, e14⟩ : ∃ q, q = rflagS s := ⟨_, rfl⟩
 rw [← e14] at c14 k14
 obtain ⟨u, s14⟩ := q14
 simp only at c14 k14
 clear e14
 have c15 := number_b s14 (big_ofJ (show ∀ l, s14 = some l → l.length ≤ 100000 from k14.1) (by omega))
 obtain ⟨k15, o15⟩ := Kt.step (pNum_sim 100000) k14
 simp only [pNum] at k15 o15
 obtain ⟨q15, e15⟩ : ∃ q, q = rnumS s14 := ⟨_, rfl⟩
 rw [← e15] at c15 k15 o15
 obtain ⟨item, s15⟩ := q15
 simp only at c15 k15 o15
 clear e15
 have c16 := number_b s15 (big_ofJ (show ∀ l, s15 = some l → l.length ≤ 100000 from k15.1) (by omega))
 obtain ⟨k16, o16⟩ := Kt.step (pNum_sim 100000) k15
 simp only [pNum] at k16 o16
 obtain ⟨q16, e16⟩ : ∃ q, q = rnumS s15 := ⟨_, rfl⟩
 rw [← e16] at c16 k16 o16
 obtain ⟨other, s16⟩ := q16
 simp only at c16 k16 o16
 clear e16
 have c17 := text_b s16 (big_ofJ (show ∀ l, s16 = some l → l.length ≤ 100000 from k16.1) (by omega))
 obtain ⟨k17, o17⟩ := Kt.step (pText_sim 100000) k16
 simp only [pText] at k17 o17
 obtain ⟨q17, e17⟩ : ∃ q, q = rtextS s16 := ⟨_, rfl⟩
 rw [← e17] at c17 k17 o17
 obtain ⟨mark, s17⟩ := q17
 simp only at c17 k17 o17
 clear e17
 have c18 := flag_b s17 (big_ofJ (show ∀ l, s17 = some l → l.length ≤ 100000 from k17.1) (by omega))
 obtain ⟨k18, o18⟩ := Kt.step (pFlag_sim 100000) k17
 simp only [pFlag] at k18 o18
 obtain ⟨q18, e18⟩ : ∃ q, q = rflagS s17 := ⟨_, rfl⟩
 rw [← e18] at c18 k18
 obtain ⟨full, s18⟩ := q18
 simp only at c18 k18
 clear e18
 have c19 := flag_b s18 (big_ofJ (show ∀ l, s18 = some l → l.length ≤ 100000 from k18.1) (by omega))
 obtain ⟨k19, o19⟩ := Kt.step (pFlag_sim 100000) k18
 simp only [pFlag] at k19 o19
 obtain ⟨q19, e19⟩ : ∃ q, q = rflagS s18 := ⟨_, rfl⟩
 rw [← e19] at c19 k19
 obtain ⟨fence, s19⟩ := q19
 simp only at c19 k19
 clear e19
 have c20 := flag_b s19 (big_ofJ (show ∀ l, s19 = some l → l.length ≤ 100000 from k19.1) (by omega))
 obtain ⟨k20, o20⟩ := Kt.step (pFlag_sim 100000) k19
 simp only [pFlag] at k20 o20
 obtain ⟨q20, e20⟩ : ∃ q, q = rflagS s19 := ⟨_, rfl⟩
 rw [← e20] at c20 k20
 obtain ⟨back, s20⟩ := q20
 simp only at c20 k20
 clear e20
 have c21 := number_b s20 (big_ofJ (show ∀ l, s20 = some l → l.length ≤ 100000 from k20.1) (by omega))
 obtain ⟨k21, o21⟩ := Kt.step (pNum_sim 100000) k20
 simp only [pNum] at k21 o21
 obtain ⟨q21, e21⟩ : ∃ q, q = rnumS s20 := ⟨_, rfl⟩
 rw [← e21] at c21 k21 o21
 obtain ⟨err, s21⟩ := q21
 simp only at c21 k21 o21
 clear e21
 have c22 := flag_b s21 (big_ofJ (show ∀ l, s21 = some l → l.length ≤ 100000 from k21.1) (by omega))
 obtain ⟨k22, o22⟩ := Kt.step (pFlag_sim 100000) k21
 simp only [pFlag] at k22 o22
 obtain ⟨q22, e22⟩ : ∃ q, q = rflagS s21 := ⟨_, rfl⟩
 rw [← e22] at c22 k22
 obtain ⟨fin, s22⟩ := q22
 simp only at c22 k22
 clear e22
 have c23 := end_b s22
 obtain ⟨J, hJ⟩ : ∃ J : JobS, J = ⟨id, kind, table, str name, cols, ⟨0, str iname, ks, u, 0⟩, item, other, str mark, full, fence, back, err, fin⟩ := ⟨_, rfl⟩
 have hJA : jobA J = jbX id kind table (str name) (.fs 10 cols.length (colsA cols)) (str iname) (.fs 1 ks.length (intsA ks)) u item other (str mark) full fence back err fin := by rw [hJ]; rfl
 rw [← hJ] at k22
 have hJb : JobBig J := by
  rw [hJ]
  exact ⟨by simp only at o9 ⊢; omega, by simp only; omega, by simp only; omega, by simp only at o17 ⊢; omega, fun c h => by have := hc c h; exact ⟨by have := this.1; omega, by have := this.2; omega⟩⟩
 have cR := jbRight_w J hJb
 have hLl : (colsA cols).length = i * 10 := by rw [colsA_length, hl]
 have htk : List.take (i * 10) (colsA cols) = colsA cols := List.take_of_length_le (by omega)
 have hLi : (intsA ks).length = p := by rw [intsA_length, hpl]
 have hti : List.take (p * 1) (intsA ks) = intsA ks := List.take_of_length_le (by omega)
 have eC : AV.fs 10 cols.length (colsA cols) = .fs 10 i (List.take (i * 10) (List.drop 0 (colsA cols))) := by rw [List.drop_zero, htk, hl]
 have eI : AV.fs 1 ks.length (intsA ks) = .fs 1 p (List.take (p * 1) (List.drop 0 (intsA ks))) := by rw [List.drop_zero, hti, hpl]
 rw [hJA, eC, eI] at cR
 simp only [jbX] at cR
 simp (maxSteps := 1000000) [hho, noHo, slotsOf, jobZc, jb0, jbX, nilJ, -List.reduceReplicate]
 refine call_x [1] (c14) rfl (rd_ho rfl) ⟨rfl, rfl⟩ hho (by simp) (by decide) ⟨by simp, rdP_ok _, trivial⟩ (by simp) ?_
 simp (maxSteps := 1000000) [hho, noHo, -List.reduceReplicate]
 refine call_x [1] (c15) rfl (rd_ho rfl) ⟨rfl, rfl⟩ hho (by simp) (by decide) ⟨by simp, rdP_ok _, trivial⟩ (by simp) ?_
 simp (maxSteps := 1000000) [hho, noHo, -List.reduceReplicate]
 refine call_x [1] (c16) rfl (rd_ho rfl) ⟨rfl, rfl⟩ hho (by simp) (by decide) ⟨by simp, rdP_ok _, trivial⟩ (by simp) ?_
 simp (maxSteps := 1000000) [hho, noHo, -List.reduceReplicate]
 refine call_x [1] (c17) rfl (rd_ho rfl) ⟨rfl, rfl⟩ hho (by simp) (by decide) ⟨by simp, rdP_ok _, trivial⟩ (by simp) ?_
 simp (maxSteps := 1000000) [hho, noHo, -List.reduceReplicate]
 refine call_x [1] (c18) rfl (rd_ho rfl) ⟨rfl, rfl⟩ hho (by simp) (by decide) ⟨by simp, rdP_ok _, trivial⟩ (by simp) ?_
 simp (maxSteps := 1000000) [hho, noHo, -List.reduceReplicate]
 refine call_x [1] (c19) rfl (rd_ho rfl) ⟨rfl, rfl⟩ hho (by simp) (by decide) ⟨by simp, rdP_ok _, trivial⟩ (by simp) ?_
 simp (maxSteps := 1000000) [hho, noHo, -List.reduceReplicate]
 refine call_x [1] (c20) rfl (rd_ho rfl) ⟨rfl, rfl⟩ hho (by simp) (by decide) ⟨by simp, rdP_ok _, trivial⟩ (by simp) ?_
 simp (maxSteps := 1000000) [hho, noHo, -List.reduceReplicate]
 refine call_x [1] (c21) rfl (rd_ho rfl) ⟨rfl, rfl⟩ hho (by simp) (by decide) ⟨by simp, rdP_ok _, trivial⟩ (by simp) ?_
 simp (maxSteps := 1000000) [hho, noHo, -List.reduceReplicate]
 refine call_x [1] (c22) rfl (rd_ho rfl) ⟨rfl, rfl⟩ hho (by simp) (by decide) ⟨by simp, rdP_ok _, trivial⟩ (by simp) ?_
 simp (maxSteps := 1000000) [hho, noHo, -List.reduceReplicate]
 refine call_x [1] (c23) rfl (rd_ho rfl) ⟨rfl, rfl⟩ hho (by simp) (by decide) ⟨by simp, rdP_ok _, trivial⟩ (by simp) ?_
 by_cases h3 : s22 = some []
 case neg =>
  have hN : tot = none := by
   cases h4 : s22 with
   | none => exact k22.deadP (.inl h4)
   | some d =>
    rw [h4] at k22 h3
    rw [k22.liveP]
    exact if_neg fun h => h3 (by rw [h.1])
  rw [hN]
  simp (maxSteps := 1000000) [hho, noHo, h3, undef, onGP_none, condG_false, -List.reduceReplicate]
  exact Ret.nilJ jobZ_nil (Ret.sel [] (fun _ => false) (ho := by rfl) (ha := by rfl) (by simp) (by simp [jobA, jobZ]) (by decide) (by simp) (fun i _ h => by cases h) ⟨rfl, rfl⟩)
 simp (maxSteps := 1000000) [hho, noHo, h3, undef, onGP_none, condG_false, -List.reduceReplicate]
 refine call_plain (fun k => k == 3 || k == 4) cR (ha := by rfl) ?_ ?_
 ·exact ⟨⟨trivial, trivial, trivial, trivial, ⟨hLl, by omega, by unfold maxLen; omega, by rw [List.drop_zero, htk]; exact List.all_eq_true.2 ((colsA_all cols).2 trivial)⟩, trivial, trivial, ⟨hLi, by omega, by unfold maxLen; omega, by rw [List.drop_zero, hti]; exact List.all_eq_true.2 ((intsA_all ks).2 trivial)⟩, trivial, trivial, trivial, trivial, trivial, trivial, trivial, trivial, trivial, trivial, trivial⟩, trivial⟩
 rintro r h' ⟨rfl, rfl⟩
 refine ⟨rfl, ?_⟩
 subst h3
 have hL := k22.liveP
 cases hok : jobOk J with
 | false =>
  have hN : tot = none := by rw [hL]; exact if_neg fun h => by rw [hok] at h; cases h.2
  rw [hN]
  simp (maxSteps := 1000000) [hho, noHo, undef, onGP_none, condG_false, -List.reduceReplicate]
  exact Ret.nilJ jobZ_nil (Ret.sel [] (fun _ => false) (ho := by rfl) (ha := by rfl) (by simp) (by simp [jobA, jobZ]) (by decide) (by simp) (fun i _ h => by cases h) ⟨rfl, rfl⟩)
 | true =>
  have hG : tot = some J := by rw [hL]; exact if_pos ⟨rfl, hok⟩
  rw [hG]
  simp (maxSteps := 1000000) [hho, noHo, undef, onGP_none, condG_false, -List.reduceReplicate]
  refine Ret.sel [] (fun k => k == 3 || k == 4) (ho := by rfl) (ha := by rfl) ?_ ?_ (by decide) (by simp) (fun i _ h => by cases h) ⟨?_, rfl⟩
  ·simp
  ·exact ⟨⟨trivial, trivial, trivial, trivial, ⟨hLl, by omega, by unfold maxLen; omega, by rw [List.drop_zero, htk]; exact List.all_eq_true.2 ((colsA_all cols).2 trivial)⟩, trivial, trivial, ⟨hLi, by omega, by unfold maxLen; omega, by rw [List.drop_zero, hti]; exact List.all_eq_true.2 ((intsA_all ks).2 trivial)⟩, trivial, trivial, trivial, trivial, trivial, trivial, trivial, trivial, trivial, trivial, trivial⟩, trivial, trivial⟩
  ·rw [hJA, eC, eI]; rfl

def c6S : ColS := ⟨1, ⟨#[97]⟩, ⟨2, 0⟩, false, vZ, 3⟩
def x6S : IdxS := ⟨2, ⟨#[105]⟩, [1], false, 2⟩
def t6S : TabS := ⟨0, ⟨#[116]⟩, [c6S], [x6S]⟩
def s6S : SchS := ⟨0, 3, [t6S]⟩
def y6S : IdxS := ⟨0, ⟨#[105]⟩, [1], false, 0⟩
def j6S : JobS := ⟨0, 0, 0, ByteArray.empty, [], y6S, 2, -1, ByteArray.empty, false, false, false, 0, false⟩
def k6S : JobS := ⟨0, 0, 0, ByteArray.empty, [], y6S, 2, -1, ByteArray.empty, true, false, false, 0, false⟩
def m6S : MvS := ⟨0, true, 2, 3⟩
theorem n6a : jNext j6S s6S = ⟨1, [], false⟩ := by kernel_rfl
theorem n6b : jNext k6S s6S = ⟨0, [m6S], true⟩ := by kernel_rfl
theorem k6S_ok : jobOk k6S = true := by decide +kernel
theorem k6S_Ok : k6S.Ok := ⟨⟨by decide, by decide⟩, ⟨by decide, by decide⟩, ⟨by decide, by decide⟩, by decide, fun c hc => (by cases hc), ⟨⟨by decide, by decide⟩, by decide, fun k hk => by rw [List.mem_singleton.1 hk]; exact ⟨by decide, by decide⟩, ⟨by decide, by decide⟩⟩, ⟨by decide, by decide⟩, ⟨by decide, by decide⟩, by decide, ⟨by decide, by decide⟩⟩
theorem k6S_big : JobBig k6S := ⟨by decide, by decide, by decide, by decide, fun c hc => (by cases hc)⟩
set_option maxHeartbeats 16000000 in
theorem first16_w : ACalls Tryz.prog 26 [] [] (fun _ => false) (fun r h' => r = .c (.bool true) ∧ h' = []) := by
 refine acallsC [3] mixed Tryz.func26 rfl Tryz.ntmps26 rfl fun E hE hst hho => ?_
 simp (maxSteps := 1000000) [hho, noHo, -List.reduceReplicate]
 refine seq_cut mixed [] (fun _ : Unit => ⟨slotsOf 80 [(1, .ptr 4 0 3), (2, .ptr 6 0 18)], [.o .fz (colsA [c6S]), .o .fz (intsA [1]), .o .fz (idxsA [x6S]), .o .fz (tabsA [t6S]), .o .box (schA s6S), .o .fz (intsA [1]), .o .box (jobA j6S)]⟩) (fun _ => True) ?_ ?_
 case refine_2 =>
  simp (maxSteps := 1000000) [hho, noHo, -List.reduceReplicate]
  refine cut_to () trivial ?_
  refine Wk.trans (wk_data 2 2 1 (by rw [hho]; rfl) (by decide) rfl rfl rfl rfl rfl (by decide) (by decide)) ?_
  refine Wk.trans (wk_data 3 3 2 (by rw [hho]; rfl) (by decide) rfl rfl rfl rfl rfl (by decide) (by decide)) ?_
  refine Wk.trans (wk_data 3 2 0 (by rw [hho]; rfl) (by decide) rfl rfl rfl rfl rfl (by decide) (by decide)) ?_
  refine Wk.trans (wk_data 4 2 3 (by rw [hho]; rfl) (by decide) rfl rfl rfl rfl rfl (by decide) (by decide)) ?_
  refine Wk.trans (wk_data 6 7 5 (by rw [hho]; rfl) (by decide) rfl rfl rfl rfl rfl (by decide) (by decide)) ?_
  refine Wk.trans (wk_cell 6 4 (kd := .box) (old := .c (.slice none 0 0)) (new := .fs 10 0 []) rfl rfl fun G F w v _ h => nil_fs0 10 h) ?_
  exact wk_eq (by simp [hE, lens]) rfl (by simp [livH, livO, AV.livL, AV.liv, wkL, wkV, List.range', slotsOf])
 intro _ _
 have c1 := jbNext_w j6S s6S (by decide) (fun t ht => by rw [List.mem_singleton.1 ht]; exact ⟨by decide, by decide⟩)
 have c2 := jbNext_w k6S s6S (by decide) (fun t ht => by rw [List.mem_singleton.1 ht]; exact ⟨by decide, by decide⟩)
 rw [n6a] at c1
 rw [n6b] at c2
 have c3 := jbPut_w k6S k6S_big (by decide) k6S_Ok
 unfold jobPutA at c3
 rw [if_pos k6S_ok] at c3
 have hBl := jobB_len k6S_ok (by decide) k6S_Ok
 have hBp := parJob_put k6S_ok (by decide) k6S_Ok
 obtain ⟨B, hB⟩ : ∃ B, B = jobB k6S := ⟨_, rfl⟩
 rw [← hB] at c3 hBl hBp
 have c4 := jbParse_w B (by omega)
 unfold jobParseA at c4
 rw [hBp] at c4
 simp (maxSteps := 1000000) [hho, noHo, slotsOf, schA, jobA, j6S, y6S, -List.reduceReplicate]
 refine call_0 (c1) rfl rfl hho (by simp) ?_
 simp (maxSteps := 1000000) [hho, noHo, nxA, mvA, -List.reduceReplicate]
 refine call_0 (c2) rfl rfl hho (by simp) ?_
 simp (maxSteps := 1000000) [hho, noHo, nxA, mvA, mvsA, jvC, m6S, -List.reduceReplicate]
 refine call_0 (c3) rfl rfl hho (by simp) ?_
 simp (maxSteps := 1000000) [hho, noHo, -List.reduceReplicate]
 refine call_0 (c4) rfl rfl hho (by simp) ?_
 simp (maxSteps := 1000000) [hho, noHo, jobA, k6S, -List.reduceReplicate]
 exact Ret.drop (by rfl) ⟨rfl, rfl⟩
end Go.Proofs.YthgoocdldnkogaaGreatDoor
