import Derived.Test.YthgoocdldnkogaaGreatDoorHS
import Derived.Test.YthgoocdldnkogaaGreatDoorHJq
import Derived.Test.YthgoocdldnkogaaGreatDoorHRv
import Derived.Test.YthgoocdldnkogaaGreatDoorFp
import Derived.Test.YthgoocdldnkogaaGreatDoorHRh
import Derived.Test.YthgoocdldnkogaaGreatDoorH6
import Derived.Test.YthgoocdldnkogaaGreatDoorHZ1
namespace Go.Proofs.YthgoocdldnkogaaGreatDoor
set_option linter.unusedVariables false
set_option linter.unusedSimpArgs false
open Go.RowKit
attribute [local simp] isCut_nil isCut_region isCut_seq isCut_block isCut_loop isCut_cond isCut_skip isCut_exit isCut_ret isCut_range swapK putK altK condK_bool pickP_bool stepP stepO onPure_some onPure_none onImpl_some onImpl_none stepC onGP_some onGP_none onGV_some condG mkG onIt_it nextP_ptr takeP_eq takeV_some takeV_none takeU_some takeU_none takeQ takeW_some takeN_none takeN_some takeG_some takeO_some altO_some pureV binV2 eqF eqOp ovlV ovl2 rowAt capV binV intBin strBin isSh shV fldV ixV sliceV slice3V loadAV nilV lenV callV unV convV viewS cellsH loadV fldCut AV.ung AV.ungs AV.gc AV.cells AS.ev AS.put anyS gcsV gcO lens lnO gV guardV retK RetP_eq resV oneV anyRo loIx hiIx implO callP_clo evL gcsL clearV storeAV AS.push AS.setO appV appZ shortS copyV buildV partsV fillV srcV fzO okV isCell_c isCell_ptr isCell_sl isCell_fs isCell_fp isCell_clo rowZ_one rowZ_zero rowZ_2 rowZ_3 rowZ_4 rowZ_5 rowZ_6 rowZ_7 rowZ_8 rowZ_9 rowZ_10 rowZ_11 rowZ_12 noHo Value.oneCell' max2V min2V lookV updV updK updW cvals mkAt basV lenM msAt afterH putBack frzFrom frzO rebO backIx nilEq_sl nilEq_fs nilEq_ifn nilEq_ifh ifOp_eql ifOp_neq isLit nilOp_eql nilOp_neq AV.reb AV.rebL
attribute [local simp ↓] runK_skip runK_region runK_draw runK_seq runK_cut runK_cond runK_block runK_loop runK_exit runK_label runK_goto runK_ret runK_range contK_nil contK_seq contK_seq_ret contK_seq_exit contK_seq_goto contK_block contK_block_ret contK_block_goto contK_block_exit runO_nil runO_cons roundK_exit roundK_ret roundK_goto exitK_ret cutK_ret cutK_exit runE_done runE_nil runE_take runE_alt condG_true condG_false
set_option maxRecDepth 10000
def rrO (t : PSt) : List AObj := [.o .box [.ptr 1 0 2, .c (.bool t.2)], .o .box (rdCells t.1)]
@[simp] theorem rdCells_liv (l : List Nat) (s : Option Bs) : AV.livL l (rdCells s) = true := by cases s <;> simp [rdCells, AV.livL, AV.liv]
@[simp] theorem rrO_len (t : PSt) : (rrO t).length = 2 := rfl
theorem rr_ho {h : List AObj} {ok : Nat → Bool} {i k : Nat} {x : Bool} {s : Option Bs} (hi : h[i]? = some (.o .box [.ptr k 0 2, .c (.bool x)])) (hk : h[k]? = some (.o .box (rdCells s))) (hne : i ≠ k) :
  convOs [i, k] ok h [i, k] = some ((True ∧ True ∧ True) ∧ rdP s ∧ True, [.o .box [.ptr 1 0 2, .c (.bool x)], .o .box (rdCells s)]) := by
 have hne2 : ¬ k = i := fun e => hne e.symm
 simp [convOs, convO, hi, hk, rd_cv, AV.convL, AV.conv, idx, hne, hne2]
def colZ : ColS := ⟨0, ByteArray.empty, ⟨0, 0⟩, false, vZ, 0⟩
abbrev PBig (t : PSt) : Prop := ∀ l, t.1 = some l → l.length ≤ 100000
theorem big_of {s : Option Bs} {m : Nat} (h : ∀ l, s = some l → l.length ≤ m) (hm : m ≤ 1000000000) : Big s := fun l e => Nat.le_trans (h l e) hm
theorem ok_b (s : Option Bs) : ACalls Tryz.prog 149 [.ptr 0 0 2] [.o .box (rdCells s)] (fun k => decide (k < 1)) (fun r h' => r = .c (.bool s.isSome) ∧ h' = [.o .box (rdCells s)]) := by
 have := ok_r s
 rw [rdS_cells] at this; exact this
theorem mnL_go {σ α : Type} (okb : σ → Bool) (f : σ → α × σ) (n : Nat) (acc : List α) (t : σ) (h : okb t = true) : mnL okb f (n + 1) acc t = mnL okb f n (acc ++ [(f t).1]) (f t).2 := by
 rw [mnL, if_pos h]
theorem mnL_no {σ α : Type} (okb : σ → Bool) (f : σ → α × σ) (n : Nat) (acc : List α) (t : σ) (h : okb t = false) : mnL okb f (n + 1) acc t = ([], t) := by
 rw [mnL, if_neg (by rw [h]; simp)]
theorem parse_len {b : List UInt8} {l : List CellS} (h : parseS b = some l) (hb : b.length ≤ 1000000) : l.length ≤ 1000000 := by
 rw [parse_eq] at h
 unfold parseL at h
 cases hr : rnum b with
 | none => rw [hr] at h; cases h
 | some x =>
  have h1 := rnum_lt (b := b) (n := x.1) (r := x.2) hr
  rw [hr, Option.bind_some] at h
  split at h
  ·cases h
  ·cases h2 : readN x.1.toNat x.2 with
   | none => rw [h2] at h; cases h
   | some y =>
    have h3 := readN_len _ _ y.1 y.2 h2
    rw [h2, Option.bind_some] at h
    split at h
    ·injection h with h; subst h; omega
    ·cases h
def badL : List CellS → Bool
 | [] => false
 | [c] => decide (c.col ≠ 0)
 | _ => true
theorem badOf_some {b : Bs} {l : List CellS} (h : parseS b = some l) : badOf b = badL l := by
 unfold badOf badL; rw [h]; rcases l with _ | ⟨a, _ | ⟨c, l⟩⟩ <;> rfl
theorem cellsOf_some {b : Bs} {l : List CellS} (h : parseS b = some l) : cellsOf b = l := by unfold cellsOf; rw [h]; rfl
theorem cellsOf_none {b : Bs} (h : parseS b = none) : cellsOf b = [] := by unfold cellsOf; rw [h]; rfl
theorem Ret.nil1 {st : Nat → Bool} {h : List AObj} {Post : AV → List AObj → Prop} (sz : Nat) (hr : Ret st Post h (.fs sz 0 [])) : Ret st Post h (.c (.slice none 0 0)) := by
 refine Ret.wk (fun E hE => ?_) hr
 exact wk_slot 0 (old := .c (.slice none 0 0)) rfl fun G F w v _ hv => nil_fs0 sz hv
set_option maxHeartbeats 8000000 in
theorem manyInt_w (t : PSt) (ht : PBig t)
  : ACalls Tryz.prog 176 [.ptr 0 0 2, .clo (.func 101) [.ptr 1 0 2] []] (rrO t) (fun k => decide (k < 2)) (fun r h' => r = .fs 1 (pMany pNum t).1.length (intsA (pMany pNum t).1) ∧ h' = rrO (pMany pNum t).2) := by
 refine acalls mixed Tryz.func176 rfl Tryz.ntmps176 rfl fun E hE hst hho => ?_
 have c1 := count_b t.1 (big_of ht (by omega)) 65536
 have b1 := rcountS_len' (m := 65536) ht
 have r1 := rcountS_rng t.1 65536 (by omega)
 have e1 : pMany pNum t = mnL okP pNum (rcountS t.1 65536).1.toNat [] ((rcountS t.1 65536).2, t.2) := rfl
 rw [e1]
 clear e1
 obtain ⟨q, hq⟩ : ∃ q, q = rcountS t.1 65536 := ⟨_, rfl⟩
 rw [← hq] at c1 b1 r1 ⊢
 obtain ⟨ni, s1⟩ := q
 simp only at c1 b1 r1 ⊢
 obtain ⟨n, rfl⟩ : ∃ n : Nat, ni = n := ⟨ni.toNat, by omega⟩
 rw [Int.toNat_natCast]
 obtain ⟨s, x⟩ := t
 simp only at c1 ⊢
 obtain ⟨R, hR⟩ : ∃ R, R = mnL okP pNum n [] (s1, x) := ⟨_, rfl⟩
 rw [← hR]
 simp (maxSteps := 1000000) [hho, noHo, rrO, -List.reduceReplicate]
 refine call_x [1] (c1) rfl (rd_ho rfl) ⟨rfl, rfl⟩ hho (by simp) (by decide) ⟨by simp, rdP_ok _, trivial⟩ (by simp) ?_
 simp (maxSteps := 1000000) [hho, noHo, -List.reduceReplicate]
 refine loop_k mixed (fun y : Nat × List Int × PSt => ⟨slotsOf 26 [(0, .ptr 0 0 2), (1, .clo (.func 101) [.ptr 1 0 2] []), (5, .sl 2 1 0 y.1 (y.1 * 1)), (10, .c (.int .i64 n)), (11, .c (.int .i64 (y.1 : Nat)))], rrO y.2.2 ++ [.o (.row 3 1) (intsA y.2.1)]⟩) (fun y => n - y.1) (fun y => y.1 ≤ n ∧ y.2.1.length = y.1 ∧ PBig y.2.2 ∧ R = mnL okP pNum (n - y.1) y.2.1 y.2.2) (0, [], (s1, x)) ⟨Nat.zero_le _, rfl, b1, hR⟩ ?_ ?_
 ·refine Wk.trans (wk_virt 5 3 1 rfl) ?_
  exact wk_eq (by simp [hE, lens, rrO]) (by simp [rrO, intsA]) (by simp [livH, livO, AV.livL, AV.liv, wkL, wkV, List.range', slotsOf])
 rintro ⟨j, acc, t⟩ ⟨hj, hl, hb, hI⟩
 simp only at hj hl hb hI
 by_cases hjn : j < n
 ·have ew : IntKind.i64.wrap ((j : Int) + 1) = (j + 1 : Nat) := by rw [IntWalk.i64_in _ (by omega)]; rfl
  have enj : n - j = (n - (j + 1)) + 1 := by omega
  have c2 := ok_b t.1
  have hsm := (pNum_sim 100000).small t hb
  cases hok : okP t with
  | false =>
   have hok2 : t.1.isSome = false := hok
   rw [enj, mnL_no okP pNum _ acc t hok] at hI
   rw [hI]
   rw [hok2] at c2
   obtain ⟨s2, x2⟩ := t
   simp only at c2 ⊢
   simp (maxSteps := 1000000) [hho, noHo, slotsOf, rrO, hjn, -List.reduceReplicate]
   refine call_x [1] (c2) rfl (rd_ho rfl) ⟨rfl, rfl⟩ hho (by simp) (by decide) ⟨by simp, rdP_ok _, trivial⟩ (by simp) ?_
   simp (maxSteps := 1000000) [hho, noHo, -List.reduceReplicate]
   refine Ret.nil1 1 ?_
   refine Ret.sel [0, 1] (fun _ => false) (ho := rr_ho (i := 0) (k := 1) rfl rfl (by decide)) (ha := by rfl) ?_ ?_ (by decide) (by simp) (fun i _ h => ?_) ⟨by simp [intsA], rfl⟩
   ·first | exact ⟨⟨trivial, trivial, trivial⟩, rdP_ok _, trivial⟩ | simp
   ·first | exact ⟨⟨trivial, trivial, trivial⟩, rdP_ok _, trivial⟩ | simp
   ·have e : i = 0 ∨ i = 1 := by have := of_decide_eq_true h; omega
    rcases e with rfl | rfl <;> rfl
  | true =>
   have hok2 : t.1.isSome = true := hok
   rw [enj, mnL_go okP pNum _ acc t hok] at hI
   rw [hok2] at c2
   have c3 := number_b t.1 (big_of hb (by omega))
   have ep : pNum t = ((rnumS t.1).1, ((rnumS t.1).2, t.2)) := rfl
   have epx : (pNum t).1 = (rnumS t.1).1 := rfl
   have epy : (pNum t).2.1 = (rnumS t.1).2 := rfl
   have epz : (pNum t).2.2 = t.2 := rfl
   rw [← epx, ← epy] at c3
   obtain ⟨p, hp⟩ : ∃ p, p = pNum t := ⟨_, rfl⟩
   rw [← hp] at c3 hI hsm
   rw [← hp] at epz
   clear hp
   obtain ⟨v, s3, x3⟩ := p
   obtain ⟨s2, x2⟩ := t
   simp only at c2 c3 hI hsm ⊢
   simp only at epz; subst epz
   have hla : (acc ++ [v]).length = j + 1 := by simp [hl]
   have hsn : intsA (acc ++ [v]) = intsA acc ++ [.c (.int .i64 v)] := by simp [intsA]
   simp (maxSteps := 1000000) [hho, noHo, slotsOf, rrO, hjn, -List.reduceReplicate]
   refine call_x [1] (c2) rfl (rd_ho rfl) ⟨rfl, rfl⟩ hho (by simp) (by decide) ⟨by simp, rdP_ok _, trivial⟩ (by simp) ?_
   simp (maxSteps := 1000000) [hho, noHo, -List.reduceReplicate]
   refine call_x [1] (c3) rfl (rd_ho rfl) ⟨rfl, rfl⟩ hho (by simp) (by decide) ⟨by simp, rdP_ok _, trivial⟩ (by simp) ?_
   simp (maxSteps := 1000000) [hho, noHo, rrO, ew, hl, -List.reduceReplicate]
   refine ⟨by omega, round_next (j + 1, acc ++ [v], (s3, x3)) ⟨by simp only; omega, by simp only; exact hla, hsm, hI⟩ (by simp only; omega) ?_⟩
   exact wk_of 3 1 (by simp) (by simp [hE, lens, rrO]) (by simp [rrO, hsn]) (by simp [livH, livO, AV.livL, AV.liv, wkL, wkV, List.range', rrO]) (by simp [livH, livO, AV.livL, AV.liv, wkL, wkV, List.range', slotsOf, Nat.add_mul])
 ·obtain rfl : j = n := by omega
  rw [Nat.sub_self, mnL] at hI
  rw [hI]
  have hLl : (intsA acc).length = j := by rw [intsA_length, hl]
  have htk : List.take (j * 1) (intsA acc) = intsA acc := List.take_of_length_le (by omega)
  obtain ⟨s2, x2⟩ := t
  simp (maxSteps := 1000000) [hho, noHo, slotsOf, rrO, -List.reduceReplicate]
  refine Ret.sel [0, 1] (fun k => k == 2) (ho := rr_ho (i := 0) (k := 1) rfl rfl (by decide)) (ha := by rfl) ?_ ?_ (by decide) (by simp) (fun i _ h => ?_) ⟨?_, rfl⟩
  ·first | exact ⟨⟨trivial, trivial, trivial⟩, rdP_ok _, trivial⟩ | simp
  ·simp [hLl]
   exact ⟨by unfold maxLen; omega, by intro x hx; exact (intsA_all acc).2 trivial x (List.mem_of_mem_take hx)⟩
  ·have e : i = 0 ∨ i = 1 := by have := of_decide_eq_true h; omega
   rcases e with rfl | rfl <;> rfl
  ·show AV.fs 1 j (List.take (j * 1) (List.drop 0 (intsA acc))) = _
   rw [List.drop_zero, htk, hl]
set_option maxHeartbeats 8000000 in
theorem manyColumn_w (t : PSt) (ht : PBig t) (hgg : callable Tryz.prog 151 = true) (hc : ∀ t : PSt, PBig t → ACalls Tryz.prog 151 [.ptr 0 0 2] (rrO t) (fun k => decide (k < 2)) (fun r h' => r = .agg (colA (pCol t).1) ∧ h' = rrO (pCol t).2))
  : ACalls Tryz.prog 150 [.ptr 0 0 2, .clo (.func 151) [.ptr 0 0 2] []] (rrO t) (fun k => decide (k < 2)) (fun r h' => r = .fs 10 (pMany pCol t).1.length (colsA (pMany pCol t).1) ∧ h' = rrO (pMany pCol t).2) := by
 refine acalls mixed Tryz.func150 rfl Tryz.ntmps150 rfl fun E hE hst hho => ?_
 have c1 := count_b t.1 (big_of ht (by omega)) 65536
 have b1 := rcountS_len' (m := 65536) ht
 have r1 := rcountS_rng t.1 65536 (by omega)
 have e1 : pMany pCol t = mnL okP pCol (rcountS t.1 65536).1.toNat [] ((rcountS t.1 65536).2, t.2) := rfl
 rw [e1]
 clear e1
 obtain ⟨q, hq⟩ : ∃ q, q = rcountS t.1 65536 := ⟨_, rfl⟩
 rw [← hq] at c1 b1 r1 ⊢
 obtain ⟨ni, s1⟩ := q
 simp only at c1 b1 r1 ⊢
 obtain ⟨n, rfl⟩ : ∃ n : Nat, ni = n := ⟨ni.toNat, by omega⟩
 rw [Int.toNat_natCast]
 obtain ⟨s, x⟩ := t
 simp only at c1 ⊢
 obtain ⟨R, hR⟩ : ∃ R, R = mnL okP pCol n [] (s1, x) := ⟨_, rfl⟩
 rw [← hR]
 simp (maxSteps := 1000000) [hho, noHo, rrO, -List.reduceReplicate]
 refine call_x [1] (c1) rfl (rd_ho rfl) ⟨rfl, rfl⟩ hho (by simp) (by decide) ⟨by simp, rdP_ok _, trivial⟩ (by simp) ?_
 simp (maxSteps := 1000000) [hho, noHo, -List.reduceReplicate]
 refine loop_k mixed (fun y : Nat × List ColS × PSt => ⟨slotsOf 26 [(0, .ptr 0 0 2), (1, .clo (.func 151) [.ptr 0 0 2] []), (5, .sl 2 10 0 y.1 (y.1 * 10)), (10, .c (.int .i64 n)), (11, .c (.int .i64 (y.1 : Nat)))], rrO y.2.2 ++ [.o (.row 44 10) (colsA y.2.1)]⟩) (fun y => n - y.1) (fun y => y.1 ≤ n ∧ y.2.1.length = y.1 ∧ PBig y.2.2 ∧ R = mnL okP pCol (n - y.1) y.2.1 y.2.2) (0, [], (s1, x)) ⟨Nat.zero_le _, rfl, b1, hR⟩ ?_ ?_
 ·refine Wk.trans (wk_virt 5 44 10 rfl) ?_
  exact wk_eq (by simp [hE, lens, rrO]) (by simp [rrO, colsA]) (by simp [livH, livO, AV.livL, AV.liv, wkL, wkV, List.range', slotsOf])
 rintro ⟨j, acc, t⟩ ⟨hj, hl, hb, hI⟩
 simp only at hj hl hb hI
 by_cases hjn : j < n
 ·have ew : IntKind.i64.wrap ((j : Int) + 1) = (j + 1 : Nat) := by rw [IntWalk.i64_in _ (by omega)]; rfl
  have enj : n - j = (n - (j + 1)) + 1 := by omega
  have c2 := ok_b t.1
  have hsm := (pCol_sim 100000).small t hb
  cases hok : okP t with
  | false =>
   have hok2 : t.1.isSome = false := hok
   rw [enj, mnL_no okP pCol _ acc t hok] at hI
   rw [hI]
   rw [hok2] at c2
   obtain ⟨s2, x2⟩ := t
   simp only at c2 ⊢
   simp (maxSteps := 1000000) [hho, noHo, slotsOf, rrO, hjn, -List.reduceReplicate]
   refine call_x [1] (c2) rfl (rd_ho rfl) ⟨rfl, rfl⟩ hho (by simp) (by decide) ⟨by simp, rdP_ok _, trivial⟩ (by simp) ?_
   simp (maxSteps := 1000000) [hho, noHo, -List.reduceReplicate]
   refine Ret.nil1 10 ?_
   refine Ret.sel [0, 1] (fun _ => false) (ho := rr_ho (i := 0) (k := 1) rfl rfl (by decide)) (ha := by rfl) ?_ ?_ (by decide) (by simp) (fun i _ h => ?_) ⟨by simp [colsA], rfl⟩
   ·first | exact ⟨⟨trivial, trivial, trivial⟩, rdP_ok _, trivial⟩ | simp
   ·first | exact ⟨⟨trivial, trivial, trivial⟩, rdP_ok _, trivial⟩ | simp
   ·have e : i = 0 ∨ i = 1 := by have := of_decide_eq_true h; omega
    rcases e with rfl | rfl <;> rfl
  | true =>
   have hok2 : t.1.isSome = true := hok
   rw [enj, mnL_go okP pCol _ acc t hok] at hI
   rw [hok2] at c2
   have c3 := hc t hb
   obtain ⟨p, hp⟩ : ∃ p, p = pCol t := ⟨_, rfl⟩
   rw [← hp] at c3 hI hsm
   clear hp
   obtain ⟨v, s3, x3⟩ := p
   obtain ⟨s2, x2⟩ := t
   simp only at c2 c3 hI hsm ⊢
   have hla : (acc ++ [v]).length = j + 1 := by simp [hl]
   have hsn := colsA_snoc acc v
   have hv1 : List.take 10 (colA v) = colA v := rfl
   simp (maxSteps := 1000000) [hho, noHo, slotsOf, rrO, hjn, -List.reduceReplicate]
   refine call_x [1] (c2) rfl (rd_ho rfl) ⟨rfl, rfl⟩ hho (by simp) (by decide) ⟨by simp, rdP_ok _, trivial⟩ (by simp) ?_
   simp (maxSteps := 1000000) [hho, noHo, hgg, -List.reduceReplicate]
   refine call_x [0, 1] (c3) rfl (rr_ho rfl rfl (by decide)) ⟨rfl, rfl⟩ hho (by simp) (by decide) ⟨by simp, ⟨trivial, trivial, trivial⟩, rdP_ok _, trivial⟩ (by simp) ?_
   simp (maxSteps := 1000000) [hho, noHo, rrO, ew, hl, colA, -List.reduceReplicate]
   refine ⟨by omega, round_next (j + 1, acc ++ [v], (s3, x3)) ⟨by simp only; omega, by simp only; exact hla, hsm, hI⟩ (by simp only; omega) ?_⟩
   exact wk_of 3 1 (by simp) (by simp [hE, lens, rrO]) (by simp [rrO, hsn, colA]) (by simp [livH, livO, AV.livL, AV.liv, wkL, wkV, List.range', rrO]) (by simp [livH, livO, AV.livL, AV.liv, wkL, wkV, List.range', slotsOf, Nat.add_mul])
 ·obtain rfl : j = n := by omega
  rw [Nat.sub_self, mnL] at hI
  rw [hI]
  have hLl : (colsA acc).length = j * 10 := by rw [colsA_length, hl]
  have htk : List.take (j * 10) (colsA acc) = colsA acc := List.take_of_length_le (by omega)
  obtain ⟨s2, x2⟩ := t
  simp (maxSteps := 1000000) [hho, noHo, slotsOf, rrO, -List.reduceReplicate]
  refine Ret.sel [0, 1] (fun k => k == 2) (ho := rr_ho (i := 0) (k := 1) rfl rfl (by decide)) (ha := by rfl) ?_ ?_ (by decide) (by simp) (fun i _ h => ?_) ⟨?_, rfl⟩
  ·first | exact ⟨⟨trivial, trivial, trivial⟩, rdP_ok _, trivial⟩ | simp
  ·simp [hLl]
   exact ⟨by unfold maxLen; omega, by rw [htk]; exact (colsA_all acc).2 trivial⟩
  ·have e : i = 0 ∨ i = 1 := by have := of_decide_eq_true h; omega
   rcases e with rfl | rfl <;> rfl
  ·show AV.fs 10 j (List.take (j * 10) (List.drop 0 (colsA acc))) = _
   rw [List.drop_zero, htk, hl]
set_option maxHeartbeats 8000000 in
theorem manyIndex_w (t : PSt) (ht : PBig t) (hgg : callable Tryz.prog 153 = true) (hc : ∀ t : PSt, PBig t → ACalls Tryz.prog 153 [.ptr 0 0 2] (rrO t) (fun k => decide (k < 2)) (fun r h' => r = .agg (idxA (pIdx t).1) ∧ h' = rrO (pIdx t).2))
  : ACalls Tryz.prog 152 [.ptr 0 0 2, .clo (.func 153) [.ptr 0 0 2] []] (rrO t) (fun k => decide (k < 2)) (fun r h' => r = .fs 5 (pMany pIdx t).1.length (idxsA (pMany pIdx t).1) ∧ h' = rrO (pMany pIdx t).2) := by
 refine acalls mixed Tryz.func152 rfl Tryz.ntmps152 rfl fun E hE hst hho => ?_
 have c1 := count_b t.1 (big_of ht (by omega)) 65536
 have b1 := rcountS_len' (m := 65536) ht
 have r1 := rcountS_rng t.1 65536 (by omega)
 have e1 : pMany pIdx t = mnL okP pIdx (rcountS t.1 65536).1.toNat [] ((rcountS t.1 65536).2, t.2) := rfl
 rw [e1]
 clear e1
 obtain ⟨q, hq⟩ : ∃ q, q = rcountS t.1 65536 := ⟨_, rfl⟩
 rw [← hq] at c1 b1 r1 ⊢
 obtain ⟨ni, s1⟩ := q
 simp only at c1 b1 r1 ⊢
 obtain ⟨n, rfl⟩ : ∃ n : Nat, ni = n := ⟨ni.toNat, by omega⟩
 rw [Int.toNat_natCast]
 obtain ⟨s, x⟩ := t
 simp only at c1 ⊢
 obtain ⟨R, hR⟩ : ∃ R, R = mnL okP pIdx n [] (s1, x) := ⟨_, rfl⟩
 rw [← hR]
 simp (maxSteps := 1000000) [hho, noHo, rrO, -List.reduceReplicate]
 refine call_x [1] (c1) rfl (rd_ho rfl) ⟨rfl, rfl⟩ hho (by simp) (by decide) ⟨by simp, rdP_ok _, trivial⟩ (by simp) ?_
 simp (maxSteps := 1000000) [hho, noHo, -List.reduceReplicate]
 refine loop_k mixed (fun y : Nat × List IdxS × PSt => ⟨slotsOf 26 [(0, .ptr 0 0 2), (1, .clo (.func 153) [.ptr 0 0 2] []), (5, .sl 2 5 0 y.1 (y.1 * 5)), (10, .c (.int .i64 n)), (11, .c (.int .i64 (y.1 : Nat)))], rrO y.2.2 ++ [.o (.row 49 5) (idxsA y.2.1)]⟩) (fun y => n - y.1) (fun y => y.1 ≤ n ∧ y.2.1.length = y.1 ∧ PBig y.2.2 ∧ R = mnL okP pIdx (n - y.1) y.2.1 y.2.2) (0, [], (s1, x)) ⟨Nat.zero_le _, rfl, b1, hR⟩ ?_ ?_
 ·refine Wk.trans (wk_virt 5 49 5 rfl) ?_
  exact wk_eq (by simp [hE, lens, rrO]) (by simp [rrO, idxsA]) (by simp [livH, livO, AV.livL, AV.liv, wkL, wkV, List.range', slotsOf])
 rintro ⟨j, acc, t⟩ ⟨hj, hl, hb, hI⟩
 simp only at hj hl hb hI
 by_cases hjn : j < n
 ·have ew : IntKind.i64.wrap ((j : Int) + 1) = (j + 1 : Nat) := by rw [IntWalk.i64_in _ (by omega)]; rfl
  have enj : n - j = (n - (j + 1)) + 1 := by omega
  have c2 := ok_b t.1
  have hsm := (pIdx_sim 100000).small t hb
  cases hok : okP t with
  | false =>
   have hok2 : t.1.isSome = false := hok
   rw [enj, mnL_no okP pIdx _ acc t hok] at hI
   rw [hI]
   rw [hok2] at c2
   obtain ⟨s2, x2⟩ := t
   simp only at c2 ⊢
   simp (maxSteps := 1000000) [hho, noHo, slotsOf, rrO, hjn, -List.reduceReplicate]
   refine call_x [1] (c2) rfl (rd_ho rfl) ⟨rfl, rfl⟩ hho (by simp) (by decide) ⟨by simp, rdP_ok _, trivial⟩ (by simp) ?_
   simp (maxSteps := 1000000) [hho, noHo, -List.reduceReplicate]
   refine Ret.nil1 5 ?_
   refine Ret.sel [0, 1] (fun _ => false) (ho := rr_ho (i := 0) (k := 1) rfl rfl (by decide)) (ha := by rfl) ?_ ?_ (by decide) (by simp) (fun i _ h => ?_) ⟨by simp [idxsA], rfl⟩
   ·first | exact ⟨⟨trivial, trivial, trivial⟩, rdP_ok _, trivial⟩ | simp
   ·first | exact ⟨⟨trivial, trivial, trivial⟩, rdP_ok _, trivial⟩ | simp
   ·have e : i = 0 ∨ i = 1 := by have := of_decide_eq_true h; omega
    rcases e with rfl | rfl <;> rfl
  | true =>
   have hok2 : t.1.isSome = true := hok
   rw [enj, mnL_go okP pIdx _ acc t hok] at hI
   rw [hok2] at c2
   have c3 := hc t hb
   obtain ⟨p, hp⟩ : ∃ p, p = pIdx t := ⟨_, rfl⟩
   rw [← hp] at c3 hI hsm
   clear hp
   obtain ⟨v, s3, x3⟩ := p
   obtain ⟨s2, x2⟩ := t
   simp only at c2 c3 hI hsm ⊢
   have hla : (acc ++ [v]).length = j + 1 := by simp [hl]
   have hsn := idxsA_snoc acc v
   have hv1 : List.take 5 (idxA v) = idxA v := rfl
   simp (maxSteps := 1000000) [hho, noHo, slotsOf, rrO, hjn, -List.reduceReplicate]
   refine call_x [1] (c2) rfl (rd_ho rfl) ⟨rfl, rfl⟩ hho (by simp) (by decide) ⟨by simp, rdP_ok _, trivial⟩ (by simp) ?_
   simp (maxSteps := 1000000) [hho, noHo, hgg, -List.reduceReplicate]
   refine call_x [0, 1] (c3) rfl (rr_ho rfl rfl (by decide)) ⟨rfl, rfl⟩ hho (by simp) (by decide) ⟨by simp, ⟨trivial, trivial, trivial⟩, rdP_ok _, trivial⟩ (by simp) ?_
   simp (maxSteps := 1000000) [hho, noHo, rrO, ew, hl, idxA, -List.reduceReplicate]
   refine ⟨by omega, round_next (j + 1, acc ++ [v], (s3, x3)) ⟨by simp only; omega, by simp only; exact hla, hsm, hI⟩ (by simp only; omega) ?_⟩
   exact wk_of 3 1 (by simp) (by simp [hE, lens, rrO]) (by simp [rrO, hsn, idxA]) (by simp [livH, livO, AV.livL, AV.liv, wkL, wkV, List.range', rrO]) (by simp [livH, livO, AV.livL, AV.liv, wkL, wkV, List.range', slotsOf, Nat.add_mul])
 ·obtain rfl : j = n := by omega
  rw [Nat.sub_self, mnL] at hI
  rw [hI]
  have hLl : (idxsA acc).length = j * 5 := by rw [idxsA_length, hl]
  have htk : List.take (j * 5) (idxsA acc) = idxsA acc := List.take_of_length_le (by omega)
  obtain ⟨s2, x2⟩ := t
  simp (maxSteps := 1000000) [hho, noHo, slotsOf, rrO, -List.reduceReplicate]
  refine Ret.sel [0, 1] (fun k => k == 2) (ho := rr_ho (i := 0) (k := 1) rfl rfl (by decide)) (ha := by rfl) ?_ ?_ (by decide) (by simp) (fun i _ h => ?_) ⟨?_, rfl⟩
  ·first | exact ⟨⟨trivial, trivial, trivial⟩, rdP_ok _, trivial⟩ | simp
  ·simp [hLl]
   exact ⟨by unfold maxLen; omega, by rw [htk]; exact (idxsA_all acc).2 trivial⟩
  ·have e : i = 0 ∨ i = 1 := by have := of_decide_eq_true h; omega
   rcases e with rfl | rfl <;> rfl
  ·show AV.fs 5 j (List.take (j * 5) (List.drop 0 (idxsA acc))) = _
   rw [List.drop_zero, htk, hl]
set_option maxHeartbeats 8000000 in
theorem manyTable_w (t : PSt) (ht : PBig t) (hgg : callable Tryz.prog 103 = true) (hc : ∀ t : PSt, PBig t → ACalls Tryz.prog 103 [.ptr 0 0 2] (rrO t) (fun k => decide (k < 2)) (fun r h' => r = .agg (tabA (pTab t).1) ∧ h' = rrO (pTab t).2))
  : ACalls Tryz.prog 102 [.ptr 0 0 2, .clo (.func 103) [.ptr 0 0 2] []] (rrO t) (fun k => decide (k < 2)) (fun r h' => r = .fs 4 (pMany pTab t).1.length (tabsA (pMany pTab t).1) ∧ h' = rrO (pMany pTab t).2) := by
 refine acalls mixed Tryz.func102 rfl Tryz.ntmps102 rfl fun E hE hst hho => ?_
 have c1 := count_b t.1 (big_of ht (by omega)) 65536
 have b1 := rcountS_len' (m := 65536) ht
 have r1 := rcountS_rng t.1 65536 (by omega)
 have e1 : pMany pTab t = mnL okP pTab (rcountS t.1 65536).1.toNat [] ((rcountS t.1 65536).2, t.2) := rfl
 rw [e1]
 clear e1
 obtain ⟨q, hq⟩ : ∃ q, q = rcountS t.1 65536 := ⟨_, rfl⟩
 rw [← hq] at c1 b1 r1 ⊢
 obtain ⟨ni, s1⟩ := q
 simp only at c1 b1 r1 ⊢
 obtain ⟨n, rfl⟩ : ∃ n : Nat, ni = n := ⟨ni.toNat, by omega⟩
 rw [Int.toNat_natCast]
 obtain ⟨s, x⟩ := t
 simp only at c1 ⊢
 obtain ⟨R, hR⟩ : ∃ R, R = mnL okP pTab n [] (s1, x) := ⟨_, rfl⟩
 rw [← hR]
 simp (maxSteps := 1000000) [hho, noHo, rrO, -List.reduceReplicate]
 refine call_x [1] (c1) rfl (rd_ho rfl) ⟨rfl, rfl⟩ hho (by simp) (by decide) ⟨by simp, rdP_ok _, trivial⟩ (by simp) ?_
 simp (maxSteps := 1000000) [hho, noHo, -List.reduceReplicate]
 refine loop_k mixed (fun y : Nat × List TabS × PSt => ⟨slotsOf 26 [(0, .ptr 0 0 2), (1, .clo (.func 103) [.ptr 0 0 2] []), (5, .sl 2 4 0 y.1 (y.1 * 4)), (10, .c (.int .i64 n)), (11, .c (.int .i64 (y.1 : Nat)))], rrO y.2.2 ++ [.o (.row 28 4) (tabsA y.2.1)]⟩) (fun y => n - y.1) (fun y => y.1 ≤ n ∧ y.2.1.length = y.1 ∧ PBig y.2.2 ∧ R = mnL okP pTab (n - y.1) y.2.1 y.2.2) (0, [], (s1, x)) ⟨Nat.zero_le _, rfl, b1, hR⟩ ?_ ?_
 ·refine Wk.trans (wk_virt 5 28 4 rfl) ?_
  exact wk_eq (by simp [hE, lens, rrO]) (by simp [rrO, tabsA]) (by simp [livH, livO, AV.livL, AV.liv, wkL, wkV, List.range', slotsOf])
 rintro ⟨j, acc, t⟩ ⟨hj, hl, hb, hI⟩
 simp only at hj hl hb hI
 by_cases hjn : j < n
 ·have ew : IntKind.i64.wrap ((j : Int) + 1) = (j + 1 : Nat) := by rw [IntWalk.i64_in _ (by omega)]; rfl
  have enj : n - j = (n - (j + 1)) + 1 := by omega
  have c2 := ok_b t.1
  have hsm := (pTab_sim 100000).small t hb
  cases hok : okP t with
  | false =>
   have hok2 : t.1.isSome = false := hok
   rw [enj, mnL_no okP pTab _ acc t hok] at hI
   rw [hI]
   rw [hok2] at c2
   obtain ⟨s2, x2⟩ := t
   simp only at c2 ⊢
   simp (maxSteps := 1000000) [hho, noHo, slotsOf, rrO, hjn, -List.reduceReplicate]
   refine call_x [1] (c2) rfl (rd_ho rfl) ⟨rfl, rfl⟩ hho (by simp) (by decide) ⟨by simp, rdP_ok _, trivial⟩ (by simp) ?_
   simp (maxSteps := 1000000) [hho, noHo, -List.reduceReplicate]
   refine Ret.nil1 4 ?_
   refine Ret.sel [0, 1] (fun _ => false) (ho := rr_ho (i := 0) (k := 1) rfl rfl (by decide)) (ha := by rfl) ?_ ?_ (by decide) (by simp) (fun i _ h => ?_) ⟨by simp [tabsA], rfl⟩
   ·first | exact ⟨⟨trivial, trivial, trivial⟩, rdP_ok _, trivial⟩ | simp
   ·first | exact ⟨⟨trivial, trivial, trivial⟩, rdP_ok _, trivial⟩ | simp
   ·have e : i = 0 ∨ i = 1 := by have := of_decide_eq_true h; omega
    rcases e with rfl | rfl <;> rfl
  | true =>
   have hok2 : t.1.isSome = true := hok
   rw [enj, mnL_go okP pTab _ acc t hok] at hI
   rw [hok2] at c2
   have c3 := hc t hb
   obtain ⟨p, hp⟩ : ∃ p, p = pTab t := ⟨_, rfl⟩
   rw [← hp] at c3 hI hsm
   clear hp
   obtain ⟨v, s3, x3⟩ := p
   obtain ⟨s2, x2⟩ := t
   simp only at c2 c3 hI hsm ⊢
   have hla : (acc ++ [v]).length = j + 1 := by simp [hl]
   have hsn := tabsA_snoc acc v
   have hv1 : List.take 4 (tabA v) = tabA v := rfl
   simp (maxSteps := 1000000) [hho, noHo, slotsOf, rrO, hjn, -List.reduceReplicate]
   refine call_x [1] (c2) rfl (rd_ho rfl) ⟨rfl, rfl⟩ hho (by simp) (by decide) ⟨by simp, rdP_ok _, trivial⟩ (by simp) ?_
   simp (maxSteps := 1000000) [hho, noHo, hgg, -List.reduceReplicate]
   refine call_x [0, 1] (c3) rfl (rr_ho rfl rfl (by decide)) ⟨rfl, rfl⟩ hho (by simp) (by decide) ⟨by simp, ⟨trivial, trivial, trivial⟩, rdP_ok _, trivial⟩ (by simp) ?_
   simp (maxSteps := 1000000) [hho, noHo, rrO, ew, hl, tabA, -List.reduceReplicate]
   refine ⟨by omega, round_next (j + 1, acc ++ [v], (s3, x3)) ⟨by simp only; omega, by simp only; exact hla, hsm, hI⟩ (by simp only; omega) ?_⟩
   exact wk_of 3 1 (by simp) (by simp [hE, lens, rrO]) (by simp [rrO, hsn, tabA]) (by simp [livH, livO, AV.livL, AV.liv, wkL, wkV, List.range', rrO]) (by simp [livH, livO, AV.livL, AV.liv, wkL, wkV, List.range', slotsOf, Nat.add_mul])
 ·obtain rfl : j = n := by omega
  rw [Nat.sub_self, mnL] at hI
  rw [hI]
  have hLl : (tabsA acc).length = j * 4 := by rw [tabsA_length, hl]
  have htk : List.take (j * 4) (tabsA acc) = tabsA acc := List.take_of_length_le (by omega)
  obtain ⟨s2, x2⟩ := t
  simp (maxSteps := 1000000) [hho, noHo, slotsOf, rrO, -List.reduceReplicate]
  refine Ret.sel [0, 1] (fun k => k == 2) (ho := rr_ho (i := 0) (k := 1) rfl rfl (by decide)) (ha := by rfl) ?_ ?_ (by decide) (by simp) (fun i _ h => ?_) ⟨?_, rfl⟩
  ·first | exact ⟨⟨trivial, trivial, trivial⟩, rdP_ok _, trivial⟩ | simp
  ·simp [hLl]
   exact ⟨by unfold maxLen; omega, by rw [htk]; exact (tabsA_all acc).2 trivial⟩
  ·have e : i = 0 ∨ i = 1 := by have := of_decide_eq_true h; omega
   rcases e with rfl | rfl <;> rfl
  ·show AV.fs 4 j (List.take (j * 4) (List.drop 0 (tabsA acc))) = _
   rw [List.drop_zero, htk, hl]

theorem ACalls.told {P : Program} {f : FuncId} {args : List AV} {h h1 : List AObj} {st : Nat → Bool} {r1 r2 : AV} (hc : ACalls P f args h st (fun r h' => r = r1 ∧ h' = h1))
  (hw : ∀ G F w x, RepV G (lens h1) F w r1 x → RepV G (lens h1) F w r2 x) : ACalls P f args h st (fun r h' => r = r2 ∧ h' = h1) := by
 intro G F w vs hh hf hr
 refine (hc G F w vs hh hf hr).mono fun e w' ⟨x, r, h', G', F', e1, e2, e3, e4, e5, e6⟩ => ?_
 subst e5 e6
 exact ⟨x, r2, h', G', F', e1, e2, hw _ _ _ _ e3, e4, rfl, rfl⟩
theorem nil2_rep (sz : Nat) {b : Value} {G : Gh} {F : Nat → Prop} {w : World} {ln : List Nat} {v : Value} (hv : RepV G ln F w (.tup [.c (.slice none 0 0), .c b]) v) : RepV G ln F w (.tup [.fs sz 0 [], .c b]) v := by
 obtain ⟨cs, rfl, h1, h2⟩ := tup_inv hv
 refine .tup _ cs h1 fun j u x hu hx => ?_
 match j, hu with
 | 0, hu => simp at hu; subst hu; exact nil_fs0 sz (h2 0 _ x rfl hx)
 | 1, hu => simp at hu; subst hu; exact h2 1 _ x rfl hx
theorem parse_rowU (b : Bs) (hb : b.length ≤ 100000) : ACalls Tryz.prog 166 [.fs 1 b.length (u8av b)] [] (fun _ => false) (fun r h' => r = .tup [.fs 5 (cellsOf b).length (cellsA (cellsOf b)), .c (.bool (parseS b).isSome)] ∧ h' = []) := by
 have h := parse_row b hb
 unfold rowParseA at h
 cases hp : parseS b with
 | none =>
  rw [hp] at h
  rw [cellsOf_none hp]
  exact h.told fun G F w x => nil2_rep 5
 | some l =>
  rw [hp] at h
  rw [cellsOf_some hp]
  exact h
set_option maxHeartbeats 16000000 in
theorem rdcolumn_w (t : PSt) (ht : PBig t) : ACalls Tryz.prog 151 [.ptr 0 0 2] (rrO t) (fun k => decide (k < 2)) (fun r h' => r = .agg (colA (pCol t).1) ∧ h' = rrO (pCol t).2) := by
 refine acallsC [7] mixed Tryz.func151 rfl Tryz.ntmps151 rfl fun E hE hst hho => ?_
 obtain ⟨s, x⟩ := t
 have hs : ∀ l, s = some l → l.length ≤ 100000 := ht
 have c1 := number_b s (big_of hs (by omega))
 have b1 := rnumS_len hs
 obtain ⟨q1, e1⟩ : ∃ q, q = rnumS s := ⟨_, rfl⟩
 rw [← e1] at c1 b1
 have c2 := text_b q1.2 (big_of b1 (by omega))
 have b2 := (rtextS_lens b1).2
 obtain ⟨q2, e2⟩ : ∃ q, q = rtextS q1.2 := ⟨_, rfl⟩
 rw [← e2] at c2 b2
 have c3 := number_b q2.2 (big_of b2 (by omega))
 have b3 := rnumS_len b2
 obtain ⟨q3, e3⟩ : ∃ q, q = rnumS q2.2 := ⟨_, rfl⟩
 rw [← e3] at c3 b3
 have c4 := number_b q3.2 (big_of b3 (by omega))
 have b4 := rnumS_len b3
 obtain ⟨q4, e4⟩ : ∃ q, q = rnumS q3.2 := ⟨_, rfl⟩
 rw [← e4] at c4 b4
 have c5 := flag_b q4.2 (big_of b4 (by omega))
 have b5 : ∀ l, (rflagS q4.2).2 = some l → l.length ≤ 100000 := rcountS_len' (m := 1) b4
 obtain ⟨q5, e5⟩ : ∃ q, q = rflagS q4.2 := ⟨_, rfl⟩
 rw [← e5] at c5 b5
 have c6 := text_b q5.2 (big_of b5 (by omega))
 have b6 := (rtextS_lens b5).2
 have b6t := (rtextS_lens b5).1
 obtain ⟨q6, e6⟩ : ∃ q, q = rtextS q5.2 := ⟨_, rfl⟩
 rw [← e6] at c6 b6 b6t
 have c7 := number_b q6.2 (big_of b6 (by omega))
 obtain ⟨q7, e7⟩ : ∃ q, q = rnumS q6.2 := ⟨_, rfl⟩
 rw [← e7] at c7
 have eT : pCol (s, x) = (⟨q1.1, str q2.1, ⟨q3.1, q4.1⟩, q5.1, getR (cellsOf q6.1) 0, q7.1⟩, (q7.2, x || badOf q6.1)) := by
  rw [e7, e6, e5, e4, e3, e2, e1]
  simp only [pCol, sq, un, pText, pNum, pFlag, pDft]
 rw [eT]
 clear eT
 have c8 := parse_rowU q6.1 b6t
 have hll : (cellsOf q6.1).length ≤ 1000000 := by
  cases hp : parseS q6.1 with
  | none => rw [cellsOf_none hp]; simp
  | some l => rw [cellsOf_some hp]; exact parse_len hp (by omega)
 have hpc : ((parseS q6.1).isSome = false ∧ cellsOf q6.1 = [] ∧ badOf q6.1 = true) ∨ ((parseS q6.1).isSome = true ∧ badOf q6.1 = badL (cellsOf q6.1)) := by
  cases hp : parseS q6.1 with
  | none => exact .inl ⟨rfl, cellsOf_none hp, by unfold badOf; rw [hp]⟩
  | some l => exact .inr ⟨rfl, by rw [cellsOf_some hp]; exact badOf_some hp⟩
 have ed : (str q6.1).data.toList = q6.1 := by simp [str]
 have es : (str q6.1).size = q6.1.length := str_size _
 obtain ⟨L, hLe⟩ : ∃ L, L = cellsOf q6.1 := ⟨_, rfl⟩
 obtain ⟨B, hBe⟩ : ∃ B, B = badOf q6.1 := ⟨_, rfl⟩
 obtain ⟨okp, hoe⟩ : ∃ b, b = (parseS q6.1).isSome := ⟨_, rfl⟩
 rw [← hLe, ← hoe] at c8
 rw [← hLe] at hll
 rw [← hLe, ← hBe, ← hoe] at hpc
 rw [← hLe, ← hBe]
 clear hLe hBe hoe
 have c9 := get_row L hll 0
 obtain ⟨v, hv⟩ : ∃ v, v = getR L 0 := ⟨_, rfl⟩
 rw [← hv] at c9 ⊢
 clear hv
 simp (maxSteps := 1000000) [hho, noHo, rrO, -List.reduceReplicate]
 refine draw_cut (fun _ : Unit => ⟨slotsOf 85 [(0, .ptr 0 0 2), (2, .ptr 2 0 10), (3, .ptr 3 0 10)], [.o .box [.ptr 1 0 2, .c (.bool x)], .o .box (rdCells q2.2), .o .box (colA colZ), .o .box (colA ⟨q1.1, str q2.1, ⟨0, 0⟩, false, vZ, 0⟩)]⟩) (fun _ => True) ?_ ?_
 case refine_2 =>
  refine draw_k hho (.take 0 (.take 1 (.take 2 (.take 3 (.take 5 (.take 6 (.take 7 (.take 8 (.alt 4 (.alt 9 (.take 10 (.alt 11 (.alt 12 (.done) (.nil)) (.nil))) (.alt 11 (.alt 9 (.take 10 (.alt 12 (.done) (.nil))) (.nil)) (.nil))) (.alt 11 (.alt 4 (.alt 9 (.take 10 (.alt 12 (.done) (.nil))) (.nil)) (.nil)) (.nil))))))))))) [0] [(4, [1]), (9, [1]), (12, [3])] (by decide +kernel) (by simp) ?_
  simp (maxSteps := 1000000) [hho, noHo, roOf, holdOf, wrOf, altK, heldOk, Region.binds, -List.reduceReplicate]
  repeat' (first | apply And.intro | with_reducible intro _)
  all_goals
   refine call_h [1] (c1) rfl (rd_ho rfl) ⟨rfl, rfl⟩ (by simp) (by simp) (by decide) ⟨by simp, rdP_ok _, trivial⟩ (by simp) ?_
   simp (maxSteps := 1000000) [hho, noHo, roOf, holdOf, wrOf, altK, heldOk, Region.binds, -List.reduceReplicate]
  repeat' (first | apply And.intro | with_reducible intro _)
  all_goals
   refine call_h [1] (c2) rfl (rd_ho rfl) ⟨rfl, rfl⟩ (by simp) (by simp) (by decide) ⟨by simp, rdP_ok _, trivial⟩ (by simp) ?_
   simp (maxSteps := 1000000) [hho, noHo, roOf, holdOf, wrOf, altK, heldOk, Region.binds, -List.reduceReplicate]
  repeat' (first | apply And.intro | with_reducible intro _)
  all_goals
   refine dcut_to () trivial ?_
   exact wk_eq (by simp [hE, lens, rrO]) (by simp [colA, colZ, vZ]) (by simp [livH, livO, AV.livL, AV.liv, wkL, wkV, List.range', slotsOf])
 intro _ _
 simp (maxSteps := 1000000) [hho, noHo, slotsOf, colA, colZ, vZ, -List.reduceReplicate]
 refine call_x [1] (c3) rfl (rd_ho rfl) ⟨rfl, rfl⟩ hho (by simp) (by decide) ⟨by simp, rdP_ok _, trivial⟩ (by simp) ?_
 simp (maxSteps := 1000000) [hho, noHo, -List.reduceReplicate]
 refine call_x [1] (c4) rfl (rd_ho rfl) ⟨rfl, rfl⟩ hho (by simp) (by decide) ⟨by simp, rdP_ok _, trivial⟩ (by simp) ?_
 simp (maxSteps := 1000000) [hho, noHo, -List.reduceReplicate]
 refine call_x [1] (c5) rfl (rd_ho rfl) ⟨rfl, rfl⟩ hho (by simp) (by decide) ⟨by simp, rdP_ok _, trivial⟩ (by simp) ?_
 simp (maxSteps := 1000000) [hho, noHo, -List.reduceReplicate]
 refine call_x [1] (c6) rfl (rd_ho rfl) ⟨rfl, rfl⟩ hho (by simp) (by decide) ⟨by simp, rdP_ok _, trivial⟩ (by simp) ?_
 simp (maxSteps := 1000000) [hho, noHo, ed, es, -List.reduceReplicate]
 refine ⟨by omega, ?_⟩
 refine call_0 (c8) rfl rfl hho (by simp) ?_
 simp (maxSteps := 1000000) [hho, noHo, -List.reduceReplicate]
 refine seq_cut mixed [] (fun _ : Unit => ⟨slotsOf 85 [(0, .ptr 0 0 2), (2, .ptr 2 0 10), (3, .ptr 3 0 10), (4, .fs 5 L.length (cellsA L))], [.o .box [.ptr 1 0 2, .c (.bool (x || B))], .o .box (rdCells q6.2), .o .box (colA colZ), .o .box (colA ⟨q1.1, str q2.1, ⟨q3.1, q4.1⟩, q5.1, vZ, 0⟩)]⟩) (fun _ => True) ?_ ?_
 case refine_2 =>
  rcases hpc with ⟨rfl, rfl, rfl⟩ | ⟨rfl, hB⟩
  ·cases x
   all_goals
    simp (maxSteps := 1000000) [hho, noHo, undef, onGP_none, condG_false, -List.reduceReplicate]
    refine cut_to () trivial ?_
    exact wk_eq (by simp [hE, lens, rrO]) (by simp [colA, colZ, vZ]) (by simp [livH, livO, AV.livL, AV.liv, wkL, wkV, List.range', slotsOf])
  ·rcases L with _ | ⟨a, _ | ⟨a2, l2⟩⟩
   ·have hB : B = false := hB
    subst hB
    cases x
    all_goals
     simp (maxSteps := 1000000) [hho, noHo, cellsA, undef, onGP_none, condG_false, -List.reduceReplicate]
     refine cut_to () trivial ?_
     exact wk_eq (by simp [hE, lens, rrO]) (by simp [colA, colZ, vZ]) (by simp [livH, livO, AV.livL, AV.liv, wkL, wkV, List.range', slotsOf])
   ·have hB : B = decide (a.col ≠ 0) := hB
    by_cases hc0 : a.col = 0
    all_goals
     subst hB
     cases x
    all_goals
     simp (maxSteps := 1000000) [hho, noHo, cellsA_one, cellA, hc0, undef, onGP_none, condG_false, -List.reduceReplicate]
     refine cut_to () trivial ?_
     exact wk_eq (by simp [hE, lens, rrO]) (by simp [colA, colZ, vZ, hc0]) (by simp [livH, livO, AV.livL, AV.liv, wkL, wkV, List.range', slotsOf])
   ·have hB : B = true := hB
    subst hB
    have hl4 : ¬ ((l2.length : Int) + 1 + 1 ≤ 1) := by omega
    have hl5 : (1 : Int) < (l2.length : Int) + 1 + 1 := by omega
    cases x
    all_goals
     simp (maxSteps := 1000000) [hho, noHo, cellsA_cons, cellA, hl4, hl5, undef, onGP_none, condG_false, -List.reduceReplicate]
     refine cut_to () trivial ?_
     exact wk_eq (by simp [hE, lens, rrO]) (by simp [colA, colZ, vZ]) (by simp [livH, livO, AV.livL, AV.liv, wkL, wkV, List.range', slotsOf])
 intro _ _
 simp (maxSteps := 1000000) [hho, noHo, slotsOf, colA, colZ, vZ, -List.reduceReplicate]
 refine call_0 (c9) rfl rfl hho (by simp) ?_
 simp (maxSteps := 1000000) [hho, noHo, valA, -List.reduceReplicate]
 refine call_x [1] (c7) rfl (rd_ho rfl) ⟨rfl, rfl⟩ hho (by simp) (by decide) ⟨by simp, rdP_ok _, trivial⟩ (by simp) ?_
 simp (maxSteps := 1000000) [hho, noHo, -List.reduceReplicate]
 refine Ret.sel [0, 1] (fun _ => false) (ho := rr_ho (i := 0) (k := 1) rfl rfl (by decide)) (ha := by rfl) ?_ ?_ (by decide) (by simp) (fun i _ h => ?_) ⟨rfl, rfl⟩
 ·first | exact ⟨⟨trivial, trivial, trivial⟩, rdP_ok _, trivial⟩ | simp
 ·first | exact ⟨⟨trivial, trivial, trivial⟩, rdP_ok _, trivial⟩ | simp
 ·have e : i = 0 ∨ i = 1 := by have := of_decide_eq_true h; omega
  rcases e with rfl | rfl <;> rfl

set_option maxHeartbeats 16000000 in
theorem rdindex_w (t : PSt) (ht : PBig t) : ACalls Tryz.prog 153 [.ptr 0 0 2] (rrO t) (fun k => decide (k < 2)) (fun r h' => r = .agg (idxA (pIdx t).1) ∧ h' = rrO (pIdx t).2) := by
 refine acalls mixed Tryz.func153 rfl Tryz.ntmps153 rfl fun E hE hst hho => ?_
 obtain ⟨s, x⟩ := t
 have hs : ∀ l, s = some l → l.length ≤ 100000 := ht
 have c1 := number_b s (big_of hs (by omega))
 have b1 := rnumS_len hs
 obtain ⟨q1, e1⟩ : ∃ q, q = rnumS s := ⟨_, rfl⟩
 rw [← e1] at c1 b1
 have c2 := text_b q1.2 (big_of b1 (by omega))
 have b2 := (rtextS_lens b1).2
 obtain ⟨q2, e2⟩ : ∃ q, q = rtextS q1.2 := ⟨_, rfl⟩
 rw [← e2] at c2 b2
 have c3 := manyInt_w (q2.2, x) b2
 have b3 := (pMany_sim (pNum_sim 100000)).small (q2.2, x) b2
 obtain ⟨q3, e3⟩ : ∃ q, q = pMany pNum (q2.2, x) := ⟨_, rfl⟩
 rw [← e3] at c3 b3
 obtain ⟨v3, s3, x3⟩ := q3
 have b3 : ∀ l, s3 = some l → l.length ≤ 100000 := b3
 have c4 := flag_b s3 (big_of b3 (by omega))
 have b4 : ∀ l, (rflagS s3).2 = some l → l.length ≤ 100000 := rcountS_len' (m := 1) b3
 obtain ⟨q4, e4⟩ : ∃ q, q = rflagS s3 := ⟨_, rfl⟩
 rw [← e4] at c4 b4
 have c5 := number_b q4.2 (big_of b4 (by omega))
 obtain ⟨q5, e5⟩ : ∃ q, q = rnumS q4.2 := ⟨_, rfl⟩
 rw [← e5] at c5
 have eT : pIdx (s, x) = (⟨q1.1, str q2.1, v3, q4.1, q5.1⟩, (q5.2, x3)) := by
  rw [e2, e1] at e3
  simp only [pIdx, sq, un, pText, pNum, pFlag, ← e3, e5, e4]
  rw [e2, e1]
 rw [eT]
 clear eT
 simp only at c3
 simp (maxSteps := 1000000) [hho, noHo, rrO, -List.reduceReplicate]
 refine draw_cut (fun _ : Unit => ⟨slotsOf 36 [(0, .ptr 0 0 2), (2, .ptr 2 0 5), (3, .ptr 3 0 5)], [.o .box [.ptr 1 0 2, .c (.bool x)], .o .box (rdCells q2.2), .o .box [.c (.int .i64 0), .c (.string ByteArray.empty), .c (.slice none 0 0), .c (.bool false), .c (.int .i64 0)], .o .box [.c (.int .i64 q1.1), .c (.string (str q2.1)), .c (.slice none 0 0), .c (.bool false), .c (.int .i64 0)]]⟩) (fun _ => True) ?_ ?_
 case refine_2 =>
  refine draw_k hho (.take 0 (.take 1 (.take 2 (.take 3 (.take 5 (.take 6 (.take 7 (.take 8 (.alt 4 (.alt 9 (.take 10 (.alt 11 (.alt 12 (.done) (.nil)) (.nil))) (.alt 11 (.alt 9 (.take 10 (.alt 12 (.done) (.nil))) (.nil)) (.nil))) (.alt 11 (.alt 4 (.alt 9 (.take 10 (.alt 12 (.done) (.nil))) (.nil)) (.nil)) (.nil))))))))))) [0] [(4, [1]), (9, [1]), (12, [3])] (by decide +kernel) (by simp) ?_
  simp (maxSteps := 1000000) [hho, noHo, roOf, holdOf, wrOf, altK, heldOk, Region.binds, -List.reduceReplicate]
  repeat' (first | apply And.intro | with_reducible intro _)
  all_goals
   refine call_h [1] (c1) rfl (rd_ho rfl) ⟨rfl, rfl⟩ (by simp) (by simp) (by decide) ⟨by simp, rdP_ok _, trivial⟩ (by simp) ?_
   simp (maxSteps := 1000000) [hho, noHo, roOf, holdOf, wrOf, altK, heldOk, Region.binds, -List.reduceReplicate]
  repeat' (first | apply And.intro | with_reducible intro _)
  all_goals
   refine call_h [1] (c2) rfl (rd_ho rfl) ⟨rfl, rfl⟩ (by simp) (by simp) (by decide) ⟨by simp, rdP_ok _, trivial⟩ (by simp) ?_
   simp (maxSteps := 1000000) [hho, noHo, roOf, holdOf, wrOf, altK, heldOk, Region.binds, -List.reduceReplicate]
  repeat' (first | apply And.intro | with_reducible intro _)
  all_goals
   refine dcut_to () trivial ?_
   exact wk_eq (by simp [hE, lens, rrO]) (by simp [rrO]) (by simp [livH, livO, AV.livL, AV.liv, wkL, wkV, List.range', slotsOf])
 intro _ _
 simp (maxSteps := 1000000) [hho, noHo, slotsOf, -List.reduceReplicate]
 refine call_x [0, 1] (c3) rfl (rr_ho rfl rfl (by decide)) ⟨rfl, rfl⟩ hho (by simp) (by decide) ⟨by simp, ⟨trivial, trivial, trivial⟩, rdP_ok _, trivial⟩ (by simp) ?_
 simp (maxSteps := 1000000) [hho, noHo, rrO, -List.reduceReplicate]
 refine call_x [1] (c4) rfl (rd_ho rfl) ⟨rfl, rfl⟩ hho (by simp) (by decide) ⟨by simp, rdP_ok _, trivial⟩ (by simp) ?_
 simp (maxSteps := 1000000) [hho, noHo, -List.reduceReplicate]
 refine call_x [1] (c5) rfl (rd_ho rfl) ⟨rfl, rfl⟩ hho (by simp) (by decide) ⟨by simp, rdP_ok _, trivial⟩ (by simp) ?_
 simp (maxSteps := 1000000) [hho, noHo, -List.reduceReplicate]
 refine Ret.sel [0, 1] (fun _ => false) (ho := rr_ho (i := 0) (k := 1) rfl rfl (by decide)) (ha := by rfl) ?_ ?_ (by decide) (by simp) (fun i _ h => ?_) ⟨rfl, rfl⟩
 ·first | exact ⟨⟨trivial, trivial, trivial⟩, rdP_ok _, trivial⟩ | simp
 ·first | exact ⟨⟨trivial, trivial, trivial⟩, rdP_ok _, trivial⟩ | simp
 ·have e : i = 0 ∨ i = 1 := by have := of_decide_eq_true h; omega
  rcases e with rfl | rfl <;> rfl
set_option maxHeartbeats 16000000 in
theorem rdtable_w (t : PSt) (ht : PBig t) : ACalls Tryz.prog 103 [.ptr 0 0 2] (rrO t) (fun k => decide (k < 2)) (fun r h' => r = .agg (tabA (pTab t).1) ∧ h' = rrO (pTab t).2) := by
 refine acalls mixed Tryz.func103 rfl Tryz.ntmps103 rfl fun E hE hst hho => ?_
 obtain ⟨s, x⟩ := t
 have hs : ∀ l, s = some l → l.length ≤ 100000 := ht
 have c1 := number_b s (big_of hs (by omega))
 have b1 := rnumS_len hs
 obtain ⟨q1, e1⟩ : ∃ q, q = rnumS s := ⟨_, rfl⟩
 rw [← e1] at c1 b1
 have c2 := text_b q1.2 (big_of b1 (by omega))
 have b2 := (rtextS_lens b1).2
 obtain ⟨q2, e2⟩ : ∃ q, q = rtextS q1.2 := ⟨_, rfl⟩
 rw [← e2] at c2 b2
 have c3 := manyColumn_w (q2.2, x) b2 (by simp) fun t ht => rdcolumn_w t ht
 have b3 := (pMany_sim (pCol_sim 100000)).small (q2.2, x) b2
 obtain ⟨q3, e3⟩ : ∃ q, q = pMany pCol (q2.2, x) := ⟨_, rfl⟩
 rw [← e3] at c3 b3
 obtain ⟨v3, s3, x3⟩ := q3
 have b3 : ∀ l, s3 = some l → l.length ≤ 100000 := b3
 have c4 := manyIndex_w (s3, x3) b3 (by simp) fun t ht => rdindex_w t ht
 obtain ⟨q4, e4⟩ : ∃ q, q = pMany pIdx (s3, x3) := ⟨_, rfl⟩
 rw [← e4] at c4
 obtain ⟨v4, s4, x4⟩ := q4
 have eT : pTab (s, x) = (⟨q1.1, str q2.1, v3, v4⟩, (s4, x4)) := by
  rw [e2, e1] at e3
  simp only [pTab, sq, un, pText, pNum, ← e3, ← e4]
  rw [e2, e1]
 rw [eT]
 clear eT
 simp only at c3 c4
 simp (maxSteps := 1000000) [hho, noHo, rrO, -List.reduceReplicate]
 refine draw_cut (fun _ : Unit => ⟨slotsOf 26 [(0, .ptr 0 0 2), (2, .ptr 2 0 4), (3, .ptr 3 0 4)], [.o .box [.ptr 1 0 2, .c (.bool x)], .o .box (rdCells q2.2), .o .box [.c (.int .i64 0), .c (.string ByteArray.empty), .c (.slice none 0 0), .c (.slice none 0 0)], .o .box [.c (.int .i64 q1.1), .c (.string (str q2.1)), .c (.slice none 0 0), .c (.slice none 0 0)]]⟩) (fun _ => True) ?_ ?_
 case refine_2 =>
  refine draw_k hho (.take 0 (.take 1 (.take 2 (.take 3 (.take 5 (.take 6 (.take 7 (.take 8 (.alt 4 (.alt 9 (.take 10 (.alt 11 (.alt 12 (.done) (.nil)) (.nil))) (.alt 11 (.alt 9 (.take 10 (.alt 12 (.done) (.nil))) (.nil)) (.nil))) (.alt 11 (.alt 4 (.alt 9 (.take 10 (.alt 12 (.done) (.nil))) (.nil)) (.nil)) (.nil))))))))))) [0] [(4, [1]), (9, [1]), (12, [3])] (by decide +kernel) (by simp) ?_
  simp (maxSteps := 1000000) [hho, noHo, roOf, holdOf, wrOf, altK, heldOk, Region.binds, -List.reduceReplicate]
  repeat' (first | apply And.intro | with_reducible intro _)
  all_goals
   refine call_h [1] (c1) rfl (rd_ho rfl) ⟨rfl, rfl⟩ (by simp) (by simp) (by decide) ⟨by simp, rdP_ok _, trivial⟩ (by simp) ?_
   simp (maxSteps := 1000000) [hho, noHo, roOf, holdOf, wrOf, altK, heldOk, Region.binds, -List.reduceReplicate]
  repeat' (first | apply And.intro | with_reducible intro _)
  all_goals
   refine call_h [1] (c2) rfl (rd_ho rfl) ⟨rfl, rfl⟩ (by simp) (by simp) (by decide) ⟨by simp, rdP_ok _, trivial⟩ (by simp) ?_
   simp (maxSteps := 1000000) [hho, noHo, roOf, holdOf, wrOf, altK, heldOk, Region.binds, -List.reduceReplicate]
  repeat' (first | apply And.intro | with_reducible intro _)
  all_goals
   refine dcut_to () trivial ?_
   exact wk_eq (by simp [hE, lens, rrO]) (by simp [rrO]) (by simp [livH, livO, AV.livL, AV.liv, wkL, wkV, List.range', slotsOf])
 intro _ _
 simp (maxSteps := 1000000) [hho, noHo, slotsOf, -List.reduceReplicate]
 refine call_x [0, 1] (c3) rfl (rr_ho rfl rfl (by decide)) ⟨rfl, rfl⟩ hho (by simp) (by decide) ⟨by simp, ⟨trivial, trivial, trivial⟩, rdP_ok _, trivial⟩ (by simp) ?_
 simp (maxSteps := 1000000) [hho, noHo, rrO, -List.reduceReplicate]
 refine call_x [0, 1] (c4) rfl (rr_ho rfl rfl (by decide)) ⟨rfl, rfl⟩ hho (by simp) (by decide) ⟨by simp, ⟨trivial, trivial, trivial⟩, rdP_ok _, trivial⟩ (by simp) ?_
 simp (maxSteps := 1000000) [hho, noHo, rrO, -List.reduceReplicate]
 refine Ret.sel [0, 1] (fun _ => false) (ho := rr_ho (i := 0) (k := 1) rfl rfl (by decide)) (ha := by rfl) ?_ ?_ (by decide) (by simp) (fun i _ h => ?_) ⟨rfl, rfl⟩
 ·first | exact ⟨⟨trivial, trivial, trivial⟩, rdP_ok _, trivial⟩ | simp
 ·first | exact ⟨⟨trivial, trivial, trivial⟩, rdP_ok _, trivial⟩ | simp
 ·have e : i = 0 ∨ i = 1 := by have := of_decide_eq_true h; omega
  rcases e with rfl | rfl <;> rfl
def schZ : SchS := ⟨0, 0, []⟩
def schParseA (b : Bs) : AV := match parSch b with
 | some s => .tup [.agg (schA s), .c (.bool true)]
 | none => .tup [.agg (schA schZ), .c (.bool false)]
theorem Ret.nilA {st : Nat → Bool} {h : List AObj} {l l' : List AV} {u : AV} {Post : AV → List AObj → Prop} (hn : NilL l l') (hr : Ret st Post h (.tup [.agg l', u])) : Ret st Post h (.tup [.agg l, u]) := by
 refine Ret.wk (fun E hE => ?_) hr
 refine wk_slot 0 (old := .tup [.agg l, u]) rfl fun G F w v _ hv => ?_
 obtain ⟨cs, rfl, h1, h2⟩ := tup_inv hv
 refine .tup _ cs h1 fun j u' x hu hx => ?_
 match j, hu with
 | 0, hu => simp at hu; subst hu; exact nil_agg hn (h2 0 _ x rfl hx)
 | 1, hu => simp at hu; subst hu; exact h2 1 _ x rfl hx
theorem schM_big {s : SchS} (h : SchM 100000 s) : s.tabs.length ≤ 1000000 ∧ ∀ t ∈ s.tabs, TabBig t := by
 refine ⟨by have := h.1; omega, fun t ht => ?_⟩
 obtain ⟨h1, ⟨h2, h3⟩, h4, h5⟩ := h.2 t ht
 exact ⟨by omega, by omega, by omega, fun c hc => by have := h3 c hc; exact ⟨by have := this.1; omega, by have := this.2; omega⟩, fun x hx => by have := h5 x hx; exact ⟨by have := this.1; omega, by have := this.2; omega⟩⟩
set_option maxHeartbeats 16000000 in
theorem scParse_w (b : Bs) (hb : b.length ≤ 100000) : ACalls Tryz.prog 53 [.fs 1 b.length (u8av b)] [] (fun _ => false) (fun r h' => r = schParseA b ∧ h' = []) := by
 refine acalls mixed Tryz.func53 rfl Tryz.ntmps53 rfl fun E hE hst hho => ?_
 have hs : ∀ l, some b = some l → l.length ≤ 100000 := fun l e => by injection e with e; subst e; exact hb
 have c0 := read_b b (by omega)
 have hpp := parSch_prog b
 have hval := (pSch_sim 100000).val (some b, false) hs
 unfold schParseA
 obtain ⟨s, hse⟩ : ∃ s, s = some b := ⟨_, rfl⟩
 rw [← hse] at hs c0 hpp hval
 have c1 := number_b s (big_of hs (by omega))
 have b1 := rnumS_len hs
 obtain ⟨q1, e1⟩ : ∃ q, q = rnumS s := ⟨_, rfl⟩
 rw [← e1] at c1 b1
 have c2 := number_b q1.2 (big_of b1 (by omega))
 have b2 := rnumS_len b1
 obtain ⟨q2, e2⟩ : ∃ q, q = rnumS q1.2 := ⟨_, rfl⟩
 rw [← e2] at c2 b2
 have c3 := manyTable_w (q2.2, false) b2 (by simp) fun t ht => rdtable_w t ht
 have b3 := (pMany_sim (pTab_sim 100000)).small (q2.2, false) b2
 obtain ⟨q3, e3⟩ : ∃ q, q = pMany pTab (q2.2, false) := ⟨_, rfl⟩
 rw [← e3] at c3 b3
 obtain ⟨v3, s3, x3⟩ := q3
 have eT : pSch (s, false) = (⟨q1.1, q2.1, v3⟩, (s3, x3)) := by
  rw [e2, e1] at e3
  simp only [pSch, sq, un, pNum, ← e3]
  rw [e2, e1]
 rw [eT] at hpp hval
 clear eT
 obtain ⟨S, hS⟩ : ∃ S : SchS, S = ⟨q1.1, q2.1, v3⟩ := ⟨_, rfl⟩
 have hSA : schA S = [.c (.int .i64 q1.1), .c (.int .i64 q2.1), .fs 4 v3.length (tabsA v3)] := by rw [hS]; rfl
 rw [← hS] at hpp hval
 obtain ⟨hv1, hv2⟩ := schM_big hval
 have c6 := right_sc S hv1 hv2
 rw [hSA] at c6
 have c5 := end_b s3
 simp only at c3 hpp
 have hZ : NilL [.c (.int .i64 0), .c (.int .i64 0), .c (.slice none 0 0)] (schA schZ) := .same _ (.same _ (.slice 4 .nil))
 have hfail : ¬ ((s3, x3) = ((some [], false) : PSt) ∧ schOk S = true) → parSch b = none := fun h => by
  rcases hpp with ⟨h1, _⟩ | ⟨s', h1, h2, h3⟩
  ·exact h1
  ·have h4 := congrArg Prod.fst h2
   have h5 := congrArg Prod.snd h2
   simp only at h4 h5
   subst h4
   exact absurd ⟨h5, h3⟩ h
 simp (maxSteps := 1000000) [hho, noHo, -List.reduceReplicate]
 refine call_0 (c0) rfl rfl hho (by simp) ?_
 simp (maxSteps := 1000000) [hho, noHo, -List.reduceReplicate]
 refine draw_cut (fun _ : Unit => ⟨slotsOf 45 [(2, .ptr 0 0 3), (4, .ptr 2 0 2), (5, .ptr 3 0 3)], [.o .box [.c (.int .i64 0), .c (.int .i64 0), .c (.slice none 0 0)], .o .box (rdCells q2.2), .o .box [.ptr 1 0 2, .c (.bool false)], .o .box [.c (.int .i64 q1.1), .c (.int .i64 q2.1), .c (.slice none 0 0)]]⟩) (fun _ => True) ?_ ?_
 case refine_2 =>
  refine draw_k hho (.take 0 (.take 1 (.take 2 (.take 3 (.take 5 (.take 6 (.take 7 (.take 8 (.alt 4 (.alt 9 (.take 10 (.alt 11 (.alt 12 (.done) (.nil)) (.nil))) (.alt 11 (.alt 9 (.take 10 (.alt 12 (.done) (.nil))) (.nil)) (.nil))) (.alt 11 (.alt 4 (.alt 9 (.take 10 (.alt 12 (.done) (.nil))) (.nil)) (.nil)) (.nil))))))))))) [2] [(4, [1]), (9, [1]), (12, [3])] (by decide +kernel) (by simp) ?_
  simp (maxSteps := 1000000) [hho, noHo, roOf, holdOf, wrOf, altK, heldOk, Region.binds, -List.reduceReplicate]
  repeat' (first | apply And.intro | with_reducible intro _)
  all_goals
   refine call_h [1] (c1) rfl (rd_ho rfl) ⟨rfl, rfl⟩ (by simp) (by simp) (by decide) ⟨by simp, rdP_ok _, trivial⟩ (by simp) ?_
   simp (maxSteps := 1000000) [hho, noHo, roOf, holdOf, wrOf, altK, heldOk, Region.binds, -List.reduceReplicate]
  repeat' (first | apply And.intro | with_reducible intro _)
  all_goals
   refine call_h [1] (c2) rfl (rd_ho rfl) ⟨rfl, rfl⟩ (by simp) (by simp) (by decide) ⟨by simp, rdP_ok _, trivial⟩ (by simp) ?_
   simp (maxSteps := 1000000) [hho, noHo, roOf, holdOf, wrOf, altK, heldOk, Region.binds, -List.reduceReplicate]
  repeat' (first | apply And.intro | with_reducible intro _)
  all_goals
   refine dcut_to () trivial ?_
   exact wk_eq (by simp [hE, lens, rrO]) (by simp [rrO]) (by simp [livH, livO, AV.livL, AV.liv, wkL, wkV, List.range', slotsOf])
 intro _ _
 simp (maxSteps := 1000000) [hho, noHo, slotsOf, -List.reduceReplicate]
 refine call_x [2, 1] (c3) rfl (rr_ho rfl rfl (by decide)) ⟨rfl, rfl⟩ hho (by simp) (by decide) ⟨by simp, ⟨trivial, trivial, trivial⟩, rdP_ok _, trivial⟩ (by simp) ?_
 cases x3 with
 | true =>
  simp (maxSteps := 1000000) [hho, noHo, rrO, undef, onGP_none, condG_false, -List.reduceReplicate]
  rw [hfail fun h => by have := congrArg Prod.snd h.1; cases this]
  exact Ret.nilA hZ (Ret.sel [] (fun _ => false) (ho := by rfl) (ha := by rfl) (by simp) (by simp [schA]) (by decide) (by simp) (fun i _ h => by cases h) ⟨rfl, rfl⟩)
 | false =>
 simp (maxSteps := 1000000) [hho, noHo, rrO, undef, onGP_none, condG_false, -List.reduceReplicate]
 refine call_x [1] (c5) rfl (rd_ho rfl) ⟨rfl, rfl⟩ hho (by simp) (by decide) ⟨by simp, rdP_ok _, trivial⟩ (by simp) ?_
 by_cases h3 : s3 = some []
 case neg =>
  simp (maxSteps := 1000000) [hho, noHo, h3, undef, onGP_none, condG_false, -List.reduceReplicate]
  rw [hfail fun h => h3 (congrArg Prod.fst h.1)]
  exact Ret.nilA hZ (Ret.sel [] (fun _ => false) (ho := by rfl) (ha := by rfl) (by simp) (by simp [schA]) (by decide) (by simp) (fun i _ h => by cases h) ⟨rfl, rfl⟩)
 simp (maxSteps := 1000000) [hho, noHo, h3, undef, onGP_none, condG_false, -List.reduceReplicate]
 refine call_0 (c6) rfl rfl hho (by simp) ?_
 cases hok : schOk S with
 | false =>
  simp (maxSteps := 1000000) [hho, noHo, undef, onGP_none, condG_false, -List.reduceReplicate]
  rw [hfail fun h => by rw [hok] at h; cases h.2]
  exact Ret.nilA hZ (Ret.sel [] (fun _ => false) (ho := by rfl) (ha := by rfl) (by simp) (by simp [schA]) (by decide) (by simp) (fun i _ h => by cases h) ⟨rfl, rfl⟩)
 | true =>
 simp (maxSteps := 1000000) [hho, noHo, undef, onGP_none, condG_false, -List.reduceReplicate]
 have hgood : parSch b = some S := by
  rcases hpp with ⟨_, h1⟩ | ⟨s', h1, h2, h3'⟩
  ·exact absurd ⟨by rw [h3], hok⟩ h1
  ·rw [h1]; exact congrArg some (congrArg Prod.fst h2).symm
 rw [hgood]
 exact Ret.sel [] (fun _ => false) (ho := by rfl) (ha := by rfl) (by simp) (by simp) (by decide) (by simp) (fun i _ h => by cases h) ⟨by simp only [hSA], rfl⟩
end Go.Proofs.YthgoocdldnkogaaGreatDoor
