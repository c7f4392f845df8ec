import Derived.Test.YthgoocdldnkogaaGreatDoorHU
import Derived.Test.YthgoocdldnkogaaGreatDoorHN
import Derived.Test.YthgoocdldnkogaaGreatDoorHR1
namespace Go.Proofs.YthgoocdldnkogaaGreatDoor
set_option linter.unusedVariables false
set_option linter.unusedSimpArgs false
open Go.RowKit
attribute [local simp] isCut_nil isCut_region isCut_seq isCut_block isCut_loop isCut_cond isCut_skip isCut_exit isCut_ret isCut_range swapK putK altK condK_bool pickP_bool stepP stepO onPure_some onPure_none onImpl_some onImpl_none stepC onGP_some onGP_none onGV_some condG mkG onIt_it nextP_ptr takeP_eq takeV_some takeV_none takeU_some takeU_none takeQ takeW_some takeN_none takeN_some takeG_some takeO_some altO_some pureV binV2 eqF eqOp ovlV ovl2 rowAt capV binV intBin strBin isSh shV fldV ixV sliceV slice3V loadAV nilV lenV callV unV convV viewS cellsH loadV fldCut AV.ung AV.ungs AV.gc AV.cells AS.ev AS.put anyS gcsV gcO lens lnO gV guardV retK RetP_eq resV oneV anyRo loIx hiIx implO callP_clo evL gcsL clearV storeAV AS.push AS.setO appV appZ shortS copyV buildV partsV fillV srcV fzO okV isCell_c isCell_ptr isCell_sl isCell_fs isCell_fp isCell_clo rowZ_one rowZ_zero rowZ_2 rowZ_3 rowZ_4 rowZ_5 rowZ_6 rowZ_7 rowZ_8 rowZ_9 rowZ_10 rowZ_11 rowZ_12 noHo Value.oneCell' max2V min2V lookV updV updK updW cvals mkAt basV lenM msAt afterH putBack frzFrom frzO rebO backIx nilEq_sl nilEq_fs nilEq_ifn nilEq_ifh ifOp_eql ifOp_neq isLit nilOp_eql nilOp_neq AV.reb AV.rebL
attribute [local simp ↓] runK_skip runK_region runK_draw runK_seq runK_cut runK_cond runK_block runK_loop runK_exit runK_label runK_goto runK_ret runK_range contK_nil contK_seq contK_seq_ret contK_seq_exit contK_seq_goto contK_block contK_block_ret contK_block_goto contK_block_exit runO_nil runO_cons roundK_exit roundK_ret roundK_goto exitK_ret cutK_ret cutK_exit runE_done runE_nil runE_take runE_alt condG_true condG_false
set_option maxRecDepth 10000
theorem text_w (b : List UInt8) (hb : b.length ≤ 100000000000) (s : ByteArray) (hs : s.size ≤ 100000000000) : ACalls Tryz.prog 92 [.ptr 0 0 1, .c (.string s)] (wrO b) (fun k => decide (k < 2)) (fun r h' => r = .tup [] ∧ h' = wrO (b ++ txt s)) := by
 refine acalls mixed Tryz.func92 rfl Tryz.ntmps92 rfl fun E hE hst hho => ?_
 have hnl := num_len (s.size : Int) (by omega) (by omega)
 have hsl : s.data.toList.length = s.size := rfl
 simp (maxSteps := 1000000) [wrO, hho, noHo, -List.reduceReplicate]
 refine call_x [0, 1] (number_w b (by omega) s.size (by omega) (by omega)) rfl rfl ⟨rfl, rfl⟩ hho (by simp) (by decide) (by simp) (by simp [wrO]) ?_
 obtain ⟨b1, hb1⟩ : ∃ b1, b1 = b ++ num s.size := ⟨_, rfl⟩
 have hbl : b1.length ≤ 200000000000 := by rw [hb1, List.length_append]; omega
 have hbe : b ++ txt s = b1 ++ s.data.toList := by rw [hb1, txt, List.append_assoc]
 rw [← hb1, hbe]
 simp (maxSteps := 1000000) [wrO, hho, noHo, -List.reduceReplicate]
 refine ⟨by omega, Ret.same ⟨rfl, ?_⟩⟩
 have hq := congrArg List.length hbe
 simp only [List.length_append, hsl] at hq
 simp [wrO, u8av]
 omega
theorem flag_w (b : List UInt8) (hb : b.length ≤ 100000000000) (x : Bool) : ACalls Tryz.prog 111 [.ptr 0 0 1, .c (.bool x)] (wrO b) (fun k => decide (k < 2)) (fun r h' => r = .tup [] ∧ h' = wrO (b ++ num (if x = true then 1 else 0))) := by
 refine acalls mixed Tryz.func111 rfl Tryz.ntmps111 rfl fun E hE hst hho => ?_
 cases x
 ·simp (maxSteps := 1000000) [wrO, hho, noHo, -List.reduceReplicate]
  refine call_x [0, 1] (number_w b (by omega) 0 (by omega) (by omega)) rfl rfl ⟨rfl, rfl⟩ hho (by simp) (by decide) (by simp) (by simp [wrO]) ?_
  simp (maxSteps := 1000000) [wrO, hho, noHo, -List.reduceReplicate]
  exact Ret.same ⟨rfl, rfl⟩
 ·simp (maxSteps := 1000000) [wrO, hho, noHo, -List.reduceReplicate]
  refine call_x [0, 1] (number_w b (by omega) 1 (by omega) (by omega)) rfl rfl ⟨rfl, rfl⟩ hho (by simp) (by decide) (by simp) (by simp [wrO]) ?_
  simp (maxSteps := 1000000) [wrO, hho, noHo, -List.reduceReplicate]
  exact Ret.same ⟨rfl, rfl⟩
theorem flag_r (s : Option (List UInt8)) (hs : ∀ l, s = some l → l.length ≤ 1000000000) : ACalls Tryz.prog 117 [.ptr 0 0 2] (rdS s) (fun k => decide (k < 1)) (fun r h' => r = .c (.bool (rflagS s).1) ∧ h' = rdS (rflagS s).2) := by
 refine acalls mixed Tryz.func117 rfl Tryz.ntmps117 rfl fun E hE hst hho => ?_
 have hn := count_r s hs 1
 unfold rflagS
 obtain ⟨v, hv⟩ : ∃ v, v = rcountS s 1 := ⟨_, rfl⟩
 rw [← hv] at hn ⊢
 obtain ⟨n, s2⟩ := v
 simp only at hn ⊢
 clear hv hs
 rcases s with _ | l <;> rcases s2 with _ | l2 <;>
 ·simp (maxSteps := 1000000) [rdS_none, rdS_some, hho, noHo, -List.reduceReplicate]
  refine call_x [0] hn rfl rfl ⟨rfl, rfl⟩ hho (by simp) (by decide) (by simp) (by simp [rdS]) ?_
  simp (maxSteps := 1000000) [rdS_some, rdS_none, hho, noHo, -List.reduceReplicate]
  exact Ret.same ⟨rfl, rfl⟩
theorem text_r (s : Option (List UInt8)) (hs : ∀ l, s = some l → l.length ≤ 1000000000) : ACalls Tryz.prog 114 [.ptr 0 0 2] (rdS s) (fun k => decide (k < 1)) (fun r h' => r = .c (.string (str (rtextS s).1)) ∧ h' = rdS (rtextS s).2) := by
 refine acalls mixed Tryz.func114 rfl Tryz.ntmps114 rfl fun E hE hst hho => ?_
 have hok := ok_r s
 have hn := number_r s hs
 rcases s with _ | l
 ·simp (maxSteps := 1000000) [rdS_none, rdS_some, hho, noHo, -List.reduceReplicate]
  refine call_x [0] hok rfl rfl ⟨rfl, rfl⟩ hho (by simp) (by decide) (by simp) (by simp [rdS]) ?_
  simp (maxSteps := 1000000) [rdS_some, rdS_none, hho, noHo, -List.reduceReplicate]
  exact Ret.same ⟨rfl, rfl⟩
 ·have hle := rnumS_len (s := some l) (m := l.length) (fun l' e => by injection e with e; rw [e]; exact Nat.le_refl _)
  obtain ⟨v, hv⟩ : ∃ v, v = rnumS (some l) := ⟨_, rfl⟩
  rw [← hv] at hn hle
  obtain ⟨n, s2⟩ := v
  simp only at hn hle
  have hl := hs l rfl
  clear hs
  rcases s2 with _ | l2
  ·have ht := take_r_none n
   have e : rtextS (some l) = ([], none) := by unfold rtextS; rw [← hv]
   rw [e]
   clear hv
   simp (maxSteps := 1000000) [rdS_none, rdS_some, hho, noHo, -List.reduceReplicate]
   refine call_x [0] hok rfl rfl ⟨rfl, rfl⟩ hho (by simp) (by decide) (by simp) (by simp [rdS]) ?_
   simp (maxSteps := 1000000) [rdS_some, rdS_none, hho, noHo, -List.reduceReplicate]
   refine call_x [0] hn rfl rfl ⟨rfl, rfl⟩ hho (by simp) (by decide) (by simp) (by simp [rdS]) ?_
   simp (maxSteps := 1000000) [rdS_some, rdS_none, hho, noHo, -List.reduceReplicate]
   refine call_x [0] ht rfl rfl ⟨rfl, rfl⟩ hho (by simp) (by decide) (by simp) (by simp [rdS]) ?_
   simp (maxSteps := 1000000) [rdS_some, rdS_none, hho, noHo, -List.reduceReplicate]
   exact Ret.same ⟨rfl, rfl⟩
  ·have hl2 : l2.length ≤ l.length := hle l2 rfl
   by_cases hc : n < 0 ∨ (l2.length : Int) < n
   ·have ht := take_r_bad l2 (by omega) n hc
    have e : rtextS (some l) = ([], none) := by unfold rtextS; rw [← hv]; exact if_pos hc
    rw [e]
    clear hv
    simp (maxSteps := 1000000) [rdS_none, rdS_some, hho, noHo, -List.reduceReplicate]
    refine call_x [0] hok rfl rfl ⟨rfl, rfl⟩ hho (by simp) (by decide) (by simp) (by simp [rdS]) ?_
    simp (maxSteps := 1000000) [rdS_some, rdS_none, hho, noHo, -List.reduceReplicate]
    refine call_x [0] hn rfl rfl ⟨rfl, rfl⟩ hho (by simp) (by decide) (by simp) (by simp [rdS]) ?_
    simp (maxSteps := 1000000) [rdS_some, rdS_none, hho, noHo, -List.reduceReplicate]
    refine call_x [0] ht rfl rfl ⟨rfl, rfl⟩ hho (by simp) (by decide) (by simp) (by simp [rdS]) ?_
    simp (maxSteps := 1000000) [rdS_some, rdS_none, hho, noHo, -List.reduceReplicate]
    exact Ret.same ⟨rfl, rfl⟩
   ·have e : rtextS (some l) = (l2.take n.toNat, some (l2.drop n.toNat)) := by unfold rtextS; rw [← hv]; exact if_neg hc
    rw [e]
    clear hv e
    obtain ⟨m, rfl⟩ : ∃ m : Nat, n = m := ⟨n.toNat, by omega⟩
    have hm : m ≤ l2.length := by omega
    have ht := take_r l2 (by omega) m hm
    simp (maxSteps := 1000000) [rdS_none, rdS_some, hho, noHo, -List.reduceReplicate]
    refine call_x [0] hok rfl rfl ⟨rfl, rfl⟩ hho (by simp) (by decide) (by simp) (by simp [rdS]) ?_
    simp (maxSteps := 1000000) [rdS_some, rdS_none, hho, noHo, -List.reduceReplicate]
    refine call_x [0] hn rfl rfl ⟨rfl, rfl⟩ hho (by simp) (by decide) (by simp) (by simp [rdS]) ?_
    simp (maxSteps := 1000000) [rdS_some, rdS_none, hho, noHo, -List.reduceReplicate]
    refine call_x [0] ht rfl rfl ⟨rfl, rfl⟩ hho (by simp) (by decide) (by simp) (by simp [rdS]) ?_
    simp (maxSteps := 1000000) [rdS_some, rdS_none, hho, noHo, bytesOf_str, -List.reduceReplicate]
    exact Ret.same ⟨by simp, rfl⟩

theorem value_bool (x : Bool) : ACalls Tryz.prog 192 [.c (.bool x)] [] (fun _ => false) (fun r h' => r = .agg (valA ⟨1, if x = true then 1 else 0, 0, ByteArray.empty⟩) ∧ h' = []) := by
 refine acalls mixed Tryz.func192 rfl Tryz.ntmps192 rfl fun E hE hst hho => ?_
 cases x <;> simp (maxSteps := 1000000) [hho, noHo, -List.reduceReplicate] <;> exact Ret.drop (by rfl) ⟨rfl, rfl⟩
theorem put_w (b : List UInt8) (hb : b.length ≤ 10000000000) (v : ValS) (hv : valOk v = true) (h0 : v.k ≠ 0) (ho : v.Ok) : ACalls Tryz.prog 160 [.ptr 0 0 1, .agg (valA v)] (wrO b) (fun k => decide (k < 2)) (fun r h' => r = .tup [] ∧ h' = wrO (b ++ valB v)) := by
 refine acalls mixed Tryz.func160 rfl Tryz.ntmps160 rfl fun E hE hst hho => ?_
 have hk := valOk_k hv h0
 have hnk := num_len v.k (by omega) (by omega)
 have hts : v.t.size ≤ 100000000000 := by
  unfold valOk at hv
  have e0 : ByteArray.empty.size = 0 := rfl
  repeat' split at hv
  all_goals try simp only [Bool.and_eq_true, decide_eq_true_eq] at hv
  ·omega
  ·rw [hv.2]; omega
  ·rw [hv.2]; omega
  ·rw [hv.1]; omega
  ·omega
  ·omega
  ·cases hv
 obtain ⟨b1, hb1⟩ : ∃ b1, b1 = b ++ num v.k := ⟨_, rfl⟩
 have hbl : b1.length ≤ 20000000000 := by rw [hb1, List.length_append]; omega
 have hbe : b ++ valB v = b1 ++ (if v.k = 1 ∨ v.k = 2 then num v.n else if v.k = 3 then num v.s ++ num v.n else txt v.t) := by rw [hb1, valB, List.append_assoc]
 rw [hbe]
 obtain ⟨B, hB⟩ : ∃ B, B = b1 ++ (if v.k = 1 ∨ v.k = 2 then num v.n else if v.k = 3 then num v.s ++ num v.n else txt v.t) := ⟨_, rfl⟩
 rw [← hB]
 simp (maxSteps := 1000000) [wrO, valA, hho, noHo, -List.reduceReplicate]
 refine call_x [0, 1] (number_w b (by omega) v.k (by omega) (by omega)) rfl rfl ⟨rfl, rfl⟩ hho (by simp) (by decide) (by simp) (by simp [wrO]) ?_
 rw [← hb1]
 by_cases h1 : v.k = 1
 ·rw [if_pos (.inl h1)] at hB
  subst hB
  have hf := flag_w b1 (by omega) (decide (v.n = 1))
  have hn := valOk_flag hv h1
  have e : num (if decide (v.n = 1) = true then 1 else 0) = num v.n := by rcases hn with h | h <;> simp [h]
  rw [e] at hf
  simp (maxSteps := 1000000) [wrO, hho, noHo, h1, -List.reduceReplicate]
  refine call_x [0, 1] hf rfl rfl ⟨rfl, rfl⟩ hho (by simp) (by decide) (by simp) (by simp [wrO]) ?_
  simp (maxSteps := 1000000) [wrO, hho, noHo, -List.reduceReplicate]
  refine Ret.sel [0, 1] (fun _ => false) (ho := by rfl) (ha := by rfl) ?_ ?_ (by decide) (by simp) (fun i _ h => ?_) ⟨rfl, rfl⟩
  ·simp
  ·simp
  ·match i, h with
   | 0, _ => rfl
   | 1, _ => rfl
   | i + 2, h => exact absurd (of_decide_eq_true h : i + 2 < 2) (by omega)
 ·by_cases h2 : v.k = 2
  ·rw [if_pos (.inr h2)] at hB
   subst hB
   simp (maxSteps := 1000000) [wrO, hho, noHo, h2, -List.reduceReplicate]
   refine call_x [0, 1] (number_w b1 (by omega) v.n ho.2.1.1 ho.2.1.2) rfl rfl ⟨rfl, rfl⟩ hho (by simp) (by decide) (by simp) (by simp [wrO]) ?_
   simp (maxSteps := 1000000) [wrO, hho, noHo, -List.reduceReplicate]
   refine Ret.sel [0, 1] (fun _ => false) (ho := by rfl) (ha := by rfl) ?_ ?_ (by decide) (by simp) (fun i _ h => ?_) ⟨rfl, rfl⟩
   ·simp
   ·simp
   ·match i, h with
    | 0, _ => rfl
    | 1, _ => rfl
    | i + 2, h => exact absurd (of_decide_eq_true h : i + 2 < 2) (by omega)
  ·by_cases h3 : v.k = 3
   ·have hns := num_len v.s ho.2.2.1.1 ho.2.2.1.2
    rw [if_neg (fun h => h.elim h1 h2), if_pos h3, ← List.append_assoc] at hB
    obtain ⟨b2, hb2⟩ : ∃ b2, b2 = b1 ++ num v.s := ⟨_, rfl⟩
    have hbl2 : b2.length ≤ 30000000000 := by rw [hb2, List.length_append]; omega
    have hf := number_w b1 (by omega) v.s ho.2.2.1.1 ho.2.2.1.2
    rw [← hb2] at hf hB
    subst hB
    simp (maxSteps := 1000000) [wrO, hho, noHo, h3, -List.reduceReplicate]
    refine call_x [0, 1] hf rfl rfl ⟨rfl, rfl⟩ hho (by simp) (by decide) (by simp) (by simp [wrO]) ?_
    simp (maxSteps := 1000000) [wrO, hho, noHo, -List.reduceReplicate]
    refine call_x [0, 1] (number_w b2 (by omega) v.n ho.2.1.1 ho.2.1.2) rfl rfl ⟨rfl, rfl⟩ hho (by simp) (by decide) (by simp) (by simp [wrO]) ?_
    simp (maxSteps := 1000000) [wrO, hho, noHo, -List.reduceReplicate]
    refine Ret.sel [0, 1] (fun _ => false) (ho := by rfl) (ha := by rfl) ?_ ?_ (by decide) (by simp) (fun i _ h => ?_) ⟨rfl, rfl⟩
    ·simp
    ·simp
    ·match i, h with
     | 0, _ => rfl
     | 1, _ => rfl
     | i + 2, h => exact absurd (of_decide_eq_true h : i + 2 < 2) (by omega)
   ·rw [if_neg (fun h => h.elim h1 h2), if_neg h3] at hB
    subst hB
    simp (maxSteps := 1000000) [wrO, hho, noHo, h1, h2, h3, -List.reduceReplicate]
    refine call_x [0, 1] (text_w b1 (by omega) v.t hts) rfl rfl ⟨rfl, rfl⟩ hho (by simp) (by decide) (by simp) (by simp [wrO]) ?_
    simp (maxSteps := 1000000) [wrO, hho, noHo, -List.reduceReplicate]
    refine Ret.sel [0, 1] (fun _ => false) (ho := by rfl) (ha := by rfl) ?_ ?_ (by decide) (by simp) (fun i _ h => ?_) ⟨rfl, rfl⟩
    ·simp
    ·simp
    ·match i, h with
     | 0, _ => rfl
     | 1, _ => rfl
     | i + 2, h => exact absurd (of_decide_eq_true h : i + 2 < 2) (by omega)
theorem rcountS_len' {s : Option (List UInt8)} {n : Nat} {m : Int} (h : ∀ l, s = some l → l.length ≤ n) : ∀ l, (rcountS s m).2 = some l → l.length ≤ n := by
 intro l hl
 unfold rcountS at hl
 split at hl
 ·cases hl
 ·exact rnumS_len h l hl
set_option maxHeartbeats 4000000 in
theorem get_r (s : Option (List UInt8)) (hs : ∀ l, s = some l → l.length ≤ 1000000000) : ACalls Tryz.prog 183 [.ptr 0 0 2] (rdS s) (fun k => decide (k < 1)) (fun r h' => r = .agg (valA (getVS s).1) ∧ h' = rdS (getVS s).2) := by
 refine acalls mixed Tryz.func183 rfl Tryz.ntmps183 rfl fun E hE hst hho => ?_
 have hn := number_r s hs
 have hs1 := rnumS_len hs
 have hb := rnumS_le s
 unfold getVS
 obtain ⟨v, hv⟩ : ∃ v, v = rnumS s := ⟨_, rfl⟩
 rw [← hv] at hn hs1 hb ⊢
 obtain ⟨k, s1⟩ := v
 simp only at hn hs1 hb ⊢
 clear hv
 by_cases h1 : k = 1
 ·rw [if_pos h1]
  have hf := flag_r s1 hs1
  obtain ⟨v, hv⟩ : ∃ v, v = rflagS s1 := ⟨_, rfl⟩
  rw [← hv] at hf ⊢
  obtain ⟨x, s2⟩ := v
  simp only at hf ⊢
  clear hv
  clear hs hs1 hE
  rcases s with _ | l <;> rcases s1 with _ | l1 <;> rcases s2 with _ | l2 <;>
  ·simp (maxSteps := 1000000) [rdS_none, rdS_some, hho, noHo, -List.reduceReplicate]
   refine call_x [0] hn rfl rfl ⟨rfl, rfl⟩ hho (by simp) (by decide) (by simp) (by simp [rdS]) ?_
   simp (maxSteps := 1000000) [rdS_none, rdS_some, hho, noHo, h1, -List.reduceReplicate]
   refine call_x [0] hf rfl rfl ⟨rfl, rfl⟩ hho (by simp) (by decide) (by simp) (by simp [rdS]) ?_
   simp (maxSteps := 1000000) [rdS_none, rdS_some, hho, noHo, -List.reduceReplicate]
   refine call_x [] (value_bool x) rfl rfl ⟨rfl, rfl⟩ hho (by simp) (by decide) (by simp) (by simp [rdS]) ?_
   simp (maxSteps := 1000000) [rdS_none, rdS_some, hho, noHo, valA, -List.reduceReplicate]
   refine Ret.sel [0] (fun _ => false) (ho := by rfl) (ha := by rfl) ?_ ?_ (by decide) (by simp) (fun i _ h => ?_) ⟨rfl, rfl⟩
   ·simp
   ·simp
   ·have e : i = 0 := of_decide_eq_true h
    subst e; rfl
 ·by_cases h2 : k = 2
  ·rw [if_neg h1, if_pos h2]
   have hf := number_r s1 hs1
   obtain ⟨v, hv⟩ : ∃ v, v = rnumS s1 := ⟨_, rfl⟩
   rw [← hv] at hf ⊢
   obtain ⟨x, s2⟩ := v
   simp only at hf ⊢
   clear hv
   clear hs hs1 hE
   rcases s with _ | l <;> rcases s1 with _ | l1 <;> rcases s2 with _ | l2 <;>
   ·simp (maxSteps := 1000000) [rdS_none, rdS_some, hho, noHo, -List.reduceReplicate]
    refine call_x [0] hn rfl rfl ⟨rfl, rfl⟩ hho (by simp) (by decide) (by simp) (by simp [rdS]) ?_
    simp (maxSteps := 1000000) [rdS_none, rdS_some, hho, noHo, h2, -List.reduceReplicate]
    refine call_x [0] hf rfl rfl ⟨rfl, rfl⟩ hho (by simp) (by decide) (by simp) (by simp [rdS]) ?_
    simp (maxSteps := 1000000) [rdS_none, rdS_some, hho, noHo, valA, -List.reduceReplicate]
    refine Ret.sel [0] (fun _ => false) (ho := by rfl) (ha := by rfl) ?_ ?_ (by decide) (by simp) (fun i _ h => ?_) ⟨rfl, rfl⟩
    ·simp
    ·simp
    ·have e : i = 0 := of_decide_eq_true h
     subst e; rfl
  ·by_cases h3 : k = 3
   ·rw [if_neg h1, if_neg h2, if_pos h3]
    have hf := number_r s1 hs1
    have hs2 := rnumS_len hs1
    have hg := number_r (rnumS s1).2 hs2
    obtain ⟨v, hv⟩ : ∃ v, v = rnumS s1 := ⟨_, rfl⟩
    rw [← hv] at hf hg ⊢
    obtain ⟨x, s2⟩ := v
    simp only at hf hg ⊢
    clear hv hs2
    obtain ⟨v, hv⟩ : ∃ v, v = rnumS s2 := ⟨_, rfl⟩
    rw [← hv] at hg ⊢
    obtain ⟨y, s3⟩ := v
    simp only at hg ⊢
    clear hv
    clear hs hs1 hE
    rcases s with _ | l <;> rcases s1 with _ | l1 <;> rcases s2 with _ | l2 <;> rcases s3 with _ | l3 <;>
    ·simp (maxSteps := 1000000) [rdS_none, rdS_some, hho, noHo, -List.reduceReplicate]
     refine call_x [0] hn rfl rfl ⟨rfl, rfl⟩ hho (by simp) (by decide) (by simp) (by simp [rdS]) ?_
     simp (maxSteps := 1000000) [rdS_none, rdS_some, hho, noHo, h3, -List.reduceReplicate]
     refine call_x [0] hf rfl rfl ⟨rfl, rfl⟩ hho (by simp) (by decide) (by simp) (by simp [rdS]) ?_
     simp (maxSteps := 1000000) [rdS_none, rdS_some, hho, noHo, -List.reduceReplicate]
     refine call_x [0] hg rfl rfl ⟨rfl, rfl⟩ hho (by simp) (by decide) (by simp) (by simp [rdS]) ?_
     simp (maxSteps := 1000000) [rdS_none, rdS_some, hho, noHo, valA, -List.reduceReplicate]
     refine Ret.sel [0] (fun _ => false) (ho := by rfl) (ha := by rfl) ?_ ?_ (by decide) (by simp) (fun i _ h => ?_) ⟨rfl, rfl⟩
     ·simp
     ·simp
     ·have e : i = 0 := of_decide_eq_true h
      subst e; rfl
   ·rw [if_neg h1, if_neg h2, if_neg h3]
    have hf := text_r s1 hs1
    obtain ⟨v, hv⟩ : ∃ v, v = rtextS s1 := ⟨_, rfl⟩
    rw [← hv] at hf ⊢
    obtain ⟨x, s2⟩ := v
    simp only at hf ⊢
    clear hv
    clear hs hs1 hE
    rcases s with _ | l <;> rcases s1 with _ | l1 <;> rcases s2 with _ | l2 <;>
    ·simp (maxSteps := 1000000) [rdS_none, rdS_some, hho, noHo, -List.reduceReplicate]
     refine call_x [0] hn rfl rfl ⟨rfl, rfl⟩ hho (by simp) (by decide) (by simp) (by simp [rdS]) ?_
     simp (maxSteps := 1000000) [rdS_none, rdS_some, hho, noHo, h1, h2, h3, -List.reduceReplicate]
     refine call_x [0] hf rfl rfl ⟨rfl, rfl⟩ hho (by simp) (by decide) (by simp) (by simp [rdS]) ?_
     simp (maxSteps := 1000000) [rdS_none, rdS_some, hho, noHo, valA, -List.reduceReplicate]
     refine Ret.sel [0] (fun _ => false) (ho := by rfl) (ha := by rfl) ?_ ?_ (by decide) (by simp) (fun i _ h => ?_) ⟨rfl, rfl⟩
     ·simp
     ·simp
     ·have e : i = 0 := of_decide_eq_true h
      subst e; rfl
end Go.Proofs.YthgoocdldnkogaaGreatDoor
