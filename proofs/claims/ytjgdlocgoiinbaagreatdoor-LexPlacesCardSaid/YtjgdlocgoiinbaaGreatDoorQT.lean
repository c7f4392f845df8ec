import Derived.Test.YtjgdlocgoiinbaaGreatDoorHQc
import Derived.Test.YtjgdlocgoiinbaaGreatDoorQI
namespace Go.Proofs.YtjgdlocgoiinbaaGreatDoor
set_option linter.unusedVariables false
set_option linter.unusedSimpArgs false
open Go.RowKit Go.Lib
attribute [local simp] isCut_nil isCut_region isCut_seq isCut_block isCut_loop isCut_cond isCut_skip isCut_exit isCut_ret isCut_range swapK putK altK condK_bool pickP_bool stepP stepO onPure_some onPure_none onImpl_some onImpl_none stepC onGP_some onGP_none onGV_some condG mkG onIt_it nextP_ptr takeP_eq takeV_some takeV_none takeU_some takeU_none takeQ takeW_some takeN_none takeN_some takeG_some takeO_some altO_some pureV binV2 eqF eqOp ovlV ovl2 rowAt capV binV intBin strBin isSh shV fldV ixV sliceV slice3V loadAV nilV lenV callV unV convV viewS cellsH loadV fldCut AV.ung AV.ungs AV.gc AV.cells AS.ev AS.put anyS gcsV gcO lens lnO gV guardV retK RetP_eq resV oneV anyRo loIx hiIx implO callP_clo evL gcsL clearV storeAV AS.push AS.setO appV appZ shortS copyV buildV partsV fillV srcV fzO okV isCell_c isCell_ptr isCell_sl isCell_fs isCell_fp isCell_clo rowZ_one rowZ_zero rowZ_2 rowZ_3 rowZ_4 rowZ_5 rowZ_6 rowZ_7 rowZ_8 rowZ_9 rowZ_10 rowZ_11 rowZ_12 noHo Value.oneCell' max2V min2V lookV updV lenM msAt afterH putBack frzFrom frzO rebO backIx nilEq_sl nilEq_fs nilEq_ifn nilEq_ifh ifOp_eql ifOp_neq isLit nilOp_eql nilOp_neq AV.reb AV.rebL
attribute [local simp ↓] runK_skip runK_region runK_draw runK_seq runK_cut runK_cond runK_block runK_loop runK_exit runK_label runK_goto runK_ret runK_range contK_nil contK_seq contK_seq_ret contK_seq_exit contK_seq_goto contK_block contK_block_ret contK_block_goto contK_block_exit runO_nil runO_cons roundK_exit roundK_ret roundK_goto exitK_ret cutK_ret cutK_exit runE_done runE_nil runE_take runE_alt condG_true condG_false
set_option maxRecDepth 10000
theorem wk_frz {P : Program} {E : Env} {s : AS} (i r : Nat) {e sz n m : Nat} {l : List AV} (h0 : s.t[i]? = some (.sl r sz 0 n m)) (h1 : s.h[r]? = some (.o (.row e sz) l)) (hho : E.ho = noHo) (hl : l.length = m) (hnm : n * sz = m) (hn : n ≤ maxLen) (hd : l.all isD = true) : Wk E s ⟨s.t.set i (.fs sz n l), s.h.set r (.o .fz l)⟩ := by
  refine Wk.trans (wk_fz r h1 (by rw [hho]; rfl)) ?_
  have h2 : (s.h.set r (.o .fz l))[r]? = some (.o .fz l) := List.getElem?_set_self (List.getElem?_eq_some_iff.1 h1).1
  have e1 : (l.drop 0).take (n * sz) = l := by rw [List.drop_zero, List.take_of_length_le (by omega)]
  refine wk_slot i h0 fun G F w v hh hv => ?_
  have := fz_fs (off := 0) (n := n) h2 hl (by omega) hn (by rw [e1]; exact hd) hh hv
  rw [e1] at this
  exact this
theorem trimL_len (l : List Nat) : (trimL l).length ≤ l.length := by
  unfold trimL
  rw [List.length_reverse]
  have := (List.dropWhile_suffix (fun d => decide (d = 0)) (l := l.reverse)).length_le
  simpa using this
theorem head_drop {L W X : List UInt8} {f n : Nat} (h : (L.drop f).take n = W ++ X) (hW : W ≠ []) (hf : f < L.length) : W.head? = some L[f] := by
  have e := congrArg List.head? h
  cases W with
  | nil => exact absurd rfl hW
  | cons c W =>
    rw [List.drop_eq_getElem_cons hf] at e
    cases n with
    | zero => cases e
    | succ n =>
      rw [List.take_succ_cons] at e
      exact e.symm
theorem take_more {L : List UInt8} {f i : Nat} (hf : f ≤ i) (hi : i < L.length) : (L.drop f).take (i + 1 - f) = (L.drop f).take (i - f) ++ [L[i]] := by
  rw [show i + 1 - f = i - f + 1 by omega, List.take_succ_eq_append_getElem (by rw [List.length_drop]; omega)]
  congr 1
  rw [List.getElem_drop]
  congr 2
  omega
theorem cut_at {L : List UInt8} {f i : Nat} (hf : f ≤ i) (hi : i < L.length) : L.drop f = (L.drop f).take (i - f) ++ L[i] :: L.drop (i + 1) := by
  conv => lhs; rw [← List.take_append_drop (i - f) (L.drop f)]
  rw [List.drop_drop, show f + (i - f) = i by omega, List.drop_eq_getElem_cons hi]
theorem dgs_snoc (l : List UInt8) (c : UInt8) : dgs (l ++ [c]) = (c.toNat - 48) :: dgs l := by simp [dgs]
def decI (hp : Bool) (L : List UInt8) (f i : Nat) (W R : List UInt8) : Prop :=
  f ≤ i ∧ i ≤ L.length ∧ AllDig W ∧ AllDig R ∧ (L.drop f).take (i - f) = (if hp = true then W ++ 46 :: R else W) ∧ (hp = false → R = []) ∧ (hp = true → W ≠ [])
set_option maxHeartbeats 16000000 in
theorem r2Parse_w (s : ByteArray) (hs : s.size ≤ 100000) : ACalls Tryz.prog 61 [.c (.string s)] [] (fun _ => false) (fun r h' => r = r3A (dec3 (decP s.data.toList)) ∧ h' = []) := by
  refine acallsC [5] mixed Tryz.func61 rfl Tryz.ntmps61 rfl fun E hE hst hho => ?_
  have ls : s.data.toList.length = s.size := rfl
  rw [decP_eq]
  obtain ⟨R0, hR0⟩ : ∃ R, R = r3A (dec3 (decB (minB s.data.toList) (cutP (bodyB s.data.toList)))) := ⟨_, rfl⟩
  rw [← hR0]
  obtain ⟨m, hm⟩ : ∃ m, m = minB s.data.toList := ⟨_, rfl⟩
  rw [← hm] at hR0
  obtain ⟨f, hf⟩ : ∃ f : Nat, f = if m = true then 1 else 0 := ⟨_, rfl⟩
  have hf1 : f ≤ 1 := by rw [hf]; split <;> omega
  have hbody : bodyB s.data.toList = s.data.toList.drop f := by
    unfold bodyB
    rw [← hm, hf]
    cases m with
    | true => rw [if_pos rfl, if_pos rfl, List.drop_one]
    | false => rw [if_neg (by decide), if_neg (by decide), List.drop_zero]
  rw [hbody] at hR0
  have hfl : f ≤ s.size := by
    rw [hf, hm]
    split
    · rename_i h
      unfold minB at h
      cases hh : s.data.toList with
      | nil => rw [hh] at h; cases h
      | cons c l => rw [← ls, hh]; simp
    · exact Nat.zero_le _
  simp (maxSteps := 1000000) [hho, noHo, undef, onGP_none, condG_false, -List.reduceReplicate]
  refine ⟨fun h => ⟨h, Nat.pos_of_ne_zero fun h0 => h (by apply ByteArray.ext; apply Array.eq_empty_of_size_eq_zero; exact h0)⟩, ?_⟩
  refine seq_cut mixed [] (fun _ : Unit => ⟨slotsOf 111 [(0, .c (.string s)), (5, .c (.int .i64 (f : Nat))), (6, .c (.bool m))], []⟩) (fun _ => True) ?_ ?_
  case refine_2 =>
    by_cases h0 : s.size = 0
    · have hse : s = ByteArray.empty := by
        apply ByteArray.ext
        apply Array.eq_empty_of_size_eq_zero
        exact h0
      have hm0 : m = false := by rw [hm, hse]; rfl
      have hem : (s = ByteArray.empty) = True := eq_true hse
      have hem2 : (s = (⟨#[]⟩ : ByteArray)) = True := eq_true hse
      have hf0 : f = 0 := by rw [hf, hm0]; rfl
      simp (maxSteps := 1000000) [hho, noHo, hem, hem2, h0, undef, onGP_none, condG_false, -List.reduceReplicate]
      exact cut_to () trivial (wk_eq (by simp [hE, lens]) rfl (by simp [livH, livO, AV.livL, AV.liv, wkL, wkV, List.range', slotsOf, hm0, hf0]))
    · have hse : ¬ s = ByteArray.empty := fun e => h0 (by rw [e]; rfl)
      have hse2 : ¬ s = (⟨#[]⟩ : ByteArray) := hse
      have ba := byte_at (s := s) (j := 0) (by omega)
      have ba2 := byte_at2 (s := s) (j := 0) (by omega)
      have hh : s.data.toList.head? = some (s.data.toList[0]'(by omega)) := by rw [List.head?_eq_getElem?, List.getElem?_eq_getElem (by omega)]
      obtain ⟨c, hc⟩ : ∃ c : UInt8, c = s.data.toList[0]'(by omega) := ⟨_, rfl⟩
      rw [← hc] at ba ba2 hh
      have hm2 : m = decide (c = 45) := by
        rw [hm]; unfold minB; rw [hh]
        by_cases h : c = 45
        · subst h; rfl
        · simp [h]
      obtain ⟨x, hx⟩ : ∃ x : Nat, x = c.toNat := ⟨_, rfl⟩
      rw [← hx] at ba ba2
      have h0p : 0 < s.size := by omega
      by_cases hx45 : x = 45
      · have hxi : (x : Int) = 45 := by omega
        have hc45 : c = 45 := UInt8.toNat_inj.1 (by rw [← hx, hx45]; rfl)
        have hmt : m = true := by rw [hm2, hc45]; rfl
        have hf1 : f = 1 := by rw [hf, hmt]; rfl
        simp (maxSteps := 1000000) [hho, noHo, hse, hse2, h0p, ba, ba2, hx45, hxi, undef, onGP_none, condG_false, -List.reduceReplicate]
        exact cut_to () trivial (wk_eq (by simp [hE, lens]) rfl (by simp [livH, livO, AV.livL, AV.liv, wkL, wkV, List.range', slotsOf, hmt, hf1]))
      · have hxi : ¬ (x : Int) = 45 := by omega
        have hc45 : ¬ c = 45 := fun e => hx45 (by rw [hx, e]; rfl)
        have hmf : m = false := by rw [hm2]; simp [hc45]
        have hf0 : f = 0 := by rw [hf, hmf]; rfl
        simp (maxSteps := 1000000) [hho, noHo, hse, hse2, h0p, ba, ba2, hx45, hxi, undef, onGP_none, condG_false, -List.reduceReplicate]
        exact cut_to () trivial (wk_eq (by simp [hE, lens]) rfl (by simp [livH, livO, AV.livL, AV.liv, wkL, wkV, List.range', slotsOf, hmf, hf0]))
  rintro ⟨⟩ -
  have hbat := fun (j : Nat) (h : j < s.data.toList.length) => byte_at (s := s) h
  have hbat2 := fun (j : Nat) (h : j < s.data.toList.length) => byte_at2 (s := s) h
  clear hbody hm
  simp (maxSteps := 1000000) [hho, noHo, slotsOf, -List.reduceReplicate]
  refine loop_k mixed (fun y : Nat × List UInt8 × List UInt8 × Bool => ⟨slotsOf 111 [(0, .c (.string s)), (5, .c (.int .i64 (y.1 : Nat))), (6, .c (.bool m)), (7, .fs 1 (y.2.1.length + y.2.2.1.length) (intsA (digI (dgs (y.2.1 ++ y.2.2.1))))), (8, .c (.int .i64 (if y.2.2.2 = true then ((f + y.2.1.length : Nat) : Int) else -1))), (9, .c (.int .i64 (f : Nat)))], []⟩) (fun y => s.size - y.1) (fun y => decI y.2.2.2 s.data.toList f y.1 y.2.1 y.2.2.1) (f, [], [], false) ⟨Nat.le_refl _, hfl, (fun c h => by cases h), (fun c h => by cases h), by simp, fun _ => rfl, fun h => by cases h⟩ ?_ ?_
  · refine Wk.trans (wk_slot 7 (old := .c (.slice none 0 0)) rfl fun G F w v _ hv => nil_fs0 1 hv) ?_
    exact wk_eq (by simp [hE, lens]) rfl (by simp [livH, livO, AV.livL, AV.liv, wkL, wkV, List.range', slotsOf, dgs, digI, intsA])
  rintro ⟨i, W, R, hp⟩ ⟨hfi, hil, hW, hR, hT, hN1, hN2⟩
  simp only at hfi hil hW hR hT hN1 hN2
  have hlen := congrArg List.length hT
  rw [List.length_take, List.length_drop, Nat.min_eq_left (by omega)] at hlen
  have hWR : W.length + R.length ≤ s.size := by
    cases hp with
    | false =>
      have := hN1 rfl
      subst this
      rw [if_neg (by decide)] at hlen
      simp only [List.length_nil]; omega
    | true =>
      rw [if_pos rfl, List.length_append, List.length_cons] at hlen
      omega
  have hdl : (dgs (W ++ R)).length = W.length + R.length := by rw [dgs_len, List.length_append]
  have hAll : AllDig (W ++ R) := fun c hc => (List.mem_append.1 hc).elim (hW c) (hR c)
  have hrow : (intsA (digI (dgs (W ++ R)))).length = W.length + R.length := by simp [intsA, hdl]
  by_cases h1 : i < s.size
  case pos =>
    have h1i : (i : Int) < s.size := by omega
    have hi : i < s.data.toList.length := h1
    have ba := hbat i hi
    have ba2 := hbat2 i hi
    have hcut := cut_at hfi hi
    have htk := take_more hfi hi
    rw [hT] at hcut htk
    obtain ⟨c, hc⟩ : ∃ c : UInt8, c = s.data.toList[i] := ⟨_, rfl⟩
    rw [← hc] at ba ba2 hcut htk
    obtain ⟨x, hx⟩ : ∃ x : Nat, x = c.toNat := ⟨_, rfl⟩
    rw [← hx] at ba ba2
    have hx256 : x < 256 := by rw [hx]; exact c.toNat_lt
    have ew : IntKind.i64.wrap ((i : Int) + 1) = (i + 1 : Nat) := by rw [IntWalk.i64_in _ (by omega)]; rfl
    have hdigc : isDig c = true ↔ (48 ≤ x ∧ x ≤ 57) := by rw [isDig_iff, ← hx]
    by_cases hdig : 48 ≤ x ∧ x ≤ 57
    · have n0 : ¬ x = 46 := by omega
      have n0i : ¬ (x : Int) = 46 := by omega
      have n1 : ¬ x < 48 := by omega
      have n1i : ¬ (x : Int) < 48 := by omega
      have n2 : ¬ 57 < x := by omega
      have n2i : ¬ (57 : Int) < x := by omega
      have ex : IntKind.u8.wrap ((x : Int) - 48) = (x - 48 : Nat) := by
        unfold IntKind.wrap
        simp [IntKind.bits, IntKind.signed]
        omega
      have ex2 : IntKind.i64.wrap (((x - 48 : Nat) : Int)) = (x - 48 : Nat) := IntWalk.i64_in _ (by omega)
      have hdc := hdigc.2 hdig
      cases hp with
      | false =>
        have hR0' := hN1 rfl
        subst hR0'
        have e1 : intsA (digI (dgs (W ++ [c]))) = .c (.int .i64 (x - 48 : Nat)) :: intsA (digI (dgs W)) := by rw [dgs_snoc, hx]; rfl
        simp only [List.append_nil, List.length_nil, Nat.add_zero] at hrow ⊢
        simp (maxSteps := 1000000) [hho, noHo, slotsOf, h1, h1i, ba, ba2, n0, n0i, n1, n1i, n2, n2i, ex, ex2, hrow, undef, onGP_none, condG_false, -List.reduceReplicate]
        repeat (with_reducible refine And.intro (by omega) ?_)
        refine round_next (i + 1, W ++ [c], [], false) ⟨by simp only; omega, by simp only; omega, ?_, hR, ?_, fun _ => rfl, fun h => by cases h⟩ (by simp only; omega) ?_
        · intro y hy; rcases List.mem_append.1 hy with h | h; exact hW y h; rw [List.mem_singleton.1 h]; exact hdc
        · simp only; rw [htk]; rfl
        refine Wk.trans (wk_frz (P := Tryz.prog) 7 0 rfl rfl hho (by simp [hrow]; omega) (by simp) (by unfold maxLen; omega) (by simp [isD_c])) ?_
        exact wk_of 0 1 (by simp) (by simp [hE, lens]) rfl (by simp [livH, livO, AV.livL, AV.liv, wkL, wkV, List.range']) (by simp [livH, livO, AV.livL, AV.liv, wkL, wkV, List.range', slotsOf, ew, e1, Nat.add_comm])
      | true =>
        have e1 : intsA (digI (dgs (W ++ (R ++ [c])))) = .c (.int .i64 (x - 48 : Nat)) :: intsA (digI (dgs (W ++ R))) := by rw [← List.append_assoc, dgs_snoc, hx]; rfl
        have np : ¬ ((f : Int) + W.length < 0) := by omega
        simp (maxSteps := 1000000) [hho, noHo, slotsOf, h1, h1i, ba, ba2, n0, n0i, n1, n1i, n2, n2i, ex, ex2, np, hrow, undef, onGP_none, condG_false, -List.reduceReplicate]
        repeat (with_reducible refine And.intro (by omega) ?_)
        refine round_next (i + 1, W, R ++ [c], true) ⟨by simp only; omega, by simp only; omega, hW, ?_, ?_, (fun h => by cases h), hN2⟩ (by simp only; omega) ?_
        · intro y hy; rcases List.mem_append.1 hy with h | h; exact hR y h; rw [List.mem_singleton.1 h]; exact hdc
        · simp only; rw [htk]; simp
        refine Wk.trans (wk_frz (P := Tryz.prog) 7 0 rfl rfl hho (by simp [hrow]; omega) (by simp) (by unfold maxLen; omega) (by simp [isD_c])) ?_
        exact wk_of 0 1 (by simp) (by simp [hE, lens]) rfl (by simp [livH, livO, AV.livL, AV.liv, wkL, wkV, List.range']) (by simp [livH, livO, AV.livL, AV.liv, wkL, wkV, List.range', slotsOf, ew, e1, Nat.add_assoc, Nat.add_comm])
    · have hnd : isDig c = false := by
        cases h : isDig c with
        | false => rfl
        | true => exact absurd (hdigc.1 h) hdig
      cases hp with
      | false =>
        have hR0' := hN1 rfl
        subst hR0'
        rw [if_neg (by decide)] at hT hcut htk hlen
        by_cases hpt : x = 46 ∧ W ≠ []
        · obtain ⟨x46, hWne⟩ := hpt
          have hWl : 0 < W.length := List.length_pos_iff.2 hWne
          have x46i : (x : Int) = 46 := by omega
          have hif : f < i := by omega
          have hifi : (f : Int) < i := by omega
          have hc46 : c = 46 := UInt8.toNat_inj.1 (by rw [← hx, x46]; rfl)
          simp (maxSteps := 1000000) [hho, noHo, slotsOf, h1, h1i, ba, ba2, x46, x46i, hif, hifi, undef, onGP_none, condG_false, -List.reduceReplicate]
          refine round_next (i + 1, W, [], true) ⟨by simp only; omega, by simp only; omega, hW, hR, ?_, fun _ => rfl, fun _ => hWne⟩ (by simp only; omega) ?_
          · simp only; rw [htk, hc46]; rfl
          exact wk_of 0 0 (by simp) (by simp [hE, lens]) rfl (by simp [livH, livO, AV.livL, AV.liv, wkL, wkV, List.range']) (by simp [livH, livO, AV.livL, AV.liv, wkL, wkV, List.range', slotsOf, ew]; omega)
        · have hbad : R0 = r3A (0, 0, false) := by
            rw [hR0, hcut, bad_whole hW hnd (by
              by_cases h46 : c = 46
              · right
                apply Classical.byContradiction
                intro hne
                exact hpt ⟨by rw [hx, h46]; rfl, hne⟩
              · exact .inl h46)]
            rfl
          rw [hbad]
          by_cases x46 : x = 46
          · have hWe : W = [] := Classical.byContradiction fun h => hpt ⟨x46, h⟩
            have hif : ¬ f < i := by rw [hWe] at hlen; simp at hlen; omega
            have hifi : ¬ (f : Int) < i := by omega
            have x46i : (x : Int) = 46 := by omega
            simp (maxSteps := 1000000) [hho, noHo, slotsOf, h1, h1i, ba, ba2, x46, x46i, hif, hifi, undef, onGP_none, condG_false, -List.reduceReplicate]
            exact Ret.drop (by rfl) ⟨rfl, rfl⟩
          · have x46i : ¬ (x : Int) = 46 := by omega
            by_cases n1 : x < 48
            · have n1i : (x : Int) < 48 := by omega
              simp (maxSteps := 1000000) [hho, noHo, slotsOf, h1, h1i, ba, ba2, x46, x46i, n1, n1i, undef, onGP_none, condG_false, -List.reduceReplicate]
              exact Ret.drop (by rfl) ⟨rfl, rfl⟩
            · have n1i : ¬ (x : Int) < 48 := by omega
              have n2 : 57 < x := by omega
              have n2i : (57 : Int) < x := by omega
              simp (maxSteps := 1000000) [hho, noHo, slotsOf, h1, h1i, ba, ba2, x46, x46i, n1, n1i, n2, n2i, undef, onGP_none, condG_false, -List.reduceReplicate]
              exact Ret.drop (by rfl) ⟨rfl, rfl⟩
      | true =>
        rw [if_pos rfl] at hT hcut htk hlen
        have hbad : R0 = r3A (0, 0, false) := by
          rw [hR0, hcut, List.append_assoc, List.cons_append, bad_rest hW hnd]
          rfl
        have np : ¬ ((f : Int) + W.length < 0) := by omega
        rw [hbad]
        by_cases x46 : x = 46
        · have x46i : (x : Int) = 46 := by omega
          simp (maxSteps := 1000000) [hho, noHo, slotsOf, h1, h1i, ba, ba2, x46, x46i, np, undef, onGP_none, condG_false, -List.reduceReplicate]
          exact Ret.drop (by rfl) ⟨rfl, rfl⟩
        · have x46i : ¬ (x : Int) = 46 := by omega
          by_cases n1 : x < 48
          · have n1i : (x : Int) < 48 := by omega
            simp (maxSteps := 1000000) [hho, noHo, slotsOf, h1, h1i, ba, ba2, x46, x46i, n1, n1i, np, undef, onGP_none, condG_false, -List.reduceReplicate]
            exact Ret.drop (by rfl) ⟨rfl, rfl⟩
          · have n1i : ¬ (x : Int) < 48 := by omega
            have n2 : 57 < x := by omega
            have n2i : (57 : Int) < x := by omega
            simp (maxSteps := 1000000) [hho, noHo, slotsOf, h1, h1i, ba, ba2, x46, x46i, n1, n1i, n2, n2i, np, undef, onGP_none, condG_false, -List.reduceReplicate]
            exact Ret.drop (by rfl) ⟨rfl, rfl⟩
  have h1i : ¬ (i : Int) < s.size := by omega
  have hie : i = s.size := by omega
  have hfull : (s.data.toList.drop f).take (i - f) = s.data.toList.drop f := List.take_of_length_le (by rw [List.length_drop]; omega)
  rw [hfull] at hT
  have c1 := r2trim_w (dgs (W ++ R)) (by rw [hdl]; omega)
  have c2 := r2Int_w (trimL (dgs (W ++ R))) m (trimL_canon _ _ (Nat.le_refl _) (dgs_ok hAll)) (Nat.le_trans (trimL_len _) (by rw [hdl]; omega))
  rw [trimL_val _ _ (Nat.le_refl _), show valL (dgs (W ++ R)) = nval (W ++ R) from rfl] at c2
  have hkey : R0 = r3A (dec3 (decB m (W, R, hp))) := by
    rw [hR0, hT]
    cases hp with
    | true => rw [if_pos rfl, cutP_some R (dig_n46 hW)]
    | false => rw [if_neg (by decide), cutP_none (dig_n46 hW), hN1 rfl]
  rw [decB_of hW hR] at hkey
  obtain ⟨N, hN⟩ : ∃ N, N = nval (W ++ R) := ⟨_, rfl⟩
  rw [← hN] at c2 hkey
  obtain ⟨T, hTt⟩ : ∃ T, T = trimL (dgs (W ++ R)) := ⟨_, rfl⟩
  rw [← hTt] at c1 c2
  unfold dA at c1 c2
  rw [hdl] at c1
  obtain ⟨D, hD⟩ : ∃ D, D = intsA (digI (dgs (W ++ R))) := ⟨_, rfl⟩
  rw [← hD] at c1 ⊢
  unfold intR at c2
  cases hp with
  | false =>
    rw [if_neg (by decide)] at hlen hT
    have hRe := hN1 rfl
    subst hRe
    by_cases hWe : W = []
    · have e : R0 = r3A (0, 0, false) := by rw [hkey, if_pos (.inl hWe)]; rfl
      have q1 : i = f := by rw [hWe] at hlen; simp at hlen; omega
      have h1f : ¬ f < s.size := by omega
      have h1fi : ¬ (f : Int) < s.size := by omega
      rw [e, q1]
      simp (maxSteps := 1000000) [hho, noHo, slotsOf, h1f, h1fi, undef, onGP_none, condG_false, -List.reduceReplicate]
      exact Ret.drop (by rfl) ⟨rfl, rfl⟩
    have hWl : 0 < W.length := List.length_pos_iff.2 hWe
    have q1 : ¬ i = f := by omega
    have q1i : ¬ (i : Int) = f := by omega
    have ew1 : IntKind.i64.wrap ((f : Int) + 1) = (f : Int) + 1 := IntWalk.i64_in _ (by omega)
    have hfL : f < s.data.toList.length := by omega
    have hhd := head_drop (L := s.data.toList) (f := f) (n := s.data.toList.length) (W := W) (X := []) (by rw [List.take_of_length_le (by rw [List.length_drop]; omega), hT]; simp) hWe hfL
    have bf := hbat f hfL
    have bf2 := hbat2 f hfL
    obtain ⟨c0, hc0⟩ : ∃ c : UInt8, c = s.data.toList[f] := ⟨_, rfl⟩
    rw [← hc0] at bf bf2 hhd
    obtain ⟨x0, hx0⟩ : ∃ x : Nat, x = c0.toNat := ⟨_, rfl⟩
    rw [← hx0] at bf bf2
    have hfs : f < s.size := hfL
    have hfsi : (f : Int) < s.size := by omega
    by_cases hW1 : 1 < W.length
    · have q2 : f + 1 < i := by omega
      have q2i : (f : Int) + 1 < i := by omega
      by_cases hz : x0 = 48
      · have hzi : (x0 : Int) = 48 := by omega
        have hc48 : c0 = 48 := UInt8.toNat_inj.1 (by rw [← hx0, hz]; rfl)
        have e : R0 = r3A (0, 0, false) := by rw [hkey, if_pos (.inr (.inl ⟨hW1, by rw [hhd, hc48]⟩))]; rfl
        rw [e]
        simp (maxSteps := 1000000) [hho, noHo, slotsOf, h1, h1i, if_true, q1, q1i, q2, q2i, ew1, bf, bf2, hz, hzi, hfs, hfsi, undef, onGP_none, condG_false, -List.reduceReplicate]
        exact Ret.drop (by rfl) ⟨rfl, rfl⟩
      have hzi : ¬ (x0 : Int) = 48 := by omega
      have hbad : ¬ (W = [] ∨ (1 < W.length ∧ W.head? = some 48) ∨ (false = true ∧ (([] : List UInt8).length = 0 ∨ 6 < ([] : List UInt8).length))) := by
        rintro (h | ⟨_, h⟩ | ⟨h, h2⟩)
        · exact hWe h
        · rw [hhd] at h; injection h with h; exact hz (by rw [hx0, h]; rfl)
        · cases h
      by_cases hgt : mostN m < N
      · have e : R0 = r3A (0, 0, false) := by
          rw [hkey, if_neg hbad, if_pos (.inl hgt)]; rfl
        rw [if_pos hgt] at c2
        rw [e]
        simp (maxSteps := 1000000) [hho, noHo, slotsOf, h1, h1i, if_true, q1, q1i, q2, q2i, ew1, bf, bf2, hz, hzi, hfs, hfsi, undef, onGP_none, condG_false, -List.reduceReplicate]
        refine call_x [] (c1) rfl rfl ⟨rfl, rfl⟩ hho (by simp) (by decide) (by simp) (by simp) ?_
        simp (maxSteps := 1000000) [hho, noHo, undef, onGP_none, condG_false, -List.reduceReplicate]
        refine call_x [] (c2) rfl rfl ⟨rfl, rfl⟩ hho (by simp) (by decide) (by simp) (by simp) ?_
        simp (maxSteps := 1000000) [hho, noHo, undef, onGP_none, condG_false, -List.reduceReplicate]
        exact Ret.drop (by rfl) ⟨rfl, rfl⟩
      rw [if_neg hgt] at c2
      cases m with
      | true =>
        rw [if_pos rfl] at c2
        by_cases hN0 : N = 0
        · have e : R0 = r3A (0, 0, false) := by
            rw [hkey, if_neg hbad, if_pos (.inr ⟨hN0, rfl⟩)]; rfl
          have hN0i : -(N : Int) = 0 := by omega
          rw [e]
          simp (maxSteps := 1000000) [hho, noHo, slotsOf, h1, h1i, if_true, q1, q1i, q2, q2i, ew1, bf, bf2, hz, hzi, hfs, hfsi, undef, onGP_none, condG_false, -List.reduceReplicate]
          refine call_x [] (c1) rfl rfl ⟨rfl, rfl⟩ hho (by simp) (by decide) (by simp) (by simp) ?_
          simp (maxSteps := 1000000) [hho, noHo, undef, onGP_none, condG_false, -List.reduceReplicate]
          refine call_x [] (c2) rfl rfl ⟨rfl, rfl⟩ hho (by simp) (by decide) (by simp) (by simp) ?_
          simp (maxSteps := 1000000) [hho, noHo, hN0, hN0i, undef, onGP_none, condG_false, -List.reduceReplicate]
          exact Ret.drop (by rfl) ⟨rfl, rfl⟩
        · have e : R0 = r3A (-(N : Int), ((([] : List UInt8).length : Nat) : Int), true) := by
            rw [hkey, if_neg hbad, if_neg (fun h => h.elim hgt fun h => hN0 h.1), if_pos rfl]; rfl
          have hN0i : ¬ -(N : Int) = 0 := by omega
          rw [e]
          simp (maxSteps := 1000000) [hho, noHo, slotsOf, h1, h1i, if_true, q1, q1i, q2, q2i, ew1, bf, bf2, hz, hzi, hfs, hfsi, undef, onGP_none, condG_false, -List.reduceReplicate]
          refine call_x [] (c1) rfl rfl ⟨rfl, rfl⟩ hho (by simp) (by decide) (by simp) (by simp) ?_
          simp (maxSteps := 1000000) [hho, noHo, undef, onGP_none, condG_false, -List.reduceReplicate]
          refine call_x [] (c2) rfl rfl ⟨rfl, rfl⟩ hho (by simp) (by decide) (by simp) (by simp) ?_
          simp (maxSteps := 1000000) [hho, noHo, hN0, hN0i, undef, onGP_none, condG_false, -List.reduceReplicate]
          exact Ret.drop (by rfl) ⟨by simp [r3A], rfl⟩
      | false =>
        rw [if_neg (by decide)] at c2
        have e : R0 = r3A ((N : Int), ((([] : List UInt8).length : Nat) : Int), true) := by
          rw [hkey, if_neg hbad, if_neg (fun h => h.elim hgt fun h => by cases h.2), if_neg (by decide)]; rfl
        rw [e]
        by_cases hN0 : N = 0
        · have hN0i : (N : Int) = 0 := by omega
          simp (maxSteps := 1000000) [hho, noHo, slotsOf, h1, h1i, if_true, q1, q1i, q2, q2i, ew1, bf, bf2, hz, hzi, hfs, hfsi, undef, onGP_none, condG_false, -List.reduceReplicate]
          refine call_x [] (c1) rfl rfl ⟨rfl, rfl⟩ hho (by simp) (by decide) (by simp) (by simp) ?_
          simp (maxSteps := 1000000) [hho, noHo, undef, onGP_none, condG_false, -List.reduceReplicate]
          refine call_x [] (c2) rfl rfl ⟨rfl, rfl⟩ hho (by simp) (by decide) (by simp) (by simp) ?_
          simp (maxSteps := 1000000) [hho, noHo, hN0, hN0i, undef, onGP_none, condG_false, -List.reduceReplicate]
          exact Ret.drop (by rfl) ⟨by simp [r3A], rfl⟩
        · have hN0i : ¬ (N : Int) = 0 := by omega
          simp (maxSteps := 1000000) [hho, noHo, slotsOf, h1, h1i, if_true, q1, q1i, q2, q2i, ew1, bf, bf2, hz, hzi, hfs, hfsi, undef, onGP_none, condG_false, -List.reduceReplicate]
          refine call_x [] (c1) rfl rfl ⟨rfl, rfl⟩ hho (by simp) (by decide) (by simp) (by simp) ?_
          simp (maxSteps := 1000000) [hho, noHo, undef, onGP_none, condG_false, -List.reduceReplicate]
          refine call_x [] (c2) rfl rfl ⟨rfl, rfl⟩ hho (by simp) (by decide) (by simp) (by simp) ?_
          simp (maxSteps := 1000000) [hho, noHo, hN0, hN0i, undef, onGP_none, condG_false, -List.reduceReplicate]
          exact Ret.drop (by rfl) ⟨by simp [r3A], rfl⟩
    · have q2 : ¬ f + 1 < i := by omega
      have q2i : ¬ (f : Int) + 1 < i := by omega
      have hbad : ¬ (W = [] ∨ (1 < W.length ∧ W.head? = some 48) ∨ (false = true ∧ (([] : List UInt8).length = 0 ∨ 6 < ([] : List UInt8).length))) := by
        rintro (h | ⟨h, _⟩ | ⟨h, h2⟩)
        · exact hWe h
        · exact hW1 h
        · cases h
      by_cases hgt : mostN m < N
      · have e : R0 = r3A (0, 0, false) := by
          rw [hkey, if_neg hbad, if_pos (.inl hgt)]; rfl
        rw [if_pos hgt] at c2
        rw [e]
        simp (maxSteps := 1000000) [hho, noHo, slotsOf, h1, h1i, if_true, q1, q1i, q2, q2i, ew1, undef, onGP_none, condG_false, -List.reduceReplicate]
        refine call_x [] (c1) rfl rfl ⟨rfl, rfl⟩ hho (by simp) (by decide) (by simp) (by simp) ?_
        simp (maxSteps := 1000000) [hho, noHo, undef, onGP_none, condG_false, -List.reduceReplicate]
        refine call_x [] (c2) rfl rfl ⟨rfl, rfl⟩ hho (by simp) (by decide) (by simp) (by simp) ?_
        simp (maxSteps := 1000000) [hho, noHo, undef, onGP_none, condG_false, -List.reduceReplicate]
        exact Ret.drop (by rfl) ⟨rfl, rfl⟩
      rw [if_neg hgt] at c2
      cases m with
      | true =>
        rw [if_pos rfl] at c2
        by_cases hN0 : N = 0
        · have e : R0 = r3A (0, 0, false) := by
            rw [hkey, if_neg hbad, if_pos (.inr ⟨hN0, rfl⟩)]; rfl
          have hN0i : -(N : Int) = 0 := by omega
          rw [e]
          simp (maxSteps := 1000000) [hho, noHo, slotsOf, h1, h1i, if_true, q1, q1i, q2, q2i, ew1, undef, onGP_none, condG_false, -List.reduceReplicate]
          refine call_x [] (c1) rfl rfl ⟨rfl, rfl⟩ hho (by simp) (by decide) (by simp) (by simp) ?_
          simp (maxSteps := 1000000) [hho, noHo, undef, onGP_none, condG_false, -List.reduceReplicate]
          refine call_x [] (c2) rfl rfl ⟨rfl, rfl⟩ hho (by simp) (by decide) (by simp) (by simp) ?_
          simp (maxSteps := 1000000) [hho, noHo, hN0, hN0i, undef, onGP_none, condG_false, -List.reduceReplicate]
          exact Ret.drop (by rfl) ⟨rfl, rfl⟩
        · have e : R0 = r3A (-(N : Int), ((([] : List UInt8).length : Nat) : Int), true) := by
            rw [hkey, if_neg hbad, if_neg (fun h => h.elim hgt fun h => hN0 h.1), if_pos rfl]; rfl
          have hN0i : ¬ -(N : Int) = 0 := by omega
          rw [e]
          simp (maxSteps := 1000000) [hho, noHo, slotsOf, h1, h1i, if_true, q1, q1i, q2, q2i, ew1, undef, onGP_none, condG_false, -List.reduceReplicate]
          refine call_x [] (c1) rfl rfl ⟨rfl, rfl⟩ hho (by simp) (by decide) (by simp) (by simp) ?_
          simp (maxSteps := 1000000) [hho, noHo, undef, onGP_none, condG_false, -List.reduceReplicate]
          refine call_x [] (c2) rfl rfl ⟨rfl, rfl⟩ hho (by simp) (by decide) (by simp) (by simp) ?_
          simp (maxSteps := 1000000) [hho, noHo, hN0, hN0i, undef, onGP_none, condG_false, -List.reduceReplicate]
          exact Ret.drop (by rfl) ⟨by simp [r3A], rfl⟩
      | false =>
        rw [if_neg (by decide)] at c2
        have e : R0 = r3A ((N : Int), ((([] : List UInt8).length : Nat) : Int), true) := by
          rw [hkey, if_neg hbad, if_neg (fun h => h.elim hgt fun h => by cases h.2), if_neg (by decide)]; rfl
        rw [e]
        by_cases hN0 : N = 0
        · have hN0i : (N : Int) = 0 := by omega
          simp (maxSteps := 1000000) [hho, noHo, slotsOf, h1, h1i, if_true, q1, q1i, q2, q2i, ew1, undef, onGP_none, condG_false, -List.reduceReplicate]
          refine call_x [] (c1) rfl rfl ⟨rfl, rfl⟩ hho (by simp) (by decide) (by simp) (by simp) ?_
          simp (maxSteps := 1000000) [hho, noHo, undef, onGP_none, condG_false, -List.reduceReplicate]
          refine call_x [] (c2) rfl rfl ⟨rfl, rfl⟩ hho (by simp) (by decide) (by simp) (by simp) ?_
          simp (maxSteps := 1000000) [hho, noHo, hN0, hN0i, undef, onGP_none, condG_false, -List.reduceReplicate]
          exact Ret.drop (by rfl) ⟨by simp [r3A], rfl⟩
        · have hN0i : ¬ (N : Int) = 0 := by omega
          simp (maxSteps := 1000000) [hho, noHo, slotsOf, h1, h1i, if_true, q1, q1i, q2, q2i, ew1, undef, onGP_none, condG_false, -List.reduceReplicate]
          refine call_x [] (c1) rfl rfl ⟨rfl, rfl⟩ hho (by simp) (by decide) (by simp) (by simp) ?_
          simp (maxSteps := 1000000) [hho, noHo, undef, onGP_none, condG_false, -List.reduceReplicate]
          refine call_x [] (c2) rfl rfl ⟨rfl, rfl⟩ hho (by simp) (by decide) (by simp) (by simp) ?_
          simp (maxSteps := 1000000) [hho, noHo, hN0, hN0i, undef, onGP_none, condG_false, -List.reduceReplicate]
          exact Ret.drop (by rfl) ⟨by simp [r3A], rfl⟩
  | true =>
    rw [if_pos rfl] at hlen hT
    simp only [List.length_append, List.length_cons] at hlen
    obtain ⟨p, hpw⟩ : ∃ p, p = f + W.length := ⟨_, rfl⟩
    rw [← hpw]
    have np : (0 : Int) ≤ p := by omega
    have ea : IntKind.i64.wrap ((s.size : Int) - p) = (s.size : Int) - p := IntWalk.i64_in _ (by omega)
    have eb : IntKind.i64.wrap ((s.size : Int) - p - 1) = (R.length : Nat) := by rw [IntWalk.i64_in _ (by omega)]; omega
    by_cases r0 : R.length = 0 ∨ 6 < R.length
    · have e : R0 = r3A (0, 0, false) := by rw [hkey, if_pos (.inr (.inr ⟨rfl, r0⟩))]; rfl
      rw [e]
      by_cases r1 : R.length = 0
      · have r1i : (R.length : Int) = 0 := by omega
        simp (maxSteps := 1000000) [hho, noHo, slotsOf, h1, h1i, np, ea, eb, r1, r1i, undef, onGP_none, condG_false, -List.reduceReplicate]
        exact Ret.drop (by rfl) ⟨rfl, rfl⟩
      · have r1i : ¬ (R.length : Int) = 0 := by omega
        have r2 : 6 < R.length := by omega
        have r2i : (6 : Int) < R.length := by omega
        simp (maxSteps := 1000000) [hho, noHo, slotsOf, h1, h1i, np, ea, eb, r1, r1i, r2, r2i, undef, onGP_none, condG_false, -List.reduceReplicate]
        exact Ret.drop (by rfl) ⟨rfl, rfl⟩
    have r1 : ¬ R.length = 0 := fun h => r0 (.inl h)
    have r1i : ¬ (R.length : Int) = 0 := by omega
    have r2 : ¬ 6 < R.length := fun h => r0 (.inr h)
    have r2i : ¬ (6 : Int) < R.length := by omega
    have hWe : ¬ W = [] := hN2 rfl
    have hWl : 0 < W.length := List.length_pos_iff.2 hWe
    have q1 : ¬ p = f := by omega
    have q1i : ¬ (p : Int) = f := by omega
    have ew1 : IntKind.i64.wrap ((f : Int) + 1) = (f : Int) + 1 := IntWalk.i64_in _ (by omega)
    have hfL : f < s.data.toList.length := by omega
    have hhd := head_drop (L := s.data.toList) (f := f) (n := s.data.toList.length) (W := W) (X := 46 :: R) (by rw [List.take_of_length_le (by rw [List.length_drop]; omega), hT]) hWe hfL
    have bf := hbat f hfL
    have bf2 := hbat2 f hfL
    obtain ⟨c0, hc0⟩ : ∃ c : UInt8, c = s.data.toList[f] := ⟨_, rfl⟩
    rw [← hc0] at bf bf2 hhd
    obtain ⟨x0, hx0⟩ : ∃ x : Nat, x = c0.toNat := ⟨_, rfl⟩
    rw [← hx0] at bf bf2
    have hfs : f < s.size := hfL
    have hfsi : (f : Int) < s.size := by omega
    by_cases hW1 : 1 < W.length
    · have q2 : f + 1 < p := by omega
      have q2i : (f : Int) + 1 < p := by omega
      by_cases hz : x0 = 48
      · have hzi : (x0 : Int) = 48 := by omega
        have hc48 : c0 = 48 := UInt8.toNat_inj.1 (by rw [← hx0, hz]; rfl)
        have e : R0 = r3A (0, 0, false) := by rw [hkey, if_pos (.inr (.inl ⟨hW1, by rw [hhd, hc48]⟩))]; rfl
        rw [e]
        simp (maxSteps := 1000000) [hho, noHo, slotsOf, h1, h1i, np, ea, eb, r1, r1i, r2, r2i, q1, q1i, q2, q2i, ew1, bf, bf2, hz, hzi, hfs, hfsi, undef, onGP_none, condG_false, -List.reduceReplicate]
        exact Ret.drop (by rfl) ⟨rfl, rfl⟩
      have hzi : ¬ (x0 : Int) = 48 := by omega
      have hbad : ¬ (W = [] ∨ (1 < W.length ∧ W.head? = some 48) ∨ (true = true ∧ (R.length = 0 ∨ 6 < R.length))) := by
        rintro (h | ⟨_, h⟩ | ⟨h, h2⟩)
        · exact hWe h
        · rw [hhd] at h; injection h with h; exact hz (by rw [hx0, h]; rfl)
        · omega
      by_cases hgt : mostN m < N
      · have e : R0 = r3A (0, 0, false) := by
          rw [hkey, if_neg hbad, if_pos (.inl hgt)]; rfl
        rw [if_pos hgt] at c2
        rw [e]
        simp (maxSteps := 1000000) [hho, noHo, slotsOf, h1, h1i, np, ea, eb, r1, r1i, r2, r2i, q1, q1i, q2, q2i, ew1, bf, bf2, hz, hzi, hfs, hfsi, undef, onGP_none, condG_false, -List.reduceReplicate]
        refine call_x [] (c1) rfl rfl ⟨rfl, rfl⟩ hho (by simp) (by decide) (by simp) (by simp) ?_
        simp (maxSteps := 1000000) [hho, noHo, undef, onGP_none, condG_false, -List.reduceReplicate]
        refine call_x [] (c2) rfl rfl ⟨rfl, rfl⟩ hho (by simp) (by decide) (by simp) (by simp) ?_
        simp (maxSteps := 1000000) [hho, noHo, undef, onGP_none, condG_false, -List.reduceReplicate]
        exact Ret.drop (by rfl) ⟨rfl, rfl⟩
      rw [if_neg hgt] at c2
      cases m with
      | true =>
        rw [if_pos rfl] at c2
        by_cases hN0 : N = 0
        · have e : R0 = r3A (0, 0, false) := by
            rw [hkey, if_neg hbad, if_pos (.inr ⟨hN0, rfl⟩)]; rfl
          have hN0i : -(N : Int) = 0 := by omega
          rw [e]
          simp (maxSteps := 1000000) [hho, noHo, slotsOf, h1, h1i, np, ea, eb, r1, r1i, r2, r2i, q1, q1i, q2, q2i, ew1, bf, bf2, hz, hzi, hfs, hfsi, undef, onGP_none, condG_false, -List.reduceReplicate]
          refine call_x [] (c1) rfl rfl ⟨rfl, rfl⟩ hho (by simp) (by decide) (by simp) (by simp) ?_
          simp (maxSteps := 1000000) [hho, noHo, undef, onGP_none, condG_false, -List.reduceReplicate]
          refine call_x [] (c2) rfl rfl ⟨rfl, rfl⟩ hho (by simp) (by decide) (by simp) (by simp) ?_
          simp (maxSteps := 1000000) [hho, noHo, hN0, hN0i, undef, onGP_none, condG_false, -List.reduceReplicate]
          exact Ret.drop (by rfl) ⟨rfl, rfl⟩
        · have e : R0 = r3A (-(N : Int), ((R.length : Nat) : Int), true) := by
            rw [hkey, if_neg hbad, if_neg (fun h => h.elim hgt fun h => hN0 h.1), if_pos rfl]; rfl
          have hN0i : ¬ -(N : Int) = 0 := by omega
          rw [e]
          simp (maxSteps := 1000000) [hho, noHo, slotsOf, h1, h1i, np, ea, eb, r1, r1i, r2, r2i, q1, q1i, q2, q2i, ew1, bf, bf2, hz, hzi, hfs, hfsi, undef, onGP_none, condG_false, -List.reduceReplicate]
          refine call_x [] (c1) rfl rfl ⟨rfl, rfl⟩ hho (by simp) (by decide) (by simp) (by simp) ?_
          simp (maxSteps := 1000000) [hho, noHo, undef, onGP_none, condG_false, -List.reduceReplicate]
          refine call_x [] (c2) rfl rfl ⟨rfl, rfl⟩ hho (by simp) (by decide) (by simp) (by simp) ?_
          simp (maxSteps := 1000000) [hho, noHo, hN0, hN0i, undef, onGP_none, condG_false, -List.reduceReplicate]
          exact Ret.drop (by rfl) ⟨rfl, rfl⟩
      | false =>
        rw [if_neg (by decide)] at c2
        have e : R0 = r3A ((N : Int), ((R.length : Nat) : Int), true) := by
          rw [hkey, if_neg hbad, if_neg (fun h => h.elim hgt fun h => by cases h.2), if_neg (by decide)]; rfl
        rw [e]
        by_cases hN0 : N = 0
        · have hN0i : (N : Int) = 0 := by omega
          simp (maxSteps := 1000000) [hho, noHo, slotsOf, h1, h1i, np, ea, eb, r1, r1i, r2, r2i, q1, q1i, q2, q2i, ew1, bf, bf2, hz, hzi, hfs, hfsi, undef, onGP_none, condG_false, -List.reduceReplicate]
          refine call_x [] (c1) rfl rfl ⟨rfl, rfl⟩ hho (by simp) (by decide) (by simp) (by simp) ?_
          simp (maxSteps := 1000000) [hho, noHo, undef, onGP_none, condG_false, -List.reduceReplicate]
          refine call_x [] (c2) rfl rfl ⟨rfl, rfl⟩ hho (by simp) (by decide) (by simp) (by simp) ?_
          simp (maxSteps := 1000000) [hho, noHo, hN0, hN0i, undef, onGP_none, condG_false, -List.reduceReplicate]
          exact Ret.drop (by rfl) ⟨rfl, rfl⟩
        · have hN0i : ¬ (N : Int) = 0 := by omega
          simp (maxSteps := 1000000) [hho, noHo, slotsOf, h1, h1i, np, ea, eb, r1, r1i, r2, r2i, q1, q1i, q2, q2i, ew1, bf, bf2, hz, hzi, hfs, hfsi, undef, onGP_none, condG_false, -List.reduceReplicate]
          refine call_x [] (c1) rfl rfl ⟨rfl, rfl⟩ hho (by simp) (by decide) (by simp) (by simp) ?_
          simp (maxSteps := 1000000) [hho, noHo, undef, onGP_none, condG_false, -List.reduceReplicate]
          refine call_x [] (c2) rfl rfl ⟨rfl, rfl⟩ hho (by simp) (by decide) (by simp) (by simp) ?_
          simp (maxSteps := 1000000) [hho, noHo, hN0, hN0i, undef, onGP_none, condG_false, -List.reduceReplicate]
          exact Ret.drop (by rfl) ⟨rfl, rfl⟩
    · have q2 : ¬ f + 1 < p := by omega
      have q2i : ¬ (f : Int) + 1 < p := by omega
      have hbad : ¬ (W = [] ∨ (1 < W.length ∧ W.head? = some 48) ∨ (true = true ∧ (R.length = 0 ∨ 6 < R.length))) := by
        rintro (h | ⟨h, _⟩ | ⟨h, h2⟩)
        · exact hWe h
        · exact hW1 h
        · omega
      by_cases hgt : mostN m < N
      · have e : R0 = r3A (0, 0, false) := by
          rw [hkey, if_neg hbad, if_pos (.inl hgt)]; rfl
        rw [if_pos hgt] at c2
        rw [e]
        simp (maxSteps := 1000000) [hho, noHo, slotsOf, h1, h1i, np, ea, eb, r1, r1i, r2, r2i, q1, q1i, q2, q2i, ew1, undef, onGP_none, condG_false, -List.reduceReplicate]
        refine call_x [] (c1) rfl rfl ⟨rfl, rfl⟩ hho (by simp) (by decide) (by simp) (by simp) ?_
        simp (maxSteps := 1000000) [hho, noHo, undef, onGP_none, condG_false, -List.reduceReplicate]
        refine call_x [] (c2) rfl rfl ⟨rfl, rfl⟩ hho (by simp) (by decide) (by simp) (by simp) ?_
        simp (maxSteps := 1000000) [hho, noHo, undef, onGP_none, condG_false, -List.reduceReplicate]
        exact Ret.drop (by rfl) ⟨rfl, rfl⟩
      rw [if_neg hgt] at c2
      cases m with
      | true =>
        rw [if_pos rfl] at c2
        by_cases hN0 : N = 0
        · have e : R0 = r3A (0, 0, false) := by
            rw [hkey, if_neg hbad, if_pos (.inr ⟨hN0, rfl⟩)]; rfl
          have hN0i : -(N : Int) = 0 := by omega
          rw [e]
          simp (maxSteps := 1000000) [hho, noHo, slotsOf, h1, h1i, np, ea, eb, r1, r1i, r2, r2i, q1, q1i, q2, q2i, ew1, undef, onGP_none, condG_false, -List.reduceReplicate]
          refine call_x [] (c1) rfl rfl ⟨rfl, rfl⟩ hho (by simp) (by decide) (by simp) (by simp) ?_
          simp (maxSteps := 1000000) [hho, noHo, undef, onGP_none, condG_false, -List.reduceReplicate]
          refine call_x [] (c2) rfl rfl ⟨rfl, rfl⟩ hho (by simp) (by decide) (by simp) (by simp) ?_
          simp (maxSteps := 1000000) [hho, noHo, hN0, hN0i, undef, onGP_none, condG_false, -List.reduceReplicate]
          exact Ret.drop (by rfl) ⟨rfl, rfl⟩
        · have e : R0 = r3A (-(N : Int), ((R.length : Nat) : Int), true) := by
            rw [hkey, if_neg hbad, if_neg (fun h => h.elim hgt fun h => hN0 h.1), if_pos rfl]; rfl
          have hN0i : ¬ -(N : Int) = 0 := by omega
          rw [e]
          simp (maxSteps := 1000000) [hho, noHo, slotsOf, h1, h1i, np, ea, eb, r1, r1i, r2, r2i, q1, q1i, q2, q2i, ew1, undef, onGP_none, condG_false, -List.reduceReplicate]
          refine call_x [] (c1) rfl rfl ⟨rfl, rfl⟩ hho (by simp) (by decide) (by simp) (by simp) ?_
          simp (maxSteps := 1000000) [hho, noHo, undef, onGP_none, condG_false, -List.reduceReplicate]
          refine call_x [] (c2) rfl rfl ⟨rfl, rfl⟩ hho (by simp) (by decide) (by simp) (by simp) ?_
          simp (maxSteps := 1000000) [hho, noHo, hN0, hN0i, undef, onGP_none, condG_false, -List.reduceReplicate]
          exact Ret.drop (by rfl) ⟨rfl, rfl⟩
      | false =>
        rw [if_neg (by decide)] at c2
        have e : R0 = r3A ((N : Int), ((R.length : Nat) : Int), true) := by
          rw [hkey, if_neg hbad, if_neg (fun h => h.elim hgt fun h => by cases h.2), if_neg (by decide)]; rfl
        rw [e]
        by_cases hN0 : N = 0
        · have hN0i : (N : Int) = 0 := by omega
          simp (maxSteps := 1000000) [hho, noHo, slotsOf, h1, h1i, np, ea, eb, r1, r1i, r2, r2i, q1, q1i, q2, q2i, ew1, undef, onGP_none, condG_false, -List.reduceReplicate]
          refine call_x [] (c1) rfl rfl ⟨rfl, rfl⟩ hho (by simp) (by decide) (by simp) (by simp) ?_
          simp (maxSteps := 1000000) [hho, noHo, undef, onGP_none, condG_false, -List.reduceReplicate]
          refine call_x [] (c2) rfl rfl ⟨rfl, rfl⟩ hho (by simp) (by decide) (by simp) (by simp) ?_
          simp (maxSteps := 1000000) [hho, noHo, hN0, hN0i, undef, onGP_none, condG_false, -List.reduceReplicate]
          exact Ret.drop (by rfl) ⟨rfl, rfl⟩
        · have hN0i : ¬ (N : Int) = 0 := by omega
          simp (maxSteps := 1000000) [hho, noHo, slotsOf, h1, h1i, np, ea, eb, r1, r1i, r2, r2i, q1, q1i, q2, q2i, ew1, undef, onGP_none, condG_false, -List.reduceReplicate]
          refine call_x [] (c1) rfl rfl ⟨rfl, rfl⟩ hho (by simp) (by decide) (by simp) (by simp) ?_
          simp (maxSteps := 1000000) [hho, noHo, undef, onGP_none, condG_false, -List.reduceReplicate]
          refine call_x [] (c2) rfl rfl ⟨rfl, rfl⟩ hho (by simp) (by decide) (by simp) (by simp) ?_
          simp (maxSteps := 1000000) [hho, noHo, hN0, hN0i, undef, onGP_none, condG_false, -List.reduceReplicate]
          exact Ret.drop (by rfl) ⟨rfl, rfl⟩
end Go.Proofs.YtjgdlocgoiinbaaGreatDoor
