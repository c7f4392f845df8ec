import Derived.Test.YtjgdlocgoiinbaaGreatDoorKE
namespace Go.Proofs.YtjgdlocgoiinbaaGreatDoor
set_option linter.unusedVariables false
set_option linter.unusedSimpArgs false
open Go.RowKit Go.Shelf Go.Lib
attribute [local simp] isCut_nil isCut_region isCut_seq isCut_block isCut_loop isCut_cond isCut_skip isCut_exit isCut_ret isCut_range swapK putK altK condK_bool pickP_bool stepP stepO onPure_some onPure_none onImpl_some onImpl_none stepC onGP_some onGP_none onGV_some condG mkG onIt_it nextP_ptr takeP_eq takeV_some takeV_none takeU_some takeU_none takeQ takeW_some takeN_none takeN_some takeG_some takeO_some altO_some pureV binV2 eqF eqOp ovlV ovl2 rowAt capV binV intBin strBin isSh shV fldV ixV sliceV slice3V loadAV nilV lenV callV unV convV viewS cellsH loadV fldCut AV.ung AV.ungs AV.gc AV.cells AS.ev AS.put anyS gcsV gcO lens lnO gV guardV retK RetP_eq resV oneV anyRo loIx hiIx implO callP_clo evL gcsL clearV storeAV AS.push AS.setO appV appZ shortS copyV buildV partsV fillV srcV fzO okV isCell_c isCell_ptr isCell_sl isCell_fs isCell_fp isCell_clo rowZ_one rowZ_zero rowZ_2 rowZ_3 rowZ_4 rowZ_5 rowZ_6 rowZ_7 rowZ_8 rowZ_9 rowZ_10 rowZ_11 rowZ_12 noHo Value.oneCell' max2V min2V lookV updV lenM msAt afterH putBack frzFrom frzO rebO backIx nilEq_sl nilEq_fs nilEq_ifn nilEq_ifh ifOp_eql ifOp_neq isLit nilOp_eql nilOp_neq AV.reb AV.rebL
attribute [local simp ↓] runK_skip runK_region runK_draw runK_seq runK_cut runK_cond runK_block runK_loop runK_exit runK_label runK_goto runK_ret runK_range contK_nil contK_seq contK_seq_ret contK_seq_exit contK_seq_goto contK_block contK_block_ret contK_block_goto contK_block_exit runO_nil runO_cons roundK_exit roundK_ret roundK_goto exitK_ret cutK_ret cutK_exit runE_done runE_nil runE_take runE_alt condG_true condG_false
set_option maxRecDepth 10000
def f17t : List TokS := [⟨0, 0, baL [97], vN⟩, ⟨3, 1, baL [46], vN⟩, ⟨0, 2, baL [98], vN⟩, ⟨3, 3, baL [62, 61], vN⟩, ⟨2, 5, ByteArray.empty, ⟨3, 150, 2, ByteArray.empty⟩⟩, ⟨1, 10, baL [65, 78, 68], vN⟩, ⟨2, 14, ByteArray.empty, ⟨5, 0, 0, baL [15]⟩⟩]
def f17a : ByteArray := ⟨#[97, 46, 98, 62, 61, 49, 46, 53, 48, 32, 65, 78, 68, 32, 88, 39, 48, 70, 39]⟩
def f17b : ByteArray := ⟨#[97, 32, 65, 78, 68, 89]⟩
theorem f17_lex : lexG 0 f17a.data.toList = (some f17t, 0) := by kernel_rfl
theorem f17_bad : lexG 0 f17b.data.toList = (none, 2) := by kernel_rfl
set_option maxHeartbeats 8000000 in
theorem l17first_w : ACalls Tryz.prog 38 [] [] (fun _ => false) (fun r h' => r = .c (.bool true) ∧ h' = []) := by
  refine acalls mixed Tryz.func38 rfl Tryz.ntmps38 rfl fun E hE hst hho => ?_
  have c1 := lex_ok (s := f17a) (by decide) f17_lex
  have c2 := lex_bad (s := f17b) (by decide) f17_bad
  unfold f17a at c1
  unfold f17b at c2
  have hl : f17t.length = 7 := rfl
  rw [hl] at c1
  simp (maxSteps := 1000000) [hho, noHo, -List.reduceReplicate]
  refine call_x [] (c1) rfl rfl ⟨rfl, rfl⟩ hho (by simp) (by decide) (by simp) (by simp) ?_
  simp (maxSteps := 1000000) [hho, noHo, slT7, -List.reduceReplicate]
  refine call_x [] (c2) rfl rfl ⟨rfl, rfl⟩ hho (by simp) (by decide) (by simp) (by simp) ?_
  have b1 : baL [62, 61] = (⟨#[62, 61]⟩ : ByteArray) := rfl
  have b2 : baL [15] = (⟨#[15]⟩ : ByteArray) := rfl
  simp (maxSteps := 1000000) [hho, noHo, rowT, f17t, toksA, tokA, vN, b1, b2, -List.reduceReplicate]
  exact Ret.drop (by rfl) ⟨rfl, rfl⟩
theorem lex_word {w : List UInt8} (h : ∀ b ∈ w, isGreat b = true) (hne : w ≠ []) : lexG 0 w = if keysB.contains w = true then (some [⟨1, 0, baL w, vN⟩], 0) else (none, 0) := by
  have htw : w.takeWhile isGreat = w := by
    clear hne
    induction w with
    | nil => rfl
    | cons c l ih =>
      rw [List.takeWhile, h c (List.mem_cons_self ..)]
      simp only
      rw [ih fun b hb => h b (List.mem_cons_of_mem _ hb)]
  cases w with
  | nil => exact absurd rfl hne
  | cons c l =>
    have hc := h c (List.mem_cons_self ..)
    have hg : 65 ≤ c.toNat ∧ c.toNat ≤ 90 := by
      unfold isGreat at hc
      simpa using hc
    have hnb : ¬ (c = 32 ∨ c = 10) := by
      rintro (e | e) <;> (rw [e] at hg; simp at hg)
    have hn39 : ¬ c = 39 := fun e => by rw [e] at hg; simp at hg
    have hnx : ¬ (c = 88 ∧ l.head? = some 39) := by
      rintro ⟨_, e⟩
      cases l with
      | nil => cases e
      | cons d l2 =>
        injection e with e
        have := h d (List.mem_cons_of_mem _ (List.mem_cons_self ..))
        rw [e] at this
        cases this
    have hd : isDig c = false := by
      unfold isDig
      rw [Bool.and_eq_false_iff]
      right
      exact decide_eq_false (by omega)
    have ht : tokL (c :: l) = if keysB.contains (c :: l) = true then some (⟨1, 0, baL (c :: l), vN⟩, (c :: l).length) else none := by
      unfold tokL
      simp only [if_neg hn39, if_neg hnx, hd, Bool.false_eq_true, if_false, if_pos hc]
      rw [htw, keys_eq]
    by_cases hk : keysB.contains (c :: l) = true
    · rw [if_pos hk] at ht ⊢
      rw [lexG_tok hnb ht, List.drop_of_length_le (Nat.le_refl _), lexG_nil]
      rfl
    · rw [if_neg hk] at ht ⊢
      rw [lexG_bad hnb ht]
theorem keys_great : ∀ k ∈ keysB, (∀ b ∈ k, isGreat b = true) ∧ k ≠ [] ∧ k.length ≤ 100 := by decide +kernel
theorem great_iff (c : UInt8) : isGreat c = true ↔ 65 ≤ c.toNat ∧ c.toNat ≤ 90 := by
  unfold isGreat
  simp
set_option maxHeartbeats 8000000 in
theorem lexkeys_w (s : ByteArray) (hs : s.size ≤ maxLen) : ACalls Tryz.prog 13 [.c (.string s)] [] (fun _ => false) (fun r h' => r = .c (.bool true)) := by
  refine acalls mixed Tryz.func13 rfl Tryz.ntmps13 rfl fun E hE hst hho => ?_
  have ls : s.data.toList.length = s.size := rfl
  have hb : s = baL s.data.toList := rfl
  have c0 := l17first_w
  by_cases hl : 100 < s.size
  · have hli : (100 : Int) < s.size := by omega
    simp (maxSteps := 1000000) [hho, noHo, -List.reduceReplicate]
    refine call_x [] (c0) rfl rfl ⟨rfl, rfl⟩ hho (by simp) (by decide) (by simp) (by simp) ?_
    simp (maxSteps := 1000000) [hho, noHo, hl, hli, undef, onGP_none, condG_false, -List.reduceReplicate]
    exact Ret.drop (by rfl) rfl
  have hli : ¬ (100 : Int) < s.size := by omega
  have c1 := lexKeys_w
  have c2 := r17Keys_w
  have hKl : keysB.length = 44 := rfl
  have hKg := keys_great
  have hlex : ∀ k ∈ keysB, lexG 0 k = (some [⟨1, 0, baL k, vN⟩], 0) := fun k hk => by
    rw [lex_word (hKg k hk).1 (hKg k hk).2.1, if_pos (by simpa using hk)]
  have hword := fun w => @lex_word w
  obtain ⟨K, hK⟩ : ∃ K, K = keysB := ⟨_, rfl⟩
  rw [← hK] at c1 c2 hKl hKg hlex
  simp only [← hK] at hword
  clear hK
  simp (maxSteps := 1000000) [hho, noHo, -List.reduceReplicate]
  refine call_x [] (c0) rfl rfl ⟨rfl, rfl⟩ hho (by simp) (by decide) (by simp) (by simp) ?_
  simp (maxSteps := 1000000) [hho, noHo, hl, hli, undef, onGP_none, condG_false, -List.reduceReplicate]
  refine call_x [] (c1) rfl rfl ⟨rfl, rfl⟩ hho (by simp) (by decide) (by simp) (by simp) ?_
  simp (maxSteps := 1000000) [hho, noHo, undef, onGP_none, condG_false, -List.reduceReplicate]
  refine call_x [] (c2) rfl rfl ⟨rfl, rfl⟩ hho (by simp) (by decide) (by simp) (by simp) ?_
  simp (maxSteps := 1000000) [hho, noHo, undef, onGP_none, condG_false, -List.reduceReplicate]
  refine call_x [] (c2) rfl rfl ⟨rfl, rfl⟩ hho (by simp) (by decide) (by simp) (by simp) ?_
  simp (maxSteps := 1000000) [hho, noHo, undef, onGP_none, condG_false, -List.reduceReplicate]
  refine loop_k mixed (fun y : Nat × Bool => ⟨slotsOf 96 [(0, .c (.string s)), (3, .c (.bool y.2)), (4, .fs 1 44 (strsK K)), (25, .fs 1 44 (strsK K)), (26, .c (.int .i64 44)), (27, .c (.int .i64 (y.1 : Nat)))], []⟩) (fun y => 44 - y.1) (fun y => y.1 ≤ 44 ∧ y.2 = (K.take y.1).any (fun k => decide (k = s.data.toList))) (0, false) ⟨Nat.zero_le _, by simp⟩ ?_ ?_
  · exact wk_eq (by simp [hE, lens]) rfl (by simp [livH, livO, AV.livL, AV.liv, wkL, wkV, List.range', slotsOf])
  rintro ⟨j, kn⟩ ⟨hj, hkn⟩
  simp only at hj hkn
  by_cases g1 : j < 44
  · have g1i : (j : Int) < 44 := by omega
    have gj : j < K.length := by omega
    have tk := strsK_at K j gj
    have htk2 : K.take (j + 1) = K.take j ++ [K[j]] := List.take_succ_eq_append_getElem gj
    have ej : IntKind.i64.wrap ((j : Int) + 1) = (j + 1 : Nat) := by rw [IntWalk.i64_in _ (by omega)]; rfl
    have hm := List.getElem_mem gj
    have c3 := lex_ok (s := baL K[j]) (ts := [⟨1, 0, baL K[j], vN⟩]) (by rw [ba_size]; have := (hKg _ hm).2.2; omega) (hlex _ hm)
    obtain ⟨k0, hk0⟩ : ∃ k, k = K[j] := ⟨_, rfl⟩
    rw [← hk0] at tk htk2 c3
    have hcon : (K.take (j + 1)).any (fun k => decide (k = s.data.toList)) = (kn || decide (k0 = s.data.toList)) := by
      rw [htk2, List.any_append, ← hkn]; simp
    have h1l : ([⟨1, 0, baL k0, vN⟩] : List TokS).length = 1 := rfl
    rw [h1l] at c3
    cases kn with
    | true =>
      simp (maxSteps := 1000000) [hho, noHo, slotsOf, g1, g1i, tk, undef, onGP_none, condG_false, -List.reduceReplicate]
      refine call_x [] (c3) rfl rfl ⟨rfl, rfl⟩ hho (by simp) (by decide) (by simp) (by simp) ?_
      simp (maxSteps := 1000000) [hho, noHo, slT7, rowT, toksA, tokA, vN, undef, onGP_none, condG_false, -List.reduceReplicate]
      refine round_next (j + 1, true) ⟨by simp only; omega, by rw [hcon]; rfl⟩ (by simp only; omega) ?_
      exact wk_of 0 1 (by simp) (by simp [hE, lens]) rfl (by simp [livH, livO, AV.livL, AV.liv, wkL, wkV, List.range']) (by simp [livH, livO, AV.livL, AV.liv, wkL, wkV, List.range', slotsOf, ej])
    | false =>
      by_cases e : k0 = s.data.toList
      · have e' : baL k0 = s := by rw [e]; rfl
        simp (maxSteps := 1000000) [hho, noHo, slotsOf, g1, g1i, tk, e', undef, onGP_none, condG_false, -List.reduceReplicate]
        rw [e'] at c3
        refine call_x [] (c3) rfl rfl ⟨rfl, rfl⟩ hho (by simp) (by decide) (by simp) (by simp) ?_
        simp (maxSteps := 1000000) [hho, noHo, slT7, rowT, toksA, tokA, vN, undef, onGP_none, condG_false, -List.reduceReplicate]
        refine round_next (j + 1, true) ⟨by simp only; omega, by rw [hcon, decide_eq_true e]; rfl⟩ (by simp only; omega) ?_
        exact wk_of 0 1 (by simp) (by simp [hE, lens]) rfl (by simp [livH, livO, AV.livL, AV.liv, wkL, wkV, List.range']) (by simp [livH, livO, AV.livL, AV.liv, wkL, wkV, List.range', slotsOf, ej])
      · have e' : ¬ baL k0 = s := fun h => e (by rw [← h]; rfl)
        simp (maxSteps := 1000000) [hho, noHo, slotsOf, g1, g1i, tk, e', undef, onGP_none, condG_false, -List.reduceReplicate]
        refine call_x [] (c3) rfl rfl ⟨rfl, rfl⟩ hho (by simp) (by decide) (by simp) (by simp) ?_
        simp (maxSteps := 1000000) [hho, noHo, slT7, rowT, toksA, tokA, vN, undef, onGP_none, condG_false, -List.reduceReplicate]
        refine round_next (j + 1, false) ⟨by simp only; omega, by rw [hcon, decide_eq_false e]; rfl⟩ (by simp only; omega) ?_
        exact wk_of 0 1 (by simp) (by simp [hE, lens]) rfl (by simp [livH, livO, AV.livL, AV.liv, wkL, wkV, List.range']) (by simp [livH, livO, AV.livL, AV.liv, wkL, wkV, List.range', slotsOf, ej])
  have g1i : ¬ (j : Int) < 44 := by omega
  rw [List.take_of_length_le (by omega)] at hkn
  simp (maxSteps := 1000000) [hho, noHo, slotsOf, g1, g1i, undef, onGP_none, condG_false, -List.reduceReplicate]
  refine loop_k mixed (fun i : Nat => ⟨slotsOf 96 [(0, .c (.string s)), (3, .c (.bool kn)), (10, .c (.int .i64 (i : Nat)))], []⟩) (fun i => s.size - i) (fun i => i ≤ s.size ∧ AllP isGreat s.data.toList 0 i) 0 ⟨Nat.zero_le _, AllP.start _ _ _⟩ ?_ ?_
  · exact wk_eq (by simp [hE, lens]) rfl (by simp [livH, livO, AV.livL, AV.liv, wkL, wkV, List.range', slotsOf])
  rintro i ⟨hi, hA⟩
  by_cases f1 : i < s.size
  · have f1i : (i : Int) < s.size := by omega
    have fiL : i < s.data.toList.length := f1
    have bi := byte_at (s := s) fiL
    have bi2 := byte_at2 (s := s) fiL
    have hgi := great_iff s.data.toList[i]
    obtain ⟨u, hu⟩ : ∃ u : Nat, u = (s.data.toList[i]).toNat := ⟨_, rfl⟩
    rw [← hu] at bi bi2 hgi
    have ei : IntKind.i64.wrap ((i : Int) + 1) = (i + 1 : Nat) := by rw [IntWalk.i64_in _ (by omega)]; rfl
    by_cases u1 : u < 65
    · have u1i : (u : Int) < 65 := by omega
      simp (maxSteps := 1000000) [hho, noHo, slotsOf, f1, f1i, bi, bi2, u1, u1i, undef, onGP_none, condG_false, -List.reduceReplicate]
      exact Ret.drop (by rfl) rfl
    have u1i : ¬ (u : Int) < 65 := by omega
    by_cases u2 : 90 < u
    · have u2i : (90 : Int) < u := by omega
      simp (maxSteps := 1000000) [hho, noHo, slotsOf, f1, f1i, bi, bi2, u1, u1i, u2, u2i, undef, onGP_none, condG_false, -List.reduceReplicate]
      exact Ret.drop (by rfl) rfl
    have u2i : ¬ (90 : Int) < u := by omega
    simp (maxSteps := 1000000) [hho, noHo, slotsOf, f1, f1i, bi, bi2, u1, u1i, u2, u2i, undef, onGP_none, condG_false, -List.reduceReplicate]
    refine round_next (i + 1) ⟨by omega, hA.next fiL (hgi.2 ⟨by omega, by omega⟩)⟩ (by omega) ?_
    exact wk_of 0 0 (by simp) (by simp [hE, lens]) rfl (by simp [livH, livO, AV.livL, AV.liv, wkL, wkV, List.range']) (by simp [livH, livO, AV.livL, AV.liv, wkL, wkV, List.range', slotsOf, ei])
  have f1i : ¬ (i : Int) < s.size := by omega
  by_cases h0 : s.size = 0
  · have hse : s = ByteArray.empty := by
      apply ByteArray.ext
      apply Array.eq_empty_of_size_eq_zero
      exact h0
    have c4 := lex_ok (s := s) (by omega) (ts := []) (by rw [hse]; rfl)
    have hem : (s = ByteArray.empty) = True := eq_true hse
    have hem2 : (s = (⟨#[]⟩ : ByteArray)) = True := eq_true hse
    simp (maxSteps := 1000000) [hho, noHo, slotsOf, f1, f1i, undef, onGP_none, condG_false, -List.reduceReplicate]
    refine call_x [] (c4) rfl rfl ⟨rfl, rfl⟩ hho (by simp) (by decide) (by simp) (by simp) ?_
    simp (maxSteps := 1000000) [hho, noHo, hem, hem2, undef, onGP_none, condG_false, -List.reduceReplicate]
    exact Ret.drop (by rfl) rfl
  have hse : ¬ s = ByteArray.empty := fun e => h0 (by rw [e]; rfl)
  have hse2 : ¬ s = (⟨#[]⟩ : ByteArray) := hse
  have hgr : ∀ b ∈ s.data.toList, isGreat b = true := fun b hb2 => by
    obtain ⟨k, hk, e⟩ := List.getElem_of_mem hb2
    rw [← e]
    exact hA k hk (Nat.zero_le _) (by omega)
  have hw := hword _ hgr (fun e => h0 (by rw [← ls, e]; rfl))
  have hkc : K.contains s.data.toList = kn := by
    rw [hkn]
    by_cases hm : s.data.toList ∈ K
    · have h1 : K.contains s.data.toList = true := by simpa using hm
      rw [h1]
      exact (List.any_eq_true.2 ⟨_, hm, by simp⟩).symm
    · have h1 : K.contains s.data.toList = false := by rw [Bool.eq_false_iff]; simpa using hm
      rw [h1, eq_comm, Bool.eq_false_iff]
      intro h
      obtain ⟨k, hk, e⟩ := List.any_eq_true.1 h
      have e : k = s.data.toList := by simpa using e
      exact hm (by rw [← e]; exact hk)
  rw [hkc] at hw
  cases kn with
  | true =>
    rw [if_pos rfl] at hw
    have c4 := lex_ok (s := s) (by omega) hw
    simp (maxSteps := 1000000) [hho, noHo, slotsOf, f1, f1i, undef, onGP_none, condG_false, -List.reduceReplicate]
    refine call_x [] (c4) rfl rfl ⟨rfl, rfl⟩ hho (by simp) (by decide) (by simp) (by simp) ?_
    simp (maxSteps := 1000000) [hho, noHo, hse, hse2, undef, onGP_none, condG_false, -List.reduceReplicate]
    exact Ret.drop (by rfl) rfl
  | false =>
    rw [if_neg (by decide)] at hw
    have c4 := lex_bad (s := s) (by omega) hw
    simp (maxSteps := 1000000) [hho, noHo, slotsOf, f1, f1i, undef, onGP_none, condG_false, -List.reduceReplicate]
    refine call_x [] (c4) rfl rfl ⟨rfl, rfl⟩ hho (by simp) (by decide) (by simp) (by simp) ?_
    simp (maxSteps := 1000000) [hho, noHo, hse, hse2, undef, onGP_none, condG_false, -List.reduceReplicate]
    exact Ret.drop (by rfl) rfl
end Go.Proofs.YtjgdlocgoiinbaaGreatDoor
