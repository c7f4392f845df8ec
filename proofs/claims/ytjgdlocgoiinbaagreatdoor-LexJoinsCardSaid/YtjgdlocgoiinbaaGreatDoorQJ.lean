import Derived.Test.YtjgdlocgoiinbaaGreatDoorQI
namespace Go.Proofs.YtjgdlocgoiinbaaGreatDoor
set_option linter.unusedVariables false
set_option linter.unusedSimpArgs false
open Go.RowKit Go.Lib
attribute [local simp] isCut_nil isCut_region isCut_seq isCut_block isCut_loop isCut_cond isCut_skip isCut_exit isCut_ret isCut_range swapK putK altK condK_bool pickP_bool stepP stepO onPure_some onPure_none onImpl_some onImpl_none stepC onGP_some onGP_none onGV_some condG mkG onIt_it nextP_ptr takeP_eq takeV_some takeV_none takeU_some takeU_none takeQ takeW_some takeN_none takeN_some takeG_some takeO_some altO_some pureV binV2 eqF eqOp ovlV ovl2 rowAt capV binV intBin strBin isSh shV fldV ixV sliceV slice3V loadAV nilV lenV callV unV convV viewS cellsH loadV fldCut AV.ung AV.ungs AV.gc AV.cells AS.ev AS.put anyS gcsV gcO lens lnO gV guardV retK RetP_eq resV oneV anyRo loIx hiIx implO callP_clo evL gcsL clearV storeAV AS.push AS.setO appV appZ shortS copyV buildV partsV fillV srcV fzO okV isCell_c isCell_ptr isCell_sl isCell_fs isCell_fp isCell_clo rowZ_one rowZ_zero rowZ_2 rowZ_3 rowZ_4 rowZ_5 rowZ_6 rowZ_7 rowZ_8 rowZ_9 rowZ_10 rowZ_11 rowZ_12 noHo Value.oneCell' max2V min2V lookV updV lenM msAt afterH putBack frzFrom frzO rebO backIx nilEq_sl nilEq_fs nilEq_ifn nilEq_ifh ifOp_eql ifOp_neq isLit nilOp_eql nilOp_neq AV.reb AV.rebL
attribute [local simp ↓] runK_skip runK_region runK_draw runK_seq runK_cut runK_cond runK_block runK_loop runK_exit runK_label runK_goto runK_ret runK_range contK_nil contK_seq contK_seq_ret contK_seq_exit contK_seq_goto contK_block contK_block_ret contK_block_goto contK_block_exit runO_nil runO_cons roundK_exit roundK_ret roundK_goto exitK_ret cutK_ret cutK_exit runE_done runE_nil runE_take runE_alt condG_true condG_false
set_option maxRecDepth 10000
theorem pre_one (c : UInt8) (s : List UInt8) : hasPrefix s [c] = (s.head? == some c) := by
  unfold hasPrefix
  cases s with
  | nil => rfl
  | cons d l =>
    by_cases h : d = c
    · subst h; simp [List.isPrefixOf]
    · have h2 : ¬ c = d := fun e => h e.symm
      have e1 : (c == d) = false := beq_eq_false_iff_ne.2 h2
      have e2 : (d == c) = false := beq_eq_false_iff_ne.2 h
      simp [List.isPrefixOf, e1, e2]
theorem trim_one (c : UInt8) (s : List UInt8) : trimPrefix s [c] = if (s.head? == some c) = true then s.tail else s := by
  unfold trimPrefix
  rw [pre_one]
  split
  · cases s <;> rfl
  · rfl
theorem suf_one (c : UInt8) (s : List UInt8) : hasSuffix s [c] = (s.getLast? == some c) := by
  unfold hasSuffix List.isSuffixOf
  have := pre_one c s.reverse
  unfold hasPrefix at this
  rw [List.head?_reverse] at this
  exact this
theorem trimS_one (c : UInt8) (s : List UInt8) : trimSuffix s [c] = if (s.getLast? == some c) = true then s.dropLast else s := by
  unfold trimSuffix
  rw [suf_one]
  split
  · rw [List.dropLast_eq_take]; rfl
  · rfl
theorem ba_ne {s : ByteArray} {l : List UInt8} : s = baL l ↔ s.data.toList = l := by
  constructor
  · intro h; rw [h]; rfl
  · intro h; rw [← h]; rfl
theorem dec3_fst (o : Option (Int × Nat)) : (dec3 o).1 = (o.map Prod.fst).getD 0 := by cases o <;> rfl
theorem quoted_len (s : List UInt8) : (quotedP s).1.length ≤ s.length := by
  unfold quotedP
  split
  · simp
  · refine Nat.le_trans (und_len _ _ (Nat.le_refl _)) ?_
    simp
    omega
theorem unhexR_len (s : List UInt8) : (unhexR s).1.length ≤ s.length := by
  unfold unhexR
  cases h : unhexL s with
  | none => simp
  | some t =>
    have e := hexB_len t
    rw [hex_unhex h] at e
    show t.length ≤ s.length
    omega
set_option maxHeartbeats 4000000 in
theorem vcandidate_w (s : ByteArray) (hs : s.size ≤ 100000) : ACalls Tryz.prog 58 [.c (.string s)] [] (fun _ => false) (fun r h' => r = .agg (valA (candP s.data.toList)) ∧ h' = []) := by
  refine acalls mixed Tryz.func58 rfl Tryz.ntmps58 rfl fun E hE hst hho => ?_
  have ls : s.data.toList.length = s.size := rfl
  obtain ⟨Q, hQ⟩ : ∃ Q, Q = candP s.data.toList := ⟨_, rfl⟩
  rw [← hQ]
  unfold candP at hQ
  by_cases hT : s = ⟨#[84, 82, 85, 69]⟩
  · rw [if_pos (show s.data.toList = trueB from ba_ne.1 hT)] at hQ
    rw [hQ]
    simp (maxSteps := 1000000) [hho, noHo, hT, valA, undef, onGP_none, condG_false, -List.reduceReplicate]
    exact Ret.drop (by rfl) ⟨rfl, rfl⟩
  rw [if_neg (show ¬ s.data.toList = trueB from fun h => hT (ba_ne.2 h))] at hQ
  by_cases hF : s = ⟨#[70, 65, 76, 83, 69]⟩
  · rw [if_pos (show s.data.toList = falseB from ba_ne.1 hF)] at hQ
    rw [hQ]
    simp (maxSteps := 1000000) [hho, noHo, hF, valA, undef, onGP_none, condG_false, -List.reduceReplicate]
    exact Ret.drop (by rfl) ⟨rfl, rfl⟩
  rw [if_neg (show ¬ s.data.toList = falseB from fun h => hF (ba_ne.2 h))] at hQ
  have c1 := cutPrefix_w s ⟨#[88]⟩
  have e1 : ((⟨#[88]⟩ : ByteArray).data.toList) = [88] := rfl
  rw [e1, pre_one, trim_one] at c1
  have c2 := cutSuffix_w s ⟨#[46]⟩ (by omega)
  have e2 : ((⟨#[46]⟩ : ByteArray).data.toList) = [46] := rfl
  rw [e2, suf_one, trimS_one] at c2
  obtain ⟨hX, hhX⟩ : ∃ b, b = (s.data.toList.head? == some 88) := ⟨_, rfl⟩
  obtain ⟨hL, hhL⟩ : ∃ b, b = (s.data.toList.getLast? == some 46) := ⟨_, rfl⟩
  rw [← hhX] at c1
  rw [← hhL] at c2
  have c3 := vquoted_w (baL s.data.toList.tail) (by rw [ba_size, List.length_tail]; omega)
  rw [toL_ba] at c3
  have c4 := vunhex_w (baL (quotedP s.data.toList.tail).1) (by rw [ba_size]; have := quoted_len s.data.toList.tail; rw [List.length_tail] at this; omega)
  rw [toL_ba] at c4
  have c5 := vquoted_w s hs
  have c6 := dcParse_w (baL s.data.toList.dropLast) (by rw [ba_size, List.length_dropLast]; omega)
  have c7 := dcParse_w s hs
  rw [toL_ba] at c6
  have q88 : s.data.toList.head? = some 88 ↔ hX = true := by rw [hhX]; simp
  have q46 : s.data.toList.getLast? = some 46 ↔ hL = true := by rw [hhL]; simp
  have qu : (unhexL (quotedP s.data.toList.tail).1).getD [] = (unhexR (quotedP s.data.toList.tail).1).1 := by
    unfold unhexR
    cases unhexL (quotedP s.data.toList.tail).1 <;> rfl
  simp only [q88, q46, qu, ← dec3_fst] at hQ
  unfold numP at hQ
  obtain ⟨qt, hqt⟩ : ∃ b, b = quotedP s.data.toList.tail := ⟨_, rfl⟩
  obtain ⟨qs, hqs⟩ : ∃ b, b = quotedP s.data.toList := ⟨_, rfl⟩
  rw [← hqt] at c3 c4 hQ
  rw [← hqs] at c5 hQ
  obtain ⟨qt, bt⟩ := qt
  obtain ⟨qs, bs⟩ := qs
  simp only at c3 c4 c5 hQ
  obtain ⟨un, hun⟩ : ∃ b, b = unhexR qt := ⟨_, rfl⟩
  rw [← hun] at c4 hQ
  obtain ⟨un, bu⟩ := un
  obtain ⟨dl, hdl⟩ : ∃ b, b = dec3 (decP s.data.toList.dropLast) := ⟨_, rfl⟩
  rw [← hdl] at c6 hQ
  obtain ⟨d1, d2, d3⟩ := dl
  have hQd : bs = false → hL = false → hX = false ∨ bt = false → Q = if (dec3 (decP s.data.toList)).2.2 = true then (if 0 < (dec3 (decP s.data.toList)).2.1 then ⟨3, (dec3 (decP s.data.toList)).1, (dec3 (decP s.data.toList)).2.1, ByteArray.empty⟩ else ⟨2, (dec3 (decP s.data.toList)).1, 0, ByteArray.empty⟩) else vN := by
    intro h1 h2 h3
    rw [if_neg (by intro h; rcases h3 with h3 | h3; rw [h3] at h; cases h.1; rw [h3] at h; cases h.2), h1, h2, if_neg (by decide), if_neg (by decide)] at hQ
    rw [hQ]
    cases decP s.data.toList with
    | none => rfl
    | some p =>
      show (if 0 < p.2 then (⟨3, p.1, (p.2 : Int), ByteArray.empty⟩ : ValS) else ⟨2, p.1, 0, ByteArray.empty⟩) = if true = true then (if (0 : Int) < (p.2 : Int) then ⟨3, p.1, (p.2 : Int), ByteArray.empty⟩ else ⟨2, p.1, 0, ByteArray.empty⟩) else vN
      rw [if_pos rfl]
      by_cases h : 0 < p.2
      · rw [if_pos h, if_pos (by omega)]
      · rw [if_neg h, if_neg (by omega)]
  obtain ⟨dw, hdw⟩ : ∃ b, b = dec3 (decP s.data.toList) := ⟨_, rfl⟩
  rw [← hdw] at c7 hQd
  obtain ⟨w1, w2, w3⟩ := dw
  simp only at hQ hQd
  unfold r3A at c6 c7
  simp only at c6 c7
  clear hhX hhL hqt hqs hun hdl hdw q88 q46 qu
  by_cases hXb : hX = true ∧ bt = true
  · rw [if_pos hXb] at hQ
    obtain ⟨rfl, rfl⟩ := hXb
    rw [if_pos rfl] at c1
    rw [hQ]
    simp (maxSteps := 1000000) [hho, noHo, hT, hF, undef, onGP_none, condG_false, -List.reduceReplicate]
    refine call_x [] (c1) rfl rfl ⟨rfl, rfl⟩ hho (by simp) (by decide) (by simp) (by simp) ?_
    simp (maxSteps := 1000000) [hho, noHo, undef, onGP_none, condG_false, -List.reduceReplicate]
    refine call_x [] (c3) rfl rfl ⟨rfl, rfl⟩ hho (by simp) (by decide) (by simp) (by simp) ?_
    simp (maxSteps := 1000000) [hho, noHo, undef, onGP_none, condG_false, -List.reduceReplicate]
    refine call_x [] (c4) rfl rfl ⟨rfl, rfl⟩ hho (by simp) (by decide) (by simp) (by simp) ?_
    simp (maxSteps := 1000000) [hho, noHo, valA, undef, onGP_none, condG_false, -List.reduceReplicate]
    exact Ret.drop (by rfl) ⟨rfl, rfl⟩
  rw [if_neg hXb] at hQ
  have hXc : hX = false ∨ (hX = true ∧ bt = false) := by
    cases hX <;> cases bt <;> simp at hXb ⊢
  cases bs with
  | true =>
    rw [if_pos rfl] at hQ
    rw [hQ]
    rcases hXc with rfl | ⟨rfl, rfl⟩
    · simp (maxSteps := 1000000) [hho, noHo, hT, hF, undef, onGP_none, condG_false, -List.reduceReplicate]
      refine call_x [] (c1) rfl rfl ⟨rfl, rfl⟩ hho (by simp) (by decide) (by simp) (by simp) ?_
      simp (maxSteps := 1000000) [hho, noHo, undef, onGP_none, condG_false, -List.reduceReplicate]
      refine call_x [] (c5) rfl rfl ⟨rfl, rfl⟩ hho (by simp) (by decide) (by simp) (by simp) ?_
      simp (maxSteps := 1000000) [hho, noHo, valA, undef, onGP_none, condG_false, -List.reduceReplicate]
      exact Ret.drop (by rfl) ⟨rfl, rfl⟩
    · rw [if_pos rfl] at c1
      simp (maxSteps := 1000000) [hho, noHo, hT, hF, undef, onGP_none, condG_false, -List.reduceReplicate]
      refine call_x [] (c1) rfl rfl ⟨rfl, rfl⟩ hho (by simp) (by decide) (by simp) (by simp) ?_
      simp (maxSteps := 1000000) [hho, noHo, undef, onGP_none, condG_false, -List.reduceReplicate]
      refine call_x [] (c3) rfl rfl ⟨rfl, rfl⟩ hho (by simp) (by decide) (by simp) (by simp) ?_
      simp (maxSteps := 1000000) [hho, noHo, undef, onGP_none, condG_false, -List.reduceReplicate]
      refine call_x [] (c5) rfl rfl ⟨rfl, rfl⟩ hho (by simp) (by decide) (by simp) (by simp) ?_
      simp (maxSteps := 1000000) [hho, noHo, valA, undef, onGP_none, condG_false, -List.reduceReplicate]
      exact Ret.drop (by rfl) ⟨rfl, rfl⟩
  | false =>
    rw [if_neg (by decide)] at hQ
    cases hL with
    | true =>
      rw [if_pos rfl] at hQ c2
      rw [hQ]
      rcases hXc with rfl | ⟨rfl, rfl⟩
      · simp (maxSteps := 1000000) [hho, noHo, hT, hF, undef, onGP_none, condG_false, -List.reduceReplicate]
        refine call_x [] (c1) rfl rfl ⟨rfl, rfl⟩ hho (by simp) (by decide) (by simp) (by simp) ?_
        simp (maxSteps := 1000000) [hho, noHo, undef, onGP_none, condG_false, -List.reduceReplicate]
        refine call_x [] (c5) rfl rfl ⟨rfl, rfl⟩ hho (by simp) (by decide) (by simp) (by simp) ?_
        simp (maxSteps := 1000000) [hho, noHo, undef, onGP_none, condG_false, -List.reduceReplicate]
        refine call_x [] (c2) rfl rfl ⟨rfl, rfl⟩ hho (by simp) (by decide) (by simp) (by simp) ?_
        simp (maxSteps := 1000000) [hho, noHo, undef, onGP_none, condG_false, -List.reduceReplicate]
        refine call_x [] (c6) rfl rfl ⟨rfl, rfl⟩ hho (by simp) (by decide) (by simp) (by simp) ?_
        simp (maxSteps := 1000000) [hho, noHo, valA, undef, onGP_none, condG_false, -List.reduceReplicate]
        exact Ret.drop (by rfl) ⟨rfl, rfl⟩
      · rw [if_pos rfl] at c1
        simp (maxSteps := 1000000) [hho, noHo, hT, hF, undef, onGP_none, condG_false, -List.reduceReplicate]
        refine call_x [] (c1) rfl rfl ⟨rfl, rfl⟩ hho (by simp) (by decide) (by simp) (by simp) ?_
        simp (maxSteps := 1000000) [hho, noHo, undef, onGP_none, condG_false, -List.reduceReplicate]
        refine call_x [] (c3) rfl rfl ⟨rfl, rfl⟩ hho (by simp) (by decide) (by simp) (by simp) ?_
        simp (maxSteps := 1000000) [hho, noHo, undef, onGP_none, condG_false, -List.reduceReplicate]
        refine call_x [] (c5) rfl rfl ⟨rfl, rfl⟩ hho (by simp) (by decide) (by simp) (by simp) ?_
        simp (maxSteps := 1000000) [hho, noHo, undef, onGP_none, condG_false, -List.reduceReplicate]
        refine call_x [] (c2) rfl rfl ⟨rfl, rfl⟩ hho (by simp) (by decide) (by simp) (by simp) ?_
        simp (maxSteps := 1000000) [hho, noHo, undef, onGP_none, condG_false, -List.reduceReplicate]
        refine call_x [] (c6) rfl rfl ⟨rfl, rfl⟩ hho (by simp) (by decide) (by simp) (by simp) ?_
        simp (maxSteps := 1000000) [hho, noHo, valA, undef, onGP_none, condG_false, -List.reduceReplicate]
        exact Ret.drop (by rfl) ⟨rfl, rfl⟩
    | false =>
      have hQ2 := hQd rfl rfl (hXc.elim .inl fun h => .inr h.2)
      rw [hQ2]
      rcases hXc with rfl | ⟨rfl, rfl⟩
      · simp (maxSteps := 1000000) [hho, noHo, hT, hF, undef, onGP_none, condG_false, -List.reduceReplicate]
        refine call_x [] (c1) rfl rfl ⟨rfl, rfl⟩ hho (by simp) (by decide) (by simp) (by simp) ?_
        simp (maxSteps := 1000000) [hho, noHo, undef, onGP_none, condG_false, -List.reduceReplicate]
        refine call_x [] (c5) rfl rfl ⟨rfl, rfl⟩ hho (by simp) (by decide) (by simp) (by simp) ?_
        simp (maxSteps := 1000000) [hho, noHo, undef, onGP_none, condG_false, -List.reduceReplicate]
        refine call_x [] (c2) rfl rfl ⟨rfl, rfl⟩ hho (by simp) (by decide) (by simp) (by simp) ?_
        simp (maxSteps := 1000000) [hho, noHo, undef, onGP_none, condG_false, -List.reduceReplicate]
        refine call_x [] (c7) rfl rfl ⟨rfl, rfl⟩ hho (by simp) (by decide) (by simp) (by simp) ?_
        cases w3 with
        | false =>
          simp (maxSteps := 1000000) [hho, noHo, valA, vN, undef, onGP_none, condG_false, -List.reduceReplicate]
          exact Ret.drop (by rfl) ⟨rfl, rfl⟩
        | true =>
          by_cases h2 : 0 < w2
          · simp (maxSteps := 1000000) [hho, noHo, h2, valA, undef, onGP_none, condG_false, -List.reduceReplicate]
            exact Ret.drop (by rfl) ⟨rfl, rfl⟩
          · simp (maxSteps := 1000000) [hho, noHo, h2, valA, undef, onGP_none, condG_false, -List.reduceReplicate]
            exact Ret.drop (by rfl) ⟨rfl, rfl⟩
      · rw [if_pos rfl] at c1
        simp (maxSteps := 1000000) [hho, noHo, hT, hF, undef, onGP_none, condG_false, -List.reduceReplicate]
        refine call_x [] (c1) rfl rfl ⟨rfl, rfl⟩ hho (by simp) (by decide) (by simp) (by simp) ?_
        simp (maxSteps := 1000000) [hho, noHo, undef, onGP_none, condG_false, -List.reduceReplicate]
        refine call_x [] (c3) rfl rfl ⟨rfl, rfl⟩ hho (by simp) (by decide) (by simp) (by simp) ?_
        simp (maxSteps := 1000000) [hho, noHo, undef, onGP_none, condG_false, -List.reduceReplicate]
        refine call_x [] (c5) rfl rfl ⟨rfl, rfl⟩ hho (by simp) (by decide) (by simp) (by simp) ?_
        simp (maxSteps := 1000000) [hho, noHo, undef, onGP_none, condG_false, -List.reduceReplicate]
        refine call_x [] (c2) rfl rfl ⟨rfl, rfl⟩ hho (by simp) (by decide) (by simp) (by simp) ?_
        simp (maxSteps := 1000000) [hho, noHo, undef, onGP_none, condG_false, -List.reduceReplicate]
        refine call_x [] (c7) rfl rfl ⟨rfl, rfl⟩ hho (by simp) (by decide) (by simp) (by simp) ?_
        cases w3 with
        | false =>
          simp (maxSteps := 1000000) [hho, noHo, valA, vN, undef, onGP_none, condG_false, -List.reduceReplicate]
          exact Ret.drop (by rfl) ⟨rfl, rfl⟩
        | true =>
          by_cases h2 : 0 < w2
          · simp (maxSteps := 1000000) [hho, noHo, h2, valA, undef, onGP_none, condG_false, -List.reduceReplicate]
            exact Ret.drop (by rfl) ⟨rfl, rfl⟩
          · simp (maxSteps := 1000000) [hho, noHo, h2, valA, undef, onGP_none, condG_false, -List.reduceReplicate]
            exact Ret.drop (by rfl) ⟨rfl, rfl⟩
end Go.Proofs.YtjgdlocgoiinbaaGreatDoor
