import Derived.Test.YtjgdlocgoiinbaaGreatDoorQJ
namespace Go.Proofs.YtjgdlocgoiinbaaGreatDoor
set_option linter.unusedVariables false
set_option linter.unusedSimpArgs false
open Go.RowKit Go.Lib
attribute [local simp] isCut_nil isCut_region isCut_seq isCut_block isCut_loop isCut_cond isCut_skip isCut_exit isCut_ret isCut_range swapK putK altK condK_bool pickP_bool stepP stepO onPure_some onPure_none onImpl_some onImpl_none stepC onGP_some onGP_none onGV_some condG mkG onIt_it nextP_ptr takeP_eq takeV_some takeV_none takeU_some takeU_none takeQ takeW_some takeN_none takeN_some takeG_some takeO_some altO_some pureV binV2 eqF eqOp ovlV ovl2 rowAt capV binV intBin strBin isSh shV fldV ixV sliceV slice3V loadAV nilV lenV callV unV convV viewS cellsH loadV fldCut AV.ung AV.ungs AV.gc AV.cells AS.ev AS.put anyS gcsV gcO lens lnO gV guardV retK RetP_eq resV oneV anyRo loIx hiIx implO callP_clo evL gcsL clearV storeAV AS.push AS.setO appV appZ shortS copyV buildV partsV fillV srcV fzO okV isCell_c isCell_ptr isCell_sl isCell_fs isCell_fp isCell_clo rowZ_one rowZ_zero rowZ_2 rowZ_3 rowZ_4 rowZ_5 rowZ_6 rowZ_7 rowZ_8 rowZ_9 rowZ_10 rowZ_11 rowZ_12 noHo Value.oneCell' max2V min2V lookV updV lenM msAt afterH putBack frzFrom frzO rebO backIx nilEq_sl nilEq_fs nilEq_ifn nilEq_ifh ifOp_eql ifOp_neq isLit nilOp_eql nilOp_neq AV.reb AV.rebL
attribute [local simp ↓] runK_skip runK_region runK_draw runK_seq runK_cut runK_cond runK_block runK_loop runK_exit runK_label runK_goto runK_ret runK_range contK_nil contK_seq contK_seq_ret contK_seq_exit contK_seq_goto contK_block contK_block_ret contK_block_goto contK_block_exit runO_nil runO_cons roundK_exit roundK_ret roundK_goto exitK_ret cutK_ret cutK_exit runE_done runE_nil runE_take runE_alt condG_true condG_false
set_option maxRecDepth 10000
theorem printM_len {m k : Nat} (hm : m < 10 ^ 20) (hk : k ≤ 6) : (printM m k).length ≤ 30 := by
  have h1 : (decDigits m).length ≤ 20 := decDigits_len (k := 19) hm
  have h2 := padD_len m k
  have h3 : (padD m k).length ≤ 20 := by rw [h2]; split <;> omega
  unfold printM
  split
  · rw [show k = 0 by assumption] at h3; omega
  · simp only [List.length_append, List.length_cons, List.length_take, List.length_drop]; omega
theorem printD_len {n : Int} {k : Nat} (hn : -9223372036854775808 ≤ n ∧ n ≤ 9223372036854775807) (hk : k ≤ 6) : (printD n k).length ≤ 31 := by
  have := printM_len (m := n.natAbs) (k := k) (by omega) hk
  unfold printD
  split
  · rw [List.length_cons]; omega
  · omega
theorem ok_size {v : ValS} (h : valOk v = true) : v.t.size ≤ 200 := by
  have e0 : ByteArray.empty.size = 0 := rfl
  unfold valOk at h
  by_cases k0 : v.k = 0
  · rw [if_pos k0] at h
    simp only [Bool.and_eq_true, decide_eq_true_eq] at h
    rw [h.2, e0]; omega
  rw [if_neg k0] at h
  by_cases k1 : v.k = 1
  · rw [if_pos k1] at h
    simp only [Bool.and_eq_true, decide_eq_true_eq] at h
    rw [h.2, e0]; omega
  rw [if_neg k1] at h
  by_cases k2 : v.k = 2
  · rw [if_pos k2] at h
    simp only [Bool.and_eq_true, decide_eq_true_eq] at h
    rw [h.2, e0]; omega
  rw [if_neg k2] at h
  by_cases k3 : v.k = 3
  · rw [if_pos k3] at h
    simp only [Bool.and_eq_true, decide_eq_true_eq] at h
    rw [h.1, e0]; omega
  rw [if_neg k3] at h
  by_cases k4 : v.k = 4
  · rw [if_pos k4] at h
    simp only [Bool.and_eq_true, decide_eq_true_eq] at h
    omega
  rw [if_neg k4] at h
  by_cases k5 : v.k = 5
  · rw [if_pos k5] at h
    simp only [Bool.and_eq_true, decide_eq_true_eq] at h
    omega
  · rw [if_neg k5] at h; cases h
theorem dblQ_len : ∀ l : List UInt8, (dblQ l).length ≤ 2 * l.length
  | [] => by simp [dblQ]
  | c :: l => by
    have := dblQ_len l
    rw [dblQ]
    split <;> simp only [List.length_cons] <;> omega
set_option maxHeartbeats 4000000 in
theorem vPrint_w (x : ValS) (hx : (-9223372036854775808 ≤ x.n ∧ x.n ≤ 9223372036854775807) ∧ x.t.size ≤ 1000000000) : ACalls Tryz.prog 20 [.agg (valA x)] [] (fun _ => false) (fun r h' => r = .c (.string (baL (printR (plV x)))) ∧ h' = []) := by
  refine acalls mixed Tryz.func20 rfl Tryz.ntmps20 rfl fun E hE hst hho => ?_
  have c1 := vright_w x (by omega)
  have oa := plV_I hx
  obtain ⟨v, hv⟩ : ∃ a, a = plV x := ⟨_, rfl⟩
  rw [← hv] at c1 oa ⊢
  have kb := ok_k oa.1
  obtain ⟨Q, hQ⟩ : ∃ Q, Q = baL (printR v) := ⟨_, rfl⟩
  rw [← hQ]
  unfold printR at hQ
  simp (maxSteps := 1000000) [hho, noHo, valA, -List.reduceReplicate]
  refine call_x [] (c1) rfl rfl ⟨rfl, rfl⟩ hho (by simp) (by decide) (by simp) (by simp) ?_
  by_cases k1 : v.k = 1
  · rw [if_pos k1] at hQ
    by_cases n1 : v.n = 1
    · rw [if_pos n1] at hQ
      rw [hQ]
      simp (maxSteps := 1000000) [hho, noHo, valA, k1, n1, undef, onGP_none, condG_false, -List.reduceReplicate]
      exact Ret.drop (by rfl) ⟨rfl, rfl⟩
    · rw [if_neg n1] at hQ
      rw [hQ]
      simp (maxSteps := 1000000) [hho, noHo, valA, k1, n1, undef, onGP_none, condG_false, -List.reduceReplicate]
      exact Ret.drop (by rfl) ⟨rfl, rfl⟩
  rw [if_neg k1] at hQ
  by_cases k2 : v.k = 2
  · rw [if_pos k2] at hQ
    have c2 := dcPrint_w v.n 0 oa.2.1 rfl
    rw [show ((0 : Int)).toNat = 0 from rfl, ← hQ] at c2
    simp (maxSteps := 1000000) [hho, noHo, valA, k1, k2, undef, onGP_none, condG_false, -List.reduceReplicate]
    refine call_x [] (c2) rfl rfl ⟨rfl, rfl⟩ hho (by simp) (by decide) (by simp) (by simp) ?_
    simp (maxSteps := 1000000) [hho, noHo, undef, onGP_none, condG_false, -List.reduceReplicate]
    exact Ret.drop (by rfl) ⟨rfl, rfl⟩
  rw [if_neg k2] at hQ
  by_cases k3 : v.k = 3
  · rw [if_pos k3] at hQ
    by_cases s0 : v.s = 0
    · rw [if_pos s0] at hQ
      have c2 := dcPrint_w v.n 0 oa.2.1 rfl
      have hl := printD_len (n := v.n) (k := 0) oa.2.1 (by omega)
      rw [show ((0 : Int)).toNat = 0 from rfl] at c2
      have e1 : baL (printD v.n 0) ++ (⟨#[46]⟩ : ByteArray) = Q := by rw [hQ]; exact ba_app2 46 _
      have e2 := ba_size (printD v.n 0)
      simp (maxSteps := 1000000) [hho, noHo, valA, k1, k2, k3, s0, undef, onGP_none, condG_false, -List.reduceReplicate]
      refine call_x [] (c2) rfl rfl ⟨rfl, rfl⟩ hho (by simp) (by decide) (by simp) (by simp) ?_
      simp (maxSteps := 1000000) [hho, noHo, e1, e2, undef, onGP_none, condG_false, -List.reduceReplicate]
      exact ⟨by omega, Ret.drop (by rfl) ⟨rfl, rfl⟩⟩
    · rw [if_neg s0] at hQ
      have c2 := dcPrint_w v.n v.s oa.2.1 (ok_scale oa.1 (.inr k3))
      rw [← hQ] at c2
      simp (maxSteps := 1000000) [hho, noHo, valA, k1, k2, k3, s0, undef, onGP_none, condG_false, -List.reduceReplicate]
      refine call_x [] (c2) rfl rfl ⟨rfl, rfl⟩ hho (by simp) (by decide) (by simp) (by simp) ?_
      simp (maxSteps := 1000000) [hho, noHo, undef, onGP_none, condG_false, -List.reduceReplicate]
      exact Ret.drop (by rfl) ⟨rfl, rfl⟩
  rw [if_neg k3] at hQ
  have tl := ok_size oa.1
  have ls : v.t.data.toList.length = v.t.size := rfl
  by_cases k4 : v.k = 4
  · rw [if_pos k4] at hQ
    have c2 := replaceAll_w v.t ⟨#[39]⟩ ⟨#[39, 39]⟩ (by omega) (by decide) (by decide) (by decide)
    have e1 : ((⟨#[39, 39]⟩ : ByteArray).data.toList) = [39, 39] := rfl
    have e2 : ((⟨#[39]⟩ : ByteArray).data.toList) = [39] := rfl
    rw [e1, e2, replace_dbl] at c2
    have hl := dblQ_len v.t.data.toList
    obtain ⟨D, hD⟩ : ∃ D, D = dblQ v.t.data.toList := ⟨_, rfl⟩
    rw [← hD] at c2 hQ hl
    have e3 : (⟨#[39]⟩ : ByteArray) ++ baL D = baL (39 :: D) := ba_app1 39 D
    have e4 : baL (39 :: D) ++ (⟨#[39]⟩ : ByteArray) = Q := by rw [hQ, ba_app2]; rfl
    have e5 := ba_size D
    have e6 : (baL (39 :: D)).size = D.length + 1 := by rw [ba_size]; rfl
    simp (maxSteps := 1000000) [hho, noHo, valA, k1, k2, k3, k4, undef, onGP_none, condG_false, -List.reduceReplicate]
    refine call_x [] (c2) rfl rfl ⟨rfl, rfl⟩ hho (by simp) (by decide) (by simp) (by simp) ?_
    simp (maxSteps := 1000000) [hho, noHo, e3, e4, e5, e6, undef, onGP_none, condG_false, -List.reduceReplicate]
    exact ⟨by omega, by omega, Ret.drop (by rfl) ⟨rfl, rfl⟩⟩
  rw [if_neg k4] at hQ
  by_cases k5 : v.k = 5
  · rw [if_pos k5] at hQ
    have c2 := vhex_w v.t (by omega)
    have hl := hexB_len v.t.data.toList
    obtain ⟨D, hD⟩ : ∃ D, D = hexB v.t.data.toList := ⟨_, rfl⟩
    rw [← hD] at c2 hQ hl
    have e3 : (⟨#[88, 39]⟩ : ByteArray) ++ baL D = baL (88 :: 39 :: D) := ba_app [88, 39] D
    have e4 : baL (88 :: 39 :: D) ++ (⟨#[39]⟩ : ByteArray) = Q := by rw [hQ, ba_app2]; rfl
    have e5 := ba_size D
    have e6 : (baL (88 :: 39 :: D)).size = D.length + 2 := by rw [ba_size]; rfl
    have e7 : (⟨#[88, 39]⟩ : ByteArray).size = 2 := rfl
    simp (maxSteps := 1000000) [hho, noHo, valA, k1, k2, k3, k4, k5, undef, onGP_none, condG_false, -List.reduceReplicate]
    refine call_x [] (c2) rfl rfl ⟨rfl, rfl⟩ hho (by simp) (by decide) (by simp) (by simp) ?_
    simp (maxSteps := 1000000) [hho, noHo, e3, e4, e5, e6, e7, undef, onGP_none, condG_false, -List.reduceReplicate]
    exact ⟨by omega, by omega, Ret.drop (by rfl) ⟨rfl, rfl⟩⟩
  rw [if_neg k5] at hQ
  have k0 : v.k = 0 := by omega
  rw [hQ]
  simp (maxSteps := 1000000) [hho, noHo, valA, k0, undef, onGP_none, condG_false, -List.reduceReplicate]
  exact Ret.drop (by rfl) ⟨rfl, rfl⟩
theorem cand_len (s : List UInt8) : (candP s).t.size ≤ s.length := by
  unfold candP
  split
  · exact Nat.zero_le _
  split
  · exact Nat.zero_le _
  split
  · have h1 := unhexR_len (quotedP s.tail).1
    have h2 := quoted_len s.tail
    have e : (unhexL (quotedP s.tail).1).getD [] = (unhexR (quotedP s.tail).1).1 := by
      unfold unhexR
      cases unhexL (quotedP s.tail).1 <;> rfl
    show (baL ((unhexL (quotedP s.tail).1).getD [])).size ≤ s.length
    rw [e, ba_size]
    rw [List.length_tail] at h2
    omega
  split
  · have h2 := quoted_len s
    show (baL (quotedP s).1).size ≤ s.length
    rw [ba_size]; omega
  split
  · exact Nat.zero_le _
  · unfold numP
    cases decP s with
    | none => exact Nat.zero_le _
    | some p =>
      show (if 0 < p.2 then (⟨3, p.1, (p.2 : Int), ByteArray.empty⟩ : ValS) else ⟨2, p.1, 0, ByteArray.empty⟩).t.size ≤ s.length
      split <;> exact Nat.zero_le _
def pvR (o : Option ValS) : ValS × Bool := match o with | some v => (v, true) | none => (vN, false)
set_option maxHeartbeats 4000000 in
theorem vParse_w (s : ByteArray) (hs : s.size ≤ 100000) : ACalls Tryz.prog 21 [.c (.string s)] [] (fun _ => false) (fun r h' => r = .tup [.agg (valA (pvR (parseR s.data.toList)).1), .c (.bool (pvR (parseR s.data.toList)).2)] ∧ h' = []) := by
  refine acalls mixed Tryz.func21 rfl Tryz.ntmps21 rfl fun E hE hst hho => ?_
  have ls : s.data.toList.length = s.size := rfl
  have c1 := vcandidate_w s hs
  have ci := candP_i s.data.toList
  have cl := cand_len s.data.toList
  have pp := prog_parse s.data.toList
  obtain ⟨Q, hQ⟩ : ∃ Q, Q = parseR s.data.toList := ⟨_, rfl⟩
  rw [← hQ] at pp ⊢
  obtain ⟨v, hv⟩ : ∃ Q, Q = candP s.data.toList := ⟨_, rfl⟩
  rw [← hv] at c1 ci cl pp
  have c2 := val_right v (by omega)
  have c3 := vPrint_w v ⟨ci, by omega⟩
  simp (maxSteps := 1000000) [hho, noHo, -List.reduceReplicate]
  refine call_x [] (c1) rfl rfl ⟨rfl, rfl⟩ hho (by simp) (by decide) (by simp) (by simp) ?_
  by_cases ho : valOk v = true
  case neg =>
    have hb : valOk v = false := by simpa using ho
    rw [if_neg (fun h => ho h.1)] at pp
    rw [hb] at c2
    rw [← pp]
    simp (maxSteps := 1000000) [hho, noHo, valA, undef, onGP_none, condG_false, -List.reduceReplicate]
    refine call_x [] (c2) rfl rfl ⟨rfl, rfl⟩ hho (by simp) (by decide) (by simp) (by simp) ?_
    simp (maxSteps := 1000000) [hho, noHo, valA, pvR, vN, undef, onGP_none, condG_false, undef, onGP_none, condG_false, -List.reduceReplicate]
    exact Ret.sel [] (fun _ => false) (ho := by rfl) (ha := by rfl) (by simp) (by simp) (by decide) (by simp) (fun i _ h => by cases h) ⟨rfl, rfl⟩
  rw [ho] at c2
  rw [plV_of ho] at c3
  by_cases hp : printR v = s.data.toList
  · rw [if_pos ⟨ho, hp⟩] at pp
    rw [← pp]
    rw [hp, ba_toL] at c3
    simp (maxSteps := 1000000) [hho, noHo, valA, undef, onGP_none, condG_false, -List.reduceReplicate]
    refine call_x [] (c2) rfl rfl ⟨rfl, rfl⟩ hho (by simp) (by decide) (by simp) (by simp) ?_
    simp (maxSteps := 1000000) [hho, noHo, valA, undef, onGP_none, condG_false, -List.reduceReplicate]
    refine call_x [] (c3) rfl rfl ⟨rfl, rfl⟩ hho (by simp) (by decide) (by simp) (by simp) ?_
    simp (maxSteps := 1000000) [hho, noHo, valA, pvR, undef, onGP_none, condG_false, -List.reduceReplicate]
    exact Ret.sel [] (fun _ => false) (ho := by rfl) (ha := by rfl) (by simp) (by simp) (by decide) (by simp) (fun i _ h => by cases h) ⟨rfl, rfl⟩
  · rw [if_neg (fun h => hp h.2)] at pp
    rw [← pp]
    have hne : ¬ baL (printR v) = s := fun h => hp (by rw [← h]; rfl)
    obtain ⟨R, hR⟩ : ∃ R, R = baL (printR v) := ⟨_, rfl⟩
    rw [← hR] at c3 hne
    simp (maxSteps := 1000000) [hho, noHo, valA, undef, onGP_none, condG_false, -List.reduceReplicate]
    refine call_x [] (c2) rfl rfl ⟨rfl, rfl⟩ hho (by simp) (by decide) (by simp) (by simp) ?_
    simp (maxSteps := 1000000) [hho, noHo, valA, undef, onGP_none, condG_false, -List.reduceReplicate]
    refine call_x [] (c3) rfl rfl ⟨rfl, rfl⟩ hho (by simp) (by decide) (by simp) (by simp) ?_
    simp (maxSteps := 1000000) [hho, noHo, valA, hne, pvR, vN, undef, onGP_none, condG_false, -List.reduceReplicate]
    exact Ret.sel [] (fun _ => false) (ho := by rfl) (ha := by rfl) (by simp) (by simp) (by decide) (by simp) (fun i _ h => by cases h) ⟨rfl, rfl⟩
end Go.Proofs.YtjgdlocgoiinbaaGreatDoor
