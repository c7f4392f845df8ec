import Derived.Test.YtjgdlocgoiinbaaGreatDoorQT
import Derived.Test.YtjgdlocgoiinbaaGreatDoorQK
namespace Go.Proofs.YtjgdlocgoiinbaaGreatDoor
set_option linter.unusedVariables false
set_option linter.unusedSimpArgs false
open Go.RowKit Go.Lib
attribute [local simp] isCut_nil isCut_region isCut_seq isCut_block isCut_loop isCut_cond isCut_skip isCut_exit isCut_ret isCut_range swapK putK altK condK_bool pickP_bool stepP stepO onPure_some onPure_none onImpl_some onImpl_none stepC onGP_some onGP_none onGV_some condG mkG onIt_it nextP_ptr takeP_eq takeV_some takeV_none takeU_some takeU_none takeQ takeW_some takeN_none takeN_some takeG_some takeO_some altO_some pureV binV2 eqF eqOp ovlV ovl2 rowAt capV binV intBin strBin isSh shV fldV ixV sliceV slice3V loadAV nilV lenV callV unV convV viewS cellsH loadV fldCut AV.ung AV.ungs AV.gc AV.cells AS.ev AS.put anyS gcsV gcO lens lnO gV guardV retK RetP_eq resV oneV anyRo loIx hiIx implO callP_clo evL gcsL clearV storeAV AS.push AS.setO appV appZ shortS copyV buildV partsV fillV srcV fzO okV isCell_c isCell_ptr isCell_sl isCell_fs isCell_fp isCell_clo rowZ_one rowZ_zero rowZ_2 rowZ_3 rowZ_4 rowZ_5 rowZ_6 rowZ_7 rowZ_8 rowZ_9 rowZ_10 rowZ_11 rowZ_12 noHo Value.oneCell' max2V min2V lookV updV lenM msAt afterH putBack frzFrom frzO rebO backIx nilEq_sl nilEq_fs nilEq_ifn nilEq_ifh ifOp_eql ifOp_neq isLit nilOp_eql nilOp_neq AV.reb AV.rebL
attribute [local simp ↓] runK_skip runK_region runK_draw runK_seq runK_cut runK_cond runK_block runK_loop runK_exit runK_label runK_goto runK_ret runK_range contK_nil contK_seq contK_seq_ret contK_seq_exit contK_seq_goto contK_block contK_block_ret contK_block_goto contK_block_exit runO_nil runO_cons roundK_exit roundK_ret roundK_goto exitK_ret cutK_ret cutK_exit runE_done runE_nil runE_take runE_alt condG_true condG_false
set_option maxRecDepth 10000
theorem dblQ_app : ∀ a b : List UInt8, dblQ (a ++ b) = dblQ a ++ dblQ b
  | [], _ => rfl
  | c :: a, b => by
    rw [List.cons_append, dblQ, dblQ, dblQ_app a b]
    split <;> rfl
theorem hexC_ext {d : Nat} (h : d < 16) : (⟨#[48, 49, 50, 51, 52, 53, 54, 55, 56, 57, 65, 66, 67, 68, 69, 70]⟩ : ByteArray).extract d (d + 1) = baL [hexD d] := by
  have e : (⟨#[48, 49, 50, 51, 52, 53, 54, 55, 56, 57, 65, 66, 67, 68, 69, 70]⟩ : ByteArray) = baL [48, 49, 50, 51, 52, 53, 54, 55, 56, 57, 65, 66, 67, 68, 69, 70] := rfl
  rw [e, ba_ext]
  have : ∀ d, d < 16 → (([48, 49, 50, 51, 52, 53, 54, 55, 56, 57, 65, 66, 67, 68, 69, 70] : List UInt8).drop d).take (d + 1 - d) = [hexD d] := by decide
  rw [this d h]
theorem u8_small {x : Int} (h : 0 ≤ x ∧ x < 256) : IntKind.u8.wrap x = x := by
  unfold IntKind.wrap
  simp [IntKind.bits, IntKind.signed]
  omega
theorem take_at {L : List UInt8} {j : Nat} (h : j < L.length) : L.take (j + 1) = L.take j ++ [L[j]] := by
  rw [List.take_succ_eq_append_getElem h]
theorem ext_one {s : ByteArray} {j : Nat} (h : j < s.data.toList.length) : s.extract j (j + 1) = baL [s.data.toList[j]] := by
  have : s = baL s.data.toList := rfl
  conv => lhs; rw [this]
  rw [ba_ext, show j + 1 - j = 1 by omega, List.drop_eq_getElem_cons h]
  rfl
set_option maxHeartbeats 8000000 in
theorem r3Print_w (x : ValS) (hx : (-9223372036854775808 ≤ x.n ∧ x.n ≤ 9223372036854775807) ∧ x.t.size ≤ 1000000000) : ACalls Tryz.prog 22 [.agg (valA x)] [] (fun _ => false) (fun r h' => r = .c (.string (baL (printR (plV x)))) ∧ h' = []) := by
  refine acalls mixed Tryz.func22 rfl Tryz.ntmps22 rfl fun E hE hst hho => ?_
  have c1 := r3Plain_w x (by omega)
  have oa := plV_I hx
  obtain ⟨v, hv⟩ : ∃ a, a = plV x := ⟨_, rfl⟩
  rw [← hv] at c1 oa ⊢
  have kb := ok_k oa.1
  obtain ⟨Q, hQ⟩ : ∃ Q, Q = baL (printR v) := ⟨_, rfl⟩
  rw [← hQ]
  unfold printR at hQ
  simp (maxSteps := 1000000) [hho, noHo, valA, -List.reduceReplicate]
  refine call_x [] (c1) rfl rfl ⟨rfl, rfl⟩ hho (by simp) (by decide) (by simp) (by simp) ?_
  by_cases k1 : v.k = 1
  · rw [if_pos k1] at hQ
    by_cases n1 : v.n = 1
    · rw [if_pos n1] at hQ
      rw [hQ]
      simp (maxSteps := 1000000) [hho, noHo, valA, k1, n1, undef, onGP_none, condG_false, -List.reduceReplicate]
      exact Ret.drop (by rfl) ⟨rfl, rfl⟩
    · rw [if_neg n1] at hQ
      rw [hQ]
      simp (maxSteps := 1000000) [hho, noHo, valA, k1, n1, undef, onGP_none, condG_false, -List.reduceReplicate]
      exact Ret.drop (by rfl) ⟨rfl, rfl⟩
  rw [if_neg k1] at hQ
  by_cases k2 : v.k = 2
  · rw [if_pos k2] at hQ
    have c2 := r2Print_w v.n 0 oa.2.1 rfl
    rw [show ((0 : Int)).toNat = 0 from rfl, ← hQ] at c2
    simp (maxSteps := 1000000) [hho, noHo, valA, k1, k2, undef, onGP_none, condG_false, -List.reduceReplicate]
    refine call_x [] (c2) rfl rfl ⟨rfl, rfl⟩ hho (by simp) (by decide) (by simp) (by simp) ?_
    simp (maxSteps := 1000000) [hho, noHo, undef, onGP_none, condG_false, -List.reduceReplicate]
    exact Ret.drop (by rfl) ⟨rfl, rfl⟩
  rw [if_neg k2] at hQ
  by_cases k3 : v.k = 3
  · rw [if_pos k3] at hQ
    by_cases s0 : v.s = 0
    · rw [if_pos s0] at hQ
      have c2 := r2Print_w v.n 0 oa.2.1 rfl
      have hl := printD_len (n := v.n) (k := 0) oa.2.1 (by omega)
      rw [show ((0 : Int)).toNat = 0 from rfl] at c2
      have e1 : baL (printD v.n 0) ++ (⟨#[46]⟩ : ByteArray) = Q := by rw [hQ]; exact ba_app2 46 _
      have e2 := ba_size (printD v.n 0)
      simp (maxSteps := 1000000) [hho, noHo, valA, k1, k2, k3, s0, undef, onGP_none, condG_false, -List.reduceReplicate]
      refine call_x [] (c2) rfl rfl ⟨rfl, rfl⟩ hho (by simp) (by decide) (by simp) (by simp) ?_
      simp (maxSteps := 1000000) [hho, noHo, s0, e1, e2, undef, onGP_none, condG_false, -List.reduceReplicate]
      exact ⟨by omega, Ret.drop (by rfl) ⟨rfl, rfl⟩⟩
    · rw [if_neg s0] at hQ
      have c2 := r2Print_w v.n v.s oa.2.1 (ok_scale oa.1 (.inr k3))
      rw [← hQ] at c2
      simp (maxSteps := 1000000) [hho, noHo, valA, k1, k2, k3, s0, undef, onGP_none, condG_false, -List.reduceReplicate]
      refine call_x [] (c2) rfl rfl ⟨rfl, rfl⟩ hho (by simp) (by decide) (by simp) (by simp) ?_
      simp (maxSteps := 1000000) [hho, noHo, s0, undef, onGP_none, condG_false, -List.reduceReplicate]
      exact Ret.drop (by rfl) ⟨rfl, rfl⟩
  rw [if_neg k3] at hQ
  have tl := ok_size oa.1
  have ls : v.t.data.toList.length = v.t.size := rfl
  by_cases k4 : v.k = 4
  · rw [if_pos k4] at hQ
    simp (maxSteps := 1000000) [hho, noHo, valA, k1, k2, k3, k4, undef, onGP_none, condG_false, -List.reduceReplicate]
    refine loop_k mixed (fun j : Nat => ⟨slotsOf 100 [(3, .ptr 1 0 4), (5, .c (.string (baL (39 :: dblQ (v.t.data.toList.take j))))), (6, .c (.int .i64 (j : Nat)))], [.o .box (valA x), .o .box (valA v)]⟩) (fun j => v.t.size - j) (fun j => j ≤ v.t.size) 0 (Nat.zero_le _) ?_ ?_
    · exact wk_eq (by simp [hE, lens]) (by simp [valA]; omega) (by simp [livH, livO, AV.livL, AV.liv, wkL, wkV, List.range', slotsOf, dblQ, baL])
    rintro j hj
    have hdl := dblQ_len (v.t.data.toList.take j)
    have htl : (v.t.data.toList.take j).length = j := by rw [List.length_take]; omega
    have hsz : (baL (39 :: dblQ (v.t.data.toList.take j))).size = (dblQ (v.t.data.toList.take j)).length + 1 := by rw [ba_size]; rfl
    by_cases h1 : j < v.t.size
    case neg =>
      have h1i : ¬ (j : Int) < v.t.size := by omega
      have e0 : v.t.data.toList.take j = v.t.data.toList := List.take_of_length_le (by omega)
      have e4 : baL (39 :: dblQ (v.t.data.toList.take j)) ++ (⟨#[39]⟩ : ByteArray) = Q := by rw [hQ, ba_app2, e0]; rfl
      simp (maxSteps := 1000000) [hho, noHo, slotsOf, valA, h1, h1i, e4, hsz, undef, onGP_none, condG_false, -List.reduceReplicate]
      exact ⟨by omega, Ret.drop (by rfl) ⟨rfl, rfl⟩⟩
    have h1i : (j : Int) < v.t.size := by omega
    have hjL : j < v.t.data.toList.length := h1
    have ba := byte_at (s := v.t) hjL
    have ba2 := byte_at2 (s := v.t) hjL
    have htk := take_at hjL
    have hext := ext_one hjL
    obtain ⟨c, hc⟩ : ∃ c : UInt8, c = v.t.data.toList[j] := ⟨_, rfl⟩
    rw [← hc] at ba ba2 htk hext
    obtain ⟨y, hy⟩ : ∃ x : Nat, x = c.toNat := ⟨_, rfl⟩
    rw [← hy] at ba ba2
    have ew : IntKind.i64.wrap ((j : Int) + 1) = (j + 1 : Nat) := by rw [IntWalk.i64_in _ (by omega)]; rfl
    have t5 : ((j : Int) + 1).toNat = j + 1 := by omega
    have hji : (j : Int) + 1 ≤ v.t.size := by omega
    have hj2 : j + 1 ≤ v.t.size := by omega
    have hj3 : (0 : Int) ≤ (j : Int) + 1 := by omega
    obtain ⟨P, hP⟩ : ∃ P, P = dblQ (v.t.data.toList.take j) := ⟨_, rfl⟩
    have hn : dblQ (v.t.data.toList.take (j + 1)) = P ++ (if c = 39 then [39, 39] else [c]) := by
      rw [htk, dblQ_app, ← hP]
      simp only [dblQ]
    rw [← hP] at hdl hsz ⊢
    by_cases h39 : y = 39
    · have h39i : (y : Int) = 39 := by omega
      have hc39 : c = 39 := UInt8.toNat_inj.1 (by rw [← hy, h39]; rfl)
      rw [if_pos hc39] at hn
      have e1 : baL (39 :: P) ++ (⟨#[39]⟩ : ByteArray) = baL (39 :: (P ++ [39])) := by rw [ba_app2]; rfl
      have e2 : baL (39 :: (P ++ [39])) ++ baL [c] = baL (39 :: dblQ (v.t.data.toList.take (j + 1))) := by rw [ba_app, hn, hc39]; simp
      have e3 : (baL (39 :: (P ++ [39]))).size = P.length + 2 := by rw [ba_size]; simp
      have e4 : (baL [c]).size = 1 := rfl
      simp (maxSteps := 1000000) [hho, noHo, slotsOf, valA, h1, h1i, ba, ba2, h39, h39i, ew, t5, hji, hj2, hj3, hext, e1, e2, e3, e4, hsz, undef, onGP_none, condG_false, -List.reduceReplicate]
      repeat (with_reducible refine And.intro (by omega) ?_)
      refine round_next (j + 1) (show j + 1 ≤ v.t.size by omega) (show v.t.size - (j + 1) < v.t.size - j by omega) ?_
      exact wk_of 2 0 (by simp) (by simp [hE, lens]) (by simp [valA]) (by simp [livH, livO, AV.livL, AV.liv, wkL, wkV, List.range']) (by simp [livH, livO, AV.livL, AV.liv, wkL, wkV, List.range', slotsOf])
    · have h39i : ¬ (y : Int) = 39 := by omega
      have hc39 : ¬ c = 39 := fun e => h39 (by rw [hy, e]; rfl)
      rw [if_neg hc39] at hn
      have e2 : baL (39 :: P) ++ baL [c] = baL (39 :: dblQ (v.t.data.toList.take (j + 1))) := by rw [ba_app, hn]; simp
      have e4 : (baL [c]).size = 1 := rfl
      simp (maxSteps := 1000000) [hho, noHo, slotsOf, valA, h1, h1i, ba, ba2, h39, h39i, ew, t5, hji, hj2, hj3, hext, e2, e4, hsz, undef, onGP_none, condG_false, -List.reduceReplicate]
      repeat (with_reducible refine And.intro (by omega) ?_)
      refine round_next (j + 1) (show j + 1 ≤ v.t.size by omega) (show v.t.size - (j + 1) < v.t.size - j by omega) ?_
      exact wk_of 2 0 (by simp) (by simp [hE, lens]) (by simp [valA]) (by simp [livH, livO, AV.livL, AV.liv, wkL, wkV, List.range']) (by simp [livH, livO, AV.livL, AV.liv, wkL, wkV, List.range', slotsOf])
  rw [if_neg k4] at hQ
  by_cases k5 : v.k = 5
  · rw [if_pos k5] at hQ
    simp (maxSteps := 1000000) [hho, noHo, valA, k1, k2, k3, k4, k5, undef, onGP_none, condG_false, -List.reduceReplicate]
    refine loop_k mixed (fun j : Nat => ⟨slotsOf 100 [(3, .ptr 1 0 4), (7, .c (.string (baL (88 :: 39 :: hexB (v.t.data.toList.take j))))), (8, .c (.int .i64 (j : Nat)))], [.o .box (valA x), .o .box (valA v)]⟩) (fun j => v.t.size - j) (fun j => j ≤ v.t.size) 0 (Nat.zero_le _) ?_ ?_
    · exact wk_eq (by simp [hE, lens]) (by simp [valA]; omega) (by simp [livH, livO, AV.livL, AV.liv, wkL, wkV, List.range', slotsOf, hexB, baL])
    rintro j hj
    have htl : (v.t.data.toList.take j).length = j := by rw [List.length_take]; omega
    have hdl := hexB_len (v.t.data.toList.take j)
    rw [htl] at hdl
    have hsz : (baL (88 :: 39 :: hexB (v.t.data.toList.take j))).size = (hexB (v.t.data.toList.take j)).length + 2 := by rw [ba_size]; rfl
    by_cases h1 : j < v.t.size
    case neg =>
      have h1i : ¬ (j : Int) < v.t.size := by omega
      have e0 : v.t.data.toList.take j = v.t.data.toList := List.take_of_length_le (by omega)
      have e4 : baL (88 :: 39 :: hexB (v.t.data.toList.take j)) ++ (⟨#[39]⟩ : ByteArray) = Q := by rw [hQ, ba_app2, e0]; rfl
      simp (maxSteps := 1000000) [hho, noHo, slotsOf, valA, h1, h1i, e4, hsz, undef, onGP_none, condG_false, -List.reduceReplicate]
      exact ⟨by omega, Ret.drop (by rfl) ⟨rfl, rfl⟩⟩
    have h1i : (j : Int) < v.t.size := by omega
    have hjL : j < v.t.data.toList.length := h1
    have ba := byte_at (s := v.t) hjL
    have ba2 := byte_at2 (s := v.t) hjL
    have htk := take_at hjL
    obtain ⟨c, hc⟩ : ∃ c : UInt8, c = v.t.data.toList[j] := ⟨_, rfl⟩
    rw [← hc] at ba ba2 htk
    obtain ⟨y, hy⟩ : ∃ x : Nat, x = c.toNat := ⟨_, rfl⟩
    rw [← hy] at ba ba2
    have hy256 : y < 256 := by rw [hy]; exact UInt8.toNat_lt _
    have ew : IntKind.i64.wrap ((j : Int) + 1) = (j + 1 : Nat) := by rw [IntWalk.i64_in _ (by omega)]; rfl
    obtain ⟨P, hP⟩ : ∃ P, P = hexB (v.t.data.toList.take j) := ⟨_, rfl⟩
    obtain ⟨a, ha⟩ : ∃ a, a = y / 16 := ⟨_, rfl⟩
    obtain ⟨b, hb⟩ : ∃ a, a = y % 16 := ⟨_, rfl⟩
    have hn : hexB (v.t.data.toList.take (j + 1)) = P ++ [hexD a, hexD b] := by
      rw [htk, hexB_app, ← hP, ha, hb, hy]
      rfl
    rw [← hP] at hdl hsz ⊢
    have ha16 : a < 16 := by omega
    have hb16 : b < 16 := by omega
    have d1 : Int.tdiv (y : Int) 16 = (a : Int) := by rw [Int.tdiv_eq_ediv_of_nonneg (by omega)]; omega
    have d2 : Int.tmod (y : Int) 16 = (b : Int) := by rw [Int.tmod_eq_emod_of_nonneg (by omega)]; omega
    have w1 : IntKind.u8.wrap (a : Int) = a := u8_small ⟨by omega, by omega⟩
    have w2 : IntKind.u8.wrap ((a : Int) + 1) = (a : Int) + 1 := u8_small ⟨by omega, by omega⟩
    have w3 : IntKind.u8.wrap ((b : Int) + 1) = (b : Int) + 1 := u8_small ⟨by omega, by omega⟩
    have t1 : ((a : Int) + 1).toNat = a + 1 := by omega
    have t2 : ((b : Int) + 1).toNat = b + 1 := by omega
    have x1 := hexC_ext ha16
    have x2 := hexC_ext hb16
    have x3 : baL [hexD a] ++ baL [hexD b] = baL [hexD a, hexD b] := by rw [ba_app]; rfl
    have x4 : baL (88 :: 39 :: P) ++ baL [hexD a, hexD b] = baL (88 :: 39 :: hexB (v.t.data.toList.take (j + 1))) := by rw [ba_app, hn]; simp
    have x5 : ∀ z, (baL [z]).size = 1 := fun _ => rfl
    have x6 : (baL [hexD a, hexD b]).size = 2 := rfl
    have x7 : (⟨#[48, 49, 50, 51, 52, 53, 54, 55, 56, 57, 65, 66, 67, 68, 69, 70]⟩ : ByteArray).size = 16 := rfl
    have g1 : (a : Int) + 1 ≤ 16 := by omega
    have g2 : (b : Int) + 1 ≤ 16 := by omega
    have g3 : (0 : Int) ≤ a := by omega
    have g4 : (0 : Int) ≤ b := by omega
    have g5 : a + 1 ≤ 16 := by omega
    have g6 : b + 1 ≤ 16 := by omega
    simp (maxSteps := 1000000) [hho, noHo, slotsOf, valA, h1, h1i, undef, onGP_none, condG_false, -List.reduceReplicate]
    refine draw_k hho (.take 0 (.take 1 (.take 2 (.take 3 (.take 4 (.take 5 (.take 6 (.take 7 (.take 8 (.take 9 (.take 10 (.take 11 (.take 12 (.take 13 (.take 14 (.take 15 (.take 16 (.take 17 (.take 18 (.take 19 (.take 20 (.take 21 (.take 22 (.take 23 (.take 24 (.take 25 (.take 26 (.take 27 (.done))))))))))))))))))))))))))))) [1] [] (by decide +kernel) (by simp) ?_
    simp (maxSteps := 1000000) [hho, noHo, h1, h1i, ba, ba2, d1, d2, w1, w2, w3, t1, t2, x1, x2, x3, x4, x5, x6, x7, g1, g2, g3, g4, g5, g6, hsz, roOf, holdOf, wrOf, altK, heldOk, Region.binds, -List.reduceReplicate]
    repeat (with_reducible refine And.intro (by omega) ?_)
    refine round_next (j + 1) (show j + 1 ≤ v.t.size by omega) (show v.t.size - (j + 1) < v.t.size - j by omega) ?_
    exact wk_of 2 0 (by simp) (by simp [hE, lens]) (by simp [valA]) (by simp [livH, livO, AV.livL, AV.liv, wkL, wkV, List.range']) (by simp [livH, livO, AV.livL, AV.liv, wkL, wkV, List.range', slotsOf, ew])
  rw [if_neg k5] at hQ
  have k0 : v.k = 0 := by omega
  rw [hQ]
  simp (maxSteps := 1000000) [hho, noHo, valA, k0, undef, onGP_none, condG_false, -List.reduceReplicate]
  exact Ret.drop (by rfl) ⟨rfl, rfl⟩
end Go.Proofs.YtjgdlocgoiinbaaGreatDoor
