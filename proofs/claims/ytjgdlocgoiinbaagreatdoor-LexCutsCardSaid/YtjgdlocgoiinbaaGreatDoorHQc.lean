import Derived.Test.YtjgdlocgoiinbaaGreatDoorQM
import Derived.Test.YtjgdlocgoiinbaaGreatDoorG4
namespace Go.Proofs.YtjgdlocgoiinbaaGreatDoor
set_option linter.unusedVariables false
set_option linter.unusedSimpArgs false
open Go.RowKit Go.Lib
attribute [local simp] isCut_nil isCut_region isCut_seq isCut_block isCut_loop isCut_cond isCut_skip isCut_exit isCut_ret isCut_range swapK putK altK condK_bool pickP_bool stepP stepO onPure_some onPure_none onImpl_some onImpl_none stepC onGP_some onGP_none onGV_some condG mkG onIt_it nextP_ptr takeP_eq takeV_some takeV_none takeU_some takeU_none takeQ takeW_some takeN_none takeN_some takeG_some takeO_some altO_some pureV binV2 eqF eqOp ovlV ovl2 rowAt capV binV intBin strBin isSh shV fldV ixV sliceV slice3V loadAV nilV lenV callV unV convV viewS cellsH loadV fldCut AV.ung AV.ungs AV.gc AV.cells AS.ev AS.put anyS gcsV gcO lens lnO gV guardV retK RetP_eq resV oneV anyRo loIx hiIx implO callP_clo evL gcsL clearV storeAV AS.push AS.setO appV appZ shortS copyV buildV partsV fillV srcV fzO okV isCell_c isCell_ptr isCell_sl isCell_fs isCell_fp isCell_clo rowZ_one rowZ_zero rowZ_2 rowZ_3 rowZ_4 rowZ_5 rowZ_6 rowZ_7 rowZ_8 rowZ_9 rowZ_10 rowZ_11 rowZ_12 noHo Value.oneCell' max2V min2V lookV updV lenM msAt afterH putBack frzFrom frzO rebO backIx nilEq_sl nilEq_fs nilEq_ifn nilEq_ifh ifOp_eql ifOp_neq isLit nilOp_eql nilOp_neq AV.reb AV.rebL
attribute [local simp ↓] runK_skip runK_region runK_draw runK_seq runK_cut runK_cond runK_block runK_loop runK_exit runK_label runK_goto runK_ret runK_range contK_nil contK_seq contK_seq_ret contK_seq_exit contK_seq_goto contK_block contK_block_ret contK_block_goto contK_block_exit runO_nil runO_cons roundK_exit roundK_ret roundK_goto exitK_ret cutK_ret cutK_exit runE_done runE_nil runE_take runE_alt condG_true condG_false
set_option maxRecDepth 10000
def chr (d : Nat) : UInt8 := UInt8.ofNat (48 + d)
def chrs (l : List Nat) : List UInt8 := l.map chr
@[simp] theorem chrs_len (l : List Nat) : (chrs l).length = l.length := by simp [chrs]
theorem digC_ext {d : Nat} (h : d < 10) : (⟨#[48, 49, 50, 51, 52, 53, 54, 55, 56, 57]⟩ : ByteArray).extract d (d + 1) = baL [chr d] := by
  have e : (⟨#[48, 49, 50, 51, 52, 53, 54, 55, 56, 57]⟩ : ByteArray) = baL [48, 49, 50, 51, 52, 53, 54, 55, 56, 57] := rfl
  rw [e, ba_ext]
  have : ∀ d, d < 10 → (([48, 49, 50, 51, 52, 53, 54, 55, 56, 57] : List UInt8).drop d).take (d + 1 - d) = [chr d] := by decide
  rw [this d h]
theorem digL_lt {n : Nat} {d : Nat} (h : d ∈ digL n) : d < 10 := digL_ok n d h
set_option maxHeartbeats 4000000 in
theorem r2Digits_w (n : Int) (hn : -9223372036854775808 ≤ n ∧ n ≤ 9223372036854775807) : ACalls Tryz.prog 82 [.c (.int .i64 n)] [] (fun _ => false) (fun r h' => r = .c (.string (baL (decDigits n.natAbs))) ∧ h' = []) := by
  refine acalls mixed Tryz.func82 rfl Tryz.ntmps82 rfl fun E hE hst hho => ?_
  have c1 := r2Of_w n hn
  have hlt := @digL_lt n.natAbs
  have hlen := digL_small n.natAbs 19 (by omega)
  have hdd := decDigits_dig n.natAbs
  have hz : digL n.natAbs = [] → n.natAbs = 0 := digL_nil
  obtain ⟨l, hl⟩ : ∃ l, l = digL n.natAbs := ⟨_, rfl⟩
  rw [← hl] at c1 hlt hlen hdd hz
  obtain ⟨R, hR⟩ : ∃ R, R = baL (decDigits n.natAbs) := ⟨_, rfl⟩
  rw [← hR]
  unfold dA at c1
  simp (maxSteps := 1000000) [hho, noHo, -List.reduceReplicate]
  refine call_x [] (c1) rfl rfl ⟨rfl, rfl⟩ hho (by simp) (by decide) (by simp) (by simp) ?_
  simp (maxSteps := 1000000) [hho, noHo, -List.reduceReplicate]
  refine loop_k mixed (fun j : Nat => ⟨slotsOf 23 [(3, .c (.string (baL (chrs (l.take j).reverse)))), (7, .fs 1 l.length (intsA (digI l))), (8, .c (.int .i64 (l.length : Nat))), (9, .c (.int .i64 (j : Nat)))], []⟩) (fun j => l.length - j) (fun j => j ≤ l.length) 0 (Nat.zero_le _) ?_ ?_
  · exact wk_eq (by simp [hE, lens]) rfl (by simp [livH, livO, AV.livL, AV.liv, wkL, wkV, List.range', slotsOf, chrs, baL])
  rintro j hj
  by_cases h1 : j < l.length
  case neg =>
    have h1i : ¬ (j : Int) < l.length := by omega
    have e0 : l.take j = l := List.take_of_length_le (by omega)
    rw [e0]
    by_cases hnil : l = []
    · have hn0 := hz hnil
      have e1 : baL (chrs l.reverse) = (⟨#[]⟩ : ByteArray) := by rw [hnil]; rfl
      have e2 : R = (⟨#[48]⟩ : ByteArray) := by rw [hR, hn0, dec_lt (by decide)]; rfl
      rw [e1, e2]
      simp (maxSteps := 1000000) [hho, noHo, slotsOf, h1, h1i, undef, onGP_none, condG_false, -List.reduceReplicate]
      exact Ret.drop (by rfl) ⟨rfl, rfl⟩
    · have hn0 : n.natAbs ≠ 0 := fun h => hnil (by rw [hl, h, digL_zero])
      have e2 : baL (chrs l.reverse) = R := by rw [hR, hdd hn0]; rfl
      have e3 : ¬ R = (⟨#[]⟩ : ByteArray) := by
        rw [hR]
        intro h
        have := ba_inj.1 (show baL (decDigits n.natAbs) = baL [] from h)
        exact decDigits_ne _ this
      have e4 : ¬ R = ByteArray.empty := e3
      rw [e2]
      simp (maxSteps := 1000000) [hho, noHo, slotsOf, h1, h1i, e3, e4, undef, onGP_none, condG_false, -List.reduceReplicate]
      exact Ret.drop (by rfl) ⟨rfl, rfl⟩
  have h1i : (j : Int) < l.length := by omega
  have ta := dA_at l j h1
  have hd := hlt (d := l[j]) (List.getElem_mem _)
  have htk : (l.take (j + 1)).reverse = l[j] :: (l.take j).reverse := by
    rw [List.take_succ_eq_append_getElem h1, List.reverse_append]; rfl
  obtain ⟨d, hd'⟩ : ∃ d, d = l[j] := ⟨_, rfl⟩
  rw [← hd'] at ta hd htk
  have ew : IntKind.i64.wrap ((j : Int) + 1) = (j + 1 : Nat) := by rw [IntWalk.i64_in _ (by omega)]; rfl
  have ewd : IntKind.i64.wrap ((d : Int) + 1) = (d + 1 : Nat) := by rw [IntWalk.i64_in _ (by omega)]; rfl
  have x1 := digC_ext hd
  have x2 : baL [chr d] ++ baL (chrs (l.take j).reverse) = baL (chrs (l.take (j + 1)).reverse) := by rw [ba_app, htk]; rfl
  have x3 : (baL (chrs (l.take j).reverse)).size = j := by rw [ba_size]; simp; omega
  have x4 : (baL [chr d]).size = 1 := rfl
  have x5 : (⟨#[48, 49, 50, 51, 52, 53, 54, 55, 56, 57]⟩ : ByteArray).size = 10 := rfl
  have hd2 : d + 1 ≤ 10 := by omega
  have hd2i : (d : Int) + 1 ≤ 10 := by omega
  have hd3i : (0 : Int) ≤ d := by omega
  simp (maxSteps := 1000000) [hho, noHo, slotsOf, h1, h1i, ta, ew, ewd, x1, x2, x3, x4, x5, hd2, hd2i, hd3i, undef, onGP_none, condG_false, -List.reduceReplicate]
  refine ⟨by omega, by omega, ?_⟩
  refine round_next (j + 1) (show j + 1 ≤ l.length by omega) (show l.length - (j + 1) < l.length - j by omega) ?_
  exact wk_of 0 0 (by simp) (by simp [hE, lens]) rfl (by simp [livH, livO, AV.livL, AV.liv, wkL, wkV, List.range']) (by simp [livH, livO, AV.livL, AV.liv, wkL, wkV, List.range', slotsOf, ew])
end Go.Proofs.YtjgdlocgoiinbaaGreatDoor
namespace Go.Proofs.YtjgdlocgoiinbaaGreatDoor
set_option linter.unusedVariables false
set_option linter.unusedSimpArgs false
open Go.RowKit Go.Lib
attribute [local simp] isCut_nil isCut_region isCut_seq isCut_block isCut_loop isCut_cond isCut_skip isCut_exit isCut_ret isCut_range swapK putK altK condK_bool pickP_bool stepP stepO onPure_some onPure_none onImpl_some onImpl_none stepC onGP_some onGP_none onGV_some condG mkG onIt_it nextP_ptr takeP_eq takeV_some takeV_none takeU_some takeU_none takeQ takeW_some takeN_none takeN_some takeG_some takeO_some altO_some pureV binV2 eqF eqOp ovlV ovl2 rowAt capV binV intBin strBin isSh shV fldV ixV sliceV slice3V loadAV nilV lenV callV unV convV viewS cellsH loadV fldCut AV.ung AV.ungs AV.gc AV.cells AS.ev AS.put anyS gcsV gcO lens lnO gV guardV retK RetP_eq resV oneV anyRo loIx hiIx implO callP_clo evL gcsL clearV storeAV AS.push AS.setO appV appZ shortS copyV buildV partsV fillV srcV fzO okV isCell_c isCell_ptr isCell_sl isCell_fs isCell_fp isCell_clo rowZ_one rowZ_zero rowZ_2 rowZ_3 rowZ_4 rowZ_5 rowZ_6 rowZ_7 rowZ_8 rowZ_9 rowZ_10 rowZ_11 rowZ_12 noHo Value.oneCell' max2V min2V lookV updV lenM msAt afterH putBack frzFrom frzO rebO backIx nilEq_sl nilEq_fs nilEq_ifn nilEq_ifh ifOp_eql ifOp_neq isLit nilOp_eql nilOp_neq AV.reb AV.rebL
attribute [local simp ↓] runK_skip runK_region runK_draw runK_seq runK_cut runK_cond runK_block runK_loop runK_exit runK_label runK_goto runK_ret runK_range contK_nil contK_seq contK_seq_ret contK_seq_exit contK_seq_goto contK_block contK_block_ret contK_block_goto contK_block_exit runO_nil runO_cons roundK_exit roundK_ret roundK_goto exitK_ret cutK_ret cutK_exit runE_done runE_nil runE_take runE_alt condG_true condG_false
set_option maxRecDepth 10000
set_option maxHeartbeats 4000000 in
theorem r2Print_w (n k : Int) (hn : -9223372036854775808 ≤ n ∧ n ≤ 9223372036854775807) (hk : scaleOk k = true) : ACalls Tryz.prog 59 [.c (.int .i64 n), .c (.int .i64 k)] [] (fun _ => false) (fun r h' => r = .c (.string (baL (printD n k.toNat))) ∧ h' = []) := by
  refine acalls mixed Tryz.func59 rfl Tryz.ntmps59 rfl fun E hE hst hho => ?_
  have c1 := scale_ref k
  rw [hk] at c1
  have c2 := r2Digits_w n hn
  have kb := scale_le hk
  obtain ⟨q, rfl⟩ : ∃ q : Nat, k = (q : Int) := ⟨k.toNat, by omega⟩
  rw [Int.toNat_natCast]
  obtain ⟨R, hR⟩ : ∃ R, R = baL (printD n q) := ⟨_, rfl⟩
  rw [← hR]
  obtain ⟨D, hD⟩ : ∃ D, D = decDigits n.natAbs := ⟨_, rfl⟩
  have hDl : D.length ≤ 20 := by rw [hD]; exact Nat.le_trans (decDigits_len (k := 19) (by omega)) (by omega)
  have hD1 : 1 ≤ D.length := by
    have := decDigits_ne n.natAbs
    rw [← hD] at this
    exact List.length_pos_iff.2 this
  rw [← hD] at c2
  simp (maxSteps := 1000000) [hho, noHo, -List.reduceReplicate]
  refine call_x [] (c1) rfl rfl ⟨rfl, rfl⟩ hho (by simp) (by decide) (by simp) (by simp) ?_
  simp (maxSteps := 1000000) [hho, noHo, undef, onGP_none, condG_false, -List.reduceReplicate]
  refine call_x [] (c2) rfl rfl ⟨rfl, rfl⟩ hho (by simp) (by decide) (by simp) (by simp) ?_
  simp (maxSteps := 1000000) [hho, noHo, -List.reduceReplicate]
  refine loop_k mixed (fun j : Nat => ⟨slotsOf 38 [(0, .c (.int .i64 n)), (1, .c (.int .i64 (q : Nat))), (5, .c (.string (baL (List.replicate j 48 ++ D))))], []⟩) (fun j => q + 1 - (j + D.length)) (fun j => j ≤ q + 1 - D.length) 0 (Nat.zero_le _) ?_ ?_
  · exact wk_eq (by simp [hE, lens]) rfl (by simp [livH, livO, AV.livL, AV.liv, wkL, wkV, List.range', slotsOf])
  rintro j hj
  have hlen : (baL (List.replicate j 48 ++ D)).size = j + D.length := by rw [ba_size]; simp
  by_cases h1 : j + D.length ≤ q
  · have h1i : (j : Int) + D.length ≤ q := by omega
    have hs : (⟨#[48]⟩ : ByteArray) ++ baL (List.replicate j 48 ++ D) = baL (List.replicate (j + 1) 48 ++ D) := by rw [ba_app1]; rfl
    simp (maxSteps := 1000000) [hho, noHo, slotsOf, hlen, h1, h1i, hs, undef, onGP_none, condG_false, -List.reduceReplicate]
    refine ⟨by omega, ?_⟩
    refine round_next (j + 1) (show j + 1 ≤ q + 1 - D.length by omega) (by show q + 1 - (j + 1 + D.length) < q + 1 - (j + D.length); omega) ?_
    exact wk_of 0 0 (by simp) (by simp [hE, lens]) rfl (by simp [livH, livO, AV.livL, AV.liv, wkL, wkV, List.range']) (by simp [livH, livO, AV.livL, AV.liv, wkL, wkV, List.range', slotsOf])
  have h1i : ¬ (j : Int) + D.length ≤ q := by omega
  have hjj : j = q + 1 - D.length := by omega
  have hpad : List.replicate j 48 ++ D = padD n.natAbs q := by
    unfold padD
    rw [← hD, hjj]
  obtain ⟨P, hP⟩ : ∃ P, P = List.replicate j 48 ++ D := ⟨_, rfl⟩
  rw [← hP] at hpad hlen
  have hPl : P.length = j + D.length := by rw [hP]; simp
  rw [← hPl] at h1 hlen
  have h1i : ¬ (P.length : Int) ≤ q := by omega
  have hPs : (baL P).size = P.length := ba_size P
  have key : ∀ M : List UInt8, printM n.natAbs q = M → R = if n < 0 then baL (45 :: M) else baL M := by
    intro M hM
    rw [hR]
    unfold printD
    rw [hM]
    by_cases h : n < 0
    · simp [h]
    · simp [h]
  have hs1 : ∀ M : List UInt8, (⟨#[45]⟩ : ByteArray) ++ baL M = baL (45 :: M) := fun M => ba_app1 45 M
  by_cases h0 : 0 < q
  · have h0i : (0 : Int) < q := by omega
    have hM : printM n.natAbs q = P.take (P.length - q) ++ 46 :: P.drop (P.length - q) := by
      unfold printM
      rw [if_neg (by omega), ← hpad]
    have ew : IntKind.i64.wrap ((P.length : Int) - q) = ((P.length - q : Nat) : Int) := by rw [IntWalk.i64_in _ (by omega)]; omega
    have x1 : (baL P).extract 0 (P.length - q) = baL (P.take (P.length - q)) := by rw [ba_ext]; simp
    have x2 : (baL P).extract (P.length - q) P.length = baL (P.drop (P.length - q)) := by
      rw [ba_ext, List.take_of_length_le (by simp)]
    have x3 : baL (P.take (P.length - q)) ++ (⟨#[46]⟩ : ByteArray) ++ baL (P.drop (P.length - q)) = baL (printM n.natAbs q) := by
      rw [ba_app2, ba_app, hM]; simp
    rw [key _ rfl]
    by_cases hneg : n < 0
    · simp (maxSteps := 1000000) [hho, noHo, slotsOf, hlen, h1, h1i, ← hP, h0, h0i, -List.reduceReplicate]
      refine draw_k hho (.take 0 (.take 1 (.take 2 (.take 3 (.take 4 (.take 5 (.take 6 (.take 7 (.take 8 (.take 9 (.take 10 (.take 11 (.take 12 (.take 13 (.take 14 (.done)))))))))))))))) [] [] (by decide +kernel) (by simp) ?_
      simp (maxSteps := 1000000) [hho, noHo, hlen, ew, x1, x2, x3, hneg, roOf, holdOf, wrOf, altK, heldOk, Region.binds, -List.reduceReplicate]
      rw [ba_size, ba_size]
      have hT2 : (P.take (P.length - q)).length ≤ P.length := by simp
      have hT3 : (P.drop (P.length - q)).length ≤ P.length := by simp
      rw [hs1, ba_size, hM, List.length_append, List.length_cons]
      exact ⟨by omega, by omega, by omega, Ret.drop (by rfl) ⟨rfl, rfl⟩⟩
    · simp (maxSteps := 1000000) [hho, noHo, slotsOf, hlen, h1, h1i, ← hP, h0, h0i, -List.reduceReplicate]
      refine draw_k hho (.take 0 (.take 1 (.take 2 (.take 3 (.take 4 (.take 5 (.take 6 (.take 7 (.take 8 (.take 9 (.take 10 (.take 11 (.take 12 (.take 13 (.take 14 (.done)))))))))))))))) [] [] (by decide +kernel) (by simp) ?_
      simp (maxSteps := 1000000) [hho, noHo, hlen, ew, x1, x2, x3, hneg, roOf, holdOf, wrOf, altK, heldOk, Region.binds, -List.reduceReplicate]
      rw [ba_size, ba_size]
      have hT2 : (P.take (P.length - q)).length ≤ P.length := by simp
      have hT3 : (P.drop (P.length - q)).length ≤ P.length := by simp
      exact ⟨by omega, by omega, Ret.drop (by rfl) ⟨rfl, rfl⟩⟩
  · have h0i : ¬ (0 : Int) < q := by omega
    have hM : printM n.natAbs q = P := by
      unfold printM
      rw [if_pos (by omega), hpad, show q = 0 by omega]
    rw [key P hM]
    by_cases hneg : n < 0
    · simp (maxSteps := 1000000) [hho, noHo, slotsOf, hlen, h1, h1i, ← hP, h0, h0i, hs1, hneg, undef, onGP_none, condG_false, -List.reduceReplicate]
      exact ⟨by omega, Ret.drop (by rfl) ⟨rfl, rfl⟩⟩
    · simp (maxSteps := 1000000) [hho, noHo, slotsOf, hlen, h1, h1i, ← hP, h0, h0i, hs1, hneg, undef, onGP_none, condG_false, -List.reduceReplicate]
      exact Ret.drop (by rfl) ⟨rfl, rfl⟩
end Go.Proofs.YtjgdlocgoiinbaaGreatDoor
namespace Go.Proofs.YtjgdlocgoiinbaaGreatDoor
set_option linter.unusedVariables false
set_option linter.unusedSimpArgs false
open Go.RowKit Go.Lib
attribute [local simp] isCut_nil isCut_region isCut_seq isCut_block isCut_loop isCut_cond isCut_skip isCut_exit isCut_ret isCut_range swapK putK altK condK_bool pickP_bool stepP stepO onPure_some onPure_none onImpl_some onImpl_none stepC onGP_some onGP_none onGV_some condG mkG onIt_it nextP_ptr takeP_eq takeV_some takeV_none takeU_some takeU_none takeQ takeW_some takeN_none takeN_some takeG_some takeO_some altO_some pureV binV2 eqF eqOp ovlV ovl2 rowAt capV binV intBin strBin isSh shV fldV ixV sliceV slice3V loadAV nilV lenV callV unV convV viewS cellsH loadV fldCut AV.ung AV.ungs AV.gc AV.cells AS.ev AS.put anyS gcsV gcO lens lnO gV guardV retK RetP_eq resV oneV anyRo loIx hiIx implO callP_clo evL gcsL clearV storeAV AS.push AS.setO appV appZ shortS copyV buildV partsV fillV srcV fzO okV isCell_c isCell_ptr isCell_sl isCell_fs isCell_fp isCell_clo rowZ_one rowZ_zero rowZ_2 rowZ_3 rowZ_4 rowZ_5 rowZ_6 rowZ_7 rowZ_8 rowZ_9 rowZ_10 rowZ_11 rowZ_12 noHo Value.oneCell' max2V min2V lookV updV lenM msAt afterH putBack frzFrom frzO rebO backIx nilEq_sl nilEq_fs nilEq_ifn nilEq_ifh ifOp_eql ifOp_neq isLit nilOp_eql nilOp_neq AV.reb AV.rebL
attribute [local simp ↓] runK_skip runK_region runK_draw runK_seq runK_cut runK_cond runK_block runK_loop runK_exit runK_label runK_goto runK_ret runK_range contK_nil contK_seq contK_seq_ret contK_seq_exit contK_seq_goto contK_block contK_block_ret contK_block_goto contK_block_exit runO_nil runO_cons roundK_exit roundK_ret roundK_goto exitK_ret cutK_ret cutK_exit runE_done runE_nil runE_take runE_alt condG_true condG_false
set_option maxRecDepth 10000
theorem ret_dA {st : Nat → Bool} {h : List AObj} {Post : AV → List AObj → Prop} (hst : ∀ i, st i = false) (l : List Nat) (hp : Post (.fs 1 l.length (intsA (digI l))) []) : Ret st Post h (.fs 1 l.length (intsA (digI l))) :=
  Ret.sel [] (fun _ => false) (ho := by rfl) (ha := by rfl) (by simp) (by simp) (by decide) (by simp) (fun i _ h => by rw [hst] at h; cases h) hp
theorem dA_take (a b : List Nat) : List.take a.length (intsA (digI (a ++ b))) = intsA (digI a) := by simp [intsA, digI]
set_option maxHeartbeats 4000000 in
theorem r2trim_w (l : List Nat) (hl : l.length ≤ 1000000000) : ACalls Tryz.prog 84 [dA l] [] (fun _ => false) (fun r h' => r = dA (trimL l) ∧ h' = []) := by
  refine acalls mixed Tryz.func84 rfl Tryz.ntmps84 rfl fun E hE hst hho => ?_
  unfold dA
  simp (maxSteps := 1000000) [hho, noHo, -List.reduceReplicate]
  refine loop_k mixed (fun m : List Nat => ⟨slotsOf 21 [(0, .fs 1 m.length (intsA (digI m)))], []⟩) (fun m => m.length) (fun m => m.length ≤ l.length ∧ trimL l = trimL m) l ⟨Nat.le_refl _, rfl⟩ ?_ ?_
  · exact wk_eq (by simp [hE, lens]) rfl (by simp [livH, livO, AV.livL, AV.liv, wkL, wkV, List.range', slotsOf])
  rintro m ⟨hm, hI⟩
  rcases snoc_cases m with rfl | ⟨a, d, rfl⟩
  · rw [hI]
    simp (maxSteps := 1000000) [hho, noHo, slotsOf, undef, onGP_none, condG_false, -List.reduceReplicate]
    exact ret_dA (fun _ => rfl) [] ⟨rfl, rfl⟩
  have hlen : (a ++ [d]).length = a.length + 1 := by simp
  rw [hlen] at hm
  have ew : IntKind.i64.wrap ((a.length : Int) + 1 - 1) = (a.length : Int) := by rw [IntWalk.i64_in _ (by omega)]; omega
  have ew2 : IntKind.i64.wrap ((a.length : Int)) = (a.length : Int) := IntWalk.i64_in _ (by omega)
  have ta := dA_at (a ++ [d]) a.length (by simp)
  have ts := dA_take a [d]
  have e1 : (a ++ [d])[a.length]'(by simp) = d := by simp
  rw [e1] at ta
  obtain ⟨R, hR⟩ : ∃ R, R = intsA (digI (a ++ [d])) := ⟨_, rfl⟩
  rw [← hR] at ta ts ⊢
  by_cases hd : d = 0
  · subst hd
    rw [hlen]
    simp (maxSteps := 1000000) [hho, noHo, slotsOf, ew, ew2, ta, ts, undef, onGP_none, condG_false, -List.reduceReplicate]
    repeat (with_reducible refine And.intro (by omega) ?_)
    refine round_next a ⟨by omega, by rw [hI, trimL_snoc0]⟩ (by simp) ?_
    exact wk_of 0 0 (by simp) (by simp [hE, lens]) rfl (by simp [livH, livO, AV.livL, AV.liv, wkL, wkV, List.range']) (by simp [livH, livO, AV.livL, AV.liv, wkL, wkV, List.range', slotsOf])
  · have hdi : ¬ (d : Int) = 0 := by omega
    rw [hI, trimL_snoc a hd]
    rw [hlen]
    simp (maxSteps := 1000000) [hho, noHo, slotsOf, ew, ew2, ta, hd, hdi, undef, onGP_none, condG_false, -List.reduceReplicate]
    have := ret_dA (st := fun _ => false) (h := []) (Post := fun r h' => r = .fs 1 (a.length + 1) (intsA (digI (a ++ [d]))) ∧ h' = []) (fun _ => rfl) (a ++ [d]) ⟨by rw [hlen], rfl⟩
    rw [← hR, hlen] at this
    rw [← hR]
    exact ⟨by omega, this⟩
theorem plusL_step (c : Nat) (a b : List Nat) (i : Nat) (h : i < a.length ∨ i < b.length ∨ 0 < c) (hc : c < 10) : plusL c (a.drop i) (b.drop i) = ((c + (a[i]?).getD 0 + (b[i]?).getD 0) % 10) :: plusL ((c + (a[i]?).getD 0 + (b[i]?).getD 0) / 10) (a.drop (i + 1)) (b.drop (i + 1)) := by
  by_cases h1 : i < a.length
  · rw [List.getElem?_eq_getElem h1, List.drop_eq_getElem_cons h1]
    by_cases h2 : i < b.length
    · rw [List.getElem?_eq_getElem h2, List.drop_eq_getElem_cons h2, plusL]
      rfl
    · rw [List.getElem?_eq_none (by omega), (show b.drop (i) = [] from List.drop_eq_nil_of_le (by omega)), (show b.drop (i + 1) = [] from List.drop_eq_nil_of_le (by omega)), plusL]
      rfl
  · rw [List.getElem?_eq_none (l := a) (by omega), (show a.drop (i) = [] from List.drop_eq_nil_of_le (by omega)), (show a.drop (i + 1) = [] from List.drop_eq_nil_of_le (by omega))]
    by_cases h2 : i < b.length
    · rw [List.getElem?_eq_getElem h2, List.drop_eq_getElem_cons h2, plusL]
      rfl
    · rw [List.getElem?_eq_none (by omega), (show b.drop (i) = [] from List.drop_eq_nil_of_le (by omega)), (show b.drop (i + 1) = [] from List.drop_eq_nil_of_le (by omega))]
      have hc0 : c ≠ 0 := by omega
      have e1 : c % 10 = c := Nat.mod_eq_of_lt hc
      have e2 : c / 10 = 0 := Nat.div_eq_of_lt hc
      simp [plusL, hc0, e1, e2]
theorem plusL_end (a b : List Nat) (i : Nat) (h1 : ¬ i < a.length) (h2 : ¬ i < b.length) : plusL 0 (a.drop i) (b.drop i) = [] := by
  rw [List.drop_eq_nil_of_le (by omega), List.drop_eq_nil_of_le (by omega)]
  simp [plusL]
set_option maxHeartbeats 4000000 in
theorem r2Plus_w (a b : List Nat) (ha : DigOk a) (hb : DigOk b) (la : a.length ≤ 1000000) (lb : b.length ≤ 1000000) : ACalls Tryz.prog 116 [dA a, dA b] [] (fun _ => false) (fun r h' => r = dA (plusL 0 a b) ∧ h' = []) := by
  refine acalls mixed Tryz.func116 rfl Tryz.ntmps116 rfl fun E hE hst hho => ?_
  unfold dA
  simp (maxSteps := 1000000) [hho, noHo, -List.reduceReplicate]
  refine loop_k mixed (fun y : Nat × Nat × List Nat => ⟨slotsOf 52 [(0, .fs 1 a.length (intsA (digI a))), (1, .fs 1 b.length (intsA (digI b))), (5, .sl 0 1 0 y.2.2.length y.2.2.length), (6, .c (.int .i64 (y.2.1 : Nat))), (7, .c (.int .i64 (y.1 : Nat)))], [.o (.row 3 1) (intsA (digI y.2.2))]⟩) (fun y => 2 * (a.length + b.length - y.1) + y.2.1) (fun y => (y.1 ≤ a.length + b.length + 1 ∧ (0 < y.2.1 → y.1 ≤ a.length ∨ y.1 ≤ b.length)) ∧ y.2.2.length = y.1 ∧ y.2.1 ≤ 1 ∧ plusL 0 a b = y.2.2 ++ plusL y.2.1 (a.drop y.1) (b.drop y.1)) (0, 0, []) ⟨⟨Nat.zero_le _, fun h => by simp at h⟩, rfl, Nat.zero_le _, by simp⟩ ?_ ?_
  · refine Wk.trans (wk_virt 5 3 1 rfl) ?_
    exact wk_eq (by simp [hE, lens]) (by simp [digI, intsA]) (by simp [livH, livO, AV.livL, AV.liv, wkL, wkV, List.range', slotsOf])
  rintro ⟨i, c, l⟩ ⟨⟨hi, hi2⟩, hl, hc, hI⟩
  simp only at hi hi2 hl hc hI
  have hrow : (intsA (digI l)).length = l.length := by simp [intsA]
  by_cases hgo : i < a.length ∨ i < b.length ∨ 0 < c
  case neg =>
    have n1 : ¬ i < a.length := fun h => hgo (.inl h)
    have n2 : ¬ i < b.length := fun h => hgo (.inr (.inl h))
    have hc0 : c = 0 := by omega
    subst hc0
    have n1i : ¬ (i : Int) < a.length := by omega
    have n2i : ¬ (i : Int) < b.length := by omega
    rw [plusL_end a b i n1 n2, List.append_nil] at hI
    rw [hI]
    simp (maxSteps := 1000000) [hho, noHo, slotsOf, n1, n2, n1i, n2i, undef, onGP_none, condG_false, -List.reduceReplicate]
    exact ret_ints _ (by simp) (by simp; omega) (fun i => rfl) ⟨by simp, rfl⟩
  have hst2 := plusL_step c a b i hgo (by omega)
  rw [hst2] at hI
  have ew : IntKind.i64.wrap ((i : Int) + 1) = (i + 1 : Nat) := by rw [IntWalk.i64_in _ (by omega)]; rfl
  have hsn := fun d : Nat => digI_snoc l d
  by_cases h1 : i < a.length
  · have h1i : (i : Int) < a.length := by omega
    have hx := ha a[i] (List.getElem_mem h1)
    have ta := dA_at a i h1
    rw [List.getElem?_eq_getElem h1] at hI
    obtain ⟨x, hxe⟩ : ∃ x, x = a[i] := ⟨_, rfl⟩
    rw [← hxe] at ta hx hI
    have ew1 : IntKind.i64.wrap ((c : Int) + x) = (c : Int) + x := IntWalk.i64_in _ (by omega)
    by_cases h2 : i < b.length
    · have h2i : (i : Int) < b.length := by omega
      have hy := hb b[i] (List.getElem_mem h2)
      have tb := dA_at b i h2
      rw [List.getElem?_eq_getElem h2] at hI
      obtain ⟨y, hye⟩ : ∃ x, x = b[i] := ⟨_, rfl⟩
      rw [← hye] at tb hy hI
      have ew2 : IntKind.i64.wrap ((c : Int) + x + y) = (c : Int) + x + y := IntWalk.i64_in _ (by omega)
      simp only [Option.getD_some] at hI
      obtain ⟨d, hd⟩ : ∃ d, d = (c + x + y) % 10 := ⟨_, rfl⟩
      obtain ⟨e, he⟩ : ∃ d, d = (c + x + y) / 10 := ⟨_, rfl⟩
      have em : Int.tmod ((c : Int) + x + y) 10 = (d : Int) := by rw [Int.tmod_eq_emod_of_nonneg (by omega)]; omega
      have ed : Int.tdiv ((c : Int) + x + y) 10 = (e : Int) := by rw [Int.tdiv_eq_ediv_of_nonneg (by omega)]; omega
      rw [← hd, ← he] at hI
      have ee : IntKind.i64.wrap (e : Int) = e := IntWalk.i64_in _ (by omega)
      simp (maxSteps := 1000000) [hho, noHo, slotsOf, h1, h1i, h2, h2i, ta, tb, ew1, ew2, em, ed, hrow, undef, onGP_none, condG_false, -List.reduceReplicate]
      refine ⟨by omega, round_next (i + 1, e, l ++ [d]) ⟨⟨by simp only; omega, fun _ => by simp only; omega⟩, by simp [hl], by simp only; omega, by rw [hI]; simp⟩ (by simp only; omega) ?_⟩
      exact wk_of 1 1 (by simp) (by simp [hE, lens]) (by simp [hsn]) (by simp [livH, livO, AV.livL, AV.liv, wkL, wkV, List.range']) (by simp [livH, livO, AV.livL, AV.liv, wkL, wkV, List.range', slotsOf, ew, ee])
    · have h2i : ¬ (i : Int) < b.length := by omega
      rw [List.getElem?_eq_none (by omega)] at hI
      simp only [Option.getD_some, Option.getD_none, Nat.add_zero] at hI
      obtain ⟨d, hd⟩ : ∃ d, d = (c + x) % 10 := ⟨_, rfl⟩
      obtain ⟨e, he⟩ : ∃ d, d = (c + x) / 10 := ⟨_, rfl⟩
      have em : Int.tmod ((c : Int) + x) 10 = (d : Int) := by rw [Int.tmod_eq_emod_of_nonneg (by omega)]; omega
      have ed : Int.tdiv ((c : Int) + x) 10 = (e : Int) := by rw [Int.tdiv_eq_ediv_of_nonneg (by omega)]; omega
      rw [← hd, ← he] at hI
      have ee : IntKind.i64.wrap (e : Int) = e := IntWalk.i64_in _ (by omega)
      simp (maxSteps := 1000000) [hho, noHo, slotsOf, h1, h1i, h2, h2i, ta, ew1, em, ed, hrow, undef, onGP_none, condG_false, -List.reduceReplicate]
      refine ⟨by omega, round_next (i + 1, e, l ++ [d]) ⟨⟨by simp only; omega, fun _ => by simp only; omega⟩, by simp [hl], by simp only; omega, by rw [hI]; simp⟩ (by simp only; omega) ?_⟩
      exact wk_of 1 1 (by simp) (by simp [hE, lens]) (by simp [hsn]) (by simp [livH, livO, AV.livL, AV.liv, wkL, wkV, List.range']) (by simp [livH, livO, AV.livL, AV.liv, wkL, wkV, List.range', slotsOf, ew, ee])
  · have h1i : ¬ (i : Int) < a.length := by omega
    rw [List.getElem?_eq_none (by omega)] at hI
    by_cases h2 : i < b.length
    · have h2i : (i : Int) < b.length := by omega
      have hy := hb b[i] (List.getElem_mem h2)
      have tb := dA_at b i h2
      rw [List.getElem?_eq_getElem h2] at hI
      obtain ⟨y, hye⟩ : ∃ x, x = b[i] := ⟨_, rfl⟩
      rw [← hye] at tb hy hI
      have ew2 : IntKind.i64.wrap ((c : Int) + y) = (c : Int) + y := IntWalk.i64_in _ (by omega)
      simp only [Option.getD_some, Option.getD_none, Nat.add_zero] at hI
      obtain ⟨d, hd⟩ : ∃ d, d = (c + y) % 10 := ⟨_, rfl⟩
      obtain ⟨e, he⟩ : ∃ d, d = (c + y) / 10 := ⟨_, rfl⟩
      have em : Int.tmod ((c : Int) + y) 10 = (d : Int) := by rw [Int.tmod_eq_emod_of_nonneg (by omega)]; omega
      have ed : Int.tdiv ((c : Int) + y) 10 = (e : Int) := by rw [Int.tdiv_eq_ediv_of_nonneg (by omega)]; omega
      rw [← hd, ← he] at hI
      have ee : IntKind.i64.wrap (e : Int) = e := IntWalk.i64_in _ (by omega)
      simp (maxSteps := 1000000) [hho, noHo, slotsOf, h1, h1i, h2, h2i, tb, ew2, em, ed, hrow, undef, onGP_none, condG_false, -List.reduceReplicate]
      refine ⟨by omega, round_next (i + 1, e, l ++ [d]) ⟨⟨by simp only; omega, fun _ => by simp only; omega⟩, by simp [hl], by simp only; omega, by rw [hI]; simp⟩ (by simp only; omega) ?_⟩
      exact wk_of 1 1 (by simp) (by simp [hE, lens]) (by simp [hsn]) (by simp [livH, livO, AV.livL, AV.liv, wkL, wkV, List.range']) (by simp [livH, livO, AV.livL, AV.liv, wkL, wkV, List.range', slotsOf, ew, ee])
    · have h2i : ¬ (i : Int) < b.length := by omega
      rw [List.getElem?_eq_none (by omega)] at hI
      have hc1 : c = 1 := by omega
      subst hc1
      have ee : IntKind.i64.wrap 0 = 0 := by decide
      simp only [Option.getD_none, Nat.add_zero] at hI
      simp (maxSteps := 1000000) [hho, noHo, slotsOf, h1, h1i, h2, h2i, hrow, undef, onGP_none, condG_false, -List.reduceReplicate]
      refine ⟨by omega, round_next (i + 1, 0, l ++ [1]) ⟨⟨by simp only; omega, fun h => by simp at h⟩, by simp [hl], by simp only; omega, by rw [hI]; simp⟩ (by simp only; omega) ?_⟩
      exact wk_of 1 1 (by simp) (by simp [hE, lens]) (by simp [hsn]) (by simp [livH, livO, AV.livL, AV.liv, wkL, wkV, List.range']) (by simp [livH, livO, AV.livL, AV.liv, wkL, wkV, List.range', slotsOf, ew, ee])
def intR (m : Bool) (v : Nat) : Int × Bool := if mostN m < v then (0, false) else (if m = true then -(v : Int) else v, true)
theorem valL_drop_le (l : List Nat) (j : Nat) : valL (l.drop j) ≤ valL l := by
  have h := valL_app (l.take j) (l.drop j)
  rw [List.take_append_drop] at h
  rw [h]
  have : 1 * valL (l.drop j) ≤ 10 ^ (l.take j).length * valL (l.drop j) := Nat.mul_le_mul_right _ (Nat.one_le_pow _ _ (by decide))
  omega
set_option maxHeartbeats 8000000 in
theorem r2Int_w (l : List Nat) (m : Bool) (hcn : Canon l) (hl : l.length ≤ 1000000) : ACalls Tryz.prog 83 [dA l, .c (.bool m)] [] (fun _ => false) (fun r h' => r = .tup [.c (.int .i64 (intR m (valL l)).1), .c (.bool (intR m (valL l)).2)] ∧ h' = []) := by
  refine acalls mixed Tryz.func83 rfl Tryz.ntmps83 rfl fun E hE hst hho => ?_
  have c1 := r2Of_w 9223372036854775807 (by decide)
  have c2 := r2Plus_w (digL 9223372036854775807) [1] (digL_ok _) (by intro d hd; simp at hd; omega) (by rw [dig_most]; decide) (by decide)
  rw [plus_most] at c2
  have c3 := r2Cmp_w (valL l) (mostN m) (by rw [digL_uniq hcn]; exact hl) (by cases m with | true => exact (show (digL 9223372036854775808).length ≤ _ by rw [dig_most1]; decide) | false => exact (show (digL 9223372036854775807).length ≤ _ by rw [dig_most]; decide))
  rw [digL_uniq hcn] at c3
  rw [show (9223372036854775807 : Int).natAbs = 9223372036854775807 from rfl] at c1
  obtain ⟨V, hV⟩ : ∃ V, V = valL l := ⟨_, rfl⟩
  rw [← hV] at c3 ⊢
  have hM : mostN m ≤ 9223372036854775808 ∧ (m = false → mostN m = 9223372036854775807) := by
    unfold mostN
    cases m <;> simp
  have hdr := valL_drop_le l
  rw [← hV] at hdr
  have hone : dA [1] = .fs 1 1 [.c (.int .i64 1)] := rfl
  rw [hone] at c2
  have tail : ∀ (X : AV) (h : List AObj), True := fun _ _ => trivial
  obtain ⟨c, hc⟩ : ∃ c, c = cmpN (V : Int) (mostN m : Int) := ⟨_, rfl⟩
  rw [← hc] at c3
  have hcc : 0 < c ↔ mostN m < V := by
    rw [hc]; unfold cmpN
    split
    · constructor <;> intro h <;> omega
    · split
      · constructor <;> intro h <;> omega
      · constructor <;> intro h <;> omega
  unfold dA at c1 c2 c3 ⊢
  obtain ⟨p0, hp0⟩ : ∃ p, p = digL 9223372036854775807 := ⟨_, rfl⟩
  obtain ⟨p1, hp1⟩ : ∃ p, p = digL 9223372036854775808 := ⟨_, rfl⟩
  rw [← hp0] at c1 c2
  rw [← hp1] at c2
  unfold mostN at c3
  have ew0 : IntKind.i64.wrap ((l.length : Int) - 1) = (l.length : Int) - 1 := IntWalk.i64_in _ (by omega)
  cases m with
  | true =>
    rw [if_pos rfl, ← hp1] at c3
    simp (maxSteps := 1000000) [hho, noHo, -List.reduceReplicate]
    refine call_x [] (c1) rfl rfl ⟨rfl, rfl⟩ hho (by simp) (by decide) (by simp) (by simp) ?_
    simp (maxSteps := 1000000) [hho, noHo, -List.reduceReplicate]
    refine call_f [] (fun k => k == 0) (c2) rfl rfl ⟨?_, rfl⟩ hho (by simp) (by decide) (by simp) ?_ (by simp) ?_
    · simp
    · simp [isD_c, maxLen]
    simp (maxSteps := 1000000) [hho, noHo, -List.reduceReplicate]
    refine call_x [] (c3) rfl rfl ⟨rfl, rfl⟩ hho (by simp) (by decide) (by simp) (by simp) ?_
    by_cases hgt : mostN true < V
    · have h0 : 0 < c := hcc.2 hgt
      unfold intR
      rw [if_pos hgt]
      simp (maxSteps := 1000000) [hho, noHo, h0, undef, onGP_none, condG_false, -List.reduceReplicate]
      exact Ret.drop (by rfl) ⟨rfl, rfl⟩
    have h0 : ¬ 0 < c := fun h => hgt (hcc.1 h)
    unfold intR
    rw [if_neg hgt, if_pos rfl]
    simp (maxSteps := 1000000) [hho, noHo, h0, ew0, undef, onGP_none, condG_false, -List.reduceReplicate]
    refine loop_k mixed (fun j : Nat => ⟨slotsOf 41 [(0, .fs 1 l.length (intsA (digI l))), (1, .c (.bool true)), (7, .c (.int .i64 (-((valL (l.drop j) : Nat) : Int)))), (8, .c (.int .i64 ((j : Int) - 1)))], []⟩) (fun j => j) (fun j => j ≤ l.length) l.length (Nat.le_refl _) ?_ ?_
    · exact wk_of 0 1 (by simp) (by simp [hE, lens]) rfl (by simp [livH, livO, AV.livL, AV.liv, wkL, wkV, List.range']) (by simp [livH, livO, AV.livL, AV.liv, wkL, wkV, List.range', slotsOf, valL])
    rintro j hj
    by_cases hj0 : j = 0
    · subst hj0
      have e : valL (l.drop 0) = V := by rw [List.drop_zero, hV]
      rw [e]
      simp (maxSteps := 1000000) [hho, noHo, slotsOf, undef, onGP_none, condG_false, -List.reduceReplicate]
      exact Ret.drop (by rfl) ⟨rfl, rfl⟩
    obtain ⟨i, rfl⟩ : ∃ i, j = i + 1 := ⟨j - 1, by omega⟩
    have hi : i < l.length := by omega
    have hv : valL (l.drop i) = l[i] + 10 * valL (l.drop (i + 1)) := by rw [List.drop_eq_getElem_cons hi, valL]
    have hvl := hdr i
    have ta := dA_at l i hi
    obtain ⟨d, hd⟩ : ∃ d, d = l[i] := ⟨_, rfl⟩
    obtain ⟨u, hu⟩ : ∃ u, u = valL (l.drop (i + 1)) := ⟨_, rfl⟩
    rw [← hd] at ta hv
    rw [← hu] at hv ⊢
    have e1 : ((i + 1 : Nat) : Int) - 1 = i := by omega
    have e2 : IntKind.i64.wrap ((i : Int) - 1) = (i : Int) - 1 := IntWalk.i64_in _ (by omega)
    have e3 : IntKind.i64.wrap (10 * -(u : Int)) = 10 * -(u : Int) := IntWalk.i64_in _ (by omega)
    have e3' : IntKind.i64.wrap (-(10 * (u : Int))) = 10 * -(u : Int) := by rw [IntWalk.i64_in _ (by omega)]; omega
    have e4 : IntKind.i64.wrap (10 * -(u : Int) - d) = -((valL (l.drop i) : Nat) : Int) := by rw [IntWalk.i64_in _ (by omega), hv]; omega
    have e4' : IntKind.i64.wrap (-(10 * (u : Int)) - d) = -((valL (l.drop i) : Nat) : Int) := by rw [IntWalk.i64_in _ (by omega), hv]; omega
    have hii : (i : Int) < l.length := by omega
    rw [e1]
    simp (maxSteps := 1000000) [hho, noHo, slotsOf, hi, hii, ta, e3, e3', e4, e4', e2, undef, onGP_none, condG_false, -List.reduceReplicate]
    refine round_next i (show i ≤ l.length by omega) (show i < i + 1 by omega) ?_
    exact wk_of 0 0 (by simp) (by simp [hE, lens]) rfl (by simp [livH, livO, AV.livL, AV.liv, wkL, wkV, List.range']) (by simp [livH, livO, AV.livL, AV.liv, wkL, wkV, List.range', slotsOf])
  | false =>
    rw [if_neg (by decide), ← hp0] at c3
    simp (maxSteps := 1000000) [hho, noHo, -List.reduceReplicate]
    refine call_x [] (c1) rfl rfl ⟨rfl, rfl⟩ hho (by simp) (by decide) (by simp) (by simp) ?_
    simp (maxSteps := 1000000) [hho, noHo, -List.reduceReplicate]
    refine call_x [] (c3) rfl rfl ⟨rfl, rfl⟩ hho (by simp) (by decide) (by simp) (by simp) ?_
    by_cases hgt : mostN false < V
    · have h0 : 0 < c := hcc.2 hgt
      unfold intR
      rw [if_pos hgt]
      simp (maxSteps := 1000000) [hho, noHo, h0, undef, onGP_none, condG_false, -List.reduceReplicate]
      exact Ret.drop (by rfl) ⟨rfl, rfl⟩
    have h0 : ¬ 0 < c := fun h => hgt (hcc.1 h)
    have hM2 := hM.2 rfl
    unfold intR
    rw [if_neg hgt, if_neg (by decide)]
    simp (maxSteps := 1000000) [hho, noHo, h0, ew0, undef, onGP_none, condG_false, -List.reduceReplicate]
    refine loop_k mixed (fun j : Nat => ⟨slotsOf 41 [(0, .fs 1 l.length (intsA (digI l))), (1, .c (.bool false)), (7, .c (.int .i64 ((valL (l.drop j) : Nat) : Int))), (8, .c (.int .i64 ((j : Int) - 1)))], []⟩) (fun j => j) (fun j => j ≤ l.length) l.length (Nat.le_refl _) ?_ ?_
    · exact wk_of 0 0 (by simp) (by simp [hE, lens]) rfl (by simp [livH, livO, AV.livL, AV.liv, wkL, wkV, List.range']) (by simp [livH, livO, AV.livL, AV.liv, wkL, wkV, List.range', slotsOf, valL])
    rintro j hj
    by_cases hj0 : j = 0
    · subst hj0
      have e : valL (l.drop 0) = V := by rw [List.drop_zero, hV]
      rw [e]
      simp (maxSteps := 1000000) [hho, noHo, slotsOf, undef, onGP_none, condG_false, -List.reduceReplicate]
      exact Ret.drop (by rfl) ⟨rfl, rfl⟩
    obtain ⟨i, rfl⟩ : ∃ i, j = i + 1 := ⟨j - 1, by omega⟩
    have hi : i < l.length := by omega
    have hv : valL (l.drop i) = l[i] + 10 * valL (l.drop (i + 1)) := by rw [List.drop_eq_getElem_cons hi, valL]
    have hvl := hdr i
    have ta := dA_at l i hi
    obtain ⟨d, hd⟩ : ∃ d, d = l[i] := ⟨_, rfl⟩
    obtain ⟨u, hu⟩ : ∃ u, u = valL (l.drop (i + 1)) := ⟨_, rfl⟩
    rw [← hd] at ta hv
    rw [← hu] at hv ⊢
    have e1 : ((i + 1 : Nat) : Int) - 1 = i := by omega
    have e2 : IntKind.i64.wrap ((i : Int) - 1) = (i : Int) - 1 := IntWalk.i64_in _ (by omega)
    have e3 : IntKind.i64.wrap (10 * (u : Int)) = 10 * (u : Int) := IntWalk.i64_in _ (by omega)
    have e4 : IntKind.i64.wrap (10 * (u : Int) + d) = ((valL (l.drop i) : Nat) : Int) := by rw [IntWalk.i64_in _ (by omega), hv]; omega
    have hii : (i : Int) < l.length := by omega
    rw [e1]
    simp (maxSteps := 1000000) [hho, noHo, slotsOf, hi, hii, ta, e3, e4, e2, undef, onGP_none, condG_false, -List.reduceReplicate]
    refine round_next i (show i ≤ l.length by omega) (show i < i + 1 by omega) ?_
    exact wk_of 0 0 (by simp) (by simp [hE, lens]) rfl (by simp [livH, livO, AV.livL, AV.liv, wkL, wkV, List.range']) (by simp [livH, livO, AV.livL, AV.liv, wkL, wkV, List.range', slotsOf])
end Go.Proofs.YtjgdlocgoiinbaaGreatDoor
