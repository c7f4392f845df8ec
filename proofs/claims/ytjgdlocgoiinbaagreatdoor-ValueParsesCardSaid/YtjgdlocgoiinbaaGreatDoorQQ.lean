import Derived.Test.YtjgdlocgoiinbaaGreatDoorQM
namespace Go.Proofs.YtjgdlocgoiinbaaGreatDoor
set_option linter.unusedVariables false
set_option linter.unusedSimpArgs false
open Go.RowKit Go.Lib
attribute [local simp] isCut_nil isCut_region isCut_seq isCut_block isCut_loop isCut_cond isCut_skip isCut_exit isCut_ret isCut_range swapK putK altK condK_bool pickP_bool stepP stepO onPure_some onPure_none onImpl_some onImpl_none stepC onGP_some onGP_none onGV_some condG mkG onIt_it nextP_ptr takeP_eq takeV_some takeV_none takeU_some takeU_none takeQ takeW_some takeN_none takeN_some takeG_some takeO_some altO_some pureV binV2 eqF eqOp ovlV ovl2 rowAt capV binV intBin strBin isSh shV fldV ixV sliceV slice3V loadAV nilV lenV callV unV convV viewS cellsH loadV fldCut AV.ung AV.ungs AV.gc AV.cells AS.ev AS.put anyS gcsV gcO lens lnO gV guardV retK RetP_eq resV oneV anyRo loIx hiIx implO callP_clo evL gcsL clearV storeAV AS.push AS.setO appV appZ shortS copyV buildV partsV fillV srcV fzO okV isCell_c isCell_ptr isCell_sl isCell_fs isCell_fp isCell_clo rowZ_one rowZ_zero rowZ_2 rowZ_3 rowZ_4 rowZ_5 rowZ_6 rowZ_7 rowZ_8 rowZ_9 rowZ_10 rowZ_11 rowZ_12 noHo Value.oneCell' max2V min2V lookV updV lenM msAt afterH putBack frzFrom frzO rebO backIx nilEq_sl nilEq_fs nilEq_ifn nilEq_ifh ifOp_eql ifOp_neq isLit nilOp_eql nilOp_neq AV.reb AV.rebL
attribute [local simp ↓] runK_skip runK_region runK_draw runK_seq runK_cut runK_cond runK_block runK_loop runK_exit runK_label runK_goto runK_ret runK_range contK_nil contK_seq contK_seq_ret contK_seq_exit contK_seq_goto contK_block contK_block_ret contK_block_goto contK_block_exit runO_nil runO_cons roundK_exit roundK_ret roundK_goto exitK_ret cutK_ret cutK_exit runE_done runE_nil runE_take runE_alt condG_true condG_false
set_option maxRecDepth 10000
/-! ## The document's decimals: Digits, Print -/
def chr (d : Nat) : UInt8 := UInt8.ofNat (48 + d)
def chrs (l : List Nat) : List UInt8 := l.map chr
@[simp] theorem chrs_len (l : List Nat) : (chrs l).length = l.length := by simp [chrs]
theorem digC_ext {d : Nat} (h : d < 10) : (⟨#[48, 49, 50, 51, 52, 53, 54, 55, 56, 57]⟩ : ByteArray).extract d (d + 1) = baL [chr d] := by
  have e : (⟨#[48, 49, 50, 51, 52, 53, 54, 55, 56, 57]⟩ : ByteArray) = baL [48, 49, 50, 51, 52, 53, 54, 55, 56, 57] := rfl
  rw [e, ba_ext]
  have : ∀ d, d < 10 → (([48, 49, 50, 51, 52, 53, 54, 55, 56, 57] : List UInt8).drop d).take (d + 1 - d) = [chr d] := by decide
  rw [this d h]
theorem digL_lt {n : Nat} {d : Nat} (h : d ∈ digL n) : d < 10 := digL_ok n d h
set_option maxHeartbeats 4000000 in
theorem r2Digits_w (n : Int) (hn : -9223372036854775808 ≤ n ∧ n ≤ 9223372036854775807) : ACalls Tryz.prog 82 [.c (.int .i64 n)] [] (fun _ => false) (fun r h' => r = .c (.string (baL (decDigits n.natAbs))) ∧ h' = []) := by
  refine acalls mixed Tryz.func82 rfl Tryz.ntmps82 rfl fun E hE hst hho => ?_
  have c1 := r2Of_w n hn
  have hlt := @digL_lt n.natAbs
  have hlen := digL_small n.natAbs 19 (by omega)
  have hdd := decDigits_dig n.natAbs
  have hz : digL n.natAbs = [] → n.natAbs = 0 := digL_nil
  obtain ⟨l, hl⟩ : ∃ l, l = digL n.natAbs := ⟨_, rfl⟩
  rw [← hl] at c1 hlt hlen hdd hz
  obtain ⟨R, hR⟩ : ∃ R, R = baL (decDigits n.natAbs) := ⟨_, rfl⟩
  rw [← hR]
  unfold dA at c1
  simp (maxSteps := 1000000) [hho, noHo, -List.reduceReplicate]
  refine call_x [] (c1) rfl rfl ⟨rfl, rfl⟩ hho (by simp) (by decide) (by simp) (by simp) ?_
  simp (maxSteps := 1000000) [hho, noHo, -List.reduceReplicate]
  refine loop_k mixed (fun j : Nat => ⟨slotsOf 23 [(3, .c (.string (baL (chrs (l.take j).reverse)))), (7, .fs 1 l.length (intsA (digI l))), (8, .c (.int .i64 (l.length : Nat))), (9, .c (.int .i64 (j : Nat)))], []⟩) (fun j => l.length - j) (fun j => j ≤ l.length) 0 (Nat.zero_le _) ?_ ?_
  · exact wk_eq (by simp [hE, lens]) rfl (by simp [livH, livO, AV.livL, AV.liv, wkL, wkV, List.range', slotsOf, chrs, baL])
  rintro j hj
  by_cases h1 : j < l.length
  case neg =>
    have h1i : ¬ (j : Int) < l.length := by omega
    have e0 : l.take j = l := List.take_of_length_le (by omega)
    rw [e0]
    by_cases hnil : l = []
    · have hn0 := hz hnil
      have e1 : baL (chrs l.reverse) = (⟨#[]⟩ : ByteArray) := by rw [hnil]; rfl
      have e2 : R = (⟨#[48]⟩ : ByteArray) := by rw [hR, hn0, dec_lt (by decide)]; rfl
      rw [e1, e2]
      simp (maxSteps := 1000000) [hho, noHo, slotsOf, h1, h1i, undef, onGP_none, condG_false, -List.reduceReplicate]
      exact Ret.drop (by rfl) ⟨rfl, rfl⟩
    · have hn0 : n.natAbs ≠ 0 := fun h => hnil (by rw [hl, h, digL_zero])
      have e2 : baL (chrs l.reverse) = R := by rw [hR, hdd hn0]; rfl
      have e3 : ¬ R = (⟨#[]⟩ : ByteArray) := by
        rw [hR]
        intro h
        have := ba_inj.1 (show baL (decDigits n.natAbs) = baL [] from h)
        exact decDigits_ne _ this
      have e4 : ¬ R = ByteArray.empty := e3
      rw [e2]
      simp (maxSteps := 1000000) [hho, noHo, slotsOf, h1, h1i, e3, e4, undef, onGP_none, condG_false, -List.reduceReplicate]
      exact Ret.drop (by rfl) ⟨rfl, rfl⟩
  have h1i : (j : Int) < l.length := by omega
  have ta := dA_at l j h1
  have hd := hlt (d := l[j]) (List.getElem_mem _)
  have htk : (l.take (j + 1)).reverse = l[j] :: (l.take j).reverse := by
    rw [List.take_succ_eq_append_getElem h1, List.reverse_append]; rfl
  obtain ⟨d, hd'⟩ : ∃ d, d = l[j] := ⟨_, rfl⟩
  rw [← hd'] at ta hd htk
  have ew : IntKind.i64.wrap ((j : Int) + 1) = (j + 1 : Nat) := by rw [IntWalk.i64_in _ (by omega)]; rfl
  have ewd : IntKind.i64.wrap ((d : Int) + 1) = (d + 1 : Nat) := by rw [IntWalk.i64_in _ (by omega)]; rfl
  have x1 := digC_ext hd
  have x2 : baL [chr d] ++ baL (chrs (l.take j).reverse) = baL (chrs (l.take (j + 1)).reverse) := by rw [ba_app, htk]; rfl
  have x3 : (baL (chrs (l.take j).reverse)).size = j := by rw [ba_size]; simp; omega
  have x4 : (baL [chr d]).size = 1 := rfl
  have x5 : (⟨#[48, 49, 50, 51, 52, 53, 54, 55, 56, 57]⟩ : ByteArray).size = 10 := rfl
  have hd2 : d + 1 ≤ 10 := by omega
  have hd2i : (d : Int) + 1 ≤ 10 := by omega
  have hd3i : (0 : Int) ≤ d := by omega
  simp (maxSteps := 1000000) [hho, noHo, slotsOf, h1, h1i, ta, ew, ewd, x1, x2, x3, x4, x5, hd2, hd2i, hd3i, undef, onGP_none, condG_false, -List.reduceReplicate]
  refine ⟨by omega, by omega, ?_⟩
  refine round_next (j + 1) (show j + 1 ≤ l.length by omega) (show l.length - (j + 1) < l.length - j by omega) ?_
  exact wk_of 0 0 (by simp) (by simp [hE, lens]) rfl (by simp [livH, livO, AV.livL, AV.liv, wkL, wkV, List.range']) (by simp [livH, livO, AV.livL, AV.liv, wkL, wkV, List.range', slotsOf, ew])
end Go.Proofs.YtjgdlocgoiinbaaGreatDoor
