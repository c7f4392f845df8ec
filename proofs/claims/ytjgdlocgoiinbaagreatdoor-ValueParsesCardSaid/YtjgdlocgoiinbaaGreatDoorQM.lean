import Derived.Test.YtjgdlocgoiinbaaGreatDoorQL
namespace Go.Proofs.YtjgdlocgoiinbaaGreatDoor
set_option linter.unusedVariables false
set_option linter.unusedSimpArgs false
open Go.RowKit Go.Lib
attribute [local simp] isCut_nil isCut_region isCut_seq isCut_block isCut_loop isCut_cond isCut_skip isCut_exit isCut_ret isCut_range swapK putK altK condK_bool pickP_bool stepP stepO onPure_some onPure_none onImpl_some onImpl_none stepC onGP_some onGP_none onGV_some condG mkG onIt_it nextP_ptr takeP_eq takeV_some takeV_none takeU_some takeU_none takeQ takeW_some takeN_none takeN_some takeG_some takeO_some altO_some pureV binV2 eqF eqOp ovlV ovl2 rowAt capV binV intBin strBin isSh shV fldV ixV sliceV slice3V loadAV nilV lenV callV unV convV viewS cellsH loadV fldCut AV.ung AV.ungs AV.gc AV.cells AS.ev AS.put anyS gcsV gcO lens lnO gV guardV retK RetP_eq resV oneV anyRo loIx hiIx implO callP_clo evL gcsL clearV storeAV AS.push AS.setO appV appZ shortS copyV buildV partsV fillV srcV fzO okV isCell_c isCell_ptr isCell_sl isCell_fs isCell_fp isCell_clo rowZ_one rowZ_zero rowZ_2 rowZ_3 rowZ_4 rowZ_5 rowZ_6 rowZ_7 rowZ_8 rowZ_9 rowZ_10 rowZ_11 rowZ_12 noHo Value.oneCell' max2V min2V lookV updV lenM msAt afterH putBack frzFrom frzO rebO backIx nilEq_sl nilEq_fs nilEq_ifn nilEq_ifh ifOp_eql ifOp_neq isLit nilOp_eql nilOp_neq AV.reb AV.rebL
attribute [local simp ↓] runK_skip runK_region runK_draw runK_seq runK_cut runK_cond runK_block runK_loop runK_exit runK_label runK_goto runK_ret runK_range contK_nil contK_seq contK_seq_ret contK_seq_exit contK_seq_goto contK_block contK_block_ret contK_block_goto contK_block_exit runO_nil runO_cons roundK_exit roundK_ret roundK_goto exitK_ret cutK_ret cutK_exit runE_done runE_nil runE_take runE_alt condG_true condG_false
set_option maxRecDepth 10000
/-! ## What chapter 03 asks first -/
theorem dec10 : decDigits 10 = [49, 48] := by
  rw [decDigits, dif_neg (by decide), decDigits, dif_pos (by decide)]
  rfl
theorem dec_lt {n : Nat} (h : n < 10) : decDigits n = [UInt8.ofNat (48 + n)] := by rw [decDigits, dif_pos h]
def f3a : ValS := ⟨2, 1, 0, ByteArray.empty⟩
def f3b : ValS := ⟨3, 10, 1, ByteArray.empty⟩
def f3s : ValS := ⟨4, 0, 0, baL [105, 116, 39, 115]⟩
theorem f3_utf : utfOk (baL [105, 116, 39, 115]) = true := by decide +kernel
theorem f3_ok : valOk f3s = true := by
  unfold valOk f3s
  rw [if_neg (by decide), if_neg (by decide), if_neg (by decide), if_neg (by decide), if_pos rfl]
  simp only
  rw [f3_utf]
  rfl
theorem f3_print : printR f3s = [39, 105, 116, 39, 39, 115, 39] := rfl
theorem f3_parse : parseR [39, 105, 116, 39, 39, 115, 39] = some f3s := by
  rw [← f3_print]
  exact parse_print f3_ok (by decide) (by decide)
theorem f3_no : parseR [88, 39, 48, 71, 39] = none := by decide +kernel
theorem f3_b : printR (plV f3b) = [49, 46, 48] := by
  have e : plV f3b = f3b := plV_of (by decide +kernel)
  rw [e]
  show printD 10 1 = _
  unfold printD
  rw [if_neg (by decide)]
  unfold printM padD
  rw [if_neg (by decide), show (10 : Int).natAbs = 10 from rfl, dec10]
  rfl
theorem f3_name : nameT ⟨3, 2⟩ = [68, 69, 67, 73, 77, 65, 76, 40, 50, 41] := by
  have e : printD 2 0 = [50] := by
    unfold printD printM padD
    rw [if_neg (by decide), if_pos rfl, show (2 : Int).natAbs = 2 from rfl, dec_lt (by decide)]
    rfl
  unfold nameT
  rw [if_pos (by decide), if_pos rfl, e]
  rfl
set_option maxHeartbeats 8000000 in
theorem l3first_w : ACalls Tryz.prog 14 [] [] (fun _ => false) (fun r h' => r = .c (.bool true) ∧ h' = []) := by
  refine acalls mixed Tryz.func14 rfl Tryz.ntmps14 rfl fun E hE hst hho => ?_
  have i1 : (-9223372036854775808 ≤ f3a.n ∧ f3a.n ≤ 9223372036854775807) ∧ f3a.t.size ≤ 1000000000 := by decide
  have i2 : (-9223372036854775808 ≤ f3b.n ∧ f3b.n ≤ 9223372036854775807) ∧ f3b.t.size ≤ 1000000000 := by decide
  have c1 := vCompare_w f3a f3b i1 i2
  rw [show cmpV (plV f3a) (plV f3b) = (0, true) by decide +kernel] at c1
  have c2 := vParse_w ⟨#[39, 105, 116, 39, 39, 115, 39]⟩ (by decide)
  rw [show ((⟨#[39, 105, 116, 39, 39, 115, 39]⟩ : ByteArray).data.toList) = [39, 105, 116, 39, 39, 115, 39] from rfl, f3_parse] at c2
  have c3 := vParse_w ⟨#[88, 39, 48, 71, 39]⟩ (by decide)
  rw [show ((⟨#[88, 39, 48, 71, 39]⟩ : ByteArray).data.toList) = [88, 39, 48, 71, 39] from rfl, f3_no] at c3
  have c4 := vOrder_w f3a f3b i1 i2
  rw [show orderV (plV f3a) (plV f3b) = -1 by decide +kernel] at c4
  have c5 := vPrint_w f3b i2
  rw [f3_b, show baL [49, 46, 48] = (⟨#[49, 46, 48]⟩ : ByteArray) from rfl] at c5
  have c6 := vTypeName_w ⟨3, 2⟩
  rw [f3_name, show baL [68, 69, 67, 73, 77, 65, 76, 40, 50, 41] = (⟨#[68, 69, 67, 73, 77, 65, 76, 40, 50, 41]⟩ : ByteArray) from rfl] at c6
  have c7 := vOr_w 2 1
  rw [show notT (andT (notT 2) (notT 1)) = 1 by decide] at c7
  have c8 := vBool_w true
  have c9 := vTruth_w (boolV true) (by decide)
  rw [show truV (boolV true) = 1 by decide +kernel] at c9
  unfold pvR at c2 c3
  simp only at c2 c3
  simp (maxSteps := 1000000) [hho, noHo, -List.reduceReplicate]
  refine call_x [] (c1) rfl rfl ⟨rfl, rfl⟩ hho (by simp) (by decide) (by simp) (by simp) ?_
  simp (maxSteps := 1000000) [hho, noHo, -List.reduceReplicate]
  refine call_x [] (c2) rfl rfl ⟨rfl, rfl⟩ hho (by simp) (by decide) (by simp) (by simp) ?_
  simp (maxSteps := 1000000) [hho, noHo, valA, f3s, -List.reduceReplicate]
  refine call_x [] (c3) rfl rfl ⟨rfl, rfl⟩ hho (by simp) (by decide) (by simp) (by simp) ?_
  have hb : baL [105, 116, 39, 115] = (⟨#[105, 116, 39, 115]⟩ : ByteArray) := rfl
  simp (maxSteps := 1000000) [hho, noHo, valA, vN, hb, -List.reduceReplicate]
  refine call_x [] (c4) rfl rfl ⟨rfl, rfl⟩ hho (by simp) (by decide) (by simp) (by simp) ?_
  simp (maxSteps := 1000000) [hho, noHo, -List.reduceReplicate]
  refine call_x [] (c5) rfl rfl ⟨rfl, rfl⟩ hho (by simp) (by decide) (by simp) (by simp) ?_
  simp (maxSteps := 1000000) [hho, noHo, -List.reduceReplicate]
  refine call_x [] (c6) rfl rfl ⟨rfl, rfl⟩ hho (by simp) (by decide) (by simp) (by simp) ?_
  simp (maxSteps := 1000000) [hho, noHo, -List.reduceReplicate]
  refine call_x [] (c7) rfl rfl ⟨rfl, rfl⟩ hho (by simp) (by decide) (by simp) (by simp) ?_
  simp (maxSteps := 1000000) [hho, noHo, -List.reduceReplicate]
  refine call_x [] (c8) rfl rfl ⟨rfl, rfl⟩ hho (by simp) (by decide) (by simp) (by simp) ?_
  simp (maxSteps := 1000000) [hho, noHo, -List.reduceReplicate]
  refine call_x [] (c9) rfl rfl ⟨rfl, rfl⟩ hho (by simp) (by decide) (by simp) (by simp) ?_
  simp (maxSteps := 1000000) [hho, noHo, -List.reduceReplicate]
  exact Ret.drop (by rfl) ⟨rfl, rfl⟩
end Go.Proofs.YtjgdlocgoiinbaaGreatDoor
