import Derived.Test.YthgoocdldnkogaaGreatDoorHQ
import Derived.Test.YthgoocdldnkogaaGreatDoorZp
import Derived.Test.YthgoocdldnkogaaGreatDoorHJ
import Derived.Test.YthgoocdldnkogaaGreatDoorHZ2
namespace Go.Proofs.YthgoocdldnkogaaGreatDoor
set_option linter.unusedVariables false
set_option linter.unusedSimpArgs false
open Go.RowKit
attribute [local simp] isCut_nil isCut_region isCut_seq isCut_block isCut_loop isCut_cond isCut_skip isCut_exit isCut_ret isCut_range swapK putK altK condK_bool pickP_bool stepP stepO onPure_some onPure_none onImpl_some onImpl_none stepC onGP_some onGP_none onGV_some condG mkG onIt_it nextP_ptr takeP_eq takeV_some takeV_none takeU_some takeU_none takeQ takeW_some takeN_none takeN_some takeG_some takeO_some altO_some pureV binV2 eqF eqOp ovlV ovl2 rowAt capV binV intBin strBin isSh shV fldV ixV sliceV slice3V loadAV nilV lenV callV unV convV viewS cellsH loadV fldCut AV.ung AV.ungs AV.gc AV.cells AS.ev AS.put anyS gcsV gcO lens lnO gV guardV retK RetP_eq resV oneV anyRo loIx hiIx implO callP_clo evL gcsL clearV storeAV AS.push AS.setO appV appZ shortS copyV buildV partsV fillV srcV fzO okV isCell_c isCell_ptr isCell_sl isCell_fs isCell_fp isCell_clo rowZ_one rowZ_zero rowZ_2 rowZ_3 rowZ_4 rowZ_5 rowZ_6 rowZ_7 rowZ_8 rowZ_9 rowZ_10 rowZ_11 rowZ_12 noHo Value.oneCell' max2V min2V lookV updV updK updW cvals mkAt basV lenM msAt afterH putBack frzFrom frzO rebO backIx nilEq_sl nilEq_fs nilEq_ifn nilEq_ifh ifOp_eql ifOp_neq isLit nilOp_eql nilOp_neq AV.reb AV.rebL
attribute [local simp ↓] runK_skip runK_region runK_draw runK_seq runK_cut runK_cond runK_block runK_loop runK_exit runK_label runK_goto runK_ret runK_range contK_nil contK_seq contK_seq_ret contK_seq_exit contK_seq_goto contK_block contK_block_ret contK_block_goto contK_block_exit runO_nil runO_cons roundK_exit roundK_ret roundK_goto exitK_ret cutK_ret cutK_exit runE_done runE_nil runE_take runE_alt condG_true condG_false
set_option maxRecDepth 10000
def c1S : ColS := ⟨1, ⟨#[97]⟩, ⟨2, 0⟩, false, vZ, 3⟩
def x1S : IdxS := ⟨2, ⟨#[105]⟩, [1], false, 2⟩
def t1S : TabS := ⟨0, ⟨#[116]⟩, [c1S], [x1S]⟩
def s1S : SchS := ⟨0, 3, [t1S]⟩
theorem s1S_ok : schOk s1S = true := by decide +kernel
theorem c1S_Ok : c1S.Ok := ⟨⟨by decide, by decide⟩, by decide, ⟨⟨by decide, by decide⟩, ⟨by decide, by decide⟩⟩, ⟨⟨by decide, by decide⟩, ⟨by decide, by decide⟩, ⟨by decide, by decide⟩, by decide⟩, ⟨by decide, by decide⟩⟩
theorem s1S_Ok : s1S.Ok := by
 refine ⟨⟨by decide, by decide⟩, ⟨by decide, by decide⟩, fun t ht => ?_⟩
 rw [List.mem_singleton.1 ht]
 refine ⟨⟨by decide, by decide⟩, by decide, fun c hc => ?_, fun x hx => ?_⟩
 ·rw [List.mem_singleton.1 hc]; exact c1S_Ok
 ·rw [List.mem_singleton.1 hx]
  exact ⟨⟨by decide, by decide⟩, by decide, fun k hk => by rw [List.mem_singleton.1 hk]; exact ⟨by decide, by decide⟩, ⟨by decide, by decide⟩⟩
set_option maxHeartbeats 8000000 in
theorem first12_w : ACalls Tryz.prog 22 [] [] (fun _ => false) (fun r h' => r = .c (.bool true) ∧ h' = []) := by
 refine acallsC [2] mixed Tryz.func22 rfl Tryz.ntmps22 rfl fun E hE hst hho => ?_
 simp (maxSteps := 1000000) [hho, noHo, -List.reduceReplicate]
 refine seq_cut mixed [] (fun _ : Unit => ⟨slotsOf 67 [(1, .ptr 4 0 3)], [.o .fz (colsA [c1S]), .o .fz (intsA [1]), .o .fz (idxsA [x1S]), .o .fz (tabsA [t1S]), .o .box (schA s1S)]⟩) (fun _ => True) ?_ ?_
 case refine_2 =>
  simp (maxSteps := 1000000) [hho, noHo, -List.reduceReplicate]
  refine cut_to () trivial ?_
  refine Wk.trans (wk_data 2 2 1 (by rw [hho]; rfl) (by decide) rfl rfl rfl rfl rfl (by decide) (by decide)) ?_
  refine Wk.trans (wk_data 3 3 2 (by rw [hho]; rfl) (by decide) rfl rfl rfl rfl rfl (by decide) (by decide)) ?_
  refine Wk.trans (wk_data 3 2 0 (by rw [hho]; rfl) (by decide) rfl rfl rfl rfl rfl (by decide) (by decide)) ?_
  refine Wk.trans (wk_data 4 2 3 (by rw [hho]; rfl) (by decide) rfl rfl rfl rfl rfl (by decide) (by decide)) ?_
  exact wk_eq (by simp [hE, lens]) rfl (by simp [livH, livO, AV.livL, AV.liv, wkL, wkV, List.range', slotsOf])
 intro _ _
 obtain ⟨hv1, hv2⟩ := schM_big (s := s1S) ⟨by decide, fun t ht => by
  rw [List.mem_singleton.1 ht]
  exact ⟨by decide, ⟨by decide, fun c hc => by rw [List.mem_singleton.1 hc]; exact ⟨by decide, by decide⟩⟩, by decide, fun x hx => by rw [List.mem_singleton.1 hx]; exact ⟨by decide, by decide⟩⟩⟩
 have c1 := scPut_w s1S hv1 hv2 s1S_Ok
 unfold schPutA at c1
 rw [if_pos s1S_ok] at c1
 have hBl := schB_len s1S_ok s1S_Ok
 have hBp := parSch_put s1S_ok s1S_Ok
 obtain ⟨B, hB⟩ : ∃ B, B = schB s1S := ⟨_, rfl⟩
 rw [← hB] at c1 hBl hBp
 have c2 := scParse_w B (by omega)
 unfold schParseA at c2
 rw [hBp] at c2
 have c3 := same_sc s1S s1S hv1 (fun t ht => ⟨(hv2 t ht).cl, (hv2 t ht).il, fun x hx => ((hv2 t ht).xn x hx).2⟩)
 have c4 := scTable_w s1S ⟨#[116]⟩ (by decide)
 have c5 := scColumn_w t1S ⟨#[97]⟩ (by decide)
 have c6 := scIndex_w t1S ⟨#[106]⟩ (by decide)
 have c7 := name_sch ⟨#[97, 95, 49]⟩ (by decide)
 have c8 := name_sch ⟨#[49, 97]⟩ (by decide)
 have c9 := name_sch ByteArray.empty (by decide)
 rw [eqB_yes rfl] at c3
 rw [show ixF (fun x : TabS => decide (x.name = ⟨#[116]⟩)) s1S.tabs = 0 by decide +kernel] at c4
 rw [show ixF (fun x : ColS => decide (x.st = 3) && decide (x.name = ⟨#[97]⟩)) t1S.cols = 0 by decide +kernel] at c5
 rw [show ixF (fun x : IdxS => decide (x.name = ⟨#[106]⟩)) t1S.idxs = -1 by decide +kernel] at c6
 rw [show nameOk ⟨#[97, 95, 49]⟩ = true by decide +kernel] at c7
 rw [show nameOk ⟨#[49, 97]⟩ = false by decide +kernel] at c8
 rw [show nameOk ByteArray.empty = false by decide +kernel] at c9
 have e0 : s1S.tabs.length = 1 := rfl
 have e1 : tabsA s1S.tabs = tabA t1S := rfl
 have e2 : List.take 4 (tabA t1S) = tabA t1S := rfl
 simp (maxSteps := 1000000) [hho, noHo, slotsOf, schA, -List.reduceReplicate]
 refine call_0 (c1) rfl rfl hho (by simp) ?_
 simp (maxSteps := 1000000) [hho, noHo, -List.reduceReplicate]
 refine call_0 (c2) rfl rfl hho (by simp) ?_
 simp (maxSteps := 1000000) [hho, noHo, schA, -List.reduceReplicate]
 refine call_0 (c3) rfl rfl hho (by simp) ?_
 simp (maxSteps := 1000000) [hho, noHo, -List.reduceReplicate]
 refine call_0 (c4) rfl rfl hho (by simp) ?_
 simp (maxSteps := 1000000) [hho, noHo, e0, e1, e2, -List.reduceReplicate]
 refine call_0 (c5) rfl rfl hho (by simp) ?_
 simp (maxSteps := 1000000) [hho, noHo, e0, e1, e2, -List.reduceReplicate]
 refine call_0 (c6) rfl rfl hho (by simp) ?_
 simp (maxSteps := 1000000) [hho, noHo, -List.reduceReplicate]
 refine call_0 (c7) rfl rfl hho (by simp) ?_
 simp (maxSteps := 1000000) [hho, noHo, -List.reduceReplicate]
 refine call_0 (c8) rfl rfl hho (by simp) ?_
 simp (maxSteps := 1000000) [hho, noHo, -List.reduceReplicate]
 refine call_0 (c9) rfl rfl hho (by simp) ?_
 simp (maxSteps := 1000000) [hho, noHo, -List.reduceReplicate]
 exact Ret.drop (by rfl) ⟨rfl, rfl⟩
end Go.Proofs.YthgoocdldnkogaaGreatDoor
