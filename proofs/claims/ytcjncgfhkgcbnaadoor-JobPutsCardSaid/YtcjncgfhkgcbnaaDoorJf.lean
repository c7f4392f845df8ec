import Derived.Test.YtcjncgfhkgcbnaaDoorJo
import Derived.Test.YtcjncgfhkgcbnaaDoorJq
import Derived.Test.YtcjncgfhkgcbnaaDoorJc
namespace Go.Proofs.YtcjncgfhkgcbnaaDoor
set_option linter.unusedVariables false
set_option linter.unusedSimpArgs false
open Go.RowKit
attribute [local simp] isCut_nil isCut_region isCut_seq isCut_block isCut_loop isCut_cond isCut_skip isCut_exit isCut_ret isCut_range swapK putK altK condK_bool pickP_bool stepP stepO onPure_some onPure_none onImpl_some onImpl_none stepC onGP_some onGP_none onGV_some condG mkG onIt_it nextP_ptr takeP_eq takeV_some takeV_none takeU_some takeU_none takeQ takeW_some takeN_none takeN_some takeG_some takeO_some altO_some pureV binV2 eqF eqOp ovlV ovl2 rowAt capV binV intBin strBin isSh shV fldV ixV sliceV slice3V loadAV nilV lenV callV unV convV viewS cellsH loadV fldCut AV.ung AV.ungs AV.gc AV.cells AS.ev AS.put anyS gcsV gcO lens lnO gV guardV retK RetP_eq resV oneV anyRo loIx hiIx implO callP_clo evL gcsL clearV storeAV AS.push AS.setO appV appZ shortS copyV buildV partsV fillV srcV fzO okV isCell_c isCell_ptr isCell_sl isCell_fs isCell_fp isCell_clo rowZ_one rowZ_zero rowZ_2 rowZ_3 rowZ_4 rowZ_5 rowZ_6 rowZ_7 rowZ_8 rowZ_9 rowZ_10 rowZ_11 rowZ_12 noHo Value.oneCell' max2V min2V lookV updV lenM msAt afterH putBack frzFrom frzO rebO backIx nilEq_sl nilEq_fs nilOp_eql nilOp_neq AV.reb AV.rebL
attribute [local simp ↓] runK_skip runK_region runK_draw runK_seq runK_cut runK_cond runK_block runK_loop runK_exit runK_label runK_goto runK_ret runK_range contK_nil contK_seq contK_seq_ret contK_seq_exit contK_seq_goto contK_block contK_block_ret contK_block_goto contK_block_exit runO_nil runO_cons roundK_exit roundK_ret roundK_goto exitK_ret cutK_ret cutK_exit runE_done runE_nil runE_take runE_alt condG_true condG_false
set_option maxRecDepth 10000
def c6S : ColS := ⟨1, ⟨#[97]⟩, ⟨2, 0⟩, false, vZ, 3⟩
def x6S : IdxS := ⟨2, ⟨#[105]⟩, [1], false, 2⟩
def t6S : TabS := ⟨0, ⟨#[116]⟩, [c6S], [x6S]⟩
def s6S : SchS := ⟨0, 3, [t6S]⟩
def y6S : IdxS := ⟨0, ⟨#[105]⟩, [1], false, 0⟩
def j6S : JobS := ⟨0, 0, 0, ByteArray.empty, [], y6S, 2, -1, ByteArray.empty, false, false, false, 0, false⟩
def k6S : JobS := ⟨0, 0, 0, ByteArray.empty, [], y6S, 2, -1, ByteArray.empty, true, false, false, 0, false⟩
def m6S : MvS := ⟨0, true, 2, 3⟩
theorem n6a : jNext j6S s6S = ⟨1, [], false⟩ := by kernel_rfl
theorem n6b : jNext k6S s6S = ⟨0, [m6S], true⟩ := by kernel_rfl
theorem k6S_ok : jobOk k6S = true := by decide +kernel
theorem k6S_Ok : k6S.Ok := ⟨⟨by decide, by decide⟩, ⟨by decide, by decide⟩, ⟨by decide, by decide⟩, by decide, fun c hc => (by cases hc), ⟨⟨by decide, by decide⟩, by decide, fun k hk => by rw [List.mem_singleton.1 hk]; exact ⟨by decide, by decide⟩, ⟨by decide, by decide⟩⟩, ⟨by decide, by decide⟩, ⟨by decide, by decide⟩, by decide, ⟨by decide, by decide⟩⟩
theorem k6S_big : JobBig k6S := ⟨by decide, by decide, by decide, by decide, fun c hc => (by cases hc)⟩
set_option maxHeartbeats 16000000 in
theorem first16_w : ACalls Tryd.prog 6 [] [] (fun _ => false) (fun r h' => r = .c (.bool true) ∧ h' = []) := by
  refine acallsC [3] mixed Tryd.func6 rfl Tryd.ntmps6 rfl fun E hE hst hho => ?_
  simp (maxSteps := 1000000) [hho, noHo, -List.reduceReplicate]
  refine seq_cut mixed [] (fun _ : Unit => ⟨slotsOf 80 [(1, .ptr 4 0 3), (2, .ptr 6 0 18)], [.o .fz (colsA [c6S]), .o .fz (intsA [1]), .o .fz (idxsA [x6S]), .o .fz (tabsA [t6S]), .o .box (schA s6S), .o .fz (intsA [1]), .o .box (jobA j6S)]⟩) (fun _ => True) ?_ ?_
  case refine_2 =>
    simp (maxSteps := 1000000) [hho, noHo, -List.reduceReplicate]
    refine cut_to () trivial ?_
    refine Wk.trans (wk_data 2 2 1 (by rw [hho]; rfl) (by decide) rfl rfl rfl rfl rfl (by decide) (by decide)) ?_
    refine Wk.trans (wk_data 3 3 2 (by rw [hho]; rfl) (by decide) rfl rfl rfl rfl rfl (by decide) (by decide)) ?_
    refine Wk.trans (wk_data 3 2 0 (by rw [hho]; rfl) (by decide) rfl rfl rfl rfl rfl (by decide) (by decide)) ?_
    refine Wk.trans (wk_data 4 2 3 (by rw [hho]; rfl) (by decide) rfl rfl rfl rfl rfl (by decide) (by decide)) ?_
    refine Wk.trans (wk_data 6 7 5 (by rw [hho]; rfl) (by decide) rfl rfl rfl rfl rfl (by decide) (by decide)) ?_
    refine Wk.trans (wk_cell 6 4 (kd := .box) (old := .c (.slice none 0 0)) (new := .fs 10 0 []) rfl rfl fun G F w v _ h => nil_fs0 10 h) ?_
    exact wk_eq (by simp [hE, lens]) rfl (by simp [livH, livO, AV.livL, AV.liv, wkL, wkV, List.range', slotsOf])
  intro _ _
  have c1 := jbNext_w j6S s6S (by decide) (fun t ht => by rw [List.mem_singleton.1 ht]; exact ⟨by decide, by decide⟩)
  have c2 := jbNext_w k6S s6S (by decide) (fun t ht => by rw [List.mem_singleton.1 ht]; exact ⟨by decide, by decide⟩)
  rw [n6a] at c1
  rw [n6b] at c2
  have c3 := jbPut_w k6S k6S_big (by decide) k6S_Ok
  unfold jobPutA at c3
  rw [if_pos k6S_ok] at c3
  have hBl := jobB_len k6S_ok (by decide) k6S_Ok
  have hBp := parJob_put k6S_ok (by decide) k6S_Ok
  obtain ⟨B, hB⟩ : ∃ B, B = jobB k6S := ⟨_, rfl⟩
  rw [← hB] at c3 hBl hBp
  have c4 := jbParse_w B (by omega)
  unfold jobParseA at c4
  rw [hBp] at c4
  simp (maxSteps := 1000000) [hho, noHo, slotsOf, schA, jobA, j6S, y6S, -List.reduceReplicate]
  refine call_x [] (c1) rfl rfl ⟨rfl, rfl⟩ hho (by simp) (by decide) (by simp) (by simp) ?_
  simp (maxSteps := 1000000) [hho, noHo, nxA, mvA, -List.reduceReplicate]
  refine call_x [] (c2) rfl rfl ⟨rfl, rfl⟩ hho (by simp) (by decide) (by simp) (by simp) ?_
  simp (maxSteps := 1000000) [hho, noHo, nxA, mvA, mvsA, mvC, m6S, -List.reduceReplicate]
  refine call_x [] (c3) rfl rfl ⟨rfl, rfl⟩ hho (by simp) (by decide) (by simp) (by simp) ?_
  simp (maxSteps := 1000000) [hho, noHo, -List.reduceReplicate]
  refine call_x [] (c4) rfl rfl ⟨rfl, rfl⟩ hho (by simp) (by decide) (by simp) (by simp) ?_
  simp (maxSteps := 1000000) [hho, noHo, jobA, k6S, -List.reduceReplicate]
  exact Ret.drop (by rfl) ⟨rfl, rfl⟩
end Go.Proofs.YtcjncgfhkgcbnaaDoor
