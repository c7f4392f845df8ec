import Derived.Test.YtlepkpfbejfpiaaDoorH5
import Derived.Test.YtlepkpfbejfpiaaDoorH6
namespace Go.Proofs.YtlepkpfbejfpiaaDoor
set_option linter.unusedVariables false
set_option linter.unusedSimpArgs false
open Go.RowKit
attribute [local simp] isCut_nil isCut_region isCut_seq isCut_block isCut_loop isCut_cond isCut_skip isCut_exit isCut_ret isCut_range swapK putK altK condK_bool pickP_bool stepP stepO onPure_some onPure_none onImpl_some onImpl_none stepC onGP_some onGP_none onGV_some condG mkG onIt_it nextP_ptr takeP_eq takeV_some takeV_none takeU_some takeU_none takeQ takeW_some takeN_none takeN_some takeG_some takeO_some altO_some pureV binV2 eqF eqOp ovlV ovl2 rowAt capV binV intBin strBin isSh shV fldV ixV sliceV slice3V loadAV nilV lenV callV unV convV viewS cellsH loadV fldCut AV.ung AV.ungs AV.gc AV.cells AS.ev AS.put anyS gcsV lens lnO gV guardV retK RetP_eq resV oneV anyRo loIx hiIx implO callP_clo evL gcsL clearV storeAV AS.push AS.setO appV appZ shortS copyV buildV partsV fillV srcV fzO okV isCell_c isCell_ptr isCell_sl isCell_fs isCell_fp isCell_clo rowZ_one rowZ_zero rowZ_2 rowZ_3 rowZ_4 rowZ_5 rowZ_6 rowZ_7 rowZ_8 rowZ_9 rowZ_10 rowZ_11 rowZ_12 noHo Value.oneCell' max2V min2V afterH putBack frzFrom frzO rebO backIx nilEq_sl nilEq_fs nilOp_eql nilOp_neq AV.reb AV.rebL
attribute [local simp ↓] runK_skip runK_region runK_draw runK_seq runK_cut runK_cond runK_block runK_loop runK_exit runK_label runK_goto runK_ret runK_range contK_nil contK_seq contK_seq_ret contK_seq_exit contK_seq_goto contK_block contK_block_ret contK_block_goto contK_block_exit runO_nil runO_cons roundK_exit roundK_ret roundK_goto exitK_ret cutK_ret cutK_exit runE_done runE_nil runE_take runE_alt condG_true condG_false
set_option maxRecDepth 10000
/-! ## first -/
def e1F : ExprS := .mk 1 0 ByteArray.empty ⟨0, 0, 0, ByteArray.empty⟩ ByteArray.empty { data := #[97] } false ⟨0, 0⟩ []
def e2F : ExprS := .mk 0 0 ByteArray.empty ⟨2, 1, 0, ByteArray.empty⟩ ByteArray.empty ByteArray.empty false ⟨0, 0⟩ []
def e0F : ExprS := .mk 3 0 { data := #[43] } ⟨0, 0, 0, ByteArray.empty⟩ ByteArray.empty ByteArray.empty false ⟨0, 0⟩ [e1F, e2F]
def uF : ExprS := .mk 2 0 ByteArray.empty ⟨0, 0, 0, ByteArray.empty⟩ ByteArray.empty ByteArray.empty false ⟨0, 0⟩ []
def zF : StmtS := ⟨0, ByteArray.empty, ByteArray.empty, false, [], [], [], [], [], [], [], [], [], [], 0⟩
def s0F : StmtS := ⟨8, { data := #[116] }, ByteArray.empty, false, [], [], [], [], [e0F], [], [], [], [], [], -1⟩
theorem hgtF : hgt e0F = 2 := by decide +kernel
theorem rightF : rightE 0 e0F = true := by decide +kernel
theorem rightF' : rightE 0 uF = false := by decide +kernel
theorem colsF : colsE e0F = [e1F] := by rfl
theorem callsF : callsE e0F = false := by decide +kernel
theorem exprsF : exprsS s0F = [e0F] := by rfl
theorem rightSF : rightS s0F = true := by decide +kernel
theorem rightSF' : rightS zF = false := by decide +kernel
theorem sameSF : sameS s0F s0F = true := by decide +kernel
theorem Fit.leaf {x : ExprS} (h : E9 x) (hk : x.kids = []) : Fit x := .mk x h (by simp [hk]) (by simp [hk])
theorem fitF1 : Fit e1F := .leaf (by simp only [E9]; decide +kernel) rfl
theorem fitF2 : Fit e2F := .leaf (by simp only [E9]; decide +kernel) rfl
theorem fitFu : Fit uF := .leaf (by simp only [E9]; decide +kernel) rfl
theorem fitF : Fit e0F := .mk _ (by simp only [E9]; decide +kernel) (by decide) (by
  intro k hk
  simp only [e0F, ExprS.kids_mk, List.mem_cons, List.mem_nil_iff, or_false] at hk
  rcases hk with rfl | rfl
  · exact fitF1
  · exact fitF2)
theorem fitZ : FitS zF := ⟨by decide +kernel, by decide +kernel, ⟨by decide, by simp [zF]⟩, ⟨by decide, by simp [zF]⟩, ⟨by decide, by simp [zF]⟩, ⟨by decide, by simp [zF]⟩, ⟨by decide, by simp [zF]⟩, ⟨by decide, by simp [zF]⟩, ⟨by decide, by simp [zF]⟩, ⟨by decide, by simp [zF]⟩, ⟨by decide, by simp [zF]⟩, ⟨by decide, by simp [zF]⟩, by decide⟩
theorem fitS0 : FitS s0F := ⟨by decide +kernel, by decide +kernel, ⟨by decide, by simp [s0F]⟩, ⟨by decide, by simp [s0F]⟩, ⟨by decide, by simp [s0F]⟩, ⟨by decide, by simp [s0F]⟩, ⟨by decide, by intro x hx; simp only [s0F, List.mem_singleton] at hx; subst hx; exact fitF⟩, ⟨by decide, by simp [s0F]⟩, ⟨by decide, by simp [s0F]⟩, ⟨by decide, by simp [s0F]⟩, ⟨by decide, by simp [s0F]⟩, ⟨by decide, by simp [s0F]⟩, by decide⟩
set_option maxHeartbeats 8000000 in
theorem first_w : ACalls Tryd.prog 6 [] [] (fun _ => false) (fun r h' => r = .c (.bool true) ∧ h' = []) := by
  refine acallsC [3] mixed Tryd.func6 rfl Tryd.ntmps6 rfl fun E hE hst hho => ?_
  simp (maxSteps := 1000000) [hho, noHo, undef, onGP_none, condG_false, -List.reduceReplicate]
  refine seq_cut mixed [] (fun _ : Unit => ⟨slotsOf 63 [(1, .ptr 1 0 13), (2, .ptr 3 0 15)], [.o .fz (exprsA [e1F, e2F]), .o .box (exprA e0F), .o .fz (exprA e0F), .o .box (stmtA s0F)]⟩) (fun _ => True) ?_ ?_
  · intro _ _
    have c1 := columns_w e0F fitF (by rw [colsF]; decide)
    rw [colsF] at c1
    have c2 := height_w e0F fitF (by rw [hgtF]; decide)
    rw [hgtF] at c2
    have c3 := rightExpr_w e0F fitF
    rw [rightF] at c3
    have c4 := rightExpr_w uF fitFu
    rw [rightF'] at c4
    have c5 := rightS_w s0F fitS0
    rw [rightSF] at c5
    have c6 := rightS_w zF fitZ
    rw [rightSF'] at c6
    have c7 := same_w s0F s0F fitS0
    rw [sameSF] at c7
    have c8 := calls_w e0F fitF
    rw [callsF] at c8
    have c9 := exprs_w s0F (by decide) (by rw [exprsF]; decide)
    rw [exprsF] at c9
    have hE1 : exprA e1F = [.c (.int .i64 1), .c (.int .i64 0), .c (.string ByteArray.empty), .c (.int .i64 0), .c (.int .i64 0), .c (.int .i64 0), .c (.string ByteArray.empty), .c (.string ByteArray.empty), .c (.string { data := #[97] }), .c (.bool false), .c (.int .i64 0), .c (.int .i64 0), .fs 13 0 []] := rfl
    simp (maxSteps := 1000000) [slotsOf, hho, noHo, undef, onGP_none, condG_false, -List.reduceReplicate]
    refine call_x [] c1 rfl rfl ⟨rfl, rfl⟩ hho (by simp) (by decide) (by simp) (by simp) ?_
    simp (maxSteps := 1000000) [hho, noHo, undef, onGP_none, condG_false, -List.reduceReplicate]
    refine call_x [] c2 rfl rfl ⟨rfl, rfl⟩ hho (by simp) (by decide) (by simp) (by simp) ?_
    simp (maxSteps := 1000000) [hho, noHo, undef, onGP_none, condG_false, -List.reduceReplicate]
    refine call_x [] c3 rfl rfl ⟨rfl, rfl⟩ hho (by simp) (by decide) (by simp) (by simp) ?_
    simp (maxSteps := 1000000) [hho, noHo, undef, onGP_none, condG_false, -List.reduceReplicate]
    refine callG_aggNil 0 (l' := exprA uF) rfl (by repeat (first | exact NilL.nil | refine NilL.slice _ ?_ | refine NilL.same _ ?_)) ?_
    refine call_x [] c4 rfl rfl ⟨rfl, rfl⟩ hho (by simp) (by decide) (by simp) (by simp) ?_
    simp (maxSteps := 1000000) [hho, noHo, rep10, undef, onGP_none, condG_false, -List.reduceReplicate]
    refine call_x [] c5 rfl rfl ⟨rfl, rfl⟩ hho (by simp) (by decide) (by simp) (by simp) ?_
    simp (maxSteps := 1000000) [hho, noHo, rep10, undef, onGP_none, condG_false, -List.reduceReplicate]
    refine callG_aggNil 0 (l' := stmtA zF) rfl (by repeat (first | exact NilL.nil | refine NilL.slice _ ?_ | refine NilL.same _ ?_)) ?_
    refine call_x [] c6 rfl rfl ⟨rfl, rfl⟩ hho (by simp) (by decide) (by simp) (by simp) ?_
    simp (maxSteps := 1000000) [hho, noHo, rep10, undef, onGP_none, condG_false, -List.reduceReplicate]
    simp (maxSteps := 1000000) [hho, noHo, exprsA_one, hE1, undef, onGP_none, condG_false, -List.reduceReplicate]
    refine call_x [] c7 rfl rfl ⟨rfl, rfl⟩ hho (by simp) (by decide) (by simp) (by simp) ?_
    simp (maxSteps := 1000000) [hho, noHo, rep10, undef, onGP_none, condG_false, -List.reduceReplicate]
    refine call_x [] c8 rfl rfl ⟨rfl, rfl⟩ hho (by simp) (by decide) (by simp) (by simp) ?_
    simp (maxSteps := 1000000) [hho, noHo, rep10, undef, onGP_none, condG_false, -List.reduceReplicate]
    refine call_x [] c9 rfl rfl ⟨rfl, rfl⟩ hho (by simp) (by decide) (by simp) (by simp) ?_
    simp (maxSteps := 1000000) [hho, noHo, rep10, undef, onGP_none, condG_false, -List.reduceReplicate]
    exact Ret.drop (by rfl) ⟨rfl, rfl⟩
  · simp (maxSteps := 1000000) [hho, noHo, rep10, undef, onGP_none, condG_false, -List.reduceReplicate]
    refine cut_to () trivial ?_
    refine Wk.trans (wk_nils 0 (cs' := exprsA [e1F, e2F]) rfl (by repeat (first | exact NilL.nil | refine NilL.slice _ ?_ | refine NilL.same _ ?_))) ?_
    refine Wk.trans (wk_data 1 12 0 (by rw [hho]; rfl) (by decide) rfl rfl rfl rfl rfl (by unfold maxLen; decide) rfl) ?_
    refine Wk.trans (wk_cell 2 12 (new := .fs 13 2 (exprsA [e1F, e2F])) rfl rfl fun G F w v hh hv => fz_fs (cs := exprsA [e1F, e2F]) (k := 0) (sz := 13) (off := 0) (n := 2) (m := 26) rfl rfl (by decide) (by unfold maxLen; decide) rfl hh hv) ?_
    refine Wk.trans (wk_data 3 8 2 (by rw [hho]; rfl) (by decide) rfl rfl rfl rfl rfl (by unfold maxLen; decide) rfl) ?_
    refine Wk.trans (wk_nils 3 (cs' := stmtA s0F) rfl (by repeat (first | exact NilL.nil | refine NilL.slice _ ?_ | refine NilL.same _ ?_))) ?_
    exact wk_eq (by simp [hE, lens]) rfl (by simp [livH, livO, AV.livL, AV.liv, wkL, wkV, List.range', slotsOf])
end Go.Proofs.YtlepkpfbejfpiaaDoor
