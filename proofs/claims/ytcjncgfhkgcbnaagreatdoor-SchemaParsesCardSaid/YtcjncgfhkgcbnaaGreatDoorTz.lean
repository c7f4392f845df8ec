import Derived.Test.YtcjncgfhkgcbnaaGreatDoorZv
import Derived.Test.YtcjncgfhkgcbnaaGreatDoorTr
import Derived.Test.YtcjncgfhkgcbnaaGreatDoorZI
namespace Go.Proofs.YtcjncgfhkgcbnaaGreatDoor
set_option linter.unusedVariables false
set_option linter.unusedSimpArgs false
open Go.RowKit Go.ChangeShapes Go.WideShapes Go.ChangeAt
attribute [local simp] isCut_nil isCut_region isCut_seq isCut_block isCut_loop isCut_cond isCut_skip isCut_exit isCut_ret isCut_range swapK putK altK condK_bool pickP_bool stepP stepO onPure_some onPure_none onImpl_some onImpl_none stepC onGP_some onGP_none onGV_some condG mkG onIt_it nextP_ptr takeP_eq takeV_some takeV_none takeU_some takeU_none takeQ takeW_some takeN_none takeN_some takeG_some takeO_some altO_some pureV binV2 eqF eqOp ovlV ovl2 rowAt capV binV intBin strBin isSh shV fldV ixV sliceV slice3V loadAV nilV lenV callV unV convV viewS cellsH loadV fldCut AV.ung AV.ungs AV.gc AV.cells AS.ev AS.put anyS gcsV gcO lens lnO gV guardV retK RetP_eq resV oneV anyRo loIx hiIx implO callP_clo evL gcsL clearV storeAV AS.push AS.setO appV appZ shortS copyV buildV partsV fillV srcV fzO okV isCell_c isCell_ptr isCell_sl isCell_fs isCell_fp isCell_clo rowZ_one rowZ_zero rowZ_2 rowZ_3 rowZ_4 rowZ_5 rowZ_6 rowZ_7 rowZ_8 rowZ_9 rowZ_10 rowZ_11 rowZ_12 noHo Value.oneCell' max2V min2V lookV updV lenM msAt afterH putBack frzFrom frzO rebO backIx nilEq_sl nilEq_fs nilOp_eql nilOp_neq AV.reb AV.rebL
attribute [local simp ↓] runK_skip runK_region runK_draw runK_seq runK_cut runK_cond runK_block runK_loop runK_exit runK_label runK_goto runK_ret runK_range contK_nil contK_seq contK_seq_ret contK_seq_exit contK_seq_goto contK_block contK_block_ret contK_block_goto contK_block_exit runO_nil runO_cons roundK_exit roundK_ret roundK_goto exitK_ret cutK_ret cutK_exit runE_done runE_nil runE_take runE_alt condG_true condG_false
set_option maxRecDepth 10000
theorem flat_u8l (l : List UInt8) : l.flatMap (fun n => [AV.c (u8 n)]) = u8av l := by
  induction l with
  | nil => rfl
  | cons b l ih => rw [List.flatMap_cons, ih]; rfl
def opnByteL : Opn Tryz.prog 27 (List UInt8) :=
  (opnSlice (opnU8 Tryz.underlying5 (by kernel_rfl)) 1 Tryz.underlying27 (by kernel_rfl) (by kernel_rfl) (by decide)).map id (fun l => [.fs 1 l.length (u8av l)]) (fun l => l.length ≤ maxLen) (fun l => by simp only [opnSlice, opnU8, id]; rw [flat_u8l]) (fun l h => h.1) fun _ => by kernel_rfl
set_option maxHeartbeats 16000000 in
theorem scparses_w (b : List UInt8) (hb : b.length ≤ maxLen) : ACalls Tryz.prog 4 [.fs 1 b.length (u8av b)] [] (fun _ => false) (fun r h' => r = .c (.bool true)) := by
  refine acalls mixed Tryz.func4 rfl Tryz.ntmps4 rfl fun E hE hst hho => ?_
  by_cases h1 : 3000 < b.length
  · have h1' : (3000 : Int) < b.length := by omega
    simp (maxSteps := 1000000) [hho, noHo, -List.reduceReplicate]
    refine call_x [] (first12_w) rfl rfl ⟨rfl, rfl⟩ hho (by simp) (by decide) (by simp) (by simp) ?_
    simp (maxSteps := 1000000) [hho, noHo, h1, h1', -List.reduceReplicate]
    exact Ret.drop (by rfl) rfl
  have h1' : ¬ (3000 : Int) < b.length := by omega
  have c1 := scParse_w b (by omega)
  have c2 := r12Parse_w b (by omega)
  have hp := parSch_prog b
  have hval := (pSch_sim 100000).val (some b, false) (fun l e => by injection e with e; subst e; show b.length ≤ 100000; omega)
  unfold schParseA at c1 c2
  cases hq : parSch b with
  | none =>
    rw [hq] at c1 c2
    have c3 := same_r12 schZ schZ (by decide) (fun t ht => by cases ht) true (by simp)
    simp (maxSteps := 1000000) [hho, noHo, -List.reduceReplicate]
    refine call_x [] (first12_w) rfl rfl ⟨rfl, rfl⟩ hho (by simp) (by decide) (by simp) (by simp) ?_
    simp (maxSteps := 1000000) [hho, noHo, h1, h1', -List.reduceReplicate]
    refine call_x [] (c1) rfl rfl ⟨rfl, rfl⟩ hho (by simp) (by decide) (by simp) (by simp) ?_
    simp (maxSteps := 1000000) [hho, noHo, schA, -List.reduceReplicate]
    refine call_x [] (c2) rfl rfl ⟨rfl, rfl⟩ hho (by simp) (by decide) (by simp) (by simp) ?_
    simp (maxSteps := 1000000) [hho, noHo, schA, -List.reduceReplicate]
    refine call_x [] (c3) rfl rfl ⟨rfl, rfl⟩ hho (by simp) (by decide) (by simp) (by simp) ?_
    simp (maxSteps := 1000000) [hho, noHo, -List.reduceReplicate]
    exact Ret.drop (by rfl) rfl
  | some s =>
    rw [hq] at c1 c2
    have hM : SchM 100000 s := by
      rcases hp with ⟨h, _⟩ | ⟨s', h, h2, _⟩
      · rw [hq] at h; cases h
      · rw [hq] at h
        injection h with h
        subst h
        rw [h2] at hval
        exact hval
    obtain ⟨hb1, hb2⟩ := schM_big hM
    have c3 := same_r12 s s hb1 (fun t ht => ⟨(hb2 t ht).cl, (hb2 t ht).il, fun x hx => ((hb2 t ht).xn x hx).2⟩) true (by simp)
    simp (maxSteps := 1000000) [hho, noHo, -List.reduceReplicate]
    refine call_x [] (first12_w) rfl rfl ⟨rfl, rfl⟩ hho (by simp) (by decide) (by simp) (by simp) ?_
    simp (maxSteps := 1000000) [hho, noHo, h1, h1', -List.reduceReplicate]
    refine call_x [] (c1) rfl rfl ⟨rfl, rfl⟩ hho (by simp) (by decide) (by simp) (by simp) ?_
    simp (maxSteps := 1000000) [hho, noHo, schA, -List.reduceReplicate]
    refine call_x [] (c2) rfl rfl ⟨rfl, rfl⟩ hho (by simp) (by decide) (by simp) (by simp) ?_
    simp (maxSteps := 1000000) [hho, noHo, schA, -List.reduceReplicate]
    refine call_x [] (c3) rfl rfl ⟨rfl, rfl⟩ hho (by simp) (by decide) (by simp) (by simp) ?_
    simp (maxSteps := 1000000) [hho, noHo, -List.reduceReplicate]
    exact Ret.drop (by rfl) rfl
end Go.Proofs.YtcjncgfhkgcbnaaGreatDoor
