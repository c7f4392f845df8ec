import Derived.Test.YtcjncgfhkgcbnaaDoorJf
import Derived.Test.YtcjncgfhkgcbnaaDoorJt
import Derived.Test.YtcjncgfhkgcbnaaDoorJw
import Derived.Test.YtcjncgfhkgcbnaaDoorJv
namespace Go.Proofs.YtcjncgfhkgcbnaaDoor
set_option linter.unusedVariables false
set_option linter.unusedSimpArgs false
open Go.RowKit Go.ChangeShapes Go.WideShapes Go.ChangeAt
attribute [local simp] isCut_nil isCut_region isCut_seq isCut_block isCut_loop isCut_cond isCut_skip isCut_exit isCut_ret isCut_range swapK putK altK condK_bool pickP_bool stepP stepO onPure_some onPure_none onImpl_some onImpl_none stepC onGP_some onGP_none onGV_some condG mkG onIt_it nextP_ptr takeP_eq takeV_some takeV_none takeU_some takeU_none takeQ takeW_some takeN_none takeN_some takeG_some takeO_some altO_some pureV binV2 eqF eqOp ovlV ovl2 rowAt capV binV intBin strBin isSh shV fldV ixV sliceV slice3V loadAV nilV lenV callV unV convV viewS cellsH loadV fldCut AV.ung AV.ungs AV.gc AV.cells AS.ev AS.put anyS gcsV gcO lens lnO gV guardV retK RetP_eq resV oneV anyRo loIx hiIx implO callP_clo evL gcsL clearV storeAV AS.push AS.setO appV appZ shortS copyV buildV partsV fillV srcV fzO okV isCell_c isCell_ptr isCell_sl isCell_fs isCell_fp isCell_clo rowZ_one rowZ_zero rowZ_2 rowZ_3 rowZ_4 rowZ_5 rowZ_6 rowZ_7 rowZ_8 rowZ_9 rowZ_10 rowZ_11 rowZ_12 noHo Value.oneCell' max2V min2V lookV updV lenM msAt afterH putBack frzFrom frzO rebO backIx nilEq_sl nilEq_fs nilOp_eql nilOp_neq AV.reb AV.rebL
attribute [local simp ↓] runK_skip runK_region runK_draw runK_seq runK_cut runK_cond runK_block runK_loop runK_exit runK_label runK_goto runK_ret runK_range contK_nil contK_seq contK_seq_ret contK_seq_exit contK_seq_goto contK_block contK_block_ret contK_block_goto contK_block_exit runO_nil runO_cons roundK_exit roundK_ret roundK_goto exitK_ret cutK_ret cutK_exit runE_done runE_nil runE_take runE_alt condG_true condG_false
set_option maxRecDepth 10000
theorem flat_u8l (l : List UInt8) : l.flatMap (fun n => [AV.c (u8 n)]) = u8av l := by
  induction l with
  | nil => rfl
  | cons b l ih => rw [List.flatMap_cons, ih]; rfl
def opnByteL : Opn Tryd.prog 33 (List UInt8) :=
  (opnSlice (opnU8 Tryd.underlying5 (by kernel_rfl)) 1 Tryd.underlying33 (by kernel_rfl) (by kernel_rfl) (by decide)).map id (fun l => [.fs 1 l.length (u8av l)]) (fun l => l.length ≤ maxLen) (fun l => by simp only [opnSlice, opnU8, id]; rw [flat_u8l]) (fun l h => h.1) fun _ => by kernel_rfl
theorem jobZ_ok : jobOk jobZ = true := by decide +kernel
theorem jobZ_Ok : jobZ.Ok := ⟨⟨by decide, by decide⟩, ⟨by decide, by decide⟩, ⟨by decide, by decide⟩, by decide, fun c hc => (by cases hc), ⟨⟨by decide, by decide⟩, by decide, fun k hk => (by cases hk), ⟨by decide, by decide⟩⟩, ⟨by decide, by decide⟩, ⟨by decide, by decide⟩, by decide, ⟨by decide, by decide⟩⟩
set_option maxHeartbeats 16000000 in
theorem jparses_w (b : List UInt8) (hb : b.length ≤ maxLen) : ACalls Tryd.prog 4 [.fs 1 b.length (u8av b)] [] (fun _ => false) (fun r h' => r = .c (.bool true)) := by
  refine acalls mixed Tryd.func4 rfl Tryd.ntmps4 rfl fun E hE hst hho => ?_
  by_cases h1 : 2000 < b.length
  · have h1' : (2000 : Int) < b.length := by omega
    simp (maxSteps := 1000000) [hho, noHo, -List.reduceReplicate]
    refine call_x [] (first16_w) rfl rfl ⟨rfl, rfl⟩ hho (by simp) (by decide) (by simp) (by simp) ?_
    simp (maxSteps := 1000000) [hho, noHo, h1, h1', -List.reduceReplicate]
    exact Ret.drop (by rfl) rfl
  have h1' : ¬ (2000 : Int) < b.length := by omega
  have c1 := jbParse_w b (by omega)
  have c2 := r16Parse_w b (by omega)
  obtain ⟨x, J, hx, hJ, hO, hN⟩ : ∃ (x : Bool) (J : JobS), jobParseA b = AV.tup [.agg (jobA J), .c (.bool x)] ∧ jobOk J = true ∧ J.Ok ∧ J.name.size ≤ 100000 := by
    unfold jobParseA
    cases hq : parJob b with
    | none => exact ⟨false, jobZ, rfl, jobZ_ok, jobZ_Ok, by decide⟩
    | some j =>
      obtain ⟨o1, o2, o3⟩ := parJob_ok (by omega) hq
      exact ⟨true, j, rfl, o1, o2, o3⟩
  rw [hx] at c1 c2
  have c3 := r16Put_w J hJ hN hO
  obtain ⟨B, hB⟩ : ∃ B, B = jobB J := ⟨_, rfl⟩
  rw [← hB] at c3
  simp (maxSteps := 1000000) [hho, noHo, -List.reduceReplicate]
  refine call_x [] (first16_w) rfl rfl ⟨rfl, rfl⟩ hho (by simp) (by decide) (by simp) (by simp) ?_
  simp (maxSteps := 1000000) [hho, noHo, h1, h1', -List.reduceReplicate]
  refine call_x [] (c1) rfl rfl ⟨rfl, rfl⟩ hho (by simp) (by decide) (by simp) (by simp) ?_
  simp (maxSteps := 1000000) [hho, noHo, jobA, -List.reduceReplicate]
  refine call_x [] (c2) rfl rfl ⟨rfl, rfl⟩ hho (by simp) (by decide) (by simp) (by simp) ?_
  simp (maxSteps := 1000000) [hho, noHo, jobA, -List.reduceReplicate]
  refine draw_k hho (.take 0 (.take 1 (.take 2 (.take 3 (.take 4 (.take 6 (.alt 5 (.alt 7 (.take 8 (.take 9 (.take 10 (.done)))) (.nil)) (.nil)))))))) [0, 1] [] (by decide +kernel) (by simp) ?_
  simp (maxSteps := 1000000) [hho, noHo, roOf, holdOf, wrOf, altK, heldOk, Region.binds, -List.reduceReplicate]
  intros
  refine call_h [] (c3) rfl rfl ⟨rfl, rfl⟩ (by simp) (by simp) (by decide) (by simp) (by simp) ?_
  simp (maxSteps := 1000000) [hho, noHo, roOf, holdOf, wrOf, altK, heldOk, Region.binds, -List.reduceReplicate]
  intros
  refine call_h [] (c3) rfl rfl ⟨rfl, rfl⟩ (by simp) (by simp) (by decide) (by simp) (by simp) ?_
  simp (maxSteps := 1000000) [hho, noHo, roOf, holdOf, wrOf, altK, heldOk, Region.binds, -List.reduceReplicate]
  intros
  exact Ret.drop (by rfl) rfl
end Go.Proofs.YtcjncgfhkgcbnaaDoor
