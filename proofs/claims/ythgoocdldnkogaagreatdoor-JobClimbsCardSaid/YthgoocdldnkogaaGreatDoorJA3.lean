import Derived.Test.YthgoocdldnkogaaGreatDoorHJl
import Derived.Test.YthgoocdldnkogaaGreatDoorHJq
import Derived.Test.YthgoocdldnkogaaGreatDoorHJc
import Derived.Test.YthgoocdldnkogaaGreatDoorMZ
import Derived.Test.YthgoocdldnkogaaGreatDoorHZ2
import Derived.Test.YthgoocdldnkogaaGreatDoorHF2
namespace Go.Proofs.YthgoocdldnkogaaGreatDoor
set_option linter.unusedVariables false
set_option linter.unusedSimpArgs false
open Go.RowKit
attribute [local simp] isCut_nil isCut_region isCut_seq isCut_block isCut_loop isCut_cond isCut_skip isCut_exit isCut_ret isCut_range swapK putK altK condK_bool pickP_bool stepP stepO onPure_some onPure_none onImpl_some onImpl_none stepC onGP_some onGP_none onGV_some condG mkG onIt_it nextP_ptr takeP_eq takeV_some takeV_none takeU_some takeU_none takeQ takeW_some takeN_none takeN_some takeG_some takeO_some altO_some pureV binV2 eqF eqOp ovlV ovl2 rowAt capV binV intBin strBin isSh shV fldV ixV sliceV slice3V loadAV nilV lenV callV unV convV viewS cellsH loadV fldCut AV.ung AV.ungs AV.gc AV.cells AS.ev AS.put anyS gcsV gcO lens lnO gV guardV retK RetP_eq resV oneV anyRo loIx hiIx implO callP_clo evL gcsL clearV storeAV AS.push AS.setO appV appZ shortS copyV buildV partsV fillV srcV fzO okV isCell_c isCell_ptr isCell_sl isCell_fs isCell_fp isCell_clo rowZ_one rowZ_zero rowZ_2 rowZ_3 rowZ_4 rowZ_5 rowZ_6 rowZ_7 rowZ_8 rowZ_9 rowZ_10 rowZ_11 rowZ_12 noHo Value.oneCell' max2V min2V lookV updV updK updW cvals mkAt basV lenM msAt afterH putBack frzFrom frzO rebO backIx nilEq_sl nilEq_fs nilEq_ifn nilEq_ifh ifOp_eql ifOp_neq isLit nilOp_eql nilOp_neq AV.reb AV.rebL
attribute [local simp ↓] runK_skip runK_region runK_draw runK_seq runK_cut runK_cond runK_block runK_loop runK_exit runK_label runK_goto runK_ret runK_range contK_nil contK_seq contK_seq_ret contK_seq_exit contK_seq_goto contK_block contK_block_ret contK_block_goto contK_block_exit runO_nil runO_cons roundK_exit roundK_ret roundK_goto exitK_ret cutK_ret cutK_exit runE_done runE_nil runE_take runE_alt condG_true condG_false
set_option maxRecDepth 10000
theorem mvsA_of (l : List MvS) : mvsA l = movsA (l.map mvOf) := by
 induction l with
 | nil => rfl
 | cons m l ih =>
  have e1 : mvsA (m :: l) = jvC m ++ mvsA l := List.flatMap_cons ..
  have e2 : movsA ((m :: l).map mvOf) = movA (mvOf m) ++ movsA (l.map mvOf) := List.flatMap_cons ..
  rw [e1, e2, ih]; rfl
theorem jNext_main {j : JobS} {s : SchS} (hv : (jNext j s).ver = 0) (hm : (jNext j s).mv ≠ []) : j.fin = false ∧ j.kind ≠ 5 ∧ ∃ t, jTab j s = some t ∧ jNext j s = plJT j t := by
 cases hf : j.fin with
 | true => unfold jNext at hm; rw [if_pos hf] at hm; exact absurd rfl hm
 | false =>
  cases ht : jTab j s with
  | none =>
   unfold jNext at hm
   rw [if_neg (by rw [hf]; decide), ht] at hm
   simp only at hm
   split at hm <;> exact absurd rfl hm
  | some t =>
   by_cases hk : j.kind = 5
   ·unfold jNext at hm
    rw [if_neg (by rw [hf]; decide), ht] at hm
    simp only [if_pos hk] at hm
    exact absurd rfl hm
   ·exact ⟨rfl, hk, t, rfl, jNext_tab hf hk ht⟩
theorem plan_movs {j : JobS} (ho : j.Ok) (t : TabS) : (plJT j t).mv.length ≤ 2 ∧ ∀ m ∈ (plJT j t).mv.map mvOf, MovOk m := by
 obtain ⟨_, _, h1, _, _, _, h2, h3, _, _⟩ := ho
 have hp : ∀ d : Int, 0 ≤ d → d ≤ 3 → MovOk (mvOf (plMove j d)) := fun d q1 q2 => ⟨h1, h2, by unfold i64v; simp only [mvOf, plMove]; omega⟩
 have hq : ∀ d : Int, 0 ≤ d → d ≤ 3 → MovOk (mvOf ⟨j.table, false, j.other, d⟩) := fun d q1 q2 => ⟨h1, h3, by unfold i64v; simp only [mvOf]; omega⟩
 have a0 := hp 0 (by decide) (by decide)
 have a1 := hp 1 (by decide) (by decide)
 have a2 := hp 2 (by decide) (by decide)
 have a3 := hp 3 (by decide) (by decide)
 have b0 := hq 0 (by decide) (by decide)
 have b1 := hq 1 (by decide) (by decide)
 have b2 := hq 2 (by decide) (by decide)
 unfold plJT
 split
 ·rw [plDown_eq]
  unfold plPart
  repeat' split
  all_goals simp [nx3, a0, a1, a2]
 ·rw [plUp_eq, plOther_eq]
  unfold plPart
  repeat' split
  all_goals simp [nx3, a0, a1, a2, a3, b0, b1, b2]
theorem jfit_dec2 (j : JobS) : ∃ R : Bool, R = true ↔ JobFit j := ⟨@decide (JobFit j) (Classical.propDecidable _), by simp⟩
theorem sok_small {s : SchS} (h : schOk s = true) : s.tabs.length ≤ 1000000 ∧ ∀ t ∈ s.tabs, t.cols.length ≤ 1000000 ∧ t.idxs.length ≤ 1000000 := by
 have hs := (schOk_iff s).1 h
 exact ⟨by have := hs.len; omega, fun t ht => by have h := hs.tabs t ht; exact ⟨by have := h.lc; omega, by have := h.lx; omega⟩⟩
end Go.Proofs.YthgoocdldnkogaaGreatDoor
