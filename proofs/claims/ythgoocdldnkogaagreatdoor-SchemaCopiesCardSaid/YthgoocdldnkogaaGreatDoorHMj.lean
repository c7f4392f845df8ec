import Derived.Test.YthgoocdldnkogaaGreatDoorHMe
import Derived.Test.YthgoocdldnkogaaGreatDoorHDx
namespace Go.Proofs.YthgoocdldnkogaaGreatDoor
set_option linter.unusedVariables false
set_option linter.unusedSimpArgs false
open Go.RowKit
attribute [local simp] isCut_nil isCut_region isCut_seq isCut_block isCut_loop isCut_cond isCut_skip isCut_exit isCut_ret isCut_range swapK putK altK condK_bool pickP_bool stepP stepO onPure_some onPure_none onImpl_some onImpl_none stepC onGP_some onGP_none onGV_some condG mkG onIt_it nextP_ptr takeP_eq takeV_some takeV_none takeU_some takeU_none takeQ takeW_some takeN_none takeN_some takeG_some takeO_some altO_some pureV binV2 eqF eqOp ovlV ovl2 rowAt capV binV intBin strBin isSh shV fldV ixV sliceV slice3V loadAV nilV lenV callV unV convV viewS cellsH loadV fldCut AV.ung AV.ungs AV.gc AV.cells AS.ev AS.put anyS gcsV gcO lens lnO gV guardV retK RetP_eq resV oneV anyRo loIx hiIx implO callP_clo evL gcsL clearV storeAV AS.push AS.setO appV appZ shortS copyV buildV partsV fillV srcV fzO okV isCell_c isCell_ptr isCell_sl isCell_fs isCell_fp isCell_clo rowZ_one rowZ_zero rowZ_2 rowZ_3 rowZ_4 rowZ_5 rowZ_6 rowZ_7 rowZ_8 rowZ_9 rowZ_10 rowZ_11 rowZ_12 noHo Value.oneCell' max2V min2V lookV updV updK updW cvals mkAt basV lenM msAt afterH putBack frzFrom frzO rebO backIx nilEq_sl nilEq_fs nilEq_ifn nilEq_ifh ifOp_eql ifOp_neq isLit nilOp_eql nilOp_neq AV.reb AV.rebL
attribute [local simp ↓] runK_skip runK_region runK_draw runK_seq runK_cut runK_cond runK_block runK_loop runK_exit runK_label runK_goto runK_ret runK_range contK_nil contK_seq contK_seq_ret contK_seq_exit contK_seq_goto contK_block contK_block_ret contK_block_goto contK_block_exit runO_nil runO_cons roundK_exit roundK_ret roundK_goto exitK_ret cutK_ret cutK_exit runE_done runE_nil runE_take runE_alt condG_true condG_false
set_option maxRecDepth 10000
theorem colA_st (l : List ColS) (i : Nat) (hi : i < l.length) : (colsA l)[i * 10 + 9]? = some (.c (.int .i64 l[i].st)) := by
 have h := colsA_at l i hi
 have : (List.take 10 (List.drop (i * 10) (colsA l)))[9]? = (colsA l)[i * 10 + 9]? := by rw [List.getElem?_take_of_lt (by omega), List.getElem?_drop]
 rw [← this, h]; rfl
theorem colA_setst (l : List ColS) (i : Nat) (hi : i < l.length) (d : Int) : (colsA l).set (i * 10 + 9) (.c (.int .i64 d)) = colsA (l.set i { l[i] with st := d }) := by
 rw [← colsA_set l i hi, List.set_eq_take_append_cons_drop, if_pos (by simp; omega)]
 have e1 : List.take (i * 10 + 9) (colsA l) = List.take (i * 10) (colsA l) ++ (colA l[i]).take 9 := by
  rw [List.take_add, show List.take 9 (List.drop (i * 10) (colsA l)) = List.take 9 (List.take 10 (List.drop (i * 10) (colsA l))) by rw [List.take_take]; rfl, colsA_at l i hi]
 rw [e1, List.append_assoc, show i * 10 + 9 + 1 = i * 10 + 10 by omega]
 rfl
@[simp] theorem zCol_s : (∀ a ∈ zCol, isD a = true) ↔ True := iff_true_intro zCol_all
@[simp] theorem zIdx_s : (∀ a ∈ zIdx, isD a = true) ↔ True := iff_true_intro zIdx_all

@[simp] theorem schA_reb (f : Nat → Nat) (s : SchS) : AV.rebL f (schA s) = schA s := rebL_isD' (by simp [schA, isD])
@[simp] theorem schA_cell (s : SchS) : (∀ a ∈ schA s, isCell a = true) ↔ True := iff_true_intro <| by simp [schA, isCell_c, isCell_fs, Value.oneCell']
@[simp] theorem schA_all (s : SchS) : (∀ a ∈ schA s, isD a = true) ↔ True := iff_true_intro <| by simp [schA, isD]
end Go.Proofs.YthgoocdldnkogaaGreatDoor
