import Derived.Test.YthgoocdldnkogaaGreatDoorHS
import Derived.Test.YthgoocdldnkogaaGreatDoorHR5
import Derived.Test.YthgoocdldnkogaaGreatDoorHR4
import Derived.Test.YthgoocdldnkogaaGreatDoorHRh
import Derived.Test.YthgoocdldnkogaaGreatDoorHU
import Derived.Test.YthgoocdldnkogaaGreatDoorHZ1
import Derived.Test.YthgoocdldnkogaaGreatDoorHJa
namespace Go.Proofs.YthgoocdldnkogaaGreatDoor
set_option linter.unusedVariables false
set_option linter.unusedSimpArgs false
open Go.RowKit
attribute [local simp] isCut_nil isCut_region isCut_seq isCut_block isCut_loop isCut_cond isCut_skip isCut_exit isCut_ret isCut_range swapK putK altK condK_bool pickP_bool stepP stepO onPure_some onPure_none onImpl_some onImpl_none stepC onGP_some onGP_none onGV_some condG mkG onIt_it nextP_ptr takeP_eq takeV_some takeV_none takeU_some takeU_none takeQ takeW_some takeN_none takeN_some takeG_some takeO_some altO_some pureV binV2 eqF eqOp ovlV ovl2 rowAt capV binV intBin strBin isSh shV fldV ixV sliceV slice3V loadAV nilV lenV callV unV convV viewS cellsH loadV fldCut AV.ung AV.ungs AV.gc AV.cells AS.ev AS.put anyS gcsV gcO lens lnO gV guardV retK RetP_eq resV oneV anyRo loIx hiIx implO callP_clo evL gcsL clearV storeAV AS.push AS.setO appV appZ shortS copyV buildV partsV fillV srcV fzO okV isCell_c isCell_ptr isCell_sl isCell_fs isCell_fp isCell_clo rowZ_one rowZ_zero rowZ_2 rowZ_3 rowZ_4 rowZ_5 rowZ_6 rowZ_7 rowZ_8 rowZ_9 rowZ_10 rowZ_11 rowZ_12 noHo Value.oneCell' max2V min2V lookV updV updK updW cvals mkAt basV lenM msAt afterH putBack frzFrom frzO rebO backIx nilEq_sl nilEq_fs nilEq_ifn nilEq_ifh ifOp_eql ifOp_neq isLit nilOp_eql nilOp_neq AV.reb AV.rebL
attribute [local simp ↓] runK_skip runK_region runK_draw runK_seq runK_cut runK_cond runK_block runK_loop runK_exit runK_label runK_goto runK_ret runK_range contK_nil contK_seq contK_seq_ret contK_seq_exit contK_seq_goto contK_block contK_block_ret contK_block_goto contK_block_exit runO_nil runO_cons roundK_exit roundK_ret roundK_goto exitK_ret cutK_ret cutK_exit runE_done runE_nil runE_take runE_alt condG_true condG_false
set_option maxRecDepth 10000
def wrK (k : Nat) (b : Bs) : List AObj := [.o .box [.sl k 1 0 b.length b.length], .o (.row 5 1) (u8av b)]
theorem setR_dft {v : ValS} (hv : valOk v = true) : setR [] 0 v = dftR v := by
 unfold setR dftR goS putOk
 by_cases h : v.k = 0 <;> simp [h, hv]
theorem dftR_ok {v : ValS} (hv : valOk v = true) : okR (-1) (dftR v) = true := by
 unfold dftR
 by_cases h : v.k = 0
 ·simp [h, okR]
 ·simp [h, okR, hv]
theorem dftR_len (v : ValS) : (dftR v).length ≤ 1 := by unfold dftR; split <;> simp
theorem dftR_mem {v : ValS} {c : CellS} (hc : c ∈ dftR v) : c = ⟨0, v⟩ := by
 unfold dftR at hc
 split at hc
 ·cases hc
 ·exact List.mem_singleton.1 hc
theorem put_dft (v : ValS) (hv : valOk v = true) (ho : v.Ok) : ACalls Tryz.prog 112 [.fs 5 (dftR v).length (cellsA (dftR v))] [] (fun _ => false) (fun r h' => r = .tup [.fs 1 (rowB (dftR v)).length (u8av (rowB (dftR v))), .c (.int .i64 0)] ∧ h' = []) := by
 have hl := dftR_len v
 have hs := valOk_size hv
 have h := put_row (dftR v) (by omega) (fun c hc => by rw [dftR_mem hc]; exact ⟨cell0_i, ho⟩) (fun c hc => by rw [dftR_mem hc]; show v.t.size ≤ _; omega)
 unfold rowPutA at h
 rw [if_pos (dftR_ok hv)] at h
 exact h
theorem set_dft (v : ValS) (hv : valOk v = true) : ACalls Tryz.prog 113 [.fs 5 0 [], .c (.int .i64 0), .agg (valA v)] [] (fun _ => false) (fun r h' => r = .fs 5 (dftR v).length (cellsA (dftR v)) ∧ h' = []) := by
 have hs := valOk_size hv
 have h := set_row [] (by simp) rfl 0 v (by omega)
 rw [setR_dft hv] at h
 exact h
theorem flagI_len2 (x : Bool) : (num (flagI x)).length ≤ 9 := num_len (flagI x) (by unfold flagI; split <;> omega) (by unfold flagI; split <;> omega)
@[simp] theorem wrO_len (b : Bs) : (wrO b).length = 2 := rfl
theorem flag_w2 (b : Bs) (hb : b.length ≤ 100000000000) (x : Bool) : ACalls Tryz.prog 111 [.ptr 0 0 1, .c (.bool x)] (wrO b) (fun k => decide (k < 2)) (fun r h' => r = .tup [] ∧ h' = wrO (b ++ num (flagI x))) := flag_w b hb x

section
variable {P : Program} {E : Env} {s : AS}
end
end Go.Proofs.YthgoocdldnkogaaGreatDoor
