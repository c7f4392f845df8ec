import Derived.Test.YthgoocdldnkogaaGreatDoorCv
import Derived.Test.YthgoocdldnkogaaGreatDoorHR2
import Derived.Test.YthgoocdldnkogaaGreatDoorHU
import Derived.Test.YthgoocdldnkogaaGreatDoorHJa
import Derived.Test.YthgoocdldnkogaaGreatDoorHRv
import Derived.Test.YthgoocdldnkogaaGreatDoorFp
import Derived.Test.YthgoocdldnkogaaGreatDoorH6
import Derived.Test.YthgoocdldnkogaaGreatDoorHJn
import Derived.Test.YthgoocdldnkogaaGreatDoorHJc
namespace Go.Proofs.YthgoocdldnkogaaGreatDoor
set_option linter.unusedVariables false
set_option linter.unusedSimpArgs false
open Go.RowKit
def rdCells : Option (List UInt8) → List AV
 | some l => [.fs 1 l.length (u8av l), .c (.bool false)]
 | none => [.c (.slice none 0 0), .c (.bool true)]
theorem rdS_cells (s : Option (List UInt8)) : rdS s = [.o .box (rdCells s)] := by cases s <;> rfl
@[simp] theorem rdCells_length (s : Option (List UInt8)) : (rdCells s).length = 2 := by cases s <;> rfl
theorem rdCells_isD (s : Option (List UInt8)) : (rdCells s).all isD = true := by cases s <;> rfl
@[simp] theorem rdCells_reb (β : Nat → Nat) (s : Option (List UInt8)) : AV.rebL β (rdCells s) = rdCells s := rebL_isD (rdCells_isD s)
def rdP (s : Option (List UInt8)) : Prop := Classical.choose (conv_isD (rdCells_isD s))
theorem rdP_ok (s : Option (List UInt8)) : rdP s := (Classical.choose_spec (conv_isD (rdCells_isD s))).1
theorem rd_cv (s : Option (List UInt8)) : ∀ ρ ok h, AV.convL ρ ok h (rdCells s) = some (rdP s, rdCells s) := (Classical.choose_spec (conv_isD (rdCells_isD s))).2
theorem rd_ho {h : List AObj} {i : Nat} {s : Option (List UInt8)} (hi : h[i]? = some (.o .box (rdCells s))) : convOs [i] (fun _ => false) h [i] = some (rdP s ∧ True, [.o .box (rdCells s)]) := convOs_box hi (rd_cv s)
abbrev Big (s : Option (List UInt8)) : Prop := ∀ l, s = some l → l.length ≤ 1000000000
theorem number_b (s : Option (List UInt8)) (hs : Big s) : ACalls Tryz.prog 101 [.ptr 0 0 2] [.o .box (rdCells s)] (fun k => decide (k < 1)) (fun r h' => r = .c (.int .i64 (rnumS s).1) ∧ h' = [.o .box (rdCells (rnumS s).2)]) := by
 have := number_r s hs
 rw [rdS_cells, rdS_cells] at this; exact this
theorem count_b (s : Option (List UInt8)) (hs : Big s) (most : Int) : ACalls Tryz.prog 115 [.ptr 0 0 2, .c (.int .i64 most)] [.o .box (rdCells s)] (fun k => decide (k < 1)) (fun r h' => r = .c (.int .i64 (rcountS s most).1) ∧ h' = [.o .box (rdCells (rcountS s most).2)]) := by
 have := count_r s hs most
 rw [rdS_cells, rdS_cells] at this; exact this
theorem flag_b (s : Option (List UInt8)) (hs : Big s) : ACalls Tryz.prog 117 [.ptr 0 0 2] [.o .box (rdCells s)] (fun k => decide (k < 1)) (fun r h' => r = .c (.bool (rflagS s).1) ∧ h' = [.o .box (rdCells (rflagS s).2)]) := by
 have := flag_r s hs
 rw [rdS_cells, rdS_cells] at this; exact this
theorem text_b (s : Option (List UInt8)) (hs : Big s) : ACalls Tryz.prog 114 [.ptr 0 0 2] [.o .box (rdCells s)] (fun k => decide (k < 1)) (fun r h' => r = .c (.string (str (rtextS s).1)) ∧ h' = [.o .box (rdCells (rtextS s).2)]) := by
 have := text_r s hs
 rw [rdS_cells, rdS_cells] at this; exact this
theorem end_b (s : Option (List UInt8)) : ACalls Tryz.prog 104 [.ptr 0 0 2] [.o .box (rdCells s)] (fun k => decide (k < 1)) (fun r h' => r = .c (.bool (decide (s = some []))) ∧ h' = [.o .box (rdCells s)]) := by
 have := end_r s
 rw [rdS_cells] at this; exact this
theorem read_b (l : List UInt8) (hl : l.length ≤ 1000000000) : ACalls Tryz.prog 100 [.fs 1 l.length (u8av l)] [] (fun _ => false) (fun r h' => r = .ptr 0 0 2 ∧ h' = [.o .box (rdCells (some l))]) := by
 have := read_r l hl
 rw [rdS_cells] at this; exact this
end Go.Proofs.YthgoocdldnkogaaGreatDoor
namespace Go.Proofs.YthgoocdldnkogaaGreatDoor
set_option linter.unusedVariables false
set_option linter.unusedSimpArgs false
open Go.RowKit
attribute [local simp] isCut_nil isCut_region isCut_seq isCut_block isCut_loop isCut_cond isCut_skip isCut_exit isCut_ret isCut_range swapK putK altK condK_bool pickP_bool stepP stepO onPure_some onPure_none onImpl_some onImpl_none stepC onGP_some onGP_none onGV_some condG mkG onIt_it nextP_ptr takeP_eq takeV_some takeV_none takeU_some takeU_none takeQ takeW_some takeN_none takeN_some takeG_some takeO_some altO_some pureV binV2 eqF eqOp ovlV ovl2 rowAt capV binV intBin strBin isSh shV fldV ixV sliceV slice3V loadAV nilV lenV callV unV convV viewS cellsH loadV fldCut AV.ung AV.ungs AV.gc AV.cells AS.ev AS.put anyS gcsV gcO lens lnO gV guardV retK RetP_eq resV oneV anyRo loIx hiIx implO callP_clo evL gcsL clearV storeAV AS.push AS.setO appV appZ shortS copyV buildV partsV fillV srcV fzO okV isCell_c isCell_ptr isCell_sl isCell_fs isCell_fp isCell_clo rowZ_one rowZ_zero rowZ_2 rowZ_3 rowZ_4 rowZ_5 rowZ_6 rowZ_7 rowZ_8 rowZ_9 rowZ_10 rowZ_11 rowZ_12 noHo Value.oneCell' max2V min2V lookV updV updK updW cvals mkAt basV lenM msAt afterH putBack frzFrom frzO rebO backIx nilEq_sl nilEq_fs nilEq_ifn nilEq_ifh ifOp_eql ifOp_neq isLit nilOp_eql nilOp_neq AV.reb AV.rebL
attribute [local simp ↓] runK_skip runK_region runK_draw runK_seq runK_cut runK_cond runK_block runK_loop runK_exit runK_label runK_goto runK_ret runK_range contK_nil contK_seq contK_seq_ret contK_seq_exit contK_seq_goto contK_block contK_block_ret contK_block_goto contK_block_exit runO_nil runO_cons roundK_exit roundK_ret roundK_goto exitK_ret cutK_ret cutK_exit runE_done runE_nil runE_take runE_alt condG_true condG_false
set_option maxRecDepth 10000

def nilJ : AV := .c (.slice none 0 0)
theorem Ret.nilJ {st : Nat → Bool} {h : List AObj} {l l' : List AV} {u : AV} {Post : AV → List AObj → Prop} (hn : NilL l l') (hr : Ret st Post h (.tup [.agg l', u])) : Ret st Post h (.tup [.agg l, u]) := by
 refine Ret.wk (fun E hE => ?_) hr
 refine wk_slot 0 (old := .tup [.agg l, u]) rfl fun G F w v _ hv => ?_
 obtain ⟨cs, rfl, h1, h2⟩ := tup_inv hv
 refine .tup _ cs h1 fun j u' x hu hx => ?_
 match j, hu with
 | 0, hu => simp at hu; subst hu; exact nil_agg hn (h2 0 _ x rfl hx)
 | 1, hu => simp at hu; subst hu; exact h2 1 _ x rfl hx
@[simp] theorem rdCells_livJ (l : List Nat) (s : Option Bs) : AV.livL l (rdCells s) = true := by cases s <;> simp [rdCells, AV.livL, AV.liv]
end Go.Proofs.YthgoocdldnkogaaGreatDoor
