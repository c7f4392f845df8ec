import Derived.Test.YtcjncgfhkgcbnaaDoorHS
import Derived.Test.YtcjncgfhkgcbnaaDoorRb
import Derived.Test.YtcjncgfhkgcbnaaDoorHRv
import Derived.Test.YtcjncgfhkgcbnaaDoorFp
import Derived.Test.YtcjncgfhkgcbnaaDoorHRh
import Derived.Test.YtcjncgfhkgcbnaaDoorH6
import Derived.Test.YtcjncgfhkgcbnaaDoorHZ1
namespace Go.Proofs.YtcjncgfhkgcbnaaDoor
set_option linter.unusedVariables false
set_option linter.unusedSimpArgs false
open Go.RowKit
attribute [local simp] isCut_nil isCut_region isCut_seq isCut_block isCut_loop isCut_cond isCut_skip isCut_exit isCut_ret isCut_range swapK putK altK condK_bool pickP_bool stepP stepO onPure_some onPure_none onImpl_some onImpl_none stepC onGP_some onGP_none onGV_some condG mkG onIt_it nextP_ptr takeP_eq takeV_some takeV_none takeU_some takeU_none takeQ takeW_some takeN_none takeN_some takeG_some takeO_some altO_some pureV binV2 eqF eqOp ovlV ovl2 rowAt capV binV intBin strBin isSh shV fldV ixV sliceV slice3V loadAV nilV lenV callV unV convV viewS cellsH loadV fldCut AV.ung AV.ungs AV.gc AV.cells AS.ev AS.put anyS gcsV gcO lens lnO gV guardV retK RetP_eq resV oneV anyRo loIx hiIx implO callP_clo evL gcsL clearV storeAV AS.push AS.setO appV appZ shortS copyV buildV partsV fillV srcV fzO okV isCell_c isCell_ptr isCell_sl isCell_fs isCell_fp isCell_clo rowZ_one rowZ_zero rowZ_2 rowZ_3 rowZ_4 rowZ_5 rowZ_6 rowZ_7 rowZ_8 rowZ_9 rowZ_10 rowZ_11 rowZ_12 noHo Value.oneCell' max2V min2V lookV updV lenM msAt afterH putBack frzFrom frzO rebO backIx nilEq_sl nilEq_fs nilOp_eql nilOp_neq AV.reb AV.rebL
attribute [local simp ↓] runK_skip runK_region runK_draw runK_seq runK_cut runK_cond runK_block runK_loop runK_exit runK_label runK_goto runK_ret runK_range contK_nil contK_seq contK_seq_ret contK_seq_exit contK_seq_goto contK_block contK_block_ret contK_block_goto contK_block_exit runO_nil runO_cons roundK_exit roundK_ret roundK_goto exitK_ret cutK_ret cutK_exit runE_done runE_nil runE_take runE_alt condG_true condG_false
set_option maxRecDepth 10000
def rrO (t : PSt) : List AObj := [.o .box [.ptr 1 0 2, .c (.bool t.2)], .o .box (rdCells t.1)]
@[simp] theorem rdCells_liv (l : List Nat) (s : Option Bs) : AV.livL l (rdCells s) = true := by cases s <;> simp [rdCells, AV.livL, AV.liv]
@[simp] theorem rrO_len (t : PSt) : (rrO t).length = 2 := rfl
def colZ : ColS := ⟨0, ByteArray.empty, ⟨0, 0⟩, false, vZ, 0⟩
abbrev PBig (t : PSt) : Prop := ∀ l, t.1 = some l → l.length ≤ 100000
def badL : List CellS → Bool
  | [] => false
  | [c] => decide (c.col ≠ 0)
  | _ => true
theorem badOf_some {b : Bs} {l : List CellS} (h : parseS b = some l) : badOf b = badL l := by
  unfold badOf badL; rw [h]; rcases l with _ | ⟨a, _ | ⟨c, l⟩⟩ <;> rfl
theorem cellsOf_some {b : Bs} {l : List CellS} (h : parseS b = some l) : cellsOf b = l := by unfold cellsOf; rw [h]; rfl
theorem cellsOf_none {b : Bs} (h : parseS b = none) : cellsOf b = [] := by unfold cellsOf; rw [h]; rfl
end Go.Proofs.YtcjncgfhkgcbnaaDoor
namespace Go.Proofs.YtcjncgfhkgcbnaaDoor
set_option linter.unusedVariables false
set_option linter.unusedSimpArgs false
open Go.RowKit
attribute [local simp] isCut_nil isCut_region isCut_seq isCut_block isCut_loop isCut_cond isCut_skip isCut_exit isCut_ret isCut_range swapK putK altK condK_bool pickP_bool stepP stepO onPure_some onPure_none onImpl_some onImpl_none stepC onGP_some onGP_none onGV_some condG mkG onIt_it nextP_ptr takeP_eq takeV_some takeV_none takeU_some takeU_none takeQ takeW_some takeN_none takeN_some takeG_some takeO_some altO_some pureV binV2 eqF eqOp ovlV ovl2 rowAt capV binV intBin strBin isSh shV fldV ixV sliceV slice3V loadAV nilV lenV callV unV convV viewS cellsH loadV fldCut AV.ung AV.ungs AV.gc AV.cells AS.ev AS.put anyS gcsV gcO lens lnO gV guardV retK RetP_eq resV oneV anyRo loIx hiIx implO callP_clo evL gcsL clearV storeAV AS.push AS.setO appV appZ shortS copyV buildV partsV fillV srcV fzO okV isCell_c isCell_ptr isCell_sl isCell_fs isCell_fp isCell_clo rowZ_one rowZ_zero rowZ_2 rowZ_3 rowZ_4 rowZ_5 rowZ_6 rowZ_7 rowZ_8 rowZ_9 rowZ_10 rowZ_11 rowZ_12 noHo Value.oneCell' max2V min2V lookV updV lenM msAt afterH putBack frzFrom frzO rebO backIx nilEq_sl nilEq_fs nilOp_eql nilOp_neq AV.reb AV.rebL
attribute [local simp ↓] runK_skip runK_region runK_draw runK_seq runK_cut runK_cond runK_block runK_loop runK_exit runK_label runK_goto runK_ret runK_range contK_nil contK_seq contK_seq_ret contK_seq_exit contK_seq_goto contK_block contK_block_ret contK_block_goto contK_block_exit runO_nil runO_cons roundK_exit roundK_ret roundK_goto exitK_ret cutK_ret cutK_exit runE_done runE_nil runE_take runE_alt condG_true condG_false
set_option maxRecDepth 10000
theorem ACalls.told {P : Program} {f : FuncId} {args : List AV} {h h1 : List AObj} {st : Nat → Bool} {r1 r2 : AV} (hc : ACalls P f args h st (fun r h' => r = r1 ∧ h' = h1))
    (hw : ∀ G F w x, RepV G (lens h1) F w r1 x → RepV G (lens h1) F w r2 x) : ACalls P f args h st (fun r h' => r = r2 ∧ h' = h1) := by
  intro G F w vs hh hf hr
  refine (hc G F w vs hh hf hr).mono fun e w' ⟨x, r, h', G', F', e1, e2, e3, e4, e5, e6⟩ => ?_
  subst e5 e6
  exact ⟨x, r2, h', G', F', e1, e2, hw _ _ _ _ e3, e4, rfl, rfl⟩
theorem nil2_rep (sz : Nat) {b : Value} {G : Gh} {F : Nat → Prop} {w : World} {ln : List Nat} {v : Value} (hv : RepV G ln F w (.tup [.c (.slice none 0 0), .c b]) v) : RepV G ln F w (.tup [.fs sz 0 [], .c b]) v := by
  obtain ⟨cs, rfl, h1, h2⟩ := tup_inv hv
  refine .tup _ cs h1 fun j u x hu hx => ?_
  match j, hu with
  | 0, hu => simp at hu; subst hu; exact nil_fs0 sz (h2 0 _ x rfl hx)
  | 1, hu => simp at hu; subst hu; exact h2 1 _ x rfl hx
end Go.Proofs.YtcjncgfhkgcbnaaDoor
namespace Go.Proofs.YtcjncgfhkgcbnaaDoor
set_option linter.unusedVariables false
set_option linter.unusedSimpArgs false
open Go.RowKit
attribute [local simp] isCut_nil isCut_region isCut_seq isCut_block isCut_loop isCut_cond isCut_skip isCut_exit isCut_ret isCut_range swapK putK altK condK_bool pickP_bool stepP stepO onPure_some onPure_none onImpl_some onImpl_none stepC onGP_some onGP_none onGV_some condG mkG onIt_it nextP_ptr takeP_eq takeV_some takeV_none takeU_some takeU_none takeQ takeW_some takeN_none takeN_some takeG_some takeO_some altO_some pureV binV2 eqF eqOp ovlV ovl2 rowAt capV binV intBin strBin isSh shV fldV ixV sliceV slice3V loadAV nilV lenV callV unV convV viewS cellsH loadV fldCut AV.ung AV.ungs AV.gc AV.cells AS.ev AS.put anyS gcsV gcO lens lnO gV guardV retK RetP_eq resV oneV anyRo loIx hiIx implO callP_clo evL gcsL clearV storeAV AS.push AS.setO appV appZ shortS copyV buildV partsV fillV srcV fzO okV isCell_c isCell_ptr isCell_sl isCell_fs isCell_fp isCell_clo rowZ_one rowZ_zero rowZ_2 rowZ_3 rowZ_4 rowZ_5 rowZ_6 rowZ_7 rowZ_8 rowZ_9 rowZ_10 rowZ_11 rowZ_12 noHo Value.oneCell' max2V min2V lookV updV lenM msAt afterH putBack frzFrom frzO rebO backIx nilEq_sl nilEq_fs nilOp_eql nilOp_neq AV.reb AV.rebL
attribute [local simp ↓] runK_skip runK_region runK_draw runK_seq runK_cut runK_cond runK_block runK_loop runK_exit runK_label runK_goto runK_ret runK_range contK_nil contK_seq contK_seq_ret contK_seq_exit contK_seq_goto contK_block contK_block_ret contK_block_goto contK_block_exit runO_nil runO_cons roundK_exit roundK_ret roundK_goto exitK_ret cutK_ret cutK_exit runE_done runE_nil runE_take runE_alt condG_true condG_false
set_option maxRecDepth 10000
def schZ : SchS := ⟨0, 0, []⟩
def schParseA (b : Bs) : AV := match parSch b with
  | some s => .tup [.agg (schA s), .c (.bool true)]
  | none => .tup [.agg (schA schZ), .c (.bool false)]
end Go.Proofs.YtcjncgfhkgcbnaaDoor
