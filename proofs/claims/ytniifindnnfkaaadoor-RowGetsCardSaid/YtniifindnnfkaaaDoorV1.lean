import Derived.Test.YtniifindnnfkaaaDoorLnd
import Derived.Test.YtniifindnnfkaaaDoorWk
import Derived.Test.YtniifindnnfkaaaDoorSlc
import Derived.Test.YtniifindnnfkaaaDoorFlat
namespace Go.Proofs.YtniifindnnfkaaaDoor
set_option linter.unusedVariables false
set_option linter.unusedSimpArgs false
open Go.RowKit
attribute [local simp] isCut_nil isCut_region isCut_seq isCut_block isCut_loop isCut_cond isCut_skip isCut_exit isCut_ret isCut_range swapK putK altK condK_bool pickP_bool stepP stepO onPure_some onPure_none onImpl_some onImpl_none stepC onGP_some onGP_none onGV_some condG mkG onIt_it nextP_ptr takeP_eq takeV_some takeV_none takeU_some takeU_none takeQ takeW_some takeN_none takeN_some takeG_some takeO_some altO_some pureV binV2 eqF eqOp ovlV ovl2 rowAt capV binV intBin strBin isSh shV fldV ixV sliceV slice3V loadAV nilV lenV callV unV convV viewS cellsH loadV fldCut AV.ung AV.ungs AV.gc AV.cells AS.ev AS.put anyS gcsV lens lnO gV guardV retK RetP_eq resV oneV anyRo loIx hiIx implO callP_clo evL gcsL clearV storeAV AS.push AS.setO appV appZ shortS copyV buildV partsV fillV srcV fzO okV isCell_c isCell_ptr isCell_sl isCell_fs isCell_fp isCell_clo rowZ_one rowZ_zero rowZ_2 rowZ_3 rowZ_4 rowZ_5 rowZ_6 rowZ_7 rowZ_8 rowZ_9 rowZ_10 rowZ_11 rowZ_12 noHo Value.oneCell' max2V min2V lookV updV lenM msAt afterH putBack frzFrom frzO rebO backIx nilEq_sl nilEq_fs nilOp_eql nilOp_neq AV.reb AV.rebL
attribute [local simp ↓] runK_skip runK_region runK_draw runK_seq runK_cut runK_cond runK_block runK_loop runK_exit runK_label runK_goto runK_ret runK_range contK_nil contK_seq contK_seq_ret contK_seq_exit contK_seq_goto contK_block contK_block_ret contK_block_goto contK_block_exit runO_nil runO_cons roundK_exit roundK_ret roundK_goto exitK_ret cutK_ret cutK_exit runE_done runE_nil runE_take runE_alt condG_true condG_false
set_option maxRecDepth 10000
/-! ## Values and types: which are right -/
def i64v (n : Int) : Prop := -9223372036854775808 ≤ n ∧ n ≤ 9223372036854775807
structure TypS where
  k : Int
  s : Int
structure ValS where
  k : Int
  n : Int
  s : Int
  t : ByteArray
def typA (t : TypS) : List AV := [.c (.int .i64 t.k), .c (.int .i64 t.s)]
def valA (v : ValS) : List AV := [.c (.int .i64 v.k), .c (.int .i64 v.n), .c (.int .i64 v.s), .c (.string v.t)]
@[simp] theorem typA_length (t : TypS) : (typA t).length = 2 := rfl
@[simp] theorem valA_length (v : ValS) : (valA v).length = 4 := rfl
def TypS.Ok (t : TypS) : Prop := i64v t.k ∧ i64v t.s
def ValS.Ok (v : ValS) : Prop := i64v v.k ∧ i64v v.n ∧ i64v v.s ∧ v.t.size ≤ maxLen
def scaleOk (n : Int) : Bool := decide (0 ≤ n) && decide (n ≤ 6)
def typOk (t : TypS) : Bool := if t.k = 3 then scaleOk t.s else decide (1 ≤ t.k) && decide (t.k ≤ 5) && decide (t.s = 0)
theorem right_dec (n : Int) : ACalls Tryd.prog 67 [.c (.int .i64 n)] [] (fun _ => false) (fun r h' => r = .c (.bool (scaleOk n)) ∧ h' = []) := by
  refine acalls mixed Tryd.func67 rfl Tryd.ntmps67 rfl fun E hE hst hho => ?_
  simp [hho, noHo, -List.reduceReplicate]
  exact Ret.same ⟨rfl, rfl⟩
theorem scale_ref (n : Int) : ACalls Tryd.prog 51 [.c (.int .i64 n)] [] (fun _ => false) (fun r h' => r = .c (.bool (scaleOk n)) ∧ h' = []) := by
  refine acalls mixed Tryd.func51 rfl Tryd.ntmps51 rfl fun E hE hst hho => ?_
  simp [hho, noHo, -List.reduceReplicate]
  exact Ret.same ⟨rfl, rfl⟩
def opnI : Opn Tryd.prog 3 Int := opnInt .i64 Tryd.underlying3 (by kernel_rfl)
def opnKind : Opn Tryd.prog 34 Int := opnInt .i64 Tryd.underlying34 (by kernel_rfl)
def opnStr : Opn Tryd.prog 9 ByteArray := opnString Tryd.underlying9 (by kernel_rfl)
def opnBo : Opn Tryd.prog 4 Bool := opnBool Tryd.underlying4 (by kernel_rfl)
def opnVal : Opn Tryd.prog 36 ValS :=
  (opnStruct Tryd.underlying36 rfl (opnCons 1 opnKind (by kernel_rfl) rfl (opnCons 1 opnI (by kernel_rfl) rfl (opnCons 1 opnI (by kernel_rfl) rfl (opnCons 1 opnStr (by kernel_rfl) rfl (opnNil 4))))) (by kernel_rfl)).map
    (fun x : Int × Int × Int × ByteArray × Unit => (⟨x.1, x.2.1, x.2.2.1, x.2.2.2.1⟩ : ValS)) valA ValS.Ok (fun _ => rfl) (fun x h => ⟨bounds_i64 h.1, bounds_i64 h.2.1, bounds_i64 h.2.2.1, h.2.2.2.1⟩) fun _ => by kernel_rfl
end Go.Proofs.YtniifindnnfkaaaDoor
