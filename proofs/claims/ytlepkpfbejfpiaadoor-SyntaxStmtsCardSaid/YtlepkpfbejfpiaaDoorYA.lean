import Derived.Test.YtlepkpfbejfpiaaDoorV1
import Derived.Test.YtlepkpfbejfpiaaDoorOpnR
namespace Go.Proofs.YtlepkpfbejfpiaaDoor
set_option linter.unusedVariables false
set_option linter.unusedSimpArgs false
open Go.RowKit Go.ChangeShapes Go.WideShapes Go.ChangeAt
attribute [local simp] isCut_nil isCut_region isCut_seq isCut_block isCut_loop isCut_cond isCut_skip isCut_exit isCut_ret isCut_range swapK putK altK condK_bool pickP_bool stepP stepO onPure_some onPure_none onImpl_some onImpl_none stepC onGP_some onGP_none onGV_some condG mkG onIt_it nextP_ptr takeP_eq takeV_some takeV_none takeU_some takeU_none takeQ takeW_some takeN_none takeN_some takeG_some takeO_some altO_some pureV binV2 eqF eqOp ovlV ovl2 rowAt capV binV intBin strBin isSh shV fldV ixV sliceV slice3V loadAV nilV lenV callV unV convV viewS cellsH loadV fldCut AV.ung AV.ungs AV.gc AV.cells AS.ev AS.put anyS gcsV lens lnO gV guardV retK RetP_eq resV oneV anyRo loIx hiIx implO callP_clo evL gcsL clearV storeAV AS.push AS.setO appV appZ shortS copyV buildV partsV fillV srcV fzO okV isCell_c isCell_ptr isCell_sl isCell_fs isCell_fp isCell_clo rowZ_one rowZ_zero rowZ_2 rowZ_3 rowZ_4 rowZ_5 rowZ_6 rowZ_7 rowZ_8 rowZ_9 rowZ_10 rowZ_11 rowZ_12 noHo Value.oneCell' max2V min2V afterH putBack frzFrom frzO rebO backIx nilEq_sl nilEq_fs nilOp_eql nilOp_neq AV.reb AV.rebL
attribute [local simp ↓] runK_skip runK_region runK_draw runK_seq runK_cut runK_cond runK_block runK_loop runK_exit runK_label runK_goto runK_ret runK_range contK_nil contK_seq contK_seq_ret contK_seq_exit contK_seq_goto contK_block contK_block_ret contK_block_goto contK_block_exit runO_nil runO_cons roundK_exit roundK_ret roundK_goto exitK_ret cutK_ret cutK_exit runE_done runE_nil runE_take runE_alt condG_true condG_false
set_option maxRecDepth 10000
/-! ## Expressions -/
inductive ExprS where
  | mk (kind at_ : Int) (op : ByteArray) (val : ValS) (tab name : ByteArray) (neg : Bool) (ty : TypS) (kids : List ExprS)
namespace ExprS
def kind : ExprS → Int | .mk k _ _ _ _ _ _ _ _ => k
def at_ : ExprS → Int | .mk _ k _ _ _ _ _ _ _ => k
def op : ExprS → ByteArray | .mk _ _ k _ _ _ _ _ _ => k
def val : ExprS → ValS | .mk _ _ _ k _ _ _ _ _ => k
def tab : ExprS → ByteArray | .mk _ _ _ _ k _ _ _ _ => k
def name : ExprS → ByteArray | .mk _ _ _ _ _ k _ _ _ => k
def neg : ExprS → Bool | .mk _ _ _ _ _ _ k _ _ => k
def ty : ExprS → TypS | .mk _ _ _ _ _ _ _ k _ => k
def kids : ExprS → List ExprS | .mk _ _ _ _ _ _ _ _ k => k
@[simp] theorem kind_mk (k a : Int) (o : ByteArray) (v : ValS) (t m : ByteArray) (b : Bool) (y : TypS) (l : List ExprS) : (ExprS.mk k a o v t m b y l).kind = k := rfl
@[simp] theorem at__mk (k a : Int) (o : ByteArray) (v : ValS) (t m : ByteArray) (b : Bool) (y : TypS) (l : List ExprS) : (ExprS.mk k a o v t m b y l).at_ = a := rfl
@[simp] theorem op_mk (k a : Int) (o : ByteArray) (v : ValS) (t m : ByteArray) (b : Bool) (y : TypS) (l : List ExprS) : (ExprS.mk k a o v t m b y l).op = o := rfl
@[simp] theorem val_mk (k a : Int) (o : ByteArray) (v : ValS) (t m : ByteArray) (b : Bool) (y : TypS) (l : List ExprS) : (ExprS.mk k a o v t m b y l).val = v := rfl
@[simp] theorem tab_mk (k a : Int) (o : ByteArray) (v : ValS) (t m : ByteArray) (b : Bool) (y : TypS) (l : List ExprS) : (ExprS.mk k a o v t m b y l).tab = t := rfl
@[simp] theorem name_mk (k a : Int) (o : ByteArray) (v : ValS) (t m : ByteArray) (b : Bool) (y : TypS) (l : List ExprS) : (ExprS.mk k a o v t m b y l).name = m := rfl
@[simp] theorem neg_mk (k a : Int) (o : ByteArray) (v : ValS) (t m : ByteArray) (b : Bool) (y : TypS) (l : List ExprS) : (ExprS.mk k a o v t m b y l).neg = b := rfl
@[simp] theorem ty_mk (k a : Int) (o : ByteArray) (v : ValS) (t m : ByteArray) (b : Bool) (y : TypS) (l : List ExprS) : (ExprS.mk k a o v t m b y l).ty = y := rfl
@[simp] theorem kids_mk (k a : Int) (o : ByteArray) (v : ValS) (t m : ByteArray) (b : Bool) (y : TypS) (l : List ExprS) : (ExprS.mk k a o v t m b y l).kids = l := rfl
theorem ind {p : ExprS → Prop} (h : ∀ x, (∀ k ∈ x.kids, p k) → p x) : ∀ x, p x := by
  intro x
  refine ExprS.rec (motive_1 := p) (motive_2 := fun l => ∀ k ∈ l, p k) (fun k a o v t n b y l ih => h _ ih) (fun k hk => by cases hk) (fun x l h1 h2 k hk => ?_) x
  rcases List.mem_cons.1 hk with rfl | hk
  · exact h1
  · exact h2 k hk
end ExprS
mutual
def exprR : ExprS → List AV
  | .mk k a o v t n b y l => [.c (.int .i64 k), .c (.int .i64 a), .c (.string o), .c (.int .i64 v.k), .c (.int .i64 v.n), .c (.int .i64 v.s), .c (.string v.t), .c (.string t), .c (.string n), .c (.bool b), .c (.int .i64 y.k), .c (.int .i64 y.s), .fs 13 l.length (exprsA l)]
def exprsA : List ExprS → List AV
  | [] => []
  | x :: l => exprR x ++ exprsA l
end
def exprA (x : ExprS) : List AV := [.c (.int .i64 x.kind), .c (.int .i64 x.at_), .c (.string x.op), .c (.int .i64 x.val.k), .c (.int .i64 x.val.n), .c (.int .i64 x.val.s), .c (.string x.val.t), .c (.string x.tab), .c (.string x.name), .c (.bool x.neg), .c (.int .i64 x.ty.k), .c (.int .i64 x.ty.s), .fs 13 x.kids.length (exprsA x.kids)]
theorem exprR_eq (x : ExprS) : exprR x = exprA x := by
  cases x; simp [exprR, exprA, ExprS.kind, ExprS.at_, ExprS.op, ExprS.val, ExprS.tab, ExprS.name, ExprS.neg, ExprS.ty, ExprS.kids]
theorem exprsA_eq (l : List ExprS) : exprsA l = l.flatMap exprA := by
  induction l with
  | nil => simp [exprsA]
  | cons x l ih => simp [exprsA, ih, exprR_eq]
@[simp] theorem exprA_length (x : ExprS) : (exprA x).length = 13 := rfl
@[simp] theorem exprsA_length (l : List ExprS) : (exprsA l).length = l.length * 13 := by rw [exprsA_eq]; exact flat_length exprA 13 (by simp) l
theorem exprsA_at (l : List ExprS) (j : Nat) (hj : j < l.length) : List.take 13 (List.drop (j * 13) (exprsA l)) = exprA l[j] := by rw [exprsA_eq]; exact flat_at exprA 13 (by simp) l j hj
theorem exprsA_app (a b : List ExprS) : exprsA (a ++ b) = exprsA a ++ exprsA b := by simp [exprsA_eq]
/-- an expression as it may come in -/
inductive ExprOk : ExprS → Prop
  | mk (x : ExprS) (h1 : i64v x.kind) (h2 : i64v x.at_) (h3 : x.op.size ≤ maxLen) (h4 : x.val.Ok) (h5 : x.tab.size ≤ maxLen) (h6 : x.name.size ≤ maxLen) (h7 : x.ty.Ok) (h8 : x.kids.length ≤ maxLen) (h9 : ∀ k ∈ x.kids, ExprOk k) : ExprOk x
def opnEKind : Opn Tryd.prog 22 Int := opnInt .i64 Tryd.underlying22 (by kernel_rfl)
theorem expr_open : ∀ (fuel : Nat) {H : Type} (enc : TypeId × Value → H) (w : World) (cs : List Value) (y : DataW H × List MemPlace), DataW.trod enc Tryd.prog w 0 (fun _ => true) true fuel 30 cs = some y → ∃ x, ExprOk x ∧ cs.length = Tryd.prog.cellsOf 30 ∧ RepC w (exprA x) cs := by
  intro fuel
  induction fuel using Nat.strongRecOn with
  | _ fuel ih =>
    intro H enc w cs y h
    obtain ⟨x, z, x1, z1, h1, h2⟩ := struct_last (avl := fun l : List ExprS => [.fs 13 l.length (l.flatMap exprA)]) (wfl := fun l : List ExprS => l.length ≤ maxLen ∧ ∀ x ∈ l, ExprOk x) Tryd.underlying30 rfl 8 (opnCons 1 opnEKind (by kernel_rfl) rfl (opnCons 1 opnI (by kernel_rfl) rfl (opnCons 1 opnStr (by kernel_rfl) rfl (opnCons 4 opnVal (by kernel_rfl) rfl (opnCons 1 opnStr (by kernel_rfl) rfl (opnCons 1 opnStr (by kernel_rfl) rfl (opnCons 1 opnBo (by kernel_rfl) rfl (opnCons 2 opnTyp (by kernel_rfl) rfl (opnNil 12))))))))) rfl rfl rfl (by kernel_rfl) (by kernel_rfl) enc w fuel cs y h fun n hn cs y h => slice_at (av := exprA) (wf := ExprOk) (fun x => by rw [exprA_length]; kernel_rfl) 13 Tryd.underlying28 (by kernel_rfl) (by kernel_rfl) (by decide) enc w n cs y h fun m hm cs y h => ih m (by omega) enc w cs y h
    obtain ⟨k, a, o, v, t, nm, b, ty, _⟩ := x
    obtain ⟨y1, y2, y3, y4, y5, y6, y7, y8, _⟩ := x1
    refine ⟨.mk k a o v t nm b ty z, .mk _ (bounds_i64 y1) (bounds_i64 y2) y3 y4 y5 y6 y8 z1.1 z1.2, h1, ?_⟩
    unfold exprA
    rw [exprsA_eq]
    exact h2
def opnExpr : Opn Tryd.prog 30 ExprS where
  av := exprA
  wf := ExprOk
  len x := by rw [exprA_length]; kernel_rfl
  opn enc w fuel cs y h := expr_open fuel enc w cs y h
end Go.Proofs.YtlepkpfbejfpiaaDoor
