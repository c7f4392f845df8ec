import Derived.Test.YtcjncgfhkgcbnaaDoorHV
import Derived.Test.YtcjncgfhkgcbnaaDoorIx
import Derived.Test.YtcjncgfhkgcbnaaDoorOpnR
import Derived.Test.YtcjncgfhkgcbnaaDoorCv
import Derived.Test.YtcjncgfhkgcbnaaDoorH6
namespace Go.Proofs.YtcjncgfhkgcbnaaDoor
set_option linter.unusedVariables false
set_option linter.unusedSimpArgs false
open Go.RowKit Go.ChangeShapes Go.WideShapes Go.ChangeAt
attribute [local simp] isCut_nil isCut_region isCut_seq isCut_block isCut_loop isCut_cond isCut_skip isCut_exit isCut_ret isCut_range swapK putK altK condK_bool pickP_bool stepP stepO onPure_some onPure_none onImpl_some onImpl_none stepC onGP_some onGP_none onGV_some condG mkG onIt_it nextP_ptr takeP_eq takeV_some takeV_none takeU_some takeU_none takeQ takeW_some takeN_none takeN_some takeG_some takeO_some altO_some pureV binV2 eqF eqOp ovlV ovl2 rowAt capV binV intBin strBin isSh shV fldV ixV sliceV slice3V loadAV nilV lenV callV unV convV viewS cellsH loadV fldCut AV.ung AV.ungs AV.gc AV.cells AS.ev AS.put anyS gcsV gcO lens lnO gV guardV retK RetP_eq resV oneV anyRo loIx hiIx implO callP_clo evL gcsL clearV storeAV AS.push AS.setO appV appZ shortS copyV buildV partsV fillV srcV fzO okV isCell_c isCell_ptr isCell_sl isCell_fs isCell_fp isCell_clo rowZ_one rowZ_zero rowZ_2 rowZ_3 rowZ_4 rowZ_5 rowZ_6 rowZ_7 rowZ_8 rowZ_9 rowZ_10 rowZ_11 rowZ_12 noHo Value.oneCell' max2V min2V lookV updV lenM msAt afterH putBack frzFrom frzO rebO backIx nilEq_sl nilEq_fs nilOp_eql nilOp_neq AV.reb AV.rebL
attribute [local simp ↓] runK_skip runK_region runK_draw runK_seq runK_cut runK_cond runK_block runK_loop runK_exit runK_label runK_goto runK_ret runK_range contK_nil contK_seq contK_seq_ret contK_seq_exit contK_seq_goto contK_block contK_block_ret contK_block_goto contK_block_exit runO_nil runO_cons roundK_exit roundK_ret roundK_goto exitK_ret cutK_ret cutK_exit runE_done runE_nil runE_take runE_alt condG_true condG_false
set_option maxRecDepth 10000
structure ColS where
  id : Int
  name : ByteArray
  ty : TypS
  nn : Bool
  dft : ValS
  st : Int
structure IdxS where
  id : Int
  name : ByteArray
  cols : List Int
  uniq : Bool
  st : Int
structure TabS where
  id : Int
  name : ByteArray
  cols : List ColS
  idxs : List IdxS
structure SchS where
  ver : Int
  next : Int
  tabs : List TabS
def colA (c : ColS) : List AV := [.c (.int .i64 c.id), .c (.string c.name), .c (.int .i64 c.ty.k), .c (.int .i64 c.ty.s), .c (.bool c.nn), .c (.int .i64 c.dft.k), .c (.int .i64 c.dft.n), .c (.int .i64 c.dft.s), .c (.string c.dft.t), .c (.int .i64 c.st)]
def idxA (x : IdxS) : List AV := [.c (.int .i64 x.id), .c (.string x.name), .fs 1 x.cols.length (intsA x.cols), .c (.bool x.uniq), .c (.int .i64 x.st)]
@[simp] theorem colA_length (x : ColS) : (colA x).length = 10 := rfl
@[simp] theorem colA_take (x : ColS) : List.take 10 (colA x) = colA x := rfl
def colsA (l : List ColS) : List AV := l.flatMap colA
@[simp] theorem colsA_length (l : List ColS) : (colsA l).length = l.length * 10 := flat_length colA 10 (by simp) l
theorem colsA_at (l : List ColS) (j : Nat) (hj : j < l.length) : List.take 10 (List.drop (j * 10) (colsA l)) = colA l[j] := flat_at colA 10 (by simp) l j hj
theorem colsA_app (a b : List ColS) : colsA (a ++ b) = colsA a ++ colsA b := by simp [colsA]
theorem colsA_one (x : ColS) : colsA [x] = colA x := by simp [colsA]
theorem colsA_snoc (l : List ColS) (x : ColS) : colsA (l ++ [x]) = colsA l ++ colA x := by rw [colsA_app, colsA_one]
@[simp] theorem colA_all (x : ColS) : (∀ a ∈ colA x, isD a = true) ↔ True := iff_true_intro <| by simp [colA, isD]
@[simp] theorem colA_cell (x : ColS) : (∀ a ∈ colA x, isCell a = true) ↔ True := iff_true_intro <| by simp [colA, isCell_c, isCell_fs, Value.oneCell']
@[simp] theorem colsA_all (l : List ColS) : (∀ x ∈ colsA l, isD x = true) ↔ True := iff_true_intro <| by
  intro x hx
  simp only [colsA, List.mem_flatMap] at hx
  obtain ⟨b, _, hx⟩ := hx
  exact (colA_all b).2 trivial x hx
@[simp] theorem colsA_cell (l : List ColS) : (∀ x ∈ colsA l, isCell x = true) ↔ True := iff_true_intro <| by
  intro x hx
  simp only [colsA, List.mem_flatMap] at hx
  obtain ⟨b, _, hx⟩ := hx
  exact (colA_cell b).2 trivial x hx
@[simp] theorem idxA_length (x : IdxS) : (idxA x).length = 5 := rfl
@[simp] theorem idxA_take (x : IdxS) : List.take 5 (idxA x) = idxA x := rfl
def idxsA (l : List IdxS) : List AV := l.flatMap idxA
@[simp] theorem idxsA_length (l : List IdxS) : (idxsA l).length = l.length * 5 := flat_length idxA 5 (by simp) l
theorem idxsA_at (l : List IdxS) (j : Nat) (hj : j < l.length) : List.take 5 (List.drop (j * 5) (idxsA l)) = idxA l[j] := flat_at idxA 5 (by simp) l j hj
@[simp] theorem idxA_all (x : IdxS) : (∀ a ∈ idxA x, isD a = true) ↔ True := iff_true_intro <| by simp [idxA, isD]
@[simp] theorem idxA_cell (x : IdxS) : (∀ a ∈ idxA x, isCell a = true) ↔ True := iff_true_intro <| by simp [idxA, isCell_c, isCell_fs, Value.oneCell']
@[simp] theorem idxsA_all (l : List IdxS) : (∀ x ∈ idxsA l, isD x = true) ↔ True := iff_true_intro <| by
  intro x hx
  simp only [idxsA, List.mem_flatMap] at hx
  obtain ⟨b, _, hx⟩ := hx
  exact (idxA_all b).2 trivial x hx
@[simp] theorem idxsA_cell (l : List IdxS) : (∀ x ∈ idxsA l, isCell x = true) ↔ True := iff_true_intro <| by
  intro x hx
  simp only [idxsA, List.mem_flatMap] at hx
  obtain ⟨b, _, hx⟩ := hx
  exact (idxA_cell b).2 trivial x hx
def tabA (t : TabS) : List AV := [.c (.int .i64 t.id), .c (.string t.name), .fs 10 t.cols.length (colsA t.cols), .fs 5 t.idxs.length (idxsA t.idxs)]
@[simp] theorem tabA_length (x : TabS) : (tabA x).length = 4 := rfl
@[simp] theorem tabA_take (x : TabS) : List.take 4 (tabA x) = tabA x := rfl
def tabsA (l : List TabS) : List AV := l.flatMap tabA
@[simp] theorem tabsA_length (l : List TabS) : (tabsA l).length = l.length * 4 := flat_length tabA 4 (by simp) l
theorem tabsA_at (l : List TabS) (j : Nat) (hj : j < l.length) : List.take 4 (List.drop (j * 4) (tabsA l)) = tabA l[j] := flat_at tabA 4 (by simp) l j hj
@[simp] theorem tabA_all (x : TabS) : (∀ a ∈ tabA x, isD a = true) ↔ True := iff_true_intro <| by simp [tabA, isD]
@[simp] theorem tabA_cell (x : TabS) : (∀ a ∈ tabA x, isCell a = true) ↔ True := iff_true_intro <| by simp [tabA, isCell_c, isCell_fs, Value.oneCell']
@[simp] theorem tabsA_all (l : List TabS) : (∀ x ∈ tabsA l, isD x = true) ↔ True := iff_true_intro <| by
  intro x hx
  simp only [tabsA, List.mem_flatMap] at hx
  obtain ⟨b, _, hx⟩ := hx
  exact (tabA_all b).2 trivial x hx
@[simp] theorem tabsA_cell (l : List TabS) : (∀ x ∈ tabsA l, isCell x = true) ↔ True := iff_true_intro <| by
  intro x hx
  simp only [tabsA, List.mem_flatMap] at hx
  obtain ⟨b, _, hx⟩ := hx
  exact (tabA_cell b).2 trivial x hx
def schA (s : SchS) : List AV := [.c (.int .i64 s.ver), .c (.int .i64 s.next), .fs 4 s.tabs.length (tabsA s.tabs)]
@[simp] theorem schA_length (s : SchS) : (schA s).length = 3 := rfl
@[simp] theorem schA_take (s : SchS) : List.take 3 (schA s) = schA s := rfl
def ColS.Ok (c : ColS) : Prop := i64v c.id ∧ c.name.size ≤ maxLen ∧ c.ty.Ok ∧ c.dft.Ok ∧ i64v c.st
def IdxS.Ok (x : IdxS) : Prop := i64v x.id ∧ x.name.size ≤ maxLen ∧ (∀ k ∈ x.cols, i64v k) ∧ i64v x.st
def TabS.Ok (t : TabS) : Prop := i64v t.id ∧ t.name.size ≤ maxLen ∧ (∀ c ∈ t.cols, c.Ok) ∧ ∀ x ∈ t.idxs, x.Ok
def SchS.Ok (s : SchS) : Prop := i64v s.ver ∧ i64v s.next ∧ ∀ t ∈ s.tabs, t.Ok
theorem flat_intsA (l : List Int) : l.flatMap (fun b => [AV.c (.int .i64 b)]) = intsA l := by
  induction l with
  | nil => rfl
  | cons b l ih => rw [List.flatMap_cons, ih]; rfl
def opnIntL : Opn Tryd.prog 24 (List Int) :=
  (opnSlice opnI 1 Tryd.underlying24 (by kernel_rfl) (by kernel_rfl) (by decide)).map id (fun l => [.fs 1 l.length (intsA l)]) (fun l => ∀ k ∈ l, i64v k) (fun l => by simp only [opnSlice, opnI, opnInt, id]; rw [flat_intsA]) (fun l h => fun k hk => bounds_i64 (h.2 k hk)) fun _ => by kernel_rfl
def opnColState : Opn Tryd.prog 25 Int := opnInt .i64 Tryd.underlying25 (by kernel_rfl)
def opnCol : Opn Tryd.prog 59 ColS :=
  (opnStruct Tryd.underlying59 rfl (opnCons 1 opnI (by kernel_rfl) rfl (opnCons 1 opnStr (by kernel_rfl) rfl (opnCons 2 opnTyp (by kernel_rfl) rfl (opnCons 1 opnBo (by kernel_rfl) rfl (opnCons 4 opnVal (by kernel_rfl) rfl (opnCons 1 opnColState (by kernel_rfl) rfl (opnNil 10))))))) (by kernel_rfl)).map
    (fun x : Int × ByteArray × TypS × Bool × ValS × Int × Unit => (⟨x.1, x.2.1, x.2.2.1, x.2.2.2.1, x.2.2.2.2.1, x.2.2.2.2.2.1⟩ : ColS)) colA ColS.Ok (fun _ => rfl) (fun x h => ⟨bounds_i64 h.1, h.2.1, h.2.2.1, h.2.2.2.2.1, bounds_i64 h.2.2.2.2.2.1⟩) fun _ => by kernel_rfl
def opnCols : Opn Tryd.prog 23 (List ColS) := (opnSlice opnCol 10 Tryd.underlying23 (by kernel_rfl) (by kernel_rfl) (by decide)).map id (fun l => [.fs 10 l.length (colsA l)]) (fun l => ∀ x ∈ l, x.Ok) (fun _ => rfl) (fun _ h => h.2) fun _ => by kernel_rfl
def opnIdx : Opn Tryd.prog 27 IdxS :=
  (opnStruct Tryd.underlying27 rfl (opnCons 1 opnI (by kernel_rfl) rfl (opnCons 1 opnStr (by kernel_rfl) rfl (opnCons 1 opnIntL (by kernel_rfl) rfl (opnCons 1 opnBo (by kernel_rfl) rfl (opnCons 1 opnColState (by kernel_rfl) rfl (opnNil 5)))))) (by kernel_rfl)).map
    (fun x : Int × ByteArray × List Int × Bool × Int × Unit => (⟨x.1, x.2.1, x.2.2.1, x.2.2.2.1, x.2.2.2.2.1⟩ : IdxS)) idxA IdxS.Ok (fun _ => rfl) (fun x h => ⟨bounds_i64 h.1, h.2.1, h.2.2.1, bounds_i64 h.2.2.2.2.1⟩) fun _ => by kernel_rfl
def opnIdxs : Opn Tryd.prog 60 (List IdxS) := (opnSlice opnIdx 5 Tryd.underlying60 (by kernel_rfl) (by kernel_rfl) (by decide)).map id (fun l => [.fs 5 l.length (idxsA l)]) (fun l => ∀ x ∈ l, x.Ok) (fun _ => rfl) (fun _ h => h.2) fun _ => by kernel_rfl
def opnTab : Opn Tryd.prog 62 TabS :=
  (opnStruct Tryd.underlying62 rfl (opnCons 1 opnI (by kernel_rfl) rfl (opnCons 1 opnStr (by kernel_rfl) rfl (opnCons 1 opnCols (by kernel_rfl) rfl (opnCons 1 opnIdxs (by kernel_rfl) rfl (opnNil 4))))) (by kernel_rfl)).map
    (fun x : Int × ByteArray × List ColS × List IdxS × Unit => (⟨x.1, x.2.1, x.2.2.1, x.2.2.2.1⟩ : TabS)) tabA TabS.Ok (fun _ => rfl) (fun x h => ⟨bounds_i64 h.1, h.2.1, h.2.2.1, h.2.2.2.1⟩) fun _ => by kernel_rfl
def opnTabs : Opn Tryd.prog 40 (List TabS) := (opnSlice opnTab 4 Tryd.underlying40 (by kernel_rfl) (by kernel_rfl) (by decide)).map id (fun l => [.fs 4 l.length (tabsA l)]) (fun l => ∀ x ∈ l, x.Ok) (fun _ => rfl) (fun _ h => h.2) fun _ => by kernel_rfl
def opnSch : Opn Tryd.prog 42 SchS :=
  (opnStruct Tryd.underlying42 rfl (opnCons 1 opnI (by kernel_rfl) rfl (opnCons 1 opnI (by kernel_rfl) rfl (opnCons 1 opnTabs (by kernel_rfl) rfl (opnNil 3)))) (by kernel_rfl)).map
    (fun x : Int × Int × List TabS × Unit => (⟨x.1, x.2.1, x.2.2.1⟩ : SchS)) schA SchS.Ok (fun _ => rfl) (fun x h => ⟨bounds_i64 h.1, bounds_i64 h.2.1, h.2.2.1⟩) fun _ => by kernel_rfl
end Go.Proofs.YtcjncgfhkgcbnaaDoor
namespace Go.Proofs.YtcjncgfhkgcbnaaDoor
set_option linter.unusedVariables false
set_option linter.unusedSimpArgs false
open Go.RowKit
attribute [local simp] isCut_nil isCut_region isCut_seq isCut_block isCut_loop isCut_cond isCut_skip isCut_exit isCut_ret isCut_range swapK putK altK condK_bool pickP_bool stepP stepO onPure_some onPure_none onImpl_some onImpl_none stepC onGP_some onGP_none onGV_some condG mkG onIt_it nextP_ptr takeP_eq takeV_some takeV_none takeU_some takeU_none takeQ takeW_some takeN_none takeN_some takeG_some takeO_some altO_some pureV binV2 eqF eqOp ovlV ovl2 rowAt capV binV intBin strBin isSh shV fldV ixV sliceV slice3V loadAV nilV lenV callV unV convV viewS cellsH loadV fldCut AV.ung AV.ungs AV.gc AV.cells AS.ev AS.put anyS gcsV gcO lens lnO gV guardV retK RetP_eq resV oneV anyRo loIx hiIx implO callP_clo evL gcsL clearV storeAV AS.push AS.setO appV appZ shortS copyV buildV partsV fillV srcV fzO okV isCell_c isCell_ptr isCell_sl isCell_fs isCell_fp isCell_clo rowZ_one rowZ_zero rowZ_2 rowZ_3 rowZ_4 rowZ_5 rowZ_6 rowZ_7 rowZ_8 rowZ_9 rowZ_10 rowZ_11 rowZ_12 noHo Value.oneCell' max2V min2V lookV updV lenM msAt afterH putBack frzFrom frzO rebO backIx nilEq_sl nilEq_fs nilOp_eql nilOp_neq AV.reb AV.rebL
attribute [local simp ↓] runK_skip runK_region runK_draw runK_seq runK_cut runK_cond runK_block runK_loop runK_exit runK_label runK_goto runK_ret runK_range contK_nil contK_seq contK_seq_ret contK_seq_exit contK_seq_goto contK_block contK_block_ret contK_block_goto contK_block_exit runO_nil runO_cons roundK_exit roundK_ret roundK_goto exitK_ret cutK_ret cutK_exit runE_done runE_nil runE_take runE_alt condG_true condG_false
set_option maxRecDepth 10000
def risB (b : Int) : Int → List Int → Bool
  | _, [] => true
  | w, x :: l => decide (w < x) && decide (x < b) && risB b x l
def lastI (w : Int) (l : List Int) : Int := l.getLast?.getD w
theorem lastI_cons (w x : Int) (l : List Int) : lastI w (x :: l) = lastI x l := by
  unfold lastI
  cases l with
  | nil => rfl
  | cons y l => rw [List.getLast?_cons_cons]; cases h : (y :: l).getLast? with
    | none => simp at h
    | some z => rfl
theorem risB_app (b : Int) : ∀ (w : Int) (l m : List Int), risB b w (l ++ m) = (risB b w l && risB b (lastI w l) m)
  | w, [], m => by simp [risB, lastI]
  | w, x :: l, m => by simp only [List.cons_append, risB, risB_app b x l m, lastI_cons, Bool.and_assoc]
theorem lastI_take (w : Int) (l : List Int) (j : Nat) (hj : j < l.length) : lastI w (l.take (j + 1)) = l[j] := by
  unfold lastI
  rw [List.take_succ_eq_append_getElem hj, List.getLast?_concat]; rfl
def memS (l : List ByteArray) (v : ByteArray) : Bool := l.any fun x => decide (v = x)
def unlB : List ByteArray → List ByteArray → Bool
  | _, [] => true
  | w, x :: l => !memS w x && unlB (w ++ [x]) l
def seenM (l : List ByteArray) : List (ByteArray × Value) := l.map fun x => (x, .bool true)
set_option maxHeartbeats 4000000 in
theorem ifc_col (l : List ColS) (p : ColS → Bool) (g : FuncId) (hg : callable Tryd.prog g = true) (cs : List AV) (m : Nat) (hm : cs.length = m) (hd : cs.all isD = true) (hl : l.length ≤ 1000000) (hc : ∀ x ∈ l, ACalls Tryd.prog g [.agg (colA x), .ptr 0 0 m] [.o .box cs] (fun k => decide (k < 1)) (fun r h' => r = .c (.bool (p x)) ∧ h' = [.o .box cs])) : ACalls Tryd.prog 63 [.fs 10 l.length (colsA l), .clo (.func g) [] [.ptr 0 0 m]] [.o .box cs] (fun k => decide (k < 1)) (fun r h' => r = .c (.int .i64 (ixF p l)) ∧ h' = [.o .box cs]) := by
  refine acalls mixed Tryd.func63 rfl Tryd.ntmps63 rfl fun E hE hst hho => ?_
  have hreb : ∀ β, AV.rebL β cs = cs := fun β => rebL_isD hd
  obtain ⟨P, hP, hcv⟩ := conv_isD hd
  simp (maxSteps := 1000000) [hho, noHo, hm, -List.reduceReplicate]
  refine loop_k mixed (fun j : Nat => ⟨slotsOf 19 [(0, .fs 10 l.length (colsA l)), (1, .clo (.func g) [] [.ptr 0 0 m]), (7, .c (.int .i64 l.length)), (8, .c (.int .i64 (j : Nat)))], [.o .box cs]⟩) (fun j => l.length - j) (fun j => j ≤ l.length ∧ ∀ k (hk : k < l.length), k < j → p l[k] = false) 0 ⟨Nat.zero_le _, fun k _ h => by omega⟩ ?_ ?_
  · exact wk_eq (by simp [hE, lens]) (by simp) (by simp [livH, livO, AV.livL, AV.liv, wkL, wkV, List.range', slotsOf])
  · rintro j ⟨hj, hI⟩
    by_cases hjl : j < l.length
    · have hat := colsA_at l j hjl
      have ew : IntKind.i64.wrap ((j : Int) + 1) = (j + 1 : Nat) := by rw [IntWalk.i64_in _ (by omega)]; rfl
      have e0 : j * 10 + 10 ≤ l.length * 10 := by omega
      have hx := hc l[j] (List.getElem_mem hjl)
      have hp0 := @ixF_hit _ p l j hjl hI
      have hI1 : p l[j] = false → ∀ k (hk : k < l.length), k < j + 1 → p l[k] = false := fun h k hk hkj => by
        by_cases e : k = j
        · subst e; exact h
        · exact hI k hk (by omega)
      obtain ⟨x, hxe⟩ : ∃ x, x = l[j] := ⟨_, rfl⟩
      rw [← hxe] at hat hx hp0 hI1
      cases hp : p x with
      | true =>
        rw [hp] at hx
        simp (maxSteps := 1000000) [slotsOf, hho, noHo, hjl, hat, e0, hg, hm, -List.reduceReplicate]
        refine call_x [0] hx rfl (convOs_box rfl hcv) ⟨rfl, rfl⟩ hho (by simp) (by decide) ⟨by simp, hP, trivial⟩ (by simp) ?_
        simp (maxSteps := 1000000) [hho, noHo, ew, hreb, -List.reduceReplicate]
        exact Ret.same ⟨by rw [hp0 hp], rfl⟩
      | false =>
        rw [hp] at hx
        simp (maxSteps := 1000000) [slotsOf, hho, noHo, hjl, hat, e0, hg, hm, -List.reduceReplicate]
        refine call_x [0] hx rfl (convOs_box rfl hcv) ⟨rfl, rfl⟩ hho (by simp) (by decide) ⟨by simp, hP, trivial⟩ (by simp) ?_
        simp (maxSteps := 1000000) [hho, noHo, ew, hreb, -List.reduceReplicate]
        refine round_next (j + 1) ⟨by omega, hI1 hp⟩ (by omega) ?_
        exact wk_eq (by simp [hE, lens]) (by simp) (by simp [livH, livO, AV.livL, AV.liv, wkL, wkV, List.range', slotsOf])
    · obtain rfl : j = l.length := by omega
      simp (maxSteps := 1000000) [slotsOf, hho, noHo, -List.reduceReplicate]
      exact Ret.same ⟨by rw [ixF_none fun k hk => hI k hk hk], rfl⟩
set_option maxHeartbeats 4000000 in
theorem ifc_idx (l : List IdxS) (p : IdxS → Bool) (g : FuncId) (hg : callable Tryd.prog g = true) (cs : List AV) (m : Nat) (hm : cs.length = m) (hd : cs.all isD = true) (hl : l.length ≤ 1000000) (hc : ∀ x ∈ l, ACalls Tryd.prog g [.agg (idxA x), .ptr 0 0 m] [.o .box cs] (fun k => decide (k < 1)) (fun r h' => r = .c (.bool (p x)) ∧ h' = [.o .box cs])) : ACalls Tryd.prog 100 [.fs 5 l.length (idxsA l), .clo (.func g) [] [.ptr 0 0 m]] [.o .box cs] (fun k => decide (k < 1)) (fun r h' => r = .c (.int .i64 (ixF p l)) ∧ h' = [.o .box cs]) := by
  refine acalls mixed Tryd.func100 rfl Tryd.ntmps100 rfl fun E hE hst hho => ?_
  have hreb : ∀ β, AV.rebL β cs = cs := fun β => rebL_isD hd
  obtain ⟨P, hP, hcv⟩ := conv_isD hd
  simp (maxSteps := 1000000) [hho, noHo, hm, -List.reduceReplicate]
  refine loop_k mixed (fun j : Nat => ⟨slotsOf 19 [(0, .fs 5 l.length (idxsA l)), (1, .clo (.func g) [] [.ptr 0 0 m]), (7, .c (.int .i64 l.length)), (8, .c (.int .i64 (j : Nat)))], [.o .box cs]⟩) (fun j => l.length - j) (fun j => j ≤ l.length ∧ ∀ k (hk : k < l.length), k < j → p l[k] = false) 0 ⟨Nat.zero_le _, fun k _ h => by omega⟩ ?_ ?_
  · exact wk_eq (by simp [hE, lens]) (by simp) (by simp [livH, livO, AV.livL, AV.liv, wkL, wkV, List.range', slotsOf])
  · rintro j ⟨hj, hI⟩
    by_cases hjl : j < l.length
    · have hat := idxsA_at l j hjl
      have ew : IntKind.i64.wrap ((j : Int) + 1) = (j + 1 : Nat) := by rw [IntWalk.i64_in _ (by omega)]; rfl
      have e0 : j * 5 + 5 ≤ l.length * 5 := by omega
      have hx := hc l[j] (List.getElem_mem hjl)
      have hp0 := @ixF_hit _ p l j hjl hI
      have hI1 : p l[j] = false → ∀ k (hk : k < l.length), k < j + 1 → p l[k] = false := fun h k hk hkj => by
        by_cases e : k = j
        · subst e; exact h
        · exact hI k hk (by omega)
      obtain ⟨x, hxe⟩ : ∃ x, x = l[j] := ⟨_, rfl⟩
      rw [← hxe] at hat hx hp0 hI1
      cases hp : p x with
      | true =>
        rw [hp] at hx
        simp (maxSteps := 1000000) [slotsOf, hho, noHo, hjl, hat, e0, hg, hm, -List.reduceReplicate]
        refine call_x [0] hx rfl (convOs_box rfl hcv) ⟨rfl, rfl⟩ hho (by simp) (by decide) ⟨by simp, hP, trivial⟩ (by simp) ?_
        simp (maxSteps := 1000000) [hho, noHo, ew, hreb, -List.reduceReplicate]
        exact Ret.same ⟨by rw [hp0 hp], rfl⟩
      | false =>
        rw [hp] at hx
        simp (maxSteps := 1000000) [slotsOf, hho, noHo, hjl, hat, e0, hg, hm, -List.reduceReplicate]
        refine call_x [0] hx rfl (convOs_box rfl hcv) ⟨rfl, rfl⟩ hho (by simp) (by decide) ⟨by simp, hP, trivial⟩ (by simp) ?_
        simp (maxSteps := 1000000) [hho, noHo, ew, hreb, -List.reduceReplicate]
        refine round_next (j + 1) ⟨by omega, hI1 hp⟩ (by omega) ?_
        exact wk_eq (by simp [hE, lens]) (by simp) (by simp [livH, livO, AV.livL, AV.liv, wkL, wkV, List.range', slotsOf])
    · obtain rfl : j = l.length := by omega
      simp (maxSteps := 1000000) [slotsOf, hho, noHo, -List.reduceReplicate]
      exact Ret.same ⟨by rw [ixF_none fun k hk => hI k hk hk], rfl⟩
set_option maxHeartbeats 4000000 in
theorem ifc_tab (l : List TabS) (p : TabS → Bool) (g : FuncId) (hg : callable Tryd.prog g = true) (cs : List AV) (m : Nat) (hm : cs.length = m) (hd : cs.all isD = true) (hl : l.length ≤ 1000000) (hc : ∀ x ∈ l, ACalls Tryd.prog g [.agg (tabA x), .ptr 0 0 m] [.o .box cs] (fun k => decide (k < 1)) (fun r h' => r = .c (.bool (p x)) ∧ h' = [.o .box cs])) : ACalls Tryd.prog 81 [.fs 4 l.length (tabsA l), .clo (.func g) [] [.ptr 0 0 m]] [.o .box cs] (fun k => decide (k < 1)) (fun r h' => r = .c (.int .i64 (ixF p l)) ∧ h' = [.o .box cs]) := by
  refine acalls mixed Tryd.func81 rfl Tryd.ntmps81 rfl fun E hE hst hho => ?_
  have hreb : ∀ β, AV.rebL β cs = cs := fun β => rebL_isD hd
  obtain ⟨P, hP, hcv⟩ := conv_isD hd
  simp (maxSteps := 1000000) [hho, noHo, hm, -List.reduceReplicate]
  refine loop_k mixed (fun j : Nat => ⟨slotsOf 19 [(0, .fs 4 l.length (tabsA l)), (1, .clo (.func g) [] [.ptr 0 0 m]), (7, .c (.int .i64 l.length)), (8, .c (.int .i64 (j : Nat)))], [.o .box cs]⟩) (fun j => l.length - j) (fun j => j ≤ l.length ∧ ∀ k (hk : k < l.length), k < j → p l[k] = false) 0 ⟨Nat.zero_le _, fun k _ h => by omega⟩ ?_ ?_
  · exact wk_eq (by simp [hE, lens]) (by simp) (by simp [livH, livO, AV.livL, AV.liv, wkL, wkV, List.range', slotsOf])
  · rintro j ⟨hj, hI⟩
    by_cases hjl : j < l.length
    · have hat := tabsA_at l j hjl
      have ew : IntKind.i64.wrap ((j : Int) + 1) = (j + 1 : Nat) := by rw [IntWalk.i64_in _ (by omega)]; rfl
      have e0 : j * 4 + 4 ≤ l.length * 4 := by omega
      have hx := hc l[j] (List.getElem_mem hjl)
      have hp0 := @ixF_hit _ p l j hjl hI
      have hI1 : p l[j] = false → ∀ k (hk : k < l.length), k < j + 1 → p l[k] = false := fun h k hk hkj => by
        by_cases e : k = j
        · subst e; exact h
        · exact hI k hk (by omega)
      obtain ⟨x, hxe⟩ : ∃ x, x = l[j] := ⟨_, rfl⟩
      rw [← hxe] at hat hx hp0 hI1
      cases hp : p x with
      | true =>
        rw [hp] at hx
        simp (maxSteps := 1000000) [slotsOf, hho, noHo, hjl, hat, e0, hg, hm, -List.reduceReplicate]
        refine call_x [0] hx rfl (convOs_box rfl hcv) ⟨rfl, rfl⟩ hho (by simp) (by decide) ⟨by simp, hP, trivial⟩ (by simp) ?_
        simp (maxSteps := 1000000) [hho, noHo, ew, hreb, -List.reduceReplicate]
        exact Ret.same ⟨by rw [hp0 hp], rfl⟩
      | false =>
        rw [hp] at hx
        simp (maxSteps := 1000000) [slotsOf, hho, noHo, hjl, hat, e0, hg, hm, -List.reduceReplicate]
        refine call_x [0] hx rfl (convOs_box rfl hcv) ⟨rfl, rfl⟩ hho (by simp) (by decide) ⟨by simp, hP, trivial⟩ (by simp) ?_
        simp (maxSteps := 1000000) [hho, noHo, ew, hreb, -List.reduceReplicate]
        refine round_next (j + 1) ⟨by omega, hI1 hp⟩ (by omega) ?_
        exact wk_eq (by simp [hE, lens]) (by simp) (by simp [livH, livO, AV.livL, AV.liv, wkL, wkV, List.range', slotsOf])
    · obtain rfl : j = l.length := by omega
      simp (maxSteps := 1000000) [slotsOf, hho, noHo, -List.reduceReplicate]
      exact Ret.same ⟨by rw [ixF_none fun k hk => hI k hk hk], rfl⟩
end Go.Proofs.YtcjncgfhkgcbnaaDoor
namespace Go.Proofs.YtcjncgfhkgcbnaaDoor
set_option linter.unusedVariables false
set_option linter.unusedSimpArgs false
open Go.RowKit
attribute [local simp] isCut_nil isCut_region isCut_seq isCut_block isCut_loop isCut_cond isCut_skip isCut_exit isCut_ret isCut_range swapK putK altK condK_bool pickP_bool stepP stepO onPure_some onPure_none onImpl_some onImpl_none stepC onGP_some onGP_none onGV_some condG mkG onIt_it nextP_ptr takeP_eq takeV_some takeV_none takeU_some takeU_none takeQ takeW_some takeN_none takeN_some takeG_some takeO_some altO_some pureV binV2 eqF eqOp ovlV ovl2 rowAt capV binV intBin strBin isSh shV fldV ixV sliceV slice3V loadAV nilV lenV callV unV convV viewS cellsH loadV fldCut AV.ung AV.ungs AV.gc AV.cells AS.ev AS.put anyS gcsV gcO lens lnO gV guardV retK RetP_eq resV oneV anyRo loIx hiIx implO callP_clo evL gcsL clearV storeAV AS.push AS.setO appV appZ shortS copyV buildV partsV fillV srcV fzO okV isCell_c isCell_ptr isCell_sl isCell_fs isCell_fp isCell_clo rowZ_one rowZ_zero rowZ_2 rowZ_3 rowZ_4 rowZ_5 rowZ_6 rowZ_7 rowZ_8 rowZ_9 rowZ_10 rowZ_11 rowZ_12 noHo Value.oneCell' max2V min2V lookV updV lenM msAt afterH putBack frzFrom frzO rebO backIx nilEq_sl nilEq_fs nilOp_eql nilOp_neq AV.reb AV.rebL
attribute [local simp ↓] runK_skip runK_region runK_draw runK_seq runK_cut runK_cond runK_block runK_loop runK_exit runK_label runK_goto runK_ret runK_range contK_nil contK_seq contK_seq_ret contK_seq_exit contK_seq_goto contK_block contK_block_ret contK_block_goto contK_block_exit runO_nil runO_cons roundK_exit roundK_ret roundK_goto exitK_ret cutK_ret cutK_exit runE_done runE_nil runE_take runE_alt condG_true condG_false
set_option maxRecDepth 10000
def thereB (st : Int) : Bool := decide (1 ≤ st) && decide (st ≤ 3)
def colOk (c : ColS) : Bool := nameOk c.name && ofOk c.dft c.ty && thereB c.st
def partsOk (ids : List Int) : List Int → List Int → Bool
  | _, [] => true
  | w, c :: l => memI ids c && !memI w c && partsOk ids (w ++ [c]) l
theorem partsOk_step (ids : List Int) (l : List Int) (j : Nat) (hj : j < l.length) : partsOk ids (l.take j) (l.drop j) = (memI ids l[j] && !memI (l.take j) l[j] && partsOk ids (l.take (j + 1)) (l.drop (j + 1))) := by
  rw [← List.getElem_cons_drop hj, partsOk, List.take_succ_eq_append_getElem hj]
def idxOk (t : TabS) (x : IdxS) : Bool := nameOk x.name && thereB x.st && decide (1 ≤ x.cols.length) && decide (x.cols.length ≤ 4) && partsOk (t.cols.map ColS.id) [] x.cols
def pubC (l : List ColS) : List ColS := l.filter fun c => decide (c.st = 3)
def tabOk (t : TabS) (next : Int) : Bool := nameOk t.name && decide (t.cols.length ≤ 12) && decide (t.idxs.length ≤ 8) && decide ((pubC t.cols).length ≠ 0) && (risB next (-1) (t.cols.map ColS.id) && risB next (-1) (t.idxs.map IdxS.id)) && (unlB [] ((pubC t.cols).map ColS.name) && unlB [] (t.idxs.map IdxS.name)) && t.cols.all colOk && t.idxs.all (idxOk t)
def schOk (s : SchS) : Bool := decide (0 ≤ s.ver) && decide (0 ≤ s.next) && decide (s.tabs.length ≤ 8) && risB s.next (-1) (s.tabs.map TabS.id) && unlB [] (s.tabs.map TabS.name) && s.tabs.all fun t => tabOk t s.next
def ColFit (c : ColS) : Prop := c.name.size ≤ 100 ∧ c.dft.t.size ≤ 300
def IdxFit (x : IdxS) : Prop := x.name.size ≤ 100 ∧ x.cols.length ≤ 20
def TabFit (t : TabS) : Prop := t.name.size ≤ 100 ∧ t.cols.length ≤ 20 ∧ t.idxs.length ≤ 20 ∧ (∀ c ∈ t.cols, ColFit c) ∧ ∀ x ∈ t.idxs, IdxFit x
def SchFit (s : SchS) : Prop := s.tabs.length ≤ 20 ∧ ∀ t ∈ s.tabs, TabFit t
theorem ixF_id (l : List ColS) (k : Int) : ixF (fun c : ColS => decide (c.id = k)) l < 0 ↔ memI (l.map ColS.id) k = false := by
  have h := ixF_any (fun c : ColS => decide (c.id = k)) l
  have e : l.any (fun c : ColS => decide (c.id = k)) = memI (l.map ColS.id) k := by
    rw [Bool.eq_iff_iff]
    simp only [memI, List.any_eq_true, List.mem_map, decide_eq_true_eq]
    constructor
    · rintro ⟨x, h1, h3⟩; exact ⟨_, ⟨x, h1, rfl⟩, h3.symm⟩
    · rintro ⟨_, ⟨x, h1, rfl⟩, h3⟩; exact ⟨x, h1, h3.symm⟩
  rw [e] at h
  rw [← h]
  simp
theorem there_r12 (st : Int) : ACalls Tryd.prog 77 [.c (.int .i64 st)] [] (fun _ => false) (fun r h' => r = .c (.bool (thereB st)) ∧ h' = []) := by
  refine acalls mixed Tryd.func77 rfl Tryd.ntmps77 rfl fun E hE hst hho => ?_
  have hb : thereB st = (decide (st = 1) || decide (st = 2) || decide (st = 3)) := by
    rw [Bool.eq_iff_iff]; simp [thereB]; omega
  by_cases h1 : st = 1
  · simp (maxSteps := 1000000) [hho, noHo, h1, undef, onGP_none, condG_false, -List.reduceReplicate]
    exact Ret.same ⟨rfl, rfl⟩
  · by_cases h2 : st = 2
    · simp (maxSteps := 1000000) [hho, noHo, h1, h2, undef, onGP_none, condG_false, -List.reduceReplicate]
      exact Ret.same ⟨rfl, rfl⟩
    · simp (maxSteps := 1000000) [hho, noHo, h1, h2, undef, onGP_none, condG_false, -List.reduceReplicate]
      exact Ret.same ⟨by rw [hb]; simp [h1, h2], rfl⟩
theorem scColumnId_1_w (x : ColS) (k : Int) : ACalls Tryd.prog 107 [.agg (colA x), .ptr 0 0 1] [.o .box [.c (.int .i64 k)]] (fun k => decide (k < 1)) (fun r h' => r = .c (.bool (decide (x.id = k))) ∧ h' = [.o .box [.c (.int .i64 k)]]) := by
  refine acalls mixed Tryd.func107 rfl Tryd.ntmps107 rfl fun E hE hst hho => ?_
  simp (maxSteps := 1000000) [colA, hho, noHo, -List.reduceReplicate]
  refine Ret.sel [0] (fun _ => false) (ho := by rfl) (ha := by rfl) ?_ ?_ (by decide) (by simp) (fun i _ h => ?_) ⟨?_, rfl⟩
  · simp
  · simp
  · have e : i = 0 := of_decide_eq_true h
    subst e; rfl
  · rfl
theorem scColumnId_w (t : TabS) (k : Int) (hl : t.cols.length ≤ 1000000) : ACalls Tryd.prog 102 [.agg (tabA t), .c (.int .i64 k)] [] (fun _ => false) (fun r h' => r = .c (.int .i64 (ixF (fun x : ColS => decide (x.id = k)) t.cols)) ∧ h' = []) := by
  refine acalls mixed Tryd.func102 rfl Tryd.ntmps102 rfl fun E hE hst hho => ?_
  have hic := ifc_col t.cols (fun x : ColS => decide (x.id = k)) 107 (by simp) [.c (.int .i64 k)] 1 rfl rfl hl fun x _ => scColumnId_1_w x k
  simp (maxSteps := 1000000) [tabA, hho, noHo, -List.reduceReplicate]
  refine call_x [1] hic rfl rfl ⟨rfl, rfl⟩ hho (by simp) (by decide) (by simp) (by simp) ?_
  simp (maxSteps := 1000000) [hho, noHo, -List.reduceReplicate]
  exact Ret.drop (by rfl) ⟨rfl, rfl⟩
def rowCol (l : List ColS) : AObj := .o (.row 59 10) (colsA l)
def liveCol (p : ColS → Bool) (l : List ColS) : List ColS := l.filter fun x => !p x
theorem ixFC_cases {α : Type} (p : α → Bool) (l : List α) : (∃ i : Nat, ∃ hi : i < l.length, ixF p l = i ∧ (∀ k (hk : k < l.length), k < i → p l[k] = false) ∧ p l[i] = true) ∨ (ixF p l = -1 ∧ ∀ k (hk : k < l.length), p l[k] = false) := by
  unfold ixF
  cases h : l.findIdx? p with
  | none =>
    refine .inr ⟨rfl, fun k hk => ?_⟩
    rw [List.findIdx?_eq_none_iff] at h
    exact h _ (List.getElem_mem hk)
  | some i =>
    rw [List.findIdx?_eq_some_iff_getElem] at h
    obtain ⟨hi, h1, h2⟩ := h
    exact .inl ⟨i, hi, rfl, fun k hk hki => by simpa using h2 k hki, h1⟩
end Go.Proofs.YtcjncgfhkgcbnaaDoor
namespace Go.Proofs.YtcjncgfhkgcbnaaDoor
set_option linter.unusedVariables false
set_option linter.unusedSimpArgs false
open Go.RowKit
attribute [local simp] isCut_nil isCut_region isCut_seq isCut_block isCut_loop isCut_cond isCut_skip isCut_exit isCut_ret isCut_range swapK putK altK condK_bool pickP_bool stepP stepO onPure_some onPure_none onImpl_some onImpl_none stepC onGP_some onGP_none onGV_some condG mkG onIt_it nextP_ptr takeP_eq takeV_some takeV_none takeU_some takeU_none takeQ takeW_some takeN_none takeN_some takeG_some takeO_some altO_some pureV binV2 eqF eqOp ovlV ovl2 rowAt capV binV intBin strBin isSh shV fldV ixV sliceV slice3V loadAV nilV lenV callV unV convV viewS cellsH loadV fldCut AV.ung AV.ungs AV.gc AV.cells AS.ev AS.put anyS gcsV gcO lens lnO gV guardV retK RetP_eq resV oneV anyRo loIx hiIx implO callP_clo evL gcsL clearV storeAV AS.push AS.setO appV appZ shortS copyV buildV partsV fillV srcV fzO okV isCell_c isCell_ptr isCell_sl isCell_fs isCell_fp isCell_clo rowZ_one rowZ_zero rowZ_2 rowZ_3 rowZ_4 rowZ_5 rowZ_6 rowZ_7 rowZ_8 rowZ_9 rowZ_10 rowZ_11 rowZ_12 noHo Value.oneCell' max2V min2V lookV updV lenM msAt afterH putBack frzFrom frzO rebO backIx nilEq_sl nilEq_fs nilOp_eql nilOp_neq AV.reb AV.rebL
attribute [local simp ↓] runK_skip runK_region runK_draw runK_seq runK_cut runK_cond runK_block runK_loop runK_exit runK_label runK_goto runK_ret runK_range contK_nil contK_seq contK_seq_ret contK_seq_exit contK_seq_goto contK_block contK_block_ret contK_block_goto contK_block_exit runO_nil runO_cons roundK_exit roundK_ret roundK_goto exitK_ret cutK_ret cutK_exit runE_done runE_nil runE_take runE_alt condG_true condG_false
set_option maxRecDepth 10000
theorem intsA_cut (l : List Int) (j : Nat) : List.take j (intsA l) = intsA (l.take j) := by simp [intsA]
structure TabBig (t : TabS) : Prop where
  cl : t.cols.length ≤ 1000000
  il : t.idxs.length ≤ 1000000
  nm : t.name.size ≤ 9000000000000000000
  cn : ∀ c ∈ t.cols, c.name.size ≤ 9000000000000000000 ∧ c.dft.t.size ≤ 9000000000000000000
  xn : ∀ x ∈ t.idxs, x.name.size ≤ 9000000000000000000 ∧ x.cols.length ≤ 1000000
theorem all_step {α : Type} (p : α → Bool) (l : List α) (j : Nat) (hj : j < l.length) : (l.drop j).all p = (p l[j] && (l.drop (j + 1)).all p) := by
  rw [← List.getElem_cons_drop hj, List.all_cons]
end Go.Proofs.YtcjncgfhkgcbnaaDoor
