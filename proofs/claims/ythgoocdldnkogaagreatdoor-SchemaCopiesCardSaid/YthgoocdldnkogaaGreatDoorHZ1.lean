import Derived.Test.YthgoocdldnkogaaGreatDoorHV
import Derived.Test.YthgoocdldnkogaaGreatDoorIx
import Derived.Test.YthgoocdldnkogaaGreatDoorOpnR
import Derived.Test.YthgoocdldnkogaaGreatDoorCv
import Derived.Test.YthgoocdldnkogaaGreatDoorH6
namespace Go.Proofs.YthgoocdldnkogaaGreatDoor
set_option linter.unusedVariables false
set_option linter.unusedSimpArgs false
open Go.RowKit Go.ChangeShapes Go.WideShapes Go.ChangeAt
attribute [local simp] isCut_nil isCut_region isCut_seq isCut_block isCut_loop isCut_cond isCut_skip isCut_exit isCut_ret isCut_range swapK putK altK condK_bool pickP_bool stepP stepO onPure_some onPure_none onImpl_some onImpl_none stepC onGP_some onGP_none onGV_some condG mkG onIt_it nextP_ptr takeP_eq takeV_some takeV_none takeU_some takeU_none takeQ takeW_some takeN_none takeN_some takeG_some takeO_some altO_some pureV binV2 eqF eqOp ovlV ovl2 rowAt capV binV intBin strBin isSh shV fldV ixV sliceV slice3V loadAV nilV lenV callV unV convV viewS cellsH loadV fldCut AV.ung AV.ungs AV.gc AV.cells AS.ev AS.put anyS gcsV gcO lens lnO gV guardV retK RetP_eq resV oneV anyRo loIx hiIx implO callP_clo evL gcsL clearV storeAV AS.push AS.setO appV appZ shortS copyV buildV partsV fillV srcV fzO okV isCell_c isCell_ptr isCell_sl isCell_fs isCell_fp isCell_clo rowZ_one rowZ_zero rowZ_2 rowZ_3 rowZ_4 rowZ_5 rowZ_6 rowZ_7 rowZ_8 rowZ_9 rowZ_10 rowZ_11 rowZ_12 noHo Value.oneCell' max2V min2V lookV updV updK updW cvals mkAt basV lenM msAt afterH putBack frzFrom frzO rebO backIx nilEq_sl nilEq_fs nilEq_ifn nilEq_ifh ifOp_eql ifOp_neq isLit nilOp_eql nilOp_neq AV.reb AV.rebL
attribute [local simp ↓] runK_skip runK_region runK_draw runK_seq runK_cut runK_cond runK_block runK_loop runK_exit runK_label runK_goto runK_ret runK_range contK_nil contK_seq contK_seq_ret contK_seq_exit contK_seq_goto contK_block contK_block_ret contK_block_goto contK_block_exit runO_nil runO_cons roundK_exit roundK_ret roundK_goto exitK_ret cutK_ret cutK_exit runE_done runE_nil runE_take runE_alt condG_true condG_false
set_option maxRecDepth 10000
structure ColS where
 id : Int
 name : ByteArray
 ty : TypS
 nn : Bool
 dft : ValS
 st : Int
structure IdxS where
 id : Int
 name : ByteArray
 cols : List Int
 uniq : Bool
 st : Int
structure TabS where
 id : Int
 name : ByteArray
 cols : List ColS
 idxs : List IdxS
structure SchS where
 ver : Int
 next : Int
 tabs : List TabS
def colA (c : ColS) : List AV := [.c (.int .i64 c.id), .c (.string c.name), .c (.int .i64 c.ty.k), .c (.int .i64 c.ty.s), .c (.bool c.nn), .c (.int .i64 c.dft.k), .c (.int .i64 c.dft.n), .c (.int .i64 c.dft.s), .c (.string c.dft.t), .c (.int .i64 c.st)]
def idxA (x : IdxS) : List AV := [.c (.int .i64 x.id), .c (.string x.name), .fs 1 x.cols.length (intsA x.cols), .c (.bool x.uniq), .c (.int .i64 x.st)]
@[simp] theorem colA_length (x : ColS) : (colA x).length = 10 := rfl
@[simp] theorem colA_take (x : ColS) : List.take 10 (colA x) = colA x := rfl
def colsA (l : List ColS) : List AV := l.flatMap colA
@[simp] theorem colsA_length (l : List ColS) : (colsA l).length = l.length * 10 := flat_length colA 10 (by simp) l
theorem colsA_at (l : List ColS) (j : Nat) (hj : j < l.length) : List.take 10 (List.drop (j * 10) (colsA l)) = colA l[j] := flat_at colA 10 (by simp) l j hj
theorem colsA_app (a b : List ColS) : colsA (a ++ b) = colsA a ++ colsA b := by simp [colsA]
theorem colsA_one (x : ColS) : colsA [x] = colA x := by simp [colsA]
theorem colsA_snoc (l : List ColS) (x : ColS) : colsA (l ++ [x]) = colsA l ++ colA x := by rw [colsA_app, colsA_one]
@[simp] theorem colA_all (x : ColS) : (∀ a ∈ colA x, isD a = true) ↔ True := iff_true_intro <| by simp [colA, isD]
@[simp] theorem colA_cell (x : ColS) : (∀ a ∈ colA x, isCell a = true) ↔ True := iff_true_intro <| by simp [colA, isCell_c, isCell_fs, Value.oneCell']
@[simp] theorem colsA_all (l : List ColS) : (∀ x ∈ colsA l, isD x = true) ↔ True := iff_true_intro <| by
 intro x hx
 simp only [colsA, List.mem_flatMap] at hx
 obtain ⟨b, _, hx⟩ := hx
 exact (colA_all b).2 trivial x hx
@[simp] theorem colsA_cell (l : List ColS) : (∀ x ∈ colsA l, isCell x = true) ↔ True := iff_true_intro <| by
 intro x hx
 simp only [colsA, List.mem_flatMap] at hx
 obtain ⟨b, _, hx⟩ := hx
 exact (colA_cell b).2 trivial x hx
theorem colsA_set (l : List ColS) (j : Nat) (hj : j < l.length) (y : ColS) : List.take (j * 10) (colsA l) ++ (colA y ++ List.drop (j * 10 + 10) (colsA l)) = colsA (l.set j y) := by
 rw [← List.append_assoc]; exact flat_set colA 10 (by simp) l j hj y
theorem colsA_cut (l : List ColS) (j : Nat) : List.take (j * 10) (colsA l) = colsA (l.take j) := flat_take colA 10 (by simp) l j
@[simp] theorem idxA_length (x : IdxS) : (idxA x).length = 5 := rfl
@[simp] theorem idxA_take (x : IdxS) : List.take 5 (idxA x) = idxA x := rfl
def idxsA (l : List IdxS) : List AV := l.flatMap idxA
@[simp] theorem idxsA_length (l : List IdxS) : (idxsA l).length = l.length * 5 := flat_length idxA 5 (by simp) l
theorem idxsA_at (l : List IdxS) (j : Nat) (hj : j < l.length) : List.take 5 (List.drop (j * 5) (idxsA l)) = idxA l[j] := flat_at idxA 5 (by simp) l j hj
theorem idxsA_app (a b : List IdxS) : idxsA (a ++ b) = idxsA a ++ idxsA b := by simp [idxsA]
theorem idxsA_one (x : IdxS) : idxsA [x] = idxA x := by simp [idxsA]
theorem idxsA_snoc (l : List IdxS) (x : IdxS) : idxsA (l ++ [x]) = idxsA l ++ idxA x := by rw [idxsA_app, idxsA_one]
@[simp] theorem idxA_all (x : IdxS) : (∀ a ∈ idxA x, isD a = true) ↔ True := iff_true_intro <| by simp [idxA, isD]
@[simp] theorem idxA_cell (x : IdxS) : (∀ a ∈ idxA x, isCell a = true) ↔ True := iff_true_intro <| by simp [idxA, isCell_c, isCell_fs, Value.oneCell']
@[simp] theorem idxsA_all (l : List IdxS) : (∀ x ∈ idxsA l, isD x = true) ↔ True := iff_true_intro <| by
 intro x hx
 simp only [idxsA, List.mem_flatMap] at hx
 obtain ⟨b, _, hx⟩ := hx
 exact (idxA_all b).2 trivial x hx
@[simp] theorem idxsA_cell (l : List IdxS) : (∀ x ∈ idxsA l, isCell x = true) ↔ True := iff_true_intro <| by
 intro x hx
 simp only [idxsA, List.mem_flatMap] at hx
 obtain ⟨b, _, hx⟩ := hx
 exact (idxA_cell b).2 trivial x hx
def tabA (t : TabS) : List AV := [.c (.int .i64 t.id), .c (.string t.name), .fs 10 t.cols.length (colsA t.cols), .fs 5 t.idxs.length (idxsA t.idxs)]
@[simp] theorem tabA_length (x : TabS) : (tabA x).length = 4 := rfl
@[simp] theorem tabA_take (x : TabS) : List.take 4 (tabA x) = tabA x := rfl
def tabsA (l : List TabS) : List AV := l.flatMap tabA
@[simp] theorem tabsA_length (l : List TabS) : (tabsA l).length = l.length * 4 := flat_length tabA 4 (by simp) l
theorem tabsA_at (l : List TabS) (j : Nat) (hj : j < l.length) : List.take 4 (List.drop (j * 4) (tabsA l)) = tabA l[j] := flat_at tabA 4 (by simp) l j hj
theorem tabsA_app (a b : List TabS) : tabsA (a ++ b) = tabsA a ++ tabsA b := by simp [tabsA]
theorem tabsA_one (x : TabS) : tabsA [x] = tabA x := by simp [tabsA]
theorem tabsA_snoc (l : List TabS) (x : TabS) : tabsA (l ++ [x]) = tabsA l ++ tabA x := by rw [tabsA_app, tabsA_one]
@[simp] theorem tabA_all (x : TabS) : (∀ a ∈ tabA x, isD a = true) ↔ True := iff_true_intro <| by simp [tabA, isD]
@[simp] theorem tabA_cell (x : TabS) : (∀ a ∈ tabA x, isCell a = true) ↔ True := iff_true_intro <| by simp [tabA, isCell_c, isCell_fs, Value.oneCell']
@[simp] theorem tabsA_all (l : List TabS) : (∀ x ∈ tabsA l, isD x = true) ↔ True := iff_true_intro <| by
 intro x hx
 simp only [tabsA, List.mem_flatMap] at hx
 obtain ⟨b, _, hx⟩ := hx
 exact (tabA_all b).2 trivial x hx
@[simp] theorem tabsA_cell (l : List TabS) : (∀ x ∈ tabsA l, isCell x = true) ↔ True := iff_true_intro <| by
 intro x hx
 simp only [tabsA, List.mem_flatMap] at hx
 obtain ⟨b, _, hx⟩ := hx
 exact (tabA_cell b).2 trivial x hx
def schA (s : SchS) : List AV := [.c (.int .i64 s.ver), .c (.int .i64 s.next), .fs 4 s.tabs.length (tabsA s.tabs)]
@[simp] theorem schA_length (s : SchS) : (schA s).length = 3 := rfl
@[simp] theorem schA_take (s : SchS) : List.take 3 (schA s) = schA s := rfl
def ColS.Ok (c : ColS) : Prop := i64v c.id ∧ c.name.size ≤ maxLen ∧ c.ty.Ok ∧ c.dft.Ok ∧ i64v c.st
def IdxS.Ok (x : IdxS) : Prop := i64v x.id ∧ x.name.size ≤ maxLen ∧ (∀ k ∈ x.cols, i64v k) ∧ i64v x.st
def TabS.Ok (t : TabS) : Prop := i64v t.id ∧ t.name.size ≤ maxLen ∧ (∀ c ∈ t.cols, c.Ok) ∧ ∀ x ∈ t.idxs, x.Ok
def SchS.Ok (s : SchS) : Prop := i64v s.ver ∧ i64v s.next ∧ ∀ t ∈ s.tabs, t.Ok
theorem flat_intsA (l : List Int) : l.flatMap (fun b => [AV.c (.int .i64 b)]) = intsA l := by
 induction l with
 | nil => rfl
 | cons b l ih => rw [List.flatMap_cons, ih]; rfl
def opnIntL : Opn Tryz.prog 47 (List Int) :=
 (opnSlice opnI 1 Tryz.underlying47 (by kernel_rfl) (by kernel_rfl) (by decide)).map id (fun l => [.fs 1 l.length (intsA l)]) (fun l => ∀ k ∈ l, i64v k) (fun l => by simp only [opnSlice, opnI, opnInt, id]; rw [flat_intsA]) (fun l h => fun k hk => bounds_i64 (h.2 k hk)) fun _ => by kernel_rfl
def opnColState : Opn Tryz.prog 42 Int := opnInt .i64 Tryz.underlying42 (by kernel_rfl)
def opnCol : Opn Tryz.prog 44 ColS :=
 (opnStruct Tryz.underlying44 rfl (opnCons 1 opnI (by kernel_rfl) rfl (opnCons 1 opnStr (by kernel_rfl) rfl (opnCons 2 opnTyp (by kernel_rfl) rfl (opnCons 1 opnBo (by kernel_rfl) rfl (opnCons 4 opnVal (by kernel_rfl) rfl (opnCons 1 opnColState (by kernel_rfl) rfl (opnNil 10))))))) (by kernel_rfl)).map
  (fun x : Int × ByteArray × TypS × Bool × ValS × Int × Unit => (⟨x.1, x.2.1, x.2.2.1, x.2.2.2.1, x.2.2.2.2.1, x.2.2.2.2.2.1⟩ : ColS)) colA ColS.Ok (fun _ => rfl) (fun x h => ⟨bounds_i64 h.1, h.2.1, h.2.2.1, h.2.2.2.2.1, bounds_i64 h.2.2.2.2.2.1⟩) fun _ => by kernel_rfl
def opnCols : Opn Tryz.prog 25 (List ColS) := (opnSlice opnCol 10 Tryz.underlying25 (by kernel_rfl) (by kernel_rfl) (by decide)).map id (fun l => [.fs 10 l.length (colsA l)]) (fun l => ∀ x ∈ l, x.Ok) (fun _ => rfl) (fun _ h => h.2) fun _ => by kernel_rfl
def opnIdx : Opn Tryz.prog 49 IdxS :=
 (opnStruct Tryz.underlying49 rfl (opnCons 1 opnI (by kernel_rfl) rfl (opnCons 1 opnStr (by kernel_rfl) rfl (opnCons 1 opnIntL (by kernel_rfl) rfl (opnCons 1 opnBo (by kernel_rfl) rfl (opnCons 1 opnColState (by kernel_rfl) rfl (opnNil 5)))))) (by kernel_rfl)).map
  (fun x : Int × ByteArray × List Int × Bool × Int × Unit => (⟨x.1, x.2.1, x.2.2.1, x.2.2.2.1, x.2.2.2.2.1⟩ : IdxS)) idxA IdxS.Ok (fun _ => rfl) (fun x h => ⟨bounds_i64 h.1, h.2.1, h.2.2.1, bounds_i64 h.2.2.2.2.1⟩) fun _ => by kernel_rfl
def opnIdxs : Opn Tryz.prog 26 (List IdxS) := (opnSlice opnIdx 5 Tryz.underlying26 (by kernel_rfl) (by kernel_rfl) (by decide)).map id (fun l => [.fs 5 l.length (idxsA l)]) (fun l => ∀ x ∈ l, x.Ok) (fun _ => rfl) (fun _ h => h.2) fun _ => by kernel_rfl
def opnTab : Opn Tryz.prog 28 TabS :=
 (opnStruct Tryz.underlying28 rfl (opnCons 1 opnI (by kernel_rfl) rfl (opnCons 1 opnStr (by kernel_rfl) rfl (opnCons 1 opnCols (by kernel_rfl) rfl (opnCons 1 opnIdxs (by kernel_rfl) rfl (opnNil 4))))) (by kernel_rfl)).map
  (fun x : Int × ByteArray × List ColS × List IdxS × Unit => (⟨x.1, x.2.1, x.2.2.1, x.2.2.2.1⟩ : TabS)) tabA TabS.Ok (fun _ => rfl) (fun x h => ⟨bounds_i64 h.1, h.2.1, h.2.2.1, h.2.2.2.1⟩) fun _ => by kernel_rfl
def opnTabs : Opn Tryz.prog 22 (List TabS) := (opnSlice opnTab 4 Tryz.underlying22 (by kernel_rfl) (by kernel_rfl) (by decide)).map id (fun l => [.fs 4 l.length (tabsA l)]) (fun l => ∀ x ∈ l, x.Ok) (fun _ => rfl) (fun _ h => h.2) fun _ => by kernel_rfl
def opnSch : Opn Tryz.prog 24 SchS :=
 (opnStruct Tryz.underlying24 rfl (opnCons 1 opnI (by kernel_rfl) rfl (opnCons 1 opnI (by kernel_rfl) rfl (opnCons 1 opnTabs (by kernel_rfl) rfl (opnNil 3)))) (by kernel_rfl)).map
  (fun x : Int × Int × List TabS × Unit => (⟨x.1, x.2.1, x.2.2.1⟩ : SchS)) schA SchS.Ok (fun _ => rfl) (fun x h => ⟨bounds_i64 h.1, bounds_i64 h.2.1, h.2.2.1⟩) fun _ => by kernel_rfl
end Go.Proofs.YthgoocdldnkogaaGreatDoor
namespace Go.Proofs.YthgoocdldnkogaaGreatDoor
set_option linter.unusedVariables false
set_option linter.unusedSimpArgs false
open Go.RowKit
attribute [local simp] isCut_nil isCut_region isCut_seq isCut_block isCut_loop isCut_cond isCut_skip isCut_exit isCut_ret isCut_range swapK putK altK condK_bool pickP_bool stepP stepO onPure_some onPure_none onImpl_some onImpl_none stepC onGP_some onGP_none onGV_some condG mkG onIt_it nextP_ptr takeP_eq takeV_some takeV_none takeU_some takeU_none takeQ takeW_some takeN_none takeN_some takeG_some takeO_some altO_some pureV binV2 eqF eqOp ovlV ovl2 rowAt capV binV intBin strBin isSh shV fldV ixV sliceV slice3V loadAV nilV lenV callV unV convV viewS cellsH loadV fldCut AV.ung AV.ungs AV.gc AV.cells AS.ev AS.put anyS gcsV gcO lens lnO gV guardV retK RetP_eq resV oneV anyRo loIx hiIx implO callP_clo evL gcsL clearV storeAV AS.push AS.setO appV appZ shortS copyV buildV partsV fillV srcV fzO okV isCell_c isCell_ptr isCell_sl isCell_fs isCell_fp isCell_clo rowZ_one rowZ_zero rowZ_2 rowZ_3 rowZ_4 rowZ_5 rowZ_6 rowZ_7 rowZ_8 rowZ_9 rowZ_10 rowZ_11 rowZ_12 noHo Value.oneCell' max2V min2V lookV updV updK updW cvals mkAt basV lenM msAt afterH putBack frzFrom frzO rebO backIx nilEq_sl nilEq_fs nilEq_ifn nilEq_ifh ifOp_eql ifOp_neq isLit nilOp_eql nilOp_neq AV.reb AV.rebL
attribute [local simp ↓] runK_skip runK_region runK_draw runK_seq runK_cut runK_cond runK_block runK_loop runK_exit runK_label runK_goto runK_ret runK_range contK_nil contK_seq contK_seq_ret contK_seq_exit contK_seq_goto contK_block contK_block_ret contK_block_goto contK_block_exit runO_nil runO_cons roundK_exit roundK_ret roundK_goto exitK_ret cutK_ret cutK_exit runE_done runE_nil runE_take runE_alt condG_true condG_false
set_option maxRecDepth 10000
def risB (b : Int) : Int → List Int → Bool
 | _, [] => true
 | w, x :: l => decide (w < x) && decide (x < b) && risB b x l
def lastI (w : Int) (l : List Int) : Int := l.getLast?.getD w
theorem lastI_cons (w x : Int) (l : List Int) : lastI w (x :: l) = lastI x l := by
 unfold lastI
 cases l with
 | nil => rfl
 | cons y l => rw [List.getLast?_cons_cons]; cases h : (y :: l).getLast? with
  | none => simp at h
  | some z => rfl
theorem risB_app (b : Int) : ∀ (w : Int) (l m : List Int), risB b w (l ++ m) = (risB b w l && risB b (lastI w l) m)
 | w, [], m => by simp [risB, lastI]
 | w, x :: l, m => by simp only [List.cons_append, risB, risB_app b x l m, lastI_cons, Bool.and_assoc]
theorem risB_step (b : Int) (l : List Int) (j : Nat) (hj : j < l.length) (h : risB b (-1) (l.take j) = true) : risB b (-1) (l.take (j + 1)) = (decide (lastI (-1) (l.take j) < l[j]) && decide (l[j] < b)) := by
 rw [List.take_succ_eq_append_getElem hj, risB_app, h]
 simp [risB]
theorem risB_cut (b : Int) {l : List Int} (j : Nat) (h : risB b (-1) l = true) : risB b (-1) (l.take j) = true := by
 have e : l = l.take j ++ l.drop j := (List.take_append_drop j l).symm
 rw [e, risB_app, Bool.and_eq_true] at h
 exact h.1
theorem lastI_take (w : Int) (l : List Int) (j : Nat) (hj : j < l.length) : lastI w (l.take (j + 1)) = l[j] := by
 unfold lastI
 rw [List.take_succ_eq_append_getElem hj, List.getLast?_concat]; rfl
def memS (l : List ByteArray) (v : ByteArray) : Bool := l.any fun x => decide (v = x)
def unlB : List ByteArray → List ByteArray → Bool
 | _, [] => true
 | w, x :: l => !memS w x && unlB (w ++ [x]) l
theorem unlB_step (l : List ByteArray) (j : Nat) (hj : j < l.length) : unlB (l.take j) (l.drop j) = (!memS (l.take j) l[j] && unlB (l.take (j + 1)) (l.drop (j + 1))) := by
 rw [← List.getElem_cons_drop hj, unlB, List.take_succ_eq_append_getElem hj]
def seenM (l : List ByteArray) : List (ByteArray × Value) := l.map fun x => (x, .bool true)
theorem beqB (a b : ByteArray) : (a == b) = decide (a = b) := by
 rw [Bool.eq_iff_iff, MapKept.bytes_beq, decide_eq_true_eq]
theorem findS_seen (v : ByteArray) : ∀ (l : List ByteArray) (i : Nat), findS v (seenM l) i = none ↔ memS l v = false
 | [], i => by simp [seenM, findS, memS]
 | x :: l, i => by
  have ih := findS_seen v l (i + 1)
  simp only [seenM, List.map_cons, findS, memS, List.any_cons] at ih ⊢
  by_cases h : v = x
  ·subst h; simp [beqB]
  ·have : (v == x) = false := by rw [beqB]; exact decide_eq_false h
   simp [this, h, ih]
theorem lookS_seen (v : ByteArray) (l : List ByteArray) (h : memS l v = false) : lookS (seenM l) v = none := by
 unfold lookS
 rw [(findS_seen v l 0).2 h]; rfl
theorem findS_hit (v : ByteArray) : ∀ (l : List ByteArray) (i : Nat), memS l v = true → ∃ k, findS v (seenM l) i = some (k, .bool true)
 | [], i, h => by simp [memS] at h
 | x :: l, i, h => by
  by_cases e : v = x
  ·subst e; exact ⟨i, by simp [seenM, findS, beqB]⟩
  ·have h2 : memS l v = true := by simpa [memS, e] using h
   obtain ⟨k, hk⟩ := findS_hit v l (i + 1) h2
   have : (v == x) = false := by rw [beqB]; exact decide_eq_false e
   exact ⟨k, by simpa [seenM, findS, this] using hk⟩
theorem lookS_hit (v : ByteArray) (l : List ByteArray) (h : memS l v = true) : lookS (seenM l) v = some (.bool true) := by
 unfold lookS
 obtain ⟨k, hk⟩ := findS_hit v l 0 h
 rw [hk]; rfl
theorem updS_seen (v : ByteArray) (l : List ByteArray) (h : memS l v = false) : updS (seenM l) v (.bool true) = seenM (l ++ [v]) := by
 unfold updS
 rw [(findS_seen v l 0).2 h]
 simp [seenM]
set_option maxHeartbeats 4000000 in
theorem ifc_col (l : List ColS) (p : ColS → Bool) (g : FuncId) (hg : callable Tryz.prog g = true) (cs : List AV) (m : Nat) (hm : cs.length = m) (hd : cs.all isD = true) (hl : l.length ≤ 1000000) (hc : ∀ x ∈ l, ACalls Tryz.prog g [.agg (colA x), .ptr 0 0 m] [.o .box cs] (fun k => decide (k < 1)) (fun r h' => r = .c (.bool (p x)) ∧ h' = [.o .box cs])) : ACalls Tryz.prog 105 [.fs 10 l.length (colsA l), .clo (.func g) [] [.ptr 0 0 m]] [.o .box cs] (fun k => decide (k < 1)) (fun r h' => r = .c (.int .i64 (ixF p l)) ∧ h' = [.o .box cs]) := by
 refine acalls mixed Tryz.func105 rfl Tryz.ntmps105 rfl fun E hE hst hho => ?_
 have hreb : ∀ β, AV.rebL β cs = cs := fun β => rebL_isD hd
 obtain ⟨P, hP, hcv⟩ := conv_isD hd
 simp (maxSteps := 1000000) [hho, noHo, hm, -List.reduceReplicate]
 refine loop_k mixed (fun j : Nat => ⟨slotsOf 19 [(0, .fs 10 l.length (colsA l)), (1, .clo (.func g) [] [.ptr 0 0 m]), (7, .c (.int .i64 l.length)), (8, .c (.int .i64 (j : Nat)))], [.o .box cs]⟩) (fun j => l.length - j) (fun j => j ≤ l.length ∧ ∀ k (hk : k < l.length), k < j → p l[k] = false) 0 ⟨Nat.zero_le _, fun k _ h => by omega⟩ ?_ ?_
 ·exact wk_eq (by simp [hE, lens]) (by simp) (by simp [livH, livO, AV.livL, AV.liv, wkL, wkV, List.range', slotsOf])
 ·rintro j ⟨hj, hI⟩
  by_cases hjl : j < l.length
  ·have hat := colsA_at l j hjl
   have ew : IntKind.i64.wrap ((j : Int) + 1) = (j + 1 : Nat) := by rw [IntWalk.i64_in _ (by omega)]; rfl
   have e0 : j * 10 + 10 ≤ l.length * 10 := by omega
   have hx := hc l[j] (List.getElem_mem hjl)
   have hp0 := @ixF_hit _ p l j hjl hI
   have hI1 : p l[j] = false → ∀ k (hk : k < l.length), k < j + 1 → p l[k] = false := fun h k hk hkj => by
    by_cases e : k = j
    ·subst e; exact h
    ·exact hI k hk (by omega)
   obtain ⟨x, hxe⟩ : ∃ x, x = l[j] := ⟨_, rfl⟩
   rw [← hxe] at hat hx hp0 hI1
   cases hp : p x with
   | true =>
    rw [hp] at hx
    simp (maxSteps := 1000000) [slotsOf, hho, noHo, hjl, hat, e0, hg, hm, -List.reduceReplicate]
    refine call_x [0] hx rfl (convOs_box rfl hcv) ⟨rfl, rfl⟩ hho (by simp) (by decide) ⟨by simp, hP, trivial⟩ (by simp) ?_
    simp (maxSteps := 1000000) [hho, noHo, ew, hreb, -List.reduceReplicate]
    exact Ret.same ⟨by rw [hp0 hp], rfl⟩
   | false =>
    rw [hp] at hx
    simp (maxSteps := 1000000) [slotsOf, hho, noHo, hjl, hat, e0, hg, hm, -List.reduceReplicate]
    refine call_x [0] hx rfl (convOs_box rfl hcv) ⟨rfl, rfl⟩ hho (by simp) (by decide) ⟨by simp, hP, trivial⟩ (by simp) ?_
    simp (maxSteps := 1000000) [hho, noHo, ew, hreb, -List.reduceReplicate]
    refine round_next (j + 1) ⟨by omega, hI1 hp⟩ (by omega) ?_
    exact wk_eq (by simp [hE, lens]) (by simp) (by simp [livH, livO, AV.livL, AV.liv, wkL, wkV, List.range', slotsOf])
  ·obtain rfl : j = l.length := by omega
   simp (maxSteps := 1000000) [slotsOf, hho, noHo, -List.reduceReplicate]
   exact Ret.same ⟨by rw [ixF_none fun k hk => hI k hk hk], rfl⟩
set_option maxHeartbeats 4000000 in
theorem rising_col (l : List ColS) (b : Int) (f : ColS → Int) (g : FuncId) (hg : callable Tryz.prog g = true) (hl : l.length ≤ 1000000) (hc : ∀ x ∈ l, ACalls Tryz.prog g [.agg (colA x)] [] (fun _ => false) (fun r h' => r = .c (.int .i64 (f x)) ∧ h' = [])) : ACalls Tryz.prog 128 [.fs 10 l.length (colsA l), .c (.int .i64 b), .clo (.func g) [] []] [] (fun _ => false) (fun r h' => r = .c (.bool (risB b (-1) (l.map f))) ∧ h' = []) := by
 refine acalls mixed Tryz.func128 rfl Tryz.ntmps128 rfl fun E hE hst hho => ?_
 simp (maxSteps := 1000000) [hho, noHo, -List.reduceReplicate]
 refine loop_k mixed (fun j : Nat => ⟨slotsOf 32 [(1, .c (.int .i64 b)), (2, .clo (.func g) [] []), (7, .c (.int .i64 (lastI (-1) ((l.map f).take j)))), (10, .fs 10 l.length (colsA l)), (11, .c (.int .i64 l.length)), (12, .c (.int .i64 (j : Nat)))], []⟩) (fun j => l.length - j) (fun j => j ≤ l.length ∧ risB b (-1) ((l.map f).take j) = true) 0 ⟨Nat.zero_le _, rfl⟩ ?_ ?_
 ·exact wk_eq (by simp [hE, lens]) (by simp) (by simp [livH, livO, AV.livL, AV.liv, wkL, wkV, List.range', slotsOf, lastI])
 ·rintro j ⟨hj, hI⟩
  by_cases hjl : j < l.length
  ·have hat := colsA_at l j hjl
   have ew : IntKind.i64.wrap ((j : Int) + 1) = (j + 1 : Nat) := by rw [IntWalk.i64_in _ (by omega)]; rfl
   have e0 : j * 10 + 10 ≤ l.length * 10 := by omega
   have hx := hc l[j] (List.getElem_mem hjl)
   have hjm : j < (l.map f).length := by simpa using hjl
   have hst1 := risB_step b (l.map f) j hjm hI
   have hla := lastI_take (-1) (l.map f) j hjm
   have hfin : risB b (-1) ((l.map f).take (j + 1)) = false → risB b (-1) (l.map f) = false := fun h => by
    cases ho : risB b (-1) (l.map f) with
    | false => rfl
    | true => rw [risB_cut b (j + 1) ho] at h; cases h
   rw [List.getElem_map] at hst1 hla
   obtain ⟨w, hw⟩ : ∃ w, w = lastI (-1) ((l.map f).take j) := ⟨_, rfl⟩
   rw [← hw] at hst1 ⊢
   obtain ⟨x, hxe⟩ : ∃ x, x = l[j] := ⟨_, rfl⟩
   rw [← hxe] at hat hx hst1 hla
   simp (maxSteps := 1000000) [slotsOf, hho, noHo, hjl, hat, e0, hg, -List.reduceReplicate]
   refine call_x [] hx rfl rfl ⟨rfl, rfl⟩ hho (by simp) (by decide) (by simp) (by simp) ?_
   by_cases h1 : f x ≤ w
   ·simp (maxSteps := 1000000) [slotsOf, hho, noHo, h1, undef, onGP_none, condG_false, -List.reduceReplicate]
    exact Ret.drop (by rfl) ⟨by rw [hfin (by rw [hst1]; simp; omega)], rfl⟩
   ·simp (maxSteps := 1000000) [slotsOf, hho, noHo, h1, hat, hg, -List.reduceReplicate]
    refine call_x [] hx rfl rfl ⟨rfl, rfl⟩ hho (by simp) (by decide) (by simp) (by simp) ?_
    by_cases h2 : b ≤ f x
    ·simp (maxSteps := 1000000) [slotsOf, hho, noHo, h2, -List.reduceReplicate]
     exact Ret.drop (by rfl) ⟨by rw [hfin (by rw [hst1]; simp; omega)], rfl⟩
    ·simp (maxSteps := 1000000) [slotsOf, hho, noHo, h2, hat, hg, -List.reduceReplicate]
     refine call_x [] hx rfl rfl ⟨rfl, rfl⟩ hho (by simp) (by decide) (by simp) (by simp) ?_
     simp (maxSteps := 1000000) [slotsOf, hho, noHo, ew, -List.reduceReplicate]
     refine round_next (j + 1) ⟨by omega, by rw [hst1]; simp; omega⟩ (by omega) ?_
     exact wk_of 0 1 (by simp) (by simp [hE, lens]) (by simp) (by simp [livH, livO, AV.livL, AV.liv, wkL, wkV, List.range']) (by simp [livH, livO, AV.livL, AV.liv, wkL, wkV, List.range', slotsOf, hla])
  ·obtain rfl : j = l.length := by omega
   rw [List.take_of_length_le (by simp)] at hI
   simp (maxSteps := 1000000) [slotsOf, hho, noHo, -List.reduceReplicate]
   exact Ret.drop (by rfl) ⟨by rw [hI], rfl⟩
set_option maxHeartbeats 4000000 in
theorem unlike_col (l : List ColS) (f : ColS → ByteArray) (g : FuncId) (hg : callable Tryz.prog g = true) (hl : l.length ≤ 1000000) (hc : ∀ x ∈ l, ACalls Tryz.prog g [.agg (colA x)] [] (fun _ => false) (fun r h' => r = .c (.string (f x)) ∧ h' = [])) : ACalls Tryz.prog 132 [.fs 10 l.length (colsA l), .clo (.func g) [] []] [] (fun _ => false) (fun r h' => r = .c (.bool (unlB [] (l.map f))) ∧ h' = []) := by
 refine acalls mixed Tryz.func132 rfl Tryz.ntmps132 rfl fun E hE hst hho => ?_
 simp (maxSteps := 1000000) [hho, noHo, -List.reduceReplicate]
 refine loop_k mixed (fun j : Nat => ⟨slotsOf 25 [(1, .clo (.func g) [] []), (5, .mref 0), (9, .fs 10 l.length (colsA l)), (10, .c (.int .i64 l.length)), (11, .c (.int .i64 (j : Nat)))], [.raw (.ms (seenM ((l.map f).take j)))]⟩) (fun j => l.length - j) (fun j => j ≤ l.length ∧ unlB [] (l.map f) = unlB ((l.map f).take j) ((l.map f).drop j)) 0 ⟨Nat.zero_le _, rfl⟩ ?_ ?_
 ·exact wk_eq (by simp [hE, lens]) (by simp [seenM]) (by simp [livH, livO, AV.livL, AV.liv, wkL, wkV, List.range', slotsOf])
 ·rintro j ⟨hj, hI⟩
  by_cases hjl : j < l.length
  ·have hat := colsA_at l j hjl
   have ew : IntKind.i64.wrap ((j : Int) + 1) = (j + 1 : Nat) := by rw [IntWalk.i64_in _ (by omega)]; rfl
   have e0 : j * 10 + 10 ≤ l.length * 10 := by omega
   have hx := hc l[j] (List.getElem_mem hjl)
   have hjm : j < (l.map f).length := by simpa using hjl
   rw [unlB_step (l.map f) j hjm] at hI
   have htk := List.take_succ_eq_append_getElem hjm
   rw [List.getElem_map] at hI htk
   obtain ⟨x, hxe⟩ : ∃ x, x = l[j] := ⟨_, rfl⟩
   rw [← hxe] at hat hx hI htk
   obtain ⟨D, hD⟩ : ∃ D, D = (l.map f).take j := ⟨_, rfl⟩
   rw [← hD] at hI htk ⊢
   cases hm : memS D (f x) with
   | true =>
    have hlk := lookS_hit (f x) D hm
    rw [hm] at hI
    simp (maxSteps := 1000000) [slotsOf, hho, noHo, hjl, hat, e0, hg, -List.reduceReplicate]
    refine call_x [] hx rfl rfl ⟨rfl, rfl⟩ hho (by simp) (by decide) (by simp) (by simp) ?_
    simp (maxSteps := 1000000) [slotsOf, hho, noHo, hlk, -List.reduceReplicate]
    exact Ret.drop (by rfl) ⟨by rw [hI]; rfl, rfl⟩
   | false =>
    have hlk := lookS_seen (f x) D hm
    have hup := updS_seen (f x) D hm
    rw [hm] at hI
    simp (maxSteps := 1000000) [slotsOf, hho, noHo, hjl, hat, e0, hg, -List.reduceReplicate]
    refine call_x [] hx rfl rfl ⟨rfl, rfl⟩ hho (by simp) (by decide) (by simp) (by simp) ?_
    simp (maxSteps := 1000000) [slotsOf, hho, noHo, hlk, hat, hg, -List.reduceReplicate]
    refine call_x [] hx rfl rfl ⟨rfl, rfl⟩ hho (by simp) (by decide) (by simp) (by simp) ?_
    simp (maxSteps := 1000000) [slotsOf, hho, noHo, hup, ew, -List.reduceReplicate]
    refine round_next (j + 1) ⟨by omega, by rw [hI]; rfl⟩ (by omega) ?_
    exact wk_of 1 1 (by simp) (by simp [hE, lens]) (by simp [htk]) (by simp [livH, livO, AV.livL, AV.liv, wkL, wkV, List.range']) (by simp [livH, livO, AV.livL, AV.liv, wkL, wkV, List.range', slotsOf])
  ·obtain rfl : j = l.length := by omega
   rw [List.drop_of_length_le (by simp)] at hI
   simp (maxSteps := 1000000) [slotsOf, hho, noHo, -List.reduceReplicate]
   exact Ret.drop (by rfl) ⟨by rw [hI]; rfl, rfl⟩
set_option maxHeartbeats 4000000 in
theorem ifc_idx (l : List IdxS) (p : IdxS → Bool) (g : FuncId) (hg : callable Tryz.prog g = true) (cs : List AV) (m : Nat) (hm : cs.length = m) (hd : cs.all isD = true) (hl : l.length ≤ 1000000) (hc : ∀ x ∈ l, ACalls Tryz.prog g [.agg (idxA x), .ptr 0 0 m] [.o .box cs] (fun k => decide (k < 1)) (fun r h' => r = .c (.bool (p x)) ∧ h' = [.o .box cs])) : ACalls Tryz.prog 78 [.fs 5 l.length (idxsA l), .clo (.func g) [] [.ptr 0 0 m]] [.o .box cs] (fun k => decide (k < 1)) (fun r h' => r = .c (.int .i64 (ixF p l)) ∧ h' = [.o .box cs]) := by
 refine acalls mixed Tryz.func78 rfl Tryz.ntmps78 rfl fun E hE hst hho => ?_
 have hreb : ∀ β, AV.rebL β cs = cs := fun β => rebL_isD hd
 obtain ⟨P, hP, hcv⟩ := conv_isD hd
 simp (maxSteps := 1000000) [hho, noHo, hm, -List.reduceReplicate]
 refine loop_k mixed (fun j : Nat => ⟨slotsOf 19 [(0, .fs 5 l.length (idxsA l)), (1, .clo (.func g) [] [.ptr 0 0 m]), (7, .c (.int .i64 l.length)), (8, .c (.int .i64 (j : Nat)))], [.o .box cs]⟩) (fun j => l.length - j) (fun j => j ≤ l.length ∧ ∀ k (hk : k < l.length), k < j → p l[k] = false) 0 ⟨Nat.zero_le _, fun k _ h => by omega⟩ ?_ ?_
 ·exact wk_eq (by simp [hE, lens]) (by simp) (by simp [livH, livO, AV.livL, AV.liv, wkL, wkV, List.range', slotsOf])
 ·rintro j ⟨hj, hI⟩
  by_cases hjl : j < l.length
  ·have hat := idxsA_at l j hjl
   have ew : IntKind.i64.wrap ((j : Int) + 1) = (j + 1 : Nat) := by rw [IntWalk.i64_in _ (by omega)]; rfl
   have e0 : j * 5 + 5 ≤ l.length * 5 := by omega
   have hx := hc l[j] (List.getElem_mem hjl)
   have hp0 := @ixF_hit _ p l j hjl hI
   have hI1 : p l[j] = false → ∀ k (hk : k < l.length), k < j + 1 → p l[k] = false := fun h k hk hkj => by
    by_cases e : k = j
    ·subst e; exact h
    ·exact hI k hk (by omega)
   obtain ⟨x, hxe⟩ : ∃ x, x = l[j] := ⟨_, rfl⟩
   rw [← hxe] at hat hx hp0 hI1
   cases hp : p x with
   | true =>
    rw [hp] at hx
    simp (maxSteps := 1000000) [slotsOf, hho, noHo, hjl, hat, e0, hg, hm, -List.reduceReplicate]
    refine call_x [0] hx rfl (convOs_box rfl hcv) ⟨rfl, rfl⟩ hho (by simp) (by decide) ⟨by simp, hP, trivial⟩ (by simp) ?_
    simp (maxSteps := 1000000) [hho, noHo, ew, hreb, -List.reduceReplicate]
    exact Ret.same ⟨by rw [hp0 hp], rfl⟩
   | false =>
    rw [hp] at hx
    simp (maxSteps := 1000000) [slotsOf, hho, noHo, hjl, hat, e0, hg, hm, -List.reduceReplicate]
    refine call_x [0] hx rfl (convOs_box rfl hcv) ⟨rfl, rfl⟩ hho (by simp) (by decide) ⟨by simp, hP, trivial⟩ (by simp) ?_
    simp (maxSteps := 1000000) [hho, noHo, ew, hreb, -List.reduceReplicate]
    refine round_next (j + 1) ⟨by omega, hI1 hp⟩ (by omega) ?_
    exact wk_eq (by simp [hE, lens]) (by simp) (by simp [livH, livO, AV.livL, AV.liv, wkL, wkV, List.range', slotsOf])
  ·obtain rfl : j = l.length := by omega
   simp (maxSteps := 1000000) [slotsOf, hho, noHo, -List.reduceReplicate]
   exact Ret.same ⟨by rw [ixF_none fun k hk => hI k hk hk], rfl⟩
set_option maxHeartbeats 4000000 in
theorem cfc_idx (l : List IdxS) (p : IdxS → Bool) (g : FuncId) (hg : callable Tryz.prog g = true) (cs : List AV) (m : Nat) (hm : cs.length = m) (hd : cs.all isD = true) (hl : l.length ≤ 1000000) (hc : ∀ x ∈ l, ACalls Tryz.prog g [.agg (idxA x), .ptr 0 0 m] [.o .box cs] (fun k => decide (k < 1)) (fun r h' => r = .c (.bool (p x)) ∧ h' = [.o .box cs])) : ACalls Tryz.prog 137 [.fs 5 l.length (idxsA l), .clo (.func g) [] [.ptr 0 0 m]] [.o .box cs] (fun k => decide (k < 1)) (fun r h' => r = .c (.bool (l.any p)) ∧ h' = [.o .box cs]) := by
 refine acalls mixed Tryz.func137 rfl Tryz.ntmps137 rfl fun E hE hst hho => ?_
 have hreb : ∀ β, AV.rebL β cs = cs := fun β => rebL_isD hd
 obtain ⟨P, hP, hcv⟩ := conv_isD hd
 simp (maxSteps := 1000000) [hho, noHo, hm, -List.reduceReplicate]
 refine call_x [0] (ifc_idx l p g hg cs m hm hd hl hc) rfl (convOs_box rfl hcv) ⟨rfl, rfl⟩ hho (by simp) (by decide) ⟨by simp, hP, trivial⟩ (by simp) ?_
 simp (maxSteps := 1000000) [hho, noHo, hreb, ixF_any, -List.reduceReplicate]
 exact Ret.same ⟨rfl, rfl⟩
set_option maxHeartbeats 4000000 in
theorem rising_idx (l : List IdxS) (b : Int) (f : IdxS → Int) (g : FuncId) (hg : callable Tryz.prog g = true) (hl : l.length ≤ 1000000) (hc : ∀ x ∈ l, ACalls Tryz.prog g [.agg (idxA x)] [] (fun _ => false) (fun r h' => r = .c (.int .i64 (f x)) ∧ h' = [])) : ACalls Tryz.prog 130 [.fs 5 l.length (idxsA l), .c (.int .i64 b), .clo (.func g) [] []] [] (fun _ => false) (fun r h' => r = .c (.bool (risB b (-1) (l.map f))) ∧ h' = []) := by
 refine acalls mixed Tryz.func130 rfl Tryz.ntmps130 rfl fun E hE hst hho => ?_
 simp (maxSteps := 1000000) [hho, noHo, -List.reduceReplicate]
 refine loop_k mixed (fun j : Nat => ⟨slotsOf 32 [(1, .c (.int .i64 b)), (2, .clo (.func g) [] []), (7, .c (.int .i64 (lastI (-1) ((l.map f).take j)))), (10, .fs 5 l.length (idxsA l)), (11, .c (.int .i64 l.length)), (12, .c (.int .i64 (j : Nat)))], []⟩) (fun j => l.length - j) (fun j => j ≤ l.length ∧ risB b (-1) ((l.map f).take j) = true) 0 ⟨Nat.zero_le _, rfl⟩ ?_ ?_
 ·exact wk_eq (by simp [hE, lens]) (by simp) (by simp [livH, livO, AV.livL, AV.liv, wkL, wkV, List.range', slotsOf, lastI])
 ·rintro j ⟨hj, hI⟩
  by_cases hjl : j < l.length
  ·have hat := idxsA_at l j hjl
   have ew : IntKind.i64.wrap ((j : Int) + 1) = (j + 1 : Nat) := by rw [IntWalk.i64_in _ (by omega)]; rfl
   have e0 : j * 5 + 5 ≤ l.length * 5 := by omega
   have hx := hc l[j] (List.getElem_mem hjl)
   have hjm : j < (l.map f).length := by simpa using hjl
   have hst1 := risB_step b (l.map f) j hjm hI
   have hla := lastI_take (-1) (l.map f) j hjm
   have hfin : risB b (-1) ((l.map f).take (j + 1)) = false → risB b (-1) (l.map f) = false := fun h => by
    cases ho : risB b (-1) (l.map f) with
    | false => rfl
    | true => rw [risB_cut b (j + 1) ho] at h; cases h
   rw [List.getElem_map] at hst1 hla
   obtain ⟨w, hw⟩ : ∃ w, w = lastI (-1) ((l.map f).take j) := ⟨_, rfl⟩
   rw [← hw] at hst1 ⊢
   obtain ⟨x, hxe⟩ : ∃ x, x = l[j] := ⟨_, rfl⟩
   rw [← hxe] at hat hx hst1 hla
   simp (maxSteps := 1000000) [slotsOf, hho, noHo, hjl, hat, e0, hg, -List.reduceReplicate]
   refine call_x [] hx rfl rfl ⟨rfl, rfl⟩ hho (by simp) (by decide) (by simp) (by simp) ?_
   by_cases h1 : f x ≤ w
   ·simp (maxSteps := 1000000) [slotsOf, hho, noHo, h1, undef, onGP_none, condG_false, -List.reduceReplicate]
    exact Ret.drop (by rfl) ⟨by rw [hfin (by rw [hst1]; simp; omega)], rfl⟩
   ·simp (maxSteps := 1000000) [slotsOf, hho, noHo, h1, hat, hg, -List.reduceReplicate]
    refine call_x [] hx rfl rfl ⟨rfl, rfl⟩ hho (by simp) (by decide) (by simp) (by simp) ?_
    by_cases h2 : b ≤ f x
    ·simp (maxSteps := 1000000) [slotsOf, hho, noHo, h2, -List.reduceReplicate]
     exact Ret.drop (by rfl) ⟨by rw [hfin (by rw [hst1]; simp; omega)], rfl⟩
    ·simp (maxSteps := 1000000) [slotsOf, hho, noHo, h2, hat, hg, -List.reduceReplicate]
     refine call_x [] hx rfl rfl ⟨rfl, rfl⟩ hho (by simp) (by decide) (by simp) (by simp) ?_
     simp (maxSteps := 1000000) [slotsOf, hho, noHo, ew, -List.reduceReplicate]
     refine round_next (j + 1) ⟨by omega, by rw [hst1]; simp; omega⟩ (by omega) ?_
     exact wk_of 0 1 (by simp) (by simp [hE, lens]) (by simp) (by simp [livH, livO, AV.livL, AV.liv, wkL, wkV, List.range']) (by simp [livH, livO, AV.livL, AV.liv, wkL, wkV, List.range', slotsOf, hla])
  ·obtain rfl : j = l.length := by omega
   rw [List.take_of_length_le (by simp)] at hI
   simp (maxSteps := 1000000) [slotsOf, hho, noHo, -List.reduceReplicate]
   exact Ret.drop (by rfl) ⟨by rw [hI], rfl⟩
set_option maxHeartbeats 4000000 in
theorem unlike_idx (l : List IdxS) (f : IdxS → ByteArray) (g : FuncId) (hg : callable Tryz.prog g = true) (hl : l.length ≤ 1000000) (hc : ∀ x ∈ l, ACalls Tryz.prog g [.agg (idxA x)] [] (fun _ => false) (fun r h' => r = .c (.string (f x)) ∧ h' = [])) : ACalls Tryz.prog 134 [.fs 5 l.length (idxsA l), .clo (.func g) [] []] [] (fun _ => false) (fun r h' => r = .c (.bool (unlB [] (l.map f))) ∧ h' = []) := by
 refine acalls mixed Tryz.func134 rfl Tryz.ntmps134 rfl fun E hE hst hho => ?_
 simp (maxSteps := 1000000) [hho, noHo, -List.reduceReplicate]
 refine loop_k mixed (fun j : Nat => ⟨slotsOf 25 [(1, .clo (.func g) [] []), (5, .mref 0), (9, .fs 5 l.length (idxsA l)), (10, .c (.int .i64 l.length)), (11, .c (.int .i64 (j : Nat)))], [.raw (.ms (seenM ((l.map f).take j)))]⟩) (fun j => l.length - j) (fun j => j ≤ l.length ∧ unlB [] (l.map f) = unlB ((l.map f).take j) ((l.map f).drop j)) 0 ⟨Nat.zero_le _, rfl⟩ ?_ ?_
 ·exact wk_eq (by simp [hE, lens]) (by simp [seenM]) (by simp [livH, livO, AV.livL, AV.liv, wkL, wkV, List.range', slotsOf])
 ·rintro j ⟨hj, hI⟩
  by_cases hjl : j < l.length
  ·have hat := idxsA_at l j hjl
   have ew : IntKind.i64.wrap ((j : Int) + 1) = (j + 1 : Nat) := by rw [IntWalk.i64_in _ (by omega)]; rfl
   have e0 : j * 5 + 5 ≤ l.length * 5 := by omega
   have hx := hc l[j] (List.getElem_mem hjl)
   have hjm : j < (l.map f).length := by simpa using hjl
   rw [unlB_step (l.map f) j hjm] at hI
   have htk := List.take_succ_eq_append_getElem hjm
   rw [List.getElem_map] at hI htk
   obtain ⟨x, hxe⟩ : ∃ x, x = l[j] := ⟨_, rfl⟩
   rw [← hxe] at hat hx hI htk
   obtain ⟨D, hD⟩ : ∃ D, D = (l.map f).take j := ⟨_, rfl⟩
   rw [← hD] at hI htk ⊢
   cases hm : memS D (f x) with
   | true =>
    have hlk := lookS_hit (f x) D hm
    rw [hm] at hI
    simp (maxSteps := 1000000) [slotsOf, hho, noHo, hjl, hat, e0, hg, -List.reduceReplicate]
    refine call_x [] hx rfl rfl ⟨rfl, rfl⟩ hho (by simp) (by decide) (by simp) (by simp) ?_
    simp (maxSteps := 1000000) [slotsOf, hho, noHo, hlk, -List.reduceReplicate]
    exact Ret.drop (by rfl) ⟨by rw [hI]; rfl, rfl⟩
   | false =>
    have hlk := lookS_seen (f x) D hm
    have hup := updS_seen (f x) D hm
    rw [hm] at hI
    simp (maxSteps := 1000000) [slotsOf, hho, noHo, hjl, hat, e0, hg, -List.reduceReplicate]
    refine call_x [] hx rfl rfl ⟨rfl, rfl⟩ hho (by simp) (by decide) (by simp) (by simp) ?_
    simp (maxSteps := 1000000) [slotsOf, hho, noHo, hlk, hat, hg, -List.reduceReplicate]
    refine call_x [] hx rfl rfl ⟨rfl, rfl⟩ hho (by simp) (by decide) (by simp) (by simp) ?_
    simp (maxSteps := 1000000) [slotsOf, hho, noHo, hup, ew, -List.reduceReplicate]
    refine round_next (j + 1) ⟨by omega, by rw [hI]; rfl⟩ (by omega) ?_
    exact wk_of 1 1 (by simp) (by simp [hE, lens]) (by simp [htk]) (by simp [livH, livO, AV.livL, AV.liv, wkL, wkV, List.range']) (by simp [livH, livO, AV.livL, AV.liv, wkL, wkV, List.range', slotsOf])
  ·obtain rfl : j = l.length := by omega
   rw [List.drop_of_length_le (by simp)] at hI
   simp (maxSteps := 1000000) [slotsOf, hho, noHo, -List.reduceReplicate]
   exact Ret.drop (by rfl) ⟨by rw [hI]; rfl, rfl⟩
set_option maxHeartbeats 4000000 in
theorem ifc_tab (l : List TabS) (p : TabS → Bool) (g : FuncId) (hg : callable Tryz.prog g = true) (cs : List AV) (m : Nat) (hm : cs.length = m) (hd : cs.all isD = true) (hl : l.length ≤ 1000000) (hc : ∀ x ∈ l, ACalls Tryz.prog g [.agg (tabA x), .ptr 0 0 m] [.o .box cs] (fun k => decide (k < 1)) (fun r h' => r = .c (.bool (p x)) ∧ h' = [.o .box cs])) : ACalls Tryz.prog 76 [.fs 4 l.length (tabsA l), .clo (.func g) [] [.ptr 0 0 m]] [.o .box cs] (fun k => decide (k < 1)) (fun r h' => r = .c (.int .i64 (ixF p l)) ∧ h' = [.o .box cs]) := by
 refine acalls mixed Tryz.func76 rfl Tryz.ntmps76 rfl fun E hE hst hho => ?_
 have hreb : ∀ β, AV.rebL β cs = cs := fun β => rebL_isD hd
 obtain ⟨P, hP, hcv⟩ := conv_isD hd
 simp (maxSteps := 1000000) [hho, noHo, hm, -List.reduceReplicate]
 refine loop_k mixed (fun j : Nat => ⟨slotsOf 19 [(0, .fs 4 l.length (tabsA l)), (1, .clo (.func g) [] [.ptr 0 0 m]), (7, .c (.int .i64 l.length)), (8, .c (.int .i64 (j : Nat)))], [.o .box cs]⟩) (fun j => l.length - j) (fun j => j ≤ l.length ∧ ∀ k (hk : k < l.length), k < j → p l[k] = false) 0 ⟨Nat.zero_le _, fun k _ h => by omega⟩ ?_ ?_
 ·exact wk_eq (by simp [hE, lens]) (by simp) (by simp [livH, livO, AV.livL, AV.liv, wkL, wkV, List.range', slotsOf])
 ·rintro j ⟨hj, hI⟩
  by_cases hjl : j < l.length
  ·have hat := tabsA_at l j hjl
   have ew : IntKind.i64.wrap ((j : Int) + 1) = (j + 1 : Nat) := by rw [IntWalk.i64_in _ (by omega)]; rfl
   have e0 : j * 4 + 4 ≤ l.length * 4 := by omega
   have hx := hc l[j] (List.getElem_mem hjl)
   have hp0 := @ixF_hit _ p l j hjl hI
   have hI1 : p l[j] = false → ∀ k (hk : k < l.length), k < j + 1 → p l[k] = false := fun h k hk hkj => by
    by_cases e : k = j
    ·subst e; exact h
    ·exact hI k hk (by omega)
   obtain ⟨x, hxe⟩ : ∃ x, x = l[j] := ⟨_, rfl⟩
   rw [← hxe] at hat hx hp0 hI1
   cases hp : p x with
   | true =>
    rw [hp] at hx
    simp (maxSteps := 1000000) [slotsOf, hho, noHo, hjl, hat, e0, hg, hm, -List.reduceReplicate]
    refine call_x [0] hx rfl (convOs_box rfl hcv) ⟨rfl, rfl⟩ hho (by simp) (by decide) ⟨by simp, hP, trivial⟩ (by simp) ?_
    simp (maxSteps := 1000000) [hho, noHo, ew, hreb, -List.reduceReplicate]
    exact Ret.same ⟨by rw [hp0 hp], rfl⟩
   | false =>
    rw [hp] at hx
    simp (maxSteps := 1000000) [slotsOf, hho, noHo, hjl, hat, e0, hg, hm, -List.reduceReplicate]
    refine call_x [0] hx rfl (convOs_box rfl hcv) ⟨rfl, rfl⟩ hho (by simp) (by decide) ⟨by simp, hP, trivial⟩ (by simp) ?_
    simp (maxSteps := 1000000) [hho, noHo, ew, hreb, -List.reduceReplicate]
    refine round_next (j + 1) ⟨by omega, hI1 hp⟩ (by omega) ?_
    exact wk_eq (by simp [hE, lens]) (by simp) (by simp [livH, livO, AV.livL, AV.liv, wkL, wkV, List.range', slotsOf])
  ·obtain rfl : j = l.length := by omega
   simp (maxSteps := 1000000) [slotsOf, hho, noHo, -List.reduceReplicate]
   exact Ret.same ⟨by rw [ixF_none fun k hk => hI k hk hk], rfl⟩
set_option maxHeartbeats 4000000 in
theorem cfc_tab (l : List TabS) (p : TabS → Bool) (g : FuncId) (hg : callable Tryz.prog g = true) (cs : List AV) (m : Nat) (hm : cs.length = m) (hd : cs.all isD = true) (hl : l.length ≤ 1000000) (hc : ∀ x ∈ l, ACalls Tryz.prog g [.agg (tabA x), .ptr 0 0 m] [.o .box cs] (fun k => decide (k < 1)) (fun r h' => r = .c (.bool (p x)) ∧ h' = [.o .box cs])) : ACalls Tryz.prog 73 [.fs 4 l.length (tabsA l), .clo (.func g) [] [.ptr 0 0 m]] [.o .box cs] (fun k => decide (k < 1)) (fun r h' => r = .c (.bool (l.any p)) ∧ h' = [.o .box cs]) := by
 refine acalls mixed Tryz.func73 rfl Tryz.ntmps73 rfl fun E hE hst hho => ?_
 have hreb : ∀ β, AV.rebL β cs = cs := fun β => rebL_isD hd
 obtain ⟨P, hP, hcv⟩ := conv_isD hd
 simp (maxSteps := 1000000) [hho, noHo, hm, -List.reduceReplicate]
 refine call_x [0] (ifc_tab l p g hg cs m hm hd hl hc) rfl (convOs_box rfl hcv) ⟨rfl, rfl⟩ hho (by simp) (by decide) ⟨by simp, hP, trivial⟩ (by simp) ?_
 simp (maxSteps := 1000000) [hho, noHo, hreb, ixF_any, -List.reduceReplicate]
 exact Ret.same ⟨rfl, rfl⟩
set_option maxHeartbeats 4000000 in
theorem rising_tab (l : List TabS) (b : Int) (f : TabS → Int) (g : FuncId) (hg : callable Tryz.prog g = true) (hl : l.length ≤ 1000000) (hc : ∀ x ∈ l, ACalls Tryz.prog g [.agg (tabA x)] [] (fun _ => false) (fun r h' => r = .c (.int .i64 (f x)) ∧ h' = [])) : ACalls Tryz.prog 69 [.fs 4 l.length (tabsA l), .c (.int .i64 b), .clo (.func g) [] []] [] (fun _ => false) (fun r h' => r = .c (.bool (risB b (-1) (l.map f))) ∧ h' = []) := by
 refine acalls mixed Tryz.func69 rfl Tryz.ntmps69 rfl fun E hE hst hho => ?_
 simp (maxSteps := 1000000) [hho, noHo, -List.reduceReplicate]
 refine loop_k mixed (fun j : Nat => ⟨slotsOf 32 [(1, .c (.int .i64 b)), (2, .clo (.func g) [] []), (7, .c (.int .i64 (lastI (-1) ((l.map f).take j)))), (10, .fs 4 l.length (tabsA l)), (11, .c (.int .i64 l.length)), (12, .c (.int .i64 (j : Nat)))], []⟩) (fun j => l.length - j) (fun j => j ≤ l.length ∧ risB b (-1) ((l.map f).take j) = true) 0 ⟨Nat.zero_le _, rfl⟩ ?_ ?_
 ·exact wk_eq (by simp [hE, lens]) (by simp) (by simp [livH, livO, AV.livL, AV.liv, wkL, wkV, List.range', slotsOf, lastI])
 ·rintro j ⟨hj, hI⟩
  by_cases hjl : j < l.length
  ·have hat := tabsA_at l j hjl
   have ew : IntKind.i64.wrap ((j : Int) + 1) = (j + 1 : Nat) := by rw [IntWalk.i64_in _ (by omega)]; rfl
   have e0 : j * 4 + 4 ≤ l.length * 4 := by omega
   have hx := hc l[j] (List.getElem_mem hjl)
   have hjm : j < (l.map f).length := by simpa using hjl
   have hst1 := risB_step b (l.map f) j hjm hI
   have hla := lastI_take (-1) (l.map f) j hjm
   have hfin : risB b (-1) ((l.map f).take (j + 1)) = false → risB b (-1) (l.map f) = false := fun h => by
    cases ho : risB b (-1) (l.map f) with
    | false => rfl
    | true => rw [risB_cut b (j + 1) ho] at h; cases h
   rw [List.getElem_map] at hst1 hla
   obtain ⟨w, hw⟩ : ∃ w, w = lastI (-1) ((l.map f).take j) := ⟨_, rfl⟩
   rw [← hw] at hst1 ⊢
   obtain ⟨x, hxe⟩ : ∃ x, x = l[j] := ⟨_, rfl⟩
   rw [← hxe] at hat hx hst1 hla
   simp (maxSteps := 1000000) [slotsOf, hho, noHo, hjl, hat, e0, hg, -List.reduceReplicate]
   refine call_x [] hx rfl rfl ⟨rfl, rfl⟩ hho (by simp) (by decide) (by simp) (by simp) ?_
   by_cases h1 : f x ≤ w
   ·simp (maxSteps := 1000000) [slotsOf, hho, noHo, h1, undef, onGP_none, condG_false, -List.reduceReplicate]
    exact Ret.drop (by rfl) ⟨by rw [hfin (by rw [hst1]; simp; omega)], rfl⟩
   ·simp (maxSteps := 1000000) [slotsOf, hho, noHo, h1, hat, hg, -List.reduceReplicate]
    refine call_x [] hx rfl rfl ⟨rfl, rfl⟩ hho (by simp) (by decide) (by simp) (by simp) ?_
    by_cases h2 : b ≤ f x
    ·simp (maxSteps := 1000000) [slotsOf, hho, noHo, h2, -List.reduceReplicate]
     exact Ret.drop (by rfl) ⟨by rw [hfin (by rw [hst1]; simp; omega)], rfl⟩
    ·simp (maxSteps := 1000000) [slotsOf, hho, noHo, h2, hat, hg, -List.reduceReplicate]
     refine call_x [] hx rfl rfl ⟨rfl, rfl⟩ hho (by simp) (by decide) (by simp) (by simp) ?_
     simp (maxSteps := 1000000) [slotsOf, hho, noHo, ew, -List.reduceReplicate]
     refine round_next (j + 1) ⟨by omega, by rw [hst1]; simp; omega⟩ (by omega) ?_
     exact wk_of 0 1 (by simp) (by simp [hE, lens]) (by simp) (by simp [livH, livO, AV.livL, AV.liv, wkL, wkV, List.range']) (by simp [livH, livO, AV.livL, AV.liv, wkL, wkV, List.range', slotsOf, hla])
  ·obtain rfl : j = l.length := by omega
   rw [List.take_of_length_le (by simp)] at hI
   simp (maxSteps := 1000000) [slotsOf, hho, noHo, -List.reduceReplicate]
   exact Ret.drop (by rfl) ⟨by rw [hI], rfl⟩
set_option maxHeartbeats 4000000 in
theorem unlike_tab (l : List TabS) (f : TabS → ByteArray) (g : FuncId) (hg : callable Tryz.prog g = true) (hl : l.length ≤ 1000000) (hc : ∀ x ∈ l, ACalls Tryz.prog g [.agg (tabA x)] [] (fun _ => false) (fun r h' => r = .c (.string (f x)) ∧ h' = [])) : ACalls Tryz.prog 71 [.fs 4 l.length (tabsA l), .clo (.func g) [] []] [] (fun _ => false) (fun r h' => r = .c (.bool (unlB [] (l.map f))) ∧ h' = []) := by
 refine acalls mixed Tryz.func71 rfl Tryz.ntmps71 rfl fun E hE hst hho => ?_
 simp (maxSteps := 1000000) [hho, noHo, -List.reduceReplicate]
 refine loop_k mixed (fun j : Nat => ⟨slotsOf 25 [(1, .clo (.func g) [] []), (5, .mref 0), (9, .fs 4 l.length (tabsA l)), (10, .c (.int .i64 l.length)), (11, .c (.int .i64 (j : Nat)))], [.raw (.ms (seenM ((l.map f).take j)))]⟩) (fun j => l.length - j) (fun j => j ≤ l.length ∧ unlB [] (l.map f) = unlB ((l.map f).take j) ((l.map f).drop j)) 0 ⟨Nat.zero_le _, rfl⟩ ?_ ?_
 ·exact wk_eq (by simp [hE, lens]) (by simp [seenM]) (by simp [livH, livO, AV.livL, AV.liv, wkL, wkV, List.range', slotsOf])
 ·rintro j ⟨hj, hI⟩
  by_cases hjl : j < l.length
  ·have hat := tabsA_at l j hjl
   have ew : IntKind.i64.wrap ((j : Int) + 1) = (j + 1 : Nat) := by rw [IntWalk.i64_in _ (by omega)]; rfl
   have e0 : j * 4 + 4 ≤ l.length * 4 := by omega
   have hx := hc l[j] (List.getElem_mem hjl)
   have hjm : j < (l.map f).length := by simpa using hjl
   rw [unlB_step (l.map f) j hjm] at hI
   have htk := List.take_succ_eq_append_getElem hjm
   rw [List.getElem_map] at hI htk
   obtain ⟨x, hxe⟩ : ∃ x, x = l[j] := ⟨_, rfl⟩
   rw [← hxe] at hat hx hI htk
   obtain ⟨D, hD⟩ : ∃ D, D = (l.map f).take j := ⟨_, rfl⟩
   rw [← hD] at hI htk ⊢
   cases hm : memS D (f x) with
   | true =>
    have hlk := lookS_hit (f x) D hm
    rw [hm] at hI
    simp (maxSteps := 1000000) [slotsOf, hho, noHo, hjl, hat, e0, hg, -List.reduceReplicate]
    refine call_x [] hx rfl rfl ⟨rfl, rfl⟩ hho (by simp) (by decide) (by simp) (by simp) ?_
    simp (maxSteps := 1000000) [slotsOf, hho, noHo, hlk, -List.reduceReplicate]
    exact Ret.drop (by rfl) ⟨by rw [hI]; rfl, rfl⟩
   | false =>
    have hlk := lookS_seen (f x) D hm
    have hup := updS_seen (f x) D hm
    rw [hm] at hI
    simp (maxSteps := 1000000) [slotsOf, hho, noHo, hjl, hat, e0, hg, -List.reduceReplicate]
    refine call_x [] hx rfl rfl ⟨rfl, rfl⟩ hho (by simp) (by decide) (by simp) (by simp) ?_
    simp (maxSteps := 1000000) [slotsOf, hho, noHo, hlk, hat, hg, -List.reduceReplicate]
    refine call_x [] hx rfl rfl ⟨rfl, rfl⟩ hho (by simp) (by decide) (by simp) (by simp) ?_
    simp (maxSteps := 1000000) [slotsOf, hho, noHo, hup, ew, -List.reduceReplicate]
    refine round_next (j + 1) ⟨by omega, by rw [hI]; rfl⟩ (by omega) ?_
    exact wk_of 1 1 (by simp) (by simp [hE, lens]) (by simp [htk]) (by simp [livH, livO, AV.livL, AV.liv, wkL, wkV, List.range']) (by simp [livH, livO, AV.livL, AV.liv, wkL, wkV, List.range', slotsOf])
  ·obtain rfl : j = l.length := by omega
   rw [List.drop_of_length_le (by simp)] at hI
   simp (maxSteps := 1000000) [slotsOf, hho, noHo, -List.reduceReplicate]
   exact Ret.drop (by rfl) ⟨by rw [hI]; rfl, rfl⟩

def thereB (st : Int) : Bool := decide (1 ≤ st) && decide (st ≤ 3)
def colOk (c : ColS) : Bool := nameOk c.name && ofOk c.dft c.ty && thereB c.st
def partsOk (ids : List Int) : List Int → List Int → Bool
 | _, [] => true
 | w, c :: l => memI ids c && !memI w c && partsOk ids (w ++ [c]) l
theorem partsOk_step (ids : List Int) (l : List Int) (j : Nat) (hj : j < l.length) : partsOk ids (l.take j) (l.drop j) = (memI ids l[j] && !memI (l.take j) l[j] && partsOk ids (l.take (j + 1)) (l.drop (j + 1))) := by
 rw [← List.getElem_cons_drop hj, partsOk, List.take_succ_eq_append_getElem hj]
def idxOk (t : TabS) (x : IdxS) : Bool := nameOk x.name && thereB x.st && decide (1 ≤ x.cols.length) && decide (x.cols.length ≤ 4) && partsOk (t.cols.map ColS.id) [] x.cols
def pubC (l : List ColS) : List ColS := l.filter fun c => decide (c.st = 3)
def tabOk (t : TabS) (next : Int) : Bool := nameOk t.name && decide (t.cols.length ≤ 12) && decide (t.idxs.length ≤ 8) && decide ((pubC t.cols).length ≠ 0) && (risB next (-1) (t.cols.map ColS.id) && risB next (-1) (t.idxs.map IdxS.id)) && (unlB [] ((pubC t.cols).map ColS.name) && unlB [] (t.idxs.map IdxS.name)) && t.cols.all colOk && t.idxs.all (idxOk t)
def schOk (s : SchS) : Bool := decide (0 ≤ s.ver) && decide (0 ≤ s.next) && decide (s.tabs.length ≤ 8) && risB s.next (-1) (s.tabs.map TabS.id) && unlB [] (s.tabs.map TabS.name) && s.tabs.all fun t => tabOk t s.next
def ColFit (c : ColS) : Prop := c.name.size ≤ 100 ∧ c.dft.t.size ≤ 300
def IdxFit (x : IdxS) : Prop := x.name.size ≤ 100 ∧ x.cols.length ≤ 20
def TabFit (t : TabS) : Prop := t.name.size ≤ 100 ∧ t.cols.length ≤ 20 ∧ t.idxs.length ≤ 20 ∧ (∀ c ∈ t.cols, ColFit c) ∧ ∀ x ∈ t.idxs, IdxFit x
def SchFit (s : SchS) : Prop := s.tabs.length ≤ 20 ∧ ∀ t ∈ s.tabs, TabFit t
theorem ixF_id (l : List ColS) (k : Int) : ixF (fun c : ColS => decide (c.id = k)) l < 0 ↔ memI (l.map ColS.id) k = false := by
 have h := ixF_any (fun c : ColS => decide (c.id = k)) l
 have e : l.any (fun c : ColS => decide (c.id = k)) = memI (l.map ColS.id) k := by
  rw [Bool.eq_iff_iff]
  simp only [memI, List.any_eq_true, List.mem_map, decide_eq_true_eq]
  constructor
  ·rintro ⟨x, h1, h3⟩; exact ⟨_, ⟨x, h1, rfl⟩, h3.symm⟩
  ·rintro ⟨_, ⟨x, h1, rfl⟩, h3⟩; exact ⟨x, h1, h3.symm⟩
 rw [e] at h
 rw [← h]
 simp
theorem there_sc (st : Int) : ACalls Tryz.prog 174 [.c (.int .i64 st)] [] (fun _ => false) (fun r h' => r = .c (.bool (thereB st)) ∧ h' = []) := by
 refine acalls mixed Tryz.func174 rfl Tryz.ntmps174 rfl fun E hE hst hho => ?_
 by_cases h : 1 ≤ st
 ·simp (maxSteps := 1000000) [hho, noHo, h, undef, onGP_none, condG_false, -List.reduceReplicate]
  exact Ret.same ⟨by simp [thereB, h], rfl⟩
 ·simp (maxSteps := 1000000) [hho, noHo, h, undef, onGP_none, condG_false, -List.reduceReplicate]
  exact Ret.same ⟨by simp [thereB, h], rfl⟩
theorem scRight_1_w (x : TabS) : ACalls Tryz.prog 70 [.agg (tabA x)] [] (fun _ => false) (fun r h' => r = .c (.int .i64 x.id) ∧ h' = []) := by
 refine acalls mixed Tryz.func70 rfl Tryz.ntmps70 rfl fun E hE hst hho => ?_
 simp (maxSteps := 1000000) [tabA, hho, noHo, -List.reduceReplicate]
 exact Ret.drop (by rfl) ⟨by simp, rfl⟩
theorem scRight_2_w (x : TabS) : ACalls Tryz.prog 72 [.agg (tabA x)] [] (fun _ => false) (fun r h' => r = .c (.string x.name) ∧ h' = []) := by
 refine acalls mixed Tryz.func72 rfl Tryz.ntmps72 rfl fun E hE hst hho => ?_
 simp (maxSteps := 1000000) [tabA, hho, noHo, -List.reduceReplicate]
 exact Ret.drop (by rfl) ⟨by simp, rfl⟩
theorem sctable_1_w (x : ColS) : ACalls Tryz.prog 129 [.agg (colA x)] [] (fun _ => false) (fun r h' => r = .c (.int .i64 x.id) ∧ h' = []) := by
 refine acalls mixed Tryz.func129 rfl Tryz.ntmps129 rfl fun E hE hst hho => ?_
 simp (maxSteps := 1000000) [colA, hho, noHo, -List.reduceReplicate]
 exact Ret.drop (by rfl) ⟨by simp, rfl⟩
theorem sctable_2_w (x : IdxS) : ACalls Tryz.prog 131 [.agg (idxA x)] [] (fun _ => false) (fun r h' => r = .c (.int .i64 x.id) ∧ h' = []) := by
 refine acalls mixed Tryz.func131 rfl Tryz.ntmps131 rfl fun E hE hst hho => ?_
 simp (maxSteps := 1000000) [idxA, hho, noHo, -List.reduceReplicate]
 exact Ret.drop (by rfl) ⟨by simp, rfl⟩
theorem sctable_3_w (x : ColS) : ACalls Tryz.prog 133 [.agg (colA x)] [] (fun _ => false) (fun r h' => r = .c (.string x.name) ∧ h' = []) := by
 refine acalls mixed Tryz.func133 rfl Tryz.ntmps133 rfl fun E hE hst hho => ?_
 simp (maxSteps := 1000000) [colA, hho, noHo, -List.reduceReplicate]
 exact Ret.drop (by rfl) ⟨by simp, rfl⟩
theorem sctable_4_w (x : IdxS) : ACalls Tryz.prog 135 [.agg (idxA x)] [] (fun _ => false) (fun r h' => r = .c (.string x.name) ∧ h' = []) := by
 refine acalls mixed Tryz.func135 rfl Tryz.ntmps135 rfl fun E hE hst hho => ?_
 simp (maxSteps := 1000000) [idxA, hho, noHo, -List.reduceReplicate]
 exact Ret.drop (by rfl) ⟨by simp, rfl⟩
theorem scpublic_1_w (x : ColS) : ACalls Tryz.prog 171 [.agg (colA x)] [] (fun _ => false) (fun r h' => r = .c (.bool (!decide (x.st = 3))) ∧ h' = []) := by
 refine acalls mixed Tryz.func171 rfl Tryz.ntmps171 rfl fun E hE hst hho => ?_
 simp (maxSteps := 1000000) [colA, hho, noHo, -List.reduceReplicate]
 exact Ret.drop (by rfl) ⟨by simp, rfl⟩
theorem scTable_1_w (x : TabS) (k : ByteArray) : ACalls Tryz.prog 77 [.agg (tabA x), .ptr 0 0 1] [.o .box [.c (.string k)]] (fun k => decide (k < 1)) (fun r h' => r = .c (.bool (decide (x.name = k))) ∧ h' = [.o .box [.c (.string k)]]) := by
 refine acalls mixed Tryz.func77 rfl Tryz.ntmps77 rfl fun E hE hst hho => ?_
 simp (maxSteps := 1000000) [tabA, hho, noHo, -List.reduceReplicate]
 refine Ret.sel [0] (fun _ => false) (ho := by rfl) (ha := by rfl) ?_ ?_ (by decide) (by simp) (fun i _ h => ?_) ⟨?_, rfl⟩
 ·simp
 ·simp
 ·have e : i = 0 := of_decide_eq_true h
  subst e; rfl
 ·rfl
theorem scColumn_1_w (x : ColS) (k : ByteArray) : ACalls Tryz.prog 106 [.agg (colA x), .ptr 0 0 1] [.o .box [.c (.string k)]] (fun k => decide (k < 1)) (fun r h' => r = .c (.bool (decide (x.st = 3) && decide (x.name = k))) ∧ h' = [.o .box [.c (.string k)]]) := by
 refine acalls mixed Tryz.func106 rfl Tryz.ntmps106 rfl fun E hE hst hho => ?_
 by_cases h3 : x.st = 3
 ·skip
  simp (maxSteps := 1000000) [colA, hho, noHo, h3, undef, onGP_none, condG_false, -List.reduceReplicate]
  refine Ret.sel [0] (fun _ => false) (ho := by rfl) (ha := by rfl) ?_ ?_ (by decide) (by simp) (fun i _ h => ?_) ⟨?_, rfl⟩
  ·simp
  ·simp
  ·have e : i = 0 := of_decide_eq_true h
   subst e; rfl
  ·simp [h3]
 ·skip
  simp (maxSteps := 1000000) [colA, hho, noHo, h3, undef, onGP_none, condG_false, -List.reduceReplicate]
  refine Ret.sel [0] (fun _ => false) (ho := by rfl) (ha := by rfl) ?_ ?_ (by decide) (by simp) (fun i _ h => ?_) ⟨?_, rfl⟩
  ·simp
  ·simp
  ·have e : i = 0 := of_decide_eq_true h
   subst e; rfl
  ·simp [h3]
theorem scColumnId_1_w (x : ColS) (k : Int) : ACalls Tryz.prog 140 [.agg (colA x), .ptr 0 0 1] [.o .box [.c (.int .i64 k)]] (fun k => decide (k < 1)) (fun r h' => r = .c (.bool (decide (x.id = k))) ∧ h' = [.o .box [.c (.int .i64 k)]]) := by
 refine acalls mixed Tryz.func140 rfl Tryz.ntmps140 rfl fun E hE hst hho => ?_
 simp (maxSteps := 1000000) [colA, hho, noHo, -List.reduceReplicate]
 refine Ret.sel [0] (fun _ => false) (ho := by rfl) (ha := by rfl) ?_ ?_ (by decide) (by simp) (fun i _ h => ?_) ⟨?_, rfl⟩
 ·simp
 ·simp
 ·have e : i = 0 := of_decide_eq_true h
  subst e; rfl
 ·rfl
theorem scIndex_1_w (x : IdxS) (k : ByteArray) : ACalls Tryz.prog 79 [.agg (idxA x), .ptr 0 0 1] [.o .box [.c (.string k)]] (fun k => decide (k < 1)) (fun r h' => r = .c (.bool (decide (x.name = k))) ∧ h' = [.o .box [.c (.string k)]]) := by
 refine acalls mixed Tryz.func79 rfl Tryz.ntmps79 rfl fun E hE hst hho => ?_
 simp (maxSteps := 1000000) [idxA, hho, noHo, -List.reduceReplicate]
 refine Ret.sel [0] (fun _ => false) (ho := by rfl) (ha := by rfl) ?_ ?_ (by decide) (by simp) (fun i _ h => ?_) ⟨?_, rfl⟩
 ·simp
 ·simp
 ·have e : i = 0 := of_decide_eq_true h
  subst e; rfl
 ·rfl
theorem scTable_w (s : SchS) (k : ByteArray) (hl : s.tabs.length ≤ 1000000) : ACalls Tryz.prog 34 [.agg (schA s), .c (.string k)] [] (fun _ => false) (fun r h' => r = .c (.int .i64 (ixF (fun x : TabS => decide (x.name = k)) s.tabs)) ∧ h' = []) := by
 refine acalls mixed Tryz.func34 rfl Tryz.ntmps34 rfl fun E hE hst hho => ?_
 have hic := ifc_tab s.tabs (fun x : TabS => decide (x.name = k)) 77 (by simp) [.c (.string k)] 1 rfl rfl hl fun x _ => scTable_1_w x k
 simp (maxSteps := 1000000) [schA, hho, noHo, -List.reduceReplicate]
 refine call_x [1] hic rfl rfl ⟨rfl, rfl⟩ hho (by simp) (by decide) (by simp) (by simp) ?_
 simp (maxSteps := 1000000) [hho, noHo, -List.reduceReplicate]
 exact Ret.drop (by rfl) ⟨rfl, rfl⟩
theorem scColumn_w (t : TabS) (k : ByteArray) (hl : t.cols.length ≤ 1000000) : ACalls Tryz.prog 54 [.agg (tabA t), .c (.string k)] [] (fun _ => false) (fun r h' => r = .c (.int .i64 (ixF (fun x : ColS => decide (x.st = 3) && decide (x.name = k)) t.cols)) ∧ h' = []) := by
 refine acalls mixed Tryz.func54 rfl Tryz.ntmps54 rfl fun E hE hst hho => ?_
 have hic := ifc_col t.cols (fun x : ColS => decide (x.st = 3) && decide (x.name = k)) 106 (by simp) [.c (.string k)] 1 rfl rfl hl fun x _ => scColumn_1_w x k
 simp (maxSteps := 1000000) [tabA, hho, noHo, -List.reduceReplicate]
 refine call_x [1] hic rfl rfl ⟨rfl, rfl⟩ hho (by simp) (by decide) (by simp) (by simp) ?_
 simp (maxSteps := 1000000) [hho, noHo, -List.reduceReplicate]
 exact Ret.drop (by rfl) ⟨rfl, rfl⟩
theorem scColumnId_w (t : TabS) (k : Int) (hl : t.cols.length ≤ 1000000) : ACalls Tryz.prog 81 [.agg (tabA t), .c (.int .i64 k)] [] (fun _ => false) (fun r h' => r = .c (.int .i64 (ixF (fun x : ColS => decide (x.id = k)) t.cols)) ∧ h' = []) := by
 refine acalls mixed Tryz.func81 rfl Tryz.ntmps81 rfl fun E hE hst hho => ?_
 have hic := ifc_col t.cols (fun x : ColS => decide (x.id = k)) 140 (by simp) [.c (.int .i64 k)] 1 rfl rfl hl fun x _ => scColumnId_1_w x k
 simp (maxSteps := 1000000) [tabA, hho, noHo, -List.reduceReplicate]
 refine call_x [1] hic rfl rfl ⟨rfl, rfl⟩ hho (by simp) (by decide) (by simp) (by simp) ?_
 simp (maxSteps := 1000000) [hho, noHo, -List.reduceReplicate]
 exact Ret.drop (by rfl) ⟨rfl, rfl⟩
theorem scIndex_w (t : TabS) (k : ByteArray) (hl : t.idxs.length ≤ 1000000) : ACalls Tryz.prog 42 [.agg (tabA t), .c (.string k)] [] (fun _ => false) (fun r h' => r = .c (.int .i64 (ixF (fun x : IdxS => decide (x.name = k)) t.idxs)) ∧ h' = []) := by
 refine acalls mixed Tryz.func42 rfl Tryz.ntmps42 rfl fun E hE hst hho => ?_
 have hic := ifc_idx t.idxs (fun x : IdxS => decide (x.name = k)) 79 (by simp) [.c (.string k)] 1 rfl rfl hl fun x _ => scIndex_1_w x k
 simp (maxSteps := 1000000) [tabA, hho, noHo, -List.reduceReplicate]
 refine call_x [1] hic rfl rfl ⟨rfl, rfl⟩ hho (by simp) (by decide) (by simp) (by simp) ?_
 simp (maxSteps := 1000000) [hho, noHo, -List.reduceReplicate]
 exact Ret.drop (by rfl) ⟨rfl, rfl⟩
theorem clone_cols (l : List ColS) (hl : l.length ≤ 1000000) : ACalls Tryz.prog 56 [.fs 10 l.length (colsA l)] [] (fun _ => false) (fun r h' => r = .sl 0 10 0 l.length (l.length * 10) ∧ h' = [.o (.row 44 10) (colsA l)]) := by
 refine acalls mixed Tryz.func56 rfl Tryz.ntmps56 rfl fun E hE _ hho => ?_
 have hc := (colsA_cell l).2 trivial
 simp (maxSteps := 1000000) [hho, noHo, -List.reduceReplicate]
 refine ⟨⟨by omega, Ret.same ⟨rfl, rfl⟩⟩, fun h0 => ?_⟩
 subst h0
 refine Ret.wk (h2 := [.o (.row 44 10) []]) (r2 := .sl 0 10 0 0 0) (fun E hE => wk_virt 0 44 10 rfl) (Ret.same ⟨rfl, rfl⟩)
def rowCol (l : List ColS) : AObj := .o (.row 44 10) (colsA l)
theorem colsA_set' (l : List ColS) (j : Nat) (hj : j < l.length) (y : ColS) : List.take (j * 10) (colsA l) ++ (colA y ++ List.drop (j * 10 + 10) (colsA l)) = colsA (l.set j y) := colsA_set l j hj y
set_option maxHeartbeats 4000000 in
theorem ifl_col (l : List ColS) (n : Nat) (hn : n = l.length) (hl : n ≤ 1000000) (p : ColS → Bool) (g : FuncId) (hg : callable Tryz.prog g = true) (hc : ∀ x ∈ l, ACalls Tryz.prog g [.agg (colA x)] [] (fun _ => false) (fun r h' => r = .c (.bool (p x)) ∧ h' = [])) : ACalls Tryz.prog 105 [.sl 0 10 0 n (n * 10), .clo (.func g) [] []] [rowCol l] (fun k => decide (k < 1)) (fun r h' => r = .c (.int .i64 (ixF p l)) ∧ h' = [rowCol l]) := by
 refine acalls mixed Tryz.func105 rfl Tryz.ntmps105 rfl fun E hE hst hho => ?_
 simp (maxSteps := 1000000) [rowCol, hho, noHo, -List.reduceReplicate]
 refine ⟨by omega, ?_⟩
 refine loop_k mixed (fun j : Nat => ⟨slotsOf 19 [(0, .sl 0 10 0 n (n * 10)), (1, .clo (.func g) [] []), (7, .c (.int .i64 n)), (8, .c (.int .i64 (j : Nat)))], [rowCol l]⟩) (fun j => n - j) (fun j => j ≤ n ∧ ∀ k (hk : k < l.length), k < j → p l[k] = false) 0 ⟨Nat.zero_le _, fun k _ h => by omega⟩ ?_ ?_
 ·exact wk_eq (by simp [hE, rowCol, lens]) (by simp [rowCol]) (by simp [livH, livO, AV.livL, AV.liv, wkL, wkV, List.range', slotsOf])
 ·rintro j ⟨hj, hI⟩
  by_cases hjn : j < n
  ·have hjl : j < l.length := by omega
   have hat := colsA_at l j hjl
   have ew : IntKind.i64.wrap ((j : Int) + 1) = (j + 1 : Nat) := by rw [IntWalk.i64_in _ (by omega)]; rfl
   have e0 : j * 10 + 10 ≤ n * 10 := by omega
   have hx := hc l[j] (List.getElem_mem hjl)
   have hp0 := @ixF_hit _ p l j hjl hI
   have hI1 : p l[j] = false → ∀ k (hk : k < l.length), k < j + 1 → p l[k] = false := fun h k hk hkj => by
    by_cases e : k = j
    ·subst e; exact h
    ·exact hI k hk (by omega)
   obtain ⟨x, hxe⟩ : ∃ x, x = l[j] := ⟨_, rfl⟩
   rw [← hxe] at hat hx hp0 hI1
   have h5 : List.take 10 (colA x) = colA x := rfl
   have hln : l.length * 10 = n * 10 := by omega
   cases hp : p x with
   | true =>
    rw [hp] at hx
    simp (maxSteps := 1000000) [slotsOf, rowCol, hho, noHo, hjn, hat, e0, hg, h5, hln, -List.reduceReplicate]
    refine call_x [] hx rfl rfl ⟨rfl, rfl⟩ hho (by simp) (by decide) (by simp) (by simp) ?_
    simp (maxSteps := 1000000) [hho, noHo, ew, -List.reduceReplicate]
    exact Ret.same ⟨by rw [hp0 hp], rfl⟩
   | false =>
    rw [hp] at hx
    simp (maxSteps := 1000000) [slotsOf, rowCol, hho, noHo, hjn, hat, e0, hg, h5, hln, -List.reduceReplicate]
    refine call_x [] hx rfl rfl ⟨rfl, rfl⟩ hho (by simp) (by decide) (by simp) (by simp) ?_
    simp (maxSteps := 1000000) [hho, noHo, ew, -List.reduceReplicate]
    refine round_next (j + 1) ⟨by omega, hI1 hp⟩ (by omega) ?_
    exact wk_eq (by simp [hE, rowCol, lens]) (by simp [rowCol]) (by simp [livH, livO, AV.livL, AV.liv, wkL, wkV, List.range', slotsOf])
  ·obtain rfl : j = n := by omega
   simp (maxSteps := 1000000) [slotsOf, rowCol, hho, noHo, -List.reduceReplicate]
   exact Ret.same ⟨by rw [ixF_none fun k hk => hI k hk (by omega)], rfl⟩
def liveCol (p : ColS → Bool) (l : List ColS) : List ColS := l.filter fun x => !p x
theorem liveCol_none (p : ColS → Bool) (l : List ColS) (h : ∀ k (hk : k < l.length), p l[k] = false) : liveCol p l = l := by
 unfold liveCol
 rw [List.filter_eq_self]
 intro a ha
 obtain ⟨i, hi, rfl⟩ := List.getElem_of_mem ha
 simpa using h i hi
theorem liveCol_succ (p : ColS → Bool) (l : List ColS) (j : Nat) (hj : j < l.length) : liveCol p (l.take (j + 1)) = liveCol p (l.take j) ++ (if p l[j] = false then [l[j]] else []) := by
 unfold liveCol
 rw [List.take_succ_eq_append_getElem hj, List.filter_append]
 congr 1
 cases h : p l[j] <;> simp [List.filter_cons, h]
theorem ixFC_cases {α : Type} (p : α → Bool) (l : List α) : (∃ i : Nat, ∃ hi : i < l.length, ixF p l = i ∧ (∀ k (hk : k < l.length), k < i → p l[k] = false) ∧ p l[i] = true) ∨ (ixF p l = -1 ∧ ∀ k (hk : k < l.length), p l[k] = false) := by
 unfold ixF
 cases h : l.findIdx? p with
 | none =>
  refine .inr ⟨rfl, fun k hk => ?_⟩
  rw [List.findIdx?_eq_none_iff] at h
  exact h _ (List.getElem_mem hk)
 | some i =>
  rw [List.findIdx?_eq_some_iff_getElem] at h
  obtain ⟨hi, h1, h2⟩ := h
  exact .inl ⟨i, hi, rfl, fun k hk hki => by simpa using h2 k hki, h1⟩
set_option maxHeartbeats 4000000 in
theorem deleteFunc_cols (l : List ColS) (n : Nat) (hn : n = l.length) (hl : n ≤ 1000000) (p : ColS → Bool) (g : FuncId) (hg : callable Tryz.prog g = true) (hc : ∀ x ∈ l, ACalls Tryz.prog g [.agg (colA x)] [] (fun _ => false) (fun r h' => r = .c (.bool (p x)) ∧ h' = [])) : ACalls Tryz.prog 170 [.sl 0 10 0 n (n * 10), .clo (.func g) [] []] [rowCol l] (fun _ => false) (fun r h' => r = .sl 0 10 0 (liveCol p l).length ((liveCol p l).length * 10) ∧ h' = [rowCol (liveCol p l)]) := by
 refine acalls mixed Tryz.func170 rfl Tryz.ntmps170 rfl fun E hE hst hho => ?_
 simp [rowCol, hho, -List.reduceReplicate]
 have hiv := ixFC_cases p l
 have hic := ifl_col l n hn hl p g hg hc
 obtain ⟨v, hv⟩ : ∃ v, v = ixF p l := ⟨_, rfl⟩
 rw [← hv] at hiv hic
 refine call_x [0] hic rfl rfl ⟨rfl, rfl⟩ hho (by simp) (by decide) (by simp) (by simp) ?_
 rcases hiv with ⟨i0, hi0, rfl, h1, h2⟩ | ⟨rfl, h1⟩
 ·have hin : i0 < n := by omega
  have ew0 : IntKind.i64.wrap ((i0 : Int) + 1) = (i0 + 1 : Nat) := by rw [IntWalk.i64_in _ (by omega)]; rfl
  have hne : ¬ (i0 : Int) = -1 := by omega
  simp (maxSteps := 1000000) [rowCol, hho, hne, ew0, -List.reduceReplicate]
  have hpre : liveCol p (l.take i0) = l.take i0 := liveCol_none p _ fun k hk => by
   rw [List.length_take] at hk
   rw [List.getElem_take]
   exact h1 k (by omega) (by omega)
  have hgi : ¬ p l[i0] = false := by rw [h2]; simp
  have hpre1 : liveCol p (l.take (i0 + 1)) = l.take i0 := by rw [liveCol_succ p l i0 hi0, if_neg hgi, List.append_nil, hpre]
  refine loop_k2 mixed (fun x : Nat × Nat × List ColS => ⟨slotsOf 42 [(0, .sl 0 10 0 n (n * 10)), (1, .clo (.func g) [] []), (5, .c (.int .i64 (x.1 : Int))), (6, .c (.int .i64 (x.2.1 : Int)))], [rowCol x.2.2]⟩) (fun x => n - x.2.1) (fun x => x.1 < x.2.1 ∧ x.2.1 ≤ n ∧ x.2.2.length = n ∧ x.2.2.take x.1 = liveCol p (l.take x.2.1) ∧ x.2.2.drop x.2.1 = l.drop x.2.1) (i0, i0 + 1, l)
   (fun x : Nat × List ColS => ⟨slotsOf 42 [(0, .sl 0 10 0 n (n * 10)), (5, .c (.int .i64 (x.1 : Int)))], [rowCol x.2]⟩) (fun x => x.1 < n ∧ x.2.length = n ∧ x.2.take x.1 = liveCol p l) 0 ⟨by simp only; omega, by simp only; omega, hn.symm, hpre1.symm, rfl⟩ ?_ ?_ ?_
  ·exact wk_eq (by simp [hE, rowCol, lens]) (by simp [rowCol]) (by simp [livH, livO, AV.livL, AV.liv, wkL, wkV, List.range', slotsOf])
  ·rintro ⟨i, l1⟩ ⟨g1, g2, g3⟩
   simp only at g1 g2 g3
   have gi : (i : Int) < n := by omega
   have hin2 : i ≤ n := by omega
   simp (maxSteps := 1000000) [rowCol, slotsOf, hho, g1, g2, hin2, -List.reduceReplicate]
   have hlen : (liveCol p l).length = i := by rw [← g3, List.length_take]; omega
   have hrz : (rowZ (n - i) [Value.int .i64 0, Value.string ByteArray.empty, Value.int .i64 0, Value.int .i64 0, Value.bool false, Value.int .i64 0, Value.int .i64 0, Value.int .i64 0, Value.string ByteArray.empty, Value.int .i64 0]).length = (n - i) * 10 := by rw [rowZ_length]; rfl
   have hL : (colsA l1).length = n * 10 := by simp [g2]
   refine ⟨by omega, by rw [hrz]; omega, ?_⟩
   refine Ret.cut 0 i rfl ?_ (by omega) rfl ?_ ?_ ?_
   ·simp only [List.length_append, List.length_take, List.length_drop, hrz, hL]; omega
   ·rw [List.all_eq_true]
    intro v hv
    simp only [List.mem_append] at hv
    rcases hv with hv | hv | hv
    ·exact (colsA_all l1).2 trivial v (List.mem_of_mem_take hv)
    ·obtain ⟨q, hq⟩ := List.getElem?_of_mem hv
     obtain ⟨u, _, rfl⟩ := rowZ_at _ _ _ _ hq
     rfl
    ·exact (colsA_all l1).2 trivial v (List.mem_of_mem_drop hv)
   ·simp [livH, livO, AV.livL, AV.liv]
   ·refine Ret.same ⟨by rw [hlen], ?_⟩
    have e : List.take (i * 10) (List.take (i * 10) (colsA l1) ++ (rowZ (n - i) [Value.int .i64 0, Value.string ByteArray.empty, Value.int .i64 0, Value.int .i64 0, Value.bool false, Value.int .i64 0, Value.int .i64 0, Value.int .i64 0, Value.string ByteArray.empty, Value.int .i64 0] ++ List.drop (i * 10 + (n - i) * 10) (colsA l1))) = colsA (liveCol p l) := by
     rw [List.take_append_of_le_length (by rw [List.length_take, hL]; omega), List.take_take, Nat.min_self, colsA_cut, g3]
    simp only [List.set_cons_zero, e]
  ·rintro ⟨i, j, l1⟩ ⟨g1, g2, g3, g4, g5⟩
   simp only at g1 g2 g3 g4 g5
   by_cases hjn : j < n
   ·have hjl : j < l.length := by omega
    have hjl1 : j < l1.length := by omega
    have hil1 : i < l1.length := by omega
    have hin : i < n := by omega
    have hini : (i : Int) < n := by omega
    have ewj : IntKind.i64.wrap ((j : Int) + 1) = (j + 1 : Nat) := by rw [IntWalk.i64_in _ (by omega)]; rfl
    have ewi : IntKind.i64.wrap ((i : Int) + 1) = (i + 1 : Nat) := by rw [IntWalk.i64_in _ (by omega)]; rfl
    have hat := colsA_at l1 j hjl1
    have hx : l1[j] = l[j] := by
     have := congrArg (fun z => z[0]?) g5
     simp only [List.getElem?_drop, Nat.add_zero] at this
     rw [List.getElem?_eq_getElem hjl1, List.getElem?_eq_getElem hjl] at this
     injection this
    obtain ⟨x, hx1⟩ : ∃ x, x = l[j] := ⟨_, rfl⟩
    rw [hx, ← hx1] at hat
    have h5 : List.take 10 (colA x) = colA x := rfl
    have el : j * 10 + 10 ≤ n * 10 := by omega
    have hs := colsA_set' l1 i hil1 x
    have hlv := liveCol_succ p l j hjl
    rw [← hx1] at hlv
    have hdrop : l.drop (j + 1) = l1.drop (j + 1) := by
     have := congrArg (List.drop 1) g5
     rw [List.drop_drop, List.drop_drop] at this
     exact this.symm
    have hcx := hc l[j] (List.getElem_mem hjl)
    have hgq := hg
    rw [← hx1] at hcx
    cases hpx : p x with
    | false =>
     rw [hpx] at hcx
     rw [hpx, if_pos rfl] at hlv
     simp (maxSteps := 1000000) [rowCol, slotsOf, hho, noHo, hjn, g3, hat, h5, el, hgq, -List.reduceReplicate]
     refine call_x [] hcx rfl rfl ⟨rfl, rfl⟩ hho (by simp) (by decide) (by simp) (by simp) ?_
     simp (maxSteps := 1000000) [hho, noHo, ewj, ewi, g3, h5, hin, hini, hs, -List.reduceReplicate]
     refine ⟨by omega, ?_⟩
     refine round_next (i + 1, j + 1, l1.set i x) ⟨by simp only; omega, by simp only; omega, by simp [g3], ?_, ?_⟩ (by simp only; omega) ?_
     ·simp only
      rw [hlv, ← g4, List.take_succ_eq_append_getElem (by simpa using hil1), List.take_set, List.getElem_set_self]
      congr 1
      rw [List.set_eq_of_length_le (by rw [List.length_take]; omega)]
     ·simp only
      rw [List.drop_set_of_lt (by omega)]
      exact hdrop.symm
     ·exact wk_of 1 1 (by simp) (by simp [hE, rowCol, lens]) (by simp [rowCol]) (by simp [livH, livO, AV.livL, AV.liv, wkL, wkV, List.range', rowCol]) (by simp [livH, livO, AV.livL, AV.liv, wkL, wkV, List.range', slotsOf])
    | true =>
     rw [hpx] at hcx
     rw [hpx, if_neg (by simp), List.append_nil] at hlv
     simp (maxSteps := 1000000) [rowCol, slotsOf, hho, noHo, hjn, g3, hat, h5, el, hgq, -List.reduceReplicate]
     refine call_x [] hcx rfl rfl ⟨rfl, rfl⟩ hho (by simp) (by decide) (by simp) (by simp) ?_
     simp (maxSteps := 1000000) [hho, noHo, ewj, -List.reduceReplicate]
     refine round_next (i, j + 1, l1) ⟨by simp only; omega, by simp only; omega, g3, by simp only; rw [g4, hlv], by simp only; exact hdrop.symm⟩ (by simp only; omega) ?_
     exact wk_of 1 1 (by simp) (by simp [hE, rowCol, lens]) (by simp [rowCol]) (by simp [livH, livO, AV.livL, AV.liv, wkL, wkV, List.range', rowCol]) (by simp [livH, livO, AV.livL, AV.liv, wkL, wkV, List.range', slotsOf])
   ·simp (maxSteps := 1000000) [rowCol, slotsOf, hho, hjn, g3, -List.reduceReplicate]
    obtain rfl : j = n := by omega
    refine exit_to (i, l1) ⟨by simp only; omega, g3, by simp only; rw [g4, hn, List.take_length]⟩ ?_
    exact wk_eq (by simp [hE, rowCol, lens]) (by simp [rowCol]) (by simp [livH, livO, AV.livL, AV.liv, wkL, wkV, List.range', slotsOf])
 ·have hlv : liveCol p l = l := liveCol_none p l h1
  rw [hlv, ← hn]
  simp (maxSteps := 1000000) [rowCol, hho, -List.reduceReplicate]
  exact Ret.same ⟨rfl, rfl⟩
theorem public_sc (t : TabS) (hl : t.cols.length ≤ 1000000) : ACalls Tryz.prog 127 [.agg (tabA t)] [] (fun _ => false) (fun r h' => r = .fs 10 (pubC t.cols).length (colsA (pubC t.cols)) ∧ h' = []) := by
 refine acalls mixed Tryz.func127 rfl Tryz.ntmps127 rfl fun E hE hst hho => ?_
 have hcl := clone_cols t.cols hl
 have hdl := deleteFunc_cols t.cols t.cols.length rfl hl (fun x => !decide (x.st = 3)) 171 (by simp) fun x _ => scpublic_1_w x
 have e : liveCol (fun x : ColS => !decide (x.st = 3)) t.cols = pubC t.cols := by unfold liveCol pubC; congr 1; funext x; rw [Bool.not_not]
 rw [e] at hdl
 have hkl : (pubC t.cols).length ≤ t.cols.length := List.length_filter_le _ _
 obtain ⟨K, hK⟩ : ∃ K, K = pubC t.cols := ⟨_, rfl⟩
 rw [← hK] at hdl hkl ⊢
 simp (maxSteps := 1000000) [tabA, hho, noHo, -List.reduceReplicate]
 refine call_x [] hcl rfl rfl ⟨rfl, rfl⟩ hho (by simp) (by decide) (by simp) (by simp) ?_
 simp (maxSteps := 1000000) [hho, noHo, -List.reduceReplicate]
 have hd2 : ACalls Tryz.prog 170 [.sl 0 10 0 t.cols.length (t.cols.length * 10), .clo (.func 171) [] []] [.o (.row 44 10) (colsA t.cols)] (fun _ => false) (fun q h' => q = .sl 0 10 0 K.length (K.length * 10) ∧ h' = [.o (.row 44 10) (colsA K)]) := hdl
 refine callG_less 0 (tabA t) (slotsOf 7 []) rfl (by simp [livH, livO, AV.livL, AV.liv, wkL, wkV, List.range', tabA]) (by simp [livH, livO, AV.livL, AV.liv, wkL, wkV, List.range', slotsOf]) ?_
 refine call_d [1] (fun _ => false) [1] hd2 rfl rfl ⟨rfl, rfl⟩ hho (fun i k h => ?_) (by simp [livH, livO, AV.livL, AV.liv, wkL, wkV, List.range', slotsOf]) (by simp [livH, livO, AV.livL, AV.liv, wkL, wkV, List.range', tabA]) (by simp [hst]) (by decide) (by decide) (by simp) (by simp) ?_
 ·match i, h with
  | 0, h => simp at h; subst h; exact .inr (by simp)
  | i + 1, h => simp at h
 simp (maxSteps := 1000000) [slotsOf, hho, noHo, -List.reduceReplicate]
 have hL : (colsA K).length = K.length * 10 := colsA_length K
 have htk : List.take (K.length * 10) (colsA K) = colsA K := List.take_of_length_le (by omega)
 refine Ret.sel [] (fun k => k == 1) (ho := by rfl) (ha := by rfl) ?_ ?_ (by decide) (by simp) (fun i _ h => by cases h) ?_
 ·simp
 ·exact ⟨hL, by omega, by unfold maxLen; omega, by rw [List.drop_zero, htk]; exact List.all_eq_true.2 ((colsA_all K).2 trivial)⟩
 ·exact ⟨by rw [List.drop_zero, htk], rfl⟩

theorem ofOk_typ {v : ValS} {t : TypS} (h : ofOk v t = true) : typOk t = true := by
 simp only [ofOk, Bool.and_eq_true] at h; exact h.1.1
set_option maxHeartbeats 4000000 in
theorem column_sc (c : ColS) (hn : c.name.size ≤ 9000000000000000000) (hv : c.dft.t.size ≤ 9000000000000000000) : ACalls Tryz.prog 136 [.agg (colA c)] [] (fun _ => false) (fun r h' => r = .c (.bool (colOk c)) ∧ h' = []) := by
 refine acalls mixed Tryz.func136 rfl Tryz.ntmps136 rfl fun E hE hst hho => ?_
 have c1 := name_sch c.name hn
 have c2 := type_right c.ty
 have c3 := val_of c.dft c.ty hv
 have c4 := there_sc c.st
 unfold colOk
 simp only [typA, valA] at c2 c3
 simp (maxSteps := 1000000) [colA, hho, noHo, -List.reduceReplicate]
 refine call_x [] c1 rfl rfl ⟨rfl, rfl⟩ hho (by simp) (by decide) (by simp) (by simp) ?_
 cases hN : nameOk c.name with
 | false =>
  simp (maxSteps := 1000000) [hho, noHo, undef, onGP_none, condG_false, -List.reduceReplicate]
  exact Ret.drop (by rfl) ⟨by simp, rfl⟩
 | true =>
 simp (maxSteps := 1000000) [hho, noHo, undef, onGP_none, condG_false, -List.reduceReplicate]
 refine call_x [] c2 rfl rfl ⟨rfl, rfl⟩ hho (by simp) (by decide) (by simp) (by simp) ?_
 cases hT : typOk c.ty with
 | false =>
  have hO : ofOk c.dft c.ty = false := by
   cases h : ofOk c.dft c.ty with
   | false => rfl
   | true => rw [ofOk_typ h] at hT; cases hT
  simp (maxSteps := 1000000) [hho, noHo, undef, onGP_none, condG_false, -List.reduceReplicate]
  exact Ret.drop (by rfl) ⟨by simp [hO], rfl⟩
 | true =>
 simp (maxSteps := 1000000) [hho, noHo, undef, onGP_none, condG_false, -List.reduceReplicate]
 refine call_x [] c3 rfl rfl ⟨rfl, rfl⟩ hho (by simp) (by decide) (by simp) (by simp) ?_
 cases hO : ofOk c.dft c.ty with
 | false =>
  simp (maxSteps := 1000000) [hho, noHo, undef, onGP_none, condG_false, -List.reduceReplicate]
  exact Ret.drop (by rfl) ⟨by simp, rfl⟩
 | true =>
 simp (maxSteps := 1000000) [hho, noHo, undef, onGP_none, condG_false, -List.reduceReplicate]
 refine call_x [] c4 rfl rfl ⟨rfl, rfl⟩ hho (by simp) (by decide) (by simp) (by simp) ?_
 simp (maxSteps := 1000000) [hho, noHo, undef, onGP_none, condG_false, -List.reduceReplicate]
 exact Ret.drop (by rfl) ⟨by simp, rfl⟩
theorem intsA_cut (l : List Int) (j : Nat) : List.take j (intsA l) = intsA (l.take j) := by simp [intsA]
set_option maxHeartbeats 8000000 in
theorem index_sc (t : TabS) (x : IdxS) (ht : t.cols.length ≤ 1000000) (hn : x.name.size ≤ 9000000000000000000) (hl : x.cols.length ≤ 1000000) : ACalls Tryz.prog 139 [.agg (tabA t), .agg (idxA x)] [] (fun _ => false) (fun r h' => r = .c (.bool (idxOk t x)) ∧ h' = []) := by
 refine acalls mixed Tryz.func139 rfl Tryz.ntmps139 rfl fun E hE hst hho => ?_
 have c1 := name_sch x.name hn
 have c2 := there_sc x.st
 unfold idxOk
 simp (maxSteps := 1000000) [tabA, idxA, hho, noHo, -List.reduceReplicate]
 refine call_x [] c1 rfl rfl ⟨rfl, rfl⟩ hho (by simp) (by decide) (by simp) (by simp) ?_
 cases hN : nameOk x.name with
 | false =>
  simp (maxSteps := 1000000) [hho, noHo, undef, onGP_none, condG_false, -List.reduceReplicate]
  exact Ret.drop (by rfl) ⟨by simp, rfl⟩
 | true =>
 simp (maxSteps := 1000000) [hho, noHo, undef, onGP_none, condG_false, -List.reduceReplicate]
 refine call_x [] c2 rfl rfl ⟨rfl, rfl⟩ hho (by simp) (by decide) (by simp) (by simp) ?_
 cases hT : thereB x.st with
 | false =>
  simp (maxSteps := 1000000) [hho, noHo, undef, onGP_none, condG_false, -List.reduceReplicate]
  exact Ret.drop (by rfl) ⟨by simp, rfl⟩
 | true =>
 by_cases h1 : x.cols.length < 1
 ·have h1' : (x.cols.length : Int) < 1 := by omega
  have h0 : x.cols = [] := List.eq_nil_of_length_eq_zero (by omega)
  simp (maxSteps := 1000000) [hho, noHo, h0, undef, onGP_none, condG_false, -List.reduceReplicate]
  exact Ret.drop (by rfl) ⟨by simp, rfl⟩
 have h1' : ¬ (x.cols.length : Int) < 1 := by omega
 have h1n : ¬ x.cols.length = 0 := by omega
 have h1m : ¬ x.cols = [] := fun h => h1n (by rw [h]; rfl)
 by_cases h4 : 4 < x.cols.length
 ·have h4' : (4 : Int) < x.cols.length := by omega
  simp (maxSteps := 1000000) [hho, noHo, h1, h1', h1n, h1m, h4, h4', undef, onGP_none, condG_false, -List.reduceReplicate]
  exact Ret.drop (by rfl) ⟨by simp; omega, rfl⟩
 have h4' : ¬ (4 : Int) < x.cols.length := by omega
 have hg1 : 1 ≤ x.cols.length := by omega
 have hg4 : x.cols.length ≤ 4 := by omega
 simp (maxSteps := 1000000) [hho, noHo, h1, h1', h1n, h1m, h4, h4', undef, onGP_none, condG_false, -List.reduceReplicate]
 refine loop_k mixed (fun j : Nat => ⟨slotsOf 50 [(2, .ptr 0 0 4), (3, .ptr 1 0 5), (30, .fs 1 x.cols.length (intsA x.cols)), (31, .c (.int .i64 x.cols.length)), (32, .c (.int .i64 (j : Nat)))], [.o .box (tabA t), .o .box (idxA x)]⟩) (fun j => x.cols.length - j) (fun j => j ≤ x.cols.length ∧ partsOk (t.cols.map ColS.id) [] x.cols = partsOk (t.cols.map ColS.id) (x.cols.take j) (x.cols.drop j)) 0 ⟨Nat.zero_le _, rfl⟩ ?_ ?_
 ·exact wk_eq (by simp [hE, lens]) (by simp [tabA, idxA]) (by simp [livH, livO, AV.livL, AV.liv, wkL, wkV, List.range', slotsOf])
 rintro j ⟨hj, hI⟩
 by_cases hjl : j < x.cols.length
 ·have hat := intsA_get x.cols j hjl
  have ew : IntKind.i64.wrap ((j : Int) + 1) = (j + 1 : Nat) := by rw [IntWalk.i64_in _ (by omega)]; rfl
  rw [partsOk_step _ _ j hjl] at hI
  have hct := intsA_cut x.cols j
  have hlt : (x.cols.take j).length = j := by rw [List.length_take]; omega
  obtain ⟨k, hk⟩ : ∃ k, k = x.cols[j] := ⟨_, rfl⟩
  rw [← hk] at hat hI
  have k1 := scColumnId_w t k ht
  have k2 := contains_int (x.cols.take j) k (by rw [hlt]; omega)
  rw [hlt] at k2
  have hneg := ixF_id t.cols k
  obtain ⟨v, hv⟩ : ∃ v, v = ixF (fun c : ColS => decide (c.id = k)) t.cols := ⟨_, rfl⟩
  rw [← hv] at k1 hneg
  obtain ⟨D, hD⟩ : ∃ D, D = x.cols.take j := ⟨_, rfl⟩
  rw [← hD] at hI k2 hct
  simp (maxSteps := 1000000) [slotsOf, tabA, idxA, hho, noHo, hjl, hat, -List.reduceReplicate]
  refine ⟨by omega, ?_⟩
  refine call_x [] k1 rfl rfl ⟨rfl, rfl⟩ hho (by simp) (by decide) (by simp) (by simp) ?_
  cases hm : memI (t.cols.map ColS.id) k with
  | false =>
   rw [hm] at hI
   have hv0 : v < 0 := hneg.2 hm
   simp (maxSteps := 1000000) [hho, noHo, hv0, undef, onGP_none, condG_false, -List.reduceReplicate]
   exact Ret.drop (by rfl) ⟨by simp [hI], rfl⟩
  | true =>
   rw [hm] at hI
   have hv0 : ¬ v < 0 := fun h => by have := hneg.1 h; rw [hm] at this; cases this
   have hj2 : j ≤ x.cols.length := by omega
   simp (maxSteps := 1000000) [hho, noHo, hv0, hj2, hct, -List.reduceReplicate]
   refine call_x [] k2 rfl rfl ⟨rfl, rfl⟩ hho (by simp) (by decide) (by simp) (by simp) ?_
   cases hm2 : memI D k with
   | true =>
    rw [hm2] at hI
    simp (maxSteps := 1000000) [hho, noHo, -List.reduceReplicate]
    exact Ret.drop (by rfl) ⟨by simp [hI], rfl⟩
   | false =>
    rw [hm2] at hI
    simp (maxSteps := 1000000) [hho, noHo, ew, -List.reduceReplicate]
    refine round_next (j + 1) ⟨by omega, by rw [hI]; simp⟩ (by omega) ?_
    exact wk_of 2 0 (by simp) (by simp [hE, lens]) (by simp [tabA, idxA]) (by simp [livH, livO, AV.livL, AV.liv, wkL, wkV, List.range']) (by simp [livH, livO, AV.livL, AV.liv, wkL, wkV, List.range', slotsOf])
 ·obtain rfl : j = x.cols.length := by omega
  rw [List.drop_length] at hI
  simp (maxSteps := 1000000) [slotsOf, tabA, idxA, hho, noHo, -List.reduceReplicate]
  exact Ret.drop (by rfl) ⟨by simp [hI, partsOk, hg1, hg4], rfl⟩
theorem sctable_5_w (t : TabS) (x : IdxS) (ht : t.cols.length ≤ 1000000) (hn : x.name.size ≤ 9000000000000000000) (hl : x.cols.length ≤ 1000000) : ACalls Tryz.prog 138 [.agg (idxA x), .ptr 0 0 4] [.o .box (tabA t)] (fun k => decide (k < 1)) (fun r h' => r = .c (.bool (!idxOk t x)) ∧ h' = [.o .box (tabA t)]) := by
 refine acalls mixed Tryz.func138 rfl Tryz.ntmps138 rfl fun E hE hst hho => ?_
 have c1 := index_sc t x ht hn hl
 simp (maxSteps := 1000000) [tabA, idxA, hho, noHo, -List.reduceReplicate]
 refine call_x [] c1 rfl rfl ⟨rfl, rfl⟩ hho (by simp) (by decide) (by simp) (by simp) ?_
 simp (maxSteps := 1000000) [hho, noHo, -List.reduceReplicate]
 refine Ret.sel [0] (fun _ => false) (ho := by rfl) (ha := by rfl) ?_ ?_ (by decide) (by simp) (fun i _ h => ?_) ⟨?_, rfl⟩
 ·simp
 ·simp
 ·have e : i = 0 := of_decide_eq_true h
  subst e; rfl
 ·rfl
structure TabBig (t : TabS) : Prop where
 cl : t.cols.length ≤ 1000000
 il : t.idxs.length ≤ 1000000
 nm : t.name.size ≤ 9000000000000000000
 cn : ∀ c ∈ t.cols, c.name.size ≤ 9000000000000000000 ∧ c.dft.t.size ≤ 9000000000000000000
 xn : ∀ x ∈ t.idxs, x.name.size ≤ 9000000000000000000 ∧ x.cols.length ≤ 1000000
theorem all_step {α : Type} (p : α → Bool) (l : List α) (j : Nat) (hj : j < l.length) : (l.drop j).all p = (p l[j] && (l.drop (j + 1)).all p) := by
 rw [← List.getElem_cons_drop hj, List.all_cons]
set_option maxHeartbeats 8000000 in
theorem table_sc (t : TabS) (next : Int) (hb : TabBig t) : ACalls Tryz.prog 75 [.agg (tabA t), .c (.int .i64 next)] [] (fun _ => false) (fun r h' => r = .c (.bool (tabOk t next)) ∧ h' = []) := by
 refine acalls mixed Tryz.func75 rfl Tryz.ntmps75 rfl fun E hE hst hho => ?_
 have hpl : (pubC t.cols).length ≤ t.cols.length := List.length_filter_le _ _
 have hcl := hb.cl
 have hil := hb.il
 have c0 := public_sc t hb.cl
 have c1 := name_sch t.name hb.nm
 have c2 := rising_col t.cols next ColS.id 129 (by simp) hb.cl fun x _ => sctable_1_w x
 have c3 := rising_idx t.idxs next IdxS.id 131 (by simp) hb.il fun x _ => sctable_2_w x
 have c4 := unlike_col (pubC t.cols) ColS.name 133 (by simp) (by omega) fun x _ => sctable_3_w x
 have c5 := unlike_idx t.idxs IdxS.name 135 (by simp) hb.il fun x _ => sctable_4_w x
 have c6 := cfc_idx t.idxs (fun x => !idxOk t x) 138 (by simp) (tabA t) 4 rfl rfl hb.il fun x hx => sctable_5_w t x hb.cl (hb.xn x hx).1 (hb.xn x hx).2
 have e6 : (!t.idxs.any fun x => !idxOk t x) = t.idxs.all (idxOk t) := by rw [List.not_any_eq_all_not]; simp
 have e7 : t.cols.all colOk = (t.cols.drop 0).all colOk := rfl
 unfold tabOk
 obtain ⟨K, hK⟩ : ∃ K, K = pubC t.cols := ⟨_, rfl⟩
 rw [← hK] at c0 c4 hpl ⊢
 simp (maxSteps := 1000000) [tabA, hho, noHo, -List.reduceReplicate]
 refine call_x [] c0 rfl rfl ⟨rfl, rfl⟩ hho (by simp) (by decide) (by simp) (by simp) ?_
 simp (maxSteps := 1000000) [hho, noHo, -List.reduceReplicate]
 refine call_x [] c1 rfl rfl ⟨rfl, rfl⟩ hho (by simp) (by decide) (by simp) (by simp) ?_
 cases hN : nameOk t.name with
 | false =>
  simp (maxSteps := 1000000) [hho, noHo, undef, onGP_none, condG_false, -List.reduceReplicate]
  exact Ret.drop (by rfl) ⟨by simp, rfl⟩
 | true =>
 by_cases g1 : 12 < t.cols.length
 ·have g1' : (12 : Int) < t.cols.length := by omega
  simp (maxSteps := 1000000) [hho, noHo, g1, g1', undef, onGP_none, condG_false, -List.reduceReplicate]
  exact Ret.drop (by rfl) ⟨by rw [decide_eq_false (by omega : ¬ t.cols.length ≤ 12)]; simp, rfl⟩
 have g1' : ¬ (12 : Int) < t.cols.length := by omega
 have g1n : t.cols.length ≤ 12 := by omega
 by_cases g2 : 8 < t.idxs.length
 ·have g2' : (8 : Int) < t.idxs.length := by omega
  simp (maxSteps := 1000000) [hho, noHo, g1, g1', g2, g2', undef, onGP_none, condG_false, -List.reduceReplicate]
  exact Ret.drop (by rfl) ⟨by rw [decide_eq_false (by omega : ¬ t.idxs.length ≤ 8)]; simp, rfl⟩
 have g2' : ¬ (8 : Int) < t.idxs.length := by omega
 have g2n : t.idxs.length ≤ 8 := by omega
 by_cases g3 : K.length = 0
 ·have g3' : (K.length : Int) = 0 := by omega
  have g3n : K = [] := List.eq_nil_of_length_eq_zero g3
  simp (maxSteps := 1000000) [hho, noHo, g1, g1', g2, g2', g3, g3', g3n, undef, onGP_none, condG_false, -List.reduceReplicate]
  exact Ret.drop (by rfl) ⟨by simp, rfl⟩
 have g3' : ¬ (K.length : Int) = 0 := by omega
 have g3n : ¬ K = [] := fun h => g3 (by rw [h]; rfl)
 simp (maxSteps := 1000000) [hho, noHo, g1, g1', g2, g2', g3, g3', g3n, undef, onGP_none, condG_false, -List.reduceReplicate]
 refine call_x [] c2 rfl rfl ⟨rfl, rfl⟩ hho (by simp) (by decide) (by simp) (by simp) ?_
 cases h2 : risB next (-1) (t.cols.map ColS.id) with
 | false =>
  simp (maxSteps := 1000000) [hho, noHo, undef, onGP_none, condG_false, -List.reduceReplicate]
  exact Ret.drop (by rfl) ⟨by simp, rfl⟩
 | true =>
 simp (maxSteps := 1000000) [hho, noHo, undef, onGP_none, condG_false, -List.reduceReplicate]
 refine call_x [] c3 rfl rfl ⟨rfl, rfl⟩ hho (by simp) (by decide) (by simp) (by simp) ?_
 cases h3 : risB next (-1) (t.idxs.map IdxS.id) with
 | false =>
  simp (maxSteps := 1000000) [hho, noHo, undef, onGP_none, condG_false, -List.reduceReplicate]
  exact Ret.drop (by rfl) ⟨by simp, rfl⟩
 | true =>
 simp (maxSteps := 1000000) [hho, noHo, undef, onGP_none, condG_false, -List.reduceReplicate]
 refine call_x [] c4 rfl rfl ⟨rfl, rfl⟩ hho (by simp) (by decide) (by simp) (by simp) ?_
 cases h4 : unlB [] (K.map ColS.name) with
 | false =>
  simp (maxSteps := 1000000) [hho, noHo, undef, onGP_none, condG_false, -List.reduceReplicate]
  exact Ret.drop (by rfl) ⟨by simp, rfl⟩
 | true =>
 simp (maxSteps := 1000000) [hho, noHo, undef, onGP_none, condG_false, -List.reduceReplicate]
 refine call_x [] c5 rfl rfl ⟨rfl, rfl⟩ hho (by simp) (by decide) (by simp) (by simp) ?_
 cases h5 : unlB [] (t.idxs.map IdxS.name) with
 | false =>
  simp (maxSteps := 1000000) [hho, noHo, undef, onGP_none, condG_false, -List.reduceReplicate]
  exact Ret.drop (by rfl) ⟨by simp, rfl⟩
 | true =>
 have hreb : ∀ β, AV.rebL β (tabA t) = tabA t := fun β => rebL_isD rfl
 simp (maxSteps := 1000000) [hho, noHo, undef, onGP_none, condG_false, -List.reduceReplicate]
 refine loop_k mixed (fun j : Nat => ⟨slotsOf 71 [(2, .ptr 0 0 4), (56, .fs 10 t.cols.length (colsA t.cols)), (57, .c (.int .i64 t.cols.length)), (58, .c (.int .i64 (j : Nat)))], [.o .box (tabA t)]⟩) (fun j => t.cols.length - j) (fun j => j ≤ t.cols.length ∧ t.cols.all colOk = (t.cols.drop j).all colOk) 0 ⟨Nat.zero_le _, rfl⟩ ?_ ?_
 ·exact wk_eq (by simp [hE, lens]) (by simp [tabA]) (by simp [livH, livO, AV.livL, AV.liv, wkL, wkV, List.range', slotsOf])
 rintro j ⟨hj, hI⟩
 by_cases hjl : j < t.cols.length
 ·have hat := colsA_at t.cols j hjl
  have ew : IntKind.i64.wrap ((j : Int) + 1) = (j + 1 : Nat) := by rw [IntWalk.i64_in _ (by omega)]; rfl
  have e0 : j * 10 + 10 ≤ t.cols.length * 10 := by omega
  rw [all_step colOk t.cols j hjl] at hI
  have hbc := hb.cn t.cols[j] (List.getElem_mem hjl)
  obtain ⟨c, hc⟩ : ∃ c, c = t.cols[j] := ⟨_, rfl⟩
  rw [← hc] at hat hI hbc
  have k1 := column_sc c hbc.1 hbc.2
  have h10 : List.take 10 (colA c) = colA c := rfl
  simp (maxSteps := 1000000) [slotsOf, tabA, hho, noHo, hjl, hat, h10, e0, -List.reduceReplicate]
  refine call_x [] k1 rfl rfl ⟨rfl, rfl⟩ hho (by simp) (by decide) (by simp) (by simp) ?_
  cases hC : colOk c with
  | false =>
   rw [hC] at hI
   simp (maxSteps := 1000000) [hho, noHo, undef, onGP_none, condG_false, -List.reduceReplicate]
   exact Ret.drop (by rfl) ⟨by rw [hI]; simp, rfl⟩
  | true =>
   rw [hC] at hI
   simp (maxSteps := 1000000) [hho, noHo, ew, undef, onGP_none, condG_false, -List.reduceReplicate]
   refine round_next (j + 1) ⟨by omega, by rw [hI]; simp⟩ (by omega) ?_
   exact wk_of 1 1 (by simp) (by simp [hE, lens]) (by simp [tabA]) (by simp [livH, livO, AV.livL, AV.liv, wkL, wkV, List.range']) (by simp [livH, livO, AV.livL, AV.liv, wkL, wkV, List.range', slotsOf])
 ·obtain rfl : j = t.cols.length := by omega
  rw [List.drop_length, List.all_nil] at hI
  simp (maxSteps := 1000000) [slotsOf, tabA, hho, noHo, -List.reduceReplicate]
  refine call_x [0] c6 rfl rfl ⟨rfl, rfl⟩ hho (by simp) (by decide) (by simp) (by simp) ?_
  simp (maxSteps := 1000000) [hho, noHo, -List.reduceReplicate]
  refine Ret.drop (by rfl) ⟨?_, rfl⟩
  rw [hI, ← e6]
  simp [g1n, g2n, g3, g3n]
theorem scRight_3_w (s : SchS) (t : TabS) (hb : TabBig t) : ACalls Tryz.prog 74 [.agg (tabA t), .ptr 0 0 3] [.o .box (schA s)] (fun k => decide (k < 1)) (fun r h' => r = .c (.bool (!tabOk t s.next)) ∧ h' = [.o .box (schA s)]) := by
 refine acalls mixed Tryz.func74 rfl Tryz.ntmps74 rfl fun E hE hst hho => ?_
 have c1 := table_sc t s.next hb
 simp (maxSteps := 1000000) [tabA, schA, hho, noHo, -List.reduceReplicate]
 refine call_x [] c1 rfl rfl ⟨rfl, rfl⟩ hho (by simp) (by decide) (by simp) (by simp) ?_
 simp (maxSteps := 1000000) [hho, noHo, -List.reduceReplicate]
 refine Ret.sel [0] (fun _ => false) (ho := by rfl) (ha := by rfl) ?_ ?_ (by decide) (by simp) (fun i _ h => ?_) ⟨?_, rfl⟩
 ·simp
 ·simp
 ·have e : i = 0 := of_decide_eq_true h
  subst e; rfl
 ·rfl
set_option maxHeartbeats 8000000 in
theorem right_sc (s : SchS) (hl : s.tabs.length ≤ 1000000) (hb : ∀ t ∈ s.tabs, TabBig t) : ACalls Tryz.prog 32 [.agg (schA s)] [] (fun _ => false) (fun r h' => r = .c (.bool (schOk s)) ∧ h' = []) := by
 refine acalls mixed Tryz.func32 rfl Tryz.ntmps32 rfl fun E hE hst hho => ?_
 have c2 := rising_tab s.tabs s.next TabS.id 70 (by simp) hl fun x _ => scRight_1_w x
 have c3 := unlike_tab s.tabs TabS.name 72 (by simp) hl fun x _ => scRight_2_w x
 have c4 := cfc_tab s.tabs (fun t => !tabOk t s.next) 74 (by simp) (schA s) 3 rfl rfl hl fun x hx => scRight_3_w s x (hb x hx)
 have e6 : (!s.tabs.any fun t => !tabOk t s.next) = s.tabs.all fun t => tabOk t s.next := by rw [List.not_any_eq_all_not]; simp
 unfold schOk
 by_cases g1 : s.ver < 0
 ·simp (maxSteps := 1000000) [schA, hho, noHo, g1, undef, onGP_none, condG_false, -List.reduceReplicate]
  exact Ret.drop (by rfl) ⟨by rw [decide_eq_false (by omega : ¬ 0 ≤ s.ver)]; simp, rfl⟩
 by_cases g2 : s.next < 0
 ·simp (maxSteps := 1000000) [schA, hho, noHo, g1, g2, undef, onGP_none, condG_false, -List.reduceReplicate]
  exact Ret.drop (by rfl) ⟨by rw [decide_eq_false (by omega : ¬ 0 ≤ s.next)]; simp, rfl⟩
 by_cases g3 : 8 < s.tabs.length
 ·have g3' : (8 : Int) < s.tabs.length := by omega
  simp (maxSteps := 1000000) [schA, hho, noHo, g1, g2, g3, g3', undef, onGP_none, condG_false, -List.reduceReplicate]
  exact Ret.drop (by rfl) ⟨by rw [decide_eq_false (by omega : ¬ s.tabs.length ≤ 8)]; simp, rfl⟩
 have g3' : ¬ (8 : Int) < s.tabs.length := by omega
 have g1n : 0 ≤ s.ver := by omega
 have g2n : 0 ≤ s.next := by omega
 have g3n : s.tabs.length ≤ 8 := by omega
 simp (maxSteps := 1000000) [schA, hho, noHo, g1, g2, g3, g3', undef, onGP_none, condG_false, -List.reduceReplicate]
 refine call_x [] c2 rfl rfl ⟨rfl, rfl⟩ hho (by simp) (by decide) (by simp) (by simp) ?_
 cases h2 : risB s.next (-1) (s.tabs.map TabS.id) with
 | false =>
  simp (maxSteps := 1000000) [hho, noHo, undef, onGP_none, condG_false, -List.reduceReplicate]
  exact Ret.drop (by rfl) ⟨by simp, rfl⟩
 | true =>
 simp (maxSteps := 1000000) [hho, noHo, undef, onGP_none, condG_false, -List.reduceReplicate]
 refine call_x [] c3 rfl rfl ⟨rfl, rfl⟩ hho (by simp) (by decide) (by simp) (by simp) ?_
 cases h3 : unlB [] (s.tabs.map TabS.name) with
 | false =>
  simp (maxSteps := 1000000) [hho, noHo, undef, onGP_none, condG_false, -List.reduceReplicate]
  exact Ret.drop (by rfl) ⟨by simp, rfl⟩
 | true =>
 simp (maxSteps := 1000000) [hho, noHo, undef, onGP_none, condG_false, -List.reduceReplicate]
 refine call_x [0] c4 rfl rfl ⟨rfl, rfl⟩ hho (by simp) (by decide) (by simp) (by simp) ?_
 simp (maxSteps := 1000000) [hho, noHo, -List.reduceReplicate]
 refine Ret.drop (by rfl) ⟨?_, rfl⟩
 rw [← e6]
 simp [g1n, g2n, g3n]
end Go.Proofs.YthgoocdldnkogaaGreatDoor
