import Derived.Test.YtlepkpfbejfpiaaDoorV6
import Derived.Test.YtlepkpfbejfpiaaDoorYA
namespace Go.Proofs.YtlepkpfbejfpiaaDoor
set_option linter.unusedVariables false
set_option linter.unusedSimpArgs false
open Go.RowKit
attribute [local simp] isCut_nil isCut_region isCut_seq isCut_block isCut_loop isCut_cond isCut_skip isCut_exit isCut_ret isCut_range swapK putK altK condK_bool pickP_bool stepP stepO onPure_some onPure_none onImpl_some onImpl_none stepC onGP_some onGP_none onGV_some condG mkG onIt_it nextP_ptr takeP_eq takeV_some takeV_none takeU_some takeU_none takeQ takeW_some takeN_none takeN_some takeG_some takeO_some altO_some pureV binV2 eqF eqOp ovlV ovl2 rowAt capV binV intBin strBin isSh shV fldV ixV sliceV slice3V loadAV nilV lenV callV unV convV viewS cellsH loadV fldCut AV.ung AV.ungs AV.gc AV.cells AS.ev AS.put anyS gcsV lens lnO gV guardV retK RetP_eq resV oneV anyRo loIx hiIx implO callP_clo evL gcsL clearV storeAV AS.push AS.setO appV appZ shortS copyV buildV partsV fillV srcV fzO okV isCell_c isCell_ptr isCell_sl isCell_fs isCell_fp isCell_clo rowZ_one rowZ_zero rowZ_2 rowZ_3 rowZ_4 rowZ_5 rowZ_6 rowZ_7 rowZ_8 rowZ_9 rowZ_10 rowZ_11 rowZ_12 noHo Value.oneCell' max2V min2V afterH putBack frzFrom frzO rebO backIx nilEq_sl nilEq_fs nilOp_eql nilOp_neq AV.reb AV.rebL
attribute [local simp ↓] runK_skip runK_region runK_draw runK_seq runK_cut runK_cond runK_block runK_loop runK_exit runK_label runK_goto runK_ret runK_range contK_nil contK_seq contK_seq_ret contK_seq_exit contK_seq_goto contK_block contK_block_ret contK_block_goto contK_block_exit runO_nil runO_cons roundK_exit roundK_ret roundK_goto exitK_ret cutK_ret cutK_exit runE_done runE_nil runE_take runE_alt condG_true condG_false
set_option maxRecDepth 10000
/-! ## Statements, as data -/
structure ColS where
  id : Int
  name : ByteArray
  ty : TypS
  nn : Bool
  dft : ValS
  st : Int
structure SetS where
  name : ByteArray
  val : ExprS
structure ItemS where
  val : ExprS
  as_ : ByteArray
structure SrcS where
  tab : ByteArray
  as_ : ByteArray
structure OrdS where
  val : ExprS
  desc : Bool
def strA (s : ByteArray) : List AV := [.c (.string s)]
def colA (c : ColS) : List AV := [.c (.int .i64 c.id), .c (.string c.name), .c (.int .i64 c.ty.k), .c (.int .i64 c.ty.s), .c (.bool c.nn), .c (.int .i64 c.dft.k), .c (.int .i64 c.dft.n), .c (.int .i64 c.dft.s), .c (.string c.dft.t), .c (.int .i64 c.st)]
def setA (x : SetS) : List AV := .c (.string x.name) :: exprA x.val
def itemA (x : ItemS) : List AV := exprA x.val ++ [.c (.string x.as_)]
def srcA (x : SrcS) : List AV := [.c (.string x.tab), .c (.string x.as_)]
def ordA (x : OrdS) : List AV := exprA x.val ++ [.c (.bool x.desc)]
def erowA (r : List ExprS) : List AV := [.fs 13 r.length (exprsA r)]
@[simp] theorem strA_length (x : ByteArray) : (strA x).length = 1 := by simp [strA]
@[simp] theorem strA_take (x : ByteArray) : List.take 1 (strA x) = strA x := List.take_of_length_le (by simp)
def strsA (l : List (ByteArray)) : List AV := l.flatMap strA
@[simp] theorem strsA_length (l : List (ByteArray)) : (strsA l).length = l.length * 1 := flat_length strA 1 (by simp) l
theorem strsA_at (l : List (ByteArray)) (j : Nat) (hj : j < l.length) : List.take 1 (List.drop (j * 1) (strsA l)) = strA l[j] := flat_at strA 1 (by simp) l j hj
@[simp] theorem colA_length (x : ColS) : (colA x).length = 10 := by simp [colA]
@[simp] theorem colA_take (x : ColS) : List.take 10 (colA x) = colA x := List.take_of_length_le (by simp)
def colsA (l : List (ColS)) : List AV := l.flatMap colA
@[simp] theorem colsA_length (l : List (ColS)) : (colsA l).length = l.length * 10 := flat_length colA 10 (by simp) l
theorem colsA_at (l : List (ColS)) (j : Nat) (hj : j < l.length) : List.take 10 (List.drop (j * 10) (colsA l)) = colA l[j] := flat_at colA 10 (by simp) l j hj
@[simp] theorem setA_length (x : SetS) : (setA x).length = 14 := by simp [setA]
@[simp] theorem setA_take (x : SetS) : List.take 14 (setA x) = setA x := List.take_of_length_le (by simp)
def setsA (l : List (SetS)) : List AV := l.flatMap setA
@[simp] theorem setsA_length (l : List (SetS)) : (setsA l).length = l.length * 14 := flat_length setA 14 (by simp) l
theorem setsA_at (l : List (SetS)) (j : Nat) (hj : j < l.length) : List.take 14 (List.drop (j * 14) (setsA l)) = setA l[j] := flat_at setA 14 (by simp) l j hj
@[simp] theorem itemA_length (x : ItemS) : (itemA x).length = 14 := by simp [itemA]
@[simp] theorem itemA_take (x : ItemS) : List.take 14 (itemA x) = itemA x := List.take_of_length_le (by simp)
def itemsA (l : List (ItemS)) : List AV := l.flatMap itemA
@[simp] theorem itemsA_length (l : List (ItemS)) : (itemsA l).length = l.length * 14 := flat_length itemA 14 (by simp) l
theorem itemsA_at (l : List (ItemS)) (j : Nat) (hj : j < l.length) : List.take 14 (List.drop (j * 14) (itemsA l)) = itemA l[j] := flat_at itemA 14 (by simp) l j hj
@[simp] theorem srcA_length (x : SrcS) : (srcA x).length = 2 := by simp [srcA]
@[simp] theorem srcA_take (x : SrcS) : List.take 2 (srcA x) = srcA x := List.take_of_length_le (by simp)
def srcsA (l : List (SrcS)) : List AV := l.flatMap srcA
@[simp] theorem srcsA_length (l : List (SrcS)) : (srcsA l).length = l.length * 2 := flat_length srcA 2 (by simp) l
theorem srcsA_at (l : List (SrcS)) (j : Nat) (hj : j < l.length) : List.take 2 (List.drop (j * 2) (srcsA l)) = srcA l[j] := flat_at srcA 2 (by simp) l j hj
@[simp] theorem ordA_length (x : OrdS) : (ordA x).length = 14 := by simp [ordA]
@[simp] theorem ordA_take (x : OrdS) : List.take 14 (ordA x) = ordA x := List.take_of_length_le (by simp)
def ordsA (l : List (OrdS)) : List AV := l.flatMap ordA
@[simp] theorem ordsA_length (l : List (OrdS)) : (ordsA l).length = l.length * 14 := flat_length ordA 14 (by simp) l
theorem ordsA_at (l : List (OrdS)) (j : Nat) (hj : j < l.length) : List.take 14 (List.drop (j * 14) (ordsA l)) = ordA l[j] := flat_at ordA 14 (by simp) l j hj
@[simp] theorem erowA_length (x : List ExprS) : (erowA x).length = 1 := by simp [erowA]
@[simp] theorem erowA_take (x : List ExprS) : List.take 1 (erowA x) = erowA x := List.take_of_length_le (by simp)
def erowsA (l : List (List ExprS)) : List AV := l.flatMap erowA
@[simp] theorem erowsA_length (l : List (List ExprS)) : (erowsA l).length = l.length * 1 := flat_length erowA 1 (by simp) l
theorem erowsA_at (l : List (List ExprS)) (j : Nat) (hj : j < l.length) : List.take 1 (List.drop (j * 1) (erowsA l)) = erowA l[j] := flat_at erowA 1 (by simp) l j hj
structure StmtS where
  kind : Int
  tab : ByteArray
  name : ByteArray
  uniq : Bool
  names : List ByteArray
  cols : List ColS
  rows : List (List ExprS)
  sets : List SetS
  wher : List ExprS
  items : List ItemS
  from_ : List SrcS
  on_ : List ExprS
  group : List ExprS
  order : List OrdS
  limit : Int
def stmtA (s : StmtS) : List AV := [.c (.int .i64 s.kind), .c (.string s.tab), .c (.string s.name), .c (.bool s.uniq), .fs 1 s.names.length (strsA s.names), .fs 10 s.cols.length (colsA s.cols), .fs 1 s.rows.length (erowsA s.rows), .fs 14 s.sets.length (setsA s.sets), .fs 13 s.wher.length (exprsA s.wher), .fs 14 s.items.length (itemsA s.items), .fs 2 s.from_.length (srcsA s.from_), .fs 13 s.on_.length (exprsA s.on_), .fs 13 s.group.length (exprsA s.group), .fs 14 s.order.length (ordsA s.order), .c (.int .i64 s.limit)]
@[simp] theorem stmtA_length (s : StmtS) : (stmtA s).length = 15 := rfl
@[simp] theorem exprA_take (x : ExprS) : List.take 13 (exprA x) = exprA x := List.take_of_length_le (by simp)
/-! the place of the first that fits; whether one does -/
def idxF {α : Type} (p : α → Bool) (l : List α) : Int := match l.findIdx? p with | some i => (i : Int) | none => -1
theorem idxF_hit {α : Type} {p : α → Bool} {l : List α} {j : Nat} (hj : j < l.length) (h : ∀ k (hk : k < l.length), k < j → p l[k] = false) (hp : p l[j] = true) : idxF p l = j := by
  have : l.findIdx? p = some j := by
    rw [List.findIdx?_eq_some_iff_getElem]
    exact ⟨hj, hp, fun k hk => by simp [h k (by omega) hk]⟩
  simp [idxF, this]
theorem idxF_none {α : Type} {p : α → Bool} {l : List α} (h : ∀ k (hk : k < l.length), p l[k] = false) : idxF p l = -1 := by
  have : l.findIdx? p = none := by
    rw [List.findIdx?_eq_none_iff]
    intro x hx
    obtain ⟨i, hi, rfl⟩ := List.getElem_of_mem hx
    exact h i hi
  simp [idxF, this]
theorem idxF_any {α : Type} (p : α → Bool) (l : List α) : decide (0 ≤ idxF p l) = l.any p := by
  cases h : l.findIdx? p with
  | none =>
    have h2 := List.findIdx?_eq_none_iff.1 h
    have e : l.any p = false := by
      rw [Bool.eq_false_iff]
      intro ha
      obtain ⟨x, hx, hp⟩ := List.any_eq_true.1 ha
      rw [h2 x hx] at hp; cases hp
    rw [e]; simp [idxF, h]
  | some i =>
    obtain ⟨hi, hp, _⟩ := List.findIdx?_eq_some_iff_getElem.1 h
    have e : l.any p = true := List.any_eq_true.2 ⟨_, List.getElem_mem hi, hp⟩
    rw [e]; simp [idxF, h]
def eqL {α : Type} (p : α → α → Bool) : List α → List α → Bool
  | [], [] => true
  | x :: l, y :: m => p x y && eqL p l m
  | _, _ => false
theorem eqL_len {α : Type} {p : α → α → Bool} : ∀ {l m : List α}, l.length ≠ m.length → eqL p l m = false
  | [], [], h => absurd rfl h
  | [], _ :: _, _ => rfl
  | _ :: _, [], _ => rfl
  | x :: l, y :: m, h => by rw [eqL, eqL_len (l := l) (m := m) (by simpa using h), Bool.and_false]
theorem eqL_true {α : Type} {p : α → α → Bool} : ∀ {l m : List α} (h : l.length = m.length), (∀ k (h1 : k < l.length) (h2 : k < m.length), p l[k] m[k] = true) → eqL p l m = true
  | [], [], _, _ => rfl
  | x :: l, y :: m, h, hp => by
    rw [eqL, eqL_true (l := l) (m := m) (by simpa using h) fun k h1 h2 => hp (k + 1) (by simpa using h1) (by simpa using h2), Bool.and_true]
    exact hp 0 (by simp) (by simp)
theorem eqL_false {α : Type} {p : α → α → Bool} : ∀ {l m : List α} (k : Nat) (h1 : k < l.length) (h2 : k < m.length), p l[k] m[k] = false → eqL p l m = false
  | x :: l, y :: m, 0, _, _, hp => by rw [eqL, show p x y = false from hp, Bool.false_and]
  | x :: l, y :: m, k + 1, h1, h2, hp => by rw [eqL, eqL_false (l := l) (m := m) k (by simpa using h1) (by simpa using h2) hp, Bool.and_false]
theorem eqL_congr {α : Type} {p q : α → α → Bool} : ∀ {l m : List α}, (∀ x ∈ l, ∀ y ∈ m, p x y = q x y) → eqL p l m = eqL q l m
  | [], [], _ => rfl
  | [], _ :: _, _ => rfl
  | _ :: _, [], _ => rfl
  | x :: l, y :: m, h => by rw [eqL, eqL, h x (by simp) y (by simp), eqL_congr fun a ha b hb => h a (by simp [ha]) b (by simp [hb])]
theorem eqL_eq {α : Type} [DecidableEq α] : ∀ {l m : List α}, eqL (fun x y => decide (x = y)) l m = decide (l = m)
  | [], [] => rfl
  | [], _ :: _ => rfl
  | _ :: _, [] => rfl
  | x :: l, y :: m => by
    rw [eqL, eqL_eq]
    simp
/-! ContainsFunc, IndexFunc -/
set_option maxHeartbeats 8000000 in
theorem if_str (l : List (ByteArray)) (p : ByteArray → Bool) (g : FuncId) (hg : callable Tryd.prog g = true) (hl : l.length ≤ 5864062014805) (hc : ∀ x ∈ l, ACalls Tryd.prog g [.c (.string x)] [] (fun _ => false) (fun r h' => r = .c (.bool (p x)) ∧ h' = [])) : ACalls Tryd.prog 83 [.fs 1 l.length (strsA l), .clo (.func g) [] []] [] (fun _ => false) (fun r h' => r = .c (.int .i64 (idxF p l)) ∧ h' = []) := by
  refine acalls mixed Tryd.func83 rfl Tryd.ntmps83 rfl fun E hE hst hho => ?_
  simp (maxSteps := 1000000) [hho, noHo, -List.reduceReplicate]
  refine loop_k mixed (fun j : Nat => ⟨slotsOf 19 [(0, .fs 1 l.length (strsA l)), (1, .clo (.func g) [] []), (7, .c (.int .i64 l.length)), (8, .c (.int .i64 (j : Nat)))], []⟩) (fun j => l.length - j) (fun j => j ≤ l.length ∧ ∀ k (hk : k < l.length), k < j → p l[k] = false) 0 ⟨Nat.zero_le _, fun k _ h => by omega⟩ ?_ ?_
  · exact wk_eq (by simp [hE, lens]) (by simp) (by simp [livH, livO, AV.livL, AV.liv, wkL, wkV, List.range', slotsOf])
  · rintro j ⟨hj, hI⟩
    by_cases hjl : j < l.length
    · have hat := strsA_at l j hjl
      have ew : IntKind.i64.wrap ((j : Int) + 1) = (j + 1 : Nat) := by rw [IntWalk.i64_in _ (by omega)]; rfl
      have e0 : j * 1 + 1 ≤ l.length * 1 := by omega
      have hx := hc l[j] (List.getElem_mem hjl)
      have hp0 := @idxF_hit _ p l j hjl hI
      have hI1 : p l[j] = false → ∀ k (hk : k < l.length), k < j + 1 → p l[k] = false := fun h k hk hkj => by
        by_cases e : k = j
        · subst e; exact h
        · exact hI k hk (by omega)
      obtain ⟨x, hxe⟩ : ∃ x, x = l[j] := ⟨_, rfl⟩
      rw [← hxe] at hat hx hp0 hI1
      have hat1 : (strsA l)[j]'(by simp; omega) = .c (.string x) := by
        have h0 : (strsA l).drop j = (strsA l)[j]'(by simp; omega) :: (strsA l).drop (j + 1) := List.drop_eq_getElem_cons _
        rw [Nat.mul_one, h0, List.take_succ_cons, List.take_zero] at hat
        exact (List.cons.inj hat).1
      cases hp : p x with
      | true =>
        rw [hp] at hx
        simp (maxSteps := 1000000) [slotsOf, hho, noHo, hjl, hat, e0, hg, hat1, -List.reduceReplicate]
        refine ⟨by omega, ?_⟩
        refine call_x [] hx rfl rfl ⟨rfl, rfl⟩ hho (by simp) (by decide) (by simp) (by simp) ?_
        simp (maxSteps := 1000000) [hho, noHo, ew, -List.reduceReplicate]
        exact Ret.same ⟨by rw [hp0 hp], rfl⟩
      | false =>
        rw [hp] at hx
        simp (maxSteps := 1000000) [slotsOf, hho, noHo, hjl, hat, e0, hg, hat1, -List.reduceReplicate]
        refine ⟨by omega, ?_⟩
        refine call_x [] hx rfl rfl ⟨rfl, rfl⟩ hho (by simp) (by decide) (by simp) (by simp) ?_
        simp (maxSteps := 1000000) [hho, noHo, ew, -List.reduceReplicate]
        refine round_next (j + 1) ⟨by omega, hI1 hp⟩ (by omega) ?_
        exact wk_eq (by simp [hE, lens]) (by simp) (by simp [livH, livO, AV.livL, AV.liv, wkL, wkV, List.range', slotsOf])
    · obtain rfl : j = l.length := by omega
      simp (maxSteps := 1000000) [slotsOf, hho, noHo, -List.reduceReplicate]
      exact Ret.same ⟨by rw [idxF_none fun k hk => hI k hk hk], rfl⟩
theorem cf_str (l : List (ByteArray)) (p : ByteArray → Bool) (g : FuncId) (hg : callable Tryd.prog g = true) (hl : l.length ≤ 5864062014805) (hc : ∀ x ∈ l, ACalls Tryd.prog g [.c (.string x)] [] (fun _ => false) (fun r h' => r = .c (.bool (p x)) ∧ h' = [])) : ACalls Tryd.prog 73 [.fs 1 l.length (strsA l), .clo (.func g) [] []] [] (fun _ => false) (fun r h' => r = .c (.bool (l.any p)) ∧ h' = []) := by
  refine acalls mixed Tryd.func73 rfl Tryd.ntmps73 rfl fun E hE hst hho => ?_
  simp (maxSteps := 1000000) [hho, noHo, -List.reduceReplicate]
  refine call_x [] (if_str l p g hg hl hc) rfl rfl ⟨rfl, rfl⟩ hho (by simp) (by decide) (by simp) (by simp) ?_
  simp (maxSteps := 1000000) [hho, noHo, idxF_any, -List.reduceReplicate]
  exact Ret.same ⟨rfl, rfl⟩
set_option maxHeartbeats 8000000 in
theorem if_expr (l : List (ExprS)) (p : ExprS → Bool) (g : FuncId) (hg : callable Tryd.prog g = true) (hl : l.length ≤ 5864062014805) (hc : ∀ x ∈ l, ACalls Tryd.prog g [.agg (exprA x)] [] (fun _ => false) (fun r h' => r = .c (.bool (p x)) ∧ h' = [])) : ACalls Tryd.prog 52 [.fs 13 l.length (exprsA l), .clo (.func g) [] []] [] (fun _ => false) (fun r h' => r = .c (.int .i64 (idxF p l)) ∧ h' = []) := by
  refine acalls mixed Tryd.func52 rfl Tryd.ntmps52 rfl fun E hE hst hho => ?_
  simp (maxSteps := 1000000) [hho, noHo, -List.reduceReplicate]
  refine loop_k mixed (fun j : Nat => ⟨slotsOf 19 [(0, .fs 13 l.length (exprsA l)), (1, .clo (.func g) [] []), (7, .c (.int .i64 l.length)), (8, .c (.int .i64 (j : Nat)))], []⟩) (fun j => l.length - j) (fun j => j ≤ l.length ∧ ∀ k (hk : k < l.length), k < j → p l[k] = false) 0 ⟨Nat.zero_le _, fun k _ h => by omega⟩ ?_ ?_
  · exact wk_eq (by simp [hE, lens]) (by simp) (by simp [livH, livO, AV.livL, AV.liv, wkL, wkV, List.range', slotsOf])
  · rintro j ⟨hj, hI⟩
    by_cases hjl : j < l.length
    · have hat := exprsA_at l j hjl
      have ew : IntKind.i64.wrap ((j : Int) + 1) = (j + 1 : Nat) := by rw [IntWalk.i64_in _ (by omega)]; rfl
      have e0 : j * 13 + 13 ≤ l.length * 13 := by omega
      have hx := hc l[j] (List.getElem_mem hjl)
      have hp0 := @idxF_hit _ p l j hjl hI
      have hI1 : p l[j] = false → ∀ k (hk : k < l.length), k < j + 1 → p l[k] = false := fun h k hk hkj => by
        by_cases e : k = j
        · subst e; exact h
        · exact hI k hk (by omega)
      obtain ⟨x, hxe⟩ : ∃ x, x = l[j] := ⟨_, rfl⟩
      rw [← hxe] at hat hx hp0 hI1
      cases hp : p x with
      | true =>
        rw [hp] at hx
        simp (maxSteps := 1000000) [slotsOf, hho, noHo, hjl, hat, e0, hg, -List.reduceReplicate]
        refine call_x [] hx rfl rfl ⟨rfl, rfl⟩ hho (by simp) (by decide) (by simp) (by simp) ?_
        simp (maxSteps := 1000000) [hho, noHo, ew, -List.reduceReplicate]
        exact Ret.same ⟨by rw [hp0 hp], rfl⟩
      | false =>
        rw [hp] at hx
        simp (maxSteps := 1000000) [slotsOf, hho, noHo, hjl, hat, e0, hg, -List.reduceReplicate]
        refine call_x [] hx rfl rfl ⟨rfl, rfl⟩ hho (by simp) (by decide) (by simp) (by simp) ?_
        simp (maxSteps := 1000000) [hho, noHo, ew, -List.reduceReplicate]
        refine round_next (j + 1) ⟨by omega, hI1 hp⟩ (by omega) ?_
        exact wk_eq (by simp [hE, lens]) (by simp) (by simp [livH, livO, AV.livL, AV.liv, wkL, wkV, List.range', slotsOf])
    · obtain rfl : j = l.length := by omega
      simp (maxSteps := 1000000) [slotsOf, hho, noHo, -List.reduceReplicate]
      exact Ret.same ⟨by rw [idxF_none fun k hk => hI k hk hk], rfl⟩
theorem cf_expr (l : List (ExprS)) (p : ExprS → Bool) (g : FuncId) (hg : callable Tryd.prog g = true) (hl : l.length ≤ 5864062014805) (hc : ∀ x ∈ l, ACalls Tryd.prog g [.agg (exprA x)] [] (fun _ => false) (fun r h' => r = .c (.bool (p x)) ∧ h' = [])) : ACalls Tryd.prog 28 [.fs 13 l.length (exprsA l), .clo (.func g) [] []] [] (fun _ => false) (fun r h' => r = .c (.bool (l.any p)) ∧ h' = []) := by
  refine acalls mixed Tryd.func28 rfl Tryd.ntmps28 rfl fun E hE hst hho => ?_
  simp (maxSteps := 1000000) [hho, noHo, -List.reduceReplicate]
  refine call_x [] (if_expr l p g hg hl hc) rfl rfl ⟨rfl, rfl⟩ hho (by simp) (by decide) (by simp) (by simp) ?_
  simp (maxSteps := 1000000) [hho, noHo, idxF_any, -List.reduceReplicate]
  exact Ret.same ⟨rfl, rfl⟩
set_option maxHeartbeats 8000000 in
theorem ifc_expr (l : List (ExprS)) (p : ExprS → Bool) (g : FuncId) (hg : callable Tryd.prog g = true) (d : Int) (hl : l.length ≤ 5864062014805) (hc : ∀ x ∈ l, ACalls Tryd.prog g [.agg (exprA x), .ptr 0 0 1] [.o .box [.c (.int .i64 d)]] (fun k => decide (k < 1)) (fun r h' => r = .c (.bool (p x)) ∧ h' = [.o .box [.c (.int .i64 d)]])) : ACalls Tryd.prog 52 [.fs 13 l.length (exprsA l), .clo (.func g) [] [.ptr 0 0 1]] [.o .box [.c (.int .i64 d)]] (fun k => decide (k < 1)) (fun r h' => r = .c (.int .i64 (idxF p l)) ∧ h' = [.o .box [.c (.int .i64 d)]]) := by
  refine acalls mixed Tryd.func52 rfl Tryd.ntmps52 rfl fun E hE hst hho => ?_
  have hreb : ∀ β, AV.rebL β [.c (.int .i64 d)] = [.c (.int .i64 d)] := fun β => rebL_isD rfl
  simp (maxSteps := 1000000) [hho, noHo, -List.reduceReplicate]
  refine loop_k mixed (fun j : Nat => ⟨slotsOf 19 [(0, .fs 13 l.length (exprsA l)), (1, .clo (.func g) [] [.ptr 0 0 1]), (7, .c (.int .i64 l.length)), (8, .c (.int .i64 (j : Nat)))], [.o .box [.c (.int .i64 d)]]⟩) (fun j => l.length - j) (fun j => j ≤ l.length ∧ ∀ k (hk : k < l.length), k < j → p l[k] = false) 0 ⟨Nat.zero_le _, fun k _ h => by omega⟩ ?_ ?_
  · exact wk_eq (by simp [hE, lens]) (by simp) (by simp [livH, livO, AV.livL, AV.liv, wkL, wkV, List.range', slotsOf])
  · rintro j ⟨hj, hI⟩
    by_cases hjl : j < l.length
    · have hat := exprsA_at l j hjl
      have ew : IntKind.i64.wrap ((j : Int) + 1) = (j + 1 : Nat) := by rw [IntWalk.i64_in _ (by omega)]; rfl
      have e0 : j * 13 + 13 ≤ l.length * 13 := by omega
      have hx := hc l[j] (List.getElem_mem hjl)
      have hp0 := @idxF_hit _ p l j hjl hI
      have hI1 : p l[j] = false → ∀ k (hk : k < l.length), k < j + 1 → p l[k] = false := fun h k hk hkj => by
        by_cases e : k = j
        · subst e; exact h
        · exact hI k hk (by omega)
      obtain ⟨x, hxe⟩ : ∃ x, x = l[j] := ⟨_, rfl⟩
      rw [← hxe] at hat hx hp0 hI1
      cases hp : p x with
      | true =>
        rw [hp] at hx
        simp (maxSteps := 1000000) [slotsOf, hho, noHo, hjl, hat, e0, hg, -List.reduceReplicate]
        refine call_x [0] hx rfl rfl ⟨rfl, rfl⟩ hho (by simp) (by decide) (by simp) (by simp) ?_
        simp (maxSteps := 1000000) [hho, noHo, ew, hreb, -List.reduceReplicate]
        exact Ret.same ⟨by rw [hp0 hp], rfl⟩
      | false =>
        rw [hp] at hx
        simp (maxSteps := 1000000) [slotsOf, hho, noHo, hjl, hat, e0, hg, -List.reduceReplicate]
        refine call_x [0] hx rfl rfl ⟨rfl, rfl⟩ hho (by simp) (by decide) (by simp) (by simp) ?_
        simp (maxSteps := 1000000) [hho, noHo, ew, hreb, -List.reduceReplicate]
        refine round_next (j + 1) ⟨by omega, hI1 hp⟩ (by omega) ?_
        exact wk_eq (by simp [hE, lens]) (by simp) (by simp [livH, livO, AV.livL, AV.liv, wkL, wkV, List.range', slotsOf])
    · obtain rfl : j = l.length := by omega
      simp (maxSteps := 1000000) [slotsOf, hho, noHo, -List.reduceReplicate]
      exact Ret.same ⟨by rw [idxF_none fun k hk => hI k hk hk], rfl⟩
theorem cfc_expr (l : List (ExprS)) (p : ExprS → Bool) (g : FuncId) (hg : callable Tryd.prog g = true) (d : Int) (hl : l.length ≤ 5864062014805) (hc : ∀ x ∈ l, ACalls Tryd.prog g [.agg (exprA x), .ptr 0 0 1] [.o .box [.c (.int .i64 d)]] (fun k => decide (k < 1)) (fun r h' => r = .c (.bool (p x)) ∧ h' = [.o .box [.c (.int .i64 d)]])) : ACalls Tryd.prog 28 [.fs 13 l.length (exprsA l), .clo (.func g) [] [.ptr 0 0 1]] [.o .box [.c (.int .i64 d)]] (fun k => decide (k < 1)) (fun r h' => r = .c (.bool (l.any p)) ∧ h' = [.o .box [.c (.int .i64 d)]]) := by
  refine acalls mixed Tryd.func28 rfl Tryd.ntmps28 rfl fun E hE hst hho => ?_
  have hreb : ∀ β, AV.rebL β [.c (.int .i64 d)] = [.c (.int .i64 d)] := fun β => rebL_isD rfl
  simp (maxSteps := 1000000) [hho, noHo, -List.reduceReplicate]
  refine call_x [0] (ifc_expr l p g hg d hl hc) rfl rfl ⟨rfl, rfl⟩ hho (by simp) (by decide) (by simp) (by simp) ?_
  simp (maxSteps := 1000000) [hho, noHo, idxF_any, hreb, -List.reduceReplicate]
  exact Ret.same ⟨rfl, rfl⟩
set_option maxHeartbeats 8000000 in
theorem if_col (l : List (ColS)) (p : ColS → Bool) (g : FuncId) (hg : callable Tryd.prog g = true) (hl : l.length ≤ 5864062014805) (hc : ∀ x ∈ l, ACalls Tryd.prog g [.agg (colA x)] [] (fun _ => false) (fun r h' => r = .c (.bool (p x)) ∧ h' = [])) : ACalls Tryd.prog 71 [.fs 10 l.length (colsA l), .clo (.func g) [] []] [] (fun _ => false) (fun r h' => r = .c (.int .i64 (idxF p l)) ∧ h' = []) := by
  refine acalls mixed Tryd.func71 rfl Tryd.ntmps71 rfl fun E hE hst hho => ?_
  simp (maxSteps := 1000000) [hho, noHo, -List.reduceReplicate]
  refine loop_k mixed (fun j : Nat => ⟨slotsOf 19 [(0, .fs 10 l.length (colsA l)), (1, .clo (.func g) [] []), (7, .c (.int .i64 l.length)), (8, .c (.int .i64 (j : Nat)))], []⟩) (fun j => l.length - j) (fun j => j ≤ l.length ∧ ∀ k (hk : k < l.length), k < j → p l[k] = false) 0 ⟨Nat.zero_le _, fun k _ h => by omega⟩ ?_ ?_
  · exact wk_eq (by simp [hE, lens]) (by simp) (by simp [livH, livO, AV.livL, AV.liv, wkL, wkV, List.range', slotsOf])
  · rintro j ⟨hj, hI⟩
    by_cases hjl : j < l.length
    · have hat := colsA_at l j hjl
      have ew : IntKind.i64.wrap ((j : Int) + 1) = (j + 1 : Nat) := by rw [IntWalk.i64_in _ (by omega)]; rfl
      have e0 : j * 10 + 10 ≤ l.length * 10 := by omega
      have hx := hc l[j] (List.getElem_mem hjl)
      have hp0 := @idxF_hit _ p l j hjl hI
      have hI1 : p l[j] = false → ∀ k (hk : k < l.length), k < j + 1 → p l[k] = false := fun h k hk hkj => by
        by_cases e : k = j
        · subst e; exact h
        · exact hI k hk (by omega)
      obtain ⟨x, hxe⟩ : ∃ x, x = l[j] := ⟨_, rfl⟩
      rw [← hxe] at hat hx hp0 hI1
      cases hp : p x with
      | true =>
        rw [hp] at hx
        simp (maxSteps := 1000000) [slotsOf, hho, noHo, hjl, hat, e0, hg, -List.reduceReplicate]
        refine call_x [] hx rfl rfl ⟨rfl, rfl⟩ hho (by simp) (by decide) (by simp) (by simp) ?_
        simp (maxSteps := 1000000) [hho, noHo, ew, -List.reduceReplicate]
        exact Ret.same ⟨by rw [hp0 hp], rfl⟩
      | false =>
        rw [hp] at hx
        simp (maxSteps := 1000000) [slotsOf, hho, noHo, hjl, hat, e0, hg, -List.reduceReplicate]
        refine call_x [] hx rfl rfl ⟨rfl, rfl⟩ hho (by simp) (by decide) (by simp) (by simp) ?_
        simp (maxSteps := 1000000) [hho, noHo, ew, -List.reduceReplicate]
        refine round_next (j + 1) ⟨by omega, hI1 hp⟩ (by omega) ?_
        exact wk_eq (by simp [hE, lens]) (by simp) (by simp [livH, livO, AV.livL, AV.liv, wkL, wkV, List.range', slotsOf])
    · obtain rfl : j = l.length := by omega
      simp (maxSteps := 1000000) [slotsOf, hho, noHo, -List.reduceReplicate]
      exact Ret.same ⟨by rw [idxF_none fun k hk => hI k hk hk], rfl⟩
theorem cf_col (l : List (ColS)) (p : ColS → Bool) (g : FuncId) (hg : callable Tryd.prog g = true) (hl : l.length ≤ 5864062014805) (hc : ∀ x ∈ l, ACalls Tryd.prog g [.agg (colA x)] [] (fun _ => false) (fun r h' => r = .c (.bool (p x)) ∧ h' = [])) : ACalls Tryd.prog 54 [.fs 10 l.length (colsA l), .clo (.func g) [] []] [] (fun _ => false) (fun r h' => r = .c (.bool (l.any p)) ∧ h' = []) := by
  refine acalls mixed Tryd.func54 rfl Tryd.ntmps54 rfl fun E hE hst hho => ?_
  simp (maxSteps := 1000000) [hho, noHo, -List.reduceReplicate]
  refine call_x [] (if_col l p g hg hl hc) rfl rfl ⟨rfl, rfl⟩ hho (by simp) (by decide) (by simp) (by simp) ?_
  simp (maxSteps := 1000000) [hho, noHo, idxF_any, -List.reduceReplicate]
  exact Ret.same ⟨rfl, rfl⟩
set_option maxHeartbeats 8000000 in
theorem if_set (l : List (SetS)) (p : SetS → Bool) (g : FuncId) (hg : callable Tryd.prog g = true) (hl : l.length ≤ 5864062014805) (hc : ∀ x ∈ l, ACalls Tryd.prog g [.agg (setA x)] [] (fun _ => false) (fun r h' => r = .c (.bool (p x)) ∧ h' = [])) : ACalls Tryd.prog 77 [.fs 14 l.length (setsA l), .clo (.func g) [] []] [] (fun _ => false) (fun r h' => r = .c (.int .i64 (idxF p l)) ∧ h' = []) := by
  refine acalls mixed Tryd.func77 rfl Tryd.ntmps77 rfl fun E hE hst hho => ?_
  simp (maxSteps := 1000000) [hho, noHo, -List.reduceReplicate]
  refine loop_k mixed (fun j : Nat => ⟨slotsOf 19 [(0, .fs 14 l.length (setsA l)), (1, .clo (.func g) [] []), (7, .c (.int .i64 l.length)), (8, .c (.int .i64 (j : Nat)))], []⟩) (fun j => l.length - j) (fun j => j ≤ l.length ∧ ∀ k (hk : k < l.length), k < j → p l[k] = false) 0 ⟨Nat.zero_le _, fun k _ h => by omega⟩ ?_ ?_
  · exact wk_eq (by simp [hE, lens]) (by simp) (by simp [livH, livO, AV.livL, AV.liv, wkL, wkV, List.range', slotsOf])
  · rintro j ⟨hj, hI⟩
    by_cases hjl : j < l.length
    · have hat := setsA_at l j hjl
      have ew : IntKind.i64.wrap ((j : Int) + 1) = (j + 1 : Nat) := by rw [IntWalk.i64_in _ (by omega)]; rfl
      have e0 : j * 14 + 14 ≤ l.length * 14 := by omega
      have hx := hc l[j] (List.getElem_mem hjl)
      have hp0 := @idxF_hit _ p l j hjl hI
      have hI1 : p l[j] = false → ∀ k (hk : k < l.length), k < j + 1 → p l[k] = false := fun h k hk hkj => by
        by_cases e : k = j
        · subst e; exact h
        · exact hI k hk (by omega)
      obtain ⟨x, hxe⟩ : ∃ x, x = l[j] := ⟨_, rfl⟩
      rw [← hxe] at hat hx hp0 hI1
      cases hp : p x with
      | true =>
        rw [hp] at hx
        simp (maxSteps := 1000000) [slotsOf, hho, noHo, hjl, hat, e0, hg, -List.reduceReplicate]
        refine call_x [] hx rfl rfl ⟨rfl, rfl⟩ hho (by simp) (by decide) (by simp) (by simp) ?_
        simp (maxSteps := 1000000) [hho, noHo, ew, -List.reduceReplicate]
        exact Ret.same ⟨by rw [hp0 hp], rfl⟩
      | false =>
        rw [hp] at hx
        simp (maxSteps := 1000000) [slotsOf, hho, noHo, hjl, hat, e0, hg, -List.reduceReplicate]
        refine call_x [] hx rfl rfl ⟨rfl, rfl⟩ hho (by simp) (by decide) (by simp) (by simp) ?_
        simp (maxSteps := 1000000) [hho, noHo, ew, -List.reduceReplicate]
        refine round_next (j + 1) ⟨by omega, hI1 hp⟩ (by omega) ?_
        exact wk_eq (by simp [hE, lens]) (by simp) (by simp [livH, livO, AV.livL, AV.liv, wkL, wkV, List.range', slotsOf])
    · obtain rfl : j = l.length := by omega
      simp (maxSteps := 1000000) [slotsOf, hho, noHo, -List.reduceReplicate]
      exact Ret.same ⟨by rw [idxF_none fun k hk => hI k hk hk], rfl⟩
theorem cf_set (l : List (SetS)) (p : SetS → Bool) (g : FuncId) (hg : callable Tryd.prog g = true) (hl : l.length ≤ 5864062014805) (hc : ∀ x ∈ l, ACalls Tryd.prog g [.agg (setA x)] [] (fun _ => false) (fun r h' => r = .c (.bool (p x)) ∧ h' = [])) : ACalls Tryd.prog 61 [.fs 14 l.length (setsA l), .clo (.func g) [] []] [] (fun _ => false) (fun r h' => r = .c (.bool (l.any p)) ∧ h' = []) := by
  refine acalls mixed Tryd.func61 rfl Tryd.ntmps61 rfl fun E hE hst hho => ?_
  simp (maxSteps := 1000000) [hho, noHo, -List.reduceReplicate]
  refine call_x [] (if_set l p g hg hl hc) rfl rfl ⟨rfl, rfl⟩ hho (by simp) (by decide) (by simp) (by simp) ?_
  simp (maxSteps := 1000000) [hho, noHo, idxF_any, -List.reduceReplicate]
  exact Ret.same ⟨rfl, rfl⟩
set_option maxHeartbeats 8000000 in
theorem if_item (l : List (ItemS)) (p : ItemS → Bool) (g : FuncId) (hg : callable Tryd.prog g = true) (hl : l.length ≤ 5864062014805) (hc : ∀ x ∈ l, ACalls Tryd.prog g [.agg (itemA x)] [] (fun _ => false) (fun r h' => r = .c (.bool (p x)) ∧ h' = [])) : ACalls Tryd.prog 84 [.fs 14 l.length (itemsA l), .clo (.func g) [] []] [] (fun _ => false) (fun r h' => r = .c (.int .i64 (idxF p l)) ∧ h' = []) := by
  refine acalls mixed Tryd.func84 rfl Tryd.ntmps84 rfl fun E hE hst hho => ?_
  simp (maxSteps := 1000000) [hho, noHo, -List.reduceReplicate]
  refine loop_k mixed (fun j : Nat => ⟨slotsOf 19 [(0, .fs 14 l.length (itemsA l)), (1, .clo (.func g) [] []), (7, .c (.int .i64 l.length)), (8, .c (.int .i64 (j : Nat)))], []⟩) (fun j => l.length - j) (fun j => j ≤ l.length ∧ ∀ k (hk : k < l.length), k < j → p l[k] = false) 0 ⟨Nat.zero_le _, fun k _ h => by omega⟩ ?_ ?_
  · exact wk_eq (by simp [hE, lens]) (by simp) (by simp [livH, livO, AV.livL, AV.liv, wkL, wkV, List.range', slotsOf])
  · rintro j ⟨hj, hI⟩
    by_cases hjl : j < l.length
    · have hat := itemsA_at l j hjl
      have ew : IntKind.i64.wrap ((j : Int) + 1) = (j + 1 : Nat) := by rw [IntWalk.i64_in _ (by omega)]; rfl
      have e0 : j * 14 + 14 ≤ l.length * 14 := by omega
      have hx := hc l[j] (List.getElem_mem hjl)
      have hp0 := @idxF_hit _ p l j hjl hI
      have hI1 : p l[j] = false → ∀ k (hk : k < l.length), k < j + 1 → p l[k] = false := fun h k hk hkj => by
        by_cases e : k = j
        · subst e; exact h
        · exact hI k hk (by omega)
      obtain ⟨x, hxe⟩ : ∃ x, x = l[j] := ⟨_, rfl⟩
      rw [← hxe] at hat hx hp0 hI1
      cases hp : p x with
      | true =>
        rw [hp] at hx
        simp (maxSteps := 1000000) [slotsOf, hho, noHo, hjl, hat, e0, hg, -List.reduceReplicate]
        refine call_x [] hx rfl rfl ⟨rfl, rfl⟩ hho (by simp) (by decide) (by simp) (by simp) ?_
        simp (maxSteps := 1000000) [hho, noHo, ew, -List.reduceReplicate]
        exact Ret.same ⟨by rw [hp0 hp], rfl⟩
      | false =>
        rw [hp] at hx
        simp (maxSteps := 1000000) [slotsOf, hho, noHo, hjl, hat, e0, hg, -List.reduceReplicate]
        refine call_x [] hx rfl rfl ⟨rfl, rfl⟩ hho (by simp) (by decide) (by simp) (by simp) ?_
        simp (maxSteps := 1000000) [hho, noHo, ew, -List.reduceReplicate]
        refine round_next (j + 1) ⟨by omega, hI1 hp⟩ (by omega) ?_
        exact wk_eq (by simp [hE, lens]) (by simp) (by simp [livH, livO, AV.livL, AV.liv, wkL, wkV, List.range', slotsOf])
    · obtain rfl : j = l.length := by omega
      simp (maxSteps := 1000000) [slotsOf, hho, noHo, -List.reduceReplicate]
      exact Ret.same ⟨by rw [idxF_none fun k hk => hI k hk hk], rfl⟩
theorem cf_item (l : List (ItemS)) (p : ItemS → Bool) (g : FuncId) (hg : callable Tryd.prog g = true) (hl : l.length ≤ 5864062014805) (hc : ∀ x ∈ l, ACalls Tryd.prog g [.agg (itemA x)] [] (fun _ => false) (fun r h' => r = .c (.bool (p x)) ∧ h' = [])) : ACalls Tryd.prog 79 [.fs 14 l.length (itemsA l), .clo (.func g) [] []] [] (fun _ => false) (fun r h' => r = .c (.bool (l.any p)) ∧ h' = []) := by
  refine acalls mixed Tryd.func79 rfl Tryd.ntmps79 rfl fun E hE hst hho => ?_
  simp (maxSteps := 1000000) [hho, noHo, -List.reduceReplicate]
  refine call_x [] (if_item l p g hg hl hc) rfl rfl ⟨rfl, rfl⟩ hho (by simp) (by decide) (by simp) (by simp) ?_
  simp (maxSteps := 1000000) [hho, noHo, idxF_any, -List.reduceReplicate]
  exact Ret.same ⟨rfl, rfl⟩
set_option maxHeartbeats 8000000 in
theorem ifc_erow (l : List (List ExprS)) (p : List ExprS → Bool) (g : FuncId) (hg : callable Tryd.prog g = true) (s : StmtS) (hl : l.length ≤ 5864062014805) (hc : ∀ x ∈ l, ACalls Tryd.prog g [.fs 13 (x).length (exprsA x), .ptr 0 0 15] [.o .box (stmtA s)] (fun k => decide (k < 1)) (fun r h' => r = .c (.bool (p x)) ∧ h' = [.o .box (stmtA s)])) : ACalls Tryd.prog 76 [.fs 1 l.length (erowsA l), .clo (.func g) [] [.ptr 0 0 15]] [.o .box (stmtA s)] (fun k => decide (k < 1)) (fun r h' => r = .c (.int .i64 (idxF p l)) ∧ h' = [.o .box (stmtA s)]) := by
  refine acalls mixed Tryd.func76 rfl Tryd.ntmps76 rfl fun E hE hst hho => ?_
  have hreb : ∀ β, AV.rebL β (stmtA s) = (stmtA s) := fun β => rebL_isD rfl
  simp (maxSteps := 1000000) [hho, noHo, -List.reduceReplicate]
  refine loop_k mixed (fun j : Nat => ⟨slotsOf 19 [(0, .fs 1 l.length (erowsA l)), (1, .clo (.func g) [] [.ptr 0 0 15]), (7, .c (.int .i64 l.length)), (8, .c (.int .i64 (j : Nat)))], [.o .box (stmtA s)]⟩) (fun j => l.length - j) (fun j => j ≤ l.length ∧ ∀ k (hk : k < l.length), k < j → p l[k] = false) 0 ⟨Nat.zero_le _, fun k _ h => by omega⟩ ?_ ?_
  · exact wk_eq (by simp [hE, lens]) (by simp) (by simp [livH, livO, AV.livL, AV.liv, wkL, wkV, List.range', slotsOf])
  · rintro j ⟨hj, hI⟩
    by_cases hjl : j < l.length
    · have hat := erowsA_at l j hjl
      have ew : IntKind.i64.wrap ((j : Int) + 1) = (j + 1 : Nat) := by rw [IntWalk.i64_in _ (by omega)]; rfl
      have e0 : j * 1 + 1 ≤ l.length * 1 := by omega
      have hx := hc l[j] (List.getElem_mem hjl)
      have hp0 := @idxF_hit _ p l j hjl hI
      have hI1 : p l[j] = false → ∀ k (hk : k < l.length), k < j + 1 → p l[k] = false := fun h k hk hkj => by
        by_cases e : k = j
        · subst e; exact h
        · exact hI k hk (by omega)
      obtain ⟨x, hxe⟩ : ∃ x, x = l[j] := ⟨_, rfl⟩
      rw [← hxe] at hat hx hp0 hI1
      have hat1 : (erowsA l)[j]'(by simp; omega) = .fs 13 (x).length (exprsA x) := by
        have h0 : (erowsA l).drop j = (erowsA l)[j]'(by simp; omega) :: (erowsA l).drop (j + 1) := List.drop_eq_getElem_cons _
        rw [Nat.mul_one, h0, List.take_succ_cons, List.take_zero] at hat
        exact (List.cons.inj hat).1
      cases hp : p x with
      | true =>
        rw [hp] at hx
        simp (maxSteps := 1000000) [slotsOf, hho, noHo, hjl, hat, e0, hg, hat1, -List.reduceReplicate]
        refine ⟨by omega, ?_⟩
        refine call_x [0] hx rfl rfl ⟨rfl, rfl⟩ hho (by simp) (by decide) (by simp) (by simp) ?_
        simp (maxSteps := 1000000) [hho, noHo, ew, hreb, -List.reduceReplicate]
        exact Ret.same ⟨by rw [hp0 hp], rfl⟩
      | false =>
        rw [hp] at hx
        simp (maxSteps := 1000000) [slotsOf, hho, noHo, hjl, hat, e0, hg, hat1, -List.reduceReplicate]
        refine ⟨by omega, ?_⟩
        refine call_x [0] hx rfl rfl ⟨rfl, rfl⟩ hho (by simp) (by decide) (by simp) (by simp) ?_
        simp (maxSteps := 1000000) [hho, noHo, ew, hreb, -List.reduceReplicate]
        refine round_next (j + 1) ⟨by omega, hI1 hp⟩ (by omega) ?_
        exact wk_eq (by simp [hE, lens]) (by simp) (by simp [livH, livO, AV.livL, AV.liv, wkL, wkV, List.range', slotsOf])
    · obtain rfl : j = l.length := by omega
      simp (maxSteps := 1000000) [slotsOf, hho, noHo, -List.reduceReplicate]
      exact Ret.same ⟨by rw [idxF_none fun k hk => hI k hk hk], rfl⟩
theorem cfc_erow (l : List (List ExprS)) (p : List ExprS → Bool) (g : FuncId) (hg : callable Tryd.prog g = true) (s : StmtS) (hl : l.length ≤ 5864062014805) (hc : ∀ x ∈ l, ACalls Tryd.prog g [.fs 13 (x).length (exprsA x), .ptr 0 0 15] [.o .box (stmtA s)] (fun k => decide (k < 1)) (fun r h' => r = .c (.bool (p x)) ∧ h' = [.o .box (stmtA s)])) : ACalls Tryd.prog 59 [.fs 1 l.length (erowsA l), .clo (.func g) [] [.ptr 0 0 15]] [.o .box (stmtA s)] (fun k => decide (k < 1)) (fun r h' => r = .c (.bool (l.any p)) ∧ h' = [.o .box (stmtA s)]) := by
  refine acalls mixed Tryd.func59 rfl Tryd.ntmps59 rfl fun E hE hst hho => ?_
  have hreb : ∀ β, AV.rebL β (stmtA s) = (stmtA s) := fun β => rebL_isD rfl
  simp (maxSteps := 1000000) [hho, noHo, -List.reduceReplicate]
  refine call_x [0] (ifc_erow l p g hg s hl hc) rfl rfl ⟨rfl, rfl⟩ hho (by simp) (by decide) (by simp) (by simp) ?_
  simp (maxSteps := 1000000) [hho, noHo, idxF_any, hreb, -List.reduceReplicate]
  exact Ret.same ⟨rfl, rfl⟩
end Go.Proofs.YtlepkpfbejfpiaaDoor
