import Derived.Test.YtmgpiminicgbiaaEa
namespace Go.Proofs.Ytmgpiminicgbiaa
set_option linter.unusedVariables false
set_option linter.unusedSimpArgs false
open Go.RowKit

/-! ## What the types say -/
section
variable (P : Program)
def aggD : TypeDesc → Bool | .struct _ | .array _ _ => true | _ => false
/-- size, and whether it is an aggregate -/
def tyT (t : TypeId) : Option (Nat × Bool) := match P.info? t, P.underlying t with | some i, some d => some (i.size, aggD d) | _, _ => none
/-- of a slice type: its element's type, size, bytes -/
def slT (t : TypeId) : Option (TypeId × Nat × Nat) := match P.underlying t with | some (.slice e) => (P.info? e).map fun i => (e, i.size, i.bytes) | _ => none
/-- of an array type: its length, its element's size -/
def arT (t : TypeId) : Option (Nat × Nat) := match P.underlying t with | some (.array n e) => (P.info? e).map fun i => (n, i.size) | _ => none
/-- a field's offset, size, and whether it is an aggregate -/
def fldT (t : TypeId) (f : Nat) : Option (Nat × Nat × Bool) := match P.underlying t with
  | some (.struct fs) => match fs[f]? with
    | some x => (tyT P x.type).bind fun p => if p.1 = 0 then none else some (x.offset, p.1, p.2)
    | none => none
  | _ => none
def zeroT (t : TypeId) : Option (List Value) := (P.info? t).bind fun i => i.zero.map fun z => z.cells.toList
def intT (t : TypeId) : Option IntKind := match P.underlying t with | some (.int k) => some k | _ => none
def isStrT (t : TypeId) : Bool := match P.underlying t with | some .string => true | _ => false
def isBoolT (t : TypeId) : Bool := match P.underlying t with | some .bool => true | _ => false
def isPtrT (t : TypeId) : Bool := match P.underlying t with | some (.pointer _) => true | _ => false
end

def AV.ung : AV → AV
  | .g _ _ v => v
  | v => v
def AV.gc : AV → Prop
  | .g b w _ => b = w
  | _ => True
theorem RepV.ung {G : Gh} {ln : List Nat} {F : Nat → Prop} {w : World} {av : AV} {v : Value} (h : RepV G ln F w av v) (hg : av.gc) : RepV G ln F w av.ung v := by
  cases av with
  | g b want u =>
    cases h with
    | d _ _ h => cases h
    | g _ _ _ _ h _ => exact h hg
  | _ => exact h
/-- the cells of a value -/
def AV.cells : AV → List AV
  | .agg l => l
  | v => [v]
def loadV (sz : Nat) (agg : Bool) (l : List AV) : AV := if agg then .agg (l.take sz) else (l[0]?).getD .any
def fldCut (off sz : Nat) (agg : Bool) (l : List AV) : AV := if agg then .agg ((l.drop off).take sz) else (l[off]?).getD .any
def intBin (op : BinOp) (k : IntKind) (x y : Int) : Option (Prop × Value) :=
  match op with
  | .add => some (True, .int k (k.wrap (x + y)))
  | .sub => some (True, .int k (k.wrap (x - y)))
  | .mul => some (True, .int k (k.wrap (x * y)))
  | .quo => some (y ≠ 0, .int k (k.wrap (x.tdiv y)))
  | .rem => some (y ≠ 0, .int k (x.tmod y))
  | .and => some (True, .int k (k.wrap (BitVec.ofInt k.bits x &&& BitVec.ofInt k.bits y).toNat))
  | .or => some (True, .int k (k.wrap (BitVec.ofInt k.bits x ||| BitVec.ofInt k.bits y).toNat))
  | .xor => some (True, .int k (k.wrap (BitVec.ofInt k.bits x ^^^ BitVec.ofInt k.bits y).toNat))
  | .andNot => some (True, .int k (k.wrap (BitVec.ofInt k.bits x &&& ~~~ BitVec.ofInt k.bits y).toNat))
  | .eql => some (True, .bool (decide (x = y)))
  | .neq => some (True, .bool (decide (x ≠ y)))
  | .lss => some (True, .bool (decide (x < y)))
  | .leq => some (True, .bool (decide (x ≤ y)))
  | .gtr => some (True, .bool (decide (y < x)))
  | .geq => some (True, .bool (decide (y ≤ x)))
  | _ => none
def strBin (op : BinOp) (x y : ByteArray) : Option (Prop × Value) :=
  match op with
  | .add => some (x.size + y.size ≤ 9223372036854775807, .string (x ++ y))
  | .eql => some (True, .bool (decide (x = y)))
  | .neq => some (True, .bool (decide (x ≠ y)))
  | .lss => some (True, .bool (Op.bytesLess x.toList y.toList))
  | .leq => some (True, .bool (Op.bytesLess x.toList y.toList || decide (x = y)))
  | .gtr => some (True, .bool (!(Op.bytesLess x.toList y.toList || decide (x = y))))
  | .geq => some (True, .bool (!(Op.bytesLess x.toList y.toList)))
  | _ => none
def shV (op : BinOp) (k : IntKind) (x y : Int) : Option (Prop × Value) :=
  match op with
  | .shl => some (0 ≤ y, .int k (k.wrap (x * 2 ^ (min y.toNat k.bits))))
  | .shr => some (0 ≤ y, .int k (x.fdiv (2 ^ (min y.toNat k.bits))))
  | _ => none
def isSh : BinOp → Bool | .shl | .shr => true | _ => false
/-- two one-cell values, or two pointers -/
def binV (P : Program) (ln : List Nat) (op : BinOp) (t : TypeId) : AV → AV → Option (Prop × AV)
  | .c (.int k x), .c (.int k' y) => if isSh op then (shV op k x y).map fun p => (p.1, .c p.2) else if k = k' then (intBin op k x y).map fun p => (p.1, .c p.2) else none
  | .c (.string x), .c (.string y) => (strBin op x y).map fun p => (p.1, .c p.2)
  | .c (.bool x), .c (.bool y) => if isBoolT P t then (match op with | .eql => some (True, .c (.bool (decide (x = y)))) | .neq => some (True, .c (.bool (decide (x ≠ y)))) | _ => none) else none
  | .ptr h off m, .c (.pointer none) => if isPtrT P t then (match op with | .eql => some (ln[h]? = some m, .c (.bool false)) | .neq => some (ln[h]? = some m, .c (.bool true)) | _ => none) else none
  | .c (.slice none 0 0), .c (.slice none 0 0) => if (slT P t).isSome then (match op with | .eql => some (True, .c (.bool true)) | .neq => some (True, .c (.bool false)) | _ => none) else none
  | .c (.pointer none), .c (.pointer none) => if isPtrT P t then (match op with | .eql => some (True, .c (.bool true)) | .neq => some (True, .c (.bool false)) | _ => none) else none
  | _, _ => none

theorem toList_eq_iff (x y : ByteArray) : (x.toList == y.toList) = decide (x = y) := by
  rw [ByteArray.toList_eq, ByteArray.toList_eq, Bool.eq_iff_iff]
  cases x; cases y
  simp [Array.toList_inj]

section
variable {P : Program} {G : Gh} {ln : List Nat} {F : Nat → Prop} {w : World}
theorem RepV.c_inv {v x : Value} (h : RepV G ln F w (.c v) x) : x = v := by
  cases h with
  | d _ _ h => cases h; rfl
theorem RepV.cc (v : Value) : RepV G ln F w (.c v) v := .d _ _ (.c v)
theorem run_eqGuard_none (op : BinOp) (t : TypeId) (x y : Operand) (a b : Value) (w : World) (h1 : ∀ l, a ≠ .agg l) (h2 : a ≠ .nilIface) : (eqGuard op t x y a b).run P w = .ok () w := by
  cases op <;> cases a <;> simp_all [eqGuard]
theorem run_binOp_int (op : BinOp) (t : TypeId) (k : IntKind) (x y : Int) (q : Prop × Value) (hs : isSh op = false) (hq : intBin op k x y = some q) (hside : q.1) (w : World) :
    (binOp op t (.int k x) (.int k y)).run P w = .ok q.2 w := by
  cases op <;> simp [intBin, isSh] at hq hs <;> subst hq <;> simp_all [binOp, Op.intArith, Op.intDiv, Op.intBits, Op.intCmp] <;> rfl
theorem run_binOp_sh (op : BinOp) (t : TypeId) (k k' : IntKind) (x y : Int) (q : Prop × Value) (hs : isSh op = true) (hq : shV op k x y = some q) (hside : q.1) (w : World) :
    (binOp op t (.int k x) (.int k' y)).run P w = .ok q.2 w := by
  cases op <;> simp [shV, isSh] at hq hs <;> subst hq <;> simp [binOp, Op.shift, Int.not_lt.2 hside]
theorem run_binOp_str (op : BinOp) (t : TypeId) (x y : ByteArray) (q : Prop × Value) (hq : strBin op x y = some q) (hside : q.1) (w : World) :
    (binOp op t (.string x) (.string y)).run P w = .ok q.2 w := by
  cases op <;> simp [strBin] at hq <;> subst hq <;> simp [binOp, Op.stringOp, toList_eq_iff]
  case add => 
    have : (IntKind.i64.max : Int) = 9223372036854775807 := by decide
    simp at hside
    omega
theorem slT_some {t : TypeId} (h : (slT P t).isSome = true) : ∃ e, P.underlying t = some (.slice e) := by
  unfold slT at h
  split at h
  · exact ⟨_, by assumption⟩
  · cases h
theorem binV_sound {op : BinOp} {t : TypeId} {u v : AV} {q : Prop × AV} (hq : binV P ln op t u v = some q) (hside : q.1) {x y : Value} (hx : RepV G ln F w u x) (hy : RepV G ln F w v y) (ox oy : Operand) :
    ∃ z, (∀ w', (do eqGuard op t ox oy x y; binOp op t x y).run P w' = .ok z w') ∧ RepV G ln F w q.2 z := by
  unfold binV at hq
  split at hq
  · rename_i k a k' b
    have e1 := hx.c_inv
    have e2 := hy.c_inv
    subst e1 e2
    split at hq
    · rename_i hs
      rw [Option.map_eq_some_iff] at hq
      obtain ⟨q', hq', rfl⟩ := hq
      exact ⟨q'.2, fun w' => by rw [Sem.run_bind, run_eqGuard_none _ _ _ _ _ _ _ (by simp) (by simp)]; exact run_binOp_sh op t k k' a b q' hs hq' hside w', .cc _⟩
    · rename_i hs
      split at hq
      · rename_i hk
        subst hk
        rw [Option.map_eq_some_iff] at hq
        obtain ⟨q', hq', rfl⟩ := hq
        exact ⟨q'.2, fun w' => by rw [Sem.run_bind, run_eqGuard_none _ _ _ _ _ _ _ (by simp) (by simp)]; exact run_binOp_int op t k a b q' (by simpa using hs) hq' hside w', .cc _⟩
      · cases hq
  · rename_i a b
    have e1 := hx.c_inv
    have e2 := hy.c_inv
    subst e1 e2
    rw [Option.map_eq_some_iff] at hq
    obtain ⟨q', hq', rfl⟩ := hq
    exact ⟨q'.2, fun w' => by rw [Sem.run_bind, run_eqGuard_none _ _ _ _ _ _ _ (by simp) (by simp)]; exact run_binOp_str op t a b q' hq' hside w', .cc _⟩
  · rename_i a b
    have e1 := hx.c_inv
    have e2 := hy.c_inv
    subst e1 e2
    split at hq
    · rename_i hb
      have hb' : P.underlying t = some .bool := by
        unfold isBoolT at hb
        split at hb
        · assumption
        · cases hb
      split at hq
      · injection hq with hq; subst hq
        refine ⟨.bool (decide (a = b)), fun w' => ?_, .cc _⟩
        rw [Sem.run_bind, run_eqGuard_none _ _ _ _ _ _ _ (by simp) (by simp)]
        cases a <;> cases b <;> simp [binOp, run_equal_bool _ _ _ _ hb']
      · injection hq with hq; subst hq
        refine ⟨.bool (decide (a ≠ b)), fun w' => ?_, .cc _⟩
        rw [Sem.run_bind, run_eqGuard_none _ _ _ _ _ _ _ (by simp) (by simp)]
        cases a <;> cases b <;> simp [binOp, run_equal_bool _ _ _ _ hb']
      · cases hq
    · cases hq
  · rename_i h off m
    have e2 := hy.c_inv
    subst e2
    split at hq
    · rename_i hb
      obtain hb' : P.underlying t = some (.pointer (P.pointee t)) := by
        unfold isPtrT at hb
        split at hb
        · rename_i e he
          rw [he]
          simp [Program.pointee, he]
        · cases hb
      have key : ln[h]? = some m → ∃ b, x = .pointer (some b) := by
        intro hm
        cases hx with
        | d _ _ hx => cases hx
        | ptr _ _ _ h1 h2 => exact ⟨_, rfl⟩
        | ptrOld _ _ _ m' _ h1 h2 => rw [hm] at h1; injection h1 with h1; omega
      split at hq
      · injection hq with hq; subst hq
        obtain ⟨b, rfl⟩ := key hside
        refine ⟨.bool false, fun w' => ?_, .cc _⟩
        rw [Sem.run_bind, run_eqGuard_none _ _ _ _ _ _ _ (by simp) (by simp)]
        simp [binOp, run_equal_pointer_nil _ _ _ hb']
      · injection hq with hq; subst hq
        obtain ⟨b, rfl⟩ := key hside
        refine ⟨.bool true, fun w' => ?_, .cc _⟩
        rw [Sem.run_bind, run_eqGuard_none _ _ _ _ _ _ _ (by simp) (by simp)]
        simp [binOp, run_equal_pointer_nil _ _ _ hb']
      · cases hq
    · cases hq
  · have e1 := hx.c_inv
    have e2 := hy.c_inv
    subst e1 e2
    split at hq
    · rename_i hb
      obtain ⟨e, he⟩ := slT_some hb
      split at hq
      · injection hq with hq; subst hq
        refine ⟨.bool true, fun w' => ?_, .cc _⟩
        rw [Sem.run_bind, run_eqGuard_none _ _ _ _ _ _ _ (by simp) (by simp)]
        simp [binOp, run_equal_slice_nil _ _ _ _ _ _ he]
      · injection hq with hq; subst hq
        refine ⟨.bool false, fun w' => ?_, .cc _⟩
        rw [Sem.run_bind, run_eqGuard_none _ _ _ _ _ _ _ (by simp) (by simp)]
        simp [binOp, run_equal_slice_nil _ _ _ _ _ _ he]
      · cases hq
    · cases hq
  · have e1 := hx.c_inv
    have e2 := hy.c_inv
    subst e1 e2
    split at hq
    · rename_i hb
      obtain hb' : P.underlying t = some (.pointer (P.pointee t)) := by
        unfold isPtrT at hb
        split at hb
        · rename_i e he
          rw [he]
          simp [Program.pointee, he]
        · cases hb
      split at hq
      · injection hq with hq; subst hq
        refine ⟨.bool true, fun w' => ?_, .cc _⟩
        rw [Sem.run_bind, run_eqGuard_none _ _ _ _ _ _ _ (by simp) (by simp)]
        simp [binOp, run_equal_pointer_nil _ _ _ hb']
      · injection hq with hq; subst hq
        refine ⟨.bool false, fun w' => ?_, .cc _⟩
        rw [Sem.run_bind, run_eqGuard_none _ _ _ _ _ _ _ (by simp) (by simp)]
        simp [binOp, run_equal_pointer_nil _ _ _ hb']
      · cases hq
    · cases hq
  · cases hq
end
end Go.Proofs.Ytmgpiminicgbiaa
