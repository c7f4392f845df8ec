import Derived.Test.YtmgpiminicgbiaaEb
namespace Go.Proofs.Ytmgpiminicgbiaa
set_option linter.unusedVariables false
set_option linter.unusedSimpArgs false
open Go.RowKit

/-! ## Operations that turn nothing: their value, and what must be so -/
def cellsH (h : List AObj) (k : Nat) : Option (List AV) := match h[k]? with | some (.o _ cs) => some cs | _ => none
def isU8 : AV → Bool | .c (.int .u8 n) => decide (0 ≤ n) && decide (n < 256) | _ => false
def u8of : AV → UInt8 | .c (.int .u8 n) => UInt8.ofNat n.toNat | _ => 0
def u8av (l : List UInt8) : List AV := l.map fun b => .c (u8 b)
def bytesOf (l : List AV) : ByteArray := ⟨(l.map u8of).toArray⟩
def loIx : Option AV → Option Int | none => some 0 | some (.c (.int _ n)) => some n | _ => none
def hiIx (d : Int) : Option AV → Option Int | none => some d | some (.c (.int _ n)) => some n | _ => none
/-- a slice's cells, as they are known, and the size of an element -/
def viewS (ro : Nat → Bool) (h : List AObj) : AV → Option (Nat × List AV)
  | .fs sz _ l => some (sz, l)
  | .sl k sz off n m => (cellsH h k).bind fun cs => if cs.length = m ∧ ro k = true ∧ off + n * sz ≤ m then some (sz, (cs.drop off).take (n * sz)) else none
  | .c (.slice none 0 0) => some (1, [])
  | _ => none
def lenV (P : Program) (h : List AObj) (t : TypeId) : AV → Option (Prop × Nat)
  | .c (.string s) => if isStrT P t then some (True, s.size) else none
  | .c (.slice _ n _) => if (slT P t).isSome then some (True, n) else none
  | .fs _ n _ => if (slT P t).isSome then some (True, n) else none
  | .sl k _ _ n m => if (slT P t).isSome then some ((lens h)[k]? = some m, n) else none
  | _ => none
def max2V : AV → AV → Option AV
  | .c (.int k x), .c (.int k' y) => if k = k' then some (.c (.int k (max x y))) else none
  | _, _ => none
def min2V : AV → AV → Option AV
  | .c (.int k x), .c (.int k' y) => if k = k' then some (.c (.int k (min x y))) else none
  | _, _ => none
def foldV (f : AV → AV → Option AV) : AV → List AV → Option AV
  | x, [] => some x
  | x, y :: l => (f x y).bind fun z => foldV f z l
def unV (op : UnOp) : AV → Option AV
  | .c (.bool b) => match op with | .not => some (.c (.bool (!b))) | _ => none
  | .c (.int k n) => match op with
    | .neg => some (.c (.int k (k.wrap (0 - n))))
    | .xor => some (.c (.int k (k.wrap (BitVec.ofInt k.bits (if k.signed then -1 else k.max) ^^^ BitVec.ofInt k.bits n).toNat)))
    | _ => none
  | _ => none
def convV (P : Program) (ro : Nat → Bool) (h : List AObj) (src dst : TypeId) : AV → Option (Prop × AV)
  | .c (.int _ n) => (intT P dst).bind fun k => if (intT P src).isSome then some (True, .c (.int k (k.wrap n))) else none
  | .c (.string s) => if isStrT P dst && isStrT P src then some (True, .c (.string s)) else none
  | v => if isStrT P dst then match slT P src, viewS ro h v with
    | some (e, 1, _), some (1, l) => if intT P e = some .u8 then some (l.all isU8 = true, .c (.string (bytesOf l))) else none
    | _, _ => none
    else none
def sliceV (P : Program) (h : List AObj) (t : TypeId) (x : AV) (lo hi : Option AV) : Option (Prop × AV) :=
  match x with
  | .c (.string s) => if isStrT P t then match loIx lo, hiIx s.size hi with
    | some l, some k => some (0 ≤ l ∧ l ≤ k ∧ k ≤ s.size, .c (.string (s.extract l.toNat k.toNat)))
    | _, _ => none
    else none
  | .fs sz n c => match slT P t, loIx lo, hiIx n hi with
    | some (_, sz', _), some l, some k => some (sz' = sz ∧ 0 ≤ l ∧ l ≤ k ∧ k ≤ n, .fs sz (k.toNat - l.toNat) ((c.drop (l.toNat * sz)).take ((k.toNat - l.toNat) * sz)))
    | _, _, _ => none
  | .sl g sz off n m => match slT P t, loIx lo, hiIx n hi with
    | some (_, sz', _), some l, some k => some (sz' = sz ∧ (lens h)[g]? = some m ∧ 0 ≤ l ∧ l ≤ k ∧ k ≤ n ∧ (l = 0 ∨ l < n), .sl g sz (off + l.toNat * sz) (k.toNat - l.toNat) m)
    | _, _, _ => none
  | .ptr g off m => match arT P t, loIx lo, hiIx ((arT P t).elim 0 (·.1)) hi with
    | some (n, sz), some l, some k => some ((lens h)[g]? = some m ∧ off + n * sz ≤ m ∧ 0 ≤ l ∧ l ≤ k ∧ k ≤ n ∧ l < n ∧ n ≤ maxLen, .sl g sz (off + l.toNat * sz) (k.toNat - l.toNat) m)
    | _, _, _ => none
  | _ => none
/-- a slice whose capacity is cut -/
def slice3V (P : Program) (h : List AObj) (t : TypeId) (x : AV) (lo : Option AV) (hi mx : AV) : Option (Prop × AV) :=
  match x, hi, mx with
  | .fs sz n c, .c (.int _ k), .c (.int _ m') => match slT P t, loIx lo with
    | some (_, sz', _), some l => some (sz' = sz ∧ 0 ≤ l ∧ l ≤ k ∧ k ≤ m' ∧ m' ≤ n, .fs sz (k.toNat - l.toNat) ((c.drop (l.toNat * sz)).take ((k.toNat - l.toNat) * sz)))
    | _, _ => none
  | .sl g sz off n m, .c (.int _ k), .c (.int _ m') => match slT P t, loIx lo with
    | some (_, sz', _), some l => some (sz' = sz ∧ (lens h)[g]? = some m ∧ 0 ≤ l ∧ l ≤ k ∧ k ≤ m' ∧ m' ≤ n ∧ (l = 0 ∨ l < m'), .sl g sz (off + l.toNat * sz) (k.toNat - l.toNat) m)
    | _, _ => none
  | _, _, _ => none
def ixV (P : Program) (h : List AObj) (t : TypeId) (x : AV) (i : Int) : Option (Prop × AV) :=
  match x with
  | .fs sz n c => (slT P t).bind fun p => some (p.2.1 = sz ∧ 0 ≤ i ∧ i < n, .fp ((c.drop (i.toNat * sz)).take sz))
  | .sl g sz off n m => (slT P t).bind fun p => some (p.2.1 = sz ∧ (lens h)[g]? = some m ∧ 0 ≤ i ∧ i < n, .ptr g (off + i.toNat * sz) m)
  | .ptr g off m => (arT P t).bind fun p => some ((lens h)[g]? = some m ∧ 0 ≤ i ∧ i < p.1, .ptr g (off + i.toNat * p.2) m)
  | .fp c => (arT P t).bind fun p => some (0 ≤ i ∧ i < p.1, .fp (c.drop (i.toNat * p.2)))
  | _ => none
def fldV (P : Program) (h : List AObj) (t : TypeId) (f : Nat) : AV → Option (Prop × AV)
  | .ptr g off m => (fldT P t f).bind fun p => some ((lens h)[g]? = some m, .ptr g (off + p.1) m)
  | .fp c => (fldT P t f).bind fun p => some (True, .fp (c.drop p.1))
  | _ => none
def loadAV (P : Program) (ro : Nat → Bool) (h : List AObj) (t : TypeId) : AV → Option (Prop × AV)
  | .ptr g off m => match tyT P t, cellsH h g with
    | some (sz, ag), some cs => if ro g then some (cs.length = m ∧ off + sz ≤ cs.length ∧ 0 < sz, loadV sz ag (cs.drop off)) else none
    | _, _ => none
  | .fp c => match tyT P t with
    | some (sz, ag) => some (sz ≤ c.length ∧ 0 < sz, loadV sz ag c)
    | _ => none
  | _ => none
def nilV (h : List AObj) : AV → Option (Prop × AV)
  | .ptr g off m => some ((lens h)[g]? = some m, .ptr g off m)
  | .fp c => some (True, .fp c)
  | .clo (.func f) a b => some (True, .clo (.func f) a b)
  | _ => none
def fillV : List AV → List (Nat × Nat × AV) → Option (List AV)
  | z, [] => some z
  | z, (off, sz, v) :: r => if v.cells.length = sz ∧ off + sz ≤ z.length then fillV (z.take off ++ v.cells ++ z.drop (off + sz)) r else none
def isCell : AV → Bool
  | .c v => v.oneCell'
  | .ptr .. | .sl .. | .fs .. | .fp _ | .clo .. => true
  | _ => false
def okV : AV → Bool
  | .agg _ => true
  | v => isCell v
/-- where the parts of a struct's or an array's type lie -/
def plT (P : Program) (t : TypeId) : Option (Nat → Option (Nat × Nat)) := match P.underlying t with
  | some (.struct fs) => (fs.toList.mapM fun f => (P.info? f.type).map fun i => (f.offset, i.size)).map fun l i => l[i]?
  | some (.array _ e) => (P.info? e).map fun ie i => some (i * ie.size, ie.size)
  | _ => none
def partsV (s : AS) (pl : Nat → Option (Nat × Nat)) : List (Nat × Operand) → Option (List (Nat × Nat × AV))
  | [] => some []
  | (i, x) :: r => match pl i, okV (s.ev x).ung, partsV s pl r with
    | some (off, sz), true, some l => some ((off, sz, (s.ev x).ung) :: l)
    | _, _, _ => none
def gcsV (s : AS) : List (Nat × Operand) → Prop
  | [] => True
  | (_, x) :: r => (s.ev x).gc ∧ gcsV s r
def buildV (P : Program) (s : AS) (t : TypeId) (parts : List (Nat × Operand)) : Option (Prop × AV) :=
  match zeroT P t, plT P t with
  | some z, some pl => (partsV s pl parts).bind fun l => (fillV (z.map .c) l).map fun cs => (gcsV s parts, .agg cs)
  | _, _ => none
def callV (P : Program) (s : AS) (c : Call) : Option (Prop × AV) :=
  match c.callee, c.args.toList, c.argTypes.toList with
  | .builtin .len, [x], [t] => (lenV P s.h t (s.ev x).ung).map fun p => ((s.ev x).gc ∧ p.1, .c (.int .i64 p.2))
  | .builtin .max, [x, y], _ => (max2V (s.ev x).ung (s.ev y).ung).map fun v => ((s.ev x).gc ∧ (s.ev y).gc, v)
  | .builtin .min, [x, y], _ => (min2V (s.ev x).ung (s.ev y).ung).map fun v => ((s.ev x).gc ∧ (s.ev y).gc, v)
  | _, _, _ => none
def pureV (P : Program) (ro : Nat → Bool) (s : AS) (op : Op) : Option (Prop × AV) :=
  match op with
  | .move x | .assign x => some (True, s.ev x)
  | .pick c a b => match (s.ev c).ung, (s.ev a).ung, (s.ev b).ung with
    | .c (.bool v), .c (.bool x), .c (.bool y) => some ((s.ev c).gc ∧ (v = true → (s.ev a).gc) ∧ (v = false → (s.ev b).gc), .c (.bool (bif v then x else y)))
    | _, _, _ => none
  | .nilCheck x => (nilV s.h (s.ev x).ung).map fun p => ((s.ev x).gc ∧ p.1, p.2)
  | .binOp op t x y _ => (binV P (lens s.h) op t (s.ev x).ung (s.ev y).ung).map fun p => ((s.ev x).gc ∧ (s.ev y).gc ∧ p.1, p.2)
  | .unOp op _ x => (unV op (s.ev x).ung).map fun v => ((s.ev x).gc, v)
  | .convert src dst x => (convV P ro s.h src dst (s.ev x).ung).map fun p => ((s.ev x).gc ∧ p.1, p.2)
  | .slice t x lo hi none => (sliceV P s.h t (s.ev x).ung (lo.map s.ev) (hi.map s.ev)).map fun p => ((s.ev x).gc ∧ p.1, p.2)
  | .slice t x lo (some hi) (some mx) => (slice3V P s.h t (s.ev x).ung (lo.map s.ev) (s.ev hi) (s.ev mx)).map fun p => ((s.ev x).gc ∧ p.1, p.2)
  | .fieldAddr t x f => (fldV P s.h t f (s.ev x).ung).map fun p => ((s.ev x).gc ∧ p.1, p.2)
  | .field t x f => match (s.ev x).ung, fldT P t f with
    | .agg l, some (off, sz, ag) => some ((s.ev x).gc ∧ off + sz ≤ l.length, fldCut off sz ag l)
    | _, _ => none
  | .indexAddr t x i => match (s.ev i).ung with
    | .c (.int _ n) => (ixV P s.h t (s.ev x).ung n).map fun p => ((s.ev x).gc ∧ (s.ev i).gc ∧ p.1, p.2)
    | _ => none
  | .index t x i => match (s.ev x).ung, (s.ev i).ung with
    | .c (.string b), .c (.int _ n) => if isStrT P t then some ((s.ev x).gc ∧ (s.ev i).gc ∧ 0 ≤ n ∧ n < b.size, .c (.int .u8 ((b.data.toList[n.toNat]?).getD 0).toNat)) else none
    | _, _ => none
  | .extract x i => match (s.ev x).ung with
    | .tup l => some ((s.ev x).gc ∧ i < l.length, (l[i]?).getD .any)
    | _ => none
  | .makeFunc f l k => some (True, .clo f (l.toList.map s.ev) (k.toList.map s.ev))
  | .load t x => (loadAV P ro s.h t (s.ev x).ung).map fun p => ((s.ev x).gc ∧ p.1, p.2)
  | .build t parts => buildV P s t parts.toList
  | .call c => callV P s c
  | _ => none
end Go.Proofs.Ytmgpiminicgbiaa
