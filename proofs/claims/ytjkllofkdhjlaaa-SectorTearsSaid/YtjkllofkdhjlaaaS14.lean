import Derived.Test.YtjkllofkdhjlaaaS13
namespace Go.Proofs.Ytjkllofkdhjlaaa
set_option linter.unusedVariables false
set_option linter.unusedSimpArgs false
open Go.RowKit
/-! ## Scripts that come in -/
structure Op6 where
  kind : Int
  i : Int
  b : List UInt8
  tears : List Int
def op6A (o : Op6) : List AV := [.c (.int .i64 o.kind), .c (.int .i64 o.i), .fs 1 o.b.length (u8av o.b), .fs 1 o.tears.length (intAV o.tears)]
def i64ok (n : Int) : Prop := -9223372036854775808 ≤ n ∧ n ≤ 9223372036854775807
structure Op6.Ok (o : Op6) : Prop where
  k : i64ok o.kind
  i : i64ok o.i
  b : o.b.length ≤ maxLen
  tl : o.tears.length ≤ maxLen
  t : ∀ x ∈ o.tears, i64ok x
theorem flat_u8 (l : List UInt8) : (l.flatMap fun b => [AV.c (u8 b)]) = u8av l := by
  induction l with
  | nil => rfl
  | cons b l ih => rw [List.flatMap_cons, ih]; rfl
theorem flat_int (l : List Int) : (l.flatMap fun b => [AV.c (.int .i64 b)]) = intAV l := by
  induction l with
  | nil => rfl
  | cons b l ih => rw [List.flatMap_cons, ih]; rfl
def opnBytes : Opn Try.prog 31 (List UInt8) :=
  (opnSlice (opnU8 Try.underlying5 (by kernel_rfl)) 1 Try.underlying31 (by kernel_rfl) (by kernel_rfl) (by decide)).map id (fun l => [.fs 1 l.length (u8av l)]) (fun l => l.length ≤ maxLen) (fun l => by simp only [opnSlice, opnU8, id]; rw [flat_u8]) (fun l h => h.1) fun _ => by kernel_rfl
def opnInts : Opn Try.prog 32 (List Int) :=
  (opnSlice (opnInt .i64 Try.underlying3 (by kernel_rfl)) 1 Try.underlying32 (by kernel_rfl) (by kernel_rfl) (by decide)).map id (fun l => [.fs 1 l.length (intAV l)]) (fun l => l.length ≤ maxLen ∧ ∀ x ∈ l, i64ok x) (fun l => by simp only [opnSlice, opnInt, id]; rw [flat_int]) (fun l h => ⟨h.1, fun x hx => bounds_i64 (h.2 x hx)⟩) fun _ => by kernel_rfl
def opnInt64 : Opn Try.prog 3 Int := opnInt .i64 Try.underlying3 (by kernel_rfl)
def opnOp6 : Opn Try.prog 34 Op6 :=
  (opnStruct Try.underlying34 rfl (opnCons 1 opnInt64 (by kernel_rfl) rfl (opnCons 1 opnInt64 (by kernel_rfl) rfl (opnCons 1 opnBytes (by kernel_rfl) rfl (opnCons 1 opnInts (by kernel_rfl) rfl (opnNil 4))))) (by kernel_rfl)).map
    (fun x : Int × Int × List UInt8 × List Int × Unit => (⟨x.1, x.2.1, x.2.2.1, x.2.2.2.1⟩ : Op6)) op6A Op6.Ok (fun _ => rfl) (fun x h => ⟨bounds_i64 h.1, bounds_i64 h.2.1, h.2.2.1, h.2.2.2.1.1, h.2.2.2.1.2⟩) fun _ => by kernel_rfl
@[simp] theorem op6A_length (o : Op6) : (op6A o).length = 4 := rfl
def scriptA (l : List Op6) : List AV := l.flatMap op6A
def opnScript : Opn Try.prog 22 (List Op6) :=
  (opnSlice opnOp6 4 Try.underlying22 (by kernel_rfl) (by kernel_rfl) (by decide)).map id (fun l => [.fs 4 l.length (scriptA l)]) (fun l => l.length ≤ maxLen ∧ ∀ o ∈ l, o.Ok) (fun _ => rfl) (fun l h => h) fun _ => by kernel_rfl
end Go.Proofs.Ytjkllofkdhjlaaa
