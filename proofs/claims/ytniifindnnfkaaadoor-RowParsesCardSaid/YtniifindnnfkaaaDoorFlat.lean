import Derived.Test.YtniifindnnfkaaaDoorTy
namespace Go.Proofs.YtniifindnnfkaaaDoor
set_option linter.unusedVariables false
set_option linter.unusedSimpArgs false
/-! ## Rows of parts of one size -/
section
variable {α β : Type} (f : α → List β) (k : Nat) (hf : ∀ x, (f x).length = k)
include hf
theorem flat_length (l : List α) : (l.flatMap f).length = l.length * k := by
  induction l with
  | nil => simp
  | cons x l ih => rw [List.flatMap_cons, List.length_append, hf, ih, List.length_cons, Nat.succ_mul]; omega
theorem flat_drop (l : List α) (j : Nat) : (l.flatMap f).drop (j * k) = (l.drop j).flatMap f := by
  induction l generalizing j with
  | nil => simp
  | cons x l ih =>
    cases j with
    | zero => simp
    | succ j =>
      rw [List.flatMap_cons, List.drop_append, hf, List.drop_eq_nil_of_le (by rw [hf, Nat.succ_mul]; omega), List.nil_append, List.drop_succ_cons, ← ih j]
      congr 1
      rw [Nat.succ_mul]; omega
theorem flat_take (l : List α) (j : Nat) : (l.flatMap f).take (j * k) = (l.take j).flatMap f := by
  induction l generalizing j with
  | nil => simp
  | cons x l ih =>
    cases j with
    | zero => simp
    | succ j =>
      rw [List.flatMap_cons, List.take_append, hf, List.take_of_length_le (by rw [hf, Nat.succ_mul]; omega), List.take_succ_cons, List.flatMap_cons, ← ih j]
      congr 2
      rw [Nat.succ_mul]; omega
theorem flat_at (l : List α) (j : Nat) (hj : j < l.length) : ((l.flatMap f).drop (j * k)).take k = f l[j] := by
  rw [flat_drop f k hf, List.drop_eq_getElem_cons hj, List.flatMap_cons, List.take_append, hf, Nat.sub_self, List.take_zero, List.append_nil, List.take_of_length_le (by rw [hf]; omega)]
theorem flat_set (l : List α) (j : Nat) (hj : j < l.length) (y : α) : (l.flatMap f).take (j * k) ++ f y ++ (l.flatMap f).drop (j * k + k) = (l.set j y).flatMap f := by
  have e : j * k + k = (j + 1) * k := by rw [Nat.succ_mul]
  rw [flat_take f k hf, e, flat_drop f k hf, List.set_eq_take_append_cons_drop, if_pos hj, List.flatMap_append, List.flatMap_cons, List.append_assoc]
end
end Go.Proofs.YtniifindnnfkaaaDoor
