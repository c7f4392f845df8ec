import Derived.Test.YtniifindnnfkaaaDoorV2
import Derived.Lib.ValidLaws
namespace Go.Proofs.YtniifindnnfkaaaDoor
set_option linter.unusedVariables false
set_option linter.unusedSimpArgs false
open Go.RowKit Go.Lib
/-! ## UTF-8, as the document's function tells it -/
def utfBad (least x : Nat) : Bool := decide (x < least) || decide (1114111 < x) || (decide (55296 ≤ x) && decide (x < 57344))
def utfN (n c b1 b2 b3 : Nat) : Option Nat :=
  if c < 192 ∨ 248 ≤ c then none
  else if c < 224 then (if n < 2 ∨ b1 < 128 ∨ 191 < b1 ∨ utfBad 128 (64 * (c - 192) + b1 - 128) = true then none else some 2)
  else if c < 240 then (if n < 3 ∨ b1 < 128 ∨ 191 < b1 ∨ b2 < 128 ∨ 191 < b2 ∨ utfBad 2048 (64 * (64 * (c - 224) + b1 - 128) + b2 - 128) = true then none else some 3)
  else (if n < 4 ∨ b1 < 128 ∨ 191 < b1 ∨ b2 < 128 ∨ 191 < b2 ∨ b3 < 128 ∨ 191 < b3 ∨ utfBad 65536 (64 * (64 * (64 * (c - 240) + b1 - 128) + b2 - 128) + b3 - 128) = true then none else some 4)
set_option maxHeartbeats 4000000 in
theorem firstT_hi (c : Nat) (h0 : 128 ≤ c) : (c < 194 ∧ firstT c = 241) ∨ (194 ≤ c ∧ c < 224 ∧ firstT c = 2) ∨ (c = 224 ∧ firstT c = 19) ∨ (225 ≤ c ∧ c < 240 ∧ c ≠ 237 ∧ firstT c = 3) ∨ (c = 237 ∧ firstT c = 35) ∨ (c = 240 ∧ firstT c = 52) ∨ (241 ≤ c ∧ c < 244 ∧ firstT c = 4) ∨ (c = 244 ∧ firstT c = 68) ∨ (245 ≤ c ∧ firstT c = 241) := by
  unfold firstT
  repeat' split
  all_goals omega
set_option maxHeartbeats 8000000 in
theorem utf_check (n c b1 b2 b3 : Nat) (h0 : 128 ≤ c) : checkN n b1 b2 b3 (firstT c % 8) (accLo (firstT c / 16)) (accHi (firstT c / 16)) = utfN n c b1 b2 b3 := by
  have key : ∀ sz lo hi, firstT c % 8 = sz → accLo (firstT c / 16) = lo → accHi (firstT c / 16) = hi → checkN n b1 b2 b3 sz lo hi = utfN n c b1 b2 b3 → checkN n b1 b2 b3 (firstT c % 8) (accLo (firstT c / 16)) (accHi (firstT c / 16)) = utfN n c b1 b2 b3 := fun sz lo hi e1 e2 e3 h => by rw [e1, e2, e3]; exact h
  rcases firstT_hi c h0 with ⟨h, e⟩ | ⟨h, h', e⟩ | ⟨h, e⟩ | ⟨h, h', h'', e⟩ | ⟨h, e⟩ | ⟨h, e⟩ | ⟨h, h', e⟩ | ⟨h, e⟩ | ⟨h, e⟩
  · refine key 1 0 0 (by rw [e]) (by rw [e]; decide) (by rw [e]; decide) ?_
    simp (decide := true) only [checkN, utfN, utfBad, Bool.or_eq_true, Bool.and_eq_true, decide_eq_true_eq, if_false]
    repeat' split
    all_goals first | rfl | (exfalso; omega)
  · refine key 2 128 191 (by rw [e]) (by rw [e]; decide) (by rw [e]; decide) ?_
    simp (decide := true) only [checkN, utfN, utfBad, Bool.or_eq_true, Bool.and_eq_true, decide_eq_true_eq, if_false, if_true]
    repeat' split
    all_goals first | rfl | (exfalso; omega)
  · refine key 3 160 191 (by rw [e]) (by rw [e]; decide) (by rw [e]; decide) ?_
    simp (decide := true) only [checkN, utfN, utfBad, Bool.or_eq_true, Bool.and_eq_true, decide_eq_true_eq, if_false, if_true]
    repeat' split
    all_goals first | rfl | (exfalso; omega)
  · refine key 3 128 191 (by rw [e]) (by rw [e]; decide) (by rw [e]; decide) ?_
    simp (decide := true) only [checkN, utfN, utfBad, Bool.or_eq_true, Bool.and_eq_true, decide_eq_true_eq, if_false, if_true]
    repeat' split
    all_goals first | rfl | (exfalso; omega)
  · refine key 3 128 159 (by rw [e]) (by rw [e]; decide) (by rw [e]; decide) ?_
    simp (decide := true) only [checkN, utfN, utfBad, Bool.or_eq_true, Bool.and_eq_true, decide_eq_true_eq, if_false, if_true]
    repeat' split
    all_goals first | rfl | (exfalso; omega)
  · refine key 4 144 191 (by rw [e]) (by rw [e]; decide) (by rw [e]; decide) ?_
    simp (decide := true) only [checkN, utfN, utfBad, Bool.or_eq_true, Bool.and_eq_true, decide_eq_true_eq, if_false, if_true]
    repeat' split
    all_goals first | rfl | (exfalso; omega)
  · refine key 4 128 191 (by rw [e]) (by rw [e]; decide) (by rw [e]; decide) ?_
    simp (decide := true) only [checkN, utfN, utfBad, Bool.or_eq_true, Bool.and_eq_true, decide_eq_true_eq, if_false, if_true]
    repeat' split
    all_goals first | rfl | (exfalso; omega)
  · refine key 4 128 143 (by rw [e]) (by rw [e]; decide) (by rw [e]; decide) ?_
    simp (decide := true) only [checkN, utfN, utfBad, Bool.or_eq_true, Bool.and_eq_true, decide_eq_true_eq, if_false, if_true]
    repeat' split
    all_goals first | rfl | (exfalso; omega)
  · refine key 1 0 0 (by rw [e]) (by rw [e]; decide) (by rw [e]; decide) ?_
    simp (decide := true) only [checkN, utfN, utfBad, Bool.or_eq_true, Bool.and_eq_true, decide_eq_true_eq, if_false]
    repeat' split
    all_goals first | rfl | (exfalso; omega)

end Go.Proofs.YtniifindnnfkaaaDoor
