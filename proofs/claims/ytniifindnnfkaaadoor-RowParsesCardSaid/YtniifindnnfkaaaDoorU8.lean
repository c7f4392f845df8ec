import Derived.Test.YtniifindnnfkaaaDoorWk
import Derived.Test.YtniifindnnfkaaaDoorTy
namespace Go.Proofs.YtniifindnnfkaaaDoor
set_option linter.unusedVariables false
set_option linter.unusedSimpArgs false
open Go.RowKit
/-! ## Rows of bytes (for seats without a device) -/
@[simp] theorem u8av_length (l : List UInt8) : (u8av l).length = l.length := by simp [u8av]
@[simp] theorem u8av_nil : u8av [] = [] := rfl
@[simp] theorem u8av_all (l : List UInt8) : (∀ x ∈ u8av l, isD x = true) ↔ True := iff_true_intro (by simp [u8av, isD])
@[simp] theorem u8av_cell (l : List UInt8) : (∀ x ∈ u8av l, isCell x = true) ↔ True := iff_true_intro (by simp [u8av, isCell_c, Value.oneCell', u8])
theorem u8av_app (l k : List UInt8) : u8av (l ++ k) = u8av l ++ u8av k := by simp [u8av]
theorem u8av_get (l : List UInt8) (k : Nat) (hk : k < l.length) : (u8av l)[k]? = some (.c (.int .u8 (l[k].toNat))) := by simp [u8av, hk, u8]
theorem u8av_getE (l : List UInt8) (k : Nat) (h : k < (u8av l).length) : (u8av l)[k] = .c (.int .u8 ((l[k]'(by simpa using h)).toNat)) := by simp [u8av, u8]
theorem u8av_set (l : List UInt8) (k : Nat) (hk : k < l.length) (b : UInt8) : List.take k (u8av l) ++ (AV.c (.int .u8 b.toNat)) :: List.drop (k + 1) (u8av l) = u8av (l.set k b) := by
  rw [List.set_eq_take_append_cons_drop, if_pos hk]
  simp [u8av, u8]
end Go.Proofs.YtniifindnnfkaaaDoor
