import Derived.Test.YtcjncgfhkgcbnaaDoorCv
import Derived.Test.YtcjncgfhkgcbnaaDoorHR2
import Derived.Test.YtcjncgfhkgcbnaaDoorHU
namespace Go.Proofs.YtcjncgfhkgcbnaaDoor
set_option linter.unusedVariables false
set_option linter.unusedSimpArgs false
open Go.RowKit
def rdCells : Option (List UInt8) → List AV
  | some l => [.fs 1 l.length (u8av l), .c (.bool false)]
  | none => [.c (.slice none 0 0), .c (.bool true)]
theorem rdS_cells (s : Option (List UInt8)) : rdS s = [.o .box (rdCells s)] := by cases s <;> rfl
@[simp] theorem rdCells_length (s : Option (List UInt8)) : (rdCells s).length = 2 := by cases s <;> rfl
theorem rdCells_isD (s : Option (List UInt8)) : (rdCells s).all isD = true := by cases s <;> rfl
@[simp] theorem rdCells_reb (β : Nat → Nat) (s : Option (List UInt8)) : AV.rebL β (rdCells s) = rdCells s := rebL_isD (rdCells_isD s)
def rdP (s : Option (List UInt8)) : Prop := Classical.choose (conv_isD (rdCells_isD s))
theorem rdP_ok (s : Option (List UInt8)) : rdP s := (Classical.choose_spec (conv_isD (rdCells_isD s))).1
theorem rd_cv (s : Option (List UInt8)) : ∀ ρ ok h, AV.convL ρ ok h (rdCells s) = some (rdP s, rdCells s) := (Classical.choose_spec (conv_isD (rdCells_isD s))).2
theorem rd_ho {h : List AObj} {i : Nat} {s : Option (List UInt8)} (hi : h[i]? = some (.o .box (rdCells s))) : convOs [i] (fun _ => false) h [i] = some (rdP s ∧ True, [.o .box (rdCells s)]) := convOs_box hi (rd_cv s)
abbrev Big (s : Option (List UInt8)) : Prop := ∀ l, s = some l → l.length ≤ 1000000000
theorem number_b (s : Option (List UInt8)) (hs : Big s) : ACalls Tryd.prog 31 [.ptr 0 0 2] [.o .box (rdCells s)] (fun k => decide (k < 1)) (fun r h' => r = .c (.int .i64 (rnumS s).1) ∧ h' = [.o .box (rdCells (rnumS s).2)]) := by
  have := number_r s hs
  rw [rdS_cells, rdS_cells] at this; exact this
theorem count_b (s : Option (List UInt8)) (hs : Big s) (most : Int) : ACalls Tryd.prog 33 [.ptr 0 0 2, .c (.int .i64 most)] [.o .box (rdCells s)] (fun k => decide (k < 1)) (fun r h' => r = .c (.int .i64 (rcountS s most).1) ∧ h' = [.o .box (rdCells (rcountS s most).2)]) := by
  have := count_r s hs most
  rw [rdS_cells, rdS_cells] at this; exact this
theorem flag_b (s : Option (List UInt8)) (hs : Big s) : ACalls Tryd.prog 35 [.ptr 0 0 2] [.o .box (rdCells s)] (fun k => decide (k < 1)) (fun r h' => r = .c (.bool (rflagS s).1) ∧ h' = [.o .box (rdCells (rflagS s).2)]) := by
  have := flag_r s hs
  rw [rdS_cells, rdS_cells] at this; exact this
theorem text_b (s : Option (List UInt8)) (hs : Big s) : ACalls Tryd.prog 32 [.ptr 0 0 2] [.o .box (rdCells s)] (fun k => decide (k < 1)) (fun r h' => r = .c (.string (str (rtextS s).1)) ∧ h' = [.o .box (rdCells (rtextS s).2)]) := by
  have := text_r s hs
  rw [rdS_cells, rdS_cells] at this; exact this
theorem end_b (s : Option (List UInt8)) : ACalls Tryd.prog 36 [.ptr 0 0 2] [.o .box (rdCells s)] (fun k => decide (k < 1)) (fun r h' => r = .c (.bool (decide (s = some []))) ∧ h' = [.o .box (rdCells s)]) := by
  have := end_r s
  rw [rdS_cells] at this; exact this
theorem read_b (l : List UInt8) (hl : l.length ≤ 1000000000) : ACalls Tryd.prog 30 [.fs 1 l.length (u8av l)] [] (fun _ => false) (fun r h' => r = .ptr 0 0 2 ∧ h' = [.o .box (rdCells (some l))]) := by
  have := read_r l hl
  rw [rdS_cells] at this; exact this
end Go.Proofs.YtcjncgfhkgcbnaaDoor
