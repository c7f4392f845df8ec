import Derived.Test.YthmonbkdecacnaaMem
import Derived.ProofKit
import Derived.OpenShut
import Derived.ShutString
import Derived.ChangeOld
import Derived.Below
import Derived.SliceStrings
namespace Go.Proofs.Ythmonbkdecacnaa
open Go.ChangeShapes Go.WideShapes Go.ChangeAt Go.RowKit

theorem bdrewN {B : Nat} {w w' : World} (h : Below B w w') (n : Nat) : Below B w (w'.drewN n) := ⟨h.os, h.tape, h.output, h.size, h.block⟩

section
variable {H : Type} {enc : TypeId × Value → H} {P : Program} {w : World}
/-- A slice of integers that came in. -/
theorem open_nums {t e : TypeId} {k : IntKind} {v : Value} {d : DataW H} {ps : List MemPlace} (ht : P.underlying t = some (.slice e)) (he : P.underlying e = some (.int k)) (hc : P.cellsOf e = 1)
    (h : DataW.Trod enc P w 0 (fun _ => true) true t v d ps) (hv : ∃ a n c, v = .slice a n c) :
    ∃ (A : Option Addr) (n c : Nat) (zs : List Int), v = .slice A n c ∧ Rd w 1 A n (zs.map (Value.int k)) ∧ zs.length = n ∧ n ≤ c ∧ c ≤ maxLen ∧ ∀ z ∈ zs, (Lit.int k z).wf = true := by
  obtain ⟨a, n, c, rfl⟩ := hv
  obtain ⟨fuel, hf⟩ := h
  rcases open_ints ht he hc hf with ⟨hcs, _⟩ | ⟨x, l, c', zs, hcs, _, hl, hm, hz, _, hcell, hwz⟩
  · have hcs' : [Value.slice a n c] = [.slice none 0 0] := hcs
    injection hcs' with hcs' _
    injection hcs' with e1 e2 e3
    subst e1 e2 e3
    exact ⟨none, 0, 0, [], rfl, Rd.nil _ _ _, rfl, Nat.le_refl _, Nat.zero_le _, by simp⟩
  · have hcs' : [Value.slice a n c] = [.slice (some x) l c'] := hcs
    injection hcs' with hcs' _
    injection hcs' with e1 e2 e3
    subst e1 e2 e3
    simp at hz
    refine ⟨some x, n, c, zs.take n, rfl, ⟨by simp; omega, fun _ => ⟨x, rfl, fun j u hu => ?_⟩⟩, by simp; omega, hl, hm, fun z hz' => hwz z (List.mem_of_mem_take hz')⟩
    rw [List.getElem?_map, List.getElem?_take] at hu
    split at hu
    · rename_i hj
      have hlt : j < zs.length := by omega
      rw [List.getElem?_eq_getElem hlt] at hu
      simp at hu
      subst hu
      have := hcell j hlt
      rw [List.getD_eq_getElem?_getD, List.getElem?_eq_getElem hlt] at this
      simpa using this
    · cases hu
theorem u8s_of_nums (zs : List Int) (h : ∀ z ∈ zs, (Lit.int .u8 z).wf = true) : u8s (zs.map fun z => UInt8.ofNat z.toNat) = zs.map (Value.int .u8) := by
  rw [u8s, List.map_map]
  refine List.map_congr_left fun z hz => ?_
  have := bounds_u8 (h z hz)
  simp only [Function.comp, u8, UInt8.toNat_ofNat']
  congr 1
  omega
theorem open_bytes {t e : TypeId} {v : Value} {d : DataW H} {ps : List MemPlace} (ht : P.underlying t = some (.slice e)) (he : P.underlying e = some (.int .u8)) (hc : P.cellsOf e = 1)
    (h : DataW.Trod enc P w 0 (fun _ => true) true t v d ps) (hv : ∃ a n c, v = .slice a n c) :
    ∃ (A : Option Addr) (n c : Nat) (l : List UInt8), v = .slice A n c ∧ Rd w 1 A n (u8s l) ∧ l.length = n ∧ n ≤ c ∧ c ≤ maxLen := by
  obtain ⟨A, n, c, zs, h1, h2, h3, h4, h5, h6⟩ := open_nums ht he hc h hv
  exact ⟨A, n, c, zs.map fun z => UInt8.ofNat z.toNat, h1, by rw [u8s_of_nums zs h6]; exact h2, by simpa using h3, h4, h5⟩
/-- A slice of strings that came in. -/
theorem open_texts {t e : TypeId} {v : Value} {d : DataW H} {ps : List MemPlace} (ht : P.underlying t = some (.slice e)) (he : P.underlying e = some .string) (hc : P.cellsOf e = 1)
    (h : DataW.Trod enc P w 0 (fun _ => true) true t v d ps) (hv : ∃ a n c, v = .slice a n c) :
    ∃ (A : Option Addr) (n c : Nat) (ss : List ByteArray), v = .slice A n c ∧ Rd w 1 A n (ss.map Value.string) ∧ ss.length = n ∧ n ≤ c ∧ c ≤ maxLen ∧ ∀ s ∈ ss, s.size ≤ maxLen := by
  obtain ⟨a, n, c, rfl⟩ := hv
  obtain ⟨fuel, hf⟩ := h
  rcases open_strings ht he hc hf with ⟨hcs, _⟩ | ⟨x, l, c', zs, hcs, _, hl, hm, hz, _, hcell, hwz⟩
  · have hcs' : [Value.slice a n c] = [.slice none 0 0] := hcs
    injection hcs' with hcs' _
    injection hcs' with e1 e2 e3
    subst e1 e2 e3
    exact ⟨none, 0, 0, [], rfl, Rd.nil _ _ _, rfl, Nat.le_refl _, Nat.zero_le _, by simp⟩
  · have hcs' : [Value.slice a n c] = [.slice (some x) l c'] := hcs
    injection hcs' with hcs' _
    injection hcs' with e1 e2 e3
    subst e1 e2 e3
    simp at hz
    refine ⟨some x, n, c, zs.take n, rfl, ⟨by simp; omega, fun _ => ⟨x, rfl, fun j u hu => ?_⟩⟩, by simp; omega, hl, hm, fun z hz' => hwz z (List.mem_of_mem_take hz')⟩
    rw [List.getElem?_map, List.getElem?_take] at hu
    split at hu
    · rename_i hj
      have hlt : j < zs.length := by omega
      rw [List.getElem?_eq_getElem hlt] at hu
      simp at hu
      subst hu
      have := hcell j hlt
      rw [List.getD_eq_getElem?_getD, List.getElem?_eq_getElem hlt] at this
      simpa using this
    · cases hu
end
end Go.Proofs.Ythmonbkdecacnaa
