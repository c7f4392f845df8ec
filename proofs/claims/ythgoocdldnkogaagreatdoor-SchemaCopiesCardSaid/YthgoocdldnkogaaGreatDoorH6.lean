import Derived.Test.YthgoocdldnkogaaGreatDoorHW
namespace Go.Proofs.YthgoocdldnkogaaGreatDoor
set_option linter.unusedVariables false
set_option linter.unusedSimpArgs false
open Go.RowKit
inductive NilL : List AV → List AV → Prop
 | nil : NilL [] []
 | same (u : AV) {l l' : List AV} : NilL l l' → NilL (u :: l) (u :: l')
 | slice (sz : Nat) {l l' : List AV} : NilL l l' → NilL (.c (.slice none 0 0) :: l) (.fs sz 0 [] :: l')
theorem NilL.len {l l' : List AV} (h : NilL l l') : l'.length = l.length := by
 induction h with
 | nil => rfl
 | same u _ ih => simp [ih]
 | slice sz _ ih => simp [ih]
theorem NilL.at {l l' : List AV} (h : NilL l l') : ∀ (j : Nat) (u u' : AV), l[j]? = some u → l'[j]? = some u' → u' = u ∨ (u = .c (.slice none 0 0) ∧ ∃ sz, u' = .fs sz 0 []) := by
 induction h with
 | nil => intro j u u' h1 _; simp at h1
 | same v _ ih =>
  intro j u u' h1 h2
  cases j with
  | zero => simp at h1 h2; exact .inl (h2.symm.trans h1)
  | succ j => exact ih j u u' (by simpa using h1) (by simpa using h2)
 | slice sz _ ih =>
  intro j u u' h1 h2
  cases j with
  | zero => simp at h1 h2; exact .inr ⟨h1.symm, sz, h2.symm⟩
  | succ j => exact ih j u u' (by simpa using h1) (by simpa using h2)
section
variable {P : Program} {E : Env} {s : AS}
theorem nil_agg {l l' : List AV} (hn : NilL l l') {G : Gh} {F : Nat → Prop} {w : World} {ln : List Nat} {v : Value} (h : RepV G ln F w (.agg l) v) : RepV G ln F w (.agg l') v := by
 cases h with
 | d _ _ h => cases h
 | agg _ cs h1 h2 =>
  refine .agg _ cs (hn.len.trans h1) fun j u' x hu hx => ?_
  have hj : j < l.length := by rw [← hn.len]; exact (List.getElem?_eq_some_iff.1 hu).1
  have e := h2 j _ x (List.getElem?_eq_getElem hj) hx
  rcases hn.at j _ u' (List.getElem?_eq_getElem hj) hu with h | ⟨h, sz, h'⟩
  ·rw [h]; exact e
  ·rw [h']; rw [h] at e; exact nil_fs0 sz e
end

section
variable {P : Program} {E : Env} {s : AS}
end
end Go.Proofs.YthgoocdldnkogaaGreatDoor
