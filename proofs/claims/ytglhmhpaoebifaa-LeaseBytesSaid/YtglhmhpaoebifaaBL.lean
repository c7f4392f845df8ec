import Derived.Test.YtglhmhpaoebifaaBF
namespace Go.Proofs.Ytglhmhpaoebifaa
set_option linter.unusedVariables false
set_option linter.unusedSimpArgs false
/-! ## The sort keeps what all elements have; the plain law of Wait -/
section
variable {α : Type} (lt : α → α → Bool) {Q : α → Prop}
theorem swp_all {d : List α} (h : ∀ x ∈ d, Q x) (i j : Nat) : ∀ x ∈ swp d i j, Q x := by
  unfold swp
  split
  · rename_i x y hx hy
    intro z hz
    rcases List.mem_or_eq_of_mem_set hz with hz | rfl
    · rcases List.mem_or_eq_of_mem_set hz with hz | rfl
      · exact h z hz
      · exact h _ (List.mem_of_getElem? hy)
    · exact h _ (List.mem_of_getElem? hx)
  · exact h
theorem sink_all {d : List α} (h : ∀ x ∈ d, Q x) (a j : Nat) : ∀ x ∈ sink lt d a j, Q x := by
  induction j generalizing d with
  | zero => exact h
  | succ j ih =>
    unfold sink
    split
    · exact ih (swp_all h _ _)
    · exact h
theorem insF_all {d : List α} (h : ∀ x ∈ d, Q x) (a i k : Nat) : ∀ x ∈ insF lt d a i k, Q x := by
  induction k generalizing d i with
  | zero => exact h
  | succ k ih => unfold insF; exact ih (sink_all lt h _ _) _
theorem insS_all {d : List α} (h : ∀ x ∈ d, Q x) (a b : Nat) : ∀ x ∈ insS lt d a b, Q x := insF_all lt h _ _ _
theorem upF_all {d : List α} (h : ∀ x ∈ d, Q x) (k n : Nat) : ∀ x ∈ upF d k n, Q x := by
  induction n generalizing d k with
  | zero => exact h
  | succ n ih => unfold upF; exact ih (swp_all h _ _) _
theorem downF_all {d : List α} (h : ∀ x ∈ d, Q x) (k n : Nat) : ∀ x ∈ downF d k n, Q x := by
  induction n generalizing d k with
  | zero => exact h
  | succ n ih => unfold downF; exact ih (swp_all h _ _) _
theorem swrF_all {d : List α} (h : ∀ x ∈ d, Q x) (a b i n : Nat) : ∀ x ∈ swrF d a b i n, Q x := by
  induction n generalizing d i with
  | zero => exact h
  | succ n ih => unfold swrF; exact ih (swp_all h _ _) _
theorem rotF_all {d : List α} (h : ∀ x ∈ d, Q x) (m f i j : Nat) : ∀ x ∈ rotF d m f i j, Q x := by
  induction f generalizing d i j with
  | zero => unfold rotF; exact swrF_all h _ _ _ _
  | succ f ih =>
    unfold rotF
    split
    · exact swrF_all h _ _ _ _
    · split
      · exact ih (swrF_all h _ _ _ _) _ _
      · exact ih (swrF_all h _ _ _ _) _ _
theorem symF_all (f : Nat) {d : List α} (h : ∀ x ∈ d, Q x) (a m b : Nat) : ∀ x ∈ symF lt f d a m b, Q x := by
  induction f generalizing d a m b with
  | zero => exact h
  | succ f ih =>
    unfold symF
    split
    · exact upF_all h _ _
    · split
      · exact downF_all h _ _
      · simp only
        have h1 : ∀ x ∈ (if symStart lt d a m b < m ∧ m < (a + b) / 2 + m - symStart lt d a m b then rotS d (symStart lt d a m b) m ((a + b) / 2 + m - symStart lt d a m b) else d), Q x := by
          split
          · exact rotF_all h _ _ _ _
          · exact h
        generalize (if symStart lt d a m b < m ∧ m < (a + b) / 2 + m - symStart lt d a m b then rotS d (symStart lt d a m b) m ((a + b) / 2 + m - symStart lt d a m b) else d) = d1 at h1 ⊢
        have h2 : ∀ x ∈ (if a < symStart lt d a m b ∧ symStart lt d a m b < (a + b) / 2 then symF lt f d1 a (symStart lt d a m b) ((a + b) / 2) else d1), Q x := by
          split
          · exact ih h1 _ _ _
          · exact h1
        generalize (if a < symStart lt d a m b ∧ symStart lt d a m b < (a + b) / 2 then symF lt f d1 a (symStart lt d a m b) ((a + b) / 2) else d1) = d2 at h2 ⊢
        split
        · exact ih h2 _ _ _
        · exact h2
theorem blkF_all {d : List α} (h : ∀ x ∈ d, Q x) (bs n a f : Nat) : ∀ x ∈ blkF lt d bs n a f, Q x := by
  induction f generalizing d a with
  | zero => exact insS_all lt h _ _
  | succ f ih =>
    unfold blkF
    split
    · exact ih (insS_all lt h _ _) _
    · exact insS_all lt h _ _
theorem mrgF_all {d : List α} (h : ∀ x ∈ d, Q x) (bs n a f : Nat) : ∀ x ∈ mrgF lt d bs n a f, Q x := by
  induction f generalizing d a with
  | zero => exact h
  | succ f ih =>
    unfold mrgF
    split
    · exact ih (symF_all lt _ h _ _ _) _
    · split
      · exact symF_all lt _ h _ _ _
      · exact h
theorem lvlF_all {d : List α} (h : ∀ x ∈ d, Q x) (n bs f : Nat) : ∀ x ∈ lvlF lt d n bs f, Q x := by
  induction f generalizing d bs with
  | zero => exact h
  | succ f ih =>
    unfold lvlF
    split
    · exact ih (mrgF_all lt h _ _ _ _) _
    · exact h
theorem stabS_all {d : List α} (h : ∀ x ∈ d, Q x) : ∀ x ∈ stabS lt d, Q x := lvlF_all lt (blkF_all lt h _ _ _ _) _ _ _
end
theorem foldl_min_le (l : List Int) (u : Int) : l.foldl min u ≤ u ∧ ∀ x ∈ l, l.foldl min u ≤ x := by
  induction l generalizing u with
  | nil => exact ⟨Int.le_refl _, by simp⟩
  | cons y l ih =>
    obtain ⟨h1, h2⟩ := ih (min u y)
    simp only [List.foldl_cons]
    refine ⟨by omega, fun x hx => ?_⟩
    rcases List.mem_cons.1 hx with rfl | hx
    · omega
    · exact h2 x hx
theorem foldl_min_mem (l : List Int) (u : Int) : l.foldl min u = u ∨ l.foldl min u ∈ l := by
  induction l generalizing u with
  | nil => exact .inl rfl
  | cons y l ih =>
    simp only [List.foldl_cons]
    rcases ih (min u y) with h | h
    · rw [h]
      rcases Int.le_total u y with e | e
      · exact .inl (by omega)
      · exact .inr (by rw [Int.min_eq_right e]; simp)
    · exact .inr (List.mem_cons_of_mem _ h)
theorem minL_le {l : List Int} {x : Int} (h : x ∈ l) : minL l ≤ x := by
  cases l with
  | nil => cases h
  | cons y l =>
    obtain ⟨h1, h2⟩ := foldl_min_le l y
    rcases List.mem_cons.1 h with rfl | h
    · exact h1
    · exact h2 x h
theorem minL_mem {l : List Int} (h : l ≠ []) : minL l ∈ l := by
  cases l with
  | nil => exact absurd rfl h
  | cons y l =>
    rcases foldl_min_mem l y with e | e
    · show l.foldl min y ∈ _; rw [e]; simp
    · exact List.mem_cons_of_mem _ e
theorem versL_mem {l : List LeaseS} {now v : Int} : v ∈ versL l now ↔ ∃ x ∈ l, now < x.u ∧ x.v = v := by
  unfold versL
  simp only [List.mem_map, List.mem_filter, decide_eq_true_eq]
  constructor
  · rintro ⟨x, ⟨h1, h2⟩, h3⟩; exact ⟨x, h1, h2, h3⟩
  · rintro ⟨x, h1, h2, h3⟩; exact ⟨x, ⟨h1, h2⟩, h3⟩
def Low (version now : Int) (x : LeaseS) : Prop := now < x.u ∧ x.v < version - 1
theorem may_false (l : List LeaseS) (version now : Int) : mayS l version now = false ↔ 0 < version ∧ ∃ x ∈ l, Low version now x := by
  unfold mayS Low
  simp only [Bool.or_eq_false_iff, decide_eq_false_iff_not]
  constructor
  · rintro ⟨⟨h1, h2⟩, h3⟩
    obtain ⟨x, hx, h4, h5⟩ := versL_mem.1 (minL_mem h1)
    exact ⟨by omega, x, hx, h4, by omega⟩
  · rintro ⟨h1, x, hx, h2, h3⟩
    have hm := versL_mem.2 ⟨x, hx, h2, rfl⟩
    have := minL_le hm
    exact ⟨⟨fun e => (by rw [e] at hm; cases hm), by omega⟩, by omega⟩
theorem waitT_fold (version now : Int) (l : List LeaseS) (u : Int) : u ≤ l.foldl (waitT version now) u ∧ (∀ x ∈ l, Low version now x → x.u ≤ l.foldl (waitT version now) u) ∧ (l.foldl (waitT version now) u = u ∨ ∃ x ∈ l, Low version now x ∧ x.u = l.foldl (waitT version now) u) := by
  induction l generalizing u with
  | nil => exact ⟨Int.le_refl _, by simp, .inl rfl⟩
  | cons y l ih =>
    obtain ⟨h1, h2, h3⟩ := ih (waitT version now u y)
    have hu : u ≤ waitT version now u y := by unfold waitT; split <;> omega
    simp only [List.foldl_cons]
    refine ⟨by omega, fun x hx hL => ?_, ?_⟩
    · rcases List.mem_cons.1 hx with rfl | hx
      · have : x.u ≤ waitT version now u x := by unfold waitT; rw [if_pos (show now < x.u ∧ x.v < version - 1 from hL)]; omega
        omega
      · exact h2 x hx hL
    · rcases h3 with h3 | ⟨x, hx, hL, e⟩
      · rw [h3]
        unfold waitT
        split
        · rename_i hL
          rcases Int.le_total u y.u with e | e
          · exact .inr ⟨y, by simp, hL, by omega⟩
          · exact .inl (by omega)
        · exact .inl rfl
      · exact .inr ⟨x, List.mem_cons_of_mem _ hx, hL, e⟩
/-- Wait tells the tick from which on a version may be published -/
theorem wait_law (l : List LeaseS) (version now : Int) (hn : 0 ≤ now) (hb : ∀ x ∈ l, x.u ≤ 9223372036854775807) (w : Int) (hw : w = waitS l version now) : (w = 0 → mayS l version now = true) ∧ (w ≠ 0 → now < w ∧ w ≤ 9223372036854775807 ∧ mayS l version now = false ∧ mayS l version w = true ∧ mayS l version (w - 1) = false) := by
  unfold waitS at hw
  cases hm : mayS l version now with
  | true => rw [if_pos hm] at hw; exact ⟨fun _ => rfl, fun h => absurd hw h⟩
  | false =>
    rw [if_neg (by rw [hm]; decide)] at hw
    obtain ⟨hv, x, hx, hL⟩ := (may_false l version now).1 hm
    obtain ⟨h1, h2, h3⟩ := waitT_fold version now l 0
    rw [← hw] at h1 h2 h3
    have hxw := h2 x hx hL
    have hnx : now < x.u := hL.1
    refine ⟨fun h => by omega, fun h => ⟨by omega, ?_, rfl, ?_, ?_⟩⟩
    · rcases h3 with h3 | ⟨y, hy, _, e⟩
      · omega
      · rw [← e]; exact hb y hy
    · cases hm2 : mayS l version w with
      | true => rfl
      | false =>
        obtain ⟨_, y, hy, hyL⟩ := (may_false l version w).1 hm2
        have := h2 y hy ⟨by have := hyL.1; omega, hyL.2⟩
        have := hyL.1
        omega
    · rcases h3 with h3 | ⟨y, hy, hyL, e⟩
      · omega
      · exact (may_false l version (w - 1)).2 ⟨hv, y, hy, by omega, hyL.2⟩
end Go.Proofs.Ytglhmhpaoebifaa
