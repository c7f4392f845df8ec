import Derived.Test.YtglhmhpaoebifaaBL
import Derived.Test.YtglhmhpaoebifaaBJ
namespace Go.Proofs.Ytglhmhpaoebifaa
set_option linter.unusedVariables false
set_option linter.unusedSimpArgs false
open Go.RowKit
/-! ## A book's order: where a session stands -/
theorem bsF_spec (p : Nat → Bool) (n : Nat) (hp : ∀ a b, a ≤ b → b < n → p b = true → p a = true) : ∀ (f i j : Nat), i ≤ j → j ≤ n → j - i ≤ f → (∀ a, i ≤ a → a < bsF p f i j → p a = true) ∧ ∀ a, bsF p f i j ≤ a → a < j → p a = false := by
  intro f
  induction f with
  | zero => intro i j h1 h2 h3; exact ⟨fun a ha hb => by simp [bsF] at hb; omega, fun a ha hb => by simp [bsF] at ha; omega⟩
  | succ f ih =>
    intro i j h1 h2 h3
    by_cases hij : i < j
    · rw [bsF_step p (f + 1) i j hij h3]
      simp only [Nat.add_sub_cancel]
      split
      · rename_i hm
        obtain ⟨a1, a2⟩ := ih ((i + j) / 2 + 1) j (by omega) h2 (by omega)
        refine ⟨fun a ha hb => ?_, a2⟩
        by_cases h : a ≤ (i + j) / 2
        · exact hp a _ h (by omega) hm
        · exact a1 a (by omega) hb
      · rename_i hm
        obtain ⟨a1, a2⟩ := ih i ((i + j) / 2) (by omega) (by omega) (by omega)
        refine ⟨a1, fun a ha hb => ?_⟩
        by_cases h : a < (i + j) / 2
        · exact a2 a ha h
        · cases hpa : p a with
          | false => rfl
          | true => exact absurd (hp _ a (by omega) (by omega) hpa) hm
    · rw [bsF_done p _ i j hij]
      exact ⟨fun a ha hb => by omega, fun a ha hb => by omega⟩
def SortedL (l : List LeaseS) : Prop := (l.map (·.s)).Pairwise (· < ·)
theorem sorted_at {l : List LeaseS} (h : SortedL l) {a b : Nat} {x y : LeaseS} (hx : l[a]? = some x) (hy : l[b]? = some y) (hab : a < b) : x.s < y.s := by
  have hb : b < l.length := (List.getElem?_eq_some_iff.1 hy).1
  have := List.pairwise_iff_getElem.1 h a b (by simp; omega) (by simp; omega) hab
  simp only [List.getElem_map] at this
  obtain ⟨_, rfl⟩ := List.getElem?_eq_some_iff.1 hx
  obtain ⟨_, rfl⟩ := List.getElem?_eq_some_iff.1 hy
  exact this
theorem findI_spec {l : List LeaseS} (h : SortedL l) (k : Int) {a : Nat} {x : LeaseS} (hx : l[a]? = some x) : a < findI l k ↔ x.s < k := by
  have ha : a < l.length := (List.getElem?_eq_some_iff.1 hx).1
  have hk : ∀ {b : Nat} {y : LeaseS}, l[b]? = some y → keyLt l k b = decide (y.s < k) := fun {b y} hy => by unfold keyLt; rw [hy]
  obtain ⟨s1, s2⟩ := bsF_spec (keyLt l k) l.length (fun b c hbc hc hp => by
    have hb : b < l.length := by omega
    rw [hk (List.getElem?_eq_getElem hc)] at hp
    rw [hk (List.getElem?_eq_getElem hb)]
    have hp := of_decide_eq_true hp
    rcases Nat.lt_or_ge b c with h1 | h1
    · have := sorted_at h (List.getElem?_eq_getElem hb) (List.getElem?_eq_getElem hc) h1
      exact decide_eq_true (by omega)
    · obtain rfl : b = c := by omega
      exact decide_eq_true hp) l.length 0 l.length (Nat.zero_le _) (Nat.le_refl _) (Nat.le_refl _)
  constructor
  · intro h1
    have := s1 a (Nat.zero_le _) h1
    rw [hk hx] at this
    exact of_decide_eq_true this
  · intro h1
    rcases Nat.lt_or_ge a (findI l k) with h2 | h2
    · exact h2
    · have := s2 a h2 ha
      rw [hk hx] at this
      exact absurd h1 (of_decide_eq_false this)
theorem findH_at {l : List LeaseS} {k : Int} (h : findH l k = true) : ∃ x, l[findI l k]? = some x ∧ x.s = k := by
  unfold findH at h
  split at h
  · rename_i x hx; exact ⟨x, hx, of_decide_eq_true h⟩
  · cases h
theorem findH_of {l : List LeaseS} (h : SortedL l) {x : LeaseS} (hx : x ∈ l) : findH l x.s = true := by
  obtain ⟨a, ha, rfl⟩ := List.getElem_of_mem hx
  have h1 := findI_spec h l[a].s (List.getElem?_eq_getElem ha)
  have hle := findI_le l l[a].s
  have hge : findI l l[a].s ≤ a := by
    rcases Nat.lt_or_ge a (findI l l[a].s) with h2 | h2
    · have := h1.1 h2; omega
    · exact h2
  have hi : findI l l[a].s < l.length := by omega
  have h3 := findI_spec h l[a].s (List.getElem?_eq_getElem hi)
  have he : findI l l[a].s = a := by
    rcases Nat.lt_or_ge (findI l l[a].s) a with h2 | h2
    · have h4 := sorted_at h (List.getElem?_eq_getElem hi) (List.getElem?_eq_getElem ha) h2
      have := h3.2 h4; omega
    · omega
  unfold findH
  rw [he, List.getElem?_eq_getElem ha]
  simp
/-- a lease laid in a book -/
def putL (l : List LeaseS) (x : LeaseS) : List LeaseS := if findH l x.s = true then l.set (findI l x.s) x else l.take (findI l x.s) ++ x :: l.drop (findI l x.s)
theorem putL_mem {l : List LeaseS} {x y : LeaseS} (h : y ∈ putL l x) : y = x ∨ y ∈ l := by
  unfold putL at h
  split at h
  · rcases List.mem_or_eq_of_mem_set h with h | h
    · exact .inr h
    · exact .inl h
  · rw [List.mem_append, List.mem_cons] at h
    rcases h with h | h | h
    · exact .inr (List.mem_of_mem_take h)
    · exact .inl h
    · exact .inr (List.mem_of_mem_drop h)
theorem putL_len (l : List LeaseS) (x : LeaseS) : (putL l x).length ≤ l.length + 1 := by
  unfold putL
  split
  · simp
  · have := findI_le l x.s
    simp; omega
theorem putL_sorted {l : List LeaseS} (h : SortedL l) (x : LeaseS) : SortedL (putL l x) := by
  unfold putL
  split
  · rename_i hf
    obtain ⟨y, hy, hs⟩ := findH_at hf
    unfold SortedL
    rw [List.map_set, ← hs]
    obtain ⟨hi, rfl⟩ := List.getElem?_eq_some_iff.1 hy
    have : (l.map (·.s)).set (findI l x.s) l[findI l x.s].s = l.map (·.s) := by
      apply List.ext_getElem?
      intro j
      rw [List.getElem?_set]
      split
      · rename_i e; subst e
        simp [hi]
      · rfl
    rw [hs] at this ⊢
    rw [this]
    exact h
  · rename_i hf
    have hle := findI_le l x.s
    have hne : ∀ y ∈ l, y.s ≠ x.s := fun y hy e => hf (e ▸ findH_of h hy)
    unfold SortedL
    rw [List.map_append, List.map_cons, List.pairwise_append, List.pairwise_cons]
    have h1 : ∀ y ∈ l.take (findI l x.s), y.s < x.s := fun y hy => by
      obtain ⟨a, ha, rfl⟩ := List.getElem_of_mem hy
      simp only [List.length_take] at ha
      rw [List.getElem_take]
      exact (findI_spec h x.s (List.getElem?_eq_getElem (by omega))).1 (by omega)
    have h2 : ∀ y ∈ l.drop (findI l x.s), x.s < y.s := fun y hy => by
      have hm := List.mem_of_mem_drop hy
      obtain ⟨a, ha, rfl⟩ := List.getElem_of_mem hy
      simp only [List.length_drop] at ha
      rw [List.getElem_drop] at hm ⊢
      have h3 := findI_spec h x.s (List.getElem?_eq_getElem (l := l) (i := findI l x.s + a) (by omega))
      have h4 := hne _ hm
      have : ¬ l[findI l x.s + a].s < x.s := fun h5 => by have := h3.2 h5; omega
      omega
    refine ⟨?_, ⟨?_, ?_⟩, ?_⟩
    · exact h.sublist ((List.take_sublist _ _).map _)
    · intro s hs
      obtain ⟨y, hy, rfl⟩ := List.mem_map.1 hs
      exact h2 y hy
    · exact h.sublist ((List.drop_sublist _ _).map _)
    · intro s hs t ht
      obtain ⟨y, hy, rfl⟩ := List.mem_map.1 hs
      rcases List.mem_cons.1 ht with rfl | ht
      · exact h1 y hy
      · obtain ⟨z, hz, rfl⟩ := List.mem_map.1 ht
        have := h1 y hy; have := h2 z hz; omega
theorem liveL_sorted {l : List LeaseS} (h : SortedL l) (now : Int) : SortedL (liveL l now) := h.sublist ((List.filter_sublist).map _)
/-! ## Versions in use -/
structure Two (l : List LeaseS) (version now : Int) : Prop where
  sorted : SortedL l
  all : ∀ x ∈ l, x.v ≤ version ∧ x.u ≤ now + 8 ∧ (now < x.u → version - 1 ≤ x.v)
theorem two_take {l : List LeaseS} {version now : Int} (h : Two l version now) (x : LeaseS) (hv : x.v = version) (hu : x.u ≤ now + 8) : Two (putL l x) version now := by
  refine ⟨putL_sorted h.sorted x, fun y hy => ?_⟩
  rcases putL_mem hy with rfl | hy
  · exact ⟨by omega, hu, fun _ => by omega⟩
  · exact h.all y hy
theorem two_may {l : List LeaseS} {version now : Int} (h : Two l version now) (h0 : 0 ≤ version) (hm : mayS l (version + 1) now = true) : Two l (version + 1) now := by
  refine ⟨h.sorted, fun x hx => ?_⟩
  obtain ⟨h1, h2, h3⟩ := h.all x hx
  refine ⟨by omega, h2, fun hl => ?_⟩
  rcases Int.lt_or_le x.v (version + 1 - 1) with h4 | h4
  · have := (may_false l (version + 1) now).2 ⟨by omega, x, hx, hl, h4⟩
    rw [hm] at this; cases this
  · exact h4
theorem two_expire {l : List LeaseS} {version now : Int} (h : Two l version now) {k : Int} (hk : 0 ≤ k) : Two (liveL l (now + k)) version (now + k) := by
  refine ⟨liveL_sorted h.sorted _, fun x hx => ?_⟩
  unfold liveL at hx
  rw [List.mem_filter] at hx
  obtain ⟨h1, h2, h3⟩ := h.all x hx.1
  have := of_decide_eq_true hx.2
  exact ⟨h1, by omega, fun _ => h3 (by omega)⟩
theorem maxL_mem {l : List Int} (h : l ≠ []) : maxL l ∈ l := by
  cases l with
  | nil => exact absurd rfl h
  | cons x l =>
    simp only [maxL]
    have : ∀ (l : List Int) (u : Int), l.foldl max u = u ∨ l.foldl max u ∈ l := by
      intro l
      induction l with
      | nil => intro u; exact .inl rfl
      | cons y l ih =>
        intro u
        simp only [List.foldl_cons, List.mem_cons]
        rcases ih (max u y) with h | h
        · rw [h]
          rcases Int.le_total u y with h1 | h1
          · rw [Int.max_eq_right h1]; exact .inr (.inl rfl)
          · rw [Int.max_eq_left h1]; exact .inl rfl
        · exact .inr (.inr h)
    rcases this l x with h | h
    · rw [h]; exact List.mem_cons_self
    · exact List.mem_cons_of_mem _ h
theorem two_ends {l : List LeaseS} {version now : Int} (h : Two l version now) (hne : versL l now ≠ []) : version - 1 ≤ minL (versL l now) ∧ maxL (versL l now) ≤ version := by
  obtain ⟨x, hx, hl, hv⟩ := versL_mem.1 (minL_mem hne)
  obtain ⟨y, hy, _, hw⟩ := versL_mem.1 (maxL_mem hne)
  have h1 := (h.all x hx).2.2 hl
  have h2 := (h.all y hy).1
  omega
theorem two_end {l : List LeaseS} {version now : Int} (h : Two l version now) : mayS l (version + 1) (now + 9) = true := by
  cases hm : mayS l (version + 1) (now + 9) with
  | true => rfl
  | false =>
    obtain ⟨_, x, hx, hl, _⟩ := (may_false l (version + 1) (now + 9)).1 hm
    have := (h.all x hx).2.1
    omega
end Go.Proofs.Ytglhmhpaoebifaa
