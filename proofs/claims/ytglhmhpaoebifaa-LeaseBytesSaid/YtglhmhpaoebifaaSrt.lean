import Derived.Test.YtglhmhpaoebifaaBA
namespace Go.Proofs.Ytglhmhpaoebifaa
set_option linter.unusedVariables false
set_option linter.unusedSimpArgs false
/-! ## The stable sort sorts: by places -/
section
variable {α : Type} (k : α → Int)
def keyLtB (x y : α) : Bool := decide (k x < k y)
def K (d : List α) (i : Nat) : Int := match d[i]? with
  | some x => k x
  | none => 0
theorem K_of {d d' : List α} {i j : Nat} (h : d'[i]? = d[j]?) : K k d' i = K k d j := by unfold K; rw [h]
theorem ltAt_K {d : List α} {i j : Nat} (hi : i < d.length) (hj : j < d.length) : ltAt (keyLtB k) d i j = decide (K k d i < K k d j) := by
  rw [ltAt_at _ _ hi hj]
  simp [K, keyLtB, hi, hj]
def Srt (d : List α) (a b : Nat) : Prop := ∀ i j, a ≤ i → i < j → j < b → K k d i ≤ K k d j
/-- d' is d but for the places from a to b, and there it holds what d held there -/
structure Within (d d' : List α) (a b : Nat) : Prop where
  perm : d'.Perm d
  out : ∀ i, i < a ∨ b ≤ i → d'[i]? = d[i]?
  inn : ∀ i, a ≤ i → i < b → ∃ j, a ≤ j ∧ j < b ∧ d'[i]? = d[j]?
theorem Within.len {d d' : List α} {a b : Nat} (h : Within d d' a b) : d'.length = d.length := h.perm.length_eq
theorem Within.refl (d : List α) (a b : Nat) : Within d d a b := ⟨.refl _, fun _ _ => rfl, fun i h1 h2 => ⟨i, h1, h2, rfl⟩⟩
theorem Within.trans {d d' d'' : List α} {a b : Nat} (h : Within d d' a b) (g : Within d' d'' a b) : Within d d'' a b := by
  refine ⟨g.perm.trans h.perm, fun i hi => (g.out i hi).trans (h.out i hi), fun i h1 h2 => ?_⟩
  obtain ⟨j, j1, j2, j3⟩ := g.inn i h1 h2
  obtain ⟨l, l1, l2, l3⟩ := h.inn j j1 j2
  exact ⟨l, l1, l2, j3.trans l3⟩
theorem Within.wide {d d' : List α} {a b a' b' : Nat} (h : Within d d' a b) (ha : a' ≤ a) (hb : b ≤ b') : Within d d' a' b' := by
  refine ⟨h.perm, fun i hi => h.out i (by omega), fun i h1 h2 => ?_⟩
  by_cases hi : a ≤ i ∧ i < b
  · obtain ⟨j, j1, j2, j3⟩ := h.inn i hi.1 hi.2
    exact ⟨j, by omega, by omega, j3⟩
  · exact ⟨i, h1, h2, h.out i (by omega)⟩
theorem swp_at? (d : List α) {i j : Nat} (hi : i < d.length) (hj : j < d.length) (p : Nat) : (swp d i j)[p]? = if p = j then d[i]? else if p = i then d[j]? else d[p]? := by
  rw [swp_at d hi hj, List.getElem?_set, List.getElem?_set]
  by_cases h1 : p = j
  · subst h1; simp [hj, hi]
  · rw [if_neg h1, if_neg (fun e => h1 e.symm)]
    by_cases h2 : p = i
    · subst h2; simp [hi, hj]
    · rw [if_neg h2, if_neg (fun e => h2 e.symm)]
theorem swp_perm (d : List α) (i j : Nat) : (swp d i j).Perm d := by
  unfold swp
  split
  · rename_i x y hx hy
    obtain ⟨hi, rfl⟩ := List.getElem?_eq_some_iff.1 hx
    obtain ⟨hj, rfl⟩ := List.getElem?_eq_some_iff.1 hy
    exact List.set_set_perm hi hj
  · exact .refl _
theorem swp_within {d : List α} {i j a b : Nat} (hb : b ≤ d.length) (hi : a ≤ i ∧ i < b) (hj : a ≤ j ∧ j < b) : Within d (swp d i j) a b := by
  have e := swp_at? d (i := i) (j := j) (by omega) (by omega)
  refine ⟨swp_perm d i j, fun p hp => ?_, fun p h1 h2 => ?_⟩
  · rw [e, if_neg (by omega), if_neg (by omega)]
  · rw [e]
    split
    · exact ⟨i, hi.1, hi.2, rfl⟩
    · split
      · exact ⟨j, hj.1, hj.2, rfl⟩
      · exact ⟨p, h1, h2, rfl⟩
/-! insertion -/
theorem sink_within {a : Nat} : ∀ (j : Nat) (d : List α) (b : Nat), j < b → b ≤ d.length → a ≤ j → Within d (sink (keyLtB k) d a j) a b := by
  intro j
  induction j with
  | zero => intro d b _ _ _; exact .refl _ _ _
  | succ j ih =>
    intro d b h1 h2 h3
    unfold sink
    split
    · rename_i h
      exact (swp_within h2 ⟨h3, h1⟩ ⟨by omega, by omega⟩).trans (ih _ b (by omega) (by simpa using h2) (by omega))
    · exact .refl _ _ _
theorem sink_srt {a N : Nat} : ∀ (j : Nat) (d : List α), j < N → N ≤ d.length → a ≤ j → (∀ p q, a ≤ p → p < q → q < N → p ≠ j → q ≠ j → K k d p ≤ K k d q) → (∀ q, j < q → q < N → K k d j ≤ K k d q) → Srt k (sink (keyLtB k) d a j) a N := by
  intro j
  induction j with
  | zero =>
    intro d h1 h2 h3 h4 h5 p q hp hpq hq
    unfold sink
    by_cases e : p = 0
    · subst e; exact h5 q hpq hq
    · exact h4 p q hp hpq hq (by omega) (by omega)
  | succ j ih =>
    intro d h1 h2 h3 h4 h5
    unfold sink
    have hK := ltAt_K k (d := d) (i := j + 1) (j := j) (by omega) (by omega)
    split
    · rename_i h
      rw [hK] at h
      have hlt := of_decide_eq_true h.2
      have e : ∀ p, K k (swp d (j + 1) j) p = if p = j then K k d (j + 1) else if p = j + 1 then K k d j else K k d p := by
        intro p
        have := swp_at? d (i := j + 1) (j := j) (by omega) (by omega) p
        split
        · rename_i e1; rw [if_pos e1] at this; exact K_of k this
        · rename_i e1
          rw [if_neg e1] at this
          split
          · rename_i e2; rw [if_pos e2] at this; exact K_of k this
          · rename_i e2; rw [if_neg e2] at this; exact K_of k this
      refine ih _ (by omega) (by simpa using h2) (by omega) (fun p q hp hpq hq n1 n2 => ?_) fun q hjq hq => ?_
      · rw [e p, e q, if_neg n1, if_neg n2]
        by_cases e1 : p = j + 1
        · subst e1
          rw [if_pos rfl, if_neg (by omega)]
          exact h4 j q (by omega) (by omega) hq (by omega) (by omega)
        · rw [if_neg e1]
          by_cases e2 : q = j + 1
          · subst e2
            rw [if_pos rfl]
            exact h4 p j hp (by omega) (by omega) (by omega) (by omega)
          · rw [if_neg e2]
            exact h4 p q hp hpq hq e1 e2
      · rw [e j, e q, if_pos rfl, if_neg (by omega)]
        by_cases e2 : q = j + 1
        · subst e2; rw [if_pos rfl]; omega
        · rw [if_neg e2]; exact h5 q (by omega) hq
    · rename_i h
      rw [hK] at h
      intro p q hp hpq hq
      by_cases e1 : p = j + 1
      · subst e1; exact h5 q hpq hq
      · by_cases e2 : q = j + 1
        · subst e2
          have hj : K k d j ≤ K k d (j + 1) := by
            by_cases ha : a < j + 1
            · have : ¬ K k d (j + 1) < K k d j := fun hl => h ⟨ha, decide_eq_true hl⟩
              omega
            · omega
          by_cases e3 : p = j
          · subst e3; exact hj
          · have := h4 p j hp (by omega) (by omega) e1 (by omega); omega
        · exact h4 p q hp hpq hq e1 e2
theorem insF_ok {a : Nat} : ∀ (n : Nat) (d : List α) (i : Nat), a < i → i + n ≤ d.length → Srt k d a i → Within d (insF (keyLtB k) d a i n) a (i + n) ∧ Srt k (insF (keyLtB k) d a i n) a (i + n) := by
  intro n
  induction n with
  | zero => intro d i _ _ h; exact ⟨.refl _ _ _, h⟩
  | succ n ih =>
    intro d i h1 h2 h3
    unfold insF
    have hs := sink_srt k (a := a) (N := i + 1) i d (by omega) (by omega) (by omega) (fun p q hp hpq hq n1 n2 => h3 p q hp hpq (by omega)) (fun q h4 h5 => by omega)
    have hw := sink_within k (a := a) i d (i + 1) (by omega) (by omega) (by omega)
    obtain ⟨g1, g2⟩ := ih _ (i + 1) (by omega) (by rw [sink_length]; omega) hs
    rw [show i + (n + 1) = i + 1 + n by omega]
    exact ⟨(hw.wide (Nat.le_refl _) (by omega)).trans g1, g2⟩
theorem insS_ok (d : List α) (a b : Nat) (h1 : a < b) (h2 : b ≤ d.length) : Within d (insS (keyLtB k) d a b) a b ∧ Srt k (insS (keyLtB k) d a b) a b := by
  have := insF_ok k (a := a) (b - (a + 1)) d (a + 1) (by omega) (by omega) (fun p q hp hpq hq => by omega)
  rw [show a + 1 + (b - (a + 1)) = b by omega] at this
  exact this
/-! moving one up or down -/
theorem upF_within : ∀ (n : Nat) (d : List α) (c a b : Nat), a ≤ c → c + n < b → b ≤ d.length → Within d (upF d c n) a b := by
  intro n
  induction n with
  | zero => intro d c a b _ _ _; exact .refl _ _ _
  | succ n ih =>
    intro d c a b h1 h2 h3
    unfold upF
    exact (swp_within h3 ⟨h1, by omega⟩ ⟨by omega, by omega⟩).trans (ih _ (c + 1) a b (by omega) (by omega) (by simpa using h3))
theorem upF_at : ∀ (n : Nat) (d : List α) (c : Nat), c + n < d.length → ∀ p, (upF d c n)[p]? = if p < c ∨ c + n < p then d[p]? else if p = c + n then d[c]? else d[p + 1]? := by
  intro n
  induction n with
  | zero =>
    intro d c h p
    unfold upF
    by_cases e : p = c
    · subst e; simp
    · rw [if_pos (by omega)]
  | succ n ih =>
    intro d c h p
    unfold upF
    rw [ih _ (c + 1) (by rw [swp_length]; omega) p]
    have e := swp_at? d (i := c) (j := c + 1) (by omega) (by omega)
    by_cases h1 : p < c ∨ c + (n + 1) < p
    · rw [if_pos (by omega), if_pos h1, e, if_neg (by omega), if_neg (by omega)]
    · rw [if_neg h1]
      by_cases h2 : p = c
      · subst h2
        rw [if_pos (by omega), if_neg (by omega), e, if_neg (by omega), if_pos rfl]
      · rw [if_neg (by omega)]
        by_cases h3 : p = c + (n + 1)
        · subst h3
          rw [if_pos (by omega), if_pos rfl, e, if_pos rfl]
        · rw [if_neg (by omega), if_neg h3, e, if_neg (by omega), if_neg (by omega)]
theorem downF_within : ∀ (n : Nat) (d : List α) (i a b : Nat), a ≤ i → i + n < b → b ≤ d.length → Within d (downF d i n) a b := by
  intro n
  induction n with
  | zero => intro d i a b _ _ _; exact .refl _ _ _
  | succ n ih =>
    intro d i a b h1 h2 h3
    unfold downF
    exact (swp_within h3 ⟨by omega, by omega⟩ ⟨by omega, by omega⟩).trans (ih _ i a b h1 (by omega) (by simpa using h3))
theorem downF_at : ∀ (n : Nat) (d : List α) (i : Nat), i + n < d.length → ∀ p, (downF d i n)[p]? = if p < i ∨ i + n < p then d[p]? else if p = i then d[i + n]? else d[p - 1]? := by
  intro n
  induction n with
  | zero =>
    intro d i h p
    unfold downF
    by_cases e : p = i
    · subst e; simp
    · rw [if_pos (by omega)]
  | succ n ih =>
    intro d i h p
    unfold downF
    rw [ih _ i (by rw [swp_length]; omega) p]
    have e := swp_at? d (i := i + n + 1) (j := i + n) (by omega) (by omega)
    by_cases h1 : p < i ∨ i + (n + 1) < p
    · rw [if_pos (by omega), if_pos h1, e, if_neg (by omega), if_neg (by omega)]
    · rw [if_neg h1]
      by_cases h2 : p = i + (n + 1)
      · subst h2
        rw [if_pos (by omega), if_neg (by omega), e, if_neg (by omega), if_pos (by omega)]
        congr 1
      · rw [if_neg (by omega)]
        by_cases h3 : p = i
        · subst h3
          rw [if_pos rfl, if_pos rfl, e, if_pos rfl]
          congr 1
        · rw [if_neg h3, if_neg h3, e, if_neg (by omega), if_neg (by omega)]
/-! rotation -/
theorem swrF_within : ∀ (n : Nat) (d : List α) (a b i lo hi : Nat), lo ≤ a → lo ≤ b → a + i + n ≤ hi → b + i + n ≤ hi → hi ≤ d.length → Within d (swrF d a b i n) lo hi := by
  intro n
  induction n with
  | zero => intro d a b i lo hi _ _ _ _ _; exact .refl _ _ _
  | succ n ih =>
    intro d a b i lo hi h1 h2 h3 h4 h5
    unfold swrF
    exact (swp_within h5 ⟨by omega, by omega⟩ ⟨by omega, by omega⟩).trans (ih _ a b (i + 1) lo hi h1 h2 (by omega) (by omega) (by simpa using h5))
theorem swrF_at : ∀ (n : Nat) (d : List α) (a b i : Nat), (a + i + n ≤ b + i ∨ b + i + n ≤ a + i) → a + i + n ≤ d.length → b + i + n ≤ d.length → ∀ p, (swrF d a b i n)[p]? = if a + i ≤ p ∧ p < a + i + n then d[p - a + b]? else if b + i ≤ p ∧ p < b + i + n then d[p - b + a]? else d[p]? := by
  intro n
  induction n with
  | zero => intro d a b i _ _ _ p; unfold swrF; rw [if_neg (by omega), if_neg (by omega)]
  | succ n ih =>
    intro d a b i h1 h2 h3 p
    unfold swrF
    have e := swp_at? d (i := a + i) (j := b + i) (by omega) (by omega)
    rw [ih _ a b (i + 1) (by omega) (by rw [swp_length]; omega) (by rw [swp_length]; omega) p]
    by_cases h4 : p = a + i
    · subst h4
      rw [if_neg (by omega), if_neg (by omega), if_pos (by omega), e, if_neg (by omega), if_pos rfl]
      congr 1; omega
    · by_cases h5 : p = b + i
      · subst h5
        rw [if_neg (by omega), if_neg (by omega), if_neg (by omega), if_pos (by omega), e, if_pos rfl]
        congr 1; omega
      · by_cases h6 : a + i ≤ p ∧ p < a + i + (n + 1)
        · rw [if_pos (by omega), if_pos h6, e, if_neg (by omega), if_neg (by omega)]
        · rw [if_neg (by omega), if_neg h6]
          by_cases h7 : b + i ≤ p ∧ p < b + i + (n + 1)
          · rw [if_pos (by omega), if_pos h7, e, if_neg (by omega), if_neg (by omega)]
          · rw [if_neg (by omega), if_neg h7, e, if_neg h5, if_neg h4]
theorem swrS_within {d : List α} {a b n lo hi : Nat} (h1 : lo ≤ a) (h2 : lo ≤ b) (h3 : a + n ≤ hi) (h4 : b + n ≤ hi) (h5 : hi ≤ d.length) : Within d (swrS d a b n) lo hi := swrF_within n d a b 0 lo hi h1 h2 (by omega) (by omega) h5
theorem swrS_at {d : List α} {a b n : Nat} (h1 : a + n ≤ b ∨ b + n ≤ a) (h2 : a + n ≤ d.length) (h3 : b + n ≤ d.length) (p : Nat) : (swrS d a b n)[p]? = if a ≤ p ∧ p < a + n then d[p - a + b]? else if b ≤ p ∧ p < b + n then d[p - b + a]? else d[p]? := by
  have := swrF_at n d a b 0 (by omega) (by omega) (by omega) p
  show (swrF d a b 0 n)[p]? = _
  simpa using this
theorem rotF_within (m : Nat) : ∀ (f : Nat) (d : List α) (i j lo hi : Nat), 0 < i → 0 < j → i ≤ m → lo ≤ m - i → m + j ≤ hi → hi ≤ d.length → i + j ≤ f + 1 → Within d (rotF d m f i j) lo hi := by
  intro f
  induction f with
  | zero =>
    intro d i j lo hi h1 h2 h3 h4 h5 h6 h7
    omega
  | succ f ih =>
    intro d i j lo hi h1 h2 h3 h4 h5 h6 h7
    unfold rotF
    split
    · rename_i e; subst e
      exact swrS_within h4 (by omega) (by omega) (by omega) h6
    · split
      · rename_i e1 e2
        exact (swrS_within (d := d) (a := m - i) (b := m) (n := j) h4 (by omega) (by omega) (by omega) h6).trans (ih _ (i - j) j lo hi (by omega) h2 (by omega) (by omega) h5 (by simpa using h6) (by omega))
      · rename_i e1 e2
        exact (swrS_within (d := d) (a := m - i) (b := m + j - i) (n := i) h4 (by omega) (by omega) (by omega) h6).trans (ih _ i (j - i) lo hi h1 (by omega) h3 h4 (by omega) (by simpa using h6) (by omega))
theorem rotF_at (m : Nat) : ∀ (f : Nat) (d : List α) (i j : Nat), 0 < i → 0 < j → i ≤ m → m + j ≤ d.length → i + j ≤ f + 1 → ∀ p, (rotF d m f i j)[p]? = if m - i ≤ p ∧ p < m - i + j then d[p + i]? else if m - i + j ≤ p ∧ p < m + j then d[p - j]? else d[p]? := by
  intro f
  induction f with
  | zero => intro d i j h1 h2 h3 h4 h5; omega
  | succ f ih =>
    intro d i j h1 h2 h3 h4 h5 p
    unfold rotF
    split
    · rename_i e; subst e
      rw [swrS_at (by omega) (by omega) (by omega)]
      by_cases q1 : m - i ≤ p ∧ p < m - i + i
      · rw [if_pos q1, if_pos q1]; congr 1; omega
      · rw [if_neg q1, if_neg q1]
        by_cases q2 : m ≤ p ∧ p < m + i
        · rw [if_pos q2, if_pos (by omega)]; congr 1; omega
        · rw [if_neg q2, if_neg (by omega)]
    · split
      · rename_i e1 e2
        have e := fun p => swrS_at (d := d) (a := m - i) (b := m) (n := j) (by omega) (by omega) (by omega) p
        rw [ih _ (i - j) j (by omega) h2 (by omega) (by rw [swrS_length]; exact h4) (by omega) p]
        by_cases q1 : m - i ≤ p ∧ p < m - i + j
        · rw [if_neg (by omega), if_neg (by omega), if_pos q1, e, if_pos q1]; congr 1; omega
        · rw [if_neg q1]
          by_cases q2 : m - i + j ≤ p ∧ p < m + j
          · rw [if_pos q2]
            by_cases q3 : m - (i - j) ≤ p ∧ p < m - (i - j) + j
            · rw [if_pos q3, e, if_neg (by omega), if_pos (by omega)]; congr 1; omega
            · rw [if_neg q3, if_pos (by omega), e, if_neg (by omega), if_neg (by omega)]
          · rw [if_neg q2, if_neg (by omega), if_neg (by omega), e, if_neg (by omega), if_neg (by omega)]
      · rename_i e1 e2
        have e := fun p => swrS_at (d := d) (a := m - i) (b := m + j - i) (n := i) (by omega) (by omega) (by omega) p
        rw [ih _ i (j - i) h1 (by omega) h3 (by rw [swrS_length]; omega) (by omega) p]
        by_cases q1 : m - i ≤ p ∧ p < m - i + j
        · rw [if_pos q1]
          by_cases q3 : m - i ≤ p ∧ p < m - i + (j - i)
          · rw [if_pos q3, e, if_neg (by omega), if_neg (by omega)]
          · rw [if_neg q3, if_pos (by omega), e, if_pos (by omega)]; congr 1; omega
        · rw [if_neg q1, if_neg (by omega)]
          by_cases q2 : m - i + j ≤ p ∧ p < m + j
          · rw [if_pos q2, if_neg (by omega), e, if_neg (by omega), if_pos (by omega)]; congr 1; omega
          · rw [if_neg q2, if_neg (by omega), e, if_neg (by omega), if_neg (by omega)]
/-! the merge -/
theorem bsF_spec2 (p : Nat → Bool) (lo hi : Nat) (hp : ∀ x y, lo ≤ x → x ≤ y → y < hi → p y = true → p x = true) : ∀ (f i j : Nat), lo ≤ i → i ≤ j → j ≤ hi → j - i ≤ f → (∀ x, i ≤ x → x < bsF p f i j → p x = true) ∧ ∀ x, bsF p f i j ≤ x → x < j → p x = false := by
  intro f
  induction f with
  | zero => intro i j h0 h1 h2 h3; exact ⟨fun a ha hb => by simp [bsF] at hb; omega, fun a ha hb => by simp [bsF] at ha; omega⟩
  | succ f ih =>
    intro i j h0 h1 h2 h3
    by_cases hij : i < j
    · rw [bsF_step p (f + 1) i j hij h3]
      simp only [Nat.add_sub_cancel]
      split
      · rename_i hm
        obtain ⟨a1, a2⟩ := ih ((i + j) / 2 + 1) j (by omega) (by omega) h2 (by omega)
        refine ⟨fun a ha hb => ?_, a2⟩
        by_cases h : a ≤ (i + j) / 2
        · exact hp a _ (by omega) h (by omega) hm
        · exact a1 a (by omega) hb
      · rename_i hm
        obtain ⟨a1, a2⟩ := ih i ((i + j) / 2) h0 (by omega) (by omega) (by omega)
        refine ⟨a1, fun a ha hb => ?_⟩
        by_cases h : a < (i + j) / 2
        · exact a2 a ha h
        · cases hpa : p a with
          | false => rfl
          | true => exact absurd (hp _ a (by omega) (by omega) (by omega) hpa) hm
    · rw [bsF_done p _ i j hij]
      exact ⟨fun a ha hb => by omega, fun a ha hb => by omega⟩
theorem Srt.le {d : List α} {a b i j : Nat} (h : Srt k d a b) (hi : a ≤ i) (hij : i ≤ j) (hj : j < b) : K k d i ≤ K k d j := by
  rcases Nat.lt_or_ge i j with h1 | h1
  · exact h i j hi h1 hj
  · have : i = j := by omega
    subst this; exact Int.le_refl _
theorem up_ok {d : List α} {a m b : Nat} (hm : m = a + 1) (hmb : m < b) (hb : b ≤ d.length) (h2 : Srt k d m b) :
    Within d (upF d a (bsF (fun h => ltAt (keyLtB k) d h a) (b - m) m b - 1 - a)) a b ∧ Srt k (upF d a (bsF (fun h => ltAt (keyLtB k) d h a) (b - m) m b - 1 - a)) a b := by
  have hK : ∀ h, h < b → ltAt (keyLtB k) d h a = decide (K k d h < K k d a) := fun h hh => ltAt_K k (by omega) (by omega)
  obtain ⟨s1, s2⟩ := bsF_spec2 (fun h => ltAt (keyLtB k) d h a) m b (fun x y hx hxy hy hp => by
    rw [hK y hy] at hp
    rw [hK x (by omega)]
    have := of_decide_eq_true hp
    have := h2.le k hx hxy hy
    exact decide_eq_true (by omega)) (b - m) m b (Nat.le_refl _) (by omega) (Nat.le_refl _) (Nat.le_refl _)
  have g1 := bsF_ge (fun h => ltAt (keyLtB k) d h a) (b - m) m b
  have g2 := bsF_le (fun h => ltAt (keyLtB k) d h a) (b - m) m b (by omega)
  obtain ⟨B, hB⟩ : ∃ B, B = bsF (fun h => ltAt (keyLtB k) d h a) (b - m) m b := ⟨_, rfl⟩
  rw [← hB] at s1 s2 g1 g2 ⊢
  obtain ⟨n, hn⟩ : ∃ n, n = B - 1 - a := ⟨_, rfl⟩
  rw [← hn]
  have e := upF_at n d a (by omega)
  refine ⟨upF_within n d a a b (Nat.le_refl _) (by omega) hb, ?_⟩
  have eK : ∀ p, K k (upF d a n) p = if p < a ∨ a + n < p then K k d p else if p = a + n then K k d a else K k d (p + 1) := by
    intro p
    have := e p
    split
    · rename_i q; rw [if_pos q] at this; exact K_of k this
    · rename_i q
      rw [if_neg q] at this
      split
      · rename_i q2; rw [if_pos q2] at this; exact K_of k this
      · rename_i q2; rw [if_neg q2] at this; exact K_of k this
  have lo : ∀ x, m ≤ x → x < B → K k d x < K k d a := fun x h3 h4 => by
    have := s1 x h3 h4
    rw [hK x (by omega)] at this
    exact of_decide_eq_true this
  have hi : ∀ x, B ≤ x → x < b → K k d a ≤ K k d x := fun x h3 h4 => by
    have := s2 x h3 h4
    rw [hK x h4] at this
    have := of_decide_eq_false this
    omega
  intro p q hp hpq hq
  rw [eK p, eK q]
  by_cases q1 : q < a ∨ a + n < q
  · rw [if_pos q1]
    by_cases p1 : p < a ∨ a + n < p
    · rw [if_pos p1]; exact h2 p q (by omega) hpq hq
    · rw [if_neg p1]
      split
      · exact hi q (by omega) hq
      · exact h2.le k (by omega) (by omega) hq
  · rw [if_neg q1, if_neg (by omega), if_neg (by omega)]
    split
    · have := lo (p + 1) (by omega) (by omega); omega
    · exact h2.le k (by omega) (by omega) (by omega)
theorem down_ok {d : List α} {a m b : Nat} (hm : b = m + 1) (ham : a < m) (hb : b ≤ d.length) (h1 : Srt k d a m) :
    Within d (downF d (bsF (fun h => !(ltAt (keyLtB k) d m h)) (m - a) a m) (m - bsF (fun h => !(ltAt (keyLtB k) d m h)) (m - a) a m)) a b ∧ Srt k (downF d (bsF (fun h => !(ltAt (keyLtB k) d m h)) (m - a) a m) (m - bsF (fun h => !(ltAt (keyLtB k) d m h)) (m - a) a m)) a b := by
  have hK : ∀ h, h < b → (!(ltAt (keyLtB k) d m h)) = decide (K k d h ≤ K k d m) := fun h hh => by
    rw [ltAt_K k (by omega) (by omega), ← decide_not]
    exact decide_eq_decide.2 (by omega)
  obtain ⟨s1, s2⟩ := bsF_spec2 (fun h => !(ltAt (keyLtB k) d m h)) a m (fun x y hx hxy hy hp => by
    rw [hK y (by omega)] at hp
    rw [hK x (by omega)]
    have := of_decide_eq_true hp
    have := h1.le k hx hxy hy
    exact decide_eq_true (by omega)) (m - a) a m (Nat.le_refl _) (by omega) (Nat.le_refl _) (Nat.le_refl _)
  have g1 := bsF_ge (fun h => !(ltAt (keyLtB k) d m h)) (m - a) a m
  have g2 := bsF_le (fun h => !(ltAt (keyLtB k) d m h)) (m - a) a m (by omega)
  obtain ⟨B, hB⟩ : ∃ B, B = bsF (fun h => !(ltAt (keyLtB k) d m h)) (m - a) a m := ⟨_, rfl⟩
  rw [← hB] at s1 s2 g1 g2 ⊢
  obtain ⟨n, hn⟩ : ∃ n, n = m - B := ⟨_, rfl⟩
  rw [← hn]
  have e := downF_at n d B (by omega)
  refine ⟨downF_within n d B a b (by omega) (by omega) hb, ?_⟩
  have eK : ∀ p, K k (downF d B n) p = if p < B ∨ B + n < p then K k d p else if p = B then K k d m else K k d (p - 1) := by
    intro p
    have := e p
    split
    · rename_i q; rw [if_pos q] at this; exact K_of k this
    · rename_i q
      rw [if_neg q] at this
      split
      · rename_i q2
        rw [if_pos q2] at this
        refine K_of k (this.trans ?_)
        congr 1; omega
      · rename_i q2; rw [if_neg q2] at this; exact K_of k this
  have lo : ∀ x, a ≤ x → x < B → K k d x ≤ K k d m := fun x h3 h4 => by
    have := s1 x h3 h4
    rw [hK x (by omega)] at this
    exact of_decide_eq_true this
  have hi : ∀ x, B ≤ x → x < m → K k d m < K k d x := fun x h3 h4 => by
    have := s2 x h3 h4
    rw [hK x (by omega)] at this
    have := of_decide_eq_false this
    omega
  intro p q hp hpq hq
  rw [eK p, eK q]
  by_cases p1 : p < B ∨ B + n < p
  · rw [if_pos p1]
    by_cases q1 : q < B ∨ B + n < q
    · rw [if_pos q1]; exact h1 p q hp hpq (by omega)
    · rw [if_neg q1]
      split
      · exact lo p hp (by omega)
      · exact h1.le k hp (by omega) (by omega)
  · rw [if_neg p1, if_neg (by omega : ¬ (q < B ∨ B + n < q)), if_neg (by omega : ¬ q = B)]
    split
    · have := hi (q - 1) (by omega) (by omega); omega
    · exact h1.le k (by omega) (by omega) (by omega)
theorem symStart_ok {d : List α} {a m b : Nat} (ham : a + 2 ≤ m) (hmb : m + 2 ≤ b) (hb : b ≤ d.length) (h1 : Srt k d a m) (h2 : Srt k d m b) (st en : Nat) (hst : st = symStart (keyLtB k) d a m b) (hen : en = (a + b) / 2 + m - st) :
    a ≤ st ∧ st ≤ m ∧ m ≤ en ∧ en ≤ b ∧ st + (en - m) = (a + b) / 2 ∧ (∀ i, a < st → en ≤ i → i < b → K k d (st - 1) ≤ K k d i) ∧ (∀ i, m < en → st ≤ i → i < m → K k d (en - 1) ≤ K k d i) := by
  obtain ⟨mid, hmid⟩ : ∃ mid, mid = (a + b) / 2 := ⟨_, rfl⟩
  unfold symStart at hst
  rw [← hmid] at hen hst ⊢
  obtain ⟨s, hs⟩ : ∃ s, s = if mid < m then mid + m - b else a := ⟨_, rfl⟩
  obtain ⟨r, hr⟩ : ∃ r, r = if mid < m then mid else m := ⟨_, rfl⟩
  simp only at hst
  rw [← hs, ← hr] at hst
  have hsr : (mid < m ∧ s = mid + m - b ∧ r = mid) ∨ (m ≤ mid ∧ s = a ∧ r = m) := by
    by_cases h : mid < m
    · rw [if_pos h] at hs hr; exact .inl ⟨h, hs, hr⟩
    · rw [if_neg h] at hs hr; exact .inr ⟨by omega, hs, hr⟩
  have hK : ∀ c, s ≤ c → c < r → (!(ltAt (keyLtB k) d (mid + m - 1 - c) c)) = decide (K k d c ≤ K k d (mid + m - 1 - c)) := fun c hc hc' => by
    rw [ltAt_K k (by omega) (by omega), ← decide_not]
    exact decide_eq_decide.2 (by omega)
  obtain ⟨s1, s2⟩ := bsF_spec2 (fun c => !(ltAt (keyLtB k) d (mid + m - 1 - c) c)) s r (fun x y hx hxy hy hp => by
    rw [hK y (by omega) hy] at hp
    rw [hK x hx (by omega)]
    have e1 := of_decide_eq_true hp
    have e2 := h1.le k (i := x) (j := y) (by omega) hxy (by omega)
    have e3 := h2.le k (i := mid + m - 1 - y) (j := mid + m - 1 - x) (by omega) (by omega) (by omega)
    exact decide_eq_true (by omega)) (b - a) s r (Nat.le_refl _) (by omega) (Nat.le_refl _) (by omega)
  have g1 := bsF_ge (fun c => !(ltAt (keyLtB k) d (mid + m - 1 - c) c)) (b - a) s r
  have g2 := bsF_le (fun c => !(ltAt (keyLtB k) d (mid + m - 1 - c) c)) (b - a) s r (by omega)
  rw [← hst] at s1 s2 g1 g2
  refine ⟨by omega, by omega, by omega, by omega, by omega, fun i hi1 hi2 hi3 => ?_, fun i hi1 hi2 hi3 => ?_⟩
  · have hs' : s < st := by omega
    have := s1 (st - 1) (by omega) (by omega)
    rw [hK (st - 1) (by omega) (by omega), show mid + m - 1 - (st - 1) = en by omega] at this
    have e1 := of_decide_eq_true this
    have e2 := h2.le k (i := en) (j := i) (by omega) hi2 hi3
    omega
  · have hr' : st < r := by omega
    have := s2 st (Nat.le_refl _) hr'
    rw [hK st (by omega) hr', show mid + m - 1 - st = en - 1 by omega] at this
    have e1 := of_decide_eq_false this
    have e2 := h1.le k (i := st) (j := i) (by omega) hi2 hi3
    omega
theorem symF_ok : ∀ (f : Nat) (d : List α) (a m b : Nat), a < m → m < b → b ≤ d.length → b - a ≤ f → Srt k d a m → Srt k d m b → Within d (symF (keyLtB k) f d a m b) a b ∧ Srt k (symF (keyLtB k) f d a m b) a b := by
  intro f
  induction f with
  | zero => intro d a m b h1 h2 h3 h4; omega
  | succ f ih =>
    intro d a m b ham hmb hb hf h1 h2
    unfold symF
    by_cases c1 : m - a = 1
    · rw [if_pos c1]; exact up_ok k (by omega) hmb hb h2
    · rw [if_neg c1]
      by_cases c2 : b - m = 1
      · rw [if_pos c2]; exact down_ok k (by omega) ham hb h1
      · rw [if_neg c2]
        simp only
        obtain ⟨st, hst⟩ : ∃ st, st = symStart (keyLtB k) d a m b := ⟨_, rfl⟩
        obtain ⟨en, hen⟩ : ∃ en, en = (a + b) / 2 + m - st := ⟨_, rfl⟩
        obtain ⟨k1, k2, k3, k4, k5, k6, k7⟩ := symStart_ok k (d := d) (by omega) (by omega) hb h1 h2 st en hst hen
        rw [← hst, ← hen]
        obtain ⟨mid, hmid⟩ : ∃ mid, mid = (a + b) / 2 := ⟨_, rfl⟩
        rw [← hmid] at k5 ⊢
        obtain ⟨d1, hd1⟩ : ∃ d1, d1 = if st < m ∧ m < en then rotS d st m en else d := ⟨_, rfl⟩
        rw [← hd1]
        have hat : Within d d1 a b ∧ ∀ p, d1[p]? = if st ≤ p ∧ p < mid then d[p + (m - st)]? else if mid ≤ p ∧ p < en then d[p - (en - m)]? else d[p]? := by
          by_cases c3 : st < m ∧ m < en
          · rw [if_pos c3] at hd1
            refine ⟨?_, fun p => ?_⟩
            · rw [hd1]; exact rotF_within m (en - st) d (m - st) (en - m) a b (by omega) (by omega) (by omega) (by omega) (by omega) hb (by omega)
            · have := rotF_at m (en - st) d (m - st) (en - m) (by omega) (by omega) (by omega) (by omega) (by omega) p
              rw [hd1]
              unfold rotS
              rw [this]
              by_cases q1 : st ≤ p ∧ p < mid
              · rw [if_pos (by omega), if_pos q1]
              · rw [if_neg (by omega), if_neg q1]
                by_cases q2 : mid ≤ p ∧ p < en
                · rw [if_pos (by omega), if_pos q2]
                · rw [if_neg (by omega), if_neg q2]
          · rw [if_neg c3] at hd1
            subst hd1
            refine ⟨.refl _ _ _, fun p => ?_⟩
            by_cases q1 : st ≤ p ∧ p < mid
            · rw [if_pos q1]; congr 1; omega
            · rw [if_neg q1]
              by_cases q2 : mid ≤ p ∧ p < en
              · rw [if_pos q2]; congr 1; omega
              · rw [if_neg q2]
        obtain ⟨w1, at1⟩ := hat
        have hd1l : d1.length = d.length := w1.len
        have eK : ∀ p, K k d1 p = if st ≤ p ∧ p < mid then K k d (p + (m - st)) else if mid ≤ p ∧ p < en then K k d (p - (en - m)) else K k d p := by
          intro p
          have := at1 p
          split
          · rename_i q; rw [if_pos q] at this; exact K_of k this
          · rename_i q
            rw [if_neg q] at this
            split
            · rename_i q2; rw [if_pos q2] at this; exact K_of k this
            · rename_i q2; rw [if_neg q2] at this; exact K_of k this
        -- what stands ahead of mid is not above what stands behind
        have cross : ∀ i j, a ≤ i → i < mid → mid ≤ j → j < b → K k d1 i ≤ K k d1 j := by
          intro i j hi1 hi2 hj1 hj2
          rw [eK i, eK j, if_neg (by omega : ¬ (st ≤ j ∧ j < mid))]
          by_cases q1 : st ≤ i ∧ i < mid
          · rw [if_pos q1]
            have e1 := h2.le k (i := i + (m - st)) (j := en - 1) (by omega) (by omega) (by omega)
            by_cases q2 : mid ≤ j ∧ j < en
            · rw [if_pos q2]
              have e2 := k7 (j - (en - m)) (by omega) (by omega) (by omega)
              omega
            · rw [if_neg q2]
              exact h2.le k (by omega) (by omega) hj2
          · rw [if_neg q1, if_neg (by omega)]
            have e1 := h1.le k (i := i) (j := st - 1) hi1 (by omega) (by omega)
            by_cases q2 : mid ≤ j ∧ j < en
            · rw [if_pos q2]
              exact h1.le k hi1 (by omega) (by omega)
            · rw [if_neg q2]
              have e2 := k6 j (by omega) (by omega) hj2
              omega
        have sA : Srt k d1 a st := fun p q hp hpq hq => by
          rw [eK p, eK q, if_neg (by omega), if_neg (by omega), if_neg (by omega), if_neg (by omega)]
          exact h1 p q hp hpq (by omega)
        have sB : Srt k d1 st mid := fun p q hp hpq hq => by
          rw [eK p, eK q, if_pos (by omega), if_pos (by omega)]
          exact h2 _ _ (by omega) (by omega) (by omega)
        have sC : Srt k d1 mid en := fun p q hp hpq hq => by
          rw [eK p, eK q, if_neg (by omega), if_pos (by omega), if_neg (by omega), if_pos (by omega)]
          exact h1 _ _ (by omega) (by omega) (by omega)
        have sD : Srt k d1 en b := fun p q hp hpq hq => by
          rw [eK p, eK q, if_neg (by omega), if_neg (by omega), if_neg (by omega), if_neg (by omega)]
          exact h2 p q (by omega) hpq hq
        obtain ⟨d2, hd2⟩ : ∃ d2, d2 = if a < st ∧ st < mid then symF (keyLtB k) f d1 a st mid else d1 := ⟨_, rfl⟩
        rw [← hd2]
        have hok2 : Within d1 d2 a mid ∧ Srt k d2 a mid := by
          by_cases c4 : a < st ∧ st < mid
          · rw [if_pos c4] at hd2
            rw [hd2]
            exact ih d1 a st mid c4.1 c4.2 (by omega) (by omega) sA sB
          · rw [if_neg c4] at hd2
            subst hd2
            refine ⟨.refl _ _ _, ?_⟩
            by_cases c5 : st = a
            · subst c5; exact sB
            · have : st = mid := by omega
              subst this; exact sA
        obtain ⟨w2, s2⟩ := hok2
        have e2 : ∀ p, mid ≤ p → K k d2 p = K k d1 p := fun p hp => K_of k (w2.out p (.inr hp))
        have sC2 : Srt k d2 mid en := fun p q hp hpq hq => by rw [e2 p hp, e2 q (by omega)]; exact sC p q hp hpq hq
        have sD2 : Srt k d2 en b := fun p q hp hpq hq => by rw [e2 p (by omega), e2 q (by omega)]; exact sD p q hp hpq hq
        obtain ⟨d3, hd3⟩ : ∃ d3, d3 = if mid < en ∧ en < b then symF (keyLtB k) f d2 mid en b else d2 := ⟨_, rfl⟩
        rw [← hd3]
        have hok3 : Within d2 d3 mid b ∧ Srt k d3 mid b := by
          by_cases c4 : mid < en ∧ en < b
          · rw [if_pos c4] at hd3
            rw [hd3]
            exact ih d2 mid en b c4.1 c4.2 (by rw [w2.len]; omega) (by omega) sC2 sD2
          · rw [if_neg c4] at hd3
            subst hd3
            refine ⟨.refl _ _ _, ?_⟩
            by_cases c5 : en = b
            · subst c5; exact sC2
            · have : en = mid := by omega
              rw [this] at sD2; exact sD2
        obtain ⟨w3, s3⟩ := hok3
        refine ⟨(w1.trans (w2.wide (Nat.le_refl _) (by omega))).trans (w3.wide (by omega) (Nat.le_refl _)), fun p q hp hpq hq => ?_⟩
        by_cases q1 : q < mid
        · have : K k d3 p ≤ K k d3 q := by
            rw [K_of k (w3.out p (.inl (by omega))), K_of k (w3.out q (.inl q1))]
            exact s2 p q hp hpq q1
          exact this
        · by_cases p1 : p < mid
          · obtain ⟨i, i1, i2, i3⟩ := w2.inn p hp p1
            obtain ⟨j, j1, j2, j3⟩ := w3.inn q (by omega) hq
            rw [K_of k (w3.out p (.inl p1)), K_of k i3, K_of k j3, e2 j j1]
            exact cross i j i1 i2 j1 j2
          · exact s3 p q (by omega) hpq hq
theorem symS_ok (d : List α) (a m b : Nat) (h1 : a < m) (h2 : m < b) (h3 : b ≤ d.length) (h4 : Srt k d a m) (h5 : Srt k d m b) : Within d (symS (keyLtB k) d a m b) a b ∧ Srt k (symS (keyLtB k) d a m b) a b :=
  symF_ok k (b - a) d a m b h1 h2 h3 (Nat.le_refl _) h4 h5
/-! the whole sort -/
/-- each block of bs, from a on, is in order -/
def Bls (d : List α) (bs n a : Nat) : Prop := ∀ t, Srt k d (a + t * bs) (min (a + (t + 1) * bs) n)
theorem blkF_ok : ∀ (f : Nat) (d : List α) (bs n a : Nat), 0 < bs → n ≤ d.length → a ≤ n → n - a ≤ f * bs + bs → Within d (blkF (keyLtB k) d bs n a f) a n ∧ Bls k (blkF (keyLtB k) d bs n a f) bs n a := by
  have last : ∀ (d : List α) (bs n a : Nat), n ≤ d.length → a ≤ n → n - a ≤ bs → Within d (insS (keyLtB k) d a n) a n ∧ Bls k (insS (keyLtB k) d a n) bs n a := by
    intro d bs n a h2 h3 h4
    rcases Nat.lt_or_ge a n with h | h
    · obtain ⟨w, s⟩ := insS_ok k d a n h h2
      refine ⟨w, fun t p q hp hpq hq => s p q ?_ hpq (by omega)⟩
      have : a ≤ a + t * bs := Nat.le_add_right _ _
      omega
    · have e : n = a := by omega
      subst e
      have hins : insS (keyLtB k) d n n = d := by
        unfold insS
        rw [show n - (n + 1) = 0 by omega]
        rfl
      rw [hins]
      refine ⟨.refl _ _ _, fun t p q hp hpq hq => ?_⟩
      have : n ≤ n + t * bs := Nat.le_add_right _ _
      omega
  intro f
  induction f with
  | zero => intro d bs n a h1 h2 h3 h4; unfold blkF; exact last d bs n a h2 h3 (by omega)
  | succ f ih =>
    intro d bs n a h1 h2 h3 h4
    unfold blkF
    split
    · rename_i h
      obtain ⟨w, s⟩ := insS_ok k d a (a + bs) (by omega) (by omega)
      have h4' : n - a ≤ f * bs + bs + bs := by rw [← Nat.succ_mul f bs]; exact h4
      obtain ⟨w2, s2⟩ := ih (insS (keyLtB k) d a (a + bs)) bs n (a + bs) h1 (by rw [insS_length]; exact h2) h (by omega)
      refine ⟨(w.wide (Nat.le_refl _) h).trans (w2.wide (by omega) (Nat.le_refl _)), fun t => ?_⟩
      cases t with
      | zero =>
        intro p q hp hpq hq
        rw [K_of k (w2.out p (.inl (by omega))), K_of k (w2.out q (.inl (by omega)))]
        exact s p q (by omega) hpq (by omega)
      | succ t =>
        have := s2 t
        rw [show a + bs + t * bs = a + (t + 1) * bs by rw [Nat.succ_mul]; omega, show a + bs + (t + 1) * bs = a + (t + 1 + 1) * bs by rw [Nat.succ_mul (t + 1)]; omega] at this
        exact this
    · rename_i h
      exact last d bs n a h2 h3 (by omega)
theorem mrgF_ok : ∀ (f : Nat) (d : List α) (bs n a : Nat), 0 < bs → n ≤ d.length → a ≤ n → n - a ≤ f * (2 * bs) → Bls k d bs n a → Within d (mrgF (keyLtB k) d bs n a f) a n ∧ Bls k (mrgF (keyLtB k) d bs n a f) (2 * bs) n a := by
  intro f
  induction f with
  | zero =>
    intro d bs n a h1 h2 h3 h4 h5
    unfold mrgF
    refine ⟨.refl _ _ _, fun t p q hp hpq hq => ?_⟩
    have : a ≤ a + t * (2 * bs) := Nat.le_add_right _ _
    omega
  | succ f ih =>
    intro d bs n a h1 h2 h3 h4 h5
    unfold mrgF
    have b0 := h5 0
    have b1 := h5 1
    simp only [Nat.zero_mul, Nat.add_zero, Nat.zero_add, Nat.one_mul] at b0 b1
    split
    · rename_i h
      obtain ⟨w, s⟩ := symS_ok k d a (a + bs) (a + 2 * bs) (by omega) (by omega) (by omega) (by rw [Nat.min_eq_left (by omega)] at b0; exact b0) (by rw [show min (a + (1 + 1) * bs) n = a + 2 * bs by omega] at b1; exact b1)
      have h5' : Bls k (symS (keyLtB k) d a (a + bs) (a + 2 * bs)) bs n (a + 2 * bs) := by
        intro t p q hp hpq hq
        have e : ∀ p, a + 2 * bs ≤ p → K k (symS (keyLtB k) d a (a + bs) (a + 2 * bs)) p = K k d p := fun p hp => K_of k (w.out p (.inr hp))
        have hge : a + 2 * bs ≤ a + 2 * bs + t * bs := Nat.le_add_right _ _
        rw [e p (by omega), e q (by omega)]
        have := h5 (t + 2)
        rw [show a + (t + 2) * bs = a + 2 * bs + t * bs by rw [Nat.add_mul]; omega, show a + (t + 2 + 1) * bs = a + 2 * bs + (t + 1) * bs by rw [show t + 2 + 1 = 2 + (t + 1) by omega, Nat.add_mul]; omega] at this
        exact this p q hp hpq hq
      obtain ⟨w2, s2⟩ := ih _ bs n (a + 2 * bs) h1 (by rw [symS_length]; exact h2) h (by have := Nat.add_mul f 1 (2 * bs); omega) h5'
      refine ⟨(w.wide (Nat.le_refl _) h).trans (w2.wide (by omega) (Nat.le_refl _)), fun t => ?_⟩
      cases t with
      | zero =>
        intro p q hp hpq hq
        rw [K_of k (w2.out p (.inl (by omega))), K_of k (w2.out q (.inl (by omega)))]
        exact s p q (by omega) hpq (by omega)
      | succ t =>
        have := s2 t
        rw [show a + 2 * bs + t * (2 * bs) = a + (t + 1) * (2 * bs) by rw [Nat.add_mul t 1 (2 * bs)]; omega, show a + 2 * bs + (t + 1) * (2 * bs) = a + (t + 1 + 1) * (2 * bs) by rw [Nat.add_mul (t + 1) 1 (2 * bs)]; omega] at this
        exact this
    · rename_i h
      have hpos : ∀ t : Nat, 0 < t → 2 * bs ≤ t * (2 * bs) := fun t ht => Nat.le_mul_of_pos_left _ ht
      split
      · rename_i h'
        obtain ⟨w, s⟩ := symS_ok k d a (a + bs) n (by omega) h' h2 (by rw [Nat.min_eq_left (by omega)] at b0; exact b0) (by rw [Nat.min_eq_right (by omega)] at b1; exact b1)
        refine ⟨w, fun t p q hp hpq hq => s p q ?_ hpq (by omega)⟩
        have : a ≤ a + t * (2 * bs) := Nat.le_add_right _ _
        omega
      · rename_i h'
        refine ⟨.refl _ _ _, fun t p q hp hpq hq => ?_⟩
        cases t with
        | zero => exact b0 p q (by omega) hpq (by omega)
        | succ t => have := hpos (t + 1) (by omega); omega
theorem lvlF_ok : ∀ (f : Nat) (d : List α) (n bs : Nat), 0 < bs → n ≤ d.length → n ≤ bs + f → Bls k d bs n 0 → Within d (lvlF (keyLtB k) d n bs f) 0 n ∧ Srt k (lvlF (keyLtB k) d n bs f) 0 n := by
  have fin : ∀ (d : List α) (n bs : Nat), n ≤ bs → Bls k d bs n 0 → Srt k d 0 n := by
    intro d n bs h1 h2 p q hp hpq hq
    exact h2 0 p q (by omega) hpq (by omega)
  intro f
  induction f with
  | zero => intro d n bs h1 h2 h3 h4; exact ⟨.refl _ _ _, fin d n bs (by omega) h4⟩
  | succ f ih =>
    intro d n bs h1 h2 h3 h4
    unfold lvlF
    split
    · rename_i h
      have hn : n - 0 ≤ n * (2 * bs) := by
        have : n * 1 ≤ n * (2 * bs) := Nat.mul_le_mul_left _ (by omega)
        omega
      obtain ⟨w, s⟩ := mrgF_ok k n d bs n 0 h1 h2 (by omega) hn h4
      rw [show bs * 2 = 2 * bs by omega]
      obtain ⟨w2, s2⟩ := ih _ n (2 * bs) (by omega) (by rw [mrgF_length]; exact h2) (by omega) s
      exact ⟨w.trans w2, s2⟩
    · rename_i h
      exact ⟨.refl _ _ _, fin d n bs (by omega) h4⟩
/-- the library's stable sort sorts -/
theorem stabS_ok (d : List α) : (stabS (keyLtB k) d).Perm d ∧ Srt k (stabS (keyLtB k) d) 0 d.length := by
  unfold stabS
  have h1 := blkF_ok k d.length d 20 d.length 0 (by decide) (Nat.le_refl _) (by omega) (by omega)
  have h2 := lvlF_ok k d.length _ d.length 20 (by decide) (by rw [blkF_length]; exact Nat.le_refl _) (by omega) h1.2
  exact ⟨h2.1.perm.trans h1.1.perm, h2.2⟩
end
end Go.Proofs.Ytglhmhpaoebifaa
