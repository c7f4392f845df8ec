import Derived.Test.YtjgdlocgoiinbaaGreatDoorHD
namespace Go.Proofs.YtjgdlocgoiinbaaGreatDoor
set_option linter.unusedVariables false
set_option linter.unusedSimpArgs false
open Go.RowKit Go.Lib
structure TokS where
  k : Int
  at_ : Int
  t : ByteArray
  v : ValS
def isGreat (c : UInt8) : Bool := decide (65 ≤ c.toNat) && decide (c.toNat ≤ 90)
def isLow (c : UInt8) : Bool := decide (97 ≤ c.toNat) && decide (c.toNat ≤ 122)
def isSmall (c : UInt8) : Bool := isLow c || isDig c || decide (c = 95)
def scanQ : List UInt8 → Option Nat
  | [] => none
  | c :: l => if c = 39 then (match l with | [] => some 1 | d :: l2 => if d = 39 then (scanQ l2).map (· + 2) else some 1) else (scanQ l).map (· + 1)
def ws (s : String) : List UInt8 := s.toUTF8.data.toList
def keysL : List (List UInt8) := ["ADD", "ALTER", "AND", "AS", "BOOL", "BY", "BYTES", "CAST", "COLUMN", "COUNT", "CREATE", "DECIMAL", "DEFAULT", "DELETE", "DESC", "DROP", "FALSE", "FROM", "GROUP", "INDEX", "INSERT", "INT", "INTO", "IS", "JOIN", "LIMIT", "MAX", "MIN", "NOT", "NULL", "ON", "OR", "ORDER", "SELECT", "SET", "SUM", "TABLE", "TEXT", "TRUE", "TYPE", "UNIQUE", "UPDATE", "VALUES", "WHERE"].map ws
def signsL : List UInt8 := [40, 41, 44, 46, 43, 45, 42, 47, 37, 61, 60, 62]
def twosL : List (List UInt8) := [[60, 61], [62, 61], [60, 62]]
def numW (s : List UInt8) : List UInt8 :=
  match s.dropWhile isDig with
  | 46 :: d :: r => if isDig d = true then s.takeWhile isDig ++ 46 :: (d :: r).takeWhile isDig else s.takeWhile isDig
  | _ => s.takeWhile isDig
def litS (w : List UInt8) : Option (TokS × Nat) := (parseR w).map fun v => (⟨2, 0, ByteArray.empty, v⟩, w.length)
def tokL (s : List UInt8) : Option (TokS × Nat) :=
  match s with
  | [] => none
  | c :: l =>
    if c = 39 then (scanQ l).bind fun m => litS (s.take (m + 1))
    else if c = 88 ∧ l.head? = some 39 then (scanQ l.tail).bind fun m => litS (s.take (m + 2))
    else if isDig c = true then (decP (numW s)).map fun p => (⟨2, 0, ByteArray.empty, if 0 < p.2 then ⟨3, p.1, p.2, ByteArray.empty⟩ else ⟨2, p.1, 0, ByteArray.empty⟩⟩, (numW s).length)
    else if isGreat c = true then (if keysL.contains (s.takeWhile isGreat) = true then some (⟨1, 0, baL (s.takeWhile isGreat), vN⟩, (s.takeWhile isGreat).length) else none)
    else if isLow c = true then (if (s.takeWhile isSmall).length ≤ 24 then some (⟨0, 0, baL (s.takeWhile isSmall), vN⟩, (s.takeWhile isSmall).length) else none)
    else if twosL.contains (s.take 2) = true then some (⟨3, 0, baL (s.take 2), vN⟩, 2)
    else if signsL.contains c = true then some (⟨3, 0, baL [c], vN⟩, 1)
    else none
theorem scanQ_len : ∀ {l : List UInt8} {m : Nat}, scanQ l = some m → 1 ≤ m ∧ m ≤ l.length
  | [], m, h => by cases h
  | [c], m, h => by
    simp only [scanQ] at h
    split at h
    · injection h with h; simp; omega
    · cases h
  | c :: d :: l, m, h => by
    simp only [scanQ] at h
    split at h
    · split at h
      · obtain ⟨q, hq, rfl⟩ := Option.map_eq_some_iff.1 h
        have := scanQ_len hq
        simp only [List.length_cons]; omega
      · injection h with h; simp only [List.length_cons]; omega
    · obtain ⟨q, hq, rfl⟩ := Option.map_eq_some_iff.1 h
      have := scanQ_len (l := d :: l) (by simpa only [scanQ] using hq)
      simp only [List.length_cons] at this ⊢; omega
theorem scanQ_app : ∀ {l : List UInt8} {m : Nat} (t : List UInt8), scanQ l = some m → scanQ (l ++ 10 :: t) = some m
  | [], m, t, h => by cases h
  | [c], m, t, h => by
    simp only [scanQ] at h
    split at h
    · rename_i hc
      simp only [List.cons_append, List.nil_append, scanQ, if_pos hc]
      rw [if_neg (by decide)]
      exact h
    · cases h
  | c :: d :: l, m, t, h => by
    simp only [scanQ] at h
    simp only [List.cons_append, scanQ]
    split at h
    · rename_i hc
      rw [if_pos hc]
      split at h
      · rename_i hd
        obtain ⟨q, hq, rfl⟩ := Option.map_eq_some_iff.1 h
        rw [if_pos hd, scanQ_app t hq]; rfl
      · rename_i hd
        rw [if_neg hd]; exact h
    · rename_i hc
      obtain ⟨q, hq, rfl⟩ := Option.map_eq_some_iff.1 h
      have ih := scanQ_app (l := d :: l) t (by simpa only [scanQ] using hq)
      rw [if_neg hc]
      simp only [List.cons_append, scanQ] at ih
      rw [ih]; rfl
end Go.Proofs.YtjgdlocgoiinbaaGreatDoor
namespace Go.Proofs.YtjgdlocgoiinbaaGreatDoor
set_option linter.unusedVariables false
set_option linter.unusedSimpArgs false
open Go.RowKit Go.Lib
theorem tw_app {p : UInt8 → Bool} {x : UInt8} (hx : p x = false) (t : List UInt8) : ∀ s : List UInt8, (s ++ x :: t).takeWhile p = s.takeWhile p
  | [] => by simp [List.takeWhile, hx]
  | c :: s => by
    simp only [List.cons_append, List.takeWhile]
    split
    · rw [tw_app hx t s]
    · rfl
theorem dw_app {p : UInt8 → Bool} {x : UInt8} (hx : p x = false) (t : List UInt8) : ∀ s : List UInt8, (s ++ x :: t).dropWhile p = s.dropWhile p ++ x :: t
  | [] => by simp [List.dropWhile, hx]
  | c :: s => by
    simp only [List.cons_append, List.dropWhile]
    split
    · rw [dw_app hx t s]
    · rfl
theorem numW_app (t s : List UInt8) : numW (s ++ 10 :: t) = numW s := by
  unfold numW
  rw [dw_app (by decide), tw_app (by decide)]
  rcases hd : s.dropWhile isDig with _ | ⟨a, _ | ⟨b, r⟩⟩
  · rfl
  · by_cases ha : a = 46
    · subst ha; rfl
    · simp only [List.cons_append, List.nil_append]
      split
      · rename_i h; injection h with h1 h2; exact absurd h1 ha
      · rfl
  · by_cases ha : a = 46
    · subst ha
      simp only [List.cons_append]
      split
      · have := tw_app (p := isDig) (x := 10) (by decide) t (b :: r)
        rw [List.cons_append] at this
        rw [this]
      · rfl
    · simp only [List.cons_append]
      split
      · rename_i h; injection h with h1 h2; exact absurd h1 ha
      · split
        · rename_i h; injection h with h1 h2; exact absurd h1 ha
        · rfl
theorem take_app' {s : List UInt8} (t : List UInt8) {n : Nat} (h : n ≤ s.length) : (s ++ t).take n = s.take n := by
  rw [List.take_append, show n - s.length = 0 by omega, List.take_zero, List.append_nil]
theorem tokL_app {s : List UInt8} {r : TokS × Nat} (t : List UInt8) (h : tokL s = some r) : tokL (s ++ 10 :: t) = some r := by
  rcases s with _ | ⟨c, l⟩
  · cases h
  rw [List.cons_append]
  unfold tokL at h ⊢
  simp only at h ⊢
  split at h
  · rename_i h39
    rw [if_pos h39]
    obtain ⟨m, h1, h2⟩ := Option.bind_eq_some_iff.1 h
    have hl := scanQ_len h1
    rw [scanQ_app t h1, Option.bind_some, ← List.cons_append, take_app' _ (by simp only [List.length_cons]; omega)]
    exact h2
  rename_i h39
  rw [if_neg h39]
  split at h
  · rename_i hx
    obtain ⟨m, h1, h2⟩ := Option.bind_eq_some_iff.1 h
    obtain ⟨d, l2, rfl⟩ : ∃ d l2, l = d :: l2 := by
      cases l with
      | nil => cases hx.2
      | cons d l2 => exact ⟨d, l2, rfl⟩
    have hl := scanQ_len h1
    simp only [List.tail_cons] at h1 hl
    rw [if_pos ⟨hx.1, by have := hx.2; simpa using this⟩, List.cons_append, List.tail_cons, scanQ_app t h1, Option.bind_some, ← List.cons_append, ← List.cons_append, take_app' _ (by simp only [List.length_cons]; omega)]
    exact h2
  rename_i hx
  have hx2 : ¬ (c = 88 ∧ (l ++ 10 :: t).head? = some 39) := by
    rintro ⟨e1, e2⟩
    apply hx
    refine ⟨e1, ?_⟩
    cases l with
    | nil => simp at e2
    | cons d l2 => simpa using e2
  rw [if_neg hx2]
  have hn := numW_app t (c :: l)
  have hg := tw_app (p := isGreat) (x := 10) (by decide) t (c :: l)
  have hs := tw_app (p := isSmall) (x := 10) (by decide) t (c :: l)
  rw [List.cons_append] at hn hg hs
  rw [hn, hg, hs]
  split at h
  · rename_i hd
    rw [if_pos hd]; exact h
  rename_i hd
  rw [if_neg hd]
  split at h
  · rename_i hd
    rw [if_pos hd]; exact h
  rename_i hd
  rw [if_neg hd]
  split at h
  · rename_i hd
    rw [if_pos hd]; exact h
  rename_i hd
  rw [if_neg hd]
  rcases l with _ | ⟨d, l2⟩
  · split at h
    · rename_i h2
      exfalso
      simp [twosL] at h2
    · rename_i h2
      have : ¬ twosL.contains (List.take 2 (c :: ([] ++ 10 :: t))) = true := by simp [twosL]
      rw [if_neg this]
      exact h
  · exact h
def textR (t : TokS) : List UInt8 := if t.k = 2 then printR t.v else t.t.data.toList
theorem lit_text {w : List UInt8} {t : TokS} {n : Nat} (h : litS w = some (t, n)) : textR t = w ∧ n = w.length ∧ t.k = 2 ∧ valOk t.v = true ∧ (-9223372036854775808 ≤ t.v.n ∧ t.v.n ≤ 9223372036854775807) := by
  unfold litS at h
  obtain ⟨v, h1, h2⟩ := Option.map_eq_some_iff.1 h
  injection h2 with h2 h3
  subst h2
  have := print_parse h1
  exact ⟨by unfold textR; rw [if_pos rfl]; exact this.2.2, h3.symm, rfl, this.1, this.2.1⟩
theorem tw_take (p : UInt8 → Bool) : ∀ s : List UInt8, s.takeWhile p = s.take (s.takeWhile p).length ∧ (s.takeWhile p).length ≤ s.length
  | [] => ⟨rfl, Nat.le_refl _⟩
  | c :: s => by
    have ih := tw_take p s
    simp only [List.takeWhile]
    split
    · simp only [List.length_cons, List.take_succ_cons]
      exact ⟨by rw [← ih.1], by omega⟩
    · exact ⟨rfl, Nat.zero_le _⟩
theorem tw_dw (p : UInt8 → Bool) : ∀ s : List UInt8, s.takeWhile p ++ s.dropWhile p = s
  | [] => rfl
  | c :: s => by
    simp only [List.takeWhile, List.dropWhile]
    split
    · rw [List.cons_append, tw_dw p s]
    · rfl
theorem take_of_app {s a b : List UInt8} (h : a ++ b = s) : a = s.take a.length ∧ a.length ≤ s.length := by
  subst h
  exact ⟨by simp, by simp⟩
theorem numW_take (s : List UInt8) : numW s = s.take (numW s).length ∧ (numW s).length ≤ s.length := by
  have hs := tw_dw isDig s
  unfold numW
  split
  · rename_i d r hd
    rw [hd] at hs
    split
    · refine take_of_app (b := (d :: r).dropWhile isDig) ?_
      rw [List.append_assoc, List.cons_append, tw_dw, hs]
    · exact tw_take isDig s
  · exact tw_take isDig s
theorem tw_pos {p : UInt8 → Bool} {c : UInt8} (l : List UInt8) (h : p c = true) : 1 ≤ ((c :: l).takeWhile p).length := by
  simp [List.takeWhile, h]
theorem numW_pos {c : UInt8} (l : List UInt8) (h : isDig c = true) : 1 ≤ (numW (c :: l)).length := by
  have := tw_pos (p := isDig) l h
  unfold numW
  split
  · split
    · rw [List.length_append]; omega
    · exact this
  · exact this
theorem tokL_text {s : List UInt8} {t : TokS} {n : Nat} (h : tokL s = some (t, n)) : textR t = s.take n ∧ 1 ≤ n ∧ n ≤ s.length := by
  rcases s with _ | ⟨c, l⟩
  · cases h
  unfold tokL at h
  simp only at h
  split at h
  · obtain ⟨m, h1, h2⟩ := Option.bind_eq_some_iff.1 h
    have hl := scanQ_len h1
    have ht := lit_text h2
    have e : ((c :: l).take (m + 1)).length = m + 1 := by rw [List.length_take]; simp only [List.length_cons]; omega
    refine ⟨?_, by omega, by simp only [List.length_cons]; omega⟩
    rw [ht.1, ht.2.1, e]
  split at h
  · rename_i hx
    obtain ⟨m, h1, h2⟩ := Option.bind_eq_some_iff.1 h
    have hl := scanQ_len h1
    have ht := lit_text h2
    have hl2 : l.tail.length + 1 = l.length := by
      cases l with
      | nil => cases hx.2
      | cons d l2 => rfl
    have e : ((c :: l).take (m + 2)).length = m + 2 := by rw [List.length_take]; simp only [List.length_cons]; omega
    refine ⟨?_, by omega, by simp only [List.length_cons]; omega⟩
    rw [ht.1, ht.2.1, e]
  split at h
  · rename_i hd
    obtain ⟨p, h1, h2⟩ := Option.map_eq_some_iff.1 h
    injection h2 with h2 h3
    have hp := decP_i h1
    have hw := numW_take (c :: l)
    subst h2 h3
    refine ⟨?_, numW_pos l hd, hw.2⟩
    rw [← hw.1]
    unfold textR
    rw [if_pos rfl]
    by_cases hk : 0 < p.2
    · simp only [if_pos hk]
      show (if (p.2 : Int) = 0 then printD p.1 0 ++ [46] else printD p.1 (p.2 : Int).toNat) = _
      rw [if_neg (by omega), Int.toNat_natCast, hp.2.2.2]
    · simp only [if_neg hk]
      have h0 : p.2 = 0 := by omega
      show printD p.1 0 = _
      rw [← h0, hp.2.2.2]
  split at h
  · rename_i hd
    split at h
    · injection h with h
      injection h with h2 h3
      have hw := tw_take isGreat (c :: l)
      subst h2 h3
      exact ⟨hw.1, tw_pos l hd, hw.2⟩
    · cases h
  split at h
  · rename_i hd
    split at h
    · injection h with h
      injection h with h2 h3
      have hw := tw_take isSmall (c :: l)
      subst h2 h3
      exact ⟨hw.1, tw_pos l (by unfold isSmall; rw [hd]; rfl), hw.2⟩
    · cases h
  split at h
  · rename_i h2c
    injection h with h
    injection h with h2 h3
    subst h2 h3
    refine ⟨rfl, by omega, ?_⟩
    cases l with
    | nil => simp [twosL] at h2c
    | cons d l2 => simp only [List.length_cons]; omega
  split at h
  · injection h with h
    injection h with h2 h3
    subst h2 h3
    exact ⟨rfl, by omega, by simp only [List.length_cons]; omega⟩
  · cases h
def lexF : Nat → Nat → List UInt8 → Option (List TokS) × Nat
  | 0, _, _ => (some [], 0)
  | _ + 1, _, [] => (some [], 0)
  | f + 1, p, c :: l => if c = 32 ∨ c = 10 then lexF f (p + 1) l else
    match tokL (c :: l) with
    | none => (none, p)
    | some (t, n) => match lexF f (p + n) ((c :: l).drop n) with
      | (none, e) => (none, e)
      | (some ts, e) => (some (⟨t.k, p, t.t, t.v⟩ :: ts), e)
def lexL (s : List UInt8) : Option (List TokS) × Nat := lexF s.length 0 s
end Go.Proofs.YtjgdlocgoiinbaaGreatDoor
namespace Go.Proofs.YtjgdlocgoiinbaaGreatDoor
set_option linter.unusedVariables false
set_option linter.unusedSimpArgs false
open Go.RowKit Go.Lib
theorem lexF_fuel : ∀ (f : Nat) (s : List UInt8) (p : Nat) (f' : Nat), s.length ≤ f → s.length ≤ f' → lexF f p s = lexF f' p s
  | 0, s, p, f', h, h' => by
    obtain rfl : s = [] := List.eq_nil_of_length_eq_zero (by omega)
    cases f' <;> rfl
  | f + 1, [], p, f', h, h' => by cases f' <;> rfl
  | f + 1, c :: l, p, 0, h, h' => by simp at h'
  | f + 1, c :: l, p, f' + 1, h, h' => by
    simp only [List.length_cons] at h h'
    unfold lexF
    split
    · exact lexF_fuel f l (p + 1) f' (by omega) (by omega)
    · cases ht : tokL (c :: l) with
      | none => rfl
      | some r =>
        obtain ⟨t, n⟩ := r
        have hn := (tokL_text ht).2
        simp only
        have hd : ((c :: l).drop n).length ≤ l.length := by rw [List.length_drop]; simp only [List.length_cons]; omega
        rw [lexF_fuel f ((c :: l).drop n) (p + n) f' (by omega) (by omega)]
def lexG (p : Nat) (s : List UInt8) : Option (List TokS) × Nat := lexF s.length p s
theorem lexG_nil (p : Nat) : lexG p [] = (some [], 0) := rfl
theorem lexG_blank {p : Nat} {c : UInt8} {l : List UInt8} (h : c = 32 ∨ c = 10) : lexG p (c :: l) = lexG (p + 1) l := by
  unfold lexG
  rw [List.length_cons, lexF, if_pos h]
theorem lexG_bad {p : Nat} {c : UInt8} {l : List UInt8} (h : ¬ (c = 32 ∨ c = 10)) (ht : tokL (c :: l) = none) : lexG p (c :: l) = (none, p) := by
  unfold lexG
  rw [List.length_cons, lexF, if_neg h, ht]
def putT (t : TokS) (p : Nat) (r : Option (List TokS) × Nat) : Option (List TokS) × Nat := (r.1.map ((⟨t.k, p, t.t, t.v⟩ : TokS) :: ·), r.2)
theorem lexG_tok {p : Nat} {c : UInt8} {l : List UInt8} {t : TokS} {n : Nat} (h : ¬ (c = 32 ∨ c = 10)) (ht : tokL (c :: l) = some (t, n)) : lexG p (c :: l) = putT t p (lexG (p + n) ((c :: l).drop n)) := by
  have hn := (tokL_text ht).2
  have hd : ((c :: l).drop n).length ≤ l.length := by rw [List.length_drop]; simp only [List.length_cons]; omega
  unfold lexG putT
  rw [List.length_cons, lexF, if_neg h, ht]
  simp only
  rw [lexF_fuel l.length ((c :: l).drop n) (p + n) ((c :: l).drop n).length hd (Nat.le_refl _)]
  cases lexF ((c :: l).drop n).length (p + n) ((c :: l).drop n) with
  | mk a e => cases a <;> rfl
def Placed (s : List UInt8) : Nat → List TokS → Prop
  | _, [] => True
  | e, t :: ts => ∃ p : Nat, t.at_ = p ∧ e ≤ p ∧ p + (textR t).length ≤ s.length ∧ (s.drop p).take (textR t).length = textR t ∧ 1 ≤ (textR t).length ∧ (∀ i (h : i < s.length), e ≤ i → i < p → s[i] = 32 ∨ s[i] = 10) ∧ Placed s (p + (textR t).length) ts
theorem placed_of (s : List UInt8) : ∀ (m p e : Nat) (ts : List TokS) (x : Nat), s.length - p ≤ m → e ≤ p → p ≤ s.length → (∀ i (h : i < s.length), e ≤ i → i < p → s[i] = 32 ∨ s[i] = 10) → lexG p (s.drop p) = (some ts, x) → Placed s e ts := by
  intro m
  induction m with
  | zero =>
    intro p e ts x hm he hp hb h
    rw [show s.drop p = [] from List.drop_eq_nil_of_le (by omega), lexG_nil] at h
    injection h with h1 h2
    injection h1 with h1
    subst h1
    trivial
  | succ m ih =>
    intro p e ts x hm he hp hb h
    by_cases hps : p < s.length
    · rw [List.drop_eq_getElem_cons hps] at h
      by_cases hc : s[p] = 32 ∨ s[p] = 10
      · rw [lexG_blank hc] at h
        refine ih (p + 1) e ts x (by omega) (by omega) (by omega) (fun i hi h1 h2 => ?_) h
        by_cases e : i = p
        · subst e; exact hc
        · exact hb i hi h1 (by omega)
      · cases ht : tokL (s[p] :: s.drop (p + 1)) with
        | none => rw [lexG_bad hc ht] at h; cases h
        | some r =>
          obtain ⟨t, n⟩ := r
          rw [lexG_tok hc ht, ← List.drop_eq_getElem_cons hps, List.drop_drop] at h
          rw [← List.drop_eq_getElem_cons hps] at ht
          obtain ⟨h1, h2, h3⟩ := tokL_text ht
          rw [List.length_drop] at h3
          unfold putT at h
          cases hr : lexG (p + n) (s.drop (p + n)) with
          | mk a y =>
            rw [hr] at h
            cases a with
            | none => cases h
            | some us =>
              injection h with h4 h5
              injection h4 with h4
              subst h4
              have hl : (textR t).length = n := by rw [h1, List.length_take, List.length_drop]; omega
              have htx : textR (⟨t.k, p, t.t, t.v⟩ : TokS) = textR t := rfl
              refine ⟨p, rfl, he, by rw [htx, hl]; omega, by rw [htx, hl, h1], by rw [htx, hl]; exact h2, hb, ?_⟩
              rw [htx, hl]
              exact ih (p + n) (p + n) us y (by omega) (Nat.le_refl _) (by omega) (fun i hi h1 h2 => by omega) hr
    · rw [show s.drop p = [] from List.drop_eq_nil_of_le (by omega), lexG_nil] at h
      injection h with h1 h2
      injection h1 with h1
      subst h1
      trivial
theorem lex_placed {s : List UInt8} {ts : List TokS} {x : Nat} (h : lexG 0 s = (some ts, x)) : Placed s 0 ts :=
  placed_of s s.length 0 0 ts x (by omega) (Nat.le_refl _) (Nat.zero_le _) (fun i hi h1 h2 => by omega) h
def shT (k : Nat) (t : TokS) : TokS := ⟨t.k, t.at_ + k, t.t, t.v⟩
theorem lexG_shift (k : Nat) : ∀ (m : Nat) (s : List UInt8) (p : Nat), s.length ≤ m → ∀ ts, lexG p s = (some ts, 0) → lexG (p + k) s = (some (ts.map (shT k)), 0) := by
  intro m
  induction m with
  | zero =>
    intro s p hm ts h
    obtain rfl : s = [] := List.eq_nil_of_length_eq_zero (by omega)
    rw [lexG_nil] at h ⊢
    injection h with h1 h2
    injection h1 with h1
    subst h1; rfl
  | succ m ih =>
    intro s p hm ts h
    rcases s with _ | ⟨c, l⟩
    · rw [lexG_nil] at h ⊢
      injection h with h1 h2
      injection h1 with h1
      subst h1; rfl
    simp only [List.length_cons] at hm
    by_cases hc : c = 32 ∨ c = 10
    · rw [lexG_blank hc] at h ⊢
      rw [show p + k + 1 = p + 1 + k by omega]
      exact ih l (p + 1) (by omega) ts h
    · cases ht : tokL (c :: l) with
      | none => rw [lexG_bad hc ht] at h; cases h
      | some r =>
        obtain ⟨t, n⟩ := r
        rw [lexG_tok hc ht] at h ⊢
        have hn := (tokL_text ht).2
        have hd : ((c :: l).drop n).length ≤ l.length := by rw [List.length_drop]; simp only [List.length_cons]; omega
        unfold putT at h ⊢
        cases hr : lexG (p + n) ((c :: l).drop n) with
        | mk a y =>
          rw [hr] at h
          cases a with
          | none => cases h
          | some us =>
            injection h with h4 h5
            injection h4 with h4
            simp only at h5
            subst h4 h5
            rw [show p + k + n = p + n + k by omega, ih _ (p + n) (by omega) us hr]
            simp [shT]
theorem lexG_join (b : List UInt8) : ∀ (m : Nat) (a : List UInt8) (p : Nat), a.length ≤ m → ∀ (ts us : List TokS), lexG p a = (some ts, 0) → lexG (p + a.length + 1) b = (some us, 0) → lexG p (a ++ 10 :: b) = (some (ts ++ us), 0) := by
  intro m
  induction m with
  | zero =>
    intro a p hm ts us h1 h2
    obtain rfl : a = [] := List.eq_nil_of_length_eq_zero (by omega)
    rw [lexG_nil] at h1
    injection h1 with h3 h4
    injection h3 with h3
    subst h3
    rw [List.nil_append, lexG_blank (.inr rfl)]
    exact h2
  | succ m ih =>
    intro a p hm ts us h1 h2
    rcases a with _ | ⟨c, l⟩
    · rw [lexG_nil] at h1
      injection h1 with h3 h4
      injection h3 with h3
      subst h3
      rw [List.nil_append, lexG_blank (.inr rfl)]
      exact h2
    simp only [List.length_cons] at hm h2
    by_cases hc : c = 32 ∨ c = 10
    · rw [lexG_blank hc] at h1
      rw [List.cons_append, lexG_blank hc]
      exact ih l (p + 1) (by omega) ts us h1 (by rw [show p + 1 + l.length + 1 = p + (l.length + 1) + 1 by omega]; exact h2)
    · cases ht : tokL (c :: l) with
      | none => rw [lexG_bad hc ht] at h1; cases h1
      | some r =>
        obtain ⟨t, n⟩ := r
        rw [lexG_tok hc ht] at h1
        have hn := (tokL_text ht).2
        simp only [List.length_cons] at hn
        have hd : ((c :: l).drop n).length ≤ l.length := by rw [List.length_drop]; simp only [List.length_cons]; omega
        have hap := tokL_app b ht
        rw [List.cons_append] at hap ⊢
        rw [lexG_tok hc hap, ← List.cons_append, List.drop_append, show n - (c :: l).length = 0 by simp only [List.length_cons]; omega, List.drop_zero]
        unfold putT at h1 ⊢
        cases hr : lexG (p + n) ((c :: l).drop n) with
        | mk x y =>
          rw [hr] at h1
          cases x with
          | none => cases h1
          | some vs =>
            injection h1 with h4 h5
            injection h4 with h4
            simp only at h5
            subst h4 h5
            rw [ih _ (p + n) (by omega) vs us hr (by
              rw [List.length_drop]
              simp only [List.length_cons]
              rw [show p + n + (l.length + 1 - n) + 1 = p + (l.length + 1) + 1 by omega]
              exact h2)]
            rfl
end Go.Proofs.YtjgdlocgoiinbaaGreatDoor
namespace Go.Proofs.YtjgdlocgoiinbaaGreatDoor
set_option linter.unusedVariables false
set_option linter.unusedSimpArgs false
open Go.RowKit Go.Lib
theorem tw_stop {p : UInt8 → Bool} {s : List UInt8} : ∀ (m a i : Nat), i - a ≤ m → a ≤ i → i ≤ s.length → (∀ k (hk : k < s.length), a ≤ k → k < i → p s[k] = true) → (∀ hi : i < s.length, p s[i] = false) → (s.drop a).takeWhile p = (s.drop a).take (i - a) := by
  intro m
  induction m with
  | zero =>
    intro a i hm h1 h2 h3 h4
    obtain rfl : i = a := by omega
    rw [Nat.sub_self, List.take_zero]
    by_cases h : i < s.length
    · rw [List.drop_eq_getElem_cons h, List.takeWhile_cons, h4 h]; rfl
    · rw [List.drop_eq_nil_of_le (by omega)]; rfl
  | succ m ih =>
    intro a i hm h1 h2 h3 h4
    by_cases h : a = i
    · subst h
      rw [Nat.sub_self, List.take_zero]
      by_cases h : a < s.length
      · rw [List.drop_eq_getElem_cons h, List.takeWhile_cons, h4 h]; rfl
      · rw [List.drop_eq_nil_of_le (by omega)]; rfl
    · have ha : a < s.length := by omega
      rw [List.drop_eq_getElem_cons ha, List.takeWhile_cons, h3 a ha (Nat.le_refl _) (by omega), show i - a = (i - (a + 1)) + 1 by omega, List.take_succ_cons]
      simp only [if_true]
      rw [ih (a + 1) i (by omega) (by omega) h2 (fun k hk h5 h6 => h3 k hk (by omega) h6) h4]
theorem tw_stop_len {p : UInt8 → Bool} {s : List UInt8} {a i : Nat} (h1 : a ≤ i) (h2 : i ≤ s.length) (h3 : ∀ k (hk : k < s.length), a ≤ k → k < i → p s[k] = true) (h4 : ∀ hi : i < s.length, p s[i] = false) : ((s.drop a).takeWhile p).length = i - a ∧ (s.drop a).dropWhile p = s.drop i := by
  have e := tw_stop (i - a) a i (Nat.le_refl _) h1 h2 h3 h4
  have hl : ((s.drop a).takeWhile p).length = i - a := by rw [e, List.length_take, List.length_drop]; omega
  refine ⟨hl, ?_⟩
  have hc := tw_dw p (s.drop a)
  have hd : (s.drop a).dropWhile p = (s.drop a).drop (i - a) := by
    conv => rhs; rw [← hc]
    rw [← hl, List.drop_left]
  rw [hd, List.drop_drop]
  congr 1; omega
theorem scan_nil {s : List UInt8} {i : Nat} (h : s.length ≤ i) : scanQ (s.drop i) = none := by
  rw [List.drop_eq_nil_of_le h]; rfl
theorem scan_other {s : List UInt8} {i : Nat} (h : i < s.length) (hc : s[i] ≠ 39) : scanQ (s.drop i) = (scanQ (s.drop (i + 1))).map (· + 1) := by
  rw [List.drop_eq_getElem_cons h]
  cases hd : s.drop (i + 1) with
  | nil => simp [scanQ, hc]
  | cons d l => simp [scanQ, hc]
theorem scan_two {s : List UInt8} {i : Nat} (h : i < s.length) (h2 : i + 1 < s.length) (hc : s[i] = 39) (hd : s[i + 1] = 39) : scanQ (s.drop i) = (scanQ (s.drop (i + 2))).map (· + 2) := by
  rw [List.drop_eq_getElem_cons h, List.drop_eq_getElem_cons h2, hc, hd]
  simp [scanQ]
theorem scan_end {s : List UInt8} {i : Nat} (h : i < s.length) (hc : s[i] = 39) (hd : ∀ h2 : i + 1 < s.length, s[i + 1] ≠ 39) : scanQ (s.drop i) = some 1 := by
  rw [List.drop_eq_getElem_cons h, hc]
  by_cases h2 : i + 1 < s.length
  · rw [List.drop_eq_getElem_cons h2]
    simp [scanQ, hd h2]
  · rw [List.drop_eq_nil_of_le (by omega)]
    simp [scanQ]
def ScanI (s : List UInt8) (a i : Nat) : Prop := a ≤ i ∧ i ≤ s.length + 1 ∧ scanQ (s.drop a) = (scanQ (s.drop i)).map (· + (i - a))
theorem ScanI.start (s : List UInt8) {a : Nat} (h : a ≤ s.length + 1) : ScanI s a a := ⟨Nat.le_refl _, h, by simp⟩
theorem ScanI.other {s : List UInt8} {a i : Nat} (h : ScanI s a i) (hi : i < s.length) (hc : s[i] ≠ 39) : ScanI s a (i + 1) := by
  obtain ⟨h1, h2, h3⟩ := h
  refine ⟨by omega, by omega, ?_⟩
  rw [h3, scan_other hi hc, Option.map_map]
  congr 1; funext x; simp only [Function.comp]; omega
theorem ScanI.two {s : List UInt8} {a i : Nat} (h : ScanI s a i) (hi : i < s.length) (h2 : i + 1 < s.length) (hc : s[i] = 39) (hd : s[i + 1] = 39) : ScanI s a (i + 2) := by
  obtain ⟨h1, h5, h3⟩ := h
  refine ⟨by omega, by omega, ?_⟩
  rw [h3, scan_two hi h2 hc hd, Option.map_map]
  congr 1; funext x; simp only [Function.comp]; omega
theorem ScanI.fin {s : List UInt8} {a i : Nat} (h : ScanI s a i) (hi : i < s.length) (hc : s[i] = 39) (hd : ∀ h2 : i + 1 < s.length, s[i + 1] ≠ 39) : scanQ (s.drop a) = some (i - a + 1) := by
  rw [h.2.2, scan_end hi hc hd]
  simp only [Option.map_some]
  congr 1; omega
theorem ScanI.none {s : List UInt8} {a i : Nat} (h : ScanI s a i) (hi : s.length ≤ i) : scanQ (s.drop a) = Option.none := by
  rw [h.2.2, scan_nil hi]; rfl
def LexI (s : List UInt8) (p : Nat) (acc : List TokS) : Prop := p ≤ s.length ∧ lexG 0 s = ((lexG p (s.drop p)).1.map (acc ++ ·), (lexG p (s.drop p)).2)
theorem LexI.start (s : List UInt8) : LexI s 0 [] := ⟨Nat.zero_le _, by
  rw [List.drop_zero]
  cases lexG 0 s with
  | mk a e => cases a <;> rfl⟩
theorem LexI.blank {s : List UInt8} {p : Nat} {acc : List TokS} (h : LexI s p acc) (hp : p < s.length) (hc : s[p] = 32 ∨ s[p] = 10) : LexI s (p + 1) acc := by
  refine ⟨by omega, ?_⟩
  rw [h.2, List.drop_eq_getElem_cons hp, lexG_blank hc]
theorem LexI.tok {s : List UInt8} {p : Nat} {acc : List TokS} (h : LexI s p acc) (hp : p < s.length) (hc : ¬ (s[p] = 32 ∨ s[p] = 10)) {t : TokS} {n : Nat} (ht : tokL (s.drop p) = some (t, n)) : LexI s (p + n) (acc ++ [⟨t.k, p, t.t, t.v⟩]) := by
  have hn := (tokL_text ht).2
  rw [List.length_drop] at hn
  refine ⟨by omega, ?_⟩
  have hd := List.drop_eq_getElem_cons hp
  rw [hd] at ht
  rw [h.2, hd, lexG_tok hc ht, ← hd, List.drop_drop]
  unfold putT
  cases lexG (p + n) (s.drop (p + n)) with
  | mk a e => cases a <;> simp
theorem LexI.bad {s : List UInt8} {p : Nat} {acc : List TokS} (h : LexI s p acc) (hp : p < s.length) (hc : ¬ (s[p] = 32 ∨ s[p] = 10)) (ht : tokL (s.drop p) = none) : lexG 0 s = (none, p) := by
  have hd := List.drop_eq_getElem_cons hp
  rw [hd] at ht
  rw [h.2, hd, lexG_bad hc ht]; rfl
theorem LexI.fin {s : List UInt8} {p : Nat} {acc : List TokS} (h : LexI s p acc) (hp : ¬ p < s.length) : lexG 0 s = (some acc, 0) := by
  rw [h.2, List.drop_eq_nil_of_le (by omega), lexG_nil]; simp
end Go.Proofs.YtjgdlocgoiinbaaGreatDoor
