import Derived.Test.YtlepkpfbejfpiaaDoorYU
namespace Go.Proofs.YtlepkpfbejfpiaaDoor
set_option linter.unusedVariables false
set_option linter.unusedSimpArgs false
open Go.RowKit
/-! ## What the reference asks of a statement, in its order; it is what the program asks -/
structure LenP (s : StmtS) : Prop where
  a1 : s.names.length ≤ 20
  a2 : s.cols.length ≤ 20
  a3 : s.rows.length ≤ 50
  a4 : s.sets.length ≤ 20
  a5 : s.wher.length ≤ 1
  a6 : s.items.length ≤ 20
  a7 : s.from_.length ≤ 20
  a8 : s.on_.length ≤ 1
  a9 : s.group.length ≤ 20
  a10 : s.order.length ≤ 20
def named (k : Int) : Prop := k = 1 ∨ k = 2 ∨ k = 4 ∨ k = 5
instance (k : Int) : Decidable (named k) := inferInstanceAs (Decidable (k = 1 ∨ k = 2 ∨ k = 4 ∨ k = 5))
def colK (k : Int) (c : ColS) : Bool := if k = 5 then colEq c (typeCol c.ty) && typOk c.ty else colOk c
structure RightP (s : StmtS) : Prop where
  k0 : 0 ≤ s.kind
  k9 : s.kind ≤ 9
  len : LenP s
  t1 : s.kind = 9 ↔ s.tab = { data := #[] }
  t2 : s.kind ≠ 9 → nameOk s.tab = true
  n1 : named s.kind ↔ ¬ s.name = { data := #[] }
  n2 : named s.kind → nameOk s.name = true
  n3 : s.uniq = true → s.kind = 1
  l1 : (s.kind = 1 ∨ s.kind = 6) ↔ 0 < s.names.length
  l2 : ∀ x ∈ s.names, nameOk x = true
  c1 : (s.kind = 0 ∨ s.kind = 3 ∨ s.kind = 5) ↔ 0 < s.cols.length
  c2 : (s.kind = 3 ∨ s.kind = 5) → s.cols.length = 1
  c3 : ∀ c ∈ s.cols, colK s.kind c = true
  r1 : s.kind = 6 ↔ 0 < s.rows.length
  r2 : s.kind = 7 ↔ 0 < s.sets.length
  r3 : 0 < s.wher.length → 7 ≤ s.kind
  r4 : ∀ r ∈ s.rows, r.length = s.names.length
  r5 : ∀ x ∈ s.sets, nameOk x.name = true
  q1 : s.kind ≠ 9 → s.items.length + s.from_.length + s.on_.length + s.group.length + s.order.length = 0
  q2 : s.kind ≠ 9 → s.limit = -1
  q3 : s.kind = 9 → s.from_.length = 1 + s.on_.length
  q4 : s.kind = 9 → -1 ≤ s.limit ∧ s.limit ≤ 1000000
  f1 : ∀ x ∈ s.from_, srcOk x = true
  f2 : ∀ x ∈ s.items, optOk x.as_ = true
  e1 : ∀ x ∈ exprsS s, rightE 0 x = true
theorem eqL_ite {α : Type} {p : α → α → Bool} {l : List α} {c : Prop} [Decidable c] (hp : ∀ x ∈ l, p x x = true) : eqL p l (if c then l else []) = true ↔ (¬ c → l = []) := by
  by_cases hc : c
  · simp [hc, eqL_refl hp]
  · cases l <;> simp [hc, eqL]
theorem setEq_refl (x : SetS) : setEq x x = true := by simp [setEq, sameE_refl]
theorem itemEq_refl (x : ItemS) : itemEq x x = true := by simp [itemEq, sameE_refl]
theorem ordEq_refl (x : OrdS) : ordEq x x = true := by simp [ordEq, sameE_refl]
theorem colEq_refl (x : ColS) : colEq x x = true := by simp [colEq]
theorem srcEq_refl (x : SrcS) : srcEq x x = true := by simp [srcEq]
theorem strEq_refl (x : ByteArray) : strEq x x = true := by simp [strEq]
theorem same_bare (s : StmtS) : sameS s (bareS s) = true ↔ ((s.kind = 9 → s.tab = ByteArray.empty) ∧ (¬ (s.kind = 1 ∨ s.kind = 2 ∨ s.kind = 4 ∨ s.kind = 5) → s.name = ByteArray.empty) ∧ (s.kind ≠ 1 → s.uniq = false) ∧ (s.kind ≠ 9 → s.limit = -1)) ∧
    (¬ (s.kind = 1 ∨ s.kind = 6) → s.names = []) ∧ (¬ (s.kind = 0 ∨ s.kind = 3 ∨ s.kind = 5) → s.cols = []) ∧ (¬ s.kind = 9 → s.from_ = []) ∧ (¬ s.kind = 6 → s.rows = []) ∧ (¬ (s.kind = 7 ∨ s.kind = 8 ∨ s.kind = 9) → s.wher = []) ∧ (¬ s.kind = 9 → s.on_ = []) ∧ (¬ s.kind = 9 → s.group = []) ∧ (¬ s.kind = 7 → s.sets = []) ∧ (¬ s.kind = 9 → s.items = []) ∧ (¬ s.kind = 9 → s.order = []) := by
  have hh : headEq s (bareS s) = true ↔ (s.kind = 9 → s.tab = ByteArray.empty) ∧ (¬ (s.kind = 1 ∨ s.kind = 2 ∨ s.kind = 4 ∨ s.kind = 5) → s.name = ByteArray.empty) ∧ (s.kind ≠ 1 → s.uniq = false) ∧ (s.kind ≠ 9 → s.limit = -1) := by
    have e0 : (bareS s).kind = s.kind := rfl
    have e1 : (bareS s).tab = if s.kind = 9 then ByteArray.empty else s.tab := rfl
    have e2 : (bareS s).name = if s.kind = 1 ∨ s.kind = 2 ∨ s.kind = 4 ∨ s.kind = 5 then s.name else ByteArray.empty := rfl
    have e3 : (bareS s).uniq = if s.kind = 1 then s.uniq else false := rfl
    have e4 : (bareS s).limit = if s.kind = 9 then s.limit else -1 := rfl
    simp only [headEq, Bool.and_eq_true, decide_eq_true_eq]
    rw [e0, e1, e2, e3, e4]
    constructor
    · rintro ⟨⟨⟨⟨_, h1⟩, h2⟩, h3⟩, h4⟩
      refine ⟨fun h => by rwa [if_pos h] at h1, fun h => by rwa [if_neg h] at h2, fun h => by rwa [if_neg h] at h3, fun h => by rwa [if_neg h] at h4⟩
    · rintro ⟨h1, h2, h3, h4⟩
      refine ⟨⟨⟨⟨rfl, ?_⟩, ?_⟩, ?_⟩, ?_⟩
      · split <;> simp_all
      · split <;> simp_all
      · split <;> simp_all
      · split <;> simp_all
  have e0 : ∀ r ∈ s.rows, eqL (sameE false) r r = true := fun r _ => eqL_refl fun x _ => sameE_refl false x
  unfold sameS
  simp only [Bool.and_eq_true, hh]
  simp only [bareS]
  rw [eqL_ite fun x _ => strEq_refl x, eqL_ite fun x _ => colEq_refl x, eqL_ite fun x _ => srcEq_refl x, eqL_ite e0, eqL_ite fun x _ => sameE_refl false x, eqL_ite fun x _ => sameE_refl false x, eqL_ite fun x _ => sameE_refl false x, eqL_ite fun x _ => setEq_refl x, eqL_ite fun x _ => itemEq_refl x, eqL_ite fun x _ => ordEq_refl x]
  simp only [and_assoc]
theorem any_not {α : Type} {p : α → Bool} {l : List α} : (!(l.any fun x => !p x)) = true ↔ ∀ x ∈ l, p x = true := by
  simp
theorem name_ne {s : ByteArray} (h : nameOk s = true) : ¬ s = { data := #[] } := by
  intro e
  rw [e] at h
  exact absurd h (by decide)
theorem short_iff (s : StmtS) : shortOk s = true ↔ LenP s := by
  simp only [shortOk, decide_eq_true_eq]
  exact ⟨fun ⟨b1, b2, b3, b4, b5, b6, b7, b8, b9, b10⟩ => ⟨b1, b2, b8, b3, b9, b4, b5, b10, b6, b7⟩, fun ⟨b1, b2, b3, b4, b5, b6, b7, b8, b9, b10⟩ => ⟨b1, b2, b4, b6, b7, b9, b10, b3, b5, b8⟩⟩
theorem one_iff {p : ColS → Bool} {l : List ColS} : oneCol p l = true ↔ l.length = 1 ∧ ∀ c ∈ l, p c = true := by
  rcases l with _ | ⟨c, _ | ⟨d, l⟩⟩ <;> simp [oneCol]
end Go.Proofs.YtlepkpfbejfpiaaDoor
namespace Go.Proofs.YtlepkpfbejfpiaaDoor
set_option linter.unusedVariables false
set_option linter.unusedSimpArgs false
open Go.RowKit
/-- the program's Right and the reference's conditions -/
theorem right_iff (s : StmtS) : rightS s = true ↔ RightP s := by
  have hem : ByteArray.empty = { data := #[] } := rfl
  have lz : ∀ {α : Type} {l : List α}, l = [] ↔ l.length = 0 := List.length_eq_zero_iff.symm
  have vac : ∀ {α : Type} {l : List α} {p : α → Prop}, l.length = 0 → ∀ x ∈ l, p x := fun h x hx => by have := List.length_pos_of_mem hx; omega
  unfold rightS
  rw [Bool.and_eq_true, Bool.and_eq_true, Bool.and_eq_true, short_iff, same_bare, any_not]
  simp only [hem, lz]
  constructor
  · rintro ⟨⟨⟨hl, hp⟩, ⟨s1, s2, s3, s4⟩, s5, s6, s7, s8, s9, s10, s11, s12, s13, s14⟩, he⟩
    clear lz hem
    have hn := @name_ne s.tab
    have hn' := @name_ne s.name
    by_cases k0 : s.kind = 0
    · simp only [partsOk, k0] at hp s1 s2 s3 s4 s5 s6 s7 s8 s9 s10 s11 s12 s13 s14
      simp at hp s1 s2 s3 s4 s5 s6 s7 s8 s9 s10 s11 s12 s13 s14
      try simp only [namesOk, selS, selHead, Bool.and_eq_true, one_iff, decide_eq_true_eq, any_not] at hp
      have h5 : s.kind = 5 → nameOk s.name = true := fun h => by
        first | omega | (obtain ⟨c, hc⟩ := List.exists_mem_of_length_pos (l := s.cols) (by omega); have := hp.2.2 c hc; grind)
      refine ⟨by omega, by omega, hl, ?_, ?_, ?_, ?_, ?_, ?_, ?_, ?_, ?_, ?_, ?_, ?_, ?_, ?_, ?_, ?_, ?_, ?_, ?_, ?_, ?_, he⟩ <;> first | (exact vac (by assumption)) | (simp [named, colK, k0]; done) | (simp [named, colK, k0]; omega) | (simp_all [named, colK]; done) | grind [named, colK] | (simp_all [named, colK]; omega) | skip
    by_cases k1 : s.kind = 1
    · simp only [partsOk, k1] at hp s1 s2 s3 s4 s5 s6 s7 s8 s9 s10 s11 s12 s13 s14
      simp at hp s1 s2 s3 s4 s5 s6 s7 s8 s9 s10 s11 s12 s13 s14
      try simp only [namesOk, selS, selHead, Bool.and_eq_true, one_iff, decide_eq_true_eq, any_not] at hp
      have h5 : s.kind = 5 → nameOk s.name = true := fun h => by
        first | omega | (obtain ⟨c, hc⟩ := List.exists_mem_of_length_pos (l := s.cols) (by omega); have := hp.2.2 c hc; grind)
      refine ⟨by omega, by omega, hl, ?_, ?_, ?_, ?_, ?_, ?_, ?_, ?_, ?_, ?_, ?_, ?_, ?_, ?_, ?_, ?_, ?_, ?_, ?_, ?_, ?_, he⟩ <;> first | (exact vac (by assumption)) | (simp [named, colK, k1]; done) | (simp [named, colK, k1]; omega) | (simp_all [named, colK]; done) | grind [named, colK] | (simp_all [named, colK]; omega) | skip
    by_cases k2 : s.kind = 2
    · simp only [partsOk, k2] at hp s1 s2 s3 s4 s5 s6 s7 s8 s9 s10 s11 s12 s13 s14
      simp at hp s1 s2 s3 s4 s5 s6 s7 s8 s9 s10 s11 s12 s13 s14
      try simp only [namesOk, selS, selHead, Bool.and_eq_true, one_iff, decide_eq_true_eq, any_not] at hp
      have h5 : s.kind = 5 → nameOk s.name = true := fun h => by
        first | omega | (obtain ⟨c, hc⟩ := List.exists_mem_of_length_pos (l := s.cols) (by omega); have := hp.2.2 c hc; grind)
      refine ⟨by omega, by omega, hl, ?_, ?_, ?_, ?_, ?_, ?_, ?_, ?_, ?_, ?_, ?_, ?_, ?_, ?_, ?_, ?_, ?_, ?_, ?_, ?_, ?_, he⟩ <;> first | (exact vac (by assumption)) | (simp [named, colK, k2]; done) | (simp [named, colK, k2]; omega) | (simp_all [named, colK]; done) | grind [named, colK] | (simp_all [named, colK]; omega) | skip
    by_cases k3 : s.kind = 3
    · simp only [partsOk, k3] at hp s1 s2 s3 s4 s5 s6 s7 s8 s9 s10 s11 s12 s13 s14
      simp at hp s1 s2 s3 s4 s5 s6 s7 s8 s9 s10 s11 s12 s13 s14
      try simp only [namesOk, selS, selHead, Bool.and_eq_true, one_iff, decide_eq_true_eq, any_not] at hp
      have h5 : s.kind = 5 → nameOk s.name = true := fun h => by
        first | omega | (obtain ⟨c, hc⟩ := List.exists_mem_of_length_pos (l := s.cols) (by omega); have := hp.2.2 c hc; grind)
      refine ⟨by omega, by omega, hl, ?_, ?_, ?_, ?_, ?_, ?_, ?_, ?_, ?_, ?_, ?_, ?_, ?_, ?_, ?_, ?_, ?_, ?_, ?_, ?_, ?_, he⟩ <;> first | (exact vac (by assumption)) | (simp [named, colK, k3]; done) | (simp [named, colK, k3]; omega) | (simp_all [named, colK]; done) | grind [named, colK] | (simp_all [named, colK]; omega) | skip
    by_cases k4 : s.kind = 4
    · simp only [partsOk, k4] at hp s1 s2 s3 s4 s5 s6 s7 s8 s9 s10 s11 s12 s13 s14
      simp at hp s1 s2 s3 s4 s5 s6 s7 s8 s9 s10 s11 s12 s13 s14
      try simp only [namesOk, selS, selHead, Bool.and_eq_true, one_iff, decide_eq_true_eq, any_not] at hp
      have h5 : s.kind = 5 → nameOk s.name = true := fun h => by
        first | omega | (obtain ⟨c, hc⟩ := List.exists_mem_of_length_pos (l := s.cols) (by omega); have := hp.2.2 c hc; grind)
      refine ⟨by omega, by omega, hl, ?_, ?_, ?_, ?_, ?_, ?_, ?_, ?_, ?_, ?_, ?_, ?_, ?_, ?_, ?_, ?_, ?_, ?_, ?_, ?_, ?_, he⟩ <;> first | (exact vac (by assumption)) | (simp [named, colK, k4]; done) | (simp [named, colK, k4]; omega) | (simp_all [named, colK]; done) | grind [named, colK] | (simp_all [named, colK]; omega) | skip
    by_cases k5 : s.kind = 5
    · simp only [partsOk, k5] at hp s1 s2 s3 s4 s5 s6 s7 s8 s9 s10 s11 s12 s13 s14
      simp at hp s1 s2 s3 s4 s5 s6 s7 s8 s9 s10 s11 s12 s13 s14
      try simp only [namesOk, selS, selHead, Bool.and_eq_true, one_iff, decide_eq_true_eq, any_not] at hp
      have h5 : s.kind = 5 → nameOk s.name = true := fun h => by
        first | omega | (obtain ⟨c, hc⟩ := List.exists_mem_of_length_pos (l := s.cols) (by omega); have := hp.2.2 c hc; grind)
      refine ⟨by omega, by omega, hl, ?_, ?_, ?_, ?_, ?_, ?_, ?_, ?_, ?_, ?_, ?_, ?_, ?_, ?_, ?_, ?_, ?_, ?_, ?_, ?_, ?_, he⟩ <;> first | (exact vac (by assumption)) | (simp [named, colK, k5]; done) | (simp [named, colK, k5]; omega) | (simp_all [named, colK]; done) | grind [named, colK] | (simp_all [named, colK]; omega) | skip
    by_cases k6 : s.kind = 6
    · simp only [partsOk, k6] at hp s1 s2 s3 s4 s5 s6 s7 s8 s9 s10 s11 s12 s13 s14
      simp at hp s1 s2 s3 s4 s5 s6 s7 s8 s9 s10 s11 s12 s13 s14
      try simp only [namesOk, selS, selHead, Bool.and_eq_true, one_iff, decide_eq_true_eq, any_not] at hp
      have h5 : s.kind = 5 → nameOk s.name = true := fun h => by
        first | omega | (obtain ⟨c, hc⟩ := List.exists_mem_of_length_pos (l := s.cols) (by omega); have := hp.2.2 c hc; grind)
      refine ⟨by omega, by omega, hl, ?_, ?_, ?_, ?_, ?_, ?_, ?_, ?_, ?_, ?_, ?_, ?_, ?_, ?_, ?_, ?_, ?_, ?_, ?_, ?_, ?_, he⟩ <;> first | (exact vac (by assumption)) | (simp [named, colK, k6]; done) | (simp [named, colK, k6]; omega) | (simp_all [named, colK]; done) | grind [named, colK] | (simp_all [named, colK]; omega) | skip
    by_cases k7 : s.kind = 7
    · simp only [partsOk, k7] at hp s1 s2 s3 s4 s5 s6 s7 s8 s9 s10 s11 s12 s13 s14
      simp at hp s1 s2 s3 s4 s5 s6 s7 s8 s9 s10 s11 s12 s13 s14
      try simp only [namesOk, selS, selHead, Bool.and_eq_true, one_iff, decide_eq_true_eq, any_not] at hp
      have h5 : s.kind = 5 → nameOk s.name = true := fun h => by
        first | omega | (obtain ⟨c, hc⟩ := List.exists_mem_of_length_pos (l := s.cols) (by omega); have := hp.2.2 c hc; grind)
      refine ⟨by omega, by omega, hl, ?_, ?_, ?_, ?_, ?_, ?_, ?_, ?_, ?_, ?_, ?_, ?_, ?_, ?_, ?_, ?_, ?_, ?_, ?_, ?_, ?_, he⟩ <;> first | (exact vac (by assumption)) | (simp [named, colK, k7]; done) | (simp [named, colK, k7]; omega) | (simp_all [named, colK]; done) | grind [named, colK] | (simp_all [named, colK]; omega) | skip
    by_cases k8 : s.kind = 8
    · simp only [partsOk, k8] at hp s1 s2 s3 s4 s5 s6 s7 s8 s9 s10 s11 s12 s13 s14
      simp at hp s1 s2 s3 s4 s5 s6 s7 s8 s9 s10 s11 s12 s13 s14
      try simp only [namesOk, selS, selHead, Bool.and_eq_true, one_iff, decide_eq_true_eq, any_not] at hp
      have h5 : s.kind = 5 → nameOk s.name = true := fun h => by
        first | omega | (obtain ⟨c, hc⟩ := List.exists_mem_of_length_pos (l := s.cols) (by omega); have := hp.2.2 c hc; grind)
      refine ⟨by omega, by omega, hl, ?_, ?_, ?_, ?_, ?_, ?_, ?_, ?_, ?_, ?_, ?_, ?_, ?_, ?_, ?_, ?_, ?_, ?_, ?_, ?_, ?_, he⟩ <;> first | (exact vac (by assumption)) | (simp [named, colK, k8]; done) | (simp [named, colK, k8]; omega) | (simp_all [named, colK]; done) | grind [named, colK] | (simp_all [named, colK]; omega) | skip
    by_cases k9 : s.kind = 9
    · simp only [partsOk, k9] at hp s1 s2 s3 s4 s5 s6 s7 s8 s9 s10 s11 s12 s13 s14
      simp at hp s1 s2 s3 s4 s5 s6 s7 s8 s9 s10 s11 s12 s13 s14
      try simp only [namesOk, selS, selHead, Bool.and_eq_true, one_iff, decide_eq_true_eq, any_not] at hp
      have h5 : s.kind = 5 → nameOk s.name = true := fun h => by
        first | omega | (obtain ⟨c, hc⟩ := List.exists_mem_of_length_pos (l := s.cols) (by omega); have := hp.2.2 c hc; grind)
      refine ⟨by omega, by omega, hl, ?_, ?_, ?_, ?_, ?_, ?_, ?_, ?_, ?_, ?_, ?_, ?_, ?_, ?_, ?_, ?_, ?_, ?_, ?_, ?_, ?_, he⟩ <;> first | (exact vac (by assumption)) | (simp [named, colK, k9]; done) | (simp [named, colK, k9]; omega) | (simp_all [named, colK]; done) | grind [named, colK] | (simp_all [named, colK]; omega) | skip
    simp [partsOk, k0, k1, k2, k3, k4, k5, k6, k7, k8, k9] at hp
  · rintro ⟨k0, k9, hl, t1, t2, n1, n2, n3, l1, l2, c1, c2, c3, r1, r2, r3, r4, r5, q1, q2, q3, q4, f1, f2, he⟩
    clear lz hem vac
    refine ⟨⟨⟨hl, ?_⟩, ⟨?_, ?_, ?_, ?_⟩, ?_, ?_, ?_, ?_, ?_, ?_, ?_, ?_, ?_, ?_⟩, he⟩
    · have hk : s.kind = 0 ∨ s.kind = 1 ∨ s.kind = 2 ∨ s.kind = 3 ∨ s.kind = 4 ∨ s.kind = 5 ∨ s.kind = 6 ∨ s.kind = 7 ∨ s.kind = 8 ∨ s.kind = 9 := by omega
      rcases hk with hk | hk | hk | hk | hk | hk | hk | hk | hk | hk
      · simp [hk, colK, named] at t1 t2 n1 n2 n3 l1 l2 c1 c2 c3 r1 r2 r3 q1 q2 q3 q4
        simp only [partsOk, hk]
        simp
        try simp only [namesOk, selS, selHead, Bool.and_eq_true, one_iff, decide_eq_true_eq, any_not]
        first | (refine ⟨⟨⟨by have := hl.a8; omega, q4⟩, List.all_eq_true.2 f1⟩, f2⟩; done) | (simp_all; done) | grind | (simp_all; omega) | skip
      · simp [hk, colK, named] at t1 t2 n1 n2 n3 l1 l2 c1 c2 c3 r1 r2 r3 q1 q2 q3 q4
        simp only [partsOk, hk]
        simp
        try simp only [namesOk, selS, selHead, Bool.and_eq_true, one_iff, decide_eq_true_eq, any_not]
        first | (refine ⟨⟨⟨by have := hl.a8; omega, q4⟩, List.all_eq_true.2 f1⟩, f2⟩; done) | (simp_all; done) | grind | (simp_all; omega) | skip
      · simp [hk, colK, named] at t1 t2 n1 n2 n3 l1 l2 c1 c2 c3 r1 r2 r3 q1 q2 q3 q4
        simp only [partsOk, hk]
        simp
        try simp only [namesOk, selS, selHead, Bool.and_eq_true, one_iff, decide_eq_true_eq, any_not]
        first | (refine ⟨⟨⟨by have := hl.a8; omega, q4⟩, List.all_eq_true.2 f1⟩, f2⟩; done) | (simp_all; done) | grind | (simp_all; omega) | skip
      · simp [hk, colK, named] at t1 t2 n1 n2 n3 l1 l2 c1 c2 c3 r1 r2 r3 q1 q2 q3 q4
        simp only [partsOk, hk]
        simp
        try simp only [namesOk, selS, selHead, Bool.and_eq_true, one_iff, decide_eq_true_eq, any_not]
        first | (refine ⟨⟨⟨by have := hl.a8; omega, q4⟩, List.all_eq_true.2 f1⟩, f2⟩; done) | (simp_all; done) | grind | (simp_all; omega) | skip
      · simp [hk, colK, named] at t1 t2 n1 n2 n3 l1 l2 c1 c2 c3 r1 r2 r3 q1 q2 q3 q4
        simp only [partsOk, hk]
        simp
        try simp only [namesOk, selS, selHead, Bool.and_eq_true, one_iff, decide_eq_true_eq, any_not]
        first | (refine ⟨⟨⟨by have := hl.a8; omega, q4⟩, List.all_eq_true.2 f1⟩, f2⟩; done) | (simp_all; done) | grind | (simp_all; omega) | skip
      · simp [hk, colK, named] at t1 t2 n1 n2 n3 l1 l2 c1 c2 c3 r1 r2 r3 q1 q2 q3 q4
        simp only [partsOk, hk]
        simp
        try simp only [namesOk, selS, selHead, Bool.and_eq_true, one_iff, decide_eq_true_eq, any_not]
        first | (refine ⟨⟨⟨by have := hl.a8; omega, q4⟩, List.all_eq_true.2 f1⟩, f2⟩; done) | (simp_all; done) | grind | (simp_all; omega) | skip
      · simp [hk, colK, named] at t1 t2 n1 n2 n3 l1 l2 c1 c2 c3 r1 r2 r3 q1 q2 q3 q4
        simp only [partsOk, hk]
        simp
        try simp only [namesOk, selS, selHead, Bool.and_eq_true, one_iff, decide_eq_true_eq, any_not]
        first | (refine ⟨⟨⟨by have := hl.a8; omega, q4⟩, List.all_eq_true.2 f1⟩, f2⟩; done) | (simp_all; done) | grind | (simp_all; omega) | skip
      · simp [hk, colK, named] at t1 t2 n1 n2 n3 l1 l2 c1 c2 c3 r1 r2 r3 q1 q2 q3 q4
        simp only [partsOk, hk]
        simp
        try simp only [namesOk, selS, selHead, Bool.and_eq_true, one_iff, decide_eq_true_eq, any_not]
        first | (refine ⟨⟨⟨by have := hl.a8; omega, q4⟩, List.all_eq_true.2 f1⟩, f2⟩; done) | (simp_all; done) | grind | (simp_all; omega) | skip
      · simp [hk, colK, named] at t1 t2 n1 n2 n3 l1 l2 c1 c2 c3 r1 r2 r3 q1 q2 q3 q4
        simp only [partsOk, hk]
        simp
        try simp only [namesOk, selS, selHead, Bool.and_eq_true, one_iff, decide_eq_true_eq, any_not]
        first | (refine ⟨⟨⟨by have := hl.a8; omega, q4⟩, List.all_eq_true.2 f1⟩, f2⟩; done) | (simp_all; done) | grind | (simp_all; omega) | skip
      · simp [hk, colK, named] at t1 t2 n1 n2 n3 l1 l2 c1 c2 c3 r1 r2 r3 q1 q2 q3 q4
        simp only [partsOk, hk]
        simp
        try simp only [namesOk, selS, selHead, Bool.and_eq_true, one_iff, decide_eq_true_eq, any_not]
        first | (refine ⟨⟨⟨by have := hl.a8; omega, q4⟩, List.all_eq_true.2 f1⟩, f2⟩; done) | (simp_all; done) | grind | (simp_all; omega) | skip
    all_goals first | grind [named] | omega | (simp_all [named]; done) | skip
end Go.Proofs.YtlepkpfbejfpiaaDoor
namespace Go.Proofs.YtlepkpfbejfpiaaDoor
set_option linter.unusedVariables false
set_option linter.unusedSimpArgs false
open Go.RowKit
attribute [local simp] isCut_nil isCut_region isCut_seq isCut_block isCut_loop isCut_cond isCut_skip isCut_exit isCut_ret isCut_range swapK putK altK condK_bool pickP_bool stepP stepO onPure_some onPure_none onImpl_some onImpl_none stepC onGP_some onGP_none onGV_some condG mkG onIt_it nextP_ptr takeP_eq takeV_some takeV_none takeU_some takeU_none takeQ takeW_some takeN_none takeN_some takeG_some takeO_some altO_some pureV binV2 eqF eqOp ovlV ovl2 rowAt capV binV intBin strBin isSh shV fldV ixV sliceV slice3V loadAV nilV lenV callV unV convV viewS cellsH loadV fldCut AV.ung AV.ungs AV.gc AV.cells AS.ev AS.put anyS gcsV lens lnO gV guardV retK RetP_eq resV oneV anyRo loIx hiIx implO callP_clo evL gcsL clearV storeAV AS.push AS.setO appV appZ shortS copyV buildV partsV fillV srcV fzO okV isCell_c isCell_ptr isCell_sl isCell_fs isCell_fp isCell_clo rowZ_one rowZ_zero rowZ_2 rowZ_3 rowZ_4 rowZ_5 rowZ_6 rowZ_7 rowZ_8 rowZ_9 rowZ_10 rowZ_11 rowZ_12 noHo Value.oneCell' max2V min2V afterH putBack frzFrom frzO rebO backIx nilEq_sl nilEq_fs nilOp_eql nilOp_neq AV.reb AV.rebL
attribute [local simp ↓] runK_skip runK_region runK_draw runK_seq runK_cut runK_cond runK_block runK_loop runK_exit runK_label runK_goto runK_ret runK_range contK_nil contK_seq contK_seq_ret contK_seq_exit contK_seq_goto contK_block contK_block_ret contK_block_goto contK_block_exit runO_nil runO_cons roundK_exit roundK_ret roundK_goto exitK_ret cutK_ret cutK_exit runE_done runE_nil runE_take runE_alt condG_true condG_false
set_option maxRecDepth 10000
/-! ## refitref18.Right -/
def rowP (s : StmtS) (r : List ExprS) : Bool := decide (r.length = s.names.length)
theorem noR {s : StmtS} (f : RightP s → False) : rightS s = false := Bool.eq_false_iff.2 fun e => f ((right_iff s).1 e)
set_option maxHeartbeats 8000000 in
theorem colRef_w (c : ColS) (hc : Col9 c) : ACalls Tryd.prog 33 [.agg (colA c)] [] (fun _ => false) (fun r h' => r = .c (.bool (colOk c)) ∧ h' = []) := by
  refine acalls mixed Tryd.func33 rfl Tryd.ntmps33 rfl fun E hE hst hho => ?_
  have c1 := name_refB c.name hc.1
  have c2 := of_ref c.dft c.ty hc.2
  obtain ⟨B1, h1⟩ : ∃ B, B = nameOk c.name := ⟨_, rfl⟩
  obtain ⟨B2, h2⟩ : ∃ B, B = ofOk c.dft c.ty := ⟨_, rfl⟩
  rw [← h1] at c1
  rw [← h2] at c2
  have hT : (typOk c.ty && B2) = B2 := by rw [h2, ofOk]; cases typOk c.ty <;> simp
  have hR : colOk c = (decide (c.id = 0) && decide (c.st = 0) && B1 && B2) := by rw [colOk, ← h1, ← h2, Bool.and_assoc _ (typOk c.ty), hT]
  rw [hR]
  clear hR hT h1 h2
  by_cases hi : c.id = 0
  · by_cases hs : c.st = 0
    · simp (maxSteps := 1000000) [hho, noHo, colA, hi, hs, undef, onGP_none, condG_false, -List.reduceReplicate]
      refine call_x [] c1 rfl rfl ⟨rfl, rfl⟩ hho (by simp) (by decide) (by simp) (by simp) ?_
      cases B1 with
      | false =>
        simp (maxSteps := 1000000) [hho, noHo, undef, onGP_none, condG_false, -List.reduceReplicate]
        exact Ret.drop (by rfl) ⟨by simp [hi, hs], rfl⟩
      | true =>
        simp (maxSteps := 1000000) [hho, noHo, undef, onGP_none, condG_false, -List.reduceReplicate]
        refine call_x [] c2 rfl rfl ⟨rfl, rfl⟩ hho (by simp) (by decide) (by simp) (by simp) ?_
        simp (maxSteps := 1000000) [hho, noHo, undef, onGP_none, condG_false, -List.reduceReplicate]
        exact Ret.drop (by rfl) ⟨by simp [hi, hs], rfl⟩
    · simp (maxSteps := 1000000) [hho, noHo, colA, hi, hs, undef, onGP_none, condG_false, -List.reduceReplicate]
      exact Ret.drop (by rfl) ⟨by simp [hs], rfl⟩
  · simp (maxSteps := 1000000) [hho, noHo, colA, hi, undef, onGP_none, condG_false, -List.reduceReplicate]
    exact Ret.drop (by rfl) ⟨by simp [hi], rfl⟩
end Go.Proofs.YtlepkpfbejfpiaaDoor
