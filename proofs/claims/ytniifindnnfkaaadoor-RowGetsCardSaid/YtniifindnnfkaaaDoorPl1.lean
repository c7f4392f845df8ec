import Derived.Test.YtniifindnnfkaaaDoorNum
namespace Go.Proofs.YtniifindnnfkaaaDoor
set_option linter.unusedVariables false
set_option linter.unusedSimpArgs false
open Go.RowKit

/-! ### the plain laws of numbers as bytes -/
theorem be_digs (u : Nat) : be (digs u).reverse = u := by
  induction u using Nat.strongRecOn with
  | _ u ih =>
    rcases Nat.eq_zero_or_pos u with rfl | h0
    · simp [digs_zero, be]
    · rw [digs_pos h0, List.reverse_cons, be_snoc, ih (u / 256) (by omega)]
      simp
      omega
theorem digs_top (u : Nat) (h : 0 < u) : ∃ d l, (digs u).reverse = d :: l ∧ d ≠ 0 := by
  induction u using Nat.strongRecOn with
  | _ u ih =>
    by_cases h1 : u / 256 = 0
    · refine ⟨UInt8.ofNat u, [], by rw [digs_pos h, h1, digs_zero]; rfl, ?_⟩
      intro e
      have := congrArg UInt8.toNat e
      simp at this
      omega
    · obtain ⟨d, l, e, hd⟩ := ih (u / 256) (by omega) (by omega)
      exact ⟨d, l ++ [UInt8.ofNat u], by rw [digs_pos h, List.reverse_cons, e]; rfl, hd⟩
theorem mag_lt (n : Int) (h1 : -9223372036854775808 ≤ n) (h2 : n ≤ 9223372036854775807) : mag n < 9223372036854775808 := by
  unfold mag; split <;> omega
theorem badLead_digs (u : Nat) (h : u < 9223372036854775808) : badLead (digs u).reverse = false := by
  rcases Nat.eq_zero_or_pos u with rfl | h0
  · rw [digs_zero]; rfl
  · obtain ⟨d, l, e, hd⟩ := digs_top u h0
    rw [e]
    refine badLead_no hd fun h8 => ?_
    have hb := be_digs u
    rw [e, be_cons] at hb
    have hl : l.length = 7 := by simpa using h8
    rw [hl] at hb
    have h4 : (256 : Nat) ^ 7 = 72057594037927936 := by simp
    rw [h4] at hb
    omega
theorem rnum_num (n : Int) (h1 : -9223372036854775808 ≤ n) (h2 : n ≤ 9223372036854775807) (r : List UInt8) : rnum (num n ++ r) = some (n, r) := by
  have hk : (digs (mag n)).length ≤ 8 := digs_len8 _ (by have := mag_lt n h1 h2; omega)
  have hs : sig n = 0 ∨ sig n = 128 := by unfold sig; split <;> simp
  have hh : (UInt8.ofNat (sig n + (digs (mag n)).length)).toNat = sig n + (digs (mag n)).length := by
    rw [UInt8.toNat_ofNat']
    exact Nat.mod_eq_of_lt (by rcases hs with h | h <;> rw [h] <;> omega)
  have hm : (sig n + (digs (mag n)).length) % 128 = (digs (mag n)).length := by rcases hs with h | h <;> rw [h] <;> omega
  have hl : (digs (mag n)).reverse.length = (digs (mag n)).length := List.length_reverse
  have ht : ((digs (mag n)).reverse ++ r).take (digs (mag n)).length = (digs (mag n)).reverse := List.take_left' hl
  have hd : ((digs (mag n)).reverse ++ r).drop (digs (mag n)).length = r := List.drop_left' hl
  simp only [num, List.cons_append, rnum]
  rw [hh, hm, ht, hd, if_neg (by omega), if_neg (by rw [List.length_append, hl]; omega), badLead_digs _ (mag_lt n h1 h2), if_neg (by simp), be_digs]
  congr 2
  unfold sig mag
  by_cases h0 : n < 0
  · rw [if_pos h0, if_pos h0, if_pos (by omega)]; omega
  · rw [if_neg h0, if_neg h0, if_neg]
    · omega
    · have : mag n = n.toNat := by unfold mag; rw [if_neg h0]
      rw [this] at hk
      omega
theorem num_prefix (a b : Int) (ha1 : -9223372036854775808 ≤ a) (ha2 : a ≤ 9223372036854775807) (hb1 : -9223372036854775808 ≤ b) (hb2 : b ≤ 9223372036854775807)
    (h : num b = num a ++ (num b).drop (num a).length) : a = b := by
  have h1 := rnum_num a ha1 ha2 ((num b).drop (num a).length)
  have h2 := rnum_num b hb1 hb2 []
  rw [← h] at h1
  rw [List.append_nil] at h2
  rw [h2] at h1
  injection h1 with h1
  injection h1 with h1 _
  exact h1.symm
/-- unlike numbers have unlike bytes, none the beginning of another -/
theorem num_order (a b : Int) (ha1 : -9223372036854775808 ≤ a) (ha2 : a ≤ 9223372036854775807) (hb1 : -9223372036854775808 ≤ b) (hb2 : b ≤ 9223372036854775807) (k : Nat)
    (hk : k = (num a).length ∧ k ≤ (num b).length ∨ k = (num b).length ∧ k ≤ (num a).length) : ((num a).take k == (num b).take k) = (a == b) := by
  by_cases hab : a = b
  · subst hab; simp
  · have hne : ¬ (num a).take k = (num b).take k := by
      intro e
      rcases hk with ⟨rfl, hk⟩ | ⟨rfl, hk⟩
      · rw [List.take_length] at e
        apply hab
        apply num_prefix a b ha1 ha2 hb1 hb2
        conv => lhs; rw [← List.take_append_drop (num a).length (num b)]
        rw [← e]
      · rw [List.take_length] at e
        apply hab
        apply Eq.symm
        apply num_prefix b a hb1 hb2 ha1 ha2
        conv => lhs; rw [← List.take_append_drop (num b).length (num a)]
        rw [e]
    rw [beq_eq_false_iff_ne.2 hne, beq_eq_false_iff_ne.2 hab]

theorem rnumS_num (n : Int) (h1 : -9223372036854775808 ≤ n) (h2 : n ≤ 9223372036854775807) (r : List UInt8) : rnumS (some (num n ++ r)) = (n, some r) := by
  simp [rnumS, rnum_num n h1 h2 r]
def txt (s : ByteArray) : List UInt8 := num s.size ++ s.data.toList
theorem rtextS_txt (s : ByteArray) (h : s.size ≤ 9223372036854775807) (r : List UInt8) : rtextS (some (txt s ++ r)) = (s.data.toList, some r) := by
  have e := rnumS_num s.size (by omega) (by omega) (s.data.toList ++ r)
  rw [txt, List.append_assoc]
  simp only [rtextS, e]
  have hl : s.data.toList.length = s.size := rfl
  rw [if_neg (by rw [List.length_append, hl]; omega), Int.toNat_natCast, List.take_left' hl, List.drop_left' hl]
theorem rcountS_num (n most : Int) (h1 : -9223372036854775808 ≤ n) (h2 : n ≤ 9223372036854775807) (r : List UInt8) : rcountS (some (num n ++ r)) most = if n < 0 ∨ most < n then (0, none) else (n, some r) := by
  simp only [rcountS, rnumS_num n h1 h2 r]
theorem bytes_eta (s : ByteArray) : (⟨s.data.toList.toArray⟩ : ByteArray) = s := by cases s; simp

/-! ### many numbers, many texts -/
def numsB (l : List Int) : List UInt8 := l.flatMap num
def txtsB (l : List ByteArray) : List UInt8 := l.flatMap txt
theorem numsB_snoc (l : List Int) (k : Nat) (h : k < l.length) : numsB (l.take (k + 1)) = numsB (l.take k) ++ num l[k] := by
  unfold numsB; rw [List.take_succ_eq_append_getElem h]; simp only [List.flatMap_append, List.flatMap_cons, List.flatMap_nil, List.append_nil]
theorem txtsB_snoc (l : List ByteArray) (k : Nat) (h : k < l.length) : txtsB (l.take (k + 1)) = txtsB (l.take k) ++ txt l[k] := by
  unfold txtsB; rw [List.take_succ_eq_append_getElem h]; simp only [List.flatMap_append, List.flatMap_cons, List.flatMap_nil, List.append_nil]
theorem numsB_drop (l : List Int) (k : Nat) (h : k < l.length) : numsB (l.drop k) = num l[k] ++ numsB (l.drop (k + 1)) := by
  unfold numsB; rw [List.drop_eq_getElem_cons h, List.flatMap_cons]
theorem txtsB_drop (l : List ByteArray) (k : Nat) (h : k < l.length) : txtsB (l.drop k) = txt l[k] ++ txtsB (l.drop (k + 1)) := by
  unfold txtsB; rw [List.drop_eq_getElem_cons h, List.flatMap_cons]
theorem numsB_len (l : List Int) (h : ∀ z ∈ l, -9223372036854775808 ≤ z ∧ z ≤ 9223372036854775807) : (numsB l).length ≤ 9 * l.length := by
  induction l with
  | nil => simp [numsB]
  | cons z l ih =>
    have h1 := num_len z (h z (by simp)).1 (h z (by simp)).2
    have h2 := ih fun x hx => h x (by simp [hx])
    simp only [numsB, List.flatMap_cons, List.length_append, List.length_cons] at h2 ⊢
    omega
theorem txt_len (s : ByteArray) (h : s.size ≤ 9223372036854775807) : (txt s).length ≤ 9 + s.size := by
  have := num_len s.size (by omega) (by omega)
  rw [txt, List.length_append, show s.data.toList.length = s.size from rfl]; omega
theorem txtsB_len (m : Nat) (hm : m ≤ 1000000) (l : List ByteArray) (h : ∀ s ∈ l, s.size ≤ m) : (txtsB l).length ≤ (9 + m) * l.length := by
  induction l with
  | nil => simp [txtsB]
  | cons s l ih =>
    have h0 := h s (by simp)
    have h1 := txt_len s (by omega)
    have h2 := ih fun x hx => h x (by simp [hx])
    simp only [txtsB, List.flatMap_cons, List.length_append, List.length_cons] at h2 ⊢
    rw [Nat.mul_add]
    omega

/-- The state is bad, or has a true beginning of R alone. -/
def Short (st : Option (List UInt8)) (R : List UInt8) : Prop := st = none ∨ ∃ X y Y, st = some X ∧ R = X ++ y :: Y
theorem Short.end_ {st : Option (List UInt8)} (h : Short st []) : st = none := by
  rcases h with h | ⟨X, y, Y, _, h⟩
  · exact h
  · cases X <;> cases h
/-- a true beginning of a ++ b begins with a, or is a true beginning of a -/
theorem split_prefix {X a b : List UInt8} {y : UInt8} {Y : List UInt8} (h : a ++ b = X ++ y :: Y) : (∃ X', X = a ++ X' ∧ b = X' ++ y :: Y) ∨ X.length < a.length := by
  rcases Nat.lt_or_ge X.length a.length with hl | hl
  · exact .inr hl
  · left
    refine ⟨X.drop a.length, ?_, ?_⟩
    · have h1 := congrArg (List.take a.length) h
      rw [List.take_left, List.take_append_of_le_length hl] at h1
      conv => lhs; rw [← List.take_append_drop a.length X]
      rw [← h1]
    · have h1 := congrArg (List.drop a.length) h
      rw [List.drop_left, List.drop_append_of_le_length hl] at h1
      exact h1
theorem short_num {n : Int} (h1 : -9223372036854775808 ≤ n) (h2 : n ≤ 9223372036854775807) {X : List UInt8} (hl : X.length < (num n).length) {R : List UInt8} {y : UInt8} {Y : List UInt8} (h : num n ++ R = X ++ y :: Y) : rnum X = none := by
  rcases X with _ | ⟨x, t⟩
  · rfl
  · have hk : (digs (mag n)).length ≤ 8 := digs_len8 _ (by have := mag_lt n h1 h2; omega)
    have hs : sig n = 0 ∨ sig n = 128 := by unfold sig; split <;> simp
    simp only [num, List.cons_append, List.cons.injEq] at h
    have hx : x.toNat % 128 = (digs (mag n)).length := by
      rw [← h.1, UInt8.toNat_ofNat']
      rcases hs with h | h <;> rw [h] <;> omega
    simp only [rnum]
    rw [hx, if_neg (by omega), if_pos]
    simp [num] at hl
    omega
theorem Short.num {st : Option (List UInt8)} {n : Int} {R : List UInt8} (h1 : -9223372036854775808 ≤ n) (h2 : n ≤ 9223372036854775807) (h : Short st (num n ++ R)) : Short (rnumS st).2 R := by
  rcases h with rfl | ⟨X, y, Y, rfl, h⟩
  · exact .inl rfl
  · rcases split_prefix h with ⟨X', rfl, hb⟩ | hl
    · rw [rnumS_num n h1 h2]
      exact .inr ⟨X', y, Y, rfl, hb⟩
    · left
      simp [rnumS, short_num h1 h2 hl h]
theorem Short.txt {st : Option (List UInt8)} {s : ByteArray} {R : List UInt8} (hs : s.size ≤ 9223372036854775807) (h : Short st (txt s ++ R)) : Short (rtextS st).2 R := by
  rcases h with rfl | ⟨X, y, Y, rfl, h⟩
  · exact .inl rfl
  · rw [Go.Proofs.YtniifindnnfkaaaDoor.txt, List.append_assoc] at h
    rcases split_prefix h with ⟨X', rfl, hb⟩ | hl
    · simp only [rtextS, rnumS_num s.size (by omega) (by omega)]
      have hsl : s.data.toList.length = s.size := rfl
      rcases split_prefix hb with ⟨X2, rfl, hb2⟩ | hl2
      · rw [if_neg (by rw [List.length_append, hsl]; omega), Int.toNat_natCast, List.drop_left' hsl]
        exact .inr ⟨X2, y, Y, rfl, hb2⟩
      · rw [if_pos (by omega)]
        exact .inl rfl
    · left
      simp [rtextS, rnumS, short_num (by omega) (by omega) hl h]
end Go.Proofs.YtniifindnnfkaaaDoor
