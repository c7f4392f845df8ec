import Derived.Test.YthmonbkdecacnaaNum
namespace Go.Proofs.Ythmonbkdecacnaa
open Go.RowKit

/-! ### the plain laws of numbers as bytes -/
theorem be_digs (u : Nat) : be (digs u).reverse = u := by
  induction u using Nat.strongRecOn with
  | _ u ih =>
    rcases Nat.eq_zero_or_pos u with rfl | h0
    · simp [digs_zero, be]
    · rw [digs_pos h0, List.reverse_cons, be_snoc, ih (u / 256) (by omega)]
      simp
      omega
theorem digs_top (u : Nat) (h : 0 < u) : ∃ d l, (digs u).reverse = d :: l ∧ d ≠ 0 := by
  induction u using Nat.strongRecOn with
  | _ u ih =>
    by_cases h1 : u / 256 = 0
    · refine ⟨UInt8.ofNat u, [], by rw [digs_pos h, h1, digs_zero]; rfl, ?_⟩
      intro e
      have := congrArg UInt8.toNat e
      simp at this
      omega
    · obtain ⟨d, l, e, hd⟩ := ih (u / 256) (by omega) (by omega)
      exact ⟨d, l ++ [UInt8.ofNat u], by rw [digs_pos h, List.reverse_cons, e]; rfl, hd⟩
theorem mag_lt (n : Int) (h1 : -9223372036854775808 ≤ n) (h2 : n ≤ 9223372036854775807) : mag n < 9223372036854775808 := by
  unfold mag; split <;> omega
theorem badLead_digs (u : Nat) (h : u < 9223372036854775808) : badLead (digs u).reverse = false := by
  rcases Nat.eq_zero_or_pos u with rfl | h0
  · rw [digs_zero]; rfl
  · obtain ⟨d, l, e, hd⟩ := digs_top u h0
    rw [e]
    refine badLead_no hd fun h8 => ?_
    have hb := be_digs u
    rw [e, be_cons] at hb
    have hl : l.length = 7 := by simpa using h8
    rw [hl] at hb
    have h4 : (256 : Nat) ^ 7 = 72057594037927936 := by simp
    rw [h4] at hb
    omega
theorem rnum_num (n : Int) (h1 : -9223372036854775808 ≤ n) (h2 : n ≤ 9223372036854775807) (r : List UInt8) : rnum (num n ++ r) = some (n, r) := by
  have hk : (digs (mag n)).length ≤ 8 := digs_len8 _ (by have := mag_lt n h1 h2; omega)
  have hs : sig n = 0 ∨ sig n = 128 := by unfold sig; split <;> simp
  have hh : (UInt8.ofNat (sig n + (digs (mag n)).length)).toNat = sig n + (digs (mag n)).length := by
    rw [UInt8.toNat_ofNat']
    exact Nat.mod_eq_of_lt (by rcases hs with h | h <;> rw [h] <;> omega)
  have hm : (sig n + (digs (mag n)).length) % 128 = (digs (mag n)).length := by rcases hs with h | h <;> rw [h] <;> omega
  have hl : (digs (mag n)).reverse.length = (digs (mag n)).length := List.length_reverse
  have ht : ((digs (mag n)).reverse ++ r).take (digs (mag n)).length = (digs (mag n)).reverse := List.take_left' hl
  have hd : ((digs (mag n)).reverse ++ r).drop (digs (mag n)).length = r := List.drop_left' hl
  simp only [num, List.cons_append, rnum]
  rw [hh, hm, ht, hd, if_neg (by omega), if_neg (by rw [List.length_append, hl]; omega), badLead_digs _ (mag_lt n h1 h2), if_neg (by simp), be_digs]
  congr 2
  unfold sig mag
  by_cases h0 : n < 0
  · rw [if_pos h0, if_pos h0, if_pos (by omega)]; omega
  · rw [if_neg h0, if_neg h0, if_neg]
    · omega
    · have : mag n = n.toNat := by unfold mag; rw [if_neg h0]
      rw [this] at hk
      omega
theorem num_prefix (a b : Int) (ha1 : -9223372036854775808 ≤ a) (ha2 : a ≤ 9223372036854775807) (hb1 : -9223372036854775808 ≤ b) (hb2 : b ≤ 9223372036854775807)
    (h : num b = num a ++ (num b).drop (num a).length) : a = b := by
  have h1 := rnum_num a ha1 ha2 ((num b).drop (num a).length)
  have h2 := rnum_num b hb1 hb2 []
  rw [← h] at h1
  rw [List.append_nil] at h2
  rw [h2] at h1
  injection h1 with h1
  injection h1 with h1 _
  exact h1.symm
/-- unlike numbers have unlike bytes, none the beginning of another -/
theorem num_order (a b : Int) (ha1 : -9223372036854775808 ≤ a) (ha2 : a ≤ 9223372036854775807) (hb1 : -9223372036854775808 ≤ b) (hb2 : b ≤ 9223372036854775807) (k : Nat)
    (hk : k = (num a).length ∧ k ≤ (num b).length ∨ k = (num b).length ∧ k ≤ (num a).length) : ((num a).take k == (num b).take k) = (a == b) := by
  by_cases hab : a = b
  · subst hab; simp
  · have hne : ¬ (num a).take k = (num b).take k := by
      intro e
      rcases hk with ⟨rfl, hk⟩ | ⟨rfl, hk⟩
      · rw [List.take_length] at e
        apply hab
        apply num_prefix a b ha1 ha2 hb1 hb2
        conv => lhs; rw [← List.take_append_drop (num a).length (num b)]
        rw [← e]
      · rw [List.take_length] at e
        apply hab
        apply Eq.symm
        apply num_prefix b a hb1 hb2 ha1 ha2
        conv => lhs; rw [← List.take_append_drop (num b).length (num a)]
        rw [e]
    rw [beq_eq_false_iff_ne.2 hne, beq_eq_false_iff_ne.2 hab]
end Go.Proofs.Ythmonbkdecacnaa
