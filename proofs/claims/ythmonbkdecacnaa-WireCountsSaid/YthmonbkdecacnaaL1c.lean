import Derived.Test.YthmonbkdecacnaaL1a
import Derived.Test.YthmonbkdecacnaaOpen
namespace Go.Proofs.Ythmonbkdecacnaa
open Go.RowKit

set_option maxRecDepth 100000 in
set_option maxHeartbeats 2000000 in
theorem wireCounts_walk (n most : Int) (s : ByteArray) (w : World) (hn1 : -9223372036854775808 ≤ n) (hn2 : n ≤ 9223372036854775807) (hm1 : -9223372036854775808 ≤ most) (hm2 : most ≤ 9223372036854775807) (hs : s.size ≤ maxLen) :
    Calls Try.prog 6 #[.int .i64 n, .int .i64 most, .string s] w fun e w' => e = .returned (.bool true) ∧ Below w.heap.size w w' := by
  unfold maxLen at hs
  by_cases h500 : 500 < s.size
  · go_enter Try.func6, Try.ntmps6
    go_wp2_with fail
    refine (law1first_any w).mono ?_
    rintro e w1 ⟨rfl, hB1⟩
    go_wp2_with fail
    go_returns
    exact ⟨rfl, hB1⟩
  · go_enter Try.func6, Try.ntmps6
    go_wp2_with fail
    refine (law1first_any w).mono ?_
    rintro e w1 ⟨rfl, hB1⟩
    go_wp2_with fail
    refine (number_any _ _ _ n _ (wr_new w1) hn1 hn2 (by simp)).mono ?_
    rintro e w2 ⟨rfl, F2, hx2, hg2, hm2'⟩
    rw [szA] at hg2
    rw [List.nil_append] at hx2
    have hB2 := bmod (hB1.alloc hB1.size _) hm2' (fun k e => by subst e; exact hB1.size) (by rw [szA]; have := hB1.size; omega)
    have hf2 : Fresh w.heap.size F2 := Fresh.grows (fun k e => by subst e; exact hB1.size) hg2 (by have := hB1.size; omega)
    have hl1 := num_len n hn1 hn2
    go_wp2_with fail
    refine (text_any _ _ _ s _ hx2 (by omega) (by omega)).mono ?_
    rintro e w3 ⟨rfl, F3, hx3, hg3, hm3⟩
    have hB3 := bmod hB2 hm3 hf2 hB2.size
    have hf3 := hf2.grows hg3 hB2.size
    have hlt : (txt s).length ≤ 509 := by
      have := num_len s.size (by omega) (by omega)
      rw [txt, List.length_append, show s.data.toList.length = s.size from rfl]; omega
    have hc := rcountS_num n most hn1 hn2 (txt s)
    have hfl := rcountS_num n 1 hn1 hn2 (txt s)
    have ht := rtextS_txt s hs []
    rw [List.append_nil] at ht
    have hbl : (num n ++ txt s).length ≤ 600 := by rw [List.length_append]; omega
    obtain ⟨bs, hbs⟩ : ∃ x, x = num n ++ txt s := ⟨_, rfl⟩
    rw [← hbs] at hx3 hc hfl hbl
    clear hx2 hg2 hm2' hg3 hm3 hbs hB1 hB2
    have Hc := Lib.hid hc
    have Hfl := Lib.hid hfl
    have Ht := Lib.hid ht
    clear hc hfl ht
    go_wp2_with fail
    refine (bytes_any _ _ _ _ hx3 (by omega)).mono ?_
    rintro e w4 ⟨A4, c4, rfl, ho4, hf4, hm4⟩
    have hx4 := hx3.keep hm4 (Apart.none _)
    have hB4 := bsame hB3 hm4 hB3.size
    go_wp2_with fail
    refine (read_any _ _ _ _ _ ho4.rd (by omega)).mono ?_
    rintro e w5 ⟨g5, F5, rfl, hr5, hf5, hm5⟩
    have hx5 := hx4.keep hm5 (Apart.none _)
    have hB5 := bsame hB4 hm5 hB4.size
    have hf5' : Fresh w.heap.size F5 := Fresh.mono hf5 hB4.size
    have hap5 : Apart F3 (fun k => k = g5) := Apart.of_lt (fun k hk => hx4.lt k hk) (fun k e => by subst e; exact hf5 _ hr5.self)
    have hx3' := hx3
    have hs4 := hm4.size
    clear hx4 ho4 hm4 hm5 hx3
    go_wp2_with fail
    refine (count_any _ _ most _ _ hr5 hm1 hm2).mono ?_
    rintro e w6 ⟨rfl, F6, hr6, hs6, hm6⟩
    have hx6 := hx5.keep hm6 hap5
    have hB6 := bmod hB5 hm6 (fun k e => by subst e; exact hf5' _ hr5.self) hB5.size
    have hf6 : Fresh w.heap.size F6 := fun k hk => hf5' k (hs6 k hk)
    have hap6 : Apart F3 F6 := fun k h1 h2 => by have := hx5.lt k h1; have := hf5 k (hs6 k h2); have := hx3'.lt k h1; omega
    clear hx5 hr5 hs6 hm6 hap5 hB5
    have hcs : (n < 0 ∨ (0 ≤ n ∧ n ≤ 0) ∨ (1 ≤ n ∧ n ≤ 1) ∨ 2 ≤ n) ∧ (n ≤ most ∨ most < n) := by omega
    obtain ⟨hcs, hcm⟩ := hcs
    rcases hcs with h0 | ⟨h0, h0'⟩ | ⟨h0, h0'⟩ | h0 <;> rcases hcm with hm | hm
    all_goals
      first
      | have t0 : (n == 0) = true := by rw [beq_iff_eq]; omega
      | have t0 : (n == 0) = false := by rw [beq_eq_false_iff_ne]; omega
      first
      | have t1 : (n == 1) = true := by rw [beq_iff_eq]; omega
      | have t1 : (n == 1) = false := by rw [beq_eq_false_iff_ne]; omega
      have hc := Hc.out
      have hfl := Hfl.out
      first | rw [if_pos (by omega)] at hc | rw [if_neg (by omega)] at hc
      first | rw [if_pos (by omega)] at hfl | rw [if_neg (by omega)] at hfl
      rw [hc] at hr6 ⊢
      have Hfl2 := Lib.hid hfl
      clear hc hfl
      go_wp2_with fail
      refine (rtext_any _ _ _ _ hr6).mono ?_
      rintro e w7 ⟨rfl, F7, hr7, hs7, hm7⟩
      have hx7 := hx6.keep hm7 (fun k h1 h2 => hap6 k h1 (by subst h2; exact hr6.self))
      have hB7 := bmod hB6 hm7 (fun k e => by subst e; exact hf6 _ hr6.self) hB6.size
      first
      | rw [show rtextS none = ([], none) from rfl] at hr7 ⊢
      | rw [Ht.out] at hr7 ⊢
      simp only [bytes_eta]
      clear hr6
      go_wp2_with fail
      refine (bytes_any _ _ _ _ hx7 (by omega)).mono ?_
      rintro e w8 ⟨A8, c8, rfl, ho8, hf8, hm8⟩
      have hr8 := hr7.keep hm8 (Apart.none _)
      have hB8 := bsame hB7 hm8 hB7.size
      clear hx7
      go_wp2_with fail
      refine (read_any _ _ _ _ _ ho8.rd (by omega)).mono ?_
      rintro e w9 ⟨g9, F9, rfl, hr9, hf9, hm9⟩
      have hq9 := hr8.keep hm9 (Apart.none _)
      have hB9 := bsame hB8 hm9 hB8.size
      have hf9' : Fresh w.heap.size F9 := Fresh.mono hf9 hB8.size
      have hap9 : Apart F7 (fun k => k = g9) := Apart.of_lt (fun k hk => hr8.lt k hk) (fun k e => by subst e; exact hf9 _ hr9.self)
      clear hr8 ho8 hr7
      go_wp2_with fail
      refine (rflag_any _ _ _ _ hr9).mono ?_
      rintro e w10 ⟨rfl, F10, hr10, hs10, hm10⟩
      have hq10 := hq9.keep hm10 hap9
      have hB10 := bmod hB9 hm10 (fun k e => by subst e; exact hf9' _ hr9.self) hB9.size
      simp only [rflagS, Hfl2.out] at hr10 ⊢
      clear hq9 hr9 hm10
      go_wp2_with fail
      refine (ok_any _ _ _ _ hq10).mono ?_
      rintro e w11 ⟨rfl, rfl⟩
      go_wp2_with fail
      refine (ok_any _ _ _ _ hr10).mono ?_
      rintro e w12 ⟨rfl, rfl⟩
      go_wp2
      go_returns
      exact ⟨rfl, hB10⟩
end Go.Proofs.Ythmonbkdecacnaa
