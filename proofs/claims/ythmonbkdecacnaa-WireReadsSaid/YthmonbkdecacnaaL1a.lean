import Derived.Test.YthmonbkdecacnaaRmore
namespace Go.Proofs.Ythmonbkdecacnaa
open Go.RowKit

theorem num300 : num 300 = [2, 1, 44] := by simp [num, mag, sig, digs_pos, digs_zero]
theorem num257 : num (-257) = [130, 1, 0] := by simp [num, mag, sig, digs_pos, digs_zero]
theorem num2 : num 2 = [1, 2] := by simp [num, mag, sig, digs_pos, digs_zero]

theorem wr_new (w : World) : Wr (w.alloc (.cells #[.slice none 0 0] 26)) w.heap.size [] (fun k => k = w.heap.size) :=
  ⟨none, 0, Blk.made _ _ _, Own.nil _ _ _, by funext k; simp [ob]⟩

theorem law1first_any (w : World) : Calls Try.prog 8 #[] w fun e w' => e = .returned (.bool true) ∧ Below w.heap.size w w' := by
  go_enter Try.func8, Try.ntmps8
  go_wp2_with fail
  refine (number_any _ _ _ 300 _ (wr_new w) (by omega) (by omega) (by simp)).mono ?_
  rintro e w1 ⟨rfl, F1, hw1, hg1, hm1⟩
  rw [num300, List.nil_append] at hw1
  go_wp2_with fail
  refine (number_any _ _ _ (-257) _ hw1 (by omega) (by omega) (by simp)).mono ?_
  rintro e w2 ⟨rfl, F2, hw2, hg2, hm2⟩
  rw [num257] at hw2
  go_wp2_with fail
  refine (text_any _ _ _ ⟨#[97, 98]⟩ _ hw2 (by simp) (by decide)).mono ?_
  rintro e w3 ⟨rfl, F3, hw3, hg3, hm3⟩
  have ht : txt ⟨#[97, 98]⟩ = [1, 2, 97, 98] := by rw [txt, show (((⟨#[97, 98]⟩ : ByteArray).size : Nat) : Int) = 2 from rfl, num2]; rfl
  rw [ht] at hw3
  clear ht
  have hB1 : Below w.heap.size w w1 := bmod ((Below.refl _ _).alloc (Nat.le_refl _) _) hm1 (fun k e => by subst e; exact Nat.le_refl _) (by simp)
  have hf1 : Fresh w.heap.size F1 := Fresh.grows (fun k e => by subst e; exact Nat.le_refl _) hg1 (by simp)
  have hB2 := bmod hB1 hm2 hf1 hB1.size
  have hf2 := hf1.grows hg2 hB1.size
  have hB3 := bmod hB2 hm3 hf2 hB2.size
  have hf3 := hf2.grows hg3 hB2.size
  clear hw1 hw2 hg1 hg2 hg3 hm1 hm2 hm3
  go_wp2_with fail
  refine (read_any _ _ _ [1, 0] _ (Rd.lit w3 #[.int .u8 1, .int .u8 0] 5 (0, 0)) (by decide)).mono ?_
  rintro e w4 ⟨g4, F4, rfl, hr4, hf4, hm4⟩
  have hM4 := ((Mod.refl (fun _ => False) w3).alloc _).trans hm4
  have hw4 := hw3.keep hM4 (Apart.none _)
  have hB4 := bsame hB3 hM4 hB3.size
  have hF4 : Fresh w.heap.size F4 := Fresh.mono hf4 (by have := hB3.size; simp; omega)
  clear hw3 hM4 hm4
  go_wp2_with fail
  refine (bytes_any _ _ _ _ hw4 (by simp)).mono ?_
  rintro e w5 ⟨A5, c5, rfl, ho5, hf5, hm5⟩
  have hB5 := bsame hB4 hm5 hB4.size
  have hr5 := hr4.keep hm5 (Apart.none _)
  have hcv := run_string_of (P := Try.prog) w5 24 9 5 A5 10 c5 _ Try.underlying24 Try.underlying5 Try.underlying9 ho5.rd
  clear hw4 hr4 hm5 ho5
  go_wp2_with fail
  refine (rnum_any _ _ _ _ hr5).mono ?_
  rintro e w6 ⟨rfl, F6, hr6, hs6, hm6⟩
  rw [show rnumS (some [1, 0]) = (0, none) from rfl] at hr6 ⊢
  have hB6 := bmod hB5 hm6 (fun k e => by subst e; exact hF4 _ hr5.self) hB5.size
  go_wp2_with fail
  refine (ok_any _ _ _ _ hr6).mono ?_
  rintro e w7 ⟨rfl, rfl⟩
  clear hr5 hr6 hm6 hcv
  go_wp2_with fail
  refine (read_any _ _ _ [128] _ (Rd.lit w6 #[.int .u8 128] 5 (0, 0)) (by decide)).mono ?_
  rintro e w8 ⟨g8, F8, rfl, hr8, hf8, hm8⟩
  have hM8 := ((Mod.refl (fun _ => False) w6).alloc _).trans hm8
  have hB8 := bsame hB6 hM8 hB6.size
  have hF8 : Fresh w.heap.size F8 := Fresh.mono hf8 (by have := hB6.size; simp; omega)
  clear hM8 hm8
  go_wp2_with fail
  refine (rnum_any _ _ _ _ hr8).mono ?_
  rintro e w9 ⟨rfl, F9, hr9, hs9, hm9⟩
  rw [show rnumS (some [128]) = (-1, some []) from rfl]
  have hB9 := bmod hB8 hm9 (fun k e => by subst e; exact hF8 _ hr8.self) hB8.size
  clear hr8 hr9 hm9
  go_wp2
  go_returns
  exact ⟨rfl, hB9⟩
end Go.Proofs.Ythmonbkdecacnaa
