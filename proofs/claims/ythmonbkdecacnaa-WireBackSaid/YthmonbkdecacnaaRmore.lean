import Derived.Test.YthmonbkdecacnaaRnum
namespace Go.Proofs.Ythmonbkdecacnaa
open Go.RowKit

theorem ok_any (g : Nat) (s : Option (List UInt8)) (F : Nat → Prop) (w : World) (h : Rdr w g s F) :
    Calls Try.prog 16 #[.pointer (some ⟨g, 0, none⟩)] w fun e w' => e = .returned (.bool s.isSome) ∧ w = w' := by
  obtain ⟨A, n, c, hb, _⟩ := h.blk
  have c1 : w.cell? ⟨g, 1, none⟩ = some (.bool s.isNone) := hb.cell 1
  cases s
  all_goals
    simp only [Option.isNone_none, Option.isNone_some] at c1
    go_enter Try.func16, Try.ntmps16
    go_wp2
    go_returns
    exact ⟨rfl, rfl⟩
theorem ok_nil (w : World) : Calls Try.prog 16 #[.pointer none] w fun e w' => e = .returned (.bool false) ∧ w = w' := by
  go_enter Try.func16, Try.ntmps16
  go_wp2
  go_returns
  exact ⟨rfl, rfl⟩
theorem left_any (g : Nat) (s : Option (List UInt8)) (F : Nat → Prop) (w : World) (h : Rdr w g s F) :
    Calls Try.prog 25 #[.pointer (some ⟨g, 0, none⟩)] w fun e w' => e = .returned (.int .i64 ((s.getD []).length : Nat)) ∧ w = w' := by
  obtain ⟨A, n, c, hb, hn⟩ := h.blk
  rw [← hn]
  have c0 : w.cell? ⟨g, 0, none⟩ = some (.slice A n c) := hb.cell 0
  clear hn
  go_enter Try.func25, Try.ntmps25
  go_wp2
  go_returns
  exact ⟨rfl, rfl⟩
theorem left_nil (w : World) : Calls Try.prog 25 #[.pointer none] w fun e w' => e = .returned (.int .i64 0) ∧ w = w' := by
  go_enter Try.func25, Try.ntmps25
  go_wp2
  go_returns
  exact ⟨rfl, rfl⟩
theorem end_any (g : Nat) (s : Option (List UInt8)) (F : Nat → Prop) (w : World) (h : Rdr w g s F) :
    Calls Try.prog 15 #[.pointer (some ⟨g, 0, none⟩)] w fun e w' => e = .returned (.bool (s == some [])) ∧ w = w' := by
  rcases s with _ | l
  · go_enter Try.func15, Try.ntmps15
    go_wp2_with fail
    refine (ok_any g none F w h).mono ?_
    rintro e w1 ⟨rfl, rfl⟩
    go_wp2
    go_returns
    exact ⟨rfl, rfl⟩
  · obtain ⟨A, n, c, hb, hn⟩ := h.blk
    have c0 : w.cell? ⟨g, 0, none⟩ = some (.slice A n c) := hb.cell 0
    have Hn := Lib.hid hn
    clear hn
    go_enter Try.func15, Try.ntmps15
    go_wp2_with fail
    refine (ok_any g _ F w h).mono ?_
    rintro e w1 ⟨rfl, rfl⟩
    go_wp2
    go_returns
    refine ⟨?_, rfl⟩
    have := Hn.out
    congr 2
    rcases l with _ | ⟨x, l⟩
    · simp [this]
    · simp [this]; omega
theorem end_nil (w : World) : Calls Try.prog 15 #[.pointer none] w fun e w' => e = .returned (.bool false) ∧ w = w' := by
  go_enter Try.func15, Try.ntmps15
  go_wp2_with fail
  refine (ok_nil w).mono ?_
  rintro e w1 ⟨rfl, rfl⟩
  go_wp2
  go_returns
  exact ⟨rfl, rfl⟩

theorem count_any (g : Nat) (s : Option (List UInt8)) (most : Int) (F : Nat → Prop) (w : World) (h : Rdr w g s F) (_h1 : -9223372036854775808 ≤ most) (_h2 : most ≤ 9223372036854775807) :
    Calls Try.prog 21 #[.pointer (some ⟨g, 0, none⟩), .int .i64 most] w (Left g F (rcountS s most).2 (.int .i64 (rcountS s most).1) w) := by
  have hb := rnumS_le s
  go_enter Try.func21, Try.ntmps21
  go_wp2_with fail
  refine (rnum_any g s F w h).mono ?_
  rintro e w1 ⟨rfl, F1, hr1, hs1, hm1⟩
  have Hd := Lib.hid (show rcountS s most = if (rnumS s).1 < 0 ∨ most < (rnumS s).1 then (0, none) else ((rnumS s).1, (rnumS s).2) from rfl)
  generalize (rnumS s).1 = n at *
  generalize (rnumS s).2 = s1 at *
  by_cases h0 : n < 0
  · go_wp2_with fail
    refine (fail_any g _ _ _ hr1).mono ?_
    rintro e w2 ⟨rfl, h3, h4⟩
    go_wp2
    go_returns
    rw [Hd.out, if_pos (.inl h0)]
    exact Left.of_bad h.self h3 (hm1.trans h4)
  · by_cases h5 : most < n
    · go_wp2_with fail
      refine (fail_any g _ _ _ hr1).mono ?_
      rintro e w2 ⟨rfl, h3, h4⟩
      go_wp2
      go_returns
      rw [Hd.out, if_pos (.inr h5)]
      exact Left.of_bad h.self h3 (hm1.trans h4)
    · go_wp2
      go_returns
      rw [Hd.out, if_neg (by omega)]
      exact ⟨rfl, F1, hr1, hs1, hm1⟩
theorem count_nil (most : Int) (w : World) : Calls Try.prog 21 #[.pointer none, .int .i64 most] w fun e w' => e = .returned (.int .i64 0) ∧ w = w' := by
  go_enter Try.func21, Try.ntmps21
  go_wp2_with fail
  refine (rnum_nil w).mono ?_
  rintro e w1 ⟨rfl, rfl⟩
  by_cases h0 : most < 0
  · go_wp2_with fail
    refine (fail_nil w).mono ?_
    rintro e w1 ⟨rfl, rfl⟩
    go_wp2
    go_returns
    exact ⟨rfl, rfl⟩
  · go_wp2
    go_returns
    exact ⟨rfl, rfl⟩
theorem rflag_any (g : Nat) (s : Option (List UInt8)) (F : Nat → Prop) (w : World) (h : Rdr w g s F) :
    Calls Try.prog 22 #[.pointer (some ⟨g, 0, none⟩)] w (Left g F (rflagS s).2 (.bool (rflagS s).1) w) := by
  go_enter Try.func22, Try.ntmps22
  go_wp2_with fail
  refine (count_any g s 1 F w h (by omega) (by omega)).mono ?_
  rintro e w1 ⟨rfl, F1, hr1, hs1, hm1⟩
  go_wp2
  go_returns
  exact ⟨rfl, F1, hr1, hs1, hm1⟩
theorem rflag_nil (w : World) : Calls Try.prog 22 #[.pointer none] w fun e w' => e = .returned (.bool false) ∧ w = w' := by
  go_enter Try.func22, Try.ntmps22
  go_wp2_with fail
  refine (count_nil 1 w).mono ?_
  rintro e w1 ⟨rfl, rfl⟩
  go_wp2
  go_returns
  exact ⟨rfl, rfl⟩

theorem rtext_any (g : Nat) (s : Option (List UInt8)) (F : Nat → Prop) (w : World) (h : Rdr w g s F) :
    Calls Try.prog 14 #[.pointer (some ⟨g, 0, none⟩)] w (Left g F (rtextS s).2 (.string ⟨(rtextS s).1.toArray⟩) w) := by
  have hb := rnumS_le s
  have Hd := Lib.hid (show rtextS s = match (rnumS s).2 with
    | none => ([], none)
    | some l => if (rnumS s).1 < 0 ∨ (l.length : Int) < (rnumS s).1 then ([], none) else (l.take (rnumS s).1.toNat, some (l.drop (rnumS s).1.toNat)) from rfl)
  rcases s with _ | l
  · go_enter Try.func14, Try.ntmps14
    go_wp2_with fail
    refine (ok_any g none F w h).mono ?_
    rintro e w1 ⟨rfl, rfl⟩
    go_wp2
    go_returns
    exact ⟨rfl, F, h, Sub.refl _, Mod.refl _ _⟩
  · go_enter Try.func14, Try.ntmps14
    go_wp2_with fail
    refine (ok_any g _ F w h).mono ?_
    rintro e w1 ⟨rfl, rfl⟩
    go_wp2_with fail
    refine (rnum_any g _ F w h).mono ?_
    rintro e w1 ⟨rfl, F1, hr1, hs1, hm1⟩
    generalize (rnumS (some l)).1 = n at *
    generalize (rnumS (some l)).2 = s1 at *
    have hcv := fun (w : World) (c : Nat) => run_string_of (P := Try.prog) w 24 9 5 none 0 c [] Try.underlying24 Try.underlying5 Try.underlying9 (Rd.nil _ _ _)
    rcases s1 with _ | l1
    · go_wp2_with fail
      refine (take_bad g n F1 w1 hr1).mono ?_
      rintro e w2 ⟨rfl, h3, h4⟩
      go_wp2
      go_returns
      rw [Hd.out]
      exact Left.of_bad h.self h3 (hm1.trans h4)
    · by_cases hfar : n < 0 ∨ (l1.length : Int) < n
      · have Hf := Lib.hid hfar
        clear hfar
        go_wp2_with fail
        refine (take_far g l1 n F1 w1 hr1 Hf.out).mono ?_
        rintro e w2 ⟨rfl, h3, h4⟩
        go_wp2
        go_returns
        rw [Hd.out]
        simp only [if_pos Hf.out]
        exact Left.of_bad h.self h3 (hm1.trans h4)
      · have Hf := Lib.hid hfar
        obtain ⟨m, rfl⟩ := Int.eq_ofNat_of_zero_le (show 0 ≤ n by omega)
        have hm : m ≤ l1.length := by omega
        clear hfar
        go_wp2_with fail
        refine (take_ok g l1 m F1 w1 hr1 hm).mono ?_
        rintro e w2 ⟨A2, c2, rfl, hd2, hne2, hF2, hc2, F2, hr2, hs2, hm2⟩
        have hcv := fun (w' : World) (hd : Rd w' 1 A2 m (u8s (l1.take m))) => run_string_of (P := Try.prog) w' 24 9 5 A2 m c2 (l1.take m) Try.underlying24 Try.underlying5 Try.underlying9 hd
        have hcv2 := hcv _ hd2
        clear hcv
        go_wp2
        go_returns
        rw [Hd.out]
        simp only [if_neg Hf.out, Int.toNat_natCast]
        exact ⟨rfl, F2, hr2, hs1.trans hs2, hm1.trans hm2⟩
theorem rtext_nil (w : World) : Calls Try.prog 14 #[.pointer none] w fun e w' => e = .returned (.string ⟨#[]⟩) ∧ w = w' := by
  go_enter Try.func14, Try.ntmps14
  go_wp2_with fail
  refine (ok_nil w).mono ?_
  rintro e w1 ⟨rfl, rfl⟩
  go_wp2
  go_returns
  exact ⟨rfl, rfl⟩

theorem read_any (A : Option Addr) (n c : Nat) (l : List UInt8) (w : World) (h : Rd w 1 A n (u8s l)) (hn : n ≤ 140737488355328) :
    Calls Try.prog 12 #[.slice A n c] w fun e w' => ∃ g F, e = .returned (.pointer (some ⟨g, 0, none⟩)) ∧ Rdr w' g (some l) F ∧ (∀ k, F k → w.heap.size ≤ k) ∧ Mod (fun _ => False) w w' := by
  have hl : l.length = n := by simpa using h.len
  have Hl := Lib.hid hl
  clear hl
  go_enter Try.func12, Try.ntmps12
  go_wp2_with fail
  refine (clone8 A n c l w h hn).mono ?_
  rintro e w1 ⟨A1, c1, rfl, h1, h2, h3⟩
  go_wp2
  go_returns
  refine ⟨w1.heap.size, _, rfl, ⟨A1, c1, by rw [Hl.out]; exact Blk.made _ _ _, by rw [Hl.out]; exact (h1.alloc _).rd, by rw [Hl.out]; exact h1.cap.1, h1.cap.2, ?_, ?_, rfl⟩, ?_, h3.alloc _⟩
  · intro e
    have := h1.lt _ e
    omega
  · exact (h1.alloc _).lt
  · rintro k (rfl | hk)
    · exact h3.size
    · exact h2 k hk
end Go.Proofs.Ythmonbkdecacnaa
