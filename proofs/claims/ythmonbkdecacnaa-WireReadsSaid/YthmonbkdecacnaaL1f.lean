import Derived.Test.YthmonbkdecacnaaL1e
namespace Go.Proofs.Ythmonbkdecacnaa
open Go.RowKit

/-- the relation of the law's loop: what is left to be read by the reference's, and by the program's reader -/
def RestRel (B : Nat) (w0 : World) (g : Nat) (s10 s11 : Value) (w : World) : Prop :=
  ∃ (st : Option (List UInt8)) (R : Option Addr) (c : Nat) (F : Nat → Prop), s10 = .slice R (st.getD []).length c ∧ s11 = .bool st.isNone ∧ Rd w0 1 R (st.getD []).length (u8s (st.getD [])) ∧ (st.getD []).length ≤ c ∧ c ≤ maxLen ∧ (st.getD []).length ≤ 1000 ∧
    Rdr w g st F ∧ Fresh B F ∧ Below B w0 w

/-- the rest of the bytes behind q of them: its slice, and what is known of it -/
theorem cut_rest (R : Option Addr) (l : List UInt8) (c q : Nat) (r2 : List UInt8) (w : World) (hR : Rd w 1 R l.length (u8s l)) (hRc : l.length ≤ c) (hcm : c ≤ maxLen) (hR1 : l.length ≤ 1000) (hq : q ≤ l.length) (hr : r2 = l.drop q) :
    ∃ R2 n2 c2, (∀ w : World, (Instr.slice 24 (.slice R l.length c) (some (.int .i64 (q : Int))) none none).run Try.prog w = .ok (.slice R2 n2 c2) w) ∧
      (((some r2).getD []).length = n2 ∧ (some r2 == some []) = ((n2 : Int) == 0) ∧ Rd w 1 R2 ((some r2).getD []).length (u8s ((some r2).getD [])) ∧ ((some r2).getD []).length ≤ c2 ∧ c2 ≤ maxLen ∧ ((some r2).getD []).length ≤ 1000) := by
  obtain ⟨i0, hi, hz0, hz1, hz2⟩ := info_parts byte_info
  obtain ⟨R2, h1, h2, _⟩ := run_cut (P := Try.prog) 24 5 i0 Try.underlying24 hi R l.length c q hq hRc
  have hl : r2.length = l.length - q := by rw [hr, List.length_drop]
  rw [hz1] at h2
  refine ⟨R2, l.length - q, c - q, h1, hl, ?_, ?_, ?_, ?_, ?_⟩
  · rw [← hl]
    cases r2 with
    | nil => rfl
    | cons x t =>
      have : ((((x :: t).length : Nat) : Int) == 0) = false := by rw [beq_eq_false_iff_ne]; simp; omega
      rw [this]; rfl
  · show Rd w 1 R2 r2.length (u8s r2)
    have := h2 w _ hR
    rw [Nat.mul_one, u8s_drop, ← hr] at this
    rw [hl]
    exact this
  · show r2.length ≤ c - q
    omega
  · exact Nat.le_trans (Nat.sub_le _ _) hcm
  · show r2.length ≤ 1000
    omega
theorem rcountS_none (most : Int) : rcountS none most = (0, none) := by simp [rcountS, rnumS]
set_option maxRecDepth 100000 in
set_option maxHeartbeats 4000000 in
theorem wireReads_walk (A0 : Option Addr) (n0 c0 : Nat) (bs : List UInt8) (A1 : Option Addr) (n1 c1 : Nat) (asks : List UInt8) (most : Int) (w : World)
    (r0 : Rd w 1 A0 n0 (u8s bs)) (e0 : bs.length = n0) (q0 : n0 ≤ c0) (m0 : c0 ≤ maxLen)
    (r1 : Rd w 1 A1 n1 (u8s asks)) (e1 : asks.length = n1) (_ : n1 ≤ c1) (m1 : c1 ≤ maxLen) (hm1 : -9223372036854775808 ≤ most) (hm2 : most ≤ 9223372036854775807) :
    Calls Try.prog 7 #[.slice A0 n0 c0, .slice A1 n1 c1, .int .i64 most] w fun e w' => e = .returned (.bool true) ∧ Below w.heap.size w w' := by
  have E0 := Lib.hid e0
  have E1 := Lib.hid e1
  clear e0 e1
  by_cases hg : n0 ≤ 1000 ∧ n1 ≤ 100
  · obtain ⟨hg0, hg1⟩ := hg
    go_enter Try.func7, Try.ntmps7
    go_wp2_with fail
    refine (law1first_any w).mono ?_
    rintro e w1 ⟨rfl, hB1⟩
    have hr2 := (r0.below hB1).alloc (.cells #[] 5)
    have ho : Own (w1.alloc (.cells #[] 5)) 5 1 (some ⟨w1.heap.size, 0, none⟩) 0 0 (u8s []) := Own.make _ #[] (Blk.made _ _ _) (Nat.le_refl _) (Nat.zero_le _) rfl rfl
    go_wp2_with (at_builtin; refine wpList_app8 rfl _ _ rfl _ _ _ [] rfl ho _ _ _ bs rfl hr2 (by omega) ?_; intro A3 c3 w3 hown3 hmod3 hA3 hAn3; refine stop_here ?_)
    rw [Nat.zero_add, List.nil_append] at hown3
    have hM3 : Mod (fun _ => False) w1 w3 := ((Mod.refl _ _).alloc _).mod hmod3 fun k hk e => by simp [ob] at e; omega
    have hf3 : ∀ k, ob A3 = some k → w1.heap.size ≤ k := by
      intro k hk
      rcases hA3 with rfl | rfl <;> simp [ob] at hk <;> omega
    have hB3 := bsame hB1 hM3 hB1.size
    have hs1 := hB1.size
    clear hr2 ho hmod3 hA3 hAn3 hB1 hM3
    refine go_on ?_
    go_wp2_with fail
    refine (read_any _ _ _ bs _ hown3.rd (by omega)).mono ?_
    rintro e w4 ⟨g, F4, rfl, hr4, hf4, hm4⟩
    have hB4 := bsame hB3 hm4 hB3.size
    have hby4 : Bytesy w4 5 A3 n0 c3 := Bytesy.of (hown3.keep hm4 fun _ _ e => e)
    have hap4 : Apart F4 (fun k => ob A3 = some k) := Apart.symm (Apart.of_lt (fun k hk => hown3.lt k hk) hf4)
    have hf4' : Fresh w.heap.size F4 := Fresh.mono hf4 hB3.size
    have hf3' : ∀ k, ob A3 = some k → w.heap.size ≤ k := fun k hk => Nat.le_trans hs1 (hf3 k hk)
    have HW4 := Lib.hid (show Rdr w4 g (some bs) F4 ∧ Below w.heap.size w w4 ∧ Bytesy w4 5 A3 n0 c3 from ⟨hr4, hB4, hby4⟩)
    clear hown3 hf3 hf4 hm4 hB3 hr4 hB4 hby4
    go_wp2_with fail
    go_loopw [36] (fun s36 wr => ∃ k : Nat, k ≤ n0 ∧ s36 = .int .i64 k ∧ Rdr wr g (some bs) F4 ∧ Below w.heap.size w wr ∧ Bytesy wr 5 A3 n0 c3) (fun i _ => n0 - (intOf i).toNat)
    case atStart => exact ⟨0, Nat.zero_le _, rfl, HW4.out⟩
    case round =>
      clear HW4
      obtain ⟨k, hk, rfl, hx, hB, hby⟩ := hrel
      by_cases hlt : k < n0
      · obtain ⟨gb, z, rfl, hcz, hfz, hset⟩ := hby.at_ hlt
        have H' := Lib.hid (fun u => hB.setCell (p := ⟨gb, k, none⟩) (hf3' gb rfl) u)
        have H'' := Lib.hid (fun u => hx.keep (Mod.put wr gb k u) (fun i h1 h2 => hap4 i h1 (by subst h2; rfl)))
        have H3 := Lib.hid hset
        clear hset hx hby
        go_wp2
        go_roundw
        case rel => exact ⟨k + 1, by omega, by go_num, H''.out _, H'.out _, H3.out _⟩
        case measure => simp [intOf]; omega
      · obtain rfl : n0 = k := by omega
        clear hlt hby hap4 hf3'
        have HW := Lib.hid (show RestRel w.heap.size w g (.slice A0 n0 c0) (.bool false) wr from ⟨some bs, A0, c0, F4, by simp [E0.out], rfl, by simpa [E0.out] using r0, by simp [E0.out, q0], m0, by simp [E0.out, hg0], hx, hf4', hB⟩)
        clear hx hB hf4' r0 q0
        go_wp2_with fail
        obtain ⟨wo, rfl⟩ : ∃ wo : World, wo = wr := ⟨_, rfl⟩
        go_loopw [10, 11, 49] (fun s10 s11 s49 wr => ∃ k : Nat, k ≤ n1 ∧ s49 = .int .i64 k ∧ RestRel w.heap.size w g s10 s11 wr) (fun _ _ i _ => n1 - (intOf i).toNat)
        case atStart => exact ⟨0, Nat.zero_le _, rfl, HW.out⟩
        case round =>
          clear HW
          obtain ⟨k, hk, rfl, st, R, c, F, rfl, rfl, hR, hRc, hcm, hR1, hr, hf, hB⟩ := hrel
          by_cases hlt : k < n1
          · have hkz : k < asks.length := by rw [E1.out]; exact hlt
            obtain ⟨b, o, rfl, hcell⟩ := (r1.below hB).addr (by omega)
            have hc : wr.cell? ⟨b, o + k, none⟩ = some (.int .u8 (asks[k].toNat : Int)) := hcell k _ (u8s_at asks k hkz)
            generalize asks[k] = a at *
            have h256 := a.toNat_lt
            clear hcell
            obtain ⟨m, hm⟩ : ∃ m : Nat, m = a.toNat % 4 := ⟨_, rfl⟩
            have hmm : (a.toNat : Int) % 4 = (m : Int) := by omega
            have hm4 : m = 0 ∨ m = 1 ∨ m = 2 ∨ m = 3 := by omega
            clear hm
            rcases st with _ | l
            · have hr' : Rdr wr g none F := hr
              rcases hm4 with rfl | rfl | rfl | rfl
              · clear hr'
                go_wp2_with fail
                refine (rnum_any _ _ _ _ hr).mono ?_
                rintro e w7 ⟨rfl, F7, hr7, hs7, hm7⟩
                rw [show rnumS none = (0, none) from rfl] at hr7 ⊢
                have hf7 : Fresh w.heap.size F7 := fun i hi => hf i (hs7 i hi)
                have hB7 := bmod hB hm7 (fun i e => by subst e; exact hf _ hr.self) hB.size
                clear hm7 hs7 hr

                go_wp2_with fail
                refine (ok_any _ _ _ _ hr7).mono ?_
                rintro e wa ⟨rfl, rfl⟩
                go_wp2_with fail
                refine (left_any _ _ _ _ hr7).mono ?_
                rintro e wa ⟨rfl, rfl⟩
                go_wp2_with fail
                refine (end_any _ _ _ _ hr7).mono ?_
                rintro e wa ⟨rfl, rfl⟩

                have HRel := Lib.hid (show RestRel w.heap.size w g (.slice none 0 0) (.bool true) w7 from ⟨none, none, 0, F7, rfl, rfl, Rd.nil _ _ _, Nat.le_refl _, Nat.zero_le _, Nat.zero_le _, hr7, hf7, hB7⟩)
                clear hr7
                go_wp2
                go_roundw
                case rel => exact ⟨k + 1, by omega, by go_num, HRel.out⟩
                case measure => simp [intOf]; omega
              · clear hr'
                go_wp2_with fail
                refine (count_any _ _ most _ _ hr hm1 hm2).mono ?_
                rintro e w7 ⟨rfl, F7, hr7, hs7, hm7⟩
                rw [rcountS_none] at hr7 ⊢
                have hf7 : Fresh w.heap.size F7 := fun i hi => hf i (hs7 i hi)
                have hB7 := bmod hB hm7 (fun i e => by subst e; exact hf _ hr.self) hB.size
                clear hm7 hs7 hr

                go_wp2_with fail
                refine (ok_any _ _ _ _ hr7).mono ?_
                rintro e wa ⟨rfl, rfl⟩
                go_wp2_with fail
                refine (left_any _ _ _ _ hr7).mono ?_
                rintro e wa ⟨rfl, rfl⟩
                go_wp2_with fail
                refine (end_any _ _ _ _ hr7).mono ?_
                rintro e wa ⟨rfl, rfl⟩

                have HRel := Lib.hid (show RestRel w.heap.size w g (.slice none 0 0) (.bool true) w7 from ⟨none, none, 0, F7, rfl, rfl, Rd.nil _ _ _, Nat.le_refl _, Nat.zero_le _, Nat.zero_le _, hr7, hf7, hB7⟩)
                clear hr7
                go_wp2
                go_roundw
                case rel => exact ⟨k + 1, by omega, by go_num, HRel.out⟩
                case measure => simp [intOf]; omega
              · clear hr'
                go_wp2_with fail
                refine (rtext_any _ _ _ _ hr).mono ?_
                rintro e w7 ⟨rfl, F7, hr7, hs7, hm7⟩
                rw [show rtextS none = ([], none) from rfl] at hr7 ⊢
                have hf7 : Fresh w.heap.size F7 := fun i hi => hf i (hs7 i hi)
                have hB7 := bmod hB hm7 (fun i e => by subst e; exact hf _ hr.self) hB.size
                clear hm7 hs7 hr

                go_wp2_with fail
                refine (ok_any _ _ _ _ hr7).mono ?_
                rintro e wa ⟨rfl, rfl⟩
                go_wp2_with fail
                refine (left_any _ _ _ _ hr7).mono ?_
                rintro e wa ⟨rfl, rfl⟩
                go_wp2_with fail
                refine (end_any _ _ _ _ hr7).mono ?_
                rintro e wa ⟨rfl, rfl⟩

                have HRel := Lib.hid (show RestRel w.heap.size w g (.slice none 0 0) (.bool true) w7 from ⟨none, none, 0, F7, rfl, rfl, Rd.nil _ _ _, Nat.le_refl _, Nat.zero_le _, Nat.zero_le _, hr7, hf7, hB7⟩)
                clear hr7
                go_wp2
                go_roundw
                case rel => exact ⟨k + 1, by omega, by go_num, HRel.out⟩
                case measure => simp [intOf]; omega
              · clear hr'
                go_wp2_with fail
                refine (rflag_any _ _ _ _ hr).mono ?_
                rintro e w7 ⟨rfl, F7, hr7, hs7, hm7⟩
                rw [show rflagS none = (false, none) by simp [rflagS, rcountS_none]] at hr7 ⊢
                have hf7 : Fresh w.heap.size F7 := fun i hi => hf i (hs7 i hi)
                have hB7 := bmod hB hm7 (fun i e => by subst e; exact hf _ hr.self) hB.size
                clear hm7 hs7 hr

                go_wp2_with fail
                refine (ok_any _ _ _ _ hr7).mono ?_
                rintro e wa ⟨rfl, rfl⟩
                go_wp2_with fail
                refine (left_any _ _ _ _ hr7).mono ?_
                rintro e wa ⟨rfl, rfl⟩
                go_wp2_with fail
                refine (end_any _ _ _ _ hr7).mono ?_
                rintro e wa ⟨rfl, rfl⟩

                have HRel := Lib.hid (show RestRel w.heap.size w g (.slice none 0 0) (.bool true) w7 from ⟨none, none, 0, F7, rfl, rfl, Rd.nil _ _ _, Nat.le_refl _, Nat.zero_le _, Nat.zero_le _, hr7, hf7, hB7⟩)
                clear hr7
                go_wp2
                go_roundw
                case rel => exact ⟨k + 1, by omega, by go_num, HRel.out⟩
                case measure => simp [intOf]; omega
            · have hRw := hR.below hB
              simp only [Option.getD_some] at hR hRc hR1 hRw
              have hget := ref1get_any R l.length c l wr hRw (by omega)
              rcases hrn : rnum l with _ | ⟨n, r⟩
              · have g1 : getS l = (0, 0) := by simp [getS, hrn]
                have g2 : getTextS l = ([], 0) := by simp [getTextS, hrn]
                have g3 : rnumS (some l) = (0, none) := by simp [rnumS, hrn]
                have g4 : rcountS (some l) most = (0, none) := by simp [rcountS, g3]
                have g5 : rtextS (some l) = ([], none) := by simp [rtextS, g3]
                have g6 : rflagS (some l) = (false, none) := by simp [rflagS, rcountS, g3]
                rw [g1] at hget
                have G3 := Lib.hid g3
                have G4 := Lib.hid g4
                have G5 := Lib.hid g5
                have G6 := Lib.hid g6
                have G2 := Lib.hid g2
                have Hget := Lib.hid hget
                clear g1 g2 g3 g4 g5 g6 hget hrn
                rcases hm4 with rfl | rfl | rfl | rfl
                · go_wp2_with fail
                  refine Hget.out.mono ?_
                  rintro e wa ⟨rfl, rfl⟩

                  go_wp2_with fail
                  refine (rnum_any _ _ _ _ hr).mono ?_
                  rintro e w7 ⟨rfl, F7, hr7, hs7, hm7⟩
                  rw [G3.out] at hr7 ⊢
                  have hf7 : Fresh w.heap.size F7 := fun i hi => hf i (hs7 i hi)
                  have hB7 := bmod hB hm7 (fun i e => by subst e; exact hf _ hr.self) hB.size
                  clear hm7 hs7 hr

                  go_wp2_with fail
                  refine (ok_any _ _ _ _ hr7).mono ?_
                  rintro e wa ⟨rfl, rfl⟩
                  go_wp2_with fail
                  refine (left_any _ _ _ _ hr7).mono ?_
                  rintro e wa ⟨rfl, rfl⟩
                  go_wp2_with fail
                  refine (end_any _ _ _ _ hr7).mono ?_
                  rintro e wa ⟨rfl, rfl⟩

                  have HRel := Lib.hid (show RestRel w.heap.size w g (.slice none 0 0) (.bool true) w7 from ⟨none, none, 0, F7, rfl, rfl, Rd.nil _ _ _, Nat.le_refl _, Nat.zero_le _, Nat.zero_le _, hr7, hf7, hB7⟩)
                  clear hr7
                  go_wp2
                  go_roundw
                  case rel => exact ⟨k + 1, by omega, by go_num, HRel.out⟩
                  case measure => simp [intOf]; omega
                · go_wp2_with fail
                  refine Hget.out.mono ?_
                  rintro e wa ⟨rfl, rfl⟩

                  go_wp2_with fail
                  refine (count_any _ _ most _ _ hr hm1 hm2).mono ?_
                  rintro e w7 ⟨rfl, F7, hr7, hs7, hm7⟩
                  rw [G4.out] at hr7 ⊢
                  have hf7 : Fresh w.heap.size F7 := fun i hi => hf i (hs7 i hi)
                  have hB7 := bmod hB hm7 (fun i e => by subst e; exact hf _ hr.self) hB.size
                  clear hm7 hs7 hr

                  go_wp2_with fail
                  refine (ok_any _ _ _ _ hr7).mono ?_
                  rintro e wa ⟨rfl, rfl⟩
                  go_wp2_with fail
                  refine (left_any _ _ _ _ hr7).mono ?_
                  rintro e wa ⟨rfl, rfl⟩
                  go_wp2_with fail
                  refine (end_any _ _ _ _ hr7).mono ?_
                  rintro e wa ⟨rfl, rfl⟩

                  have HRel := Lib.hid (show RestRel w.heap.size w g (.slice none 0 0) (.bool true) w7 from ⟨none, none, 0, F7, rfl, rfl, Rd.nil _ _ _, Nat.le_refl _, Nat.zero_le _, Nat.zero_le _, hr7, hf7, hB7⟩)
                  clear hr7
                  go_wp2
                  go_roundw
                  case rel => exact ⟨k + 1, by omega, by go_num, HRel.out⟩
                  case measure => simp [intOf]; omega
                · go_wp2_with fail
                  refine Hget.out.mono ?_
                  rintro e wa ⟨rfl, rfl⟩

                  go_wp2_with fail
                  refine (ref1gettext_any R l.length c l wr hRw (by omega) hRc hcm).mono ?_
                  rintro e wa ⟨rfl, rfl⟩
                  rw [G2.out]

                  go_wp2_with fail
                  refine (rtext_any _ _ _ _ hr).mono ?_
                  rintro e w7 ⟨rfl, F7, hr7, hs7, hm7⟩
                  rw [G5.out] at hr7 ⊢
                  have hf7 : Fresh w.heap.size F7 := fun i hi => hf i (hs7 i hi)
                  have hB7 := bmod hB hm7 (fun i e => by subst e; exact hf _ hr.self) hB.size
                  clear hm7 hs7 hr

                  go_wp2_with fail
                  refine (ok_any _ _ _ _ hr7).mono ?_
                  rintro e wa ⟨rfl, rfl⟩
                  go_wp2_with fail
                  refine (left_any _ _ _ _ hr7).mono ?_
                  rintro e wa ⟨rfl, rfl⟩
                  go_wp2_with fail
                  refine (end_any _ _ _ _ hr7).mono ?_
                  rintro e wa ⟨rfl, rfl⟩

                  have HRel := Lib.hid (show RestRel w.heap.size w g (.slice none 0 0) (.bool true) w7 from ⟨none, none, 0, F7, rfl, rfl, Rd.nil _ _ _, Nat.le_refl _, Nat.zero_le _, Nat.zero_le _, hr7, hf7, hB7⟩)
                  clear hr7
                  go_wp2
                  go_roundw
                  case rel => exact ⟨k + 1, by omega, by go_num, HRel.out⟩
                  case measure => simp [intOf]; omega
                · go_wp2_with fail
                  refine Hget.out.mono ?_
                  rintro e wa ⟨rfl, rfl⟩

                  go_wp2_with fail
                  refine (rflag_any _ _ _ _ hr).mono ?_
                  rintro e w7 ⟨rfl, F7, hr7, hs7, hm7⟩
                  rw [G6.out] at hr7 ⊢
                  have hf7 : Fresh w.heap.size F7 := fun i hi => hf i (hs7 i hi)
                  have hB7 := bmod hB hm7 (fun i e => by subst e; exact hf _ hr.self) hB.size
                  clear hm7 hs7 hr

                  go_wp2_with fail
                  refine (ok_any _ _ _ _ hr7).mono ?_
                  rintro e wa ⟨rfl, rfl⟩
                  go_wp2_with fail
                  refine (left_any _ _ _ _ hr7).mono ?_
                  rintro e wa ⟨rfl, rfl⟩
                  go_wp2_with fail
                  refine (end_any _ _ _ _ hr7).mono ?_
                  rintro e wa ⟨rfl, rfl⟩

                  have HRel := Lib.hid (show RestRel w.heap.size w g (.slice none 0 0) (.bool true) w7 from ⟨none, none, 0, F7, rfl, rfl, Rd.nil _ _ _, Nat.le_refl _, Nat.zero_le _, Nat.zero_le _, hr7, hf7, hB7⟩)
                  clear hr7
                  go_wp2
                  go_roundw
                  case rel => exact ⟨k + 1, by omega, by go_num, HRel.out⟩
                  case measure => simp [intOf]; omega
              · obtain ⟨hr1, hr2⟩ := rnum_rest hrn
                obtain ⟨hn1, hn2⟩ := rnum_bounds hrn
                obtain ⟨q, hq⟩ : ∃ q, q = l.length - r.length := ⟨_, rfl⟩
                have g1 : getS l = (n, q) := by simp [getS, hrn, hq]
                have g2 : getTextS l = if n < 0 ∨ (r.length : Int) < n then ([], 0) else (r.take n.toNat, q + n.toNat) := by simp [getTextS, hrn, hq]
                have g3 : rnumS (some l) = (n, some r) := by simp [rnumS, hrn]
                have g4 : rcountS (some l) most = if n < 0 ∨ most < n then (0, none) else (n, some r) := by simp [rcountS, g3]
                have g5 : rtextS (some l) = if n < 0 ∨ (r.length : Int) < n then ([], none) else (r.take n.toNat, some (r.drop n.toNat)) := by simp [rtextS, g3]
                have g6 : rcountS (some l) 1 = if n < 0 ∨ 1 < n then (0, none) else (n, some r) := by simp [rcountS, g3]
                rw [g1] at hget
                rw [← hq] at hr1
                have hq0 : 0 < q := by omega
                have hql : q ≤ l.length := by omega
                have hrq : r.length + q ≤ l.length := by omega
                have hrq2 : l.length ≤ r.length + q := by omega
                have HR := Lib.hid hr1
                have G2 := Lib.hid g2
                have G3 := Lib.hid g3
                have G4 := Lib.hid g4
                have G5 := Lib.hid g5
                have G6 := Lib.hid g6
                have Hget := Lib.hid hget
                clear g1 g2 g3 g4 g5 g6 hget hrn hr1 hr2 hq
                rcases hm4 with rfl | rfl | rfl | rfl
                · obtain ⟨R2, n2, c2, hsl, hC⟩ := cut_rest R l c q r w hR hRc hcm hR1 (by omega) (by first | exact HR.out | exact HR2.out)
                  have HC := Lib.hid hC
                  clear hC

                  go_wp2_with fail
                  refine Hget.out.mono ?_
                  rintro e wa ⟨rfl, rfl⟩

                  go_wp2_with fail
                  refine (rnum_any _ _ _ _ hr).mono ?_
                  rintro e w7 ⟨rfl, F7, hr7, hs7, hm7⟩
                  rw [G3.out] at hr7 ⊢
                  have hf7 : Fresh w.heap.size F7 := fun i hi => hf i (hs7 i hi)
                  have hB7 := bmod hB hm7 (fun i e => by subst e; exact hf _ hr.self) hB.size
                  clear hm7 hs7 hr

                  go_wp2_with fail
                  refine (ok_any _ _ _ _ hr7).mono ?_
                  rintro e wa ⟨rfl, rfl⟩
                  go_wp2_with fail
                  refine (left_any _ _ _ _ hr7).mono ?_
                  rintro e wa ⟨rfl, rfl⟩
                  rw [HC.out.1]
                  go_wp2_with fail
                  refine (end_any _ _ _ _ hr7).mono ?_
                  rintro e wa ⟨rfl, rfl⟩
                  rw [HC.out.2.1]
                  have HRel := Lib.hid (show RestRel w.heap.size w g (.slice R2 n2 c2) (.bool false) w7 from ⟨some r, R2, c2, F7, by rw [HC.out.1], rfl, HC.out.2.2.1, HC.out.2.2.2.1, HC.out.2.2.2.2.1, HC.out.2.2.2.2.2, hr7, hf7, hB7⟩)
                  clear hr7
                  go_wp2
                  go_roundw
                  case rel => exact ⟨k + 1, by omega, by go_num, HRel.out⟩
                  case measure => simp [intOf]; omega
                · by_cases hcm1 : n < 0 ∨ most < n
                  · rw [if_pos hcm1] at G4
                    have hcs : n < 0 ∨ (0 ≤ n ∧ most < n) := by omega
                    clear hcm1
                    rcases hcs with h0 | ⟨h0, h0'⟩
                    all_goals
                      first
                      | (have td : decide (0 ≤ n) = false := by simp; omega)
                      | (have td : decide (n ≤ most) = false := by simp; omega)
                      go_wp2_with fail
                      refine Hget.out.mono ?_
                      rintro e wa ⟨rfl, rfl⟩

                      go_wp2_with fail
                      refine (count_any _ _ most _ _ hr hm1 hm2).mono ?_
                      rintro e w7 ⟨rfl, F7, hr7, hs7, hm7⟩
                      rw [G4.out] at hr7 ⊢
                      have hf7 : Fresh w.heap.size F7 := fun i hi => hf i (hs7 i hi)
                      have hB7 := bmod hB hm7 (fun i e => by subst e; exact hf _ hr.self) hB.size
                      clear hm7 hs7 hr

                      go_wp2_with fail
                      refine (ok_any _ _ _ _ hr7).mono ?_
                      rintro e wa ⟨rfl, rfl⟩
                      go_wp2_with fail
                      refine (left_any _ _ _ _ hr7).mono ?_
                      rintro e wa ⟨rfl, rfl⟩
                      go_wp2_with fail
                      refine (end_any _ _ _ _ hr7).mono ?_
                      rintro e wa ⟨rfl, rfl⟩
                      have HRel := Lib.hid (show RestRel w.heap.size w g (.slice none 0 0) (.bool true) w7 from ⟨none, none, 0, F7, rfl, rfl, Rd.nil _ _ _, Nat.le_refl _, Nat.zero_le _, Nat.zero_le _, hr7, hf7, hB7⟩)
                      clear hr7
                      go_wp2
                      go_roundw
                      case rel => exact ⟨k + 1, by omega, by go_num, HRel.out⟩
                      case measure => simp [intOf]; omega
                  · rw [if_neg hcm1] at G4
                    have h0 : 0 ≤ n := by omega
                    have h0' : n ≤ most := by omega
                    clear hcm1

                    obtain ⟨R2, n2, c2, hsl, hC⟩ := cut_rest R l c q r w hR hRc hcm hR1 (by omega) (by first | exact HR.out | exact HR2.out)
                    have HC := Lib.hid hC
                    clear hC

                    go_wp2_with fail
                    refine Hget.out.mono ?_
                    rintro e wa ⟨rfl, rfl⟩

                    go_wp2_with fail
                    refine (count_any _ _ most _ _ hr hm1 hm2).mono ?_
                    rintro e w7 ⟨rfl, F7, hr7, hs7, hm7⟩
                    rw [G4.out] at hr7 ⊢
                    have hf7 : Fresh w.heap.size F7 := fun i hi => hf i (hs7 i hi)
                    have hB7 := bmod hB hm7 (fun i e => by subst e; exact hf _ hr.self) hB.size
                    clear hm7 hs7 hr

                    go_wp2_with fail
                    refine (ok_any _ _ _ _ hr7).mono ?_
                    rintro e wa ⟨rfl, rfl⟩
                    go_wp2_with fail
                    refine (left_any _ _ _ _ hr7).mono ?_
                    rintro e wa ⟨rfl, rfl⟩
                    rw [HC.out.1]
                    go_wp2_with fail
                    refine (end_any _ _ _ _ hr7).mono ?_
                    rintro e wa ⟨rfl, rfl⟩
                    rw [HC.out.2.1]
                    have HRel := Lib.hid (show RestRel w.heap.size w g (.slice R2 n2 c2) (.bool false) w7 from ⟨some r, R2, c2, F7, by rw [HC.out.1], rfl, HC.out.2.2.1, HC.out.2.2.2.1, HC.out.2.2.2.2.1, HC.out.2.2.2.2.2, hr7, hf7, hB7⟩)
                    clear hr7
                    go_wp2
                    go_roundw
                    case rel => exact ⟨k + 1, by omega, by go_num, HRel.out⟩
                    case measure => simp [intOf]; omega
                · by_cases hcm1 : n < 0 ∨ (r.length : Int) < n
                  · rw [if_pos hcm1] at G2 G5
                    clear hcm1

                    go_wp2_with fail
                    refine Hget.out.mono ?_
                    rintro e wa ⟨rfl, rfl⟩

                    go_wp2_with fail
                    refine (ref1gettext_any R l.length c l wr hRw (by omega) hRc hcm).mono ?_
                    rintro e wa ⟨rfl, rfl⟩
                    rw [G2.out]

                    go_wp2_with fail
                    refine (rtext_any _ _ _ _ hr).mono ?_
                    rintro e w7 ⟨rfl, F7, hr7, hs7, hm7⟩
                    rw [G5.out] at hr7 ⊢
                    have hf7 : Fresh w.heap.size F7 := fun i hi => hf i (hs7 i hi)
                    have hB7 := bmod hB hm7 (fun i e => by subst e; exact hf _ hr.self) hB.size
                    clear hm7 hs7 hr

                    go_wp2_with fail
                    refine (ok_any _ _ _ _ hr7).mono ?_
                    rintro e wa ⟨rfl, rfl⟩
                    go_wp2_with fail
                    refine (left_any _ _ _ _ hr7).mono ?_
                    rintro e wa ⟨rfl, rfl⟩
                    go_wp2_with fail
                    refine (end_any _ _ _ _ hr7).mono ?_
                    rintro e wa ⟨rfl, rfl⟩
                    have HRel := Lib.hid (show RestRel w.heap.size w g (.slice none 0 0) (.bool true) w7 from ⟨none, none, 0, F7, rfl, rfl, Rd.nil _ _ _, Nat.le_refl _, Nat.zero_le _, Nat.zero_le _, hr7, hf7, hB7⟩)
                    clear hr7
                    go_wp2
                    go_roundw
                    case rel => exact ⟨k + 1, by omega, by go_num, HRel.out⟩
                    case measure => simp [intOf]; omega
                  · rw [if_neg hcm1] at G2 G5
                    obtain ⟨mm, rfl⟩ := Int.eq_ofNat_of_zero_le (show 0 ≤ n by omega)
                    rw [Int.toNat_natCast] at G2 G5
                    have hmr : mm ≤ r.length := by omega
                    have HR2 := Lib.hid (show r.drop mm = l.drop (q + mm) by rw [HR.out, List.drop_drop])
                    clear hcm1
                    obtain ⟨r2, hr2⟩ : ∃ r2, r2 = r.drop mm := ⟨_, rfl⟩
                    rw [← hr2] at HR2 G5
                    clear hr2

                    obtain ⟨R2, n2, c2, hsl, hC⟩ := cut_rest R l c (q + mm) r2 w hR hRc hcm hR1 (by omega) (by first | exact HR.out | exact HR2.out)
                    simp only [Int.natCast_add] at hsl
                    have HC := Lib.hid hC
                    clear hC

                    go_wp2_with fail
                    refine Hget.out.mono ?_
                    rintro e wa ⟨rfl, rfl⟩

                    go_wp2_with fail
                    refine (ref1gettext_any R l.length c l wr hRw (by omega) hRc hcm).mono ?_
                    rintro e wa ⟨rfl, rfl⟩
                    rw [G2.out]

                    go_wp2_with fail
                    refine (rtext_any _ _ _ _ hr).mono ?_
                    rintro e w7 ⟨rfl, F7, hr7, hs7, hm7⟩
                    rw [G5.out] at hr7 ⊢
                    have hf7 : Fresh w.heap.size F7 := fun i hi => hf i (hs7 i hi)
                    have hB7 := bmod hB hm7 (fun i e => by subst e; exact hf _ hr.self) hB.size
                    clear hm7 hs7 hr

                    go_wp2_with fail
                    refine (ok_any _ _ _ _ hr7).mono ?_
                    rintro e wa ⟨rfl, rfl⟩
                    go_wp2_with fail
                    refine (left_any _ _ _ _ hr7).mono ?_
                    rintro e wa ⟨rfl, rfl⟩
                    rw [HC.out.1]
                    go_wp2_with fail
                    refine (end_any _ _ _ _ hr7).mono ?_
                    rintro e wa ⟨rfl, rfl⟩
                    rw [HC.out.2.1]
                    have HRel := Lib.hid (show RestRel w.heap.size w g (.slice R2 n2 c2) (.bool false) w7 from ⟨some r2, R2, c2, F7, by rw [HC.out.1], rfl, HC.out.2.2.1, HC.out.2.2.2.1, HC.out.2.2.2.2.1, HC.out.2.2.2.2.2, hr7, hf7, hB7⟩)
                    clear hr7
                    go_wp2
                    go_roundw
                    case rel => exact ⟨k + 1, by omega, by go_num, HRel.out⟩
                    case measure => simp [intOf]; omega
                · have hcs : (n < 0 ∨ 2 ≤ n) ∨ (0 ≤ n ∧ n ≤ 0) ∨ (1 ≤ n ∧ n ≤ 1) := by omega
                  rcases hcs with h0 | ⟨h0, h0'⟩ | ⟨h0, h0'⟩
                  · have G7 := Lib.hid (show rflagS (some l) = (false, none) by simp [rflagS, G6.out, if_pos (show n < 0 ∨ 1 < n by omega)])
                    have t0 : (n == 0) = false := by rw [beq_eq_false_iff_ne]; omega
                    have t1 : (n == 1) = false := by rw [beq_eq_false_iff_ne]; omega
                    clear h0

                    go_wp2_with fail
                    refine Hget.out.mono ?_
                    rintro e wa ⟨rfl, rfl⟩

                    go_wp2_with fail
                    refine (rflag_any _ _ _ _ hr).mono ?_
                    rintro e w7 ⟨rfl, F7, hr7, hs7, hm7⟩
                    rw [G7.out] at hr7 ⊢
                    have hf7 : Fresh w.heap.size F7 := fun i hi => hf i (hs7 i hi)
                    have hB7 := bmod hB hm7 (fun i e => by subst e; exact hf _ hr.self) hB.size
                    clear hm7 hs7 hr

                    go_wp2_with fail
                    refine (ok_any _ _ _ _ hr7).mono ?_
                    rintro e wa ⟨rfl, rfl⟩
                    go_wp2_with fail
                    refine (left_any _ _ _ _ hr7).mono ?_
                    rintro e wa ⟨rfl, rfl⟩
                    go_wp2_with fail
                    refine (end_any _ _ _ _ hr7).mono ?_
                    rintro e wa ⟨rfl, rfl⟩
                    have HRel := Lib.hid (show RestRel w.heap.size w g (.slice none 0 0) (.bool true) w7 from ⟨none, none, 0, F7, rfl, rfl, Rd.nil _ _ _, Nat.le_refl _, Nat.zero_le _, Nat.zero_le _, hr7, hf7, hB7⟩)
                    clear hr7
                    go_wp2
                    go_roundw
                    case rel => exact ⟨k + 1, by omega, by go_num, HRel.out⟩
                    case measure => simp [intOf]; omega
                  · have t0 : (n == 0) = true := by rw [beq_iff_eq]; omega
                    have t1 : (n == 1) = false := by rw [beq_eq_false_iff_ne]; omega
                    have G7 := Lib.hid (show rflagS (some l) = (false, some r) by simp only [rflagS, G6.out, if_neg (show ¬ (n < 0 ∨ 1 < n) by omega), t1])

                    obtain ⟨R2, n2, c2, hsl, hC⟩ := cut_rest R l c q r w hR hRc hcm hR1 (by omega) (by first | exact HR.out | exact HR2.out)
                    have HC := Lib.hid hC
                    clear hC

                    go_wp2_with fail
                    refine Hget.out.mono ?_
                    rintro e wa ⟨rfl, rfl⟩

                    go_wp2_with fail
                    refine (rflag_any _ _ _ _ hr).mono ?_
                    rintro e w7 ⟨rfl, F7, hr7, hs7, hm7⟩
                    rw [G7.out] at hr7 ⊢
                    have hf7 : Fresh w.heap.size F7 := fun i hi => hf i (hs7 i hi)
                    have hB7 := bmod hB hm7 (fun i e => by subst e; exact hf _ hr.self) hB.size
                    clear hm7 hs7 hr

                    go_wp2_with fail
                    refine (ok_any _ _ _ _ hr7).mono ?_
                    rintro e wa ⟨rfl, rfl⟩
                    go_wp2_with fail
                    refine (left_any _ _ _ _ hr7).mono ?_
                    rintro e wa ⟨rfl, rfl⟩
                    rw [HC.out.1]
                    go_wp2_with fail
                    refine (end_any _ _ _ _ hr7).mono ?_
                    rintro e wa ⟨rfl, rfl⟩
                    rw [HC.out.2.1]
                    have HRel := Lib.hid (show RestRel w.heap.size w g (.slice R2 n2 c2) (.bool false) w7 from ⟨some r, R2, c2, F7, by rw [HC.out.1], rfl, HC.out.2.2.1, HC.out.2.2.2.1, HC.out.2.2.2.2.1, HC.out.2.2.2.2.2, hr7, hf7, hB7⟩)
                    clear hr7
                    go_wp2
                    go_roundw
                    case rel => exact ⟨k + 1, by omega, by go_num, HRel.out⟩
                    case measure => simp [intOf]; omega
                  · have t0 : (n == 0) = false := by rw [beq_eq_false_iff_ne]; omega
                    have t1 : (n == 1) = true := by rw [beq_iff_eq]; omega
                    have G7 := Lib.hid (show rflagS (some l) = (true, some r) by simp only [rflagS, G6.out, if_neg (show ¬ (n < 0 ∨ 1 < n) by omega), t1])

                    obtain ⟨R2, n2, c2, hsl, hC⟩ := cut_rest R l c q r w hR hRc hcm hR1 (by omega) (by first | exact HR.out | exact HR2.out)
                    have HC := Lib.hid hC
                    clear hC

                    go_wp2_with fail
                    refine Hget.out.mono ?_
                    rintro e wa ⟨rfl, rfl⟩

                    go_wp2_with fail
                    refine (rflag_any _ _ _ _ hr).mono ?_
                    rintro e w7 ⟨rfl, F7, hr7, hs7, hm7⟩
                    rw [G7.out] at hr7 ⊢
                    have hf7 : Fresh w.heap.size F7 := fun i hi => hf i (hs7 i hi)
                    have hB7 := bmod hB hm7 (fun i e => by subst e; exact hf _ hr.self) hB.size
                    clear hm7 hs7 hr

                    go_wp2_with fail
                    refine (ok_any _ _ _ _ hr7).mono ?_
                    rintro e wa ⟨rfl, rfl⟩
                    go_wp2_with fail
                    refine (left_any _ _ _ _ hr7).mono ?_
                    rintro e wa ⟨rfl, rfl⟩
                    rw [HC.out.1]
                    go_wp2_with fail
                    refine (end_any _ _ _ _ hr7).mono ?_
                    rintro e wa ⟨rfl, rfl⟩
                    rw [HC.out.2.1]
                    have HRel := Lib.hid (show RestRel w.heap.size w g (.slice R2 n2 c2) (.bool false) w7 from ⟨some r, R2, c2, F7, by rw [HC.out.1], rfl, HC.out.2.2.1, HC.out.2.2.2.1, HC.out.2.2.2.2.1, HC.out.2.2.2.2.2, hr7, hf7, hB7⟩)
                    clear hr7
                    go_wp2
                    go_roundw
                    case rel => exact ⟨k + 1, by omega, by go_num, HRel.out⟩
                    case measure => simp [intOf]; omega
          · obtain rfl : n1 = k := by omega
            clear hR hr hf
            go_wp2_with fail
            refine (rnum_nil _).mono ?_
            rintro e wa ⟨rfl, rfl⟩
            go_wp2_with fail
            refine (count_nil 9 _).mono ?_
            rintro e wa ⟨rfl, rfl⟩
            go_wp2_with fail
            refine (rtext_nil _).mono ?_
            rintro e wa ⟨rfl, rfl⟩
            go_wp2_with fail
            refine (rflag_nil _).mono ?_
            rintro e wa ⟨rfl, rfl⟩
            go_wp2_with fail
            refine (left_nil _).mono ?_
            rintro e wa ⟨rfl, rfl⟩
            go_wp2_with fail
            refine (ok_nil _).mono ?_
            rintro e wa ⟨rfl, rfl⟩
            go_wp2_with fail
            refine (end_nil _).mono ?_
            rintro e wa ⟨rfl, rfl⟩
            go_wp2
            go_returns
            exact ⟨rfl, hB⟩
  · by_cases h0 : 1000 < n0
    · have Hg := Lib.hid hg
      clear hg
      go_enter Try.func7, Try.ntmps7
      go_wp2_with fail
      refine (law1first_any w).mono ?_
      rintro e w1 ⟨rfl, hB1⟩
      go_wp2
      go_returns
      exact ⟨rfl, hB1⟩
    · have h1 : 100 < n1 := by omega
      have Hg := Lib.hid hg
      clear hg
      go_enter Try.func7, Try.ntmps7
      go_wp2_with fail
      refine (law1first_any w).mono ?_
      rintro e w1 ⟨rfl, hB1⟩
      go_wp2
      go_returns
      exact ⟨rfl, hB1⟩
end Go.Proofs.Ythmonbkdecacnaa
