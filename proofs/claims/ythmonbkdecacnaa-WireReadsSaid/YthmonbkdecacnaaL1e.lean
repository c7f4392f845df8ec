import Derived.Test.YthmonbkdecacnaaL1d
import Derived.Test.YthmonbkdecacnaaRef1
namespace Go.Proofs.Ythmonbkdecacnaa
open Go.RowKit

theorem num1 : num 1 = [1, 1] := by simp [num, mag, sig, digs_pos, digs_zero]
theorem num0 : num 0 = [0] := by simp [num, mag, sig, digs_zero]
/-- what the law writes for a number -/
def evB (z : Int) : List UInt8 := num z ++ num (if (z.tmod 2 == 0) = true then 1 else 0)
def evsB (l : List Int) : List UInt8 := l.flatMap evB
theorem evsB_snoc (l : List Int) (k : Nat) (h : k < l.length) : evsB (l.take (k + 1)) = evsB (l.take k) ++ evB l[k] := by
  unfold evsB; rw [List.take_succ_eq_append_getElem h]; simp only [List.flatMap_append, List.flatMap_cons, List.flatMap_nil, List.append_nil]
theorem evB_len (z : Int) (h1 : -9223372036854775808 ≤ z) (h2 : z ≤ 9223372036854775807) : (evB z).length ≤ 11 := by
  have := num_len z h1 h2
  unfold evB
  rw [List.length_append]
  split
  · rw [num1]; simp; omega
  · rw [num0]; simp; omega
theorem evsB_len (l : List Int) (h : ∀ z ∈ l, -9223372036854775808 ≤ z ∧ z ≤ 9223372036854775807) : (evsB l).length ≤ 11 * l.length := by
  induction l with
  | nil => simp [evsB]
  | cons z l ih =>
    have h1 := evB_len z (h z (by simp)).1 (h z (by simp)).2
    have h2 := ih fun x hx => h x (by simp [hx])
    simp only [evsB, List.flatMap_cons, List.length_append, List.length_cons] at h2 ⊢
    omega
/-- the relations of the law's loops -/
def Wrote (B : Nat) (w0 : World) (g : Nat) (bs : List UInt8) (want : Value) (w : World) : Prop := want = .string ⟨bs.toArray⟩ ∧ ∃ F, Wr w g bs F ∧ Fresh B F ∧ Below B w0 w

set_option maxRecDepth 100000 in
set_option maxHeartbeats 4000000 in
theorem wireWrites_walk (A0 : Option Addr) (n0 c0 : Nat) (zs : List Int) (A1 : Option Addr) (n1 c1 : Nat) (ss : List ByteArray) (A2 : Option Addr) (n2 c2 : Nat) (raw : List UInt8) (w : World)
    (r0 : Rd w 1 A0 n0 (zs.map (Value.int .i64))) (e0 : zs.length = n0) (_ : n0 ≤ c0) (m0 : c0 ≤ maxLen) (z0 : ∀ z ∈ zs, (Lit.int .i64 z).wf = true)
    (r1 : Rd w 1 A1 n1 (ss.map Value.string)) (e1 : ss.length = n1) (_ : n1 ≤ c1) (m1 : c1 ≤ maxLen) (z1 : ∀ s ∈ ss, s.size ≤ maxLen)
    (r2 : Rd w 1 A2 n2 (u8s raw)) (e2 : raw.length = n2) (_ : n2 ≤ c2) (m2 : c2 ≤ maxLen) :
    Calls Try.prog 5 #[.slice A0 n0 c0, .slice A1 n1 c1, .slice A2 n2 c2] w fun e w' => e = .returned (.bool true) ∧ Below w.heap.size w w' := by
  have E0 := Lib.hid e0
  have E1 := Lib.hid e1
  have E2 := Lib.hid e2
  have Z0 := Lib.hid (fun z hz => Go.bounds_i64 (z0 z hz))
  have Z1 := Lib.hid z1
  clear e0 e1 e2 z0 z1
  unfold maxLen at m0 m1 m2
  by_cases hg : n0 ≤ 100 ∧ n1 ≤ 100 ∧ n2 ≤ 500
  · obtain ⟨hg0, hg1, hg2⟩ := hg
    go_enter Try.func5, Try.ntmps5
    go_wp2_with fail
    refine (law1first_any w).mono ?_
    rintro e w1 ⟨rfl, hB1⟩
    go_wp2_with fail
    have hsz1 := hB1.size
    go_loopw [8, 37] (fun s8 s37 wr => ∃ k : Nat, k ≤ n0 ∧ s37 = .int .i64 k ∧ Wrote w.heap.size w w1.heap.size (evsB (zs.take k)) s8 wr) (fun _ i _ => n0 - (intOf i).toNat)
    case atStart => exact ⟨0, Nat.zero_le _, rfl, rfl, _, wr_new w1, fun k e => by subst e; exact hsz1, hB1.alloc hsz1 _⟩
    case round =>
      obtain ⟨k, hk, rfl, rfl, F, hx, hf, hB⟩ := hrel
      by_cases hlt : k < n0
      · have hkz : k < zs.length := by rw [E0.out]; exact hlt
        obtain ⟨b, o, rfl, hcell⟩ := (r0.below hB).addr (by omega)
        have hc : wr.cell? ⟨b, o + k, none⟩ = some (.int .i64 zs[k]) := hcell k _ (by simp [List.getElem?_map, List.getElem?_eq_getElem hkz])
        have hz := Z0.out zs[k] (List.getElem_mem hkz)
        have hsn := Lib.hid (evsB_snoc zs k hkz)
        have hl := evsB_len (zs.take k) (fun z hz => Z0.out z (List.mem_of_mem_take hz))
        have hl2 : (zs.take k).length ≤ 100 := by rw [List.length_take]; omega
        generalize zs[k] = z at *
        generalize evsB (zs.take k) = bs at *
        clear hcell
        obtain ⟨hz1, hz2⟩ := hz
        have hnl := num_len z hz1 hz2
        have hcv := fun (w : World) (A : Option Addr) (n c : Nat) (l : List UInt8) (hd : Rd w 1 A n (u8s l)) => run_string_of (P := Try.prog) w 24 9 5 A n c l Try.underlying24 Try.underlying5 Try.underlying9 hd
        have Hcv := Lib.hid hcv
        clear hcv
        obtain ⟨ev, hev⟩ : ∃ ev, ev = (z.tmod 2 == 0) := ⟨_, rfl⟩
        have hevB : evB z = num z ++ num (if ev = true then 1 else 0) := by rw [hev]; rfl
        have hevs := hev.symm
        clear hev
        cases ev
        all_goals
          first | rw [if_pos rfl, num1] at hevB | rw [if_neg (by simp), num0] at hevB
          rw [hevB] at hsn
          clear hevB
          go_wp2_with fail
          refine (number_any _ bs F z _ hx hz1 hz2 (by omega)).mono ?_
          rintro e w2 ⟨rfl, F2, hx2, hg2, hm2⟩
          have hl9 : (bs ++ num z).length ≤ 1200 := by rw [List.length_append]; omega
          go_wp2_with fail
          refine (flag_any _ _ F2 _ _ hx2 (by omega)).mono ?_
          rintro e w3 ⟨rfl, F3, hx3, hg3, hm3⟩
          simp only [reduceCtorEq, if_true, if_false, Bool.false_eq_true, num1, num0] at hx3
          have hf2 := hf.grows hg2 hB.size
          have hB2 := bmod hB hm2 hf hB.size
          have hf3 := hf2.grows hg3 hB2.size
          have hB3 := bmod hB2 hm3 hf2 hB2.size
          clear hx2 hg2 hm2 hg3 hm3
          go_wp2_with fail
          refine (ref1num_any z _ hz1 hz2).mono ?_
          rintro e w4 ⟨A4, c4, rfl, ho4, hf4, hm4⟩
          have hx4 := hx3.keep hm4 (Apart.none _)
          have hB4 := bsame hB3 hm4 hB3.size
          have hcv := Hcv.out w4 A4 _ c4 _ ho4.rd
          have had1 := ByteArray.mk_append_mk bs (num z)
          first
          | have had2 : ((⟨(bs ++ num z).toArray⟩ : ByteArray) ++ ⟨#[1, 1]⟩) = ⟨(bs ++ num z ++ [1, 1]).toArray⟩ := ByteArray.mk_append_mk (bs ++ num z) [1, 1]
            have Hx4 := Lib.hid (show Wrote w.heap.size w w1.heap.size (bs ++ (num z ++ [1, 1])) (.string ⟨(bs ++ num z ++ [1, 1]).toArray⟩) w4 from ⟨by rw [List.append_assoc], F3, by rw [← List.append_assoc]; exact hx4, hf3, hB4⟩)
          | have had2 : ((⟨(bs ++ num z).toArray⟩ : ByteArray) ++ ⟨#[0]⟩) = ⟨(bs ++ num z ++ [0]).toArray⟩ := ByteArray.mk_append_mk (bs ++ num z) [0]
            have Hx4 := Lib.hid (show Wrote w.heap.size w w1.heap.size (bs ++ (num z ++ [0])) (.string ⟨(bs ++ num z ++ [0]).toArray⟩) w4 from ⟨by rw [List.append_assoc], F3, by rw [← List.append_assoc]; exact hx4, hf3, hB4⟩)
          clear ho4 hf4 hm4 hx3 hx4
          go_wp2
          go_roundw
          case rel => exact ⟨k + 1, by omega, by go_num, by rw [hsn.out]; have h9 := Hx4.out; rw [List.append_assoc] at h9; exact h9⟩
          case measure => simp [intOf]; omega
      · obtain rfl : n0 = k := by omega
        have hall : zs.take n0 = zs := List.take_of_length_le (by rw [E0.out]; exact Nat.le_refl _)
        rw [hall] at hx ⊢
        have hln : (evsB zs).length ≤ 1100 := by
          have := evsB_len zs (fun z hz => Z0.out z hz)
          have := E0.out
          omega
        obtain ⟨nb, hnb⟩ : ∃ nb, nb = evsB zs := ⟨_, rfl⟩
        rw [← hnb] at hx hln ⊢
        have hr2 := (r2.below hB).alloc (.cells #[] 5)
        have ho : Own (wr.alloc (.cells #[] 5)) 5 1 (some ⟨wr.heap.size, 0, none⟩) 0 0 (u8s []) := Own.make _ #[] (Blk.made _ _ _) (Nat.le_refl _) (Nat.zero_le _) rfl rfl
        have HX := Lib.hid hx
        clear hnb hall hlt hx
        go_wp2_with (at_builtin; refine wpList_app8 rfl _ _ rfl _ _ _ [] rfl ho _ _ _ raw rfl hr2 (by omega) ?_; intro A3 c3 w3 hown3 hmod3 hA3 hAn3; refine stop_here ?_)
        rw [Nat.zero_add, List.nil_append] at hown3
        have hM3 : Mod (fun _ => False) wr w3 := ((Mod.refl _ _).alloc _).mod hmod3 fun k hk e => by simp [ob] at e; omega
        have hf3 : ∀ k, ob A3 = some k → wr.heap.size ≤ k := by
          intro k hk
          rcases hA3 with rfl | rfl <;> simp [ob] at hk <;> omega
        have hx3 := HX.out.keep hM3 (Apart.none _)
        have hB3 := bsame hB hM3 hB.size
        have hap : Apart F (fun k => ob A3 = some k) := Apart.of_lt (fun k hk => HX.out.lt k hk) (fun k e => hf3 k e)
        clear hr2 ho hmod3 hA3 hAn3 HX
        refine go_on ?_
        go_wp2_with fail
        refine (raw_any _ _ F _ _ _ raw _ hx3 hown3.rd (by omega) (by omega)).mono ?_
        rintro e w4 ⟨rfl, F4, hx4, hg4, hm4⟩
        have hB4 := bmod hB3 hm4 hf hB3.size
        have hf4 := hf.grows hg4 hB3.size
        have hby4 : Bytesy w4 5 A3 n2 c3 := Bytesy.of (hown3.keep hm4 fun k hk => hap.symm k hk)
        have hap4 : Apart F4 (fun k => ob A3 = some k) := hap.grows hg4 (fun k hk => hown3.lt k hk)
        have hcv := run_string_of (P := Try.prog) w4 24 9 5 A2 n2 c2 raw Try.underlying24 Try.underlying5 Try.underlying9 (r2.below hB4)
        have had := ByteArray.mk_append_mk nb raw
        have hrl : raw.length ≤ 500 := by rw [E2.out]; exact hg2
        have hlen4 : (nb ++ raw).length ≤ 1600 := by rw [List.length_append]; omega
        obtain ⟨bs, hbs⟩ : ∃ x, x = nb ++ raw := ⟨_, rfl⟩
        rw [← hbs] at hx4 had hlen4
        have hsz3 := hB3.size
        have hf3' : ∀ k, ob A3 = some k → w.heap.size ≤ k := fun k hk => Nat.le_trans hB.size (hf3 k hk)
        clear hbs hx3 hown3 hM3 hm4 hg4 hap hB3 hf hB hf3
        go_wp2_with fail
        clear hcv had
        obtain ⟨wo, rfl⟩ : ∃ wo : World, wo = wr := ⟨_, rfl⟩
        have HW4 := Lib.hid (show Wr w4 w1.heap.size bs F4 ∧ Below w.heap.size w w4 ∧ Bytesy w4 5 A3 n2 c3 from ⟨hx4, hB4, hby4⟩)
        clear hx4 hB4 hby4
        go_loopw [74] (fun s74 wr => ∃ k : Nat, k ≤ n2 ∧ s74 = .int .i64 k ∧ Wr wr w1.heap.size bs F4 ∧ Below w.heap.size w wr ∧ Bytesy wr 5 A3 n2 c3) (fun i _ => n2 - (intOf i).toNat)
        case atStart => exact ⟨0, Nat.zero_le _, rfl, HW4.out⟩
        case round =>
          clear HW4
          obtain ⟨k, hk, rfl, hx, hB, hby⟩ := hrel
          by_cases hlt : k < n2
          · obtain ⟨g, z, rfl, hcz, hfz, hset⟩ := hby.at_ hlt
            have hB' := fun u => hB.setCell (p := ⟨g, k, none⟩) (hf3' g rfl) u
            have hx' := fun u => hx.keep (Mod.put wr g k u) (fun i h1 h2 => hap4 i h1 (by subst h2; rfl))
            have H' := Lib.hid hB'
            have H'' := Lib.hid hx'
            have H3 := Lib.hid hset
            clear hB' hx' hset hx hby
            go_wp2
            go_roundw
            case rel => exact ⟨k + 1, by omega, by go_num, H''.out _, H'.out _, H3.out _⟩
            case measure => simp [intOf]; omega
          · obtain rfl : n2 = k := by omega
            clear hlt hby
            have HW := Lib.hid hx
            clear hx hap4 hf3'
            go_wp2_with fail
            obtain ⟨wo, rfl⟩ : ∃ wo : World, wo = wr := ⟨_, rfl⟩
            go_loopw [8, 86] (fun s8 s86 wr => ∃ k : Nat, k ≤ n1 ∧ s86 = .int .i64 k ∧ Hid (∀ s ∈ ss.take k, s.size ≤ 500) ∧ Wrote w.heap.size w w1.heap.size (bs ++ txtsB (ss.take k)) s8 wr) (fun _ i _ => n1 - (intOf i).toNat)
            case atStart => exact ⟨0, Nat.zero_le _, rfl, Lib.hid (by simp), by simp [txtsB], F4, by simpa [txtsB] using HW.out, hf4, hB⟩
            case round =>
              clear HW hB hf4
              obtain ⟨j, hj, rfl, hsz, rfl, F3, hx3, hf3, hB3⟩ := hrel
              by_cases hlt : j < n1
              · have hjz : j < ss.length := by rw [E1.out]; exact hlt
                obtain ⟨b, o, rfl, hcell⟩ := (r1.below hB3).addr (by omega)
                have hc : wr.cell? ⟨b, o + j, none⟩ = some (.string ss[j]) := hcell j _ (by simp [List.getElem?_map, List.getElem?_eq_getElem hjz])
                have hz := Z1.out ss[j] (List.getElem_mem hjz)
                unfold maxLen at hz
                have hsn := Lib.hid (txtsB_snoc ss j hjz)
                have hl := txtsB_len 500 (by omega) (ss.take j) hsz.out
                have hl2 : (ss.take j).length ≤ 100 := by rw [List.length_take]; omega
                have Hsz2 := Lib.hid (show ss[j].size ≤ 500 → Hid (∀ s ∈ ss.take (j + 1), s.size ≤ 500) by
                  intro h
                  refine Lib.hid fun s hs => ?_
                  rw [List.take_succ_eq_append_getElem hjz, List.mem_append] at hs
                  rcases hs with hs | hs
                  · exact hsz.out s hs
                  · rw [List.mem_singleton.1 hs]; exact h)
                generalize ss[j] = s at *
                have hlen : (bs ++ txtsB (ss.take j)).length ≤ 60000 := by rw [List.length_append]; omega
                obtain ⟨b2, hb2⟩ : ∃ b2, b2 = bs ++ txtsB (ss.take j) := ⟨_, rfl⟩
                rw [← hb2] at hx3 hlen ⊢
                have Hb2 := Lib.hid hb2
                clear hcell hsz hb2 hl hl2
                by_cases h500 : 500 < s.size
                · go_wp2
                  go_returns
                  exact ⟨rfl, hB3⟩
                · have htl := txt_len s (by omega)
                  go_wp2_with fail
                  refine (text_any _ _ F3 s _ hx3 (by omega) (by omega)).mono ?_
                  rintro e w2 ⟨rfl, F2, hx2, hg2, hm2⟩
                  have hB2 := bmod hB3 hm2 hf3 hB3.size
                  have hf2 := hf3.grows hg2 hB3.size
                  clear hx3 hg2 hm2
                  go_wp2_with fail
                  refine (ref1text_any s _ (by omega)).mono ?_
                  rintro e w3 ⟨A5, c5, rfl, ho5, hf5, hm5⟩
                  have hx5 := hx2.keep hm5 (Apart.none _)
                  have hB5 := bsame hB2 hm5 hB2.size
                  have hcv := run_string_of (P := Try.prog) w3 24 9 5 A5 _ c5 _ Try.underlying24 Try.underlying5 Try.underlying9 ho5.rd
                  have had := ByteArray.mk_append_mk b2 (txt s)
                  have Hx5 := Lib.hid (show Wrote w.heap.size w w1.heap.size (b2 ++ txt s) (.string ⟨(b2 ++ txt s).toArray⟩) w3 from ⟨rfl, F2, hx5, hf2, hB5⟩)
                  clear ho5 hf5 hm5 hx5 hx2
                  go_wp2
                  go_roundw
                  case rel => exact ⟨j + 1, by omega, by go_num, Hsz2.out (by omega), by rw [hsn.out, ← List.append_assoc, ← Hb2.out]; exact Hx5.out⟩
                  case measure => simp [intOf]; omega
              · obtain rfl : n1 = j := by omega
                have hall : ss.take n1 = ss := List.take_of_length_le (by rw [E1.out]; exact Nat.le_refl _)
                rw [hall] at hx3 hsz ⊢
                have hln2 : (bs ++ txtsB ss).length ≤ 60000 := by
                  have := txtsB_len 500 (by omega) ss hsz.out
                  have := E1.out
                  rw [List.length_append]
                  omega
                obtain ⟨b2, hb2⟩ : ∃ b2, b2 = bs ++ txtsB ss := ⟨_, rfl⟩
                rw [← hb2] at hx3 hln2 ⊢
                clear hb2 hall hlt hsz
                go_wp2_with fail
                refine (bytes_any _ b2 _ _ hx3 (by omega)).mono ?_
                rintro e w4 ⟨A4, c4, rfl, ho4, hf4, hm4⟩
                have hB4 := bsame hB3 hm4 hB3.size
                have hx4 := hx3.keep hm4 (Apart.none _)
                have hap : Apart F3 (fun k => ob A4 = some k) := Apart.of_lt (fun k hk => hx3.lt k hk) (fun k e => hf4 k e)
                have hf4' : ∀ k, ob A4 = some k → w.heap.size ≤ k := fun k hk => Nat.le_trans hB3.size (hf4 k hk)
                have HW4 := Lib.hid (show Wr w4 w1.heap.size b2 F3 ∧ Below w.heap.size w w4 ∧ Bytesy w4 5 A4 b2.length c4 from ⟨hx4, hB4, Bytesy.of ho4⟩)
                clear hx3 hm4 hx4 hB4 ho4 hf4 hB3
                go_wp2_with fail
                go_loopw [106] (fun s106 wr => ∃ k : Nat, k ≤ b2.length ∧ s106 = .int .i64 k ∧ Wr wr w1.heap.size b2 F3 ∧ Below w.heap.size w wr ∧ Bytesy wr 5 A4 b2.length c4) (fun i _ => b2.length - (intOf i).toNat)
                case atStart => exact ⟨0, Nat.zero_le _, rfl, HW4.out⟩
                case round =>
                  clear HW4
                  obtain ⟨k, hk, rfl, hx, hB, hby⟩ := hrel
                  by_cases hlt : k < b2.length
                  · obtain ⟨g, z, rfl, hcz, hfz, hset⟩ := hby.at_ hlt
                    have H' := Lib.hid (fun u => hB.setCell (p := ⟨g, k, none⟩) (hf4' g rfl) u)
                    have H'' := Lib.hid (fun u => hx.keep (Mod.put wr g k u) (fun i h1 h2 => hap i h1 (by subst h2; rfl)))
                    have H3 := Lib.hid hset
                    clear hset hx hby
                    go_wp2
                    go_roundw
                    case rel => exact ⟨k + 1, by omega, by go_num, H''.out _, H'.out _, H3.out _⟩
                    case measure => simp [intOf]; omega
                  · have ek := Lib.hid (show k = b2.length by omega)
                    clear hby hap hf4' hf3
                    go_wp2_with fail
                    refine (number_nil 1 _).mono ?_
                    rintro e wa ⟨rfl, rfl⟩
                    go_wp2_with fail
                    refine (text_nil _ _).mono ?_
                    rintro e wa ⟨rfl, rfl⟩
                    go_wp2_with fail
                    refine (flag_nil _ _).mono ?_
                    rintro e wa ⟨rfl, rfl⟩
                    go_wp2_with fail
                    refine (raw_nil _ _ _ _).mono ?_
                    rintro e wa ⟨rfl, rfl⟩
                    go_wp2_with fail
                    refine (bytes_any _ b2 _ _ hx (by omega)).mono ?_
                    rintro e w5 ⟨A5, c5, rfl, ho5, hf5, hm5⟩
                    have hB5 := bsame hB hm5 hB.size
                    have hcv := run_string_of (P := Try.prog) w5 24 9 5 A5 _ c5 _ Try.underlying24 Try.underlying5 Try.underlying9 ho5.rd
                    clear ho5 hf5 hm5 hx
                    go_wp2_with fail
                    refine (bytes_nil _).mono ?_
                    rintro e wa ⟨rfl, rfl⟩
                    go_wp2
                    go_returns
                    exact ⟨rfl, hB5⟩
  · by_cases h0 : 100 < n0
    · have Hg := Lib.hid hg
      clear hg
      go_enter Try.func5, Try.ntmps5
      go_wp2_with fail
      refine (law1first_any w).mono ?_
      rintro e w1 ⟨rfl, hB1⟩
      go_wp2
      go_returns
      exact ⟨rfl, hB1⟩
    · by_cases h1 : 100 < n1
      · have Hg := Lib.hid hg
        clear hg
        go_enter Try.func5, Try.ntmps5
        go_wp2_with fail
        refine (law1first_any w).mono ?_
        rintro e w1 ⟨rfl, hB1⟩
        go_wp2
        go_returns
        exact ⟨rfl, hB1⟩
      · have h2 : 500 < n2 := by omega
        clear hg
        go_enter Try.func5, Try.ntmps5
        go_wp2_with fail
        refine (law1first_any w).mono ?_
        rintro e w1 ⟨rfl, hB1⟩
        go_wp2
        go_returns
        exact ⟨rfl, hB1⟩
end Go.Proofs.Ythmonbkdecacnaa
