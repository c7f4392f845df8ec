import Derived.Test.YthmonbkdecacnaaL1a
import Derived.Test.YthmonbkdecacnaaOpen
namespace Go.Proofs.Ythmonbkdecacnaa
open Go.RowKit

theorem Rd.below {w w' : World} {size n : Nat} {A : Option Addr} {xs : List Value} (h : Rd w size A n xs) (hb : Below w.heap.size w w') : Rd w' size A n xs := by
  refine ⟨h.1, fun hn => ?_⟩
  obtain ⟨ad, rfl, hc⟩ := h.2 hn
  refine ⟨ad, rfl, fun j u hu => ?_⟩
  have h1 := hc j u hu
  rw [hb.cell (World.block_lt_of_cell? w _ h1)]
  exact h1

/-- the reads of the law, from a reader: relation of the third loop, and of the fourth -/
def Reading (B : Nat) (w0 : World) (g : Nat) (A : Option Addr) (bs : List UInt8) (st : Option (List UInt8)) (w : World) : Prop := ∃ F, Rdr w g st F ∧ Fresh B F ∧ Below B w0 w ∧ Rd w 1 A bs.length (u8s bs) ∧ ob A ≠ some g
def Writing (B : Nat) (w0 : World) (g : Nat) (bs : List UInt8) (w : World) : Prop := ∃ F, Wr w g bs F ∧ Fresh B F ∧ Below B w0 w
theorem Reading.step {B g : Nat} {w0 w w' : World} {A : Option Addr} {bs : List UInt8} {st st' : Option (List UInt8)} {v : Value} {e : Ending} {F : Nat → Prop} (hf : Fresh B F) (hb : Below B w0 w) (hB : B ≤ w.heap.size) (hr : Rdr w g st F) (hd : Rd w 1 A bs.length (u8s bs)) (hA : ob A ≠ some g) (h : Left g F st' v w e w') : e = .returned v ∧ Reading B w0 g A bs st' w' := by
  obtain ⟨he, F', h1, h2, h3⟩ := h
  exact ⟨he, F', h1, fun k hk => hf k (h2 k hk), bmod hb h3 (fun k e => by subst e; exact hf _ hr.self) hB, hd.keep h3 (fun k hk _ e => hA (by rw [hk, e])), hA⟩

set_option maxRecDepth 100000 in
set_option maxHeartbeats 4000000 in
theorem wireBack_walk (A0 : Option Addr) (n0 c0 : Nat) (zs : List Int) (A1 : Option Addr) (n1 c1 : Nat) (ss : List ByteArray) (w : World)
    (r0 : Rd w 1 A0 n0 (zs.map (Value.int .i64))) (e0 : zs.length = n0) (_ : n0 ≤ c0) (m0 : c0 ≤ maxLen) (z0 : ∀ z ∈ zs, (Lit.int .i64 z).wf = true)
    (r1 : Rd w 1 A1 n1 (ss.map Value.string)) (e1 : ss.length = n1) (_ : n1 ≤ c1) (m1 : c1 ≤ maxLen) (z1 : ∀ s ∈ ss, s.size ≤ maxLen) :
    Calls Try.prog 4 #[.slice A0 n0 c0, .slice A1 n1 c1] w fun e w' => e = .returned (.bool true) ∧ Below w.heap.size w w' := by
  have E0 := Lib.hid e0
  have E1 := Lib.hid e1
  have Z0 := Lib.hid (fun z hz => Go.bounds_i64 (z0 z hz))
  have Z1 := Lib.hid z1
  clear e0 e1 z0 z1
  unfold maxLen at m0 m1
  by_cases hg : n0 ≤ 100 ∧ n1 ≤ 100
  · obtain ⟨hg0, hg1⟩ := hg
    go_enter Try.func4, Try.ntmps4
    go_wp2_with fail
    refine (law1first_any w).mono ?_
    rintro e w1 ⟨rfl, hB1⟩
    go_wp2_with fail
    have hsz1 := hB1.size
    go_loopw [31] (fun s31 wr => ∃ k : Nat, k ≤ n0 ∧ s31 = .int .i64 k ∧ Writing w.heap.size w w1.heap.size (numsB (zs.take k)) wr) (fun i _ => n0 - (intOf i).toNat)
    case atStart => exact ⟨0, Nat.zero_le _, rfl, _, wr_new w1, fun k e => by subst e; exact hsz1, hB1.alloc hsz1 _⟩
    case round =>
      obtain ⟨k, hk, rfl, F, hx, hf, hB⟩ := hrel
      by_cases hlt : k < n0
      · have hkz : k < zs.length := by rw [E0.out]; exact hlt
        obtain ⟨b, o, rfl, hcell⟩ := (r0.below hB).addr (by omega)
        have hc : wr.cell? ⟨b, o + k, none⟩ = some (.int .i64 zs[k]) := hcell k _ (by simp [List.getElem?_map, List.getElem?_eq_getElem hkz])
        have hz := Z0.out zs[k] (List.getElem_mem hkz)
        have hsn := Lib.hid (numsB_snoc zs k hkz)
        have hl := numsB_len (zs.take k) (fun z hz => Z0.out z (List.mem_of_mem_take hz))
        have hl2 : (zs.take k).length ≤ 100 := by rw [List.length_take]; omega
        generalize zs[k] = z at *
        generalize numsB (zs.take k) = bs at *
        clear hcell
        go_wp2_with fail
        refine (number_any _ bs F z _ hx hz.1 hz.2 (by omega)).mono ?_
        rintro e w2 ⟨rfl, F2, hx2, hg2, hm2⟩
        go_wp2
        go_roundw
        case rel => exact ⟨k + 1, by omega, by go_num, by rw [hsn.out]; exact ⟨F2, hx2, hf.grows hg2 hB.size, bmod hB hm2 hf hB.size⟩⟩
        case measure => simp [intOf]; omega
      · obtain rfl : n0 = k := by omega
        have hall : zs.take n0 = zs := List.take_of_length_le (by rw [E0.out]; exact Nat.le_refl _)
        rw [hall] at hx
        have hln : (numsB zs).length ≤ 900 := by
          have := numsB_len zs (fun z hz => Z0.out z hz)
          have := E0.out
          omega
        obtain ⟨nb, hnb⟩ : ∃ nb, nb = numsB zs := ⟨_, rfl⟩
        rw [← hnb] at hx hln
        have Hnb := Lib.hid hnb
        have HX := Lib.hid hx
        clear hnb hx hall
        go_wp2_with fail
        clear hlt
        obtain ⟨wo, rfl⟩ : ∃ wo : World, wo = wr := ⟨_, rfl⟩
        go_loopw [41] (fun s41 wr => ∃ k : Nat, k ≤ n1 ∧ s41 = .int .i64 k ∧ Hid (∀ s ∈ ss.take k, s.size ≤ 300) ∧ Writing w.heap.size w w1.heap.size (nb ++ txtsB (ss.take k)) wr) (fun i _ => n1 - (intOf i).toNat)
        case atStart => exact ⟨0, Nat.zero_le _, rfl, Lib.hid (by simp), F, by simpa [txtsB] using HX.out, hf, hB⟩
        case round =>
          obtain ⟨j, hj, rfl, hsz, F3, hx3, hf3, hB3⟩ := hrel
          clear hB hf HX
          by_cases hlt : j < n1
          · have hjz : j < ss.length := by rw [E1.out]; exact hlt
            obtain ⟨b, o, rfl, hcell⟩ := (r1.below hB3).addr (by omega)
            have hc : wr.cell? ⟨b, o + j, none⟩ = some (.string ss[j]) := hcell j _ (by simp [List.getElem?_map, List.getElem?_eq_getElem hjz])
            have hz := Z1.out ss[j] (List.getElem_mem hjz)
            unfold maxLen at hz
            have hsn := Lib.hid (txtsB_snoc ss j hjz)
            have hl := txtsB_len 300 (by omega) (ss.take j) hsz.out
            have hl2 : (ss.take j).length ≤ 100 := by rw [List.length_take]; omega
            have hsz2 : ss[j].size ≤ 300 → Hid (∀ s ∈ ss.take (j + 1), s.size ≤ 300) := by
              intro h
              refine Lib.hid fun s hs => ?_
              rw [List.take_succ_eq_append_getElem hjz, List.mem_append] at hs
              rcases hs with hs | hs
              · exact hsz.out s hs
              · rw [List.mem_singleton.1 hs]; exact h
            have Hsz2 := Lib.hid hsz2
            generalize ss[j] = s at *
            have hlen : (nb ++ txtsB (ss.take j)).length ≤ 40000 := by rw [List.length_append]; omega
            obtain ⟨bs, hbs⟩ : ∃ bs, bs = nb ++ txtsB (ss.take j) := ⟨_, rfl⟩
            rw [← hbs] at hx3 hlen
            have Hbs := Lib.hid hbs
            clear hcell hsz hsz2 hbs hl hl2
            by_cases h300 : 300 < s.size
            · go_wp2
              go_returns
              exact ⟨rfl, hB3⟩
            · go_wp2_with fail
              refine (text_any _ bs F3 s _ hx3 (by omega) (by omega)).mono ?_
              rintro e w2 ⟨rfl, F2, hx2, hg2, hm2⟩
              go_wp2
              go_roundw
              case rel => exact ⟨j + 1, by omega, by go_num, Hsz2.out (by omega), by rw [hsn.out, ← List.append_assoc, ← Hbs.out]; exact ⟨F2, hx2, hf3.grows hg2 hB3.size, bmod hB3 hm2 hf3 hB3.size⟩⟩
              case measure => simp [intOf]; omega
          · obtain rfl : n1 = j := by omega
            have hall : ss.take n1 = ss := List.take_of_length_le (by rw [E1.out]; exact Nat.le_refl _)
            rw [hall] at hx3 hsz
            have hln2 : (txtsB ss).length ≤ 30900 := by
              have := txtsB_len 300 (by omega) ss hsz.out
              have := E1.out
              omega
            obtain ⟨tb, htb⟩ : ∃ tb, tb = txtsB ss := ⟨_, rfl⟩
            rw [← htb] at hx3 hln2
            have Htb := Lib.hid htb
            have hbl : (nb ++ tb).length ≤ 40000 := by rw [List.length_append]; omega
            obtain ⟨bs, hbs⟩ : ∃ bs, bs = nb ++ tb := ⟨_, rfl⟩
            rw [← hbs] at hx3 hbl
            have Hbs := Lib.hid hbs
            clear htb hall hbs hln2 hln hlt
            go_wp2_with fail
            refine (bytes_any _ bs _ _ hx3 (by omega)).mono ?_
            rintro e w4 ⟨A4, c4, rfl, ho4, hf4, hm4⟩
            have hB4 := bsame hB3 hm4 hB3.size
            clear hx3 hm4 hB3
            go_wp2_with fail
            refine (read_any _ _ _ bs _ ho4.rd (by omega)).mono ?_
            rintro e w5 ⟨g5, F5, rfl, hr5, hf5, hm5⟩
            have hB5 := bsame hB4 hm5 hB4.size
            have hd5 := ho4.rd.keep hm5 (fun _ _ _ e => e)
            have hcap := ho4.cap
            have hlt4 := ho4.lt
            have hgA : ob A4 ≠ some g5 := fun e => by have := hlt4 _ e; have := hf5 _ hr5.self; omega
            have hRd := Lib.hid (show Reading w.heap.size w g5 A4 bs (some bs) w5 from ⟨F5, hr5, Fresh.mono hf5 hB4.size, hB5, hd5, hgA⟩)
            clear hr5 hf5 hm5 hB4 ho4 hd5 hlt4 hf4
            go_wp2_with fail
            go_loopw [58] (fun s58 wr => ∃ k : Nat, k ≤ n0 ∧ s58 = .int .i64 k ∧ Reading w.heap.size w g5 A4 bs (some (numsB (zs.drop k) ++ tb)) wr) (fun i _ => n0 - (intOf i).toNat)
            case atStart => exact ⟨0, Nat.zero_le _, rfl, by simpa [Hbs.out, Hnb.out] using hRd.out⟩
            case round =>
              obtain ⟨k, hk, rfl, F6, hr6, hf6, hB6, hd6, hA6⟩ := hrel
              by_cases hlt : k < n0
              · have hkz : k < zs.length := by rw [E0.out]; exact hlt
                obtain ⟨b, o, rfl, hcell⟩ := (r0.below hB6).addr (by omega)
                have hc : wr.cell? ⟨b, o + k, none⟩ = some (.int .i64 zs[k]) := hcell k _ (by simp [List.getElem?_map, List.getElem?_eq_getElem hkz])
                have hz := Z0.out zs[k] (List.getElem_mem hkz)
                have hsn := numsB_drop zs k hkz
                rw [hsn, List.append_assoc] at hr6
                have hrs := rnumS_num zs[k] hz.1 hz.2 (numsB (zs.drop (k + 1)) ++ tb)
                generalize zs[k] = z at *
                generalize num z ++ (numsB (zs.drop (k + 1)) ++ tb) = st at *
                have Hrs := Lib.hid hrs
                clear hcell hsn hrs
                go_wp2_with fail
                refine (rnum_any _ _ _ _ hr6).mono ?_
                rintro e w7 h7
                obtain ⟨he, h8⟩ := Reading.step hf6 hB6 hB6.size hr6 hd6 hA6 h7
                subst he
                rw [Hrs.out] at h8 ⊢
                have H7 := Lib.hid h8
                clear h7 h8 hr6 hd6
                go_wp2
                go_roundw
                case rel => exact ⟨k + 1, by omega, by go_num, H7.out⟩
                case measure => simp [intOf]; omega
              · obtain rfl : n0 = k := by omega
                have hall : zs.drop n0 = [] := List.drop_eq_nil_of_le (by rw [E0.out]; exact Nat.le_refl _)
                rw [hall] at hr6
                have hRd6 := Lib.hid (show Reading w.heap.size w g5 A4 bs (some tb) wr from ⟨F6, by simpa [numsB] using hr6, hf6, hB6, hd6, hA6⟩)
                clear hr6 hf6 hB6 hall hRd hlt hd6 hA6
                go_wp2_with fail
                obtain ⟨wo, rfl⟩ : ∃ wo : World, wo = wr := ⟨_, rfl⟩
                go_loopw [69] (fun s69 wr => ∃ j : Nat, j ≤ n1 ∧ s69 = .int .i64 j ∧ Reading w.heap.size w g5 A4 bs (some (txtsB (ss.drop j))) wr) (fun i _ => n1 - (intOf i).toNat)
                case atStart => exact ⟨0, Nat.zero_le _, rfl, by simpa [Htb.out] using hRd6.out⟩
                case round =>
                  clear hRd6
                  obtain ⟨j, hj, rfl, F6, hr6, hf6, hB6, hd6, hA6⟩ := hrel
                  by_cases hlt : j < n1
                  · have hjz : j < ss.length := by rw [E1.out]; exact hlt
                    obtain ⟨b, o, rfl, hcell⟩ := (r1.below hB6).addr (by omega)
                    have hc : wr.cell? ⟨b, o + j, none⟩ = some (.string ss[j]) := hcell j _ (by simp [List.getElem?_map, List.getElem?_eq_getElem hjz])
                    have hz := Z1.out ss[j] (List.getElem_mem hjz)
                    unfold maxLen at hz
                    have hsn := txtsB_drop ss j hjz
                    rw [hsn] at hr6
                    have hrs := rtextS_txt ss[j] hz (txtsB (ss.drop (j + 1)))
                    generalize ss[j] = s at *
                    generalize txt s ++ txtsB (ss.drop (j + 1)) = st at *
                    have Hrs := Lib.hid hrs
                    clear hcell hsn hrs
                    go_wp2_with fail
                    refine (rtext_any _ _ _ _ hr6).mono ?_
                    rintro e w7 h7
                    obtain ⟨he, h8⟩ := Reading.step hf6 hB6 hB6.size hr6 hd6 hA6 h7
                    subst he
                    rw [Hrs.out] at h8 ⊢
                    simp only [bytes_eta]
                    have H7 := Lib.hid h8
                    clear h7 h8 hr6 hd6
                    go_wp2
                    go_roundw
                    case rel => exact ⟨j + 1, by omega, by go_num, H7.out⟩
                    case measure => simp [intOf]; omega
                  · obtain rfl : n1 = j := by omega
                    have hall : ss.drop n1 = [] := List.drop_eq_nil_of_le (by rw [E1.out]; exact Nat.le_refl _)
                    rw [hall] at hr6
                    clear hall
                    have hr6' : Rdr wr g5 (some []) F6 := hr6
                    clear hr6
                    go_wp2_with fail
                    refine (end_any _ _ _ _ hr6').mono ?_
                    rintro e w7 ⟨rfl, rfl⟩
                    by_cases hbz : bs.length = 0
                    · have Hbz := Lib.hid hbz
                      have hbz' : ((bs.length : Int) == 0) = true := by rw [hbz]; rfl
                      clear hbz
                      go_wp2_with fail
                      refine (end_any _ _ _ _ hr6').mono ?_
                      rintro e w7 ⟨rfl, rfl⟩
                      go_wp2
                      go_returns
                      exact ⟨rfl, hB6⟩
                    · have hbz' : ((bs.length : Int) == 0) = false := by rw [beq_eq_false_iff_ne]; omega
                      go_wp2_with fail
                      have hd9 := hd6.take (k := bs.length - 1) (by omega)
                      rw [Nat.mul_one, u8s_take] at hd9
                      refine (read_any _ _ _ (bs.take (bs.length - 1)) _ hd9 (by omega)).mono ?_
                      rintro e w9 ⟨g9, F9, rfl, hr9, hf9, hm9⟩
                      have hB9 := bsame hB6 hm9 hB6.size
                      have hSh : Short (some (bs.take (bs.length - 1))) (numsB zs ++ txtsB ss) := by
                        right
                        have hlt : bs.length - 1 < bs.length := by omega
                        refine ⟨_, bs[bs.length - 1], [], rfl, ?_⟩
                        rw [← Hnb.out, ← Htb.out, ← Hbs.out]
                        conv => lhs; rw [← List.take_append_drop (bs.length - 1) bs]
                        rw [List.drop_eq_getElem_cons hlt, List.drop_eq_nil_of_le (by omega)]
                      have hRd9 := Lib.hid (show Reading w.heap.size w g9 none [] (some (bs.take (bs.length - 1))) w9 from ⟨F9, hr9, Fresh.mono hf9 hB6.size, hB9, Rd.nil _ _ _, by simp [ob]⟩)
                      have HSh := Lib.hid hSh
                      clear hr9 hf9 hm9 hd9 hSh hB6 hd6 hr6' hf6 hA6 hf3 hgA
                      go_wp2_with fail
                      obtain ⟨wo, rfl⟩ : ∃ wo : World, wo = wr := ⟨_, rfl⟩
                      go_loopw [96] (fun s96 wr => ∃ (k : Nat) (st : Option (List UInt8)), k ≤ n0 ∧ s96 = .int .i64 k ∧ Hid (Short st (numsB (zs.drop k) ++ txtsB ss)) ∧ Reading w.heap.size w g9 none [] st wr) (fun i _ => n0 - (intOf i).toNat)
                      case atStart => exact ⟨0, _, Nat.zero_le _, rfl, HSh, hRd9.out⟩
                      case round =>
                        clear hRd9 HSh
                        obtain ⟨k, st, hk, rfl, hsh, F6, hr6, hf6, hB6, hd6, hA6⟩ := hrel
                        by_cases hlt : k < n0
                        · have hkz : k < zs.length := by rw [E0.out]; exact hlt
                          have hz := Z0.out zs[k] (List.getElem_mem hkz)
                          have hsh1 := hsh.out
                          rw [numsB_drop zs k hkz, List.append_assoc] at hsh1
                          have hsh2 := Lib.hid (Short.num hz.1 hz.2 hsh1)
                          clear hsh hsh1 hz
                          go_wp2_with fail
                          refine (rnum_any _ _ _ _ hr6).mono ?_
                          rintro e w7 h7
                          obtain ⟨he, h8⟩ := Reading.step hf6 hB6 hB6.size hr6 hd6 hA6 h7
                          subst he
                          have H7 := Lib.hid h8
                          clear h7 h8 hr6 hd6
                          go_wp2
                          go_roundw
                          case rel => exact ⟨k + 1, _, by omega, by go_num, hsh2, H7.out⟩
                          case measure => simp [intOf]; omega
                        · obtain rfl : n0 = k := by omega
                          have hall : zs.drop n0 = [] := List.drop_eq_nil_of_le (by rw [E0.out]; exact Nat.le_refl _)
                          rw [hall] at hsh
                          have hRd6 := Lib.hid (show Reading w.heap.size w g9 none [] st wr from ⟨F6, hr6, hf6, hB6, hd6, hA6⟩)
                          have hsh' : Hid (Short st (txtsB ss)) := by simpa [numsB] using hsh
                          clear hr6 hf6 hB6 hall hd6 hA6 hsh
                          go_wp2_with fail
                          obtain ⟨wo, rfl⟩ : ∃ wo : World, wo = wr := ⟨_, rfl⟩
                          go_loopw [103] (fun s103 wr => ∃ (j : Nat) (st : Option (List UInt8)), j ≤ n1 ∧ s103 = .int .i64 j ∧ Hid (Short st (txtsB (ss.drop j))) ∧ Reading w.heap.size w g9 none [] st wr) (fun i _ => n1 - (intOf i).toNat)
                          case atStart => exact ⟨0, st, Nat.zero_le _, rfl, by simpa using hsh', hRd6.out⟩
                          case round =>
                            clear hRd6 hsh'
                            obtain ⟨j, st, hj, rfl, hsh, F6, hr6, hf6, hB6, hd6, hA6⟩ := hrel
                            by_cases hlt : j < n1
                            · have hjz : j < ss.length := by rw [E1.out]; exact hlt
                              have hz := Z1.out ss[j] (List.getElem_mem hjz)
                              unfold maxLen at hz
                              have hsh1 := hsh.out
                              rw [txtsB_drop ss j hjz] at hsh1
                              have hsh2 := Lib.hid (Short.txt (by omega) hsh1)
                              clear hsh hsh1 hz
                              go_wp2_with fail
                              refine (rtext_any _ _ _ _ hr6).mono ?_
                              rintro e w7 h7
                              obtain ⟨he, h8⟩ := Reading.step hf6 hB6 hB6.size hr6 hd6 hA6 h7
                              subst he
                              have H7 := Lib.hid h8
                              clear h7 h8 hr6 hd6
                              go_wp2
                              go_roundw
                              case rel => exact ⟨j + 1, _, by omega, by go_num, hsh2, H7.out⟩
                              case measure => simp [intOf]; omega
                            · obtain rfl : n1 = j := by omega
                              have hall : ss.drop n1 = [] := List.drop_eq_nil_of_le (by rw [E1.out]; exact Nat.le_refl _)
                              rw [hall] at hsh
                              have hst := hsh.out.end_
                              clear hsh hall
                              subst hst
                              go_wp2_with fail
                              refine (ok_any _ _ _ _ hr6).mono ?_
                              rintro e w7 ⟨rfl, rfl⟩
                              go_wp2
                              go_returns
                              exact ⟨rfl, hB6⟩
  · have Hg := Lib.hid hg
    by_cases h100 : 100 < n0
    · clear hg
      go_enter Try.func4, Try.ntmps4
      go_wp2_with fail
      refine (law1first_any w).mono ?_
      rintro e w1 ⟨rfl, hB1⟩
      go_wp2
      go_returns
      exact ⟨rfl, hB1⟩
    · have h101 : 100 < n1 := by omega
      clear hg
      go_enter Try.func4, Try.ntmps4
      go_wp2_with fail
      refine (law1first_any w).mono ?_
      rintro e w1 ⟨rfl, hB1⟩
      go_wp2
      go_returns
      exact ⟨rfl, hB1⟩
end Go.Proofs.Ythmonbkdecacnaa
