import Derived.Test.YthmonbkdecacnaaL1a
import Derived.Test.YthmonbkdecacnaaPl1
import Derived.Test.YthmonbkdecacnaaOpen
namespace Go.Proofs.Ythmonbkdecacnaa
open Go.RowKit

/-- a test of two strings -/
def orderSlots (B : Nat) (w0 : World) (s t : List UInt8) (a b : Value) (w : World) : Prop := a = .string ⟨s.toArray⟩ ∧ b = .string ⟨t.toArray⟩ ∧ Below B w0 w

set_option maxHeartbeats 2000000 in
theorem wireOrder_walk (a b : Int) (w : World) (ha1 : -9223372036854775808 ≤ a) (ha2 : a ≤ 9223372036854775807) (hb1 : -9223372036854775808 ≤ b) (hb2 : b ≤ 9223372036854775807) :
    Calls Try.prog 3 #[.int .i64 a, .int .i64 b] w fun e w' => e = .returned (.bool true) ∧ Below w.heap.size w w' := by
  go_enter Try.func3, Try.ntmps3
  go_wp2_with fail
  refine (law1first_any w).mono ?_
  rintro e w1 ⟨rfl, hB1⟩
  have hx := (wr_new w1).keep ((Mod.refl (fun _ => False) _).alloc (.cells #[.slice none 0 0] 26)) (Apart.none _)
  have hy := wr_new (w1.alloc (.cells #[.slice none 0 0] 26))
  have hsz := hB1.size
  rw [szA] at hy
  go_wp2_with fail
  refine (number_any _ _ _ a _ hx ha1 ha2 (by simp)).mono ?_
  rintro e w2 ⟨rfl, F2, hx2, hg2, hm2⟩
  rw [szA, szA] at hg2
  have hy2 := hy.keep hm2 (fun k h1 h2 => by omega)
  have hf2 : Fresh w.heap.size F2 := Fresh.grows (fun k e => by subst e; exact hsz) hg2 (by omega)
  have hB2 : Below w.heap.size w w2 := bmod ((hB1.alloc hsz _).alloc (by rw [szA]; omega) _) hm2 (fun k e => by subst e; exact hsz) (by rw [szA, szA]; omega)
  have hap : Apart F2 (fun k => k = w1.heap.size + 1) := Apart.grows (F := fun k => k = w1.heap.size) (fun k h1 h2 => by omega) hg2 (fun k h => by omega)
  rw [List.nil_append] at hx2
  have hs2 := hm2.size
  rw [szA, szA] at hs2
  clear hx hy hB1 hg2 hm2
  go_wp2_with fail
  refine (number_any _ _ _ b _ hy2 hb1 hb2 (by simp)).mono ?_
  rintro e w3 ⟨rfl, F3, hy3, hg3, hm3⟩
  have hx3 := hx2.keep hm3 hap
  have hB3 := bmod hB2 hm3 (fun k e => by subst e; omega) hB2.size
  rw [List.nil_append] at hy3
  have hl1 := num_len a ha1 ha2
  have hl2 := num_len b hb1 hb2
  have hO := fun k hk => num_order a b ha1 ha2 hb1 hb2 k hk
  generalize num a = na at *
  generalize num b = nb at *
  have HO := Lib.hid hO
  clear hO
  clear hx2 hy2 hap hg3 hm3 hB2
  go_upto_region 6 with fail
  go_cut [7, 8] (orderSlots w.heap.size w na nb)
  case first =>
    have hcv := fun (w : World) (A : Option Addr) (n c : Nat) (l : List UInt8) (hd : Rd w 1 A n (u8s l)) => run_string_of (P := Try.prog) w 24 9 5 A n c l Try.underlying24 Try.underlying5 Try.underlying9 hd
    have Hcv := Lib.hid hcv
    clear hcv
    have hx3' := hx3.drew
    have hy3' := hy3.drew
    have hB3' := hB3.drew
    go_region_with (first
      | (go_at_call 10; (with_reducible refine (bytes_any _ na F2 _ hx3' (by omega)).mono ?_); rintro e wx ⟨Ax, cx, rfl, hox, hfx, hmx⟩; have hyx := hy3'.keep hmx (Apart.none _); have hBx := bsame hB3' hmx hB3'.size; have hcx := Hcv.out wx Ax _ cx na hox.rd)
      | (go_at_call 10; (with_reducible refine (bytes_any _ na F2 _ hxy (by omega)).mono ?_); rintro e wz ⟨Ax, cx, rfl, hox, hfx, hmx⟩; have hBz := bsame hBy hmx hBy.size; have hcx := Hcv.out wz Ax _ cx na hox.rd; have hcy := Hcv.out wz Ay _ cy nb (hoy.rd.keep hmx (fun _ _ _ e => e)))
      | (go_at_call 10; (with_reducible refine (bytes_any _ nb F3 _ hy3' (by omega)).mono ?_); rintro e wy ⟨Ay, cy, rfl, hoy, hfy, hmy⟩; have hxy := hx3'.keep hmy (Apart.none _); have hBy := bsame hB3' hmy hB3'.size; have hcy := Hcv.out wy Ay _ cy nb hoy.rd)
      | (go_at_call 10; (with_reducible refine (bytes_any _ nb F3 _ hyx (by omega)).mono ?_); rintro e wz ⟨Ay, cy, rfl, hoy, hfy, hmy⟩; have hBz := bsame hBx hmy hBx.size; have hcy := Hcv.out wz Ay _ cy nb hoy.rd; have hcx := Hcv.out wz Ax _ cx na (hox.rd.keep hmy (fun _ _ _ e => e))))
    all_goals (go_wp2_with fail; go_meet; exact ⟨rfl, rfl, hBz⟩)
  case rest => 
    obtain ⟨rfl, rfl, hB⟩ := hcut
    by_cases hle : na.length ≤ nb.length
    · have hE : ((((⟨na.toArray⟩ : ByteArray).extract 0 na.length).toList == ((⟨nb.toArray⟩ : ByteArray).extract 0 na.length).toList) == (a == b)) = true := by
        rw [ByteArray.extract_mk, ByteArray.extract_mk, ByteArray.toList_mk, ByteArray.toList_mk]
        simpa using HO.out na.length (.inl ⟨rfl, hle⟩)
      have hle9 : ((na.length : Int) ≤ 9) := by omega
      go_wp2_with fail
      go_quiet (fail)
      go_wp2
      go_returns
      exact ⟨rfl, bdrewN hB _⟩
    · have hE : ((((⟨na.toArray⟩ : ByteArray).extract 0 nb.length).toList == ((⟨nb.toArray⟩ : ByteArray).extract 0 nb.length).toList) == (a == b)) = true := by
        rw [ByteArray.extract_mk, ByteArray.extract_mk, ByteArray.toList_mk, ByteArray.toList_mk]
        simpa using HO.out nb.length (.inr ⟨rfl, by omega⟩)
      have hle9 : ((na.length : Int) ≤ 9) := by omega
      go_wp2_with fail
      go_quiet (fail)
      go_wp2
      go_returns
      exact ⟨rfl, bdrewN hB _⟩
end Go.Proofs.Ythmonbkdecacnaa
