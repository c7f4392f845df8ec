import Derived.Test.YthmonbkdecacnaaRev
import Derived.Test.YthmonbkdecacnaaNum
namespace Go.Proofs.Ythmonbkdecacnaa
open Go.RowKit

theorem byte_info : (Try.prog.info? 5).map (fun i => (i.zero, i.size, i.bytes)) = some (some (.int .u8 0), 1, 1) := by kernel_rfl

theorem wpList_app8 {ops : Array Oper} {rest : List Oper} {o : Oper} {a : Act} {w : World} {Q : Exit → Act → World → Prop} (hgd : o.guard = none) (s x : Operand)
    (ho : o.op = .call { callee := .builtin .append, args := #[s, x], argTypes := #[24, 24] })
    (A : Option Addr) (n c : Nat) (xs : List UInt8) (hs : a.eval s = .slice A n c) (hown : Own w 5 1 A n c (u8s xs))
    (B : Option Addr) (m c' : Nat) (ys : List UInt8) (hx : a.eval x = .slice B m c') (hr : Rd w 1 B m (u8s ys)) (hbytes : n + m ≤ 140737488355328)
    (h : ∀ A' c'' w', Own w' 5 1 A' (n + m) c'' (u8s (xs ++ ys)) → Mod (fun k => ob A = some k) w w' → (A' = A ∨ A' = some ⟨w.heap.size, 0, none⟩) → (A' = none → A = none ∧ m = 0) → wpList Try.prog ops Q rest (a.put o.dst (.slice A' (n + m) c'')) w') : wpList Try.prog ops Q (o :: rest) a w := by
  obtain ⟨i0, hi, hz0, hz1, hz2⟩ := info_parts byte_info
  refine wpList_app hgd s x 24 ho 5 i0 _ 1 1 Try.underlying24 hi hz0 hz1 hz2 rfl (by omega) A n c (u8s xs) hs hown B m c' (u8s ys) hx hr (u8s_one ys) (by unfold maxLen; omega) (by omega) ?_
  rw [← u8s_append]
  exact h

/-- a writer at block g that has the bytes bs; F: the blocks that are its own -/
def Wr (w : World) (g : Nat) (bs : List UInt8) (F : Nat → Prop) : Prop :=
  ∃ A c, Blk w g 26 #[.slice A bs.length c] ∧ Own w 5 1 A bs.length c (u8s bs) ∧ F = fun k => k = g ∨ ob A = some k
theorem Wr.lt {w : World} {g : Nat} {bs : List UInt8} {F : Nat → Prop} (h : Wr w g bs F) : ∀ k, F k → k < w.heap.size := by
  obtain ⟨A, c, hb, ho, rfl⟩ := h
  rintro k (rfl | hk)
  · exact hb.lt
  · exact ho.lt k hk
theorem Wr.keep {w w' : World} {g : Nat} {bs : List UInt8} {F S : Nat → Prop} (h : Wr w g bs F) (hm : Mod S w w') (hs : Apart F S) : Wr w' g bs F := by
  obtain ⟨A, c, hb, ho, rfl⟩ := h
  exact ⟨A, c, hb.keep hm (hs g (.inl rfl)), ho.keep hm fun k hk => hs k (.inr hk), rfl⟩
theorem Wr.drew {w : World} {g : Nat} {bs : List UInt8} {F : Nat → Prop} (h : Wr w g bs F) : Wr w.drew g bs F := h.keep ((Mod.refl (fun _ => False) w).drew) (fun _ _ e => e)
set_option maxHeartbeats 1000000 in
theorem number_any (g : Nat) (bs : List UInt8) (F : Nat → Prop) (n : Int) (w : World) (hw : Wr w g bs F) (h1 : -9223372036854775808 ≤ n) (h2 : n ≤ 9223372036854775807) (hl : bs.length ≤ 1000000000) :
    Calls Try.prog 9 #[.pointer (some ⟨g, 0, none⟩), .int .i64 n] w fun e w' => e = .returned (.tuple #[]) ∧ ∃ F', Wr w' g (bs ++ num n) F' ∧ Grows w.heap.size F F' ∧ Mod F w w' := by
  obtain ⟨A, c, hwb, hwo, rfl⟩ := hw
  obtain ⟨u, hu⟩ : ∃ u, u = mag n := ⟨_, rfl⟩
  have hu8 : u < 18446744073709551616 := by rw [hu]; unfold mag; split <;> omega
  have hd8 := digs_len8 u hu8
  have Hu := Lib.hid hu
  obtain ⟨sb, hsb⟩ : ∃ sb, sb = sig n := ⟨_, rfl⟩
  have Hsb := Lib.hid hsb
  have e2 : (if n < 0 then (-n - 1).toNat else n.toNat) = u := hu.symm
  have e3 : (if n < 0 then 128 else 0) = sb := hsb.symm
  clear hsb hu
  by_cases hneg : n < 0
  all_goals
    first | rw [if_pos hneg] at e2 e3 | rw [if_neg hneg] at e2 e3
    first | have e1 := u64_of_neg n h1 hneg | have e1 := u64_of_nonneg n (by omega) h2
    rw [e2] at e1
    subst e3
    clear e2
    go_enter Try.func9, Try.ntmps9
    go_wp2
    go_loopw [5, 6] (fun s5 s6 wr => ∃ (v : Nat) (ds : List UInt8) (D : Option Addr) (d : Nat), s5 = .int .u64 v ∧ s6 = .slice D ds.length d ∧ v < 18446744073709551616 ∧ ds.length ≤ 8 ∧ (0 < v → ds.length < 8) ∧ Hid (ds ++ digs v = digs u) ∧ Own wr 5 1 D ds.length d (u8s ds) ∧ (∀ k, ob D = some k → w.heap.size ≤ k) ∧ Mod (fun _ => False) w wr) (fun i _ _ => (intOf i).toNat)
    case atStart => exact ⟨u, [], none, 0, rfl, rfl, hu8, by simp, by simp, Lib.hid (by simp), Own.nil _ _ _, by simp [ob], Mod.refl _ _⟩
    case round =>
      obtain ⟨v, ds, D, d, rfl, rfl, hv8, hds, hds1, hdv, hown, hob, hmod⟩ := hrel
      by_cases h0 : 0 < v
      · have hd7 := hds1 h0
        have hr1 := Rd.one wr (u8 (UInt8.ofNat v)) 5
        have ew := u8_wrap_nat v
        have hsz := hmod.size
        have hdv' : Hid ((ds ++ [UInt8.ofNat v]) ++ digs (v / 256) = digs u) := by have := hdv.out; rw [digs_pos h0] at this; exact Lib.hid (by simpa using this)
        have hlen : Hid (ds.length + 1 + (digs (v / 256)).length = (digs u).length) := Lib.hid (by have := congrArg List.length hdv'.out; simp at this; omega)
        clear hds1 e1
        go_wp2_with (at_builtin; refine wpList_app8 rfl _ _ rfl _ _ _ ds rfl (hown.alloc _) _ 1 _ [UInt8.ofNat v] rfl hr1 (by omega) ?_; intro D' d' w1 hown1 hmod1 hD1 hDn1)
        go_roundw
        case rel =>
          refine ⟨v / 256, ds ++ [UInt8.ofNat v], D', d', by go_num, by simp, by omega, by simp; omega, fun h => ?_, hdv', by simpa using hown1, ?_, (hmod.alloc _).mod hmod1 fun k hk e => by have := hob k e; omega⟩
          · have h3 := hlen.out
            rw [digs_pos h] at h3
            simp at h3 ⊢
            omega
          · intro k hk
            rcases hD1 with rfl | rfl
            · exact hob k hk
            · simp [ob] at hk; omega
        case measure => simp [intOf]; omega
      · have ez : v = 0 := by omega
        subst ez
        have hb1 := hwb.keep hmod (by simp)
        have hA := hwo.keep hmod (by simp)
        have hsz := hmod.size
        have hglt := hwb.lt
        have hgA := hwo.ne hwb (by decide)
        rw [digs_zero, List.append_nil] at hdv
        clear e1
        go_wp2_with fail
        refine (reverse8 D _ d ds wr hown).mono ?_
        rintro e w2 ⟨rfl, hown2, hmod2⟩
        have hD : ∀ k, k < w.heap.size → ¬ ob D = some k := fun k hk e => by have := hob k e; omega
        have hb2 := hb1.keep hmod2 (hD _ hglt)
        have hc2 : w2.cell? ⟨g, 0, none⟩ = some (.slice A bs.length c) := hb2.cell 0
        have hf2 := hb2.free 0
        have hA2 := hA.keep hmod2 (fun k hk => hD k (hwo.lt k hk))
        have hM2 : Mod (fun _ => False) w w2 := hmod.mod hmod2 fun k hk e => hD k hk e
        have hsz2 := hmod2.size
        have hDA : ∀ k, ob D = some k → ¬ ob A = some k := fun k hk e => by have := hob k hk; have := hwo.lt k e; omega
        obtain ⟨hd, ehd⟩ : ∃ hd, hd = UInt8.ofNat (sig n + ds.length) := ⟨_, rfl⟩
        have Ehd := Lib.hid ehd
        have hor : ((UInt8.ofNat (sig n + ds.length)).toNat : Int) = hd.toNat := by rw [ehd]
        rw [← Hsb.out] at hor
        first
          | rw [← or_head 0 ds.length (.inl rfl) hds, show ((0 : Nat) : Int) = 0 from rfl] at hor
          | rw [← or_head 128 ds.length (.inr rfl) hds, show ((128 : Nat) : Int) = 128 from rfl] at hor
        have hr2 := Rd.one w2 (u8 hd) 5
        clear hmod2 hmod hb1 hA hown ehd
        go_wp2_with (at_builtin; refine wpList_app8 rfl (.tmp 31) (.tmp 37) rfl _ _ _ bs rfl (hA2.alloc _) _ 1 _ [hd] rfl hr2 (by omega) ?_; intro A3 c3 w3 hown3 hmod3 hA3 hAn3; refine stop_here ?_)
        have hM3 : Mod (fun k => ob A = some k) w w3 := ((hM2.free _).alloc _).mod hmod3 fun k hk e => e
        have hr3 := (hown2.rd.alloc _).keep hmod3 (fun k hk _ => hDA k hk)
        have hsz3 := hmod3.size
        rw [szA] at hsz3 hA3
        have hb3 := (hb2.alloc _).keep hmod3 hgA
        clear hr2 hA2 hc2 hf2
        refine go_on ?_
        go_wp2_with (at_builtin; refine wpList_app8 rfl (.tmp 38) (.tmp 39) rfl _ _ _ (bs ++ [hd]) rfl hown3 _ _ _ ds.reverse rfl hr3 (by omega) ?_; intro A4 c4 w4 hown4 hmod4 hA4 hAn4; refine stop_here ?_)
        have hA3g : ¬ ob A3 = some g := by
          rcases hA3 with rfl | rfl
          · exact hgA
          · simp [ob]; omega
        have hb4 := hb3.keep hmod4 hA3g
        have hc4 : w4.cell? ⟨g, 0, none⟩ = some (.slice A bs.length c) := hb4.cell 0
        have hf4 := hb4.free 0
        refine go_on ?_
        go_wp2
        go_end0
        have e1 : bs.length + 1 + ds.length = (bs ++ num n).length := by
          rw [hdv.out, List.length_append, num, List.length_cons, List.length_reverse, ← Hu.out]
          omega
        have e2 : bs ++ [hd] ++ ds.reverse = bs ++ num n := by rw [num, Ehd.out, ← Hu.out, hdv.out, List.append_assoc]; rfl
        have hM4 : Mod (fun k => k = g ∨ ob A = some k) w w4 := (hM3.mono fun k _ e => .inr e).mod hmod4 fun k hk e => by
          rcases hA3 with rfl | rfl
          · exact .inr e
          · simp [ob] at e; omega
        have hob4 : ∀ k, ob A4 = some k → k < w4.heap.size := hown4.lt
        have hg4 : ¬ ob A4 = some g := by
          rcases hA4 with rfl | rfl
          · exact hA3g
          · have := hb3.lt
            simp [ob]; omega
        rw [e1, e2] at hown4
        rw [e1]
        refine ⟨rfl, fun k => k = g ∨ ob A4 = some k, ⟨A4, c4, hb4.set 0 _, hown4.keep ((Mod.refl (fun k => k = g) w4).setCell (fun _ => rfl) _) fun k hk e => hg4 (e ▸ hk), rfl⟩, ?_, hM4.setCell (fun _ => .inl rfl) _⟩
        rintro k (rfl | hk)
        · exact .inl (.inl rfl)
        · rcases hA4 with rfl | rfl
          · rcases hA3 with rfl | rfl
            · exact .inl (.inr hk)
            · simp [ob] at hk; right; omega
          · simp [ob] at hk; right; omega
end Go.Proofs.Ythmonbkdecacnaa
