import Derived.Test.YthmonbkdecacnaaWnum
import Derived.Test.YthmonbkdecacnaaPl1
namespace Go.Proofs.Ythmonbkdecacnaa
open Go.RowKit

theorem clone8 (A : Option Addr) (n c : Nat) (l : List UInt8) (w : World) (h : Rd w 1 A n (u8s l)) (hn : n ≤ 140737488355328) :
    Calls Try.prog 27 #[.slice A n c] w fun e w' => ∃ A' c', e = .returned (.slice A' n c') ∧ Own w' 5 1 A' n c' (u8s l) ∧ (∀ k, ob A' = some k → w.heap.size ≤ k) ∧ Mod (fun _ => False) w w' := by
  have hnil := fun (w : World) => Lib.run_eql_slice_nil (P := Try.prog) w 24 5 A n c 0 0 Try.underlying24
  rcases A with _ | ad
  · have h0 : n = 0 := by
      rcases Nat.eq_zero_or_pos n with h0 | h0
      · exact h0
      · obtain ⟨ad, h1, _⟩ := h.2 h0; cases h1
    subst h0
    have hl : l = [] := List.eq_nil_of_length_eq_zero (by simpa using h.1)
    subst hl
    go_enter Try.func27, Try.ntmps27
    go_wp2
    go_returns
    exact ⟨none, 0, rfl, Own.nil _ _ _, by simp [ob], Mod.refl _ _⟩
  · have hr := h.alloc (.cells #[] 5)
    have ho : Own (w.alloc (.cells #[] 5)) 5 1 (some ⟨w.heap.size, 0, none⟩) 0 0 (u8s []) := Own.make _ #[] (Blk.made _ _ _) (Nat.le_refl _) (Nat.zero_le _) rfl rfl
    go_enter Try.func27, Try.ntmps27
    go_wp2_with (at_builtin; refine wpList_app8 rfl _ _ rfl _ _ _ [] rfl ho _ _ _ l rfl hr (by omega) ?_; intro A3 c3 w3 hown3 hmod3 hA3 hAn3; refine stop_here ?_)
    rw [Nat.zero_add, List.nil_append] at hown3
    refine go_on ?_
    go_wp2
    go_returns
    refine ⟨A3, c3, by simp, hown3, ?_, ((Mod.refl _ _).alloc _).mod hmod3 fun k hk e => by simp [ob] at e; omega⟩
    intro k hk
    rcases hA3 with rfl | rfl
    · simp [ob] at hk; omega
    · simp [ob] at hk; omega

theorem bytes_nil (w : World) : Calls Try.prog 10 #[.pointer none] w fun e w' => e = .returned (.slice none 0 0) ∧ w = w' := by
  go_enter Try.func10, Try.ntmps10
  go_wp2
  go_returns
  exact ⟨rfl, rfl⟩
theorem bytes_any (g : Nat) (bs : List UInt8) (F : Nat → Prop) (w : World) (hw : Wr w g bs F) (hl : bs.length ≤ 1000000000) :
    Calls Try.prog 10 #[.pointer (some ⟨g, 0, none⟩)] w fun e w' => ∃ A' c', e = .returned (.slice A' bs.length c') ∧ Own w' 5 1 A' bs.length c' (u8s bs) ∧ (∀ k, ob A' = some k → w.heap.size ≤ k) ∧ Mod (fun _ => False) w w' := by
  obtain ⟨A, c, hb, ho, rfl⟩ := hw
  have hc : w.cell? ⟨g, 0, none⟩ = some (.slice A bs.length c) := hb.cell 0
  have hr := ho.rd
  go_enter Try.func10, Try.ntmps10
  go_wp2_with fail
  refine (clone8 A _ c bs w hr (by omega)).mono ?_
  rintro e w1 ⟨A1, c1, rfl, h1, h2, h3⟩
  go_wp2
  go_returns
  exact ⟨A1, c1, rfl, h1, h2, h3⟩

theorem number_nil (n : Int) (w : World) : Calls Try.prog 9 #[.pointer none, .int .i64 n] w fun e w' => e = .returned (.tuple #[]) ∧ w = w' := by
  go_enter Try.func9, Try.ntmps9
  go_wp2
  go_returns
  exact ⟨rfl, rfl⟩

theorem wpList_apps {ops : Array Oper} {rest : List Oper} {o : Oper} {a : Act} {w : World} {Q : Exit → Act → World → Prop} (hgd : o.guard = none) (sl x : Operand)
    (ho : o.op = .call { callee := .builtin .append, args := #[sl, x], argTypes := #[24, 9] })
    (A : Option Addr) (n c : Nat) (xs : List UInt8) (hs : a.eval sl = .slice A n c) (hown : Own w 5 1 A n c (u8s xs)) (s : ByteArray) (hx : a.eval x = .string s) (hbytes : n + s.size ≤ 140737488355328)
    (h : ∀ A' c'' w', Own w' 5 1 A' (n + s.size) c'' (u8s (xs ++ s.data.toList)) → Mod (fun k => ob A = some k) w w' → (A' = A ∨ A' = some ⟨w.heap.size, 0, none⟩) → wpList Try.prog ops Q rest (a.put o.dst (.slice A' (n + s.size) c'')) w') : wpList Try.prog ops Q (o :: rest) a w := by
  obtain ⟨i0, hi, hz0, hz1, hz2⟩ := info_parts byte_info
  refine wpList_app_str hgd sl x 24 9 ho 5 i0 Try.underlying24 Try.underlying9 hi hz0 hz1 hz2 A n c (u8s xs) hs hown s hx hbytes ?_
  rw [← u8s_append]
  exact h

theorem text_nil (s : ByteArray) (w : World) : Calls Try.prog 11 #[.pointer none, .string s] w fun e w' => e = .returned (.tuple #[]) ∧ w = w' := by
  go_enter Try.func11, Try.ntmps11
  go_wp2
  go_returns
  exact ⟨rfl, rfl⟩
/-- the bytes of a writer are behind the block's cell -/
theorem Wr.store {w w' : World} {g : Nat} {bs bs' : List UInt8} {A A' : Option Addr} {c c' n : Nat} (hb : Blk w g 26 #[.slice A bs.length c]) (hg : ¬ ob A = some g) (hm : Mod (fun k => ob A = some k) w w') (ho : Own w' 5 1 A' n c' (u8s bs'))
    (hA : A' = A ∨ A' = some ⟨w.heap.size, 0, none⟩) (hn : n = bs'.length) :
    ∃ F', Wr (w'.setCell ⟨g, 0, none⟩ (.slice A' n c')) g bs' F' ∧ Grows w.heap.size (fun k => k = g ∨ ob A = some k) F' ∧ Mod (fun k => k = g ∨ ob A = some k) w (w'.setCell ⟨g, 0, none⟩ (.slice A' n c')) := by
  subst hn
  have hb' := hb.keep hm hg
  have hg' : ¬ ob A' = some g := by
    rcases hA with rfl | rfl
    · exact hg
    · have := hb.lt
      simp [ob]; omega
  refine ⟨fun k => k = g ∨ ob A' = some k, ⟨A', c', hb'.set 0 _, ho.keep ((Mod.refl (fun k => k = g) w').setCell (fun _ => rfl) _) fun k hk e => hg' (e ▸ hk), rfl⟩, ?_, (hm.mono fun k _ e => .inr e).setCell (fun _ => .inl rfl) _⟩
  rintro k (rfl | hk)
  · exact .inl (.inl rfl)
  · rcases hA with rfl | rfl
    · exact .inl (.inr hk)
    · simp [ob] at hk; right; omega

theorem text_any (g : Nat) (bs : List UInt8) (F : Nat → Prop) (s : ByteArray) (w : World) (hw : Wr w g bs F) (hl : bs.length ≤ 500000000) (hs : s.size ≤ 100000000) :
    Calls Try.prog 11 #[.pointer (some ⟨g, 0, none⟩), .string s] w fun e w' => e = .returned (.tuple #[]) ∧ ∃ F', Wr w' g (bs ++ txt s) F' ∧ Grows w.heap.size F F' ∧ Mod F w w' := by
  go_enter Try.func11, Try.ntmps11
  go_wp2_with fail
  refine (number_any g bs F s.size w hw (by omega) (by omega) (by omega)).mono ?_
  rintro e w1 ⟨rfl, F1, hw1, hg1, hm1⟩
  have hnl : (num s.size).length ≤ 9 := num_len _ (by omega) (by omega)
  have hlen : (bs ++ num s.size).length ≤ 600000000 := by rw [List.length_append]; omega
  obtain ⟨b1, hb1⟩ : ∃ x, x = bs ++ num s.size := ⟨_, rfl⟩
  rw [← hb1] at hw1 hlen
  have Hb1 := Lib.hid hb1
  clear hb1
  obtain ⟨A, c, hb, ho, rfl⟩ := hw1
  have hc : w1.cell? ⟨g, 0, none⟩ = some (.slice A b1.length c) := hb.cell 0
  have hne := ho.ne hb (by decide)
  go_wp2_with (at_builtin; refine wpList_apps rfl _ _ rfl _ _ _ b1 rfl ho s rfl (by omega) ?_; intro A2 c2 w2 hown2 hmod2 hA2; refine stop_here ?_)
  have hb2 := hb.keep hmod2 hne
  have hc2 : w2.cell? ⟨g, 0, none⟩ = some (.slice A b1.length c) := hb2.cell 0
  have hf2 := hb2.free 0
  obtain ⟨F3, h1, h2, h3⟩ := Wr.store hb hne hmod2 hown2 hA2 (by rw [List.length_append]; rfl)
  refine go_on ?_
  go_wp2
  go_returns
  refine ⟨rfl, F3, by rw [txt, ← List.append_assoc, ← Hb1.out]; exact h1, ?_, hm1.mod h3 fun k hk e => (hg1 k e).resolve_right (by omega)⟩
  intro k hk
  have := hm1.size
  rcases h2 k hk with e | e
  · exact hg1 k e
  · right; omega

theorem flag_any (g : Nat) (bs : List UInt8) (F : Nat → Prop) (b : Bool) (w : World) (hw : Wr w g bs F) (hl : bs.length ≤ 1000000000) :
    Calls Try.prog 17 #[.pointer (some ⟨g, 0, none⟩), .bool b] w fun e w' => e = .returned (.tuple #[]) ∧ ∃ F', Wr w' g (bs ++ num (if b then 1 else 0)) F' ∧ Grows w.heap.size F F' ∧ Mod F w w' := by
  cases b
  all_goals
    go_enter Try.func17, Try.ntmps17
    go_wp2_with fail
    refine (number_any g bs F _ w hw (by omega) (by omega) (by omega)).mono ?_
    rintro e w1 ⟨rfl, F1, h1, h2, h3⟩
    go_wp2
    go_returns
    exact ⟨rfl, F1, h1, h2, h3⟩
theorem flag_nil (b : Bool) (w : World) : Calls Try.prog 17 #[.pointer none, .bool b] w fun e w' => e = .returned (.tuple #[]) ∧ w = w' := by
  cases b
  all_goals
    go_enter Try.func17, Try.ntmps17
    go_wp2_with fail
    refine (number_nil _ w).mono ?_
    rintro e w1 ⟨rfl, rfl⟩
    go_wp2
    go_returns
    exact ⟨rfl, rfl⟩

theorem raw_nil (B : Option Addr) (m c : Nat) (w : World) : Calls Try.prog 19 #[.pointer none, .slice B m c] w fun e w' => e = .returned (.tuple #[]) ∧ w = w' := by
  go_enter Try.func19, Try.ntmps19
  go_wp2
  go_returns
  exact ⟨rfl, rfl⟩
theorem raw_any (g : Nat) (bs : List UInt8) (F : Nat → Prop) (B : Option Addr) (m c' : Nat) (l : List UInt8) (w : World) (hw : Wr w g bs F) (hr : Rd w 1 B m (u8s l)) (hl : bs.length ≤ 1000000000) (hm : m ≤ 1000000000) :
    Calls Try.prog 19 #[.pointer (some ⟨g, 0, none⟩), .slice B m c'] w fun e w' => e = .returned (.tuple #[]) ∧ ∃ F', Wr w' g (bs ++ l) F' ∧ Grows w.heap.size F F' ∧ Mod F w w' := by
  obtain ⟨A, c, hb, ho, rfl⟩ := hw
  have hll : l.length = m := by simpa using hr.len
  have hc : w.cell? ⟨g, 0, none⟩ = some (.slice A bs.length c) := hb.cell 0
  have hne := ho.ne hb (by decide)
  have Hll := Lib.hid hll
  clear hll
  go_enter Try.func19, Try.ntmps19
  go_wp2_with (at_builtin; refine wpList_app8 rfl _ _ rfl _ _ _ bs rfl ho _ _ _ l rfl hr (by omega) ?_; intro A2 c2 w2 hown2 hmod2 hA2 hAn; refine stop_here ?_)
  have hb2 := hb.keep hmod2 hne
  have hc2 : w2.cell? ⟨g, 0, none⟩ = some (.slice A bs.length c) := hb2.cell 0
  have hf2 := hb2.free 0
  obtain ⟨F3, h1, h2, h3⟩ := Wr.store hb hne hmod2 hown2 hA2 (by simp [Hll.out])
  refine go_on ?_
  go_wp2
  go_returns
  exact ⟨rfl, F3, h1, h2, h3⟩
end Go.Proofs.Ythmonbkdecacnaa
