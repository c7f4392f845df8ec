import Derived.Test.YthmonbkdecacnaaWrite
namespace Go.Proofs.Ythmonbkdecacnaa
open Go.RowKit

/-- a reader at block g; its state: 'none': it is bad; 'some l': it is good, and has l left. F: the blocks that it reads. -/
def Rdr (w : World) (g : Nat) (s : Option (List UInt8)) (F : Nat → Prop) : Prop :=
  match s with
  | none => Blk w g 54 #[.slice none 0 0, .bool true] ∧ F = fun k => k = g
  | some l => ∃ A c, Blk w g 54 #[.slice A l.length c, .bool false] ∧ Rd w 1 A l.length (u8s l) ∧ l.length ≤ c ∧ c ≤ maxLen ∧ ob A ≠ some g ∧ (∀ k, ob A = some k → k < w.heap.size) ∧ F = fun k => k = g ∨ ob A = some k
theorem Rdr.lt {w : World} {g : Nat} {s : Option (List UInt8)} {F : Nat → Prop} (h : Rdr w g s F) : ∀ k, F k → k < w.heap.size := by
  cases s with
  | none => obtain ⟨h, rfl⟩ := h; rintro k rfl; exact h.lt
  | some l =>
    obtain ⟨A, c, hb, hr, h1, h2, h3, h4, rfl⟩ := h
    rintro k (rfl | hk)
    · exact hb.lt
    · exact h4 k hk
theorem Rdr.keep {w w' : World} {g : Nat} {s : Option (List UInt8)} {F S : Nat → Prop} (h : Rdr w g s F) (hm : Mod S w w') (hs : Apart F S) : Rdr w' g s F := by
  cases s with
  | none => obtain ⟨h, rfl⟩ := h; exact ⟨h.keep hm (hs g rfl), rfl⟩
  | some l =>
    obtain ⟨A, c, hb, hr, h1, h2, h3, h4, rfl⟩ := h
    exact ⟨A, c, hb.keep hm (hs g (.inl rfl)), hr.keep hm fun k hk _ => hs k (.inr hk), h1, h2, h3, fun k hk => Nat.lt_of_lt_of_le (h4 k hk) hm.size, rfl⟩
theorem Rdr.self {w : World} {g : Nat} {s : Option (List UInt8)} {F : Nat → Prop} (h : Rdr w g s F) : F g := by
  cases s with
  | none => obtain ⟨h, rfl⟩ := h; rfl
  | some l => obtain ⟨A, c, hb, hr, h1, h2, h3, h4, rfl⟩ := h; exact .inl rfl
def Sub (F F' : Nat → Prop) : Prop := ∀ k, F' k → F k
theorem Sub.refl (F : Nat → Prop) : Sub F F := fun _ h => h
theorem Sub.trans {F G H : Nat → Prop} (h : Sub F G) (k : Sub G H) : Sub F H := fun i hi => h i (k i hi)

/-- the block of a reader, whatever its state -/
theorem Rdr.blk {w : World} {g : Nat} {s : Option (List UInt8)} {F : Nat → Prop} (h : Rdr w g s F) : ∃ A n c, Blk w g 54 #[.slice A n c, .bool s.isNone] ∧ n = (s.getD []).length := by
  cases s with
  | none => exact ⟨_, _, _, h.1, rfl⟩
  | some l => obtain ⟨A, c, hb, _⟩ := h; exact ⟨A, _, c, hb, rfl⟩

theorem fail_nil (w : World) : Calls Try.prog 29 #[.pointer none] w fun e w' => e = .returned (.tuple #[]) ∧ w = w' := by
  go_enter Try.func29, Try.ntmps29
  go_wp2
  go_returns
  exact ⟨rfl, rfl⟩
theorem fail_any (g : Nat) (s : Option (List UInt8)) (F : Nat → Prop) (w : World) (h : Rdr w g s F) :
    Calls Try.prog 29 #[.pointer (some ⟨g, 0, none⟩)] w fun e w' => e = .returned (.tuple #[]) ∧ Rdr w' g none (fun k => k = g) ∧ Mod (· = g) w w' := by
  obtain ⟨A, n, c, hb, _⟩ := h.blk
  have c0 : w.cell? ⟨g, 0, none⟩ = some (.slice A n c) := hb.cell 0
  have c1 : w.cell? ⟨g, 1, none⟩ = some (.bool s.isNone) := hb.cell 1
  have f0 := hb.free 0
  have f1 := hb.free 1
  go_enter Try.func29, Try.ntmps29
  go_wp2
  go_returns
  refine ⟨rfl, ⟨(hb.set 1 (.bool true)).set 0 (.slice none 0 0), rfl⟩, ((Mod.refl (fun k => k = g) _).setCell (fun _ => rfl) _).setCell (fun _ => rfl) _⟩

/-- the reader's answer where there aren't so many bytes -/
def Took (g : Nat) (w : World) (e : Ending) (w' : World) : Prop := e = .returned (.tuple #[.slice none 0 0, .bool false]) ∧ Rdr w' g none (fun k => k = g) ∧ Mod (· = g) w w'

theorem take_nil (n : Int) (w : World) : Calls Try.prog 28 #[.pointer none, .int .i64 n] w fun e w' => e = .returned (.tuple #[.slice none 0 0, .bool false]) ∧ w = w' := by
  go_enter Try.func28, Try.ntmps28
  go_wp2_with fail
  refine (fail_nil w).mono ?_
  rintro e w1 ⟨rfl, rfl⟩
  go_wp2
  go_returns
  exact ⟨rfl, rfl⟩
theorem take_bad (g : Nat) (n : Int) (F : Nat → Prop) (w : World) (h : Rdr w g none F) :
    Calls Try.prog 28 #[.pointer (some ⟨g, 0, none⟩), .int .i64 n] w (Took g w) := by
  have c0 : w.cell? ⟨g, 0, none⟩ = some (.slice none 0 0) := h.1.cell 0
  have c1 : w.cell? ⟨g, 1, none⟩ = some (.bool true) := h.1.cell 1
  go_enter Try.func28, Try.ntmps28
  go_wp2_with fail
  refine (fail_any g none F _ h).mono ?_
  rintro e w1 ⟨rfl, h1, h2⟩
  go_wp2
  go_returns
  exact ⟨rfl, h1, h2⟩
theorem take_far (g : Nat) (l : List UInt8) (n : Int) (F : Nat → Prop) (w : World) (h : Rdr w g (some l) F) (hn : n < 0 ∨ (l.length : Int) < n) :
    Calls Try.prog 28 #[.pointer (some ⟨g, 0, none⟩), .int .i64 n] w (Took g w) := by
  obtain ⟨A, c, hb, hr, h1, h2, h3, h4, rfl⟩ := id h
  have c0 : w.cell? ⟨g, 0, none⟩ = some (.slice A l.length c) := hb.cell 0
  have c1 : w.cell? ⟨g, 1, none⟩ = some (.bool false) := hb.cell 1
  by_cases h0 : n < 0
  · have H := Lib.hid hn; clear hn
    go_enter Try.func28, Try.ntmps28
    go_wp2_with fail
    refine (fail_any g (some l) _ _ h).mono ?_
    rintro e w1 ⟨rfl, h1, h2⟩
    go_wp2
    go_returns
    exact ⟨rfl, h1, h2⟩
  · have hn' : (l.length : Int) < n := by omega
    clear hn
    go_enter Try.func28, Try.ntmps28
    go_wp2_with fail
    refine (fail_any g (some l) _ _ h).mono ?_
    rintro e w1 ⟨rfl, h1, h2⟩
    go_wp2
    go_returns
    exact ⟨rfl, h1, h2⟩
theorem take_ok (g : Nat) (l : List UInt8) (n : Nat) (F : Nat → Prop) (w : World) (h : Rdr w g (some l) F) (hn : n ≤ l.length) :
    Calls Try.prog 28 #[.pointer (some ⟨g, 0, none⟩), .int .i64 n] w fun e w' => ∃ A' c', e = .returned (.tuple #[.slice A' n c', .bool true]) ∧ Rd w' 1 A' n (u8s (l.take n)) ∧ ob A' ≠ some g ∧ (∀ k, ob A' = some k → F k) ∧ n ≤ c' ∧
      ∃ F', Rdr w' g (some (l.drop n)) F' ∧ Sub F F' ∧ Mod (· = g) w w' := by
  obtain ⟨A, c, hb, hr, h1, h2, h3, h4, rfl⟩ := id h
  have c0 : w.cell? ⟨g, 0, none⟩ = some (.slice A l.length c) := hb.cell 0
  have c1 : w.cell? ⟨g, 1, none⟩ = some (.bool false) := hb.cell 1
  have f0 := hb.free 0
  have Hr := hr.take hn
  rw [Nat.mul_one, u8s_take] at Hr
  by_cases hcn : c = n
  · subst hcn
    have hlc : l.length = c := by omega
    have Hc := Lib.hid hlc
    unfold maxLen at h2
    clear hlc
    go_enter Try.func28, Try.ntmps28
    go_wp2
    go_returns
    refine ⟨A, c, rfl, Hr.keep (Mod.put _ g 0 _) fun k hk _ e => h3 (by rw [hk, e]), h3, fun k hk => .inr hk, Nat.le_refl _, fun k => k = g ∨ ob A = some k, ⟨A, 0, ?_, ?_, ?_, ?_, h3, ?_, rfl⟩, Sub.refl _, Mod.put _ g 0 _⟩
    · rw [show (l.drop c).length = 0 by rw [List.length_drop, Hc.out, Nat.sub_self]]
      exact hb.set 0 _
    · have e : l.drop c = [] := List.drop_eq_nil_of_le (by rw [Hc.out]; exact Nat.le_refl _)
      rw [e]
      exact Rd.nil _ _ _
    · rw [List.length_drop, Hc.out, Nat.sub_self]; exact Nat.zero_le _
    · unfold maxLen; omega
    · intro k hk
      exact Nat.lt_of_lt_of_le (h4 k hk) (Mod.put _ g 0 _).size
  · have Hd := hr.cut (k := n) (cap := c) hn h1
    rw [if_neg hcn, Nat.mul_one, u8s_drop] at Hd
    have hob : ob (A.map (·.add n)) = ob A := by cases A <;> simp [ob, add_block]
    have Hob := Lib.hid hob
    clear hob
    unfold maxLen at h2
    go_enter Try.func28, Try.ntmps28
    go_wp2
    go_returns
    refine ⟨A, c, rfl, Hr.keep (Mod.put _ g 0 _) fun k hk _ e => h3 (by rw [hk, e]), h3, fun k hk => .inr hk, by omega, fun k => k = g ∨ ob A = some k, ⟨A.map (·.add n), c - n, ?_, ?_, ?_, ?_, ?_, ?_, ?_⟩, Sub.refl _, Mod.put _ g 0 _⟩
    · rw [show (l.drop n).length = l.length - n from List.length_drop]
      exact hb.set 0 _
    · rw [show (l.drop n).length = l.length - n from List.length_drop]
      exact Hd.keep (Mod.put _ g 0 _) fun k hk _ e => h3 (by rw [← Hob.out, hk, e])
    · rw [List.length_drop]; omega
    · unfold maxLen; omega
    · rw [Hob.out]; exact h3
    · intro k hk
      rw [Hob.out] at hk
      exact Nat.lt_of_lt_of_le (h4 k hk) (Mod.put _ g 0 _).size
    · rw [Hob.out]
end Go.Proofs.Ythmonbkdecacnaa
