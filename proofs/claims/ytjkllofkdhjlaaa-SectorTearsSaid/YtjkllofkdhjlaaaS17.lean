import Derived.Test.YtjkllofkdhjlaaaS16
namespace Go.Proofs.Ytjkllofkdhjlaaa
set_option linter.unusedVariables false
set_option linter.unusedSimpArgs false
open Go.RowKit
/-! ## What a crash leaves, byte by byte -/
def byteAt (b : B64) (k : Nat) : UInt8 := (b.1[k]?).getD 0
def keptAt (D : DevS) (i : Nat) : B64 := (D.kept[i]?).getD zB
theorem tear_at (o b : B64) (n k : Nat) : byteAt (tearB o b n) k = byteAt o k ∨ byteAt (tearB o b n) k = byteAt b k := by
  unfold byteAt tearB
  simp only [List.getElem?_append, List.getElem?_take, List.getElem?_drop, List.length_take, b.2]
  by_cases h : k < min n 64
  · rw [if_pos h, if_pos (by omega)]; exact .inr rfl
  · rw [if_neg h]
    by_cases h2 : k < 64
    · have e : n + (k - min n 64) = k := by omega
      rw [e]; exact .inl rfl
    · have e1 : o.1[k]? = none := List.getElem?_eq_none (by rw [o.2]; omega)
      have e2 : o.1[n + (k - min n 64)]? = none := List.getElem?_eq_none (by rw [o.2]; omega)
      rw [e1, e2]; exact .inl rfl
/-- a byte of a sector behind a crash: the one that was kept, or one of a write that waited -/
theorem crash_at (t : List Int) (D : DevS) (i k : Nat) : ∀ j, j ≤ D.wait.length → byteAt (((crashTo t D j)[i]?).getD zB) k = byteAt (keptAt D i) k ∨ ∃ w ∈ D.wait, w.1 = i ∧ byteAt (((crashTo t D j)[i]?).getD zB) k = byteAt w.2 k := by
  intro j
  induction j with
  | zero => intro _; exact .inl rfl
  | succ j ih =>
    intro hj
    have hlt : j < D.wait.length := by omega
    have ih := ih (by omega)
    simp only [crashTo, crashStep, List.getElem?_eq_getElem hlt, Option.getD_some]
    split
    · rename_i tt _
      by_cases hi : D.wait[j].1 = i
      · rw [hi, List.getElem?_set]
        by_cases hil : i < (crashTo t D j).length
        · rw [if_pos rfl, if_pos hil, Option.getD_some]
          rcases tear_at (((crashTo t D j)[i]?).getD zB) D.wait[j].2 (min (max tt 0) 64).toNat k with h | h
          · rw [h]; exact ih
          · exact .inr ⟨_, List.getElem_mem hlt, hi, h⟩
        · rw [if_pos rfl, if_neg hil]
          rw [List.getElem?_eq_none (by omega)] at ih
          exact ih
      · rw [List.getElem?_set_ne hi]; exact ih
    · exact ih
theorem crash_other (t : List Int) (D : DevS) (i : Nat) (h : ∀ w ∈ D.wait, w.1 ≠ i) : ∀ j, j ≤ D.wait.length → (crashTo t D j)[i]? = D.kept[i]? := by
  intro j
  induction j with
  | zero => intro _; rfl
  | succ j ih =>
    intro hj
    have hlt : j < D.wait.length := by omega
    simp only [crashTo, crashStep, List.getElem?_eq_getElem hlt, Option.getD_some]
    split
    · rw [List.getElem?_set_ne (h _ (List.getElem_mem hlt))]; exact ih (by omega)
    · exact ih (by omega)
/-- what is known of the device in the loop -/
structure TrOk (b : List UInt8) (c : Nat) (D : DevS) : Prop where
  kn : D.kept.length = 4
  bd : D.bound = false
  lf : D.left = 0
  c0 : 0 ≤ D.calls
  c1 : D.calls ≤ c + 2
  wl : D.wait.length ≤ c
  w1 : ∀ x ∈ D.wait, x.1 < 3
  k3 : D.kept[3]? = some (padB b)
  c5 : c ≤ 50
theorem TrOk.ok {b : List UInt8} {c : Nat} {D : DevS} (h : TrOk b c D) : D.Ok := by
  have := h.kn; have := h.c1; have := h.c5; have := h.wl
  exact ⟨fun x hx => by have := h.w1 x hx; omega, by omega, by omega, by rw [h.lf]; decide, by rw [h.lf]; decide, h.c0, by omega, by omega⟩
theorem TrOk.chk {b : List UInt8} {c : Nat} {D : DevS} (h : TrOk b c D) (i : Int) (hi : 0 ≤ i ∧ i < 4) (m : Nat) (hm : m ≤ 64) : checkS D i m = 0 := by
  unfold checkS
  rw [if_neg (by rw [h.kn]; omega), if_neg (by rw [h.bd]; simp)]
/-- what has been seen since sector 0 was kept -/
def SeenP (D : DevS) (m : Nat → List UInt8) : Prop := ∀ k, k < 64 → (byteAt (keptAt D 0) k = 0 ∨ byteAt (keptAt D 0) k ∈ m k) ∧ ∀ w ∈ D.wait, w.1 = 0 → byteAt w.2 k ∈ m k
theorem flush_form {b : List UInt8} {c : Nat} {D : DevS} (h : TrOk b c D) : flushS D = { D with calls := D.calls + 1, kept := D.wait.foldl putW D.kept, wait := [] } := by
  unfold flushS; rw [if_pos (h.chk 0 (by decide) 0 (by decide))]; simp [countS, h.bd]
theorem put_other (w : List (Nat × B64)) (i : Nat) (h : ∀ x ∈ w, x.1 ≠ i) : ∀ k : List B64, (w.foldl putW k)[i]? = k[i]? := by
  induction w with
  | nil => intro k; rfl
  | cons x w ih => intro k; rw [List.foldl_cons, ih (fun y hy => h y (List.mem_cons_of_mem _ hy)), putW, List.getElem?_set_ne (h x (by simp))]
theorem TrOk.flush {b : List UInt8} {c : Nat} {D : DevS} (h : TrOk b c D) (hc : c < 50) : TrOk b (c + 1) (flushS D) := by
  rw [flush_form h]
  have := h.c0; have := h.c1
  exact ⟨by simp [h.kn], h.bd, h.lf, by simp only; omega, by simp only; omega, by simp, by simp, by rw [← h.k3]; exact put_other _ 3 (fun x hx => by have := h.w1 x hx; omega) _, by omega⟩
theorem seen_flush {b : List UInt8} {c : Nat} {D : DevS} (h : TrOk b c D) (m : Nat → List UInt8) (hm : ∀ k, k < 64 → m k = [byteAt (curS (flushS D) 0) k]) : SeenP (flushS D) m := by
  intro k hk
  rw [hm k hk]
  refine ⟨.inr ?_, ?_⟩
  · have : curS (flushS D) 0 = keptAt (flushS D) 0 := by rw [flush_form h]; rfl
    rw [this]; simp
  · rw [flush_form h]; simp
theorem write_form {b : List UInt8} {c : Nat} {D : DevS} (h : TrOk b c D) (i : Int) (hi : 0 ≤ i ∧ i < 3) (l : List UInt8) (hl : l.length ≤ 64) : writeS D i l = { D with calls := D.calls + 1, wait := D.wait ++ [(i.toNat, padB l)] } := by
  unfold writeS; rw [if_pos (h.chk i ⟨hi.1, by omega⟩ _ hl)]; simp [countS, h.bd]
theorem TrOk.write {b : List UInt8} {c : Nat} {D : DevS} (h : TrOk b c D) (hc : c < 50) (i : Int) (hi : 0 ≤ i ∧ i < 3) (l : List UInt8) (hl : l.length ≤ 64) : TrOk b (c + 1) (writeS D i l) := by
  rw [write_form h i hi l hl]
  have := h.c0; have := h.c1; have := h.wl
  refine ⟨h.kn, h.bd, h.lf, by simp only; omega, by simp only; omega, by simp; omega, fun x hx => ?_, h.k3, by omega⟩
  simp only [List.mem_append, List.mem_singleton] at hx
  rcases hx with hx | rfl
  · exact h.w1 x hx
  · simp only; omega
theorem seen_write {b : List UInt8} {c : Nat} {D : DevS} (h : TrOk b c D) (i : Int) (hi : 0 ≤ i ∧ i < 3) (l : List UInt8) (hl : l.length ≤ 64) (m m' : Nat → List UInt8) (hs : SeenP D m) (hm : ∀ k, k < 64 → m' k = m k ++ [byteAt (curS (writeS D i l) 0) k]) : SeenP (writeS D i l) m' := by
  intro k hk
  rw [hm k hk]
  obtain ⟨h1, h2⟩ := hs k hk
  rw [write_form h i hi l hl]
  refine ⟨?_, fun w hw hw0 => ?_⟩
  · exact h1.imp _root_.id fun h => List.mem_append_left _ h
  · simp only [List.mem_append, List.mem_singleton] at hw
    rcases hw with hw | rfl
    · exact List.mem_append_left _ (h2 w hw hw0)
    · simp only at hw0
      refine List.mem_append_right _ ?_
      simp [curS, lastW, hw0]
theorem seen_crash {D : DevS} {m : Nat → List UInt8} (hs : SeenP D m) (t : List Int) (k : Nat) (hk : k < 64) : byteAt (curS (crashS t D) 0) k = 0 ∨ byteAt (curS (crashS t D) 0) k ∈ m k := by
  have e : curS (crashS t D) 0 = ((crashTo t D D.wait.length)[0]?).getD zB := rfl
  rw [e]
  obtain ⟨h1, h2⟩ := hs k hk
  rcases crash_at t D 0 k D.wait.length (Nat.le_refl _) with h | ⟨w, hw, hw0, h⟩
  · rw [h]; exact h1
  · rw [h]; exact .inr (h2 w hw hw0)
theorem TrOk.crash3 {b : List UInt8} {c : Nat} {D : DevS} (h : TrOk b c D) (t : List Int) : curS (crashS t D) 3 = padB b := by
  have e : curS (crashS t D) 3 = ((crashTo t D D.wait.length)[3]?).getD zB := rfl
  rw [e, crash_other t D 3 (fun w hw => by have := h.w1 w hw; omega) _ (Nat.le_refl _), h.k3]; rfl
theorem TrOk.crash_ok {b : List UInt8} {c : Nat} {D : DevS} (h : TrOk b c D) (t : List Int) : (crashS t D).Ok := by
  have := h.c0; have := h.c1; have := h.c5
  exact ⟨by simp [crashS], by simp [crashS, h.kn], by simp [crashS, h.kn], by simp [crashS, h.lf], by simp [crashS, h.lf], by simp only [crashS]; omega, by simp only [crashS]; omega, by simp [crashS]⟩
theorem TrOk.crash_chk {b : List UInt8} {c : Nat} {D : DevS} (h : TrOk b c D) (t : List Int) (i : Int) (hi : 0 ≤ i ∧ i < 4) : checkS (crashS t D) i 0 = 0 := by
  unfold checkS
  rw [if_neg (by simp [crashS, h.kn]; omega), if_neg (by simp [crashS])]
theorem start_ok (b : List UInt8) (hb : b.length ≤ 64) : TrOk b 0 (flushS (writeS (newS 4) 3 b)) ∧ checkS (newS 4) 3 b.length = 0 ∧ checkS (writeS (newS 4) 3 b) 0 0 = 0 ∧ (writeS (newS 4) 3 b).Ok := by
  have hc : checkS (newS 4) 3 b.length = 0 := by
    unfold checkS; rw [if_neg (by simp [newS]; omega), if_neg (by simp [newS])]
  have hw : writeS (newS 4) 3 b = ⟨List.replicate 4 zB, [(3, padB b)], false, 0, 1⟩ := by
    unfold writeS; rw [if_pos hc]; rfl
  have hc2 : checkS (writeS (newS 4) 3 b) 0 0 = 0 := by rw [hw]; rfl
  have hf : flushS (writeS (newS 4) 3 b) = ⟨(List.replicate 4 zB).set 3 (padB b), [], false, 0, 2⟩ := by
    unfold flushS; rw [if_pos hc2, hw]; rfl
  refine ⟨?_, hc, hc2, ?_⟩
  · rw [hf]
    exact ⟨by simp, rfl, rfl, by simp only; omega, by simp only; omega, by simp, by simp, by simp, by decide⟩
  · rw [hw]
    exact ⟨by simp, by simp, by simp, by simp only; omega, by simp only; omega, by simp only; omega, by simp only; omega, by simp⟩
theorem seen_start (b : List UInt8) (hb : b.length ≤ 64) (m : Nat → List UInt8) : SeenP (flushS (writeS (newS 4) 3 b)) m := by
  have hc : checkS (newS 4) 3 b.length = 0 := (start_ok b hb).2.1
  have hc2 : checkS (writeS (newS 4) 3 b) 0 0 = 0 := (start_ok b hb).2.2.1
  have hw : writeS (newS 4) 3 b = ⟨List.replicate 4 zB, [(3, padB b)], false, 0, 1⟩ := by
    unfold writeS; rw [if_pos hc]; rfl
  have hf : flushS (writeS (newS 4) 3 b) = ⟨(List.replicate 4 zB).set 3 (padB b), [], false, 0, 2⟩ := by
    unfold flushS; rw [if_pos hc2, hw]; rfl
  intro k hk
  rw [hf]
  refine ⟨.inl ?_, by simp⟩
  have : ∀ k, k < 64 → byteAt zB k = 0 := by decide
  exact this k hk
end Go.Proofs.Ytjkllofkdhjlaaa
