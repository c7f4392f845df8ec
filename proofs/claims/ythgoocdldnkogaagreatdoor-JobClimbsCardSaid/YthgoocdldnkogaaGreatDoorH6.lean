import Derived.Test.YthgoocdldnkogaaGreatDoorHW
namespace Go.Proofs.YthgoocdldnkogaaGreatDoor
set_option linter.unusedVariables false
set_option linter.unusedSimpArgs false
open Go.RowKit
inductive NilL : List AV → List AV → Prop
 | nil : NilL [] []
 | same (u : AV) {l l' : List AV} : NilL l l' → NilL (u :: l) (u :: l')
 | slice (sz : Nat) {l l' : List AV} : NilL l l' → NilL (.c (.slice none 0 0) :: l) (.fs sz 0 [] :: l')
theorem NilL.len {l l' : List AV} (h : NilL l l') : l'.length = l.length := by
 induction h with
 | nil => rfl
 | same u _ ih => simp [ih]
 | slice sz _ ih => simp [ih]
theorem NilL.at {l l' : List AV} (h : NilL l l') : ∀ (j : Nat) (u u' : AV), l[j]? = some u → l'[j]? = some u' → u' = u ∨ (u = .c (.slice none 0 0) ∧ ∃ sz, u' = .fs sz 0 []) := by
 induction h with
 | nil => intro j u u' h1 _; simp at h1
 | same v _ ih =>
  intro j u u' h1 h2
  cases j with
  | zero => simp at h1 h2; exact .inl (h2.symm.trans h1)
  | succ j => exact ih j u u' (by simpa using h1) (by simpa using h2)
 | slice sz _ ih =>
  intro j u u' h1 h2
  cases j with
  | zero => simp at h1 h2; exact .inr ⟨h1.symm, sz, h2.symm⟩
  | succ j => exact ih j u u' (by simpa using h1) (by simpa using h2)
section
variable {P : Program} {E : Env} {s : AS}
theorem nil_agg {l l' : List AV} (hn : NilL l l') {G : Gh} {F : Nat → Prop} {w : World} {ln : List Nat} {v : Value} (h : RepV G ln F w (.agg l) v) : RepV G ln F w (.agg l') v := by
 cases h with
 | d _ _ h => cases h
 | agg _ cs h1 h2 =>
  refine .agg _ cs (hn.len.trans h1) fun j u' x hu hx => ?_
  have hj : j < l.length := by rw [← hn.len]; exact (List.getElem?_eq_some_iff.1 hu).1
  have e := h2 j _ x (List.getElem?_eq_getElem hj) hx
  rcases hn.at j _ u' (List.getElem?_eq_getElem hj) hu with h | ⟨h, sz, h'⟩
  ·rw [h]; exact e
  ·rw [h']; rw [h] at e; exact nil_fs0 sz e
end

section
variable {P : Program} {E : Env} {s : AS}
theorem wk_cells (r : Nat) {kd : AKind} {cs cs' : List AV} (h0 : s.h[r]? = some (.o kd cs)) (hlen : cs'.length = cs.length)
  (himp : ∀ (j : Nat) (u u' : AV), cs[j]? = some u → cs'[j]? = some u' → ∀ G F w v, HRel G F s.h w → RepV G (lens s.h) F w u v → RepV G (lens s.h) F w u' v) : Wk E s ⟨s.t, s.h.set r (.o kd cs')⟩ := by
 intro a w ⟨G, F, hr⟩
 have hl : lens (s.h.set r (.o kd cs')) = lens s.h := lens_set h0 (by simp [lnO, hlen])
 have hcr : ∀ {cur : Array Value}, CRel G (lens s.h) F w cs cur → CRel G (lens s.h) F w cs' cur := fun {cur} hc i av hi => by
  have hj : i < cs.length := by rw [← hlen]; exact (List.getElem?_eq_some_iff.1 hi).1
  obtain ⟨x, h1, h2⟩ := hc i _ (List.getElem?_eq_getElem hj)
  exact ⟨x, h1, himp i _ av (List.getElem?_eq_getElem hj) hi G F w x hr.heap h2⟩
 have hget : ∀ {k : Nat} {x : AObj}, (s.h.set r (.o kd cs'))[k]? = some x → (k = r ∧ x = .o kd cs') ∨ (k ≠ r ∧ s.h[k]? = some x) := fun {k x} hk => by
  by_cases hkr : k = r
  ·subst hkr
   rw [List.getElem?_set_self (List.getElem?_eq_some_iff.1 h0).1] at hk
   injection hk with hk; exact .inl ⟨rfl, hk.symm⟩
  ·rw [List.getElem?_set_ne (Ne.symm hkr)] at hk; exact .inr ⟨hkr, hk⟩
 have hold : ∀ {k : Nat} {x : AObj}, (s.h.set r (.o kd cs'))[k]? = some x → ∃ y, s.h[k]? = some y ∧ fzO y = fzO x := fun {k x} hk => by
  rcases hget hk with ⟨rfl, rfl⟩ | ⟨_, hk⟩
  ·exact ⟨_, h0, by cases kd <;> rfl⟩
  ·exact ⟨x, hk, rfl⟩
 refine ⟨G, F, hr.len, hr.def0, fun i av v h1 h2 => by rw [hl]; exact hr.slot i av v h1 h2, ⟨fun k x hk => ?_, fun j' k x y hj' hk vj vk fj fk he => ?_⟩, hr.mod, fun k x hk hv hf hho => ?_, hr.fsup, hr.f0, hr.fc, by rw [hl]; exact hr.lat⟩
 ·rw [hl]
  rcases hget hk with ⟨rfl, rfl⟩ | ⟨_, hk⟩
  ·have hob := hr.heap.obj k _ h0
   cases kd with
   | box => obtain ⟨a1, a2, cur, ty, a3, a4, a5, a6⟩ := hob; exact ⟨a1, a2, cur, ty, a3, a4, by rw [hlen]; exact a5, hcr a6⟩
   | row e sz =>
    rcases hob with ⟨a1, a2⟩ | ⟨a1, a2, cur, c, a3, a4, a5, a6, a7, a8⟩
    ·exact .inl ⟨a1, List.eq_nil_of_length_eq_zero (by rw [hlen, a2]; rfl)⟩
    ·exact .inr ⟨a1, a2, cur, c, a3, a4, a5, a6, by rw [hlen]; exact a7, hcr a8⟩
   | fz =>
    rcases hob with ⟨a1, a2⟩ | ⟨a1, a2, cur, ty, fr, a3, a4, a5, a6⟩
    ·exact .inl ⟨a1, List.eq_nil_of_length_eq_zero (by rw [hlen, a2]; rfl)⟩
    ·exact .inr ⟨a1, a2, cur, ty, fr, a3, a4, by rw [hlen]; exact a5, hcr a6⟩
  ·exact hr.heap.obj k x hk
 ·obtain ⟨x', hx', ex⟩ := hold hj'
  obtain ⟨y', hy', ey⟩ := hold hk
  exact hr.heap.inj j' k x' y' hx' hy' vj vk (ex.trans fj) (ey.trans fk) he
 ·obtain ⟨x', hx', ex⟩ := hold hk
  exact hr.sup k x' hx' hv (ex.trans hf) hho
end
end Go.Proofs.YthgoocdldnkogaaGreatDoor
