import Derived.Test.YtmgpiminicgbiaaEd
namespace Go.Proofs.Ytmgpiminicgbiaa
set_option linter.unusedVariables false
set_option linter.unusedSimpArgs false
open Go.RowKit

section
variable {P : Program} {G : Gh} {F : Nat → Prop} {w : World} {ro : Nat → Bool} {h : List AObj}
/-- what a value's run comes to in each world that agrees on what is read -/
def Yv (P : Program) (ro : Nat → Bool) (G : Gh) (F : Nat → Prop) (h : List AObj) (w : World) (av : AV) (s : Sem Value) : Prop :=
  ∃ x, (∀ w', SameOn ro G F h w w' → s.run P w' = .ok x w') ∧ RepV G (lens h) F w av x
theorem addE (b o j : Nat) : (⟨b, o, none⟩ : Addr).add j = ⟨b, o + j, none⟩ := by unfold Addr.add; split <;> simp_all
theorem drop_at {α : Type} (l : List α) (k j : Nat) : (l.drop k)[j]? = l[k + j]? := by rw [List.getElem?_drop]

theorem nilV_sound {op : Sem Next} {u : AV} {q : Prop × AV} {x : Value} (hh : HRel G F h w) (hq : nilV h u = some q) (hs : q.1) (hx : RepV G (lens h) F w u x) :
    (∃ b, x = .pointer (some b)) ∨ (∃ f a b, x = .func (.func f) a b) := by
  unfold nilV at hq
  split at hq
  · injection hq with hq; subst hq
    exact .inl ⟨_, (ptr_inv hx hs).2⟩
  · obtain ⟨b, o, f, h1, _⟩ := fp_inv hx
    exact .inl ⟨_, h1⟩
  · cases hx with
    | d _ _ h => cases h
    | clo f l k cs ds _ _ _ _ => exact .inr ⟨_, _, _, rfl⟩
  · cases hq
theorem nilV_same {u : AV} {q : Prop × AV} (hq : nilV h u = some q) : q.2 = u := by
  unfold nilV at hq
  split at hq <;> first | (injection hq with hq; subst hq; rfl) | cases hq

theorem loadAV_sound {t : TypeId} {u : AV} {q : Prop × AV} {x : Value} (hh : HRel G F h w) (hq : loadAV P ro h t u = some q) (hs : q.1) (hx : RepV G (lens h) F w u x) : Yv P ro G F h w q.2 (Instr.loadAt t x) := by
  unfold loadAV at hq
  split at hq
  · rename_i g off m
    split at hq
    · rename_i sz ag cs htt hcs
      split at hq
      · rename_i hro
        injection hq with hq; subst hq
        obtain ⟨kd, hk, hln⟩ := cellsH_at hcs
        obtain ⟨e1, e2, e3⟩ := hs
        rw [e1] at hln
        obtain ⟨hv, rfl⟩ := ptr_inv hx hln
        obtain ⟨cur, ty, fr, hb, hsz, hcr⟩ := hh.cells hk hv
        have hcell : ∀ (w' : World), SameOn ro G F h w w' → ∀ j, j < sz → w'.cell? ⟨G.σ g, off + j, none⟩ = some (cur.getD (off + j) undef) := fun w' hso j hj => by
          rw [World.cell?_of_block (a := ⟨G.σ g, off + j, none⟩) (hso (G.σ g) (.inr ⟨g, _, hk, hro, hv, rfl⟩)), cell_cells hb]
          have : off + j < cur.size := by omega
          simp [Array.getD, this]
        obtain ⟨x, hrun, hrep⟩ := run_load (P := P) (G := G) (ln := lens h) (F := F) (w := w) htt (G.σ g) off (cs.drop off) (fun j => cur.getD (off + j) undef) e3 (by simp; omega) w (hcell w (SameOn.refl _ _ _ _ _)) (fun j u hu => by
          rw [drop_at] at hu
          obtain ⟨y, hy, hr⟩ := hcr _ _ hu
          have : cur.getD (off + j) undef = y := by rw [Array.getD_eq_getD_getElem?, hy]; rfl
          rw [this]; exact hr)
        exact ⟨x, fun w' hso => by simpa [Instr.loadAt, Instr.sureAddr] using hrun w' (hcell w' hso), hrep⟩
      · cases hq
    · cases hq
  · rename_i c
    split at hq
    · rename_i sz ag htt
      injection hq with hq; subst hq
      obtain ⟨b, o, f, rfl, hF, hc, hr⟩ := fp_inv hx
      have hcell : ∀ (w' : World), SameOn ro G F h w w' → ∀ j, j < sz → w'.cell? ⟨b, o + j, none⟩ = some (f j) := fun w' hso j hj => by
        rw [World.cell?_of_block (a := ⟨b, o + j, none⟩) (hso b (.inl hF))]; exact hc j (by have := hs.1; omega)
      obtain ⟨x, hrun, hrep⟩ := run_load (P := P) (G := G) (ln := lens h) (F := F) (w := w) htt b o c f hs.2 hs.1 w (hcell w (SameOn.refl _ _ _ _ _)) (fun j u hu => .d _ _ (hr j u hu))
      exact ⟨x, fun w' hso => by simpa [Instr.loadAt, Instr.sureAddr] using hrun w' (hcell w' hso), hrep⟩
    · cases hq
  · cases hq

theorem fldV_sound {t : TypeId} {f : Nat} {u : AV} {q : Prop × AV} {x : Value} (hq : fldV P h t f u = some q) (hs : q.1) (hx : RepV G (lens h) F w u x) : Yv P ro G F h w q.2 (Instr.fieldAt t x f) := by
  unfold fldV at hq
  split at hq
  · rename_i g off m
    rw [Option.bind_eq_some_iff] at hq
    obtain ⟨p, hp, hq⟩ := hq
    injection hq with hq; subst hq
    obtain ⟨hv, rfl⟩ := ptr_inv hx hs
    obtain ⟨fs, y, i, d, h1, h2, h3, h4, h5, h6, h7, h8⟩ := fldT_inv hp
    refine ⟨.pointer (some ⟨G.σ g, off + p.1, none⟩), fun w' _ => ?_, .ptr g _ m hs hv⟩
    simp [Instr.fieldAt, run_underlying h1, h2, Instr.sureAddr, fieldPlace, sizeOf, typeInfo, h3, h6, h7, addE, h5]
  · rename_i c
    rw [Option.bind_eq_some_iff] at hq
    obtain ⟨p, hp, hq⟩ := hq
    injection hq with hq; subst hq
    obtain ⟨b, o, f', rfl, hF, hc, hr⟩ := fp_inv hx
    obtain ⟨fs, y, i, d, h1, h2, h3, h4, h5, h6, h7, h8⟩ := fldT_inv hp
    refine ⟨.pointer (some ⟨b, o + p.1, none⟩), fun w' _ => ?_, .fp _ b (o + p.1) (fun j => f' (p.1 + j)) hF (fun j hj => ?_) fun j u hu => ?_⟩
    · simp [Instr.fieldAt, run_underlying h1, h2, Instr.sureAddr, fieldPlace, sizeOf, typeInfo, h3, h6, h7, addE, h5]
    · rw [Nat.add_assoc]; exact hc _ (by simp at hj; omega)
    · rw [drop_at] at hu; exact hr _ u hu
  · cases hq

theorem ixV_sound {t : TypeId} {i : Int} {k : IntKind} {u : AV} {q : Prop × AV} {x : Value} (hq : ixV P h t u i = some q) (hs : q.1) (hx : RepV G (lens h) F w u x) : Yv P ro G F h w q.2 (Instr.indexAt t x (.int k i)) := by
  unfold ixV at hq
  split at hq
  · rename_i sz n c
    rw [Option.bind_eq_some_iff] at hq
    obtain ⟨p, hp, hq⟩ := hq
    injection hq with hq; subst hq
    obtain ⟨e1, e2, e3⟩ := hs
    obtain ⟨A, cap, rfl, h1, h2, h3, h4⟩ := fsD_inv (fs_inv hx)
    obtain ⟨b, o, f, rfl, hF, hc, hr⟩ := h4 (by omega)
    obtain ⟨ti, g1, g2, g3, g4⟩ := slT_inv hp
    have hin : i.toNat * sz + sz ≤ n * sz := by rw [← Nat.succ_mul]; exact Nat.mul_le_mul_right _ (by omega)
    refine ⟨.pointer (some ⟨b, o + i.toNat * sz, none⟩), fun w' _ => ?_, .fp _ b (o + i.toNat * sz) (fun j => f (i.toNat * sz + j)) hF (fun j hj => ?_) fun j u hu => ?_⟩
    · simp [Instr.indexAt, asIntOf, run_underlying g1, e2, e3, sizeOf, typeInfo, g2, g3, e1, addE]
    · rw [Nat.add_assoc]; exact hc _ (by simp at hj; omega)
    · rw [List.getElem?_take] at hu
      split at hu
      · rw [drop_at] at hu; exact hr _ u hu
      · cases hu
  · rename_i g sz off n m
    rw [Option.bind_eq_some_iff] at hq
    obtain ⟨p, hp, hq⟩ := hq
    injection hq with hq; subst hq
    obtain ⟨e1, e0, e2, e3⟩ := hs
    obtain ⟨ti, g1, g2, g3, g4⟩ := slT_inv hp
    rcases sl_inv hx e0 with ⟨_, _, rfl, _⟩ | ⟨hv, c, rfl, _⟩
    · omega
    · refine ⟨.pointer (some ⟨G.σ g, off + i.toNat * sz, none⟩), fun w' _ => ?_, .ptr g _ m e0 hv⟩
      simp [Instr.indexAt, asIntOf, run_underlying g1, e2, e3, sizeOf, typeInfo, g2, g3, e1, addE]
  · rename_i g off m
    rw [Option.bind_eq_some_iff] at hq
    obtain ⟨p, hp, hq⟩ := hq
    injection hq with hq; subst hq
    obtain ⟨e0, e2, e3⟩ := hs
    obtain ⟨e, ti, g1, g2, g3⟩ := arT_inv hp
    obtain ⟨hv, rfl⟩ := ptr_inv hx e0
    refine ⟨.pointer (some ⟨G.σ g, off + i.toNat * p.2, none⟩), fun w' _ => ?_, .ptr g _ m e0 hv⟩
    simp [Instr.indexAt, asIntOf, run_underlying g1, Instr.sureAddr, e2, e3, sizeOf, typeInfo, g2, g3, addE]
  · rename_i c
    rw [Option.bind_eq_some_iff] at hq
    obtain ⟨p, hp, hq⟩ := hq
    injection hq with hq; subst hq
    obtain ⟨e2, e3⟩ := hs
    obtain ⟨e, ti, g1, g2, g3⟩ := arT_inv hp
    obtain ⟨b, o, f, rfl, hF, hc, hr⟩ := fp_inv hx
    refine ⟨.pointer (some ⟨b, o + i.toNat * p.2, none⟩), fun w' _ => ?_, .fp _ b (o + i.toNat * p.2) (fun j => f (i.toNat * p.2 + j)) hF (fun j hj => ?_) fun j u hu => ?_⟩
    · simp [Instr.indexAt, asIntOf, run_underlying g1, Instr.sureAddr, e2, e3, sizeOf, typeInfo, g2, g3, addE]
    · rw [Nat.add_assoc]; exact hc _ (by simp at hj; omega)
    · rw [drop_at] at hu; exact hr _ u hu
  · cases hq
end
end Go.Proofs.Ytmgpiminicgbiaa
