import Derived.Test.YtmgpiminicgbiaaEc
namespace Go.Proofs.Ytmgpiminicgbiaa
set_option linter.unusedVariables false
set_option linter.unusedSimpArgs false
open Go.RowKit

def SameOn (ro : Nat → Bool) (G : Gh) (F : Nat → Prop) (h : List AObj) (w w' : World) : Prop :=
  ∀ b, (F b ∨ ∃ k x, h[k]? = some x ∧ ro k = true ∧ G.vir k = false ∧ b = G.σ k) → w'.heap[b]? = w.heap[b]?
theorem SameOn.refl (ro : Nat → Bool) (G : Gh) (F : Nat → Prop) (h : List AObj) (w : World) : SameOn ro G F h w w := fun _ _ => rfl

section
variable {P : Program} {G : Gh} {ln : List Nat} {F : Nat → Prop} {w : World} {ro : Nat → Bool} {h : List AObj}
theorem ptr_inv {k off m : Nat} {x : Value} (hr : RepV G ln F w (.ptr k off m) x) (hm : ln[k]? = some m) : G.vir k = false ∧ x = .pointer (some ⟨G.σ k, off, none⟩) := by
  cases hr with
  | d _ _ h => cases h
  | ptr _ _ _ h1 h2 => exact ⟨h2, rfl⟩
  | ptrOld _ _ _ m' _ h1 h2 => rw [hm] at h1; injection h1 with h1; omega
theorem sl_inv {k sz off n m : Nat} {x : Value} (hr : RepV G ln F w (.sl k sz off n m) x) (hm : ln[k]? = some m) :
    (G.vir k = true ∧ off = 0 ∧ n = 0 ∧ m = 0 ∧ x = .slice none 0 0) ∨ (G.vir k = false ∧ ∃ c, x = .slice (some ⟨G.σ k, off, none⟩) n c ∧ n ≤ c ∧ c ≤ maxLen ∧ off + c * sz ≤ G.bs k) := by
  cases hr with
  | d _ _ h => cases h
  | sl _ _ _ _ _ c h1 h2 h3 h4 h5 => exact .inr ⟨h2, c, rfl, h3, h4, h5⟩
  | slNil _ _ h1 h2 => exact .inl ⟨h2, rfl, rfl, rfl, rfl⟩
  | slOld _ _ _ _ _ m' _ _ _ h1 h2 => rw [hm] at h1; injection h1 with h1; omega
theorem fs_inv {sz n : Nat} {l : List AV} {x : Value} (hr : RepV G ln F w (.fs sz n l) x) : RepD F w (.fs sz n l) x := by
  cases hr with
  | d _ _ h => exact h
theorem fsD_inv {sz n : Nat} {l : List AV} {x : Value} (hr : RepD F w (.fs sz n l) x) : ∃ A c, x = .slice A n c ∧ n ≤ c ∧ c ≤ maxLen ∧ l.length = n * sz ∧
    (0 < n → ∃ (b o : Nat) (f : Nat → Value), A = some ⟨b, o, none⟩ ∧ F b ∧ (∀ j, j < l.length → w.cell? ⟨b, o + j, none⟩ = some (f j)) ∧ ∀ (j : Nat) (u : AV), l[j]? = some u → RepD F w u (f j)) := by
  cases hr with
  | fs0 _ A c h => exact ⟨A, c, rfl, Nat.zero_le _, h, by simp, fun h => absurd h (by omega)⟩
  | fs _ _ b o c _ f h1 h2 h3 h4 h5 h6 h7 => exact ⟨_, c, rfl, h2, h3, h4, fun _ => ⟨b, o, f, rfl, h5, h6, h7⟩⟩
theorem fp_inv {l : List AV} {x : Value} (hr : RepV G ln F w (.fp l) x) : ∃ (b o : Nat) (f : Nat → Value), x = .pointer (some ⟨b, o, none⟩) ∧ F b ∧ (∀ j, j < l.length → w.cell? ⟨b, o + j, none⟩ = some (f j)) ∧ ∀ (j : Nat) (u : AV), l[j]? = some u → RepD F w u (f j) := by
  cases hr with
  | d _ _ h => cases h
  | fp _ b o f h1 h2 h3 => exact ⟨b, o, f, rfl, h1, h2, h3⟩
theorem lens_at {k m : Nat} (hm : (lens h)[k]? = some m) : ∃ x, h[k]? = some x ∧ lnO x = m := by
  unfold lens at hm
  rw [List.getElem?_map, Option.map_eq_some_iff] at hm
  exact hm
theorem cellsH_at {k : Nat} {cs : List AV} (hc : cellsH h k = some cs) : ∃ kd, h[k]? = some (.o kd cs) ∧ (lens h)[k]? = some cs.length := by
  unfold cellsH at hc
  split at hc
  · rename_i kd cs' hk
    injection hc with hc
    subst hc
    exact ⟨kd, hk, by simp [lens, List.getElem?_map, hk, lnO]⟩
  · cases hc
/-- a solid block's cells, and what they hold -/
theorem HRel.cells (hh : HRel G F h w) {k : Nat} {kd : AKind} {cs : List AV} (hk : h[k]? = some (.o kd cs)) (hv : G.vir k = false) :
    ∃ cur ty fr, w.heap[G.σ k]? = some (.cells cur ty fr) ∧ cs.length ≤ cur.size ∧ CRel G (lens h) F w cs cur := by
  have := hh.obj k _ hk
  cases kd with
  | box => obtain ⟨_, _, cur, ty, h1, h2, h3, h4⟩ := this; exact ⟨cur, ty, _, h1, by omega, h4⟩
  | row e sz =>
    rcases this with ⟨h1, _⟩ | ⟨_, _, cur, c, h1, h2, h3, h4, h5, h6⟩
    · rw [hv] at h1; cases h1
    · exact ⟨cur, e, _, h1, by omega, h6⟩
  | fz =>
    rcases this with ⟨h1, _⟩ | ⟨_, _, cur, ty, fr, h1, _, h2, h3⟩
    · rw [hv] at h1; cases h1
    · exact ⟨cur, ty, fr, h1, h2, h3⟩
theorem HRel.bs (hh : HRel G F h w) {k : Nat} {x : AObj} (hk : h[k]? = some x) : lnO x ≤ G.bs k := by
  have := hh.obj k _ hk
  cases x with
  | it s pos => exact Nat.zero_le _
  | o kd cs =>
    simp only [lnO]
    cases kd with
    | box => obtain ⟨_, _, cur, ty, h1, h2, h3, h4⟩ := this; omega
    | row e sz =>
      rcases this with ⟨_, h1⟩ | ⟨_, _, cur, c, h1, h2, h3, h4, h5, h6⟩
      · subst h1; exact Nat.zero_le _
      · exact h5
    | fz =>
      rcases this with ⟨_, h1⟩ | ⟨_, _, cur, ty, fr, h1, h2, h3, h4⟩
      · subst h1; exact Nat.zero_le _
      · omega
theorem cell_cells {b i : Nat} {cur : Array Value} {ty : TypeId} {fr : Nat × Nat} (hb : w.heap[b]? = some (.cells cur ty fr)) : w.cell? ⟨b, i, none⟩ = cur[i]? := cell_of_row w b i cur ty fr hb

theorem tyT_inv {t sz : Nat} {ag : Bool} (ht : tyT P t = some (sz, ag)) : ∃ i d, P.info? t = some i ∧ i.size = sz ∧ P.underlying t = some d ∧ aggD d = ag := by
  unfold tyT at ht
  split at ht
  · rename_i i d hi hd
    injection ht with ht
    injection ht with e1 e2
    exact ⟨i, d, hi, e1, hd, e2⟩
  · cases ht
theorem slT_inv {t : Nat} {p : TypeId × Nat × Nat} (ht : slT P t = some p) : ∃ i, P.underlying t = some (.slice p.1) ∧ P.info? p.1 = some i ∧ i.size = p.2.1 ∧ i.bytes = p.2.2 := by
  unfold slT at ht
  split at ht
  · rename_i e he
    rw [Option.map_eq_some_iff] at ht
    obtain ⟨i, hi, rfl⟩ := ht
    exact ⟨i, he, hi, rfl, rfl⟩
  · cases ht
theorem arT_inv {t : Nat} {p : Nat × Nat} (ht : arT P t = some p) : ∃ e i, P.underlying t = some (.array p.1 e) ∧ P.info? e = some i ∧ i.size = p.2 := by
  unfold arT at ht
  split at ht
  · rename_i n e he
    rw [Option.map_eq_some_iff] at ht
    obtain ⟨i, hi, rfl⟩ := ht
    exact ⟨e, i, he, hi, rfl⟩
  · cases ht
theorem intT_inv {t : Nat} {k : IntKind} (ht : intT P t = some k) : P.underlying t = some (.int k) := by
  unfold intT at ht
  split at ht
  · rename_i k' hk
    injection ht with ht; rw [hk, ht]
  · cases ht
theorem isStrT_inv {t : Nat} (ht : isStrT P t = true) : P.underlying t = some .string := by
  unfold isStrT at ht
  split at ht
  · assumption
  · cases ht
theorem fldT_inv {t f : Nat} {p : Nat × Nat × Bool} (ht : fldT P t f = some p) : ∃ fs x i d, P.underlying t = some (.struct fs) ∧ fs[f]? = some x ∧ P.info? x.type = some i ∧ P.underlying x.type = some d ∧ x.offset = p.1 ∧ i.size = p.2.1 ∧ p.2.1 ≠ 0 ∧ aggD d = p.2.2 := by
  unfold fldT at ht
  split at ht
  · rename_i fs hfs
    split at ht
    · rename_i x hx
      rw [Option.bind_eq_some_iff] at ht
      obtain ⟨⟨sz, ag⟩, h1, h2⟩ := ht
      split at h2
      · cases h2
      · rename_i hne
        injection h2 with h2
        subst h2
        obtain ⟨i, d, e1, e2, e3, e4⟩ := tyT_inv h1
        exact ⟨fs, x, i, d, hfs, hx, e1, e3, rfl, e2, hne, e4⟩
    · cases ht
  · cases ht
/-- a load of whatever type from cells that lie in one block -/
theorem run_load {t sz : Nat} {ag : Bool} (ht : tyT P t = some (sz, ag)) (b o : Nat) (cs : List AV) (f : Nat → Value) (hs : 0 < sz) (hl : sz ≤ cs.length) (w' : World) (hc : ∀ j, j < sz → w'.cell? ⟨b, o + j, none⟩ = some (f j))
    (hr : ∀ (j : Nat) (u : AV), cs[j]? = some u → RepV G ln F w u (f j)) :
    ∃ x, (∀ w'', (∀ j, j < sz → w''.cell? ⟨b, o + j, none⟩ = some (f j)) → (loadVar t ⟨b, o, none⟩).run P w'' = .ok x w'') ∧ RepV G ln F w (loadV sz ag cs) x := by
  obtain ⟨i, d, hi, hsz, hu, hd⟩ := tyT_inv ht
  have addE : ∀ j, (⟨b, o, none⟩ : Addr).add j = ⟨b, o + j, none⟩ := fun j => by unfold Addr.add; split <;> simp_all
  cases ag with
  | true =>
    refine ⟨.agg ((List.range sz).map f).toArray, fun w'' hc => run_loadN w'' t d i hu (by cases d <;> simp_all [aggD, isAggD]) hi _ _ (by simp [hsz]) fun j u hj => ?_, ?_⟩
    · by_cases hlt : j < sz
      · have : u = f j := by simpa [hlt] using hj.symm
        subst this
        rw [addE]
        exact hc j hlt
      · rw [List.getElem?_eq_none (by simp; omega)] at hj; cases hj
    · simp only [loadV, if_true]
      refine .agg _ _ (by simp; omega) fun j u x hu hx => ?_
      rw [List.getElem?_take] at hu
      split at hu
      · rename_i hj
        have : x = f j := by simp [hj] at hx; exact hx.symm
        subst this
        exact hr j u hu
      · cases hu
  | false =>
    have hag : (w'' : World) → (isAgg t).run P w'' = .ok false w'' := fun w'' => by
      unfold isAgg
      rw [Sem.run_bind, run_underlying hu w'']
      cases d <;> simp_all [aggD]
    refine ⟨f 0, fun w'' hc => ?_, ?_⟩
    · have := hc 0 hs
      simp only [Nat.add_zero] at this
      simp [loadVar, Sem.run_bind, hag, load, Sem.run, this]
    · have hlt : 0 < cs.length := by omega
      simp only [loadV, Bool.false_eq_true, if_false]
      rw [List.getElem?_eq_getElem hlt, Option.getD_some]
      exact hr 0 _ (List.getElem?_eq_getElem hlt)
end
end Go.Proofs.Ytmgpiminicgbiaa
