import Derived.Test.YtcjncgfhkgcbnaaDoorJm
namespace Go.Proofs.YtcjncgfhkgcbnaaDoor
set_option linter.unusedVariables false
set_option linter.unusedSimpArgs false
open Go.RowKit
def stR (s : SchS) (tb : Int) (b : Bool) (n : Int) : Int := ((s.tabs.find? fun t => decide (t.id = tb)).bind fun t => stOf t b n).getD 0
def fvR (s : SchS) (m : MvS) : Bool := decide (m.st = 3) || decide (stR s m.tab m.ofi m.item = 3)
def Fen (j : JobS) (s : SchS) (n : NxS) : Prop := (n.ver ≠ 0 → n.up = false ∧ n.mv = []) ∧ (n.ver = 0 → n.mv = [] → n.up = decide (j.kind = 5)) ∧ (n.ver = 0 → n.mv ≠ [] → n.up = n.mv.any (fvR s))
theorem stR_tab {j : JobS} {s : SchS} {t : TabS} (h : jTab j s = some t) (b : Bool) (n : Int) : stR s j.table b n = (stOf t b n).getD 0 := by
  unfold jTab at h
  unfold stR
  rw [h]; rfl
theorem Fen.three (j : JobS) (s : SchS) : Fen j s nx3 := ⟨fun _ => ⟨rfl, rfl⟩, fun h => (by cases h), fun h => (by cases h)⟩
theorem Fen.part {j : JobS} {s : SchS} {n : NxS} (v : Int) (hv : v ≠ 0) (h : Fen j s n) : Fen j s (plPart j v n) := by
  unfold plPart
  split
  · exact h
  · exact ⟨fun _ => ⟨rfl, rfl⟩, fun h => absurd h hv, fun h => absurd h hv⟩
theorem Fen.one {j : JobS} {s : SchS} {b : Bool} {m : MvS} (h : b = fvR s m) : Fen j s ⟨0, [m], b⟩ := ⟨fun h => absurd rfl h, fun _ h => (by cases h), fun _ _ => by simp [h]⟩
theorem fen_other {j : JobS} {s : SchS} {t : TabS} (h : jTab j s = some t) : Fen j s (plOther j t) := by
  unfold plOther
  split
  · rename_i h1
    refine Fen.one ?_
    simp [fvR, stR_tab h, h1]
  · split
    · rename_i _ h1
      refine Fen.part 2 (by decide) (Fen.one ?_)
      simp [fvR, stR_tab h, h1]
    · exact .three j s
theorem fen_down {j : JobS} {s : SchS} {t : TabS} (h : jTab j s = some t) : Fen j s (plDown j t) := by
  unfold plDown
  split
  · rename_i h1
    refine Fen.one ?_
    simp [fvR, plMove, stR_tab h, h1]
  · split
    · rename_i _ h1
      refine Fen.one ?_
      simp [fvR, plMove, stR_tab h, h1]
    · split
      · rename_i _ _ h1
        refine Fen.part 2 (by decide) (Fen.one ?_)
        simp [fvR, plMove, stR_tab h, h1]
      · exact .three j s
theorem fen_up {j : JobS} {s : SchS} {t : TabS} (h : jTab j s = some t) (h5 : ¬ j.kind = 5) : Fen j s (plUp j t) := by
  unfold plUp
  split
  · exact ⟨fun h => absurd rfl h, fun _ _ => by simp [h5], fun _ h => absurd rfl h⟩
  · split
    · rename_i _ h1
      refine Fen.one ?_
      simp [fvR, plMove, stR_tab h, h1]
    · split
      · refine Fen.part 1 (by decide) ⟨fun h => absurd rfl h, fun _ h => (by cases h), fun _ _ => ?_⟩
        simp [fvR, plMove]
      · split
        · exact fen_other h
        · exact .three j s
theorem fen_next (j : JobS) (s : SchS) : Fen j s (jNext j s) := by
  unfold jNext
  split
  · exact .three j s
  · cases h : jTab j s with
    | none =>
      simp only
      split
      · rename_i h5
        exact ⟨fun h => absurd rfl h, fun _ _ => by simp [h5], fun _ h => absurd rfl h⟩
      · exact .three j s
    | some t =>
      simp only
      split
      · exact .three j s
      · rename_i h5
        split
        · exact fen_down h
        · exact fen_up h h5
theorem part_len (j : JobS) (v : Int) (n : NxS) (h : n.mv.length ≤ 2) : (plPart j v n).mv.length ≤ 2 := by
  unfold plPart
  split
  · exact h
  · exact Nat.zero_le _
theorem next_len (j : JobS) (s : SchS) : (jNext j s).mv.length ≤ 2 := by
  unfold jNext
  split
  · exact Nat.zero_le _
  · cases jTab j s with
    | none => simp only; split <;> exact Nat.zero_le _
    | some t =>
      simp only
      split
      · exact Nat.zero_le _
      · split
        · unfold plDown
          split
          · simp
          · split
            · simp
            · split
              · exact part_len _ _ _ (by simp)
              · exact Nat.zero_le _
        · unfold plUp
          split
          · simp
          · split
            · simp
            · split
              · exact part_len _ _ _ (by simp only [List.length_cons]; split <;> simp)
              · split
                · unfold plOther
                  split
                  · simp
                  · split
                    · exact part_len _ _ _ (by simp)
                    · exact Nat.zero_le _
                · exact Nat.zero_le _
end Go.Proofs.YtcjncgfhkgcbnaaDoor
