import Derived.Test.YtmgpiminicgbiaaHW
import Derived.Test.YtmgpiminicgbiaaG4
namespace Go.Proofs.Ytmgpiminicgbiaa
set_option linter.unusedVariables false
set_option linter.unusedSimpArgs false
open Go.RowKit
/-! ## A box that stays as it is from now on: pointers to it are pointers to data -/
section
variable {P : Program} {E : Env} {s : AS}
theorem wk_fzb (k : Nat) {cs : List AV} (hk : s.h[k]? = some (.o .box cs)) (hho : E.ho k = false) : Wk E s ⟨s.t, s.h.set k (.o .fz cs)⟩ := by
  intro a w ⟨G, F, hr⟩
  have hl : lens (s.h.set k (.o .fz cs)) = lens s.h := lens_set hk (by simp [lnO])
  have hget : ∀ {j : Nat} {x : AObj}, (s.h.set k (.o .fz cs))[j]? = some x → (j = k ∧ x = .o .fz cs) ∨ (j ≠ k ∧ s.h[j]? = some x) := fun {j x} hj => by
    by_cases hjk : j = k
    · subst hjk
      rw [List.getElem?_set_self (List.getElem?_eq_some_iff.1 hk).1] at hj
      injection hj with hj; exact .inl ⟨rfl, hj.symm⟩
    · rw [List.getElem?_set_ne (Ne.symm hjk)] at hj; exact .inr ⟨hjk, hj⟩
  have hinj : ∀ (j' k' : Nat) (x y : AObj), (s.h.set k (.o .fz cs))[j']? = some x → (s.h.set k (.o .fz cs))[k']? = some y → G.vir j' = false → G.vir k' = false → fzO x = false → fzO y = false → G.σ j' = G.σ k' → j' = k' := fun j' k' x y hj' hk' vj vk fj fk he => by
    rcases hget hj' with ⟨_, rfl⟩ | ⟨_, hj'⟩
    · cases fj
    rcases hget hk' with ⟨_, rfl⟩ | ⟨_, hk'⟩
    · cases fk
    exact hr.heap.inj j' k' x y hj' hk' vj vk fj fk he
  obtain ⟨g1, g2, cur, e, g3, g4, g7, g8⟩ := hr.heap.obj k _ hk
  · have hF : ∀ b, F b → F b ∨ b = G.σ k := fun b h => .inl h
    have hlt := Later.refl G (lens s.h)
    have hb : w.heap[G.σ k]? = some (.cells cur e (0, 0)) := g3
    refine ⟨G, fun b => F b ∨ b = G.σ k, hr.len, hr.def0.keep fun D h1 h2 => ⟨fun h => h.elim h1 (fun e => by subst e; rw [hb] at h2; cases h2), rfl⟩, fun i av v h1 h2 => by rw [hl]; exact (hr.slot i av v h1 h2).keep hlt hF fun _ _ => rfl, ⟨fun j x hj => ?_, hinj⟩, hr.mod, fun j x hj hv hf hh => ?_, fun b h => ?_, fun b h => .inl (hr.f0 b h), hr.fc.more hF (fun _ _ => rfl) fun b h => ?_, by rw [hl]; exact hr.lat⟩
    · rw [hl]
      rcases hget hj with ⟨rfl, rfl⟩ | ⟨hjk, hj⟩
      · exact .inr ⟨g1, .inr rfl, cur, e, (0, 0), hb, g4, by rw [g4, g7]; exact Nat.le_refl _, g8.keep hlt hF fun _ _ => rfl⟩
      · exact (hr.heap.obj j x hj).keep hlt hF (fun _ _ => rfl) ⟨rfl, rfl, rfl⟩ (fun _ => rfl) fun hv hf h => h.elim (hr.heap.nfz hj hv hf) fun e => hjk (hr.heap.inj j k x _ hj hk hv g1 hf rfl e)
    · rcases hget hj with ⟨rfl, rfl⟩ | ⟨_, hj⟩
      · cases hf
      · exact hr.sup j x hj hv hf hh
    · rcases h with h | rfl
      · exact hr.fsup b h
      · rcases hr.sup k _ hk g1 rfl hho with h | h
        · exact .inr (.inl h)
        · exact .inr (.inr h)
    · rcases h with h | rfl
      · exact hr.fc b h
      · exact ⟨cur, e, (0, 0), hb⟩
theorem fz_fp {h : List AObj} {k m : Nat} {cs : List AV} (hk : h[k]? = some (.o .fz cs)) (hm : cs.length = m) (hd : cs.all isD = true) {G : Gh} {F : Nat → Prop} {w : World} {v : Value} (hh : HRel G F h w) (hv : RepV G (lens h) F w (.ptr k 0 m) v) : RepV G (lens h) F w (.fp cs) v := by
  have hlk : (lens h)[k]? = some m := by simp [lens, hk, lnO, hm]
  cases hv with
  | d _ _ h => cases h
  | ptr _ _ _ h1 h2 =>
    rcases hh.obj k _ hk with ⟨g1, _⟩ | ⟨_, g1, cur, ty, fr, g2, g3, g4, g5⟩
    · rw [h2] at g1; cases g1
    · refine .fp cs (G.σ k) 0 (fun j => (cur[j]?).getD default) g1 (fun j hj => ?_) (fun j u hu => ?_)
      · have hjc : j < cur.size := by omega
        rw [World.cell?_of_block (w := w) (w' := w) rfl] 
        simp only [World.cell?, g2, Nat.zero_add]
        simp [hjc]
      · obtain ⟨x, e1, e2⟩ := g5 j u hu
        rw [e1]
        exact isD_rep (List.all_eq_true.1 hd u (List.mem_of_getElem? hu)) e2
  | ptrOld _ _ _ m' _ h1 h2 => rw [hlk] at h1; injection h1 with h1; omega
/-- a pointer in a slot to a box of data: the box stays from now on -/
theorem wk_fp (i k : Nat) {m : Nat} {cs : List AV} (h0 : s.t[i]? = some (.ptr k 0 m)) (hk : s.h[k]? = some (.o .box cs)) (hho : E.ho = noHo) (hm : cs.length = m) (hd : cs.all isD = true) : Wk E s ⟨s.t.set i (.fp cs), s.h.set k (.o .fz cs)⟩ := by
  refine Wk.trans (wk_fzb k hk (by rw [hho]; rfl)) ?_
  have h2 : (s.h.set k (.o .fz cs))[k]? = some (.o .fz cs) := List.getElem?_set_self (List.getElem?_eq_some_iff.1 hk).1
  exact wk_slot i h0 fun G F w v hh hv => fz_fp h2 hm hd hh hv
end
end Go.Proofs.Ytmgpiminicgbiaa
