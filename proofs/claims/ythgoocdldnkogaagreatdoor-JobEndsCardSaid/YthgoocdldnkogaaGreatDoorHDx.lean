import Derived.Test.YthgoocdldnkogaaGreatDoorHDp
import Derived.Test.YthgoocdldnkogaaGreatDoorH6
namespace Go.Proofs.YthgoocdldnkogaaGreatDoor
set_option linter.unusedVariables false
set_option linter.unusedSimpArgs false
open Go.RowKit
section
variable {P : Program} {E : Env} {s : AS}
theorem frzO_ln (x : AObj) : lnO (frzO x) = lnO x := by cases x <;> rfl
theorem lens_frzFrom (ok : Nat → Bool) (h : List AObj) : lens (frzFrom ok 0 h) = lens h := by
 apply List.ext_getElem?
 intro i
 simp only [lens, List.getElem?_map, frz_at]
 cases h[i]? with
 | none => rfl
 | some x =>
  simp only [Option.map_some]
  split
  ·rw [frzO_ln]
  ·rfl
theorem wk_fzOk (ok : Nat → Bool) (hho : E.ho = noHo) : Wk E s ⟨s.t, frzFrom ok 0 s.h⟩ := by
 intro a w ⟨G, F, hr⟩
 have hl := lens_frzFrom ok s.h
 let F' : Nat → Prop := fun b => F b ∨ ∃ k kd cs, s.h[k]? = some (.o kd cs) ∧ ok k = true ∧ G.vir k = false ∧ b = G.σ k
 have hF : ∀ b, F b → F' b := fun b h => .inl h
 have hlt := Later.refl G (lens s.h)
 have hget : ∀ {j : Nat} {x : AObj}, (frzFrom ok 0 s.h)[j]? = some x → ∃ y, s.h[j]? = some y ∧ x = if ok j = true then frzO y else y := fun {j x} hj => by
  rw [frz_at] at hj
  obtain ⟨y, h1, h2⟩ := Option.map_eq_some_iff.1 hj
  rw [Nat.zero_add] at h2
  exact ⟨y, h1, h2.symm⟩
 have hfzF : ∀ {k : Nat} {y : AObj}, s.h[k]? = some y → G.vir k = false → fzO y = true → F (G.σ k) := fun {k y} hk hv hf => by
  have hob := hr.heap.obj k y hk
  cases y with
  | raw z => cases hf
  | o kd cs =>
   cases kd with
   | box => cases hf
   | row e sz => cases hf
   | fz =>
    rcases hob with ⟨g1, _⟩ | ⟨_, g1, _⟩
    ·rw [hv] at g1; cases g1
    ·exact g1
 have hnF : ∀ {j : Nat} {y : AObj}, s.h[j]? = some y → G.vir j = false → fzO y = false → (ok j = true → ∃ z, y = .raw z) → ¬ F' (G.σ j) := fun {j y} hj hv hf hok hF' => by
  rcases hF' with h | ⟨k, kd, cs, h1, h2, h3, h4⟩
  ·exact hr.heap.nfz hj hv hf h
  ·by_cases hz : fzO (.o kd cs) = false
   ·have e := hr.heap.inj j k _ _ hj h1 hv h3 hf hz h4
    subst e
    obtain ⟨z, rfl⟩ := hok h2
    rw [hj] at h1; cases h1
   ·have := hfzF h1 h3 (by simpa using hz)
    exact hr.heap.nfz hj hv hf (h4 ▸ this)
 have hfz : ∀ {j : Nat} {y : AObj}, fzO (if ok j = true then frzO y else y) = false → fzO y = false ∧ (ok j = true → ∃ z, y = .raw z) := fun {j y} h => by
  split at h
  ·cases y with
   | raw z => exact ⟨rfl, fun _ => ⟨z, rfl⟩⟩
   | o k cs => cases h
  ·rename_i hk
   exact ⟨h, fun h => absurd h hk⟩
 refine ⟨G, F', hr.len, hr.def0.keep fun D h1 h2 => ⟨fun h => ?_, rfl⟩, fun i av v h1 h2 => by rw [hl]; exact (hr.slot i av v h1 h2).keep hlt hF fun _ _ => rfl, ⟨fun j x hj => ?_, fun j k x y hj hk vj vk fj fk he => ?_⟩, hr.mod, fun j x hj hv hf hh => ?_, fun b h => ?_, fun b h => .inl (hr.f0 b h), hr.fc.more hF (fun _ _ => rfl) fun b h => ?_, by rw [hl]; exact hr.lat⟩
 ·rcases h with h | ⟨k, kd, cs, h3, _, h4, h5⟩
  ·exact h1 h
  ·obtain ⟨c, t, f, h6⟩ := hr.heap.isCells h3 h4
   rw [h5, h6] at h2; cases h2
 ·rw [hl]
  obtain ⟨y, hy, rfl⟩ := hget hj
  have hob := hr.heap.obj j y hy
  by_cases hok : ok j = true
  ·rw [if_pos hok]
   cases y with
   | raw z => exact hob.keep hlt hF (fun _ _ => rfl) ⟨rfl, rfl, rfl⟩ (fun _ => rfl) fun hv hf => hnF hy hv rfl fun _ => ⟨z, rfl⟩
   | o kd cs =>
    have hFj : G.vir j = false → F' (G.σ j) := fun hv => .inr ⟨j, kd, cs, hy, hok, hv, rfl⟩
    cases kd with
    | box =>
     obtain ⟨a1, a2, cur, ty, a3, a4, a5, a6⟩ := hob
     exact .inr ⟨a1, hFj a1, cur, ty, (0, 0), a3, a4, by rw [a4, a5]; exact Nat.le_refl _, a6.keep hlt hF fun _ _ => rfl⟩
    | row e sz =>
     rcases hob with ⟨g1, g2⟩ | ⟨g1, g2, cur, c, g3, g4, g5, g6, g7, g8⟩
     ·exact .inl ⟨g1, g2⟩
     ·exact .inr ⟨g1, hFj g1, cur, e, (0, 0), g3, g4, by rw [g4]; exact g7, g8.keep hlt hF fun _ _ => rfl⟩
    | fz => exact ORel.keep (x := .o .fz cs) hob hlt hF (fun _ _ => rfl) ⟨rfl, rfl, rfl⟩ (fun _ => rfl) fun hv hf => by cases hf
  ·rw [if_neg hok]
   exact hob.keep hlt hF (fun _ _ => rfl) ⟨rfl, rfl, rfl⟩ (fun _ => rfl) fun hv hf => hnF hy hv hf fun h => absurd h hok
 ·obtain ⟨x', hx', rfl⟩ := hget hj
  obtain ⟨y', hy', rfl⟩ := hget hk
  exact hr.heap.inj j k x' y' hx' hy' vj vk (hfz fj).1 (hfz fk).1 he
 ·obtain ⟨y, hy, rfl⟩ := hget hj
  exact hr.sup j y hy hv (hfz hf).1 hh
 ·rcases h with h | ⟨k, kd, cs, h3, _, h4, rfl⟩
  ·exact hr.fsup b h
  ·by_cases hz : fzO (.o kd cs) = false
   ·rcases hr.sup k _ h3 h4 hz (by rw [hho]; rfl) with h | h
    ·exact .inr (.inl h)
    ·exact .inr (.inr h)
   ·exact hr.fsup _ (hfzF h3 h4 (by simpa using hz))
 ·rcases h with h | ⟨k, kd, cs, h3, _, h4, rfl⟩
  ·exact hr.fc b h
  ·exact hr.heap.isCells h3 h4
theorem wk_deepL (r : Nat) {kd : AKind} {cs cs' : List AV} (h0 : s.h[r]? = some (.o kd cs)) (hlen : cs'.length = cs.length)
  (hd : ∀ (j : Nat) (u u' : AV), cs[j]? = some u → cs'[j]? = some u' → u = u' ∨ DeepD s.h (isFz s.h) u u') : Wk E s ⟨s.t, s.h.set r (.o kd cs')⟩ :=
 wk_cells r h0 hlen fun j u u' h1 h2 G F w v hh hv => by
  rcases hd j u u' h1 h2 with rfl | h
  ·exact hv
  ·exact .d _ _ (deepD_rep hh (fun _ h => h) (fz_ok hh) h hv)
end

section
variable {P : Program} {E : Env} {s : AS}
theorem wk_short (k r j : Nat) {e sz n m m' e' sz' : Nat} {cs rs : List AV} (hkr : k ≠ r) (hk : s.h[k]? = some (.o (.row e sz) cs)) (hr0 : s.h[r]? = some (.o (.row e' sz') rs)) (hj : rs[j]? = some (.sl k sz 0 n m)) (hm : cs.length = m) (hm' : m' ≤ m) (hn : n * sz ≤ m') (hd : cs.all isD = true)
  (hst : E.st k = false ∨ E.ln0.length ≤ k) (hlt : AV.livL [k] s.t = true) (hlr : AV.livL [k] (rs.set j .any) = true) (hlo : ∀ i x, i ≠ k → i ≠ r → s.h[i]? = some x → livO [k] x = true) :
  Wk E s ⟨s.t, (s.h.set k (.o (.row e sz) (cs.take m'))).set r (.o (.row e' sz') (rs.set j (.sl k sz 0 n m')))⟩ := by
 intro a w ⟨G, F, hr⟩
 obtain ⟨h2, hh2⟩ : ∃ h2, h2 = (s.h.set k (.o (.row e sz) (cs.take m'))).set r (.o (.row e' sz') (rs.set j (.sl k sz 0 n m'))) := ⟨_, rfl⟩
 rw [← hh2]
 have hkl : k < s.h.length := (List.getElem?_eq_some_iff.1 hk).1
 have hrl : r < s.h.length := (List.getElem?_eq_some_iff.1 hr0).1
 have hgk : h2[k]? = some (.o (.row e sz) (cs.take m')) := by rw [hh2, List.getElem?_set_ne (Ne.symm hkr), List.getElem?_set_self hkl]
 have hgr : h2[r]? = some (.o (.row e' sz') (rs.set j (.sl k sz 0 n m'))) := by rw [hh2, List.getElem?_set_self (by simpa using hrl)]
 have hget : ∀ i, i ≠ k → i ≠ r → h2[i]? = s.h[i]? := fun i h1 h2' => by rw [hh2, List.getElem?_set_ne (Ne.symm h2'), List.getElem?_set_ne (Ne.symm h1)]
 have hln : ∀ i, i ≠ k → (lens h2)[i]? = (lens s.h)[i]? := fun i hi => by
  simp only [lens, List.getElem?_map]
  by_cases hir : i = r
  ·subst hir; rw [hgr, hr0]; simp [lnO]
  ·rw [hget i hi hir]
 have hlk : (lens h2)[k]? = some m' := by simp only [lens, List.getElem?_map, hgk]; simp [lnO]; omega
 have hlk0 : (lens s.h)[k]? = some m := by simp only [lens, List.getElem?_map, hk]; simp [lnO, hm]
 have hlater : ∀ (i m'' : Nat), i ∉ [k] → (lens s.h)[i]? = some m'' → ((lens h2)[i]? = some m'' ∧ G.σ i = G.σ i ∧ G.bs i = G.bs i ∧ G.vir i = G.vir i) ∨ ∃ q, (lens h2)[i]? = some q ∧ m'' < q := fun i m'' hi hmm => .inl ⟨by rw [hln i (by simpa using hi)]; exact hmm, rfl, rfl, rfl⟩
 have keepV : ∀ {av : AV} {v : Value}, RepV G (lens s.h) F w av v → av.liv [k] = true → RepV G (lens h2) F w av v := fun h hv => RepV.keepL hlater (fun _ h => h) (fun _ _ => rfl) h hv
 have crel : ∀ {cs : List AV} {cur : Array Value}, CRel G (lens s.h) F w cs cur → (∀ (j : Nat) (u : AV), cs[j]? = some u → u.liv [k] = true) → CRel G (lens h2) F w cs cur := fun h1 h2 j u hu => let ⟨v, f1, f2⟩ := h1 j u hu; ⟨v, f1, keepV f2 (h2 j u hu)⟩
 have hcell : ∀ {v : Value}, RepV G (lens s.h) F w (.sl k sz 0 n m) v → RepV G (lens h2) F w (.sl k sz 0 n m') v := fun {v} hrep => by
  generalize hM : m = M at hrep hlk0
  cases hrep with
  | d _ _ hh => cases hh
  | sl _ _ _ _ _ c a1 a2 a3 a4 a5 => exact .sl k sz 0 n m' c hlk a2 a3 a4 a5
  | slNil _ _ a1 a2 =>
   obtain rfl : m' = 0 := by omega
   exact .slNil k sz hlk a2
  | slOld _ _ _ _ _ q A l c a1 a2 => rw [hlk0] at a1; injection a1 with a1; omega
 have hback : ∀ (i : Nat) (y : AObj), h2[i]? = some y → ∃ y0, s.h[i]? = some y0 ∧ fzO y0 = fzO y := fun i y hy => by
  by_cases hi : i = k
  ·subst hi; rw [hgk] at hy; injection hy with hy; subst hy; exact ⟨_, hk, rfl⟩
  ·by_cases hir : i = r
   ·subst hir; rw [hgr] at hy; injection hy with hy; subst hy; exact ⟨_, hr0, rfl⟩
   ·rw [hget i hi hir] at hy; exact ⟨y, hy, rfl⟩
 refine ⟨G, F, hr.len, hr.def0, fun i av v h1 h2' => keepV (hr.slot i av v h1 h2') (livL_at hlt i av h1), ⟨fun i y hy => ?_, fun i i' y z hi hi' vj vi fj fi he => ?_⟩, hr.mod, fun i y hy hv hz hho => ?_, hr.fsup, hr.f0, hr.fc, fun i q hs hi => ?_⟩
 ·by_cases hi : i = k
  ·subst hi
   rw [hgk] at hy; injection hy with hy; subst hy
   rcases hr.heap.obj i _ hk with ⟨a1, a2⟩ | ⟨a1, a2, cur, c, a3, a4, a5, a6, a7, a8⟩
   ·exact .inl ⟨a1, by rw [a2]; simp⟩
   ·refine .inr ⟨a1, a2, cur, c, a3, a4, a5, a6, by rw [List.length_take]; omega, fun q u hu => ?_⟩
    rw [List.getElem?_take] at hu
    split at hu
    ·obtain ⟨v, f1, f2⟩ := a8 q u hu
     exact ⟨v, f1, keepV f2 (isD_liv hd q u hu)⟩
    ·cases hu
  ·by_cases hir : i = r
   ·subst hir
    rw [hgr] at hy; injection hy with hy; subst hy
    rcases hr.heap.obj i _ hr0 with ⟨a1, a2⟩ | ⟨a1, a2, cur, c, a3, a4, a5, a6, a7, a8⟩
    ·rw [a2] at hj; simp at hj
    ·refine .inr ⟨a1, a2, cur, c, a3, a4, a5, a6, by simpa using a7, fun q u hu => ?_⟩
     by_cases hq : q = j
     ·subst hq
      have hjl : q < rs.length := (List.getElem?_eq_some_iff.1 hj).1
      rw [List.getElem?_set_self hjl] at hu
      injection hu with hu; subst hu
      obtain ⟨v, f1, f2⟩ := a8 q _ hj
      exact ⟨v, f1, hcell f2⟩
     ·rw [List.getElem?_set_ne (Ne.symm hq)] at hu
      obtain ⟨v, f1, f2⟩ := a8 q u hu
      exact ⟨v, f1, keepV f2 (livL_at hlr q u (by rw [List.getElem?_set_ne (Ne.symm hq)]; exact hu))⟩
   ·rw [hget i hi hir] at hy
    have hob := hr.heap.obj i y hy
    have hlv := hlo i y hi hir hy
    cases y with
    | raw sx => exact hob
    | o kd cs' =>
     have hlc := livO_at hlv
     cases kd with
     | box => obtain ⟨a1, a2, cur, ty, a3, a4, a5, a6⟩ := hob; exact ⟨a1, a2, cur, ty, a3, a4, a5, crel a6 hlc⟩
     | row e' sz' =>
      rcases hob with ⟨a1, a2⟩ | ⟨a1, a2, cur, c, a3, a4, a5, a6, a7, a8⟩
      ·exact .inl ⟨a1, a2⟩
      ·exact .inr ⟨a1, a2, cur, c, a3, a4, a5, a6, a7, crel a8 hlc⟩
     | fz =>
      rcases hob with ⟨a1, a2⟩ | ⟨a1, a2, cur, ty, fr, a3, a4, a5, a6⟩
      ·exact .inl ⟨a1, a2⟩
      ·exact .inr ⟨a1, a2, cur, ty, fr, a3, a4, a5, crel a6 hlc⟩
 ·obtain ⟨y0, g1, g2⟩ := hback i y hi
  obtain ⟨z0, g3, g4⟩ := hback i' z hi'
  exact hr.heap.inj i i' y0 z0 g1 g3 vj vi (g2.trans fj) (g4.trans fi) he
 ·obtain ⟨y0, g1, g2⟩ := hback i y hy
  exact hr.sup i y0 g1 hv (g2.trans hz) hho
 ·have hik : i ≠ k := fun e => by
   subst e
   rcases hst with h | h
   ·rw [hs] at h; cases h
   ·have := (List.getElem?_eq_some_iff.1 hi).1; omega
  simp only
  rw [hln i hik]
  exact hr.lat i q hs hi
end
end Go.Proofs.YthgoocdldnkogaaGreatDoor
