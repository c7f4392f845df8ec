import Derived.Test.YtmgpiminicgbiaaWs
namespace Go.Proofs.Ytmgpiminicgbiaa
set_option linter.unusedVariables false
set_option linter.unusedSimpArgs false
open Go.RowKit
/-! ## What is known told otherwise: rows as data, cells as data -/
section
variable {P : Program} {E : Env} {s : AS}
theorem lens_set {h : List AObj} {k : Nat} {x y : AObj} (hk : h[k]? = some x) (hl : lnO y = lnO x) : lens (h.set k y) = lens h := by
  apply List.ext_getElem?
  intro i
  simp only [lens, List.getElem?_map]
  by_cases hi : i = k
  · subst hi
    rw [List.getElem?_set_self (List.getElem?_eq_some_iff.1 hk).1, hk]; simp [hl]
  · rw [List.getElem?_set_ne (Ne.symm hi)]
/-- a cell of a block told otherwise -/
theorem wk_cell (r j : Nat) {kd : AKind} {cs : List AV} {old new : AV} (h0 : s.h[r]? = some (.o kd cs)) (hj : cs[j]? = some old)
    (himp : ∀ G F w v, HRel G F s.h w → RepV G (lens s.h) F w old v → RepV G (lens s.h) F w new v) : Wk E s ⟨s.t, s.h.set r (.o kd (cs.set j new))⟩ := by
  intro a w ⟨G, F, hr⟩
  have hl : lens (s.h.set r (.o kd (cs.set j new))) = lens s.h := lens_set h0 (by simp [lnO])
  have hcr : ∀ {cur : Array Value}, CRel G (lens s.h) F w cs cur → CRel G (lens s.h) F w (cs.set j new) cur := fun {cur} hc i av hi => by
    by_cases hij : i = j
    · subst hij
      rw [List.getElem?_set_self (List.getElem?_eq_some_iff.1 hj).1] at hi
      injection hi with hi; subst hi
      obtain ⟨x, h1, h2⟩ := hc i old hj
      exact ⟨x, h1, himp G F w x hr.heap h2⟩
    · rw [List.getElem?_set_ne (Ne.symm hij)] at hi
      exact hc i av hi
  have hget : ∀ {k : Nat} {x : AObj}, (s.h.set r (.o kd (cs.set j new)))[k]? = some x → (k = r ∧ x = .o kd (cs.set j new)) ∨ (k ≠ r ∧ s.h[k]? = some x) := fun {k x} hk => by
    by_cases hkr : k = r
    · subst hkr
      rw [List.getElem?_set_self (List.getElem?_eq_some_iff.1 h0).1] at hk
      injection hk with hk; exact .inl ⟨rfl, hk.symm⟩
    · rw [List.getElem?_set_ne (Ne.symm hkr)] at hk; exact .inr ⟨hkr, hk⟩
  have hold : ∀ {k : Nat} {x : AObj}, (s.h.set r (.o kd (cs.set j new)))[k]? = some x → ∃ y, s.h[k]? = some y ∧ fzO y = fzO x := fun {k x} hk => by
    rcases hget hk with ⟨rfl, rfl⟩ | ⟨_, hk⟩
    · exact ⟨_, h0, by cases kd <;> rfl⟩
    · exact ⟨x, hk, rfl⟩
  refine ⟨G, F, hr.len, hr.def0, fun i av v h1 h2 => by rw [hl]; exact hr.slot i av v h1 h2, ⟨fun k x hk => ?_, fun j' k x y hj' hk vj vk fj fk he => ?_⟩, hr.mod, fun k x hk hv hf hho => ?_, hr.fsup, hr.f0, hr.fc, by rw [hl]; exact hr.lat⟩
  · rw [hl]
    rcases hget hk with ⟨rfl, rfl⟩ | ⟨_, hk⟩
    · have hob := hr.heap.obj k _ h0
      cases kd with
      | box => obtain ⟨a1, a2, cur, ty, a3, a4, a5, a6⟩ := hob; exact ⟨a1, a2, cur, ty, a3, a4, by simpa using a5, hcr a6⟩
      | row e sz =>
        rcases hob with ⟨a1, a2⟩ | ⟨a1, a2, cur, c, a3, a4, a5, a6, a7, a8⟩
        · subst a2; simp at hj
        · exact .inr ⟨a1, a2, cur, c, a3, a4, a5, a6, by simpa using a7, hcr a8⟩
      | fz =>
        rcases hob with ⟨a1, a2⟩ | ⟨a1, a2, cur, ty, fr, a3, a4, a5, a6⟩
        · subst a2; simp at hj
        · exact .inr ⟨a1, a2, cur, ty, fr, a3, a4, by simpa using a5, hcr a6⟩
    · exact hr.heap.obj k x hk
  · obtain ⟨x', hx', ex⟩ := hold hj'
    obtain ⟨y', hy', ey⟩ := hold hk
    exact hr.heap.inj j' k x' y' hx' hy' vj vk (ex.trans fj) (ey.trans fk) he
  · obtain ⟨x', hx', ex⟩ := hold hk
    exact hr.sup k x' hx' hv (ex.trans hf) hho
/-- a slot told otherwise -/
theorem wk_slot (i : Nat) {old new : AV} (hi : s.t[i]? = some old) (himp : ∀ G F w v, HRel G F s.h w → RepV G (lens s.h) F w old v → RepV G (lens s.h) F w new v) : Wk E s ⟨s.t.set i new, s.h⟩ := by
  intro a w ⟨G, F, hr⟩
  refine ⟨G, F, by simpa using hr.len, hr.def0, fun k av v h1 h2 => ?_, hr.heap, hr.mod, hr.sup, hr.fsup, hr.f0, hr.fc, hr.lat⟩
  by_cases hk : k = i
  · subst hk
    rw [List.getElem?_set_self (List.getElem?_eq_some_iff.1 hi).1] at h1
    injection h1 with h1; subst h1
    exact himp G F w v hr.heap (hr.slot k old v hi h2)
  · rw [List.getElem?_set_ne (Ne.symm hk)] at h1
    exact hr.slot k av v h1 h2
theorem nil_fs0 (sz : Nat) {G : Gh} {F : Nat → Prop} {w : World} {ln : List Nat} {v : Value} (h : RepV G ln F w (.c (.slice none 0 0)) v) : RepV G ln F w (.fs sz 0 []) v := by
  have := h.c_inv
  subst this
  exact .d _ _ (.fs0 sz none 0 (Nat.zero_le _))
/-- a slice of a block that stays is data -/
theorem fz_fs {h : List AObj} {k sz off n m : Nat} {cs : List AV} (hk : h[k]? = some (.o .fz cs)) (hm : cs.length = m) (hn : off + n * sz ≤ m) (hx : n ≤ maxLen) (hd : ((cs.drop off).take (n * sz)).all isD = true) {G : Gh} {F : Nat → Prop} {w : World} {v : Value} (hh : HRel G F h w) (hv : RepV G (lens h) F w (.sl k sz off n m) v) : RepV G (lens h) F w (.fs sz n ((cs.drop off).take (n * sz))) v := by
  refine RepV.conv (lent := []) (ok := fun i => i == k) (Gc := G) (lnc := lens h) (Fc := F) hh (fun i k h => by simp at h) (fun _ h => h) (fun k' kd cs' h1 h2 h3 => ?_) hv (q := cs.length = m ∧ off + n * sz ≤ m ∧ n ≤ maxLen ∧ ((cs.drop off).take (n * sz)).all isD = true) (av' := .fs sz n ((cs.drop off).take (n * sz))) ?_ ⟨hm, hn, hx, hd⟩
  · have e : k' = k := by simpa using h2
    subst e
    rw [hk] at h1; injection h1 with h1; injection h1 with h1 h1'; subst h1 h1'
    rcases hh.obj k' _ hk with ⟨g1, _⟩ | ⟨_, g1, _⟩
    · rw [h3] at g1; cases g1
    · exact g1
  · simp [AV.conv, idx, cellsH, hk]
/-- a row stays as it is from now on -/
theorem wk_fz (k : Nat) {e sz : Nat} {cs : List AV} (hk : s.h[k]? = some (.o (.row e sz) cs)) (hho : E.ho k = false) : Wk E s ⟨s.t, s.h.set k (.o .fz cs)⟩ := by
  intro a w ⟨G, F, hr⟩
  have hl : lens (s.h.set k (.o .fz cs)) = lens s.h := lens_set hk (by simp [lnO])
  have hget : ∀ {j : Nat} {x : AObj}, (s.h.set k (.o .fz cs))[j]? = some x → (j = k ∧ x = .o .fz cs) ∨ (j ≠ k ∧ s.h[j]? = some x) := fun {j x} hj => by
    by_cases hjk : j = k
    · subst hjk
      rw [List.getElem?_set_self (List.getElem?_eq_some_iff.1 hk).1] at hj
      injection hj with hj; exact .inl ⟨rfl, hj.symm⟩
    · rw [List.getElem?_set_ne (Ne.symm hjk)] at hj; exact .inr ⟨hjk, hj⟩
  have hinj : ∀ (j' k' : Nat) (x y : AObj), (s.h.set k (.o .fz cs))[j']? = some x → (s.h.set k (.o .fz cs))[k']? = some y → G.vir j' = false → G.vir k' = false → fzO x = false → fzO y = false → G.σ j' = G.σ k' → j' = k' := fun j' k' x y hj' hk' vj vk fj fk he => by
    rcases hget hj' with ⟨_, rfl⟩ | ⟨_, hj'⟩
    · cases fj
    rcases hget hk' with ⟨_, rfl⟩ | ⟨_, hk'⟩
    · cases fk
    exact hr.heap.inj j' k' x y hj' hk' vj vk fj fk he
  rcases hr.heap.obj k _ hk with ⟨g1, g2⟩ | ⟨g1, g2, cur, c, g3, g4, g5, g6, g7, g8⟩
  · refine ⟨G, F, hr.len, hr.def0, fun i av v h1 h2 => by rw [hl]; exact hr.slot i av v h1 h2, ⟨fun j x hj => ?_, hinj⟩, hr.mod, fun j x hj hv hf hh => ?_, hr.fsup, hr.f0, hr.fc, by rw [hl]; exact hr.lat⟩
    · rw [hl]
      rcases hget hj with ⟨rfl, rfl⟩ | ⟨_, hj⟩
      · exact .inl ⟨g1, g2⟩
      · exact hr.heap.obj j x hj
    · rcases hget hj with ⟨rfl, rfl⟩ | ⟨_, hj⟩
      · cases hf
      · exact hr.sup j x hj hv hf hh
  · have hF : ∀ b, F b → F b ∨ b = G.σ k := fun b h => .inl h
    have hlt := Later.refl G (lens s.h)
    have hb : w.heap[G.σ k]? = some (.cells cur e (0, 0)) := g3
    refine ⟨G, fun b => F b ∨ b = G.σ k, hr.len, hr.def0.keep fun D h1 h2 => ⟨fun h => h.elim h1 (fun e => by subst e; rw [hb] at h2; cases h2), rfl⟩, fun i av v h1 h2 => by rw [hl]; exact (hr.slot i av v h1 h2).keep hlt hF fun _ _ => rfl, ⟨fun j x hj => ?_, hinj⟩, hr.mod, fun j x hj hv hf hh => ?_, fun b h => ?_, fun b h => .inl (hr.f0 b h), fun b h => ?_, by rw [hl]; exact hr.lat⟩
    · rw [hl]
      rcases hget hj with ⟨rfl, rfl⟩ | ⟨hjk, hj⟩
      · exact .inr ⟨g1, .inr rfl, cur, e, (0, 0), hb, g4, by rw [g4]; exact g7, g8.keep hlt hF fun _ _ => rfl⟩
      · exact (hr.heap.obj j x hj).keep hlt hF (fun _ _ => rfl) ⟨rfl, rfl, rfl⟩ (fun _ => rfl) fun hv hf h => h.elim (hr.heap.nfz hj hv hf) fun e => hjk (hr.heap.inj j k x _ hj hk hv g1 hf rfl e)
    · rcases hget hj with ⟨rfl, rfl⟩ | ⟨_, hj⟩
      · cases hf
      · exact hr.sup j x hj hv hf hh
    · rcases h with h | rfl
      · exact hr.fsup b h
      · rcases hr.sup k _ hk g1 rfl hho with h | h
        · exact .inr (.inl h)
        · exact .inr (.inr h)
    · rcases h with h | rfl
      · exact hr.fc b h
      · exact ⟨cur, e, (0, 0), hb⟩
/-- a row is handed on as data: cell j of block r, which was a slice of row k -/
theorem wk_data (r j k : Nat) {kd : AKind} {cs l : List AV} {e sz n m : Nat} (hho : E.ho k = false) (hrk : r ≠ k) (h0 : s.h[r]? = some (.o kd cs)) (hj : cs[j]? = some (.sl k sz 0 n m)) (hk : s.h[k]? = some (.o (.row e sz) l)) (hm : l.length = m) (hn : n * sz = m) (hx : n ≤ maxLen) (hd : l.all isD = true) :
    Wk E s ⟨s.t, (s.h.set k (.o .fz l)).set r (.o kd (cs.set j (.fs sz n l)))⟩ := by
  refine Wk.trans (wk_fz k hk hho) ?_
  have h1 : (s.h.set k (.o .fz l))[r]? = some (.o kd cs) := by rw [List.getElem?_set_ne (Ne.symm hrk)]; exact h0
  have h2 : (s.h.set k (.o .fz l))[k]? = some (.o .fz l) := List.getElem?_set_self (List.getElem?_eq_some_iff.1 hk).1
  have e1 : (l.drop 0).take (n * sz) = l := by rw [List.drop_zero, List.take_of_length_le (by omega)]
  refine wk_cell r j h1 hj fun G F w v hh hv => ?_
  have := fz_fs (off := 0) h2 hm (by omega) hx (by rw [e1]; exact hd) hh hv
  rw [e1] at this
  exact this
/-- first the blocks are told otherwise -/
theorem Clean.wkh {st : Nat → Bool} {h h2 h' : List AObj} {r r2 r' : AV} (hw : ∀ E : Env, E.ho = noHo → E.ln0 = lens h → Wk E ⟨[r], h⟩ ⟨[r2], h2⟩) (hc : Clean st h2 r2 h' r') : Clean st h r h' r' := by
  intro E G F w x hE hf hrep
  have hr : Rel ⟨E.w0, E.L, E.F0, G, lens h, allSt, E.ho, E.mks⟩ G F ⟨[r], h⟩ ⟨#[x], []⟩ w := Rel.mk' ⟨hf.heap, hf.mod, hf.sup, hf.fsup, hf.f0, hf.fc⟩ rfl rfl (fun i av v h1 h2 => by
    cases i with
    | zero => simp at h1 h2; subst h1 h2; exact hrep
    | succ i => simp at h1) ((Later.refl _ _).same _)
  obtain ⟨G2, F2, hr2⟩ := hw ⟨E.w0, E.L, E.F0, G, lens h, allSt, E.ho, E.mks⟩ hE rfl _ w ⟨G, F, hr⟩
  have hrep2 := hr2.slot 0 r2 x rfl rfl
  obtain ⟨G', F', c1, c2, c3⟩ := hc E G2 F2 w x hE ⟨hr2.heap, hr2.mod, hr2.sup, hr2.fsup, hr2.f0, hr2.fc⟩ hrep2
  exact ⟨G', F', c1, c2, fun k m hs hm => by
    rcases hr2.lat k m rfl hm with ⟨e1, e2, e3, e4⟩ | ⟨m', e1, e2⟩
    · rcases c3 k m hs e1 with ⟨f1, f2, f3, f4⟩ | ⟨m', f1, f2⟩
      · exact .inl ⟨f1, f2.trans e2, f3.trans e3, f4.trans e4⟩
      · exact .inr ⟨m', f1, f2⟩
    · rcases c3 k m' hs e1 with ⟨f1, _⟩ | ⟨m'', f1, f2⟩
      · exact .inr ⟨m', f1, e2⟩
      · exact .inr ⟨m'', f1, Nat.lt_trans e2 f2⟩⟩
theorem Ret.wkh {st : Nat → Bool} {h h2 : List AObj} {r r2 : AV} {Post : AV → List AObj → Prop} (hw : ∀ E : Env, E.ho = noHo → E.ln0 = lens h → Wk E ⟨[r], h⟩ ⟨[r2], h2⟩) (hr : Ret st Post h2 r2) : Ret st Post h r := let ⟨h', r', hc, hp⟩ := hr; ⟨h', r', Clean.wkh hw hc, hp⟩
end
end Go.Proofs.Ytmgpiminicgbiaa
