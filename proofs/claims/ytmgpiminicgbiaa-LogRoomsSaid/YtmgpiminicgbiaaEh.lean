import Derived.Test.YtmgpiminicgbiaaEg
import Derived.Deep.AppendSrc
import Derived.Great.BuildSlice
import Derived.Laws.MakeOwn
namespace Go.Proofs.Ytmgpiminicgbiaa
set_option linter.unusedVariables false
set_option linter.unusedSimpArgs false
open Go.RowKit

/-! ## Turning the blocks -/
def Gh.upd (G : Gh) (k b n : Nat) (v : Bool) : Gh := ⟨fun j => if j = k then b else G.σ j, fun j => if j = k then n else G.bs j, fun j => if j = k then v else G.vir j⟩
theorem upd_same (G : Gh) (k b n : Nat) (v : Bool) : (G.upd k b n v).σ k = b ∧ (G.upd k b n v).bs k = n ∧ (G.upd k b n v).vir k = v := by simp [Gh.upd]
theorem upd_ne (G : Gh) (k b n : Nat) (v : Bool) {j : Nat} (h : j ≠ k) : (G.upd k b n v).σ j = G.σ j ∧ (G.upd k b n v).bs j = G.bs j ∧ (G.upd k b n v).vir j = G.vir j := by simp [Gh.upd, h]
theorem Later.push (G : Gh) (h : List AObj) (x : AObj) (b n : Nat) (v : Bool) : Later G (G.upd h.length b n v) (lens h) (lens (h ++ [x])) := by
  intro k m hk
  have hlt : k < h.length := by
    have := (List.getElem?_eq_some_iff.1 hk).1
    simpa [lens] using this
  obtain ⟨e1, e2, e3⟩ := upd_ne G h.length b n v (Nat.ne_of_lt hlt)
  refine .inl ⟨?_, e1, e2, e3⟩
  unfold lens at hk ⊢
  rw [List.map_append, List.getElem?_append_left (by simpa using hlt)]
  exact hk
theorem heap_alloc_lt (w : World) (o : Obj) {b : Nat} (hb : b < w.heap.size) : (w.alloc o).heap[b]? = w.heap[b]? := Below.heap_alloc w o b hb
section
variable {P : Program} {G : Gh} {F : Nat → Prop} {w : World} {E : Env} {s : AS} {a : Act}
/-- a solid block lies there -/
theorem HRel.lt {h : List AObj} (hh : HRel G F h w) {k : Nat} {x : AObj} (hk : h[k]? = some x) (hv : G.vir k = false) : G.σ k < w.heap.size := by
  have := hh.obj k x hk
  have key : ∀ {o : Obj}, w.heap[G.σ k]? = some o → G.σ k < w.heap.size := fun ho => (Array.getElem?_eq_some_iff.1 ho).1
  cases x with
  | it s pos => exact key this.2.2
  | o kd cs =>
    cases kd with
    | box => obtain ⟨_, _, cur, ty, h1, _⟩ := this; exact h1.lt
    | row e sz =>
      rcases this with ⟨h1, _⟩ | ⟨_, _, cur, c, h1, _⟩
      · rw [hv] at h1; cases h1
      · exact h1.lt
    | fz =>
      rcases this with ⟨h1, _⟩ | ⟨_, _, cur, ty, fr, h1, _⟩
      · rw [hv] at h1; cases h1
      · exact key h1
theorem HRel.nfz {h : List AObj} (hh : HRel G F h w) {k : Nat} {x : AObj} (hk : h[k]? = some x) (hv : G.vir k = false) (hf : fzO x = false) : ¬ F (G.σ k) := by
  have := hh.obj k x hk
  cases x with
  | it s pos => exact this.2.1
  | o kd cs =>
    cases kd with
    | box => exact this.2.1
    | row e sz =>
      rcases this with ⟨h1, _⟩ | ⟨_, h2, _⟩
      · rw [hv] at h1; cases h1
      · exact h2
    | fz => cases hf
/-- an object stays as it was where its block has not been turned -/
theorem ORel.keep {G' : Gh} {ln ln' : List Nat} {F' : Nat → Prop} {w' : World} {k : Nat} {x : AObj} (h : ORel G ln F w k x) (hl : Later G G' ln ln') (hF : ∀ b, F b → F' b) (hw : ∀ b, F b → w'.heap[b]? = w.heap[b]?)
    (hG : G'.σ k = G.σ k ∧ G'.bs k = G.bs k ∧ G'.vir k = G.vir k) (hb : G.vir k = false → w'.heap[G.σ k]? = w.heap[G.σ k]?) (hnF : G.vir k = false → fzO x = false → ¬ F' (G.σ k)) : ORel G' ln' F' w' k x := by
  obtain ⟨g1, g2, g3⟩ := hG
  cases x with
  | it s pos => exact ⟨g3.trans h.1, by rw [g1]; exact hnF h.1 rfl, by rw [g1, hb h.1]; exact h.2.2⟩
  | o kd cs =>
    cases kd with
    | box =>
      obtain ⟨h0, hn, cur, ty, h1, h2, h3, h4⟩ := h
      exact ⟨g3.trans h0, by rw [g1]; exact hnF h0 rfl, cur, ty, by rw [g1]; exact (hb h0).trans h1, by rw [g2]; exact h2, by rw [g2]; exact h3, h4.keep hl hF hw⟩
    | row e sz =>
      rcases h with ⟨h0, h1⟩ | ⟨h0, hn, cur, c, h1, h2, h3, h4, h5, h6⟩
      · exact .inl ⟨g3.trans h0, h1⟩
      · exact .inr ⟨g3.trans h0, by rw [g1]; exact hnF h0 rfl, cur, c, by rw [g1]; exact (hb h0).trans h1, by rw [g2]; exact h2, by rw [g2]; exact h3, h4, by rw [g2]; exact h5, h6.keep hl hF hw⟩
    | fz =>
      rcases h with ⟨h0, h1⟩ | ⟨h0, hn, cur, ty, fr, h1, h2, h3, h4⟩
      · exact .inl ⟨g3.trans h0, h1⟩
      · exact .inr ⟨g3.trans h0, by rw [g1]; exact hF _ hn, cur, ty, fr, by rw [g1]; exact (hb h0).trans h1, by rw [g2]; exact h2, h3, h4.keep hl hF hw⟩
theorem getElem?_push {α : Type} (h : List α) (x : α) {k : Nat} {y : α} (hk : (h ++ [x])[k]? = some y) : (k < h.length ∧ h[k]? = some y) ∨ (k = h.length ∧ y = x) := by
  rcases Nat.lt_trichotomy k h.length with hlt | rfl | hgt
  · rw [List.getElem?_append_left hlt] at hk; exact .inl ⟨hlt, hk⟩
  · rw [List.getElem?_append_right (Nat.le_refl _)] at hk; simp at hk; exact .inr ⟨rfl, hk.symm⟩
  · rw [List.getElem?_eq_none (by simp; omega)] at hk; cases hk
/-- a new block -/
theorem lt_of_heap {w : World} {D : Nat} {o : Obj} (h : w.heap[D]? = some o) : D < w.heap.size := (Array.getElem?_eq_some_iff.1 h).1
theorem HRel.notDef {h : List AObj} (hh : HRel G F h w) {k : Nat} {x : AObj} (hk : h[k]? = some x) (hv : G.vir k = false) {l : Option (List Deferred)} (hd : w.heap[G.σ k]? = some (.deferred l)) : False := by
  have hob := hh.obj k x hk
  cases x with
  | it s pos => have := hob.2.2; rw [hd] at this; cases this
  | o kd cs =>
    cases kd with
    | box =>
      obtain ⟨_, _, cur, ty, hb, _⟩ := hob
      have hb : w.heap[G.σ k]? = _ := hb; rw [hd] at hb; cases hb
    | row e sz =>
      rcases hob with ⟨h1, _⟩ | ⟨_, _, cur, c, hb, _⟩
      · rw [hv] at h1; cases h1
      · have hb : w.heap[G.σ k]? = _ := hb; rw [hd] at hb; cases hb
    | fz =>
      rcases hob with ⟨h1, _⟩ | ⟨_, _, cur, ty, fr, hb, _⟩
      · rw [hv] at h1; cases h1
      · rw [hd] at hb; cases hb
theorem HRel.isCells {h : List AObj} (hh : HRel G F h w) {k : Nat} {kd : AKind} {cs : List AV} (hk : h[k]? = some (.o kd cs)) (hv : G.vir k = false) : ∃ c t f, w.heap[G.σ k]? = some (.cells c t f) := by
  have hob := hh.obj k _ hk
  cases kd with
  | box => obtain ⟨_, _, cur, ty, hb, _⟩ := hob; exact ⟨_, _, _, hb⟩
  | row e sz =>
    rcases hob with ⟨h1, _⟩ | ⟨_, _, cur, c, hb, _⟩
    · rw [hv] at h1; cases h1
    · exact ⟨_, _, _, hb⟩
  | fz =>
    rcases hob with ⟨h1, _⟩ | ⟨_, _, cur, ty, fr, hb, _⟩
    · rw [hv] at h1; cases h1
    · exact ⟨_, _, _, hb⟩
theorem Rel.new (hr : Rel E G F s a w) (o : Obj) (x : AObj) (n : Nat) (hf : fzO x = false)
    (hx : ORel (G.upd s.h.length w.heap.size n false) (lens (s.h ++ [x])) F (w.alloc o) s.h.length x) : Rel E (G.upd s.h.length w.heap.size n false) F { s with h := s.h ++ [x] } a (w.alloc o) := by
  have hl := Later.push G s.h x w.heap.size n false
  have hw : ∀ b, F b → (w.alloc o).heap[b]? = w.heap[b]? := fun b hb => heap_alloc_lt w o (hr.flt b hb)
  refine ⟨hr.len, hr.def0.keep (fun D h1 h2 => ⟨h1, heap_alloc_lt w o (lt_of_heap h2)⟩), fun i av v h1 h2 => (hr.slot i av v h1 h2).keep hl (fun _ h => h) hw, ⟨fun k y hk => ?_, fun j k y z hj hk vj vk fj fk he => ?_⟩, hr.mod.alloc o, fun k y hk hv hfz hho => ?_, hr.fsup, hr.f0, hr.fc.keep hw, hr.lat.trans (hl.same _)⟩
  · rcases getElem?_push s.h x hk with ⟨hlt, hk⟩ | ⟨rfl, rfl⟩
    · exact (hr.heap.obj k y hk).keep hl (fun _ h => h) hw (upd_ne _ _ _ _ _ (Nat.ne_of_lt hlt)) (fun hv => heap_alloc_lt w o (hr.heap.lt hk hv)) (fun hv hfy => hr.heap.nfz hk hv hfy)
    · exact hx
  · rcases getElem?_push s.h _ hj with ⟨hlj, hj1⟩ | ⟨rfl, rfl⟩ <;> rcases getElem?_push s.h _ hk with ⟨hlk, hk1⟩ | ⟨rfl, rfl⟩
    · obtain ⟨a1, _, a3⟩ := upd_ne G s.h.length w.heap.size n false (Nat.ne_of_lt hlj)
      obtain ⟨b1, _, b3⟩ := upd_ne G s.h.length w.heap.size n false (Nat.ne_of_lt hlk)
      exact hr.heap.inj j k _ _ hj1 hk1 (a3 ▸ vj) (b3 ▸ vk) fj fk (by rw [← a1, ← b1]; exact he)
    · obtain ⟨a1, _, a3⟩ := upd_ne G s.h.length w.heap.size n false (Nat.ne_of_lt hlj)
      rw [a1, (upd_same G s.h.length w.heap.size n false).1] at he
      have := hr.heap.lt hj1 (a3 ▸ vj)
      omega
    · obtain ⟨a1, _, a3⟩ := upd_ne G s.h.length w.heap.size n false (Nat.ne_of_lt hlk)
      rw [a1, (upd_same G s.h.length w.heap.size n false).1] at he
      have := hr.heap.lt hk1 (a3 ▸ vk)
      omega
    · rfl
  · rcases getElem?_push s.h x hk with ⟨hlt, hk⟩ | ⟨rfl, rfl⟩
    · obtain ⟨a1, _, a3⟩ := upd_ne G s.h.length w.heap.size n false (Nat.ne_of_lt hlt)
      rw [a1]
      exact hr.sup k y hk (a3 ▸ hv) hfz hho
    · rw [(upd_same G s.h.length w.heap.size n false).1]
      exact .inr hr.mod.size
theorem fresh_nF (hr : Rel E G F s a w) : ¬ F w.heap.size := fun h => Nat.lt_irrefl _ (hr.flt _ h)
theorem Rel.drew (hr : Rel E G F s a w) : Rel E G F s a w.drew := by
  have hw : ∀ b, F b → w.drew.heap[b]? = w.heap[b]? := fun _ _ => rfl
  exact ⟨hr.len, hr.def0.keep (fun D h1 _ => ⟨h1, rfl⟩), fun i av v h1 h2 => (hr.slot i av v h1 h2).keep (Later.refl _ _) (fun _ h => h) hw, ⟨fun k y hk => (hr.heap.obj k y hk).keep (Later.refl _ _) (fun _ h => h) hw ⟨rfl, rfl, rfl⟩ (fun _ => rfl) (fun hv hf => hr.heap.nfz hk hv hf), hr.heap.inj⟩,
    hr.mod.drew, hr.sup, hr.fsup, hr.f0, hr.fc.keep hw, hr.lat⟩
/-- a nil slice as a row of its own -/
theorem Rel.virt (hr : Rel E G F s a w) (e sz : Nat) : Rel E (G.upd s.h.length 0 0 true) F { s with h := s.h ++ [.o (.row e sz) []] } a w := by
  have hl := Later.push G s.h (.o (.row e sz) []) 0 0 true
  have hw : ∀ b, F b → w.heap[b]? = w.heap[b]? := fun b hb => rfl
  have hN := (upd_same G s.h.length 0 0 true).2.2
  refine ⟨hr.len, hr.def0, fun i av v h1 h2 => (hr.slot i av v h1 h2).keep hl (fun _ h => h) hw, ⟨fun k y hk => ?_, fun j k y z hj hk vj vk fj fk he => ?_⟩, hr.mod, fun k y hk hv hfz hho => ?_, hr.fsup, hr.f0, hr.fc, hr.lat.trans (hl.same _)⟩
  · rcases getElem?_push s.h _ hk with ⟨hlt, hk⟩ | ⟨rfl, rfl⟩
    · exact (hr.heap.obj k y hk).keep hl (fun _ h => h) hw (upd_ne _ _ _ _ _ (Nat.ne_of_lt hlt)) (fun hv => rfl) (fun hv hfy => hr.heap.nfz hk hv hfy)
    · exact .inl ⟨hN, rfl⟩
  · rcases getElem?_push s.h _ hj with ⟨hlj, hj1⟩ | ⟨rfl, rfl⟩ <;> rcases getElem?_push s.h _ hk with ⟨hlk, hk1⟩ | ⟨rfl, rfl⟩
    · obtain ⟨a1, _, a3⟩ := upd_ne G s.h.length 0 0 true (Nat.ne_of_lt hlj)
      obtain ⟨b1, _, b3⟩ := upd_ne G s.h.length 0 0 true (Nat.ne_of_lt hlk)
      exact hr.heap.inj j k _ _ hj1 hk1 (a3 ▸ vj) (b3 ▸ vk) fj fk (by rw [← a1, ← b1]; exact he)
    · rw [hN] at vk; cases vk
    · rw [hN] at vj; cases vj
    · rfl
  · rcases getElem?_push s.h _ hk with ⟨hlt, hk⟩ | ⟨rfl, rfl⟩
    · obtain ⟨a1, _, a3⟩ := upd_ne G s.h.length 0 0 true (Nat.ne_of_lt hlt)
      rw [a1]
      exact hr.sup k y hk (a3 ▸ hv) hfz hho
    · rw [hN] at hv; cases hv
/-- a block of the call's own is turned (its address may turn as well) -/
theorem Rel.turn (hr : Rel E G F s a w) {k : Nat} {x y : AObj} (hk : s.h[k]? = some x) (hho : E.ho k = false) (hfx : fzO x = false) (hfy : fzO y = false) {w' : World} {b n : Nat}
    (hl : Later G (G.upd k b n false) (lens s.h) (lens (s.h.set k y)))
    (hw : ∀ c, c < w.heap.size → c ≠ b → w'.heap[c]? = w.heap[c]?) (hm : w'.os = w.os ∧ w'.tape = w.tape ∧ w'.output = w.output ∧ w.heap.size ≤ w'.heap.size)
    (hb : (b = G.σ k ∧ G.vir k = false) ∨ w.heap.size ≤ b)
    (hx : (∀ c, F c → w'.heap[c]? = w.heap[c]?) → ¬ F b → ORel (G.upd k b n false) (lens (s.h.set k y)) F w' k y) : Rel E (G.upd k b n false) F { s with h := s.h.set k y } a w' := by
  have hklt : k < s.h.length := (List.getElem?_eq_some_iff.1 hk).1
  obtain ⟨u1, u2, u3⟩ := upd_same G k b n false
  have hnF : ¬ F b := fun hc => by
    rcases hb with ⟨h1, h2⟩ | h1
    · exact hr.heap.nfz hk h2 hfx (h1 ▸ hc)
    · have := hr.flt b hc; omega
  have keepF : ∀ c, F c → w'.heap[c]? = w.heap[c]? := fun c hc => hw c (hr.flt c hc) fun e => hnF (e ▸ hc)
  have hget : ∀ {j z}, (s.h.set k y)[j]? = some z → (j = k ∧ z = y) ∨ (j ≠ k ∧ s.h[j]? = some z) := fun {j z} hj => by
    rw [List.getElem?_set] at hj
    by_cases e : k = j
    · subst e
      rw [if_pos rfl, if_pos hklt] at hj
      injection hj with hj
      exact .inl ⟨rfl, hj.symm⟩
    · rw [if_neg e] at hj
      exact .inr ⟨fun e' => e e'.symm, hj⟩
  have hother : ∀ {j z}, j ≠ k → s.h[j]? = some z → G.vir j = false → fzO z = false → G.σ j ≠ b := fun {j z} hj hz hv hf e => by
    rcases hb with ⟨h1, h2⟩ | h1
    · exact hj (hr.heap.inj j k z x hz hk hv h2 hf hfx (e.trans h1))
    · have := hr.heap.lt hz hv; omega
  refine ⟨hr.len, hr.def0.keep (fun D h1 h2 => ⟨h1, hw D (lt_of_heap h2) fun e => by
    rcases hb with ⟨h3, h4⟩ | h3
    · exact hr.heap.notDef hk h4 (by rw [← h3, ← e]; exact h2)
    · have := lt_of_heap h2; omega⟩), fun i av v h1 h2 => (hr.slot i av v h1 h2).keep hl (fun _ h => h) keepF, ⟨fun j z hj => ?_, fun i j z z' hi hj vi vj fi fj he => ?_⟩, ?_, fun j z hj hv hf hho' => ?_, hr.fsup, hr.f0, hr.fc.keep keepF, hr.lat.trans (hl.same _)⟩
  · rcases hget hj with ⟨rfl, rfl⟩ | ⟨hne, hj⟩
    · exact hx keepF hnF
    · refine (hr.heap.obj j z hj).keep hl (fun _ h => h) keepF (upd_ne _ _ _ _ _ hne) (fun hv => ?_) (fun hv hf => hr.heap.nfz hj hv hf)
      by_cases hf : fzO z = false
      · exact hw _ (hr.heap.lt hj hv) (hother hne hj hv hf)
      · have hob := hr.heap.obj j z hj
        cases z with
        | it s pos => exact absurd rfl hf
        | o kd cs =>
          cases kd with
          | box => exact absurd rfl hf
          | row e sz => exact absurd rfl hf
          | fz =>
            rcases hob with ⟨h0, _⟩ | ⟨_, h0, _⟩
            · rw [hv] at h0; cases h0
            · exact keepF _ h0
  · rcases hget hi with ⟨rfl, rfl⟩ | ⟨hni, hi1⟩ <;> rcases hget hj with ⟨rfl, rfl⟩ | ⟨hnj, hj1⟩
    · rfl
    · obtain ⟨a1, _, a3⟩ := upd_ne G i b n false hnj
      rw [a1, u1] at he
      exact absurd he.symm (hother hnj hj1 (a3 ▸ vj) fj)
    · obtain ⟨a1, _, a3⟩ := upd_ne G j b n false hni
      rw [a1, u1] at he
      exact absurd he (hother hni hi1 (a3 ▸ vi) fi)
    · obtain ⟨a1, _, a3⟩ := upd_ne G k b n false hni
      obtain ⟨b1, _, b3⟩ := upd_ne G k b n false hnj
      exact hr.heap.inj i j _ _ hi1 hj1 (a3 ▸ vi) (b3 ▸ vj) fi fj (by rw [← a1, ← b1]; exact he)
  · have hL : b < E.w0.heap.size → E.L b := fun hlt => by
      rcases hb with ⟨h1, h2⟩ | h1
      · rcases hr.sup k x hk h2 hfx hho with h3 | h3
        · rw [h1]; exact h3
        · omega
      · have := hr.mod.size; omega
    refine ⟨hm.1.trans hr.mod.os, hm.2.1.trans hr.mod.tape, hm.2.2.1.trans hr.mod.output, Nat.le_trans hr.mod.size hm.2.2.2, fun c hc hn => ?_⟩
    rw [hw c (Nat.lt_of_lt_of_le hc hr.mod.size) fun e => hn (e ▸ hL (e ▸ hc))]
    exact hr.mod.block c hc hn
  · rcases hget hj with ⟨rfl, rfl⟩ | ⟨hne, hj⟩
    · rw [u1]
      rcases hb with ⟨h1, h2⟩ | h1
      · rw [h1]; exact hr.sup j x hk h2 hfx hho
      · exact .inr (Nat.le_trans hr.mod.size h1)
    · obtain ⟨a1, _, a3⟩ := upd_ne G k b n false hne
      rw [a1]
      exact hr.sup j z hj (a3 ▸ hv) hf hho'
theorem Later.set (G : Gh) {h : List AObj} {k : Nat} {x y : AObj} (hk : h[k]? = some x) (b n : Nat) (hc : (lnO y = lnO x ∧ b = G.σ k ∧ n = G.bs k ∧ G.vir k = false) ∨ lnO x < lnO y) : Later G (G.upd k b n false) (lens h) (lens (h.set k y)) := by
  intro j m hj
  have hklt : k < h.length := (List.getElem?_eq_some_iff.1 hk).1
  obtain ⟨u1, u2, u3⟩ := upd_same G k b n false
  unfold lens at hj ⊢
  rw [List.getElem?_map, Option.map_eq_some_iff] at hj
  obtain ⟨z, hz, rfl⟩ := hj
  by_cases e : k = j
  · subst e
    rw [hk] at hz; injection hz with hz; subst hz
    rcases hc with ⟨h1, h2, h3, h4⟩ | h1
    · exact .inl ⟨by rw [List.getElem?_map, List.getElem?_set, if_pos rfl, if_pos hklt]; simp [h1], by rw [u1, h2], by rw [u2, h3], by rw [u3, h4]⟩
    · exact .inr ⟨_, by rw [List.getElem?_map, List.getElem?_set, if_pos rfl, if_pos hklt]; rfl, h1⟩
  · obtain ⟨a1, a2, a3⟩ := upd_ne G k b n false (fun e' => e e'.symm)
    exact .inl ⟨by rw [List.getElem?_map, List.getElem?_set, if_neg e, hz]; rfl, a1, a2, a3⟩
end
end Go.Proofs.Ytmgpiminicgbiaa
