import Derived.Test.YtmgpiminicgbiaaG1
import Derived.Deep.AppendSrc
import Derived.Great.BuildSlice
import Derived.Laws.MakeOwn
import Derived.Lib.Overlaps
import Derived.DeepKeys3
import Derived.WideLaws
namespace Go.Proofs.Ytmgpiminicgbiaa
set_option linter.unusedVariables false
set_option linter.unusedSimpArgs false
open Go.RowKit

/-! ## Turning the blocks -/
def Gh.upd (G : Gh) (k b n : Nat) (v : Bool) : Gh := ⟨fun j => if j = k then b else G.σ j, fun j => if j = k then n else G.bs j, fun j => if j = k then v else G.vir j⟩
theorem upd_same (G : Gh) (k b n : Nat) (v : Bool) : (G.upd k b n v).σ k = b ∧ (G.upd k b n v).bs k = n ∧ (G.upd k b n v).vir k = v := by simp [Gh.upd]
theorem upd_ne (G : Gh) (k b n : Nat) (v : Bool) {j : Nat} (h : j ≠ k) : (G.upd k b n v).σ j = G.σ j ∧ (G.upd k b n v).bs j = G.bs j ∧ (G.upd k b n v).vir j = G.vir j := by simp [Gh.upd, h]
theorem Later.push (G : Gh) (h : List AObj) (x : AObj) (b n : Nat) (v : Bool) : Later G (G.upd h.length b n v) (lens h) (lens (h ++ [x])) := by
  intro k m hk
  have hlt : k < h.length := by
    have := (List.getElem?_eq_some_iff.1 hk).1
    simpa [lens] using this
  obtain ⟨e1, e2, e3⟩ := upd_ne G h.length b n v (Nat.ne_of_lt hlt)
  refine .inl ⟨?_, e1, e2, e3⟩
  unfold lens at hk ⊢
  rw [List.map_append, List.getElem?_append_left (by simpa using hlt)]
  exact hk
theorem heap_alloc_lt (w : World) (o : Obj) {b : Nat} (hb : b < w.heap.size) : (w.alloc o).heap[b]? = w.heap[b]? := Below.heap_alloc w o b hb
section
variable {P : Program} {G : Gh} {F : Nat → Prop} {w : World} {E : Env} {s : AS} {a : Act}
/-- a solid block lies there -/
theorem HRel.lt {h : List AObj} (hh : HRel G F h w) {k : Nat} {x : AObj} (hk : h[k]? = some x) (hv : G.vir k = false) : G.σ k < w.heap.size := by
  have := hh.obj k x hk
  have key : ∀ {o : Obj}, w.heap[G.σ k]? = some o → G.σ k < w.heap.size := fun ho => (Array.getElem?_eq_some_iff.1 ho).1
  cases x with
  | raw s => exact key this.2.2
  | o kd cs =>
    cases kd with
    | box => obtain ⟨_, _, cur, ty, h1, _⟩ := this; exact h1.lt
    | row e sz =>
      rcases this with ⟨h1, _⟩ | ⟨_, _, cur, c, h1, _⟩
      · rw [hv] at h1; cases h1
      · exact h1.lt
    | fz =>
      rcases this with ⟨h1, _⟩ | ⟨_, _, cur, ty, fr, h1, _⟩
      · rw [hv] at h1; cases h1
      · exact key h1
theorem HRel.nfz {h : List AObj} (hh : HRel G F h w) {k : Nat} {x : AObj} (hk : h[k]? = some x) (hv : G.vir k = false) (hf : fzO x = false) : ¬ F (G.σ k) := by
  have := hh.obj k x hk
  cases x with
  | raw s => exact this.2.1
  | o kd cs =>
    cases kd with
    | box => exact this.2.1
    | row e sz =>
      rcases this with ⟨h1, _⟩ | ⟨_, h2, _⟩
      · rw [hv] at h1; cases h1
      · exact h2
    | fz => cases hf
/-- an object stays as it was where its block has not been turned -/
theorem ORel.keep {G' : Gh} {ln ln' : List Nat} {F' : Nat → Prop} {w' : World} {k : Nat} {x : AObj} (h : ORel G ln F w k x) (hl : Later G G' ln ln') (hF : ∀ b, F b → F' b) (hw : ∀ b, F b → w'.heap[b]? = w.heap[b]?)
    (hG : G'.σ k = G.σ k ∧ G'.bs k = G.bs k ∧ G'.vir k = G.vir k) (hb : G.vir k = false → w'.heap[G.σ k]? = w.heap[G.σ k]?) (hnF : G.vir k = false → fzO x = false → ¬ F' (G.σ k)) : ORel G' ln' F' w' k x := by
  obtain ⟨g1, g2, g3⟩ := hG
  cases x with
  | raw s => exact ⟨g3.trans h.1, by rw [g1]; exact hnF h.1 rfl, by rw [g1, hb h.1]; exact h.2.2⟩
  | o kd cs =>
    cases kd with
    | box =>
      obtain ⟨h0, hn, cur, ty, h1, h2, h3, h4⟩ := h
      exact ⟨g3.trans h0, by rw [g1]; exact hnF h0 rfl, cur, ty, by rw [g1]; exact (hb h0).trans h1, by rw [g2]; exact h2, by rw [g2]; exact h3, h4.keep hl hF hw⟩
    | row e sz =>
      rcases h with ⟨h0, h1⟩ | ⟨h0, hn, cur, c, h1, h2, h3, h4, h5, h6⟩
      · exact .inl ⟨g3.trans h0, h1⟩
      · exact .inr ⟨g3.trans h0, by rw [g1]; exact hnF h0 rfl, cur, c, by rw [g1]; exact (hb h0).trans h1, by rw [g2]; exact h2, by rw [g2]; exact h3, h4, by rw [g2]; exact h5, h6.keep hl hF hw⟩
    | fz =>
      rcases h with ⟨h0, h1⟩ | ⟨h0, hn, cur, ty, fr, h1, h2, h3, h4⟩
      · exact .inl ⟨g3.trans h0, h1⟩
      · exact .inr ⟨g3.trans h0, by rw [g1]; exact hF _ hn, cur, ty, fr, by rw [g1]; exact (hb h0).trans h1, by rw [g2]; exact h2, h3, h4.keep hl hF hw⟩
theorem getElem?_push {α : Type} (h : List α) (x : α) {k : Nat} {y : α} (hk : (h ++ [x])[k]? = some y) : (k < h.length ∧ h[k]? = some y) ∨ (k = h.length ∧ y = x) := by
  rcases Nat.lt_trichotomy k h.length with hlt | rfl | hgt
  · rw [List.getElem?_append_left hlt] at hk; exact .inl ⟨hlt, hk⟩
  · rw [List.getElem?_append_right (Nat.le_refl _)] at hk; simp at hk; exact .inr ⟨rfl, hk.symm⟩
  · rw [List.getElem?_eq_none (by simp; omega)] at hk; cases hk
/-- a new block -/
theorem lt_of_heap {w : World} {D : Nat} {o : Obj} (h : w.heap[D]? = some o) : D < w.heap.size := (Array.getElem?_eq_some_iff.1 h).1
theorem HRel.notDef {h : List AObj} (hh : HRel G F h w) {k : Nat} {x : AObj} (hk : h[k]? = some x) (hv : G.vir k = false) {l : Option (List Deferred)} (hd : w.heap[G.σ k]? = some (.deferred l)) : False := by
  have hob := hh.obj k x hk
  cases x with
  | raw s => have := hob.2.2; rw [hd] at this; cases s <;> simp [rawObj] at this
  | o kd cs =>
    cases kd with
    | box =>
      obtain ⟨_, _, cur, ty, hb, _⟩ := hob
      have hb : w.heap[G.σ k]? = _ := hb; rw [hd] at hb; cases hb
    | row e sz =>
      rcases hob with ⟨h1, _⟩ | ⟨_, _, cur, c, hb, _⟩
      · rw [hv] at h1; cases h1
      · have hb : w.heap[G.σ k]? = _ := hb; rw [hd] at hb; cases hb
    | fz =>
      rcases hob with ⟨h1, _⟩ | ⟨_, _, cur, ty, fr, hb, _⟩
      · rw [hv] at h1; cases h1
      · rw [hd] at hb; cases hb
theorem HRel.isCells {h : List AObj} (hh : HRel G F h w) {k : Nat} {kd : AKind} {cs : List AV} (hk : h[k]? = some (.o kd cs)) (hv : G.vir k = false) : ∃ c t f, w.heap[G.σ k]? = some (.cells c t f) := by
  have hob := hh.obj k _ hk
  cases kd with
  | box => obtain ⟨_, _, cur, ty, hb, _⟩ := hob; exact ⟨_, _, _, hb⟩
  | row e sz =>
    rcases hob with ⟨h1, _⟩ | ⟨_, _, cur, c, hb, _⟩
    · rw [hv] at h1; cases h1
    · exact ⟨_, _, _, hb⟩
  | fz =>
    rcases hob with ⟨h1, _⟩ | ⟨_, _, cur, ty, fr, hb, _⟩
    · rw [hv] at h1; cases h1
    · exact ⟨_, _, _, hb⟩
theorem Rel.new (hr : Rel E G F s a w) (o : Obj) (x : AObj) (n : Nat) (hf : fzO x = false)
    (hx : ORel (G.upd s.h.length w.heap.size n false) (lens (s.h ++ [x])) F (w.alloc o) s.h.length x) : Rel E (G.upd s.h.length w.heap.size n false) F { s with h := s.h ++ [x] } a (w.alloc o) := by
  have hl := Later.push G s.h x w.heap.size n false
  have hw : ∀ b, F b → (w.alloc o).heap[b]? = w.heap[b]? := fun b hb => heap_alloc_lt w o (hr.flt b hb)
  refine ⟨hr.len, hr.def0.keep (fun D h1 h2 => ⟨h1, heap_alloc_lt w o (lt_of_heap h2)⟩), fun i av v h1 h2 => (hr.slot i av v h1 h2).keep hl (fun _ h => h) hw, ⟨fun k y hk => ?_, fun j k y z hj hk vj vk fj fk he => ?_⟩, hr.mod.alloc o, fun k y hk hv hfz hho => ?_, hr.fsup, hr.f0, hr.fc.keep hw, hr.lat.trans (hl.same _)⟩
  · rcases getElem?_push s.h x hk with ⟨hlt, hk⟩ | ⟨rfl, rfl⟩
    · exact (hr.heap.obj k y hk).keep hl (fun _ h => h) hw (upd_ne _ _ _ _ _ (Nat.ne_of_lt hlt)) (fun hv => heap_alloc_lt w o (hr.heap.lt hk hv)) (fun hv hfy => hr.heap.nfz hk hv hfy)
    · exact hx
  · rcases getElem?_push s.h _ hj with ⟨hlj, hj1⟩ | ⟨rfl, rfl⟩ <;> rcases getElem?_push s.h _ hk with ⟨hlk, hk1⟩ | ⟨rfl, rfl⟩
    · obtain ⟨a1, _, a3⟩ := upd_ne G s.h.length w.heap.size n false (Nat.ne_of_lt hlj)
      obtain ⟨b1, _, b3⟩ := upd_ne G s.h.length w.heap.size n false (Nat.ne_of_lt hlk)
      exact hr.heap.inj j k _ _ hj1 hk1 (a3 ▸ vj) (b3 ▸ vk) fj fk (by rw [← a1, ← b1]; exact he)
    · obtain ⟨a1, _, a3⟩ := upd_ne G s.h.length w.heap.size n false (Nat.ne_of_lt hlj)
      rw [a1, (upd_same G s.h.length w.heap.size n false).1] at he
      have := hr.heap.lt hj1 (a3 ▸ vj)
      omega
    · obtain ⟨a1, _, a3⟩ := upd_ne G s.h.length w.heap.size n false (Nat.ne_of_lt hlk)
      rw [a1, (upd_same G s.h.length w.heap.size n false).1] at he
      have := hr.heap.lt hk1 (a3 ▸ vk)
      omega
    · rfl
  · rcases getElem?_push s.h x hk with ⟨hlt, hk⟩ | ⟨rfl, rfl⟩
    · obtain ⟨a1, _, a3⟩ := upd_ne G s.h.length w.heap.size n false (Nat.ne_of_lt hlt)
      rw [a1]
      exact hr.sup k y hk (a3 ▸ hv) hfz hho
    · rw [(upd_same G s.h.length w.heap.size n false).1]
      exact .inr hr.mod.size
theorem fresh_nF (hr : Rel E G F s a w) : ¬ F w.heap.size := fun h => Nat.lt_irrefl _ (hr.flt _ h)
theorem Rel.drew (hr : Rel E G F s a w) : Rel E G F s a w.drew := by
  have hw : ∀ b, F b → w.drew.heap[b]? = w.heap[b]? := fun _ _ => rfl
  exact ⟨hr.len, hr.def0.keep (fun D h1 _ => ⟨h1, rfl⟩), fun i av v h1 h2 => (hr.slot i av v h1 h2).keep (Later.refl _ _) (fun _ h => h) hw, ⟨fun k y hk => (hr.heap.obj k y hk).keep (Later.refl _ _) (fun _ h => h) hw ⟨rfl, rfl, rfl⟩ (fun _ => rfl) (fun hv hf => hr.heap.nfz hk hv hf), hr.heap.inj⟩,
    hr.mod.drew, hr.sup, hr.fsup, hr.f0, hr.fc.keep hw, hr.lat⟩
/-- a nil slice as a row of its own -/
theorem Rel.virt (hr : Rel E G F s a w) (e sz : Nat) : Rel E (G.upd s.h.length 0 0 true) F { s with h := s.h ++ [.o (.row e sz) []] } a w := by
  have hl := Later.push G s.h (.o (.row e sz) []) 0 0 true
  have hw : ∀ b, F b → w.heap[b]? = w.heap[b]? := fun b hb => rfl
  have hN := (upd_same G s.h.length 0 0 true).2.2
  refine ⟨hr.len, hr.def0, fun i av v h1 h2 => (hr.slot i av v h1 h2).keep hl (fun _ h => h) hw, ⟨fun k y hk => ?_, fun j k y z hj hk vj vk fj fk he => ?_⟩, hr.mod, fun k y hk hv hfz hho => ?_, hr.fsup, hr.f0, hr.fc, hr.lat.trans (hl.same _)⟩
  · rcases getElem?_push s.h _ hk with ⟨hlt, hk⟩ | ⟨rfl, rfl⟩
    · exact (hr.heap.obj k y hk).keep hl (fun _ h => h) hw (upd_ne _ _ _ _ _ (Nat.ne_of_lt hlt)) (fun hv => rfl) (fun hv hfy => hr.heap.nfz hk hv hfy)
    · exact .inl ⟨hN, rfl⟩
  · rcases getElem?_push s.h _ hj with ⟨hlj, hj1⟩ | ⟨rfl, rfl⟩ <;> rcases getElem?_push s.h _ hk with ⟨hlk, hk1⟩ | ⟨rfl, rfl⟩
    · obtain ⟨a1, _, a3⟩ := upd_ne G s.h.length 0 0 true (Nat.ne_of_lt hlj)
      obtain ⟨b1, _, b3⟩ := upd_ne G s.h.length 0 0 true (Nat.ne_of_lt hlk)
      exact hr.heap.inj j k _ _ hj1 hk1 (a3 ▸ vj) (b3 ▸ vk) fj fk (by rw [← a1, ← b1]; exact he)
    · rw [hN] at vk; cases vk
    · rw [hN] at vj; cases vj
    · rfl
  · rcases getElem?_push s.h _ hk with ⟨hlt, hk⟩ | ⟨rfl, rfl⟩
    · obtain ⟨a1, _, a3⟩ := upd_ne G s.h.length 0 0 true (Nat.ne_of_lt hlt)
      rw [a1]
      exact hr.sup k y hk (a3 ▸ hv) hfz hho
    · rw [hN] at hv; cases hv
/-- a block of the call's own is turned (its address may turn as well) -/
theorem Rel.turn (hr : Rel E G F s a w) {k : Nat} {x y : AObj} (hk : s.h[k]? = some x) (hho : E.ho k = false) (hfx : fzO x = false) (hfy : fzO y = false) {w' : World} {b n : Nat}
    (hl : Later G (G.upd k b n false) (lens s.h) (lens (s.h.set k y)))
    (hw : ∀ c, c < w.heap.size → c ≠ b → w'.heap[c]? = w.heap[c]?) (hm : w'.os = w.os ∧ w'.tape = w.tape ∧ w'.output = w.output ∧ w.heap.size ≤ w'.heap.size)
    (hb : (b = G.σ k ∧ G.vir k = false) ∨ w.heap.size ≤ b)
    (hx : (∀ c, F c → w'.heap[c]? = w.heap[c]?) → ¬ F b → ORel (G.upd k b n false) (lens (s.h.set k y)) F w' k y) : Rel E (G.upd k b n false) F { s with h := s.h.set k y } a w' := by
  have hklt : k < s.h.length := (List.getElem?_eq_some_iff.1 hk).1
  obtain ⟨u1, u2, u3⟩ := upd_same G k b n false
  have hnF : ¬ F b := fun hc => by
    rcases hb with ⟨h1, h2⟩ | h1
    · exact hr.heap.nfz hk h2 hfx (h1 ▸ hc)
    · have := hr.flt b hc; omega
  have keepF : ∀ c, F c → w'.heap[c]? = w.heap[c]? := fun c hc => hw c (hr.flt c hc) fun e => hnF (e ▸ hc)
  have hget : ∀ {j z}, (s.h.set k y)[j]? = some z → (j = k ∧ z = y) ∨ (j ≠ k ∧ s.h[j]? = some z) := fun {j z} hj => by
    rw [List.getElem?_set] at hj
    by_cases e : k = j
    · subst e
      rw [if_pos rfl, if_pos hklt] at hj
      injection hj with hj
      exact .inl ⟨rfl, hj.symm⟩
    · rw [if_neg e] at hj
      exact .inr ⟨fun e' => e e'.symm, hj⟩
  have hother : ∀ {j z}, j ≠ k → s.h[j]? = some z → G.vir j = false → fzO z = false → G.σ j ≠ b := fun {j z} hj hz hv hf e => by
    rcases hb with ⟨h1, h2⟩ | h1
    · exact hj (hr.heap.inj j k z x hz hk hv h2 hf hfx (e.trans h1))
    · have := hr.heap.lt hz hv; omega
  refine ⟨hr.len, hr.def0.keep (fun D h1 h2 => ⟨h1, hw D (lt_of_heap h2) fun e => by
    rcases hb with ⟨h3, h4⟩ | h3
    · exact hr.heap.notDef hk h4 (by rw [← h3, ← e]; exact h2)
    · have := lt_of_heap h2; omega⟩), fun i av v h1 h2 => (hr.slot i av v h1 h2).keep hl (fun _ h => h) keepF, ⟨fun j z hj => ?_, fun i j z z' hi hj vi vj fi fj he => ?_⟩, ?_, fun j z hj hv hf hho' => ?_, hr.fsup, hr.f0, hr.fc.keep keepF, hr.lat.trans (hl.same _)⟩
  · rcases hget hj with ⟨rfl, rfl⟩ | ⟨hne, hj⟩
    · exact hx keepF hnF
    · refine (hr.heap.obj j z hj).keep hl (fun _ h => h) keepF (upd_ne _ _ _ _ _ hne) (fun hv => ?_) (fun hv hf => hr.heap.nfz hj hv hf)
      by_cases hf : fzO z = false
      · exact hw _ (hr.heap.lt hj hv) (hother hne hj hv hf)
      · have hob := hr.heap.obj j z hj
        cases z with
        | raw s => exact absurd rfl hf
        | o kd cs =>
          cases kd with
          | box => exact absurd rfl hf
          | row e sz => exact absurd rfl hf
          | fz =>
            rcases hob with ⟨h0, _⟩ | ⟨_, h0, _⟩
            · rw [hv] at h0; cases h0
            · exact keepF _ h0
  · rcases hget hi with ⟨rfl, rfl⟩ | ⟨hni, hi1⟩ <;> rcases hget hj with ⟨rfl, rfl⟩ | ⟨hnj, hj1⟩
    · rfl
    · obtain ⟨a1, _, a3⟩ := upd_ne G i b n false hnj
      rw [a1, u1] at he
      exact absurd he.symm (hother hnj hj1 (a3 ▸ vj) fj)
    · obtain ⟨a1, _, a3⟩ := upd_ne G j b n false hni
      rw [a1, u1] at he
      exact absurd he (hother hni hi1 (a3 ▸ vi) fi)
    · obtain ⟨a1, _, a3⟩ := upd_ne G k b n false hni
      obtain ⟨b1, _, b3⟩ := upd_ne G k b n false hnj
      exact hr.heap.inj i j _ _ hi1 hj1 (a3 ▸ vi) (b3 ▸ vj) fi fj (by rw [← a1, ← b1]; exact he)
  · have hL : b < E.w0.heap.size → E.L b := fun hlt => by
      rcases hb with ⟨h1, h2⟩ | h1
      · rcases hr.sup k x hk h2 hfx hho with h3 | h3
        · rw [h1]; exact h3
        · omega
      · have := hr.mod.size; omega
    refine ⟨hm.1.trans hr.mod.os, hm.2.1.trans hr.mod.tape, hm.2.2.1.trans hr.mod.output, Nat.le_trans hr.mod.size hm.2.2.2, fun c hc hn => ?_⟩
    rw [hw c (Nat.lt_of_lt_of_le hc hr.mod.size) fun e => hn (e ▸ hL (e ▸ hc))]
    exact hr.mod.block c hc hn
  · rcases hget hj with ⟨rfl, rfl⟩ | ⟨hne, hj⟩
    · rw [u1]
      rcases hb with ⟨h1, h2⟩ | h1
      · rw [h1]; exact hr.sup j x hk h2 hfx hho
      · exact .inr (Nat.le_trans hr.mod.size h1)
    · obtain ⟨a1, _, a3⟩ := upd_ne G k b n false hne
      rw [a1]
      exact hr.sup j z hj (a3 ▸ hv) hf hho'
theorem Later.set (G : Gh) {h : List AObj} {k : Nat} {x y : AObj} (hk : h[k]? = some x) (b n : Nat) (hc : (lnO y = lnO x ∧ b = G.σ k ∧ n = G.bs k ∧ G.vir k = false) ∨ lnO x < lnO y) : Later G (G.upd k b n false) (lens h) (lens (h.set k y)) := by
  intro j m hj
  have hklt : k < h.length := (List.getElem?_eq_some_iff.1 hk).1
  obtain ⟨u1, u2, u3⟩ := upd_same G k b n false
  unfold lens at hj ⊢
  rw [List.getElem?_map, Option.map_eq_some_iff] at hj
  obtain ⟨z, hz, rfl⟩ := hj
  by_cases e : k = j
  · subst e
    rw [hk] at hz; injection hz with hz; subst hz
    rcases hc with ⟨h1, h2, h3, h4⟩ | h1
    · exact .inl ⟨by rw [List.getElem?_map, List.getElem?_set, if_pos rfl, if_pos hklt]; simp [h1], by rw [u1, h2], by rw [u2, h3], by rw [u3, h4]⟩
    · exact .inr ⟨_, by rw [List.getElem?_map, List.getElem?_set, if_pos rfl, if_pos hklt]; rfl, h1⟩
  · obtain ⟨a1, a2, a3⟩ := upd_ne G k b n false (fun e' => e e'.symm)
    exact .inl ⟨by rw [List.getElem?_map, List.getElem?_set, if_neg e, hz]; rfl, a1, a2, a3⟩
end
end Go.Proofs.Ytmgpiminicgbiaa
namespace Go.Proofs.Ytmgpiminicgbiaa
set_option linter.unusedVariables false
set_option linter.unusedSimpArgs false
open Go.RowKit

/-! ## Operations that lay or turn blocks -/
def isD : AV → Bool
  | .c _ | .fs .. => true
  | _ => false
def AS.setO (s : AS) (k : Nat) (x : AObj) : AS := { s with h := s.h.set k x }
def AS.push (s : AS) (x : AObj) : AS := { s with h := s.h ++ [x] }
/-- what is appended, or copied: its elements, its cells -/
def srcV (ro : Nat → Bool) (h : List AObj) (sz : Nat) : AV → Option (Nat × List AV)
  | .c (.string s) => if sz = 1 then some (s.size, u8av s.data.toList) else none
  | .fs sz' n l => if sz' = sz then some (n, l) else none
  | .sl k sz' off n m => (cellsH h k).bind fun cs => if cs.length = m ∧ ro k = true ∧ off + n * sz ≤ m ∧ sz' = sz then some (n, (cs.drop off).take (n * sz)) else none
  | .c (.slice none 0 0) => some (0, [])
  | _ => none
def anyRo : Nat → Bool := fun _ => true
def rowZ (len : Nat) (z : List Value) : List AV := (List.replicate len (z.map AV.c)).flatten
def appV (P : Program) (ho : Nat → Bool) (s : AS) (t : TypeId) (tx : TypeId) (x y : AV) : Option (Prop × AS × AV) :=
  match slT P t with
  | some (e, sz, by_) =>
    match zeroT P e, srcV anyRo s.h sz y with
    | some z, some (cnt, l) =>
      if isStrT P tx || (slT P tx).isSome then
        match x with
        | .sl k sz' 0 n m => match s.h[k]? with
          | some (.o (.row e' sz'') cs) => if e' = e ∧ sz' = sz ∧ sz'' = sz ∧ ho k = false then
              some (cs.length = m ∧ n * sz = m ∧ 0 < sz ∧ by_ ≤ 100000 ∧ n + cnt ≤ 140737488355328 / by_ ∧ l.all isCell = true ∧ z.length = sz, s.setO k (.o (.row e sz) (cs ++ l)), .sl k sz 0 (n + cnt) (m + cnt * sz)) else none
          | _ => none
        | .slc k sz' 0 n m => match s.h[k]? with
          | some (.o (.row e' sz'') cs) => if e' = e ∧ sz' = sz ∧ sz'' = sz ∧ ho k = false ∧ ho s.h.length = false then
              if (n + cnt) * sz ≤ m then some (cs.length = m ∧ 0 < sz ∧ 0 < m ∧ l.all isCell = true, s.setO k (.o (.row e sz) (cs.take (n * sz) ++ l ++ cs.drop (n * sz + cnt * sz))), .slc k sz 0 (n + cnt) m)
              else some (cs.length = m ∧ n * sz ≤ m ∧ 0 < m ∧ 0 < sz ∧ by_ ≤ 100000 ∧ n + cnt ≤ 140737488355328 / by_ ∧ l.all isCell = true ∧ z.length = sz, s.push (.o (.row e sz) (cs.take (n * sz) ++ l)), .sl s.h.length sz 0 (n + cnt) ((n + cnt) * sz))
            else none
          | _ => none
        | .c (.slice none 0 0) => if ho s.h.length then none else some (0 < sz ∧ by_ ≤ 100000 ∧ cnt ≤ 140737488355328 / by_ ∧ l.all isCell = true ∧ z.length = sz, s.push (.o (.row e sz) l), .sl s.h.length sz 0 cnt (cnt * sz))
        | _ => none
      else none
    | _, _ => none
  | _ => none
/-- zeros, so many, are appended where there is no room -/
def appZ (P : Program) (ho : Nat → Bool) (s : AS) (t : TypeId) (x y : AV) : Option (Prop × AS × AV) :=
  match slT P t, x, y with
  | some (e, sz, by_), .slc k sz' 0 n m, .c (.int _ q) =>
    match zeroT P e, s.h[k]? with
    | some z, some (.o (.row e' sz'') cs) => if e' = e ∧ sz' = sz ∧ sz'' = sz ∧ ho s.h.length = false then
        some (cs.length = m ∧ n * sz ≤ m ∧ 0 < m ∧ 0 < sz ∧ 0 < q ∧ m < (n + q.toNat) * sz ∧ by_ ≤ 100000 ∧ n + q.toNat ≤ 140737488355328 / by_ ∧ z.length = sz, s.push (.o (.row e sz) (cs.take (n * sz) ++ rowZ q.toNat z)), .sl s.h.length sz 0 (n + q.toNat) ((n + q.toNat) * sz)) else none
    | _, _ => none
  | some (e, sz, by_), .c (.slice none 0 0), .c (.int _ q) =>
    match zeroT P e with
    | some z => if ho s.h.length then none else some (0 < sz ∧ 0 < q ∧ by_ ≤ 100000 ∧ q.toNat ≤ 140737488355328 / by_ ∧ z.length = sz, s.push (.o (.row e sz) (rowZ q.toNat z)), .sl s.h.length sz 0 q.toNat (q.toNat * sz))
    | none => none
  | _, _, _ => none
/-- of a source in the row that is written no more is read than is written -/
def shortS (k n : Nat) : AV → AV
  | .sl k' sz off n' m => if k' = k then .sl k' sz off (min n' n) m else .sl k' sz off n' m
  | y => y
def copyV (P : Program) (ho : Nat → Bool) (s : AS) (t : TypeId) (tx : TypeId) (x y : AV) : Option (Prop × AS × AV) :=
  match slT P t, x with
  | some (_, sz, _), .sl k sz' off n m =>
    match s.h[k]?, srcV anyRo s.h sz (shortS k n y) with
    | some (.o kd cs), some (cnt, l) => if fzO (.o kd cs) = false ∧ sz' = sz ∧ ho k = false then
        some (cs.length = m ∧ off + n * sz ≤ m ∧ l.all isCell = true, s.setO k (.o kd (cs.take off ++ l.take (n * sz) ++ cs.drop (off + (l.take (n * sz)).length))), .c (.int .i64 (min cnt n : Nat))) else none
    | _, _ => none
  | _, _ => none
def storeAV (P : Program) (ho : Nat → Bool) (s : AS) (t : TypeId) (x v : AV) : Option (Prop × AS) :=
  match x, tyT P t with
  | .ptr k off m, some (sz, _) =>
    match s.h[k]? with
    | some (.o kd cs) => if fzO (.o kd cs) = false ∧ ho k = false then
        some (okV v = true ∧ v.cells.all isCell = true ∧ v.cells.length = sz ∧ cs.length = m ∧ off + sz ≤ m, s.setO k (.o kd (cs.take off ++ v.cells ++ cs.drop (off + sz)))) else none
    | _ => none
  | _, _ => none
def clearV (P : Program) (ho : Nat → Bool) (s : AS) (t : TypeId) (x : AV) : Option (Prop × AS × AV) :=
  match slT P t, x with
  | some (e, sz, _), .sl k sz' off n m =>
    match s.h[k]?, zeroT P e with
    | some (.o kd cs), some z => if fzO (.o kd cs) = false ∧ sz' = sz ∧ ho k = false then
        some (cs.length = m ∧ off + n * sz ≤ m ∧ 0 < sz ∧ z.length = sz ∧ z.all Value.oneCell' = true, s.setO k (.o kd (cs.take off ++ rowZ n z ++ cs.drop (off + n * sz))), .tup []) else none
    | _, _ => none
  | _, _ => none
/-- the library's own question whether two slices share memory -/
def ovlT (P : Program) (g : FuncId) : Bool := match P.funcs[g]? with
  | some fn => fn.origin == "slices.overlaps" && fn.name != "runtime.NumGoroutine" && (Extern.allGenericRows.lookup fn.name).isNone && (Extern.allTypedRows.lookup fn.name).isNone && (Extern.allRows.lookup fn.name).isNone && fn.body.isNone && (Extern.findNext fn).isNone && (match fn.params.toList with | [a, b] => a == b && (slT P a).isSome | _ => false)
  | none => false
def rowAt (h : List AObj) (k m : Nat) : Bool := match h[k]? with
  | some (.o (.row _ _) cs) => cs.length == m
  | _ => false
def ovl2 (s : AS) : AV → AV → Option (Prop × AS × AV)
  | .sl k _ _ _ m, .sl k' _ _ _ m' => some (k ≠ k' ∧ rowAt s.h k m = true ∧ rowAt s.h k' m' = true ∧ 0 < m ∧ 0 < m', s, .c (.bool false))
  | _, _ => none
def ovlV (P : Program) (s : AS) (x y : Operand) : AV → Option (Prop × AS × AV)
  | .clo (.func g) [] [] => if ovlT P g = true then (ovl2 s (s.ev x).ung (s.ev y).ung).map fun p => ((s.ev x).gc ∧ (s.ev y).gc ∧ p.1, p.2) else none
  | _ => none
/-- maps by strings -/
def msAt (h : List AObj) (k : Nat) : Option (List (ByteArray × Value)) := match h[k]? with
  | some (.raw (.ms es)) => some es
  | _ => none
def zero1 (P : Program) (e : TypeId) : Option Value := (P.info? e).bind (·.zero)
def lookV (P : Program) (s : AS) (t : TypeId) (m k : Operand) : AV → AV → Option (Prop × AS × AV)
  | .mref h, .c (.string b) => match mapT P t, msAt s.h h with
    | some (kt, e), some es => if isStrT P kt then (zero1 P e).map fun z => ((s.ev m).gc ∧ (s.ev k).gc ∧ z.oneCell' = true, s, .c ((lookS es b).getD z)) else none
    | _, _ => none
  | _, _ => none
def updV (P : Program) (ho : Nat → Bool) (s : AS) (t : TypeId) (m k v : Operand) : AV → AV → AV → Option (Prop × AS × AV)
  | .mref h, .c (.string b), .c x => match mapT P t, msAt s.h h with
    | some (kt, _), some es => if isStrT P kt = true ∧ ho h = false then some ((s.ev m).gc ∧ (s.ev k).gc ∧ (s.ev v).gc, s.setO h (.raw (.ms (updS es b x))), .any) else none
    | _, _ => none
  | _, _, _ => none
/-- maps by structs -/
def mkAt (h : List AObj) (k : Nat) : Option (List (List Value)) := match h[k]? with
  | some (.raw (.mk ks)) => some ks
  | _ => none
def cvals : List AV → Option (List Value)
  | [] => some []
  | .c v :: l => (cvals l).map (v :: ·)
  | _ => none
def eqB1 : Value → Value → Bool
  | .int k a, .int j b => decide (k = j) && decide (a = b)
  | .bool a, .bool b => decide (a = b)
  | .string a, .string b => decide (a = b)
  | _, _ => false
def basV : Value → Bool
  | .int _ _ => true
  | .bool _ => true
  | .string _ => true
  | _ => false
def eqL1 : List Value → List Value → Bool
  | [], [] => true
  | a :: l, b :: m => eqB1 a b && eqL1 l m
  | _, _ => false
def hasK (ks : List (List Value)) (vs : List Value) : Bool := ks.any fun k => eqL1 k vs
def addK (ks : List (List Value)) (vs : List Value) : List (List Value) := if hasK ks vs = true then ks else ks ++ [vs]
def updK (P : Program) (ho : Nat → Bool) (s : AS) (t : TypeId) (m k v : Operand) : AV → AV → AV → Option (Prop × AS × AV)
  | .mref h, .agg l, .c (.bool true) => match mapT P t, mkAt s.h h, cvals l with
    | some (kt, _), some ks, some vs => if ho h = false then some (((s.ev m).gc ∧ (s.ev k).gc ∧ (s.ev v).gc) ∧ WideMaps.KeyLaw P kt ∧ vs.all basV = true ∧ ∀ x ∈ vs :: ks, (keyOf P kt (.agg x.toArray)).isSome = true, s.setO h (.raw (.mk (addK ks vs))), .any) else none
    | _, _, _ => none
  | _, _, _ => none
def updW (P : Program) (ho : Nat → Bool) (s : AS) (t : TypeId) (m k v : Operand) : AV → AV → AV → Option (Prop × AS × AV)
  | x, .agg l, u => updK P ho s t m k v x (.agg l) u
  | x, y, u => updV P ho s t m k v x y u
def lenM (P : Program) (s : AS) (t : TypeId) (x : Operand) : AV → Option (Prop × AS × AV)
  | .mref h => match mapT P t, msAt s.h h with
    | some _, some es => some ((s.ev x).gc, s, .c (.int .i64 es.length))
    | some _, none => (mkAt s.h h).map fun ks => ((s.ev x).gc, s, .c (.int .i64 ks.length))
    | _, _ => none
  | _ => none
def implO (P : Program) (ho : Nat → Bool) (s : AS) (op : Op) : Option (Prop × AS × AV) :=
  match op with
  | .alloc t => (zeroT P t).map fun z => (True, s.push (.o .box (z.map .c)), .ptr s.h.length 0 z.length)
  | .box _ x => if okV (s.ev x).ung then some ((s.ev x).gc, s.push (.o .box (s.ev x).ung.cells), .ptr s.h.length 0 (s.ev x).ung.cells.length) else none
  | .buildSlice t len parts => match slT P t with
    | some (e, sz, _) => match zeroT P e, partsV s (fun i => some (i * sz, sz)) parts.toList with
      | some z, some l => (fillV (rowZ len z) l).map fun cs => (gcsV s parts.toList ∧ 0 < sz ∧ z.length = sz ∧ len * sz ≤ 16777216, s.push (.o (.row e sz) cs), .sl s.h.length sz 0 len (len * sz))
      | _, _ => none
    | _ => none
  | .makeSlice t l c => match slT P t, (s.ev l).ung, (s.ev c).ung with
    | some (e, sz, by_), .c (.int _ n), .c (.int _ m) => (zeroT P e).map fun z =>
        ((s.ev l).gc ∧ (s.ev c).gc ∧ 0 ≤ n ∧ n ≤ m ∧ (by_ : Int) * m ≤ 281474976710656 ∧ m ≤ 9223372036854775807 ∧ 0 < sz ∧ z.length = sz, s.push (.o (.row e sz) (rowZ n.toNat z)), .sl s.h.length sz 0 n.toNat (n.toNat * sz))
    | _, _, _ => none
  | .store t x y => (storeAV P ho s t (s.ev x).ung (s.ev y).ung).map fun p => ((s.ev x).gc ∧ (s.ev y).gc ∧ p.1, p.2, .any)
  | .call c => match c.callee, c.args.toList, c.argTypes.toList with
    | .builtin .append, [x, y], [t, tx] => if isIntT P tx = true then (appZ P ho s t (s.ev x).ungs (s.ev y).ung).map fun p => ((s.ev x).gc ∧ (s.ev y).gc ∧ p.1, p.2) else (appV P ho s t tx (s.ev x).ungs (s.ev y).ung).map fun p => ((s.ev x).gc ∧ (s.ev y).gc ∧ p.1, p.2)
    | .builtin .copy, [x, y], [t, tx] => if isStrT P tx || (slT P tx).isSome then (copyV P ho s t tx (s.ev x).ung (s.ev y).ung).map fun p => ((s.ev x).gc ∧ (s.ev y).gc ∧ p.1, p.2) else none
    | .builtin .len, [x], [t] => lenM P s t x (s.ev x).ung
    | .builtin .clear, [x], [t] => (clearV P ho s t (s.ev x).ung).map fun p => ((s.ev x).gc ∧ p.1, p.2)
    | .value f, [x, y], _ => ovlV P s x y (s.ev f)
    | _, _, _ => none
  | .convert src dst x => match (s.ev x).ung with
    | .c (.string b) => match slT P dst with
      | some (e, 1, _) => if isStrT P src && intT P e == some .u8 then some ((s.ev x).gc ∧ b.size ≤ 9223372036854775807, s, .fs 1 b.size (u8av b.data.toList)) else none
      | _ => none
    | .sl k 1 0 n m => match slT P dst, s.h[k]? with
      | some (e, 1, _), some (.o (.row e' 1) cs) => if src = dst ∧ intT P e = some .u8 ∧ ho k = false then some ((s.ev x).gc ∧ cs.length = m ∧ n = m ∧ 0 < n ∧ cs.all isD = true, s.setO k (.o .fz cs), .fs 1 n cs) else none
      | _, _ => none
    | _ => none
  | .range t x => match (s.ev x).ung with
    | .c (.string b) => if isStrT P t then some ((s.ev x).gc, s.push (.raw (.it b 0)), .ptr s.h.length 0 0) else none
    | _ => none
  | .makeMap t none => match mapT P t with
    | some (k, _) => if isStrT P k then some (True, s.push (.raw (.ms [])), .mref s.h.length) else some (True, s.push (.raw (.mk [])), .mref s.h.length)
    | none => none
  | .lookup t m k false => lookV P s t m k (s.ev m).ung (s.ev k).ung
  | .mapUpdate t m k v => updW P ho s t m k v (s.ev m).ung (s.ev k).ung (s.ev v).ung
  | _ => none

section
variable {P : Program} {G : Gh} {F : Nat → Prop} {w : World} {E : Env} {s : AS} {a : Act}
/-- what a step comes to -/
def Steps1 (P : Program) (E : Env) (a : Act) (w : World) (o : Sem Next) (q : AS × AV) : Prop :=
  ∃ (x : Value) (w' : World) (G' : Gh) (F' : Nat → Prop), (o.run P w = .ok (.value x) w' ∨ (o.run P w = .ok .skip w' ∧ x = undef)) ∧ Rel E G' F' q.1 a w' ∧ RepV G' (lens q.1.h) F' w' q.2 x
theorem lens_push (h : List AObj) (x : AObj) : (lens (h ++ [x]))[h.length]? = some (lnO x) := by
  simp [lens]
/-- cells that are known, in a new block -/
theorem CRel.new {kd : AKind} {cs : List AV} {cur : Array Value} (hr : Rel E G F s a w) (h : ∀ (j : Nat) (v : AV) (y : Value), cs[j]? = some v → cur[j]? = some y → RepV G (lens s.h) F w v y) (hl : cs.length ≤ cur.size) (o : Obj) (x : AObj) (n : Nat) :
    CRel (G.upd s.h.length w.heap.size n false) (lens (s.h ++ [x])) F (w.alloc o) cs cur := by
  intro j av hj
  have hlt : j < cs.length := (List.getElem?_eq_some_iff.1 hj).1
  have hlt' : j < cur.size := by omega
  exact ⟨cur[j], Array.getElem?_eq_getElem hlt', (h j av _ hj (Array.getElem?_eq_getElem hlt')).keep (Later.push G s.h x _ _ _) (fun _ h => h) fun b hb => heap_alloc_lt w o (hr.flt b hb)⟩
theorem box_step (hr : Rel E G F s a w) (ty : TypeId) (cs : List AV) (cur : Array Value) (hl : cs.length = cur.size) (h : ∀ (j : Nat) (v : AV) (y : Value), cs[j]? = some v → cur[j]? = some y → RepV G (lens s.h) F w v y) (o : Sem Next)
    (hrun : o.run P w = .ok (.value (.pointer (some ⟨w.heap.size, 0, none⟩))) (w.alloc (.cells cur ty))) : Steps1 P E a w o (s.push (.o .box cs), .ptr s.h.length 0 cs.length) := by
  obtain ⟨u1, u2, u3⟩ := upd_same G s.h.length w.heap.size cs.length false
  refine ⟨_, _, G.upd s.h.length w.heap.size cs.length false, F, .inl hrun, hr.new (.cells cur ty) (.o .box cs) _ rfl ⟨u3, by rw [u1]; exact fresh_nF hr, cur, ty, by rw [u1]; exact Blk.made w ty cur, by rw [u2]; exact hl.symm, by rw [u2], CRel.new (kd := .box) hr h (by omega) _ _ _⟩, ?_⟩
  have := RepV.ptr (G := G.upd s.h.length w.heap.size cs.length false) (F := F) (w := w.alloc (.cells cur ty)) (ln := lens (s.h ++ [.o .box cs])) s.h.length 0 cs.length (lens_push _ _) u3
  rw [u1] at this
  exact this
theorem row_step (hr : Rel E G F s a w) (e sz c n : Nat) (cs : List AV) (cur : Array Value) (hl : cs.length ≤ cur.size) (hc : cur.size = c * sz) (hm : c ≤ maxLen) (hn : n ≤ c) (hcs : cs.length = n * sz) (h : ∀ (j : Nat) (v : AV) (y : Value), cs[j]? = some v → cur[j]? = some y → RepV G (lens s.h) F w v y) (o : Sem Next)
    (hrun : o.run P w = .ok (.value (.slice (some ⟨w.heap.size, 0, none⟩) n c)) (w.alloc (.cells cur e))) : Steps1 P E a w o (s.push (.o (.row e sz) cs), .sl s.h.length sz 0 n (n * sz)) := by
  obtain ⟨u1, u2, u3⟩ := upd_same G s.h.length w.heap.size cur.size false
  refine ⟨_, _, G.upd s.h.length w.heap.size cur.size false, F, .inl hrun, hr.new (.cells cur e) (.o (.row e sz) cs) _ rfl (.inr ⟨u3, by rw [u1]; exact fresh_nF hr, cur, c, by rw [u1]; exact Blk.made w e cur, by rw [u2], by rw [u2]; exact hc, hm, by rw [u2]; exact hl, CRel.new (kd := .box) hr h hl _ _ _⟩), ?_⟩
  have := RepV.sl (G := G.upd s.h.length w.heap.size cur.size false) (F := F) (w := w.alloc (.cells cur e)) (ln := lens (s.h ++ [.o (.row e sz) cs])) s.h.length sz 0 n (n * sz) c (by rw [lens_push]; simp [lnO, hcs]) u3 hn hm (by rw [u2, hc]; omega)
  rw [u1] at this
  exact this
theorem zeroT_inv {t : TypeId} {z : List Value} (h : zeroT P t = some z) : ∃ i v, P.info? t = some i ∧ i.zero = some v ∧ z = v.cells.toList := by
  unfold zeroT at h
  rw [Option.bind_eq_some_iff] at h
  obtain ⟨it, hit, hz⟩ := h
  rw [Option.map_eq_some_iff] at hz
  obtain ⟨zv, hzv, rfl⟩ := hz
  exact ⟨it, zv, hit, hzv, rfl⟩
theorem Value.cells_self (v : Value) : v.cells.toList.toArray = v.cells := by simp
theorem alloc_sound (hr : Rel E G F s a w) {t : TypeId} {z : List Value} (hz : zeroT P t = some z) (o : Oper) (ho : o.op = .alloc t) : Steps1 P E a w (execOp a.eval o) (s.push (.o .box (z.map .c)), .ptr s.h.length 0 z.length) := by
  obtain ⟨i, v, h1, h2, rfl⟩ := zeroT_inv hz
  have := box_step (P := P) hr t (v.cells.toList.map .c) v.cells (by simp) zero_crel (execOp a.eval o) (by simp [execOp, ho, Instr.alloc, zeroValue, typeInfo, h1, h2, newVar, newRow])
  simpa using this
theorem newbox_sound (hr : Rel E G F s a w) {t : TypeId} {x : Operand} (hok : okV (s.ev x).ung = true) (hg : (s.ev x).gc) (o : Oper) (ho : o.op = .box t x) :
    Steps1 P E a w (execOp a.eval o) (s.push (.o .box (s.ev x).ung.cells), .ptr s.h.length 0 (s.ev x).ung.cells.length) := by
  obtain ⟨h1, h2⟩ := okV_cells hok ((hr.ev x).ung hg)
  exact box_step hr t _ (a.eval x).cells h1 h2 _ (by simp [execOp, ho, Instr.box, newVar, newRow])
theorem rowZ_length (n : Nat) (z : List Value) : (rowZ n z).length = n * z.length := by
  induction n with
  | zero => simp [rowZ]
  | succ n ih => simp only [rowZ, List.replicate_succ, List.flatten_cons, List.length_append, List.length_map] at ih ⊢; rw [ih, Nat.succ_mul]; omega
theorem rowZ_at (n : Nat) (z : List Value) : ∀ (j : Nat) (v : AV), (rowZ n z)[j]? = some v → ∃ u, z[j % z.length]? = some u ∧ v = .c u := by
  induction n with
  | zero => intro j v h; simp [rowZ] at h
  | succ n ih =>
    intro j v h
    have e : rowZ (n + 1) z = z.map .c ++ rowZ n z := by simp [rowZ, List.replicate_succ]
    rw [e] at h
    by_cases hj : j < z.length
    · rw [List.getElem?_append_left (by simpa using hj), List.getElem?_map, Option.map_eq_some_iff] at h
      obtain ⟨u, hu, rfl⟩ := h
      exact ⟨u, by rw [Nat.mod_eq_of_lt hj]; exact hu, rfl⟩
    · rw [List.getElem?_append_right (by simp; omega)] at h
      simp only [List.length_map] at h
      obtain ⟨u, hu, rfl⟩ := ih _ _ h
      exact ⟨u, by rw [Nat.mod_eq_sub_mod (by omega)]; exact hu, rfl⟩
theorem made_crel {z : Array Value} {ln : List Nat} {n N : Nat} (hz : 0 < z.size) (j : Nat) (v : AV) (y : Value) (hv : (rowZ n z.toList)[j]? = some v) (hy : ((Array.range N).map (z[· % z.size]!))[j]? = some y) : RepV G ln F w v y := by
  obtain ⟨u, hu, rfl⟩ := rowZ_at _ _ _ _ hv
  rw [Array.getElem?_map, Option.map_eq_some_iff] at hy
  obtain ⟨j', hj', rfl⟩ := hy
  have : j' = j := by
    by_cases h : j < N
    · simp [h] at hj'; exact hj'.symm
    · rw [Array.getElem?_eq_none (by simp; omega)] at hj'; cases hj'
  subst this
  simp only [Array.length_toList] at hu
  have hlt : j' % z.size < z.size := Nat.mod_lt _ hz
  rw [Array.getElem?_toList, Array.getElem?_eq_getElem hlt] at hu
  injection hu with hu
  have : z[j' % z.size]! = u := by simp [hlt, hu]
  rw [this]
  exact .cc _
theorem buildSlice_sound (hr : Rel E G F s a w) {t : TypeId} {len : Nat} {parts : Array (Nat × Operand)} {e sz by_ : Nat} {z : List Value} {l : List (Nat × Nat × AV)} {cs : List AV} (h1 : slT P t = some (e, sz, by_)) (h2 : zeroT P e = some z)
    (h3 : partsV s (fun i => some (i * sz, sz)) parts.toList = some l) (h4 : fillV (rowZ len z) l = some cs) (hs : gcsV s parts.toList ∧ 0 < sz ∧ z.length = sz ∧ len * sz ≤ 16777216) (o : Oper) (ho : o.op = .buildSlice t len parts) :
    Steps1 P E a w (execOp a.eval o) (s.push (.o (.row e sz) cs), .sl s.h.length sz 0 len (len * sz)) := by
  obtain ⟨g1, g2, g3, g4⟩ := hs
  obtain ⟨ti, i1, i2, i3, i4⟩ := slT_inv h1
  simp only at i1 i2 i3
  obtain ⟨i', v, k1, k2, rfl⟩ := zeroT_inv h2
  rw [i2] at k1; injection k1 with k1; subst k1
  have hvs : v.cells.size = sz := by simpa using g3
  obtain ⟨cells', f1, f2, f3⟩ := fill_sound (fun i => some (i * sz, sz)) a.eval hr.ev parts.toList l _ cs ((Array.range (len * sz)).map (v.cells[· % v.cells.size]!)) h3 g1 h4 (by rw [rowZ_length]; simp [hvs]) (fun j v' y hv hy => made_crel (by omega) j v' y hv hy)
  have hsz : cells'.size = len * sz := by
    have : ∀ (l : List (Nat × Nat × AV)) (Z Z' : List AV), fillV Z l = some Z' → Z'.length = Z.length := by
      intro l
      induction l with
      | nil => intro Z Z' h; simp [fillV] at h; rw [h]
      | cons p r ih =>
        obtain ⟨off, z, v⟩ := p
        intro Z Z' h
        simp only [fillV] at h
        split at h
        · rename_i hc
          rw [ih _ _ h]
          simp
          omega
        · cases h
    have := this l _ _ h4
    rw [rowZ_length, g3] at this
    omega
  have hlen : len ≤ 16777216 := by
    rcases Nat.lt_or_ge 16777216 len with h | h
    · have : len * 1 ≤ len * sz := Nat.mul_le_mul_left _ g2
      omega
    · exact h
  refine row_step hr e sz len len cs cells' (by omega) hsz (by unfold maxLen; omega) (Nat.le_refl _) (by omega) f3 _ ?_
  have hf : Instr.fill (fun i => some (i * ti.size, ti.size)) ((Array.range (len * ti.size)).map (v.cells[· % v.cells.size]!)) (parts.map fun (p : Nat × Operand) => (p.1, a.eval p.2)).toList = some cells' := by rw [i3]; simpa using f1
  by_cases hz : len * sz = 0
  · have hl0 : len = 0 := by
      rcases Nat.mul_eq_zero.1 hz with h | h
      · exact h
      · omega
    subst hl0
    rw [i3] at hf
    simp only [Nat.zero_mul, Array.range_zero', Array.map_empty] at hf
    have hf' : Instr.fill (fun i => some (i * sz, sz)) #[] (parts.map fun (p : Nat × Operand) => (p.1, a.eval p.2)).toList = some cells' := by simpa using hf
    simp [execOp, ho, Instr.buildSlice, run_underlying i1, sizeOf, typeInfo, i2, i3, newRow]
    rw [show (List.map (fun x => (x.1, a.eval x.2)) parts.toList) = (parts.map fun (p : Nat × Operand) => (p.1, a.eval p.2)).toList by simp, show (Array.map (fun x => (default : Value)) (Array.range 0)) = #[] by simp [Array.range_zero'], hf']
    rfl
  · have := run_buildSlice (P := P) w t e len (parts.map fun p => (p.1, a.eval p.2)) cells' ti v i1 i2 k2 (by rw [i3]; omega) (by rw [i3]; exact hz) hf
    simp [execOp, ho]
    rw [this]
    rfl
theorem makeSlice_sound (hr : Rel E G F s a w) {t : TypeId} {x y : Operand} {k k' : IntKind} {n m : Int} {e sz by_ : Nat} {z : List Value} (h1 : slT P t = some (e, sz, by_)) (h2 : zeroT P e = some z) (hx : a.eval x = .int k n) (hy : a.eval y = .int k' m)
    (hs : 0 ≤ n ∧ n ≤ m ∧ (by_ : Int) * m ≤ 281474976710656 ∧ m ≤ 9223372036854775807 ∧ 0 < sz ∧ z.length = sz) (o : Oper) (ho : o.op = .makeSlice t x y) :
    Steps1 P E a w (execOp a.eval o) (s.push (.o (.row e sz) (rowZ n.toNat z)), .sl s.h.length sz 0 n.toNat (n.toNat * sz)) := by
  obtain ⟨g1, g2, g3, g4, g5, g6⟩ := hs
  obtain ⟨ti, i1, i2, i3, i4⟩ := slT_inv h1
  simp only at i1 i2 i3 i4
  obtain ⟨i', v, k1, k2, rfl⟩ := zeroT_inv h2
  rw [i2] at k1; injection k1 with k1; subst k1
  have hvs : v.cells.size = sz := by simpa using g6
  have hle : n.toNat * sz ≤ m.toNat * sz := Nat.mul_le_mul_right _ (by omega)
  refine row_step hr e sz m.toNat n.toNat _ (madeCells v.cells (m.toNat * ti.size)) (by rw [rowZ_length, size_madeCells, i3]; simp [hvs]; exact hle) (by rw [size_madeCells, i3]) (by unfold maxLen; omega) (by omega) (by rw [rowZ_length]; simp [hvs])
    (fun j v' y hv hy => made_crel (by omega) j v' y hv hy) _ ?_
  simp [execOp, ho, hx, hy]
  rw [run_make w t e ti v i1 i2 k2 k k' n m g1 g2 (by rw [i4]; exact g3) g4]
  rfl
theorem setRow_blk {g : Nat} {t : TypeId} {cur cs : Array Value} (hb : Blk w g t cur) : Blk (w.setRow g cs) g t cs := setRow_heap w g cur cs t (0, 0) hb
theorem crel_spl {G' : Gh} {ln' : List Nat} {w' : World} {cs : List AV} {l : List AV} {cur : Array Value} {vs : List Value} {off : Nat} (h : CRel G' ln' F w' cs cur) (hl : l.length = vs.length) (hoff : off + l.length ≤ cur.size) (hoc : off ≤ cs.length)
    (hv : ∀ (j : Nat) (v : AV) (y : Value), l[j]? = some v → vs[j]? = some y → RepV G' ln' F w' v y) : CRel G' ln' F w' (cs.take off ++ l ++ cs.drop (off + l.length)) (spl cur off vs) := by
  intro j av hj
  rw [spl_at cur off vs (by omega)]
  by_cases h1 : j < off
  · rw [if_pos h1]
    rw [List.append_assoc, List.getElem?_append_left (by simp; omega), List.getElem?_take, if_pos h1] at hj
    exact h j av hj
  · rw [if_neg h1]
    by_cases h2 : j < off + vs.length
    · rw [if_pos h2]
      rw [List.append_assoc, List.getElem?_append_right (by simp; omega), List.getElem?_append_left (by simp; omega)] at hj
      have e : j - (cs.take off).length = j - off := by simp; omega
      rw [e] at hj
      have hlt : j - off < vs.length := by omega
      exact ⟨vs[j - off], List.getElem?_eq_getElem hlt, hv _ _ _ hj (List.getElem?_eq_getElem hlt)⟩
    · rw [if_neg h2]
      rw [List.getElem?_append_right (by simp; omega), List.getElem?_drop] at hj
      have e : off + l.length + (j - (cs.take off ++ l).length) = j := by simp; omega
      rw [e] at hj
      exact h j av hj
/-- cells of a solid block of the call's own are written over -/
theorem Rel.write (hr : Rel E G F s a w) {k : Nat} {kd : AKind} {cs : List AV} (hk : s.h[k]? = some (.o kd cs)) (hho : E.ho k = false) (hf : fzO (.o kd cs) = false) (hv : G.vir k = false) (off : Nat) (l : List AV) (vs : List Value) (hl : l.length = vs.length)
    (hoff : off + l.length ≤ cs.length) (hrep : ∀ (j : Nat) (v : AV) (y : Value), l[j]? = some v → vs[j]? = some y → RepV G (lens s.h) F w v y) :
    ∃ cur ty, Blk w (G.σ k) ty cur ∧ cs.length ≤ cur.size ∧ Rel E (G.upd k (G.σ k) (G.bs k) false) F (s.setO k (.o kd (cs.take off ++ l ++ cs.drop (off + l.length)))) a (w.setRow (G.σ k) (spl cur off vs)) := by
  have hlen : (cs.take off ++ l ++ cs.drop (off + l.length)).length = cs.length := by simp; omega
  have hl2 := Later.set (y := .o kd (cs.take off ++ l ++ cs.drop (off + l.length))) G hk (G.σ k) (G.bs k) (.inl ⟨hlen, rfl, rfl, hv⟩)
  have hob := hr.heap.obj k _ hk
  obtain ⟨u1, u2, u3⟩ := upd_same G k (G.σ k) (G.bs k) false
  have other : ∀ {cur : Array Value}, ∀ c, c < w.heap.size → c ≠ G.σ k → (w.setRow (G.σ k) (spl cur off vs)).heap[c]? = w.heap[c]? := fun c _ hc => setRow_other w _ c _ hc
  have hm : ∀ {cur : Array Value}, (w.setRow (G.σ k) (spl cur off vs)).os = w.os ∧ (w.setRow (G.σ k) (spl cur off vs)).tape = w.tape ∧ (w.setRow (G.σ k) (spl cur off vs)).output = w.output ∧ w.heap.size ≤ (w.setRow (G.σ k) (spl cur off vs)).heap.size := ⟨rfl, rfl, rfl, by simp⟩
  cases kd with
  | box =>
    obtain ⟨_, hnF, cur, ty, h1, h2, h3, h4⟩ := hob
    refine ⟨cur, ty, h1, by omega, hr.turn hk hho rfl rfl hl2 other hm (.inl ⟨rfl, hv⟩) fun keepF hnF => ?_⟩
    refine ⟨u3, by rw [u1]; exact hnF, spl cur off vs, ty, by rw [u1]; exact setRow_blk h1, by rw [u2, spl_size _ _ _ (by omega)]; exact h2, by rw [u2, hlen]; exact h3, ?_⟩
    exact crel_spl (h4.keep hl2 (fun _ h => h) keepF) hl (by omega) (by omega) fun j v y e1 e2 => (hrep j v y e1 e2).keep hl2 (fun _ h => h) keepF
  | row e sz =>
    rcases hob with ⟨h0, _⟩ | ⟨_, hnF, cur, c, h1, h2, h3, h4, h5, h6⟩
    · rw [hv] at h0; cases h0
    · refine ⟨cur, e, h1, by omega, hr.turn hk hho rfl rfl hl2 other hm (.inl ⟨rfl, hv⟩) fun keepF hnF => ?_⟩
      refine .inr ⟨u3, by rw [u1]; exact hnF, spl cur off vs, c, by rw [u1]; exact setRow_blk h1, by rw [u2, spl_size _ _ _ (by omega)]; exact h2, by rw [u2]; exact h3, h4, by rw [u2, hlen]; exact h5, ?_⟩
      exact crel_spl (h6.keep hl2 (fun _ h => h) keepF) hl (by omega) (by omega) fun j v y e1 e2 => (hrep j v y e1 e2).keep hl2 (fun _ h => h) keepF
  | fz => cases hf
theorem isD_rep {G : Gh} {ln : List Nat} {F : Nat → Prop} {w : World} {av : AV} {x : Value} (h : isD av = true) (hr : RepV G ln F w av x) : RepD F w av x := by
  cases av with
  | c v => rw [hr.c_inv]; exact .c v
  | fs sz n l => exact fs_inv hr
  | _ => cases h
/-- a row of the call's own is data from now on -/
theorem Rel.frz (hr : Rel E G F s a w) {k e sz : Nat} {cs : List AV} (hk : s.h[k]? = some (.o (.row e sz) cs)) (hho : E.ho k = false) (hv : G.vir k = false) {w' : World} {cur : Array Value} {ty : TypeId} {fr fr' : Nat × Nat} (hb : w.heap[G.σ k]? = some (.cells cur ty fr))
    (hb' : w'.heap[G.σ k]? = some (.cells cur ty fr')) (hw : ∀ c, c ≠ G.σ k → w'.heap[c]? = w.heap[c]?) (hm : w'.os = w.os ∧ w'.tape = w.tape ∧ w'.output = w.output ∧ w.heap.size ≤ w'.heap.size) : Rel E G (fun b => F b ∨ b = G.σ k) (s.setO k (.o .fz cs)) a w' := by
  have hklt : k < s.h.length := (List.getElem?_eq_some_iff.1 hk).1
  have hlen : lens (s.h.set k (.o .fz cs)) = lens s.h := by
    apply List.ext_getElem?
    intro j
    simp only [lens, List.getElem?_map, List.getElem?_set]
    by_cases ej : k = j
    · subst ej; rw [if_pos rfl, if_pos hklt, hk]; rfl
    · rw [if_neg ej]
  have hne : ∀ b, F b → b ≠ G.σ k := fun b hb e => hr.heap.nfz hk hv rfl (e ▸ hb)
  have hF : ∀ b, F b → w'.heap[b]? = w.heap[b]? := fun b hb => hw b (hne b hb)
  have hF' : ∀ b, F b → F b ∨ b = G.σ k := fun b h => .inl h
  have hget : ∀ {j z}, (s.h.set k (.o .fz cs))[j]? = some z → (j = k ∧ z = .o .fz cs) ∨ (j ≠ k ∧ s.h[j]? = some z) := fun {j z} hj => by
    rw [List.getElem?_set] at hj
    by_cases e : k = j
    · subst e
      rw [if_pos rfl, if_pos hklt] at hj
      injection hj with hj
      exact .inl ⟨rfl, hj.symm⟩
    · rw [if_neg e] at hj
      exact .inr ⟨fun e' => e e'.symm, hj⟩
  have hoth : ∀ {j z}, j ≠ k → s.h[j]? = some z → G.vir j = false → G.σ j ≠ G.σ k := fun {j z} hj hz hvj e => by
    by_cases hf : fzO z = false
    · exact hj (hr.heap.inj j k z _ hz hk hvj hv hf rfl e)
    · have hob := hr.heap.obj j z hz
      cases z with
      | raw s => exact hf rfl
      | o kd cs' =>
        cases kd with
        | box => exact hf rfl
        | row e sz => exact hf rfl
        | fz =>
          rcases hob with ⟨h0, _⟩ | ⟨_, h0, _⟩
          · rw [hvj] at h0; cases h0
          · exact hne _ h0 e
  have hlater : Later G G (lens s.h) (lens (s.h.set k (.o .fz cs))) := by rw [hlen]; exact Later.refl _ _
  have hob := hr.heap.obj k _ hk
  have hnD : ∀ {D : Nat}, w.heap[D]? = some (.deferred (some [])) → D ≠ G.σ k := fun {D} e2 e => by subst e; rw [hb] at e2; cases e2
  refine ⟨hr.len, hr.def0.keep (fun D e1 e2 => ⟨fun h => h.elim e1 (hnD e2), hw D (hnD e2)⟩), fun i av v e1 e2 => (hr.slot i av v e1 e2).keep hlater hF' hF, ⟨fun j z hj => ?_, fun i j z z' hi hj vi vj fi fj he => ?_⟩, ?_, fun j z hj hvj hf hhj => ?_, fun b hb => ?_, fun b hb => .inl (hr.f0 b hb), hr.fc.more hF' hF fun b hb => ?_, by rw [show lens (s.setO k (.o .fz cs)).h = lens s.h from hlen]; exact hr.lat⟩
  · rcases hget hj with ⟨rfl, rfl⟩ | ⟨hne', hj⟩
    · rcases hob with ⟨h0, _⟩ | ⟨_, _, cur2, c, h1, h2, h3, h4, h5, h6⟩
      · rw [hv] at h0; cases h0
      · have h1 : w.heap[G.σ j]? = _ := h1
        rw [hb] at h1
        injection h1 with h1
        injection h1 with e1 e2 e3
        subst e1
        exact .inr ⟨hv, .inr rfl, cur, ty, fr', hb', h2, by omega, h6.keep hlater hF' hF⟩
    · exact (hr.heap.obj j z hj).keep hlater hF' hF ⟨rfl, rfl, rfl⟩ (fun hvj => hw _ (hoth hne' hj hvj)) fun hvj hfj h => h.elim (hr.heap.nfz hj hvj hfj) fun e => hoth hne' hj hvj e
  · have fzk : ∀ {i z}, (s.h.set k (.o .fz cs))[i]? = some z → fzO z = false → s.h[i]? = some z := fun {i z} hi hf => by
      rcases hget hi with ⟨rfl, rfl⟩ | ⟨_, h⟩
      · cases hf
      · exact h
    exact hr.heap.inj i j z z' (fzk hi fi) (fzk hj fj) vi vj fi fj he
  · refine ⟨hm.1.trans hr.mod.os, hm.2.1.trans hr.mod.tape, hm.2.2.1.trans hr.mod.output, Nat.le_trans hr.mod.size hm.2.2.2, fun c hc hn => ?_⟩
    rw [hw c fun e => ?_]
    · exact hr.mod.block c hc hn
    · subst e
      rcases hr.sup k _ hk hv rfl hho with h1 | h1
      · exact hn h1
      · omega
  · rcases hget hj with ⟨rfl, rfl⟩ | ⟨_, hj⟩
    · cases hf
    · exact hr.sup j z hj hvj hf hhj
  · rcases hb with hb | rfl
    · exact hr.fsup b hb
    · rcases hr.sup k _ hk hv rfl hho with h1 | h1
      · exact .inr (.inl h1)
      · exact .inr (.inr h1)
  · rcases hb with hb | rfl
    · exact hr.fc.keep hF b hb
    · exact ⟨_, _, _, hb'⟩
theorem allCell {l : List AV} (h : l.all isCell = true) {vs : List Value} {ln : List Nat} (hl : l.length = vs.length) (hrep : ∀ (j : Nat) (v : AV) (y : Value), l[j]? = some v → vs[j]? = some y → RepV G ln F w v y) : ∀ u ∈ vs, u.oneCell' = true := by
  intro u hu
  obtain ⟨j, hj, rfl⟩ := List.mem_iff_getElem.1 hu
  have hj' : j < l.length := by omega
  exact isCell_one (List.all_eq_true.1 h _ (List.getElem_mem hj')) (hrep j _ _ (List.getElem?_eq_getElem hj') (List.getElem?_eq_getElem hj))
theorem store_sound (hr : Rel E G F s a w) {t : TypeId} {x y : Operand} {q : Prop × AS} (hq : storeAV P E.ho s t (s.ev x).ung (s.ev y).ung = some q) (hgx : (s.ev x).gc) (hgy : (s.ev y).gc) (hs : q.1) (o : Oper) (ho : o.op = .store t x y) :
    Steps1 P E a w (execOp a.eval o) (q.2, .any) := by
  unfold storeAV at hq
  split at hq
  · rename_i k off m sz ag e1 e2
    split at hq
    · rename_i kd cs hk
      split at hq
      · rename_i hf
        injection hq with hq; subst hq
        obtain ⟨g1, g2, g3, g4, g5⟩ := hs
        have hx := (hr.ev x).ung hgx
        have hy := (hr.ev y).ung hgy
        rw [e1] at hx
        have hln : (lens s.h)[k]? = some m := by simp [lens, List.getElem?_map, hk, lnO, g4]
        obtain ⟨hv, hxe⟩ := ptr_inv hx hln
        obtain ⟨c1, c2⟩ := okV_cells g1 hy
        have hl : (s.ev y).ung.cells.length = (a.eval y).cells.toList.length := by simpa using c1
        have hrep : ∀ (j : Nat) (v : AV) (z : Value), (s.ev y).ung.cells[j]? = some v → (a.eval y).cells.toList[j]? = some z → RepV G (lens s.h) F w v z := fun j v z e1 e2 => c2 j v z e1 (by simpa using e2)
        obtain ⟨cur, ty, hb, hcur, hR⟩ := hr.write hk hf.2 hf.1 hv off _ _ hl (by omega) hrep
        obtain ⟨i, d, t1, t2, t3, t4⟩ := tyT_inv e2
        have hrun := run_storeN (P := P) w t i t1 (G.σ k) off ty cur hb (a.eval y) (by rw [t2]; simp at hl; omega) (allCell g2 hl hrep) (by omega)
        have hrun2 : (execOp a.eval o).run P w = .ok .skip (w.setRow (G.σ k) (spl cur off (a.eval y).cells.toList)) := by
          simp [execOp, ho, Instr.storeAt, Instr.sureAddr, hxe, hrun]
        rw [g3] at hR
        exact ⟨undef, w.setRow (G.σ k) (spl cur off (a.eval y).cells.toList), G.upd k (G.σ k) (G.bs k) false, F, .inr ⟨hrun2, rfl⟩, hR, .any _⟩
      · cases hq
    · cases hq
  · cases hq
theorem src_of {h : List AObj} {sz n c : Nat} {A : Option Addr} {tx e' : TypeId} (hk : P.underlying tx = some (.slice e') ∨ P.underlying tx = some .string) {l : List AV} (hc : l.all isCell = true) (h1 : l.length = n * sz)
    (f : Nat → Value) (h2 : 0 < n → ∃ b o, A = some ⟨b, o, none⟩ ∧ ∀ j, j < l.length → w.cell? ⟨b, o + j, none⟩ = some (f j)) (h3 : ∀ (j : Nat) (u : AV), l[j]? = some u → RepV G (lens h) F w u (f j)) :
    ∃ news, Src P sz tx (.slice A n c) n news w ∧ (∀ k, k ≤ n → (Builtin.firstCells sz k (.slice A n c)).run P w = .ok (news.take (k * sz)).toArray w) ∧ l.length = news.length ∧ ∀ (j : Nat) (v : AV) (y : Value), l[j]? = some v → news[j]? = some y → RepV G (lens h) F w v y := by
  have hk' : (∃ e', P.underlying tx = some (.slice e')) ∨ P.underlying tx = some .string := hk.imp (fun h => ⟨_, h⟩) id
  rcases Nat.eq_zero_or_pos n with h0 | h0
  · subst h0
    have : l = [] := List.eq_nil_of_length_eq_zero (by simpa using h1)
    subst this
    refine ⟨[], ⟨hk', fun _ => rfl, ?_, ?_, by simp, fun _ h => by cases h⟩, fun k hk => ?_, rfl, fun j v y h => by simp at h⟩
    · cases A <;> simp [Builtin.firstCells, loadCells, loadCellsFrom]
    rotate_left
    · have : k = 0 := by omega
      subst this
      cases A <;> simp [Builtin.firstCells, loadCells, loadCellsFrom]
    · cases A <;> simp [Builtin.firstCells, loadCells, loadCellsFrom]
  · obtain ⟨b, o, rfl, hcell⟩ := h2 h0
    have hrep : ∀ (j : Nat) (v : AV) (y : Value), l[j]? = some v → ((List.range l.length).map f)[j]? = some y → RepV G (lens h) F w v y := fun j v y hv hy => by
      have hj : j < l.length := (List.getElem?_eq_some_iff.1 hv).1
      have : y = f j := by simpa [hj] using hy.symm
      subst this
      exact h3 j v hv
    have hcells : ∀ j u, ((List.range l.length).map f)[j]? = some u → w.cell? ((⟨b, o, none⟩ : Addr).add j) = some u := fun j u hu => by
      by_cases hj : j < l.length
      · have : u = f j := by simpa [hj] using hu.symm
        subst this
        rw [addE]
        exact hcell j hj
      · rw [List.getElem?_eq_none (by simp; omega)] at hu; cases hu
    refine ⟨(List.range l.length).map f, ⟨hk', fun _ => rfl, run_firstCells_some w sz n _ n c _ (by simp [h1]) hcells, run_firstCells_some w.drew sz n _ n c _ (by simp [h1]) hcells, by simp [h1], allCell hc (by simp) hrep⟩, fun k hk => run_firstCells_some w sz k _ n c _ (by
      have : k * sz ≤ n * sz := Nat.mul_le_mul_right _ hk
      rw [List.length_take, List.length_map, List.length_range, h1]; omega) (fun j u hu => hcells j u (by
      rw [List.getElem?_take] at hu
      split at hu
      · exact hu
      · cases hu)), by simp, hrep⟩
theorem srcV_sound {h : List AObj} {sz : Nat} {u : AV} {p : Nat × List AV} {x : Value} {tx : TypeId} (hh : HRel G F h w) (hq : srcV anyRo h sz u = some p) (hc : p.2.all isCell = true) (ht : (isStrT P tx || (slT P tx).isSome) = true) (hx : RepV G (lens h) F w u x) :
    ∃ news, Src P sz tx x p.1 news w ∧ (∀ k, k ≤ p.1 → (Builtin.firstCells sz k x).run P w = .ok (news.take (k * sz)).toArray w) ∧ p.2.length = news.length ∧ ∀ (j : Nat) (v : AV) (y : Value), p.2[j]? = some v → news[j]? = some y → RepV G (lens h) F w v y := by
  obtain ⟨e', hk⟩ : ∃ e', P.underlying tx = some (.slice e') ∨ P.underlying tx = some .string := by
    by_cases hs : isStrT P tx = true
    · exact ⟨0, .inr (isStrT_inv hs)⟩
    · simp only [hs, Bool.false_or] at ht
      obtain ⟨e, he⟩ := slT_some ht
      exact ⟨e, .inl he⟩
  have hk' : (∃ e', P.underlying tx = some (.slice e')) ∨ P.underlying tx = some .string := hk.imp (fun h => ⟨_, h⟩) id
  unfold srcV at hq
  split at hq
  · rename_i b
    split at hq
    · rename_i h1
      injection hq with hq; subst hq
      subst h1
      rw [hx.c_inv]
      refine ⟨byteCells b, ⟨hk', fun _ => rfl, firstCells_string b w, firstCells_string b w.drew, by rw [byteCells_length, Nat.mul_one], fun u hu => by
        obtain ⟨_, _, rfl⟩ := List.mem_map.1 hu
        rfl⟩, fun k hk => ?_, by simp [u8av, byteCells], fun j v y hv hy => ?_⟩
      · simp [Builtin.firstCells, byteCells]
        apply Array.ext'
        simp [List.map_take]
      simp only [u8av, byteCells, List.getElem?_map, Option.map_eq_some_iff] at hv hy
      obtain ⟨c, hc1, rfl⟩ := hv
      obtain ⟨c', hc2, rfl⟩ := hy
      rw [hc1] at hc2; injection hc2 with hc2; subst hc2
      exact .cc _
    · cases hq
  · rename_i sz' n l
    split at hq
    · rename_i e
      injection hq with hq; subst hq
      subst e
      obtain ⟨A, n', c, rfl, h1, f, h2, h3⟩ := view_rd (ro := anyRo) (p := (sz', l)) hh rfl hx
      have : n' = n := by cases fs_inv hx <;> rfl
      subst this
      exact src_of hk hc h1 f (h2 w (SameOn.refl _ _ _ _ _)) h3
    · cases hq
  · rename_i k sz' off n m
    rw [Option.bind_eq_some_iff] at hq
    obtain ⟨cs, hcs, hq⟩ := hq
    split at hq
    · rename_i hcond
      obtain ⟨c1, c2, c3, c4⟩ := hcond
      injection hq with hq; subst hq
      subst c4
      obtain ⟨A, n', c, rfl, h1, f, h2, h3⟩ := view_rd (ro := anyRo) (p := (sz', (cs.drop off).take (n * sz'))) hh (by simp only [viewS, hcs, Option.bind_some]; rw [if_pos ⟨c1, c2, c3⟩]) hx
      obtain ⟨kd, hkd, hln⟩ := cellsH_at hcs
      have : n' = n := by
        rcases sl_inv hx (by rw [hln, c1]) with ⟨_, _, e, _, e2⟩ | ⟨_, c', e, _⟩
        · injection e2 with _ e2 _; omega
        · injection e with _ e _
      subst this
      exact src_of hk hc h1 f (h2 w (SameOn.refl _ _ _ _ _)) h3
    · cases hq
  · injection hq with hq; subst hq
    rw [hx.c_inv]
    exact src_of hk hc (by simp) (fun _ => undef) (fun h => absurd h (by omega)) fun j u hu => by simp at hu
  · cases hq
theorem runw {s : Sem Value} {x : Value} {w w' : World} (hs : s.run P w = .ok x w') : (do pure (Next.value (← s)) : Sem Next).run P w = .ok (.value x) w' := by
  simp [Sem.run_bind, hs]
theorem run_copy_src {dT tx e sz : Nat} {i : TypeInfo} (hu : P.underlying dT = some (.slice e)) (hi : P.info? e = some i) (hs : i.size = sz) {g off n c cnt : Nat} {x : Value} {news : List Value} (hsrc : Src P sz tx x cnt news w) (hfc0 : ∀ k, k ≤ cnt → (Builtin.firstCells sz k x).run P w = .ok (news.take (k * sz)).toArray w) {t : TypeId} {cur : Array Value} (hb : Blk w g t cur)
    (hf : off + (news.take (n * sz)).length ≤ cur.size) (ty : TypeId) : (Builtin.copy_ #[dT, tx] ty #[.slice (some ⟨g, off, none⟩) n c, x]).run P w = .ok (.int .i64 (min cnt n : Nat)) (w.setRow g (spl cur off (news.take (n * sz)))) := by
  have hone : ∀ u ∈ news.take (n * sz), u.oneCell' = true := fun u hu => hsrc.one u (List.mem_of_mem_take hu)
  have hst := run_storeCells_at P g off t (news.take (n * sz)) 0 cur w hb (by omega) hone
  simp only [Nat.add_zero] at hst
  have hfc : (Builtin.firstCells sz (Nat.min cnt n) x).run P w = .ok (news.take (n * sz)).toArray w := by
    rw [hfc0 _ (Nat.min_le_left _ _)]
    congr 2
    have hl := hsrc.newsLen
    rcases Nat.le_total cnt n with h | h
    · have e : min cnt n = cnt := Nat.min_eq_left h
      rw [e, List.take_of_length_le (by omega), List.take_of_length_le (by rw [hl]; exact Nat.mul_le_mul_right _ h)]
    · have e : min cnt n = n := Nat.min_eq_right h
      rw [e]
  simp [Builtin.copy_, run_underlying hu, hsrc.len, sizeOf, typeInfo, hi, hs, hfc, hst, spl, goInt]
theorem all_take {l : List AV} {n : Nat} (h : l.all isCell = true) : (l.take n).all isCell = true := List.all_eq_true.2 fun u hu => List.all_eq_true.1 h u (List.mem_of_mem_take hu)
theorem copy_min {dT tx ty : TypeId} {A B : Option Addr} {n c n' c' : Nat} : (Builtin.copy_ #[dT, tx] ty #[.slice A n c, .slice B (min n' n) c']).run P w = (Builtin.copy_ #[dT, tx] ty #[.slice A n c, .slice B n' c']).run P w := by
  have e : min (min n' n) n = min n' n := by rw [Nat.min_assoc, Nat.min_self]
  have e4 : ∀ a b : Nat, Nat.min a b = min a b := fun _ _ => rfl
  cases B <;> simp [Builtin.copy_, Builtin.lenOf, Builtin.firstCells, e, e4]
theorem short_rep {ln : List Nat} {k n : Nat} {v : AV} {y : Value} (hy : RepV G ln F w v y) : RepV G ln F w (shortS k n v) y ∨ ∃ B n' c', y = .slice B n' c' ∧ RepV G ln F w (shortS k n v) (.slice B (min n' n) c') := by
  unfold shortS
  split
  · rename_i k' sz off n' m
    split
    · right
      cases hy with
      | d _ _ h => cases h
      | sl _ _ _ _ _ c h1 h2 h3 h4 h5 => exact ⟨_, _, _, rfl, .sl _ _ _ _ _ c h1 h2 (Nat.le_trans (Nat.min_le_left _ _) h3) h4 h5⟩
      | slNil _ _ h1 h2 => exact ⟨_, _, _, rfl, by simpa using RepV.slNil (F := F) (w := w) k' sz h1 h2⟩
      | slOld _ _ _ _ _ m' A l c h1 h2 => exact ⟨_, _, _, rfl, .slOld _ _ _ _ _ m' _ _ _ h1 h2⟩
    · exact .inl hy
  · exact .inl hy
theorem copy_sound0 (hr : Rel E G F s a w) {t tx ty : TypeId} {u v : AV} {x y : Value} {q : Prop × AS × AV} (hq : copyV P E.ho s t tx u v = some q) (hs : q.1) (ht : (isStrT P tx || (slT P tx).isSome) = true) (hx : RepV G (lens s.h) F w u x) {o : Sem Next}
    (hy' : ∀ k sz off n m c A, u = .sl k sz off n m → x = .slice A n c → RepV G (lens s.h) F w (shortS k n v) y ∧ o.run P w = (do pure (.value (← Builtin.copy_ #[t, tx] ty #[x, y])) : Sem Next).run P w) : Steps1 P E a w o q.2 := by
  unfold copyV at hq
  split at hq
  · rename_i e sz by_ k sz' off n m e1
    split at hq
    · rename_i kd cs cnt l hk hsrc
      split at hq
      · rename_i hf
        obtain ⟨hf, rfl, hho⟩ := hf
        injection hq with hq; subst hq
        obtain ⟨g1, g2, g3⟩ := hs
        have hln : (lens s.h)[k]? = some m := by simp [lens, List.getElem?_map, hk, lnO, g1]
        obtain ⟨ti, i1, i2, i3, i4⟩ := slT_inv e1
        simp only at i1 i2 i3
        rcases sl_inv hx hln with ⟨hv, rfl, rfl, rfl, rfl⟩ | ⟨hv, c, rfl, c1, c2, c3⟩
        · obtain ⟨hy, ho⟩ := hy' _ _ _ _ _ _ _ rfl rfl
          obtain ⟨news, h1, h2, h3, h4⟩ := srcV_sound hr.heap hsrc g3 ht hy
          simp only at h1 h2 h3 h4
          have hcs : cs = [] := List.eq_nil_of_length_eq_zero g1
          subst hcs
          have hrun : (Builtin.copy_ #[t, tx] ty #[.slice none 0 0, y]).run P w = .ok (.int .i64 (min cnt 0 : Nat)) w := by
            have hfc := h2 0 (Nat.zero_le _)
            simp only [Nat.zero_mul, List.take_zero] at hfc
            simp [Builtin.copy_, run_underlying i1, h1.len, sizeOf, typeInfo, i2, i3, hfc, goInt]
          refine ⟨_, w, G, F, .inl (ho.trans (runv hrun)), ?_, .cc _⟩
          simp only [Nat.zero_mul, List.take_zero, List.append_nil, List.drop_nil, AS.setO]
          have : s.h.set k (.o kd []) = s.h := by
            apply List.ext_getElem?
            intro j
            rw [List.getElem?_set]
            by_cases e : k = j
            · subst e
              rw [if_pos rfl, hk]
              simp [(List.getElem?_eq_some_iff.1 hk).1]
            · rw [if_neg e]
          rw [this]
          exact hr
        · obtain ⟨hy, ho⟩ := hy' _ _ _ _ _ _ _ rfl rfl
          obtain ⟨news, h1, h2, h3, h4⟩ := srcV_sound hr.heap hsrc g3 ht hy
          simp only at h1 h2 h3 h4
          have hle : (l.take (n * sz')).length ≤ n * sz' := List.length_take_le _ _
          have hrep : ∀ (j : Nat) (v : AV) (z : Value), (l.take (n * sz'))[j]? = some v → (news.take (n * sz'))[j]? = some z → RepV G (lens s.h) F w v z := fun j v z e1 e2 => by
            rw [List.getElem?_take] at e1 e2
            split at e1
            · rename_i hj
              rw [if_pos hj] at e2
              exact h4 j v z e1 e2
            · cases e1
          have hlen : (l.take (n * sz')).length = (news.take (n * sz')).length := by simp [h3]
          obtain ⟨cur, cty, hb, hcur, hR⟩ := hr.write hk hho hf hv off (l.take (n * sz')) (news.take (n * sz')) hlen (by omega) hrep
          have hrun := run_copy_src i1 i2 i3 (off := off) (c := c) h1 h2 hb (n := n) (by omega) ty
          exact ⟨_, w.setRow (G.σ k) (spl cur off (news.take (n * sz'))), G.upd k (G.σ k) (G.bs k) false, F, .inl (ho.trans (runw hrun)), hR, .cc _⟩
      · cases hq
    · cases hq
  · cases hq
theorem copy_sound (hr : Rel E G F s a w) {t tx ty : TypeId} {u v : AV} {x y : Value} {q : Prop × AS × AV} (hq : copyV P E.ho s t tx u v = some q) (hs : q.1) (ht : (isStrT P tx || (slT P tx).isSome) = true) (hx : RepV G (lens s.h) F w u x) (hy : RepV G (lens s.h) F w v y)
    (o : Sem Next) (ho : o = (do pure (.value (← Builtin.copy_ #[t, tx] ty #[x, y])))) : Steps1 P E a w o q.2 := by
  have key : ∀ (y' : Value) (o' : Sem Next), (∀ k sz off n m c A, u = .sl k sz off n m → x = .slice A n c → RepV G (lens s.h) F w (shortS k n v) y' ∧ o'.run P w = (do pure (.value (← Builtin.copy_ #[t, tx] ty #[x, y'])) : Sem Next).run P w) → Steps1 P E a w o' q.2 := by
    intro y' o' hy'
    exact copy_sound0 (ty := ty) hr hq hs ht hx (y := y') hy'
  by_cases hu : ∃ k sz off n m, u = .sl k sz off n m
  · obtain ⟨k, sz, off, n, m, rfl⟩ := hu
    rcases short_rep (k := k) (n := n) hy with h | ⟨B, n', c', rfl, h⟩
    · exact key y o fun _ _ _ _ _ c A e _ => by injection e with e1 _ _ e2 _; subst e1 e2; exact ⟨h, by rw [ho]⟩
    · exact key (.slice B (min n' n) c') o fun _ _ _ _ _ c A e ex => by
        injection e with e1 _ _ e2 _; subst e1 e2
        refine ⟨h, ?_⟩
        rw [ho, ex, Sem.run_bind, Sem.run_bind, copy_min]
  · unfold copyV at hq
    split at hq
    · exact absurd ⟨_, _, _, _, _, rfl⟩ hu
    · cases hq
theorem copy_world {b o : Nat} {ty : TypeId} {cur : Array Value} {vs : List Value} (hb : Blk w b ty cur) (hf : o + vs.length ≤ cur.size) (hone : ∀ u ∈ vs, u.oneCell' = true) : w.setCells b o vs = w.setRow b (spl cur o vs) := by
  have h1 := run_storeCells_at (default : Program) b o ty vs 0 cur w hb (by omega) hone
  have h2 := run_storeCells_cells (P := (default : Program)) b o vs 0 w (fun j hj => by rw [hb.cell]; simp; omega) (fun j hj => hb.free _) hone
  rw [h1] at h2
  injection h2 with _ h2
  simp only [Nat.add_zero] at h2
  exact h2.symm
theorem CRel.last {G' : Gh} {ln' : List Nat} {w' : World} {cs l : List AV} {vs : List Value} {cur cur' : Array Value} (h : CRel G' ln' F w' cs cur) (hl : l.length = vs.length) (hv : ∀ (j : Nat) (v : AV) (y : Value), l[j]? = some v → vs[j]? = some y → RepV G' ln' F w' v y)
    (h1 : ∀ j, j < cs.length → cur'[j]? = cur[j]?) (h2 : ∀ j, j < vs.length → cur'[cs.length + j]? = vs[j]?) : CRel G' ln' F w' (cs ++ l) cur' := by
  intro j av hj
  by_cases hlt : j < cs.length
  · rw [List.getElem?_append_left hlt] at hj
    rw [h1 j hlt]
    exact h j av hj
  · rw [List.getElem?_append_right (by omega)] at hj
    have hjl : j - cs.length < vs.length := by rw [← hl]; exact (List.getElem?_eq_some_iff.1 hj).1
    have e : cs.length + (j - cs.length) = j := by omega
    have := h2 (j - cs.length) hjl
    rw [e] at this
    rw [this]
    exact ⟨vs[j - cs.length], List.getElem?_eq_getElem hjl, hv _ _ _ hj (List.getElem?_eq_getElem hjl)⟩
theorem set_self {α : Type} {h : List α} {k : Nat} {x : α} (hk : h[k]? = some x) : h.set k x = h := by
  apply List.ext_getElem?
  intro j
  rw [List.getElem?_set]
  by_cases e : k = j
  · subst e
    rw [if_pos rfl, hk]
    simp [(List.getElem?_eq_some_iff.1 hk).1]
  · rw [if_neg e]
theorem clear_sound (hr : Rel E G F s a w) {t ty : TypeId} {u : AV} {x : Value} {q : Prop × AS × AV} (hq : clearV P E.ho s t u = some q) (hs : q.1) (hx : RepV G (lens s.h) F w u x)
    (o : Sem Next) (ho : o = (do pure (.value (← Builtin.clear_ #[t] ty #[x])))) : Steps1 P E a w o q.2 := by
  subst ho
  unfold clearV at hq
  split at hq
  · rename_i e sz by_ k sz' off n m e1
    split at hq
    · rename_i kd cs z0 hk hz
      split at hq
      · rename_i hf
        obtain ⟨hf, rfl, hho⟩ := hf
        injection hq with hq; subst hq
        obtain ⟨g1, g2, g3, g4, g5⟩ := hs
        have hln : (lens s.h)[k]? = some m := by simp [lens, List.getElem?_map, hk, lnO, g1]
        obtain ⟨ti, i1, i2, i3, i4⟩ := slT_inv e1
        simp only at i1 i2 i3
        obtain ⟨i', z, k1, k2, hz0⟩ := zeroT_inv hz
        rw [i2] at k1; injection k1 with k1; subst k1
        subst hz0
        have hzs : z.cells.size = sz' := by simpa using g4
        have hrl : (rowZ n z.cells.toList).length = n * sz' := by rw [rowZ_length]; simp [hzs]
        rcases sl_inv hx hln with ⟨hv, rfl, rfl, rfl, rfl⟩ | ⟨hv, c, rfl, c1, c2, c3⟩
        · have hcs : cs = [] := List.eq_nil_of_length_eq_zero g1
          subst hcs
          have hrun : (Builtin.clear_ #[t] ty #[.slice none 0 0]).run P w = .ok (.tuple #[]) w := by
            simp [Builtin.clear_, run_underlying i1]
          refine ⟨_, w, G, F, .inl (runv hrun), ?_, .tup _ _ rfl (by simp)⟩
          have hr0 : rowZ 0 z.cells.toList = [] := by simp [rowZ]
          simp only [hr0, List.take_nil, List.append_nil, List.drop_nil, AS.setO]
          rw [set_self hk]
          exact hr
        · have hms : (madeCells z.cells (n * sz')).toList.length = n * sz' := by simp [size_madeCells]
          have hrep : ∀ (j : Nat) (v : AV) (y : Value), (rowZ n z.cells.toList)[j]? = some v → (madeCells z.cells (n * sz')).toList[j]? = some y → RepV G (lens s.h) F w v y := fun j v y e1 e2 => made_crel (N := n * sz') (by omega) j v y e1 (by rw [← Array.getElem?_toList]; exact e2)
          obtain ⟨cur, cty, hb, hcur, hR⟩ := hr.write hk hho hf hv off (rowZ n z.cells.toList) (madeCells z.cells (n * sz')).toList (by rw [hrl, hms]) (by rw [hrl]; omega) hrep
          have hone : ∀ v ∈ (madeCells z.cells (n * sz')).toList, v.oneCell' = true := by
            intro v hv'
            obtain ⟨j, hj, rfl⟩ := List.getElem_of_mem hv'
            have hj' : j < n * sz' := by rw [← hms]; exact hj
            simp only [madeCells, Array.getElem_toList, Array.getElem_map, Array.getElem_range]
            have hlt : j % z.cells.size < z.cells.size := Nat.mod_lt _ (by omega)
            rw [getElem!_pos z.cells _ hlt]
            exact List.all_eq_true.1 g5 _ (by simp)
          have hst := run_storeCells_at P (G.σ k) off cty (madeCells z.cells (n * sz')).toList 0 cur w hb (by rw [hms]; omega) hone
          simp only [Nat.add_zero] at hst
          rcases Nat.eq_zero_or_pos n with h0 | h0
          · subst h0
            have hrun : (Builtin.clear_ #[t] ty #[.slice (some ⟨G.σ k, off, none⟩) 0 c]).run P w = .ok (.tuple #[]) w := by
              simp [Builtin.clear_, run_underlying i1]
            refine ⟨_, w, G, F, .inl (runw hrun), ?_, .tup _ _ rfl (by simp)⟩
            have hr0 : rowZ 0 z.cells.toList = [] := by simp [rowZ]
            simp only [hr0, Nat.zero_mul, Nat.add_zero, List.append_nil, List.take_append_drop, AS.setO]
            rw [set_self hk]
            exact hr
          obtain ⟨n', rfl⟩ : ∃ n', n = n' + 1 := ⟨n - 1, by omega⟩
          have hrun : (Builtin.clear_ #[t] ty #[.slice (some ⟨G.σ k, off, none⟩) (n' + 1) c]).run P w = .ok (.tuple #[]) (w.setRow (G.σ k) (spl cur off (madeCells z.cells ((n' + 1) * sz')).toList)) := by
            have hzc : Builtin.zeroCells z.cells (n' + 1) = madeCells z.cells ((n' + 1) * sz') := by unfold Builtin.zeroCells madeCells; rw [hzs]
            simp [Builtin.clear_, run_underlying i1, zeroValue, typeInfo, i2, k2, hzc, hst, spl]
          rw [hrl] at hR
          exact ⟨_, _, _, F, .inl (runw hrun), hR, .tup _ _ rfl (by simp)⟩
      · cases hq
    · cases hq
  · cases hq
theorem app_core (hr : Rel E G F s a w) {t tx ty e sz k n m cnt : Nat} {ti : TypeInfo} {z : Value} {cs l : List AV} {news : List Value} {x y : Value} (i1 : P.underlying t = some (.slice e)) (i2 : P.info? e = some ti) (i3 : ti.size = sz) (k2 : ti.zero = some z) (hz1 : z.cells.size = sz)
    (hk : s.h[k]? = some (.o (.row e sz) cs)) (hho : E.ho k = false) (g1 : cs.length = m) (g2 : n * sz = m) (g3 : 0 < sz) (g4 : ti.bytes ≤ 100000) (g5' : n + cnt ≤ 140737488355328 / ti.bytes)
    (h1 : Src P sz tx y cnt news w) (h2 : (Builtin.firstCells sz 0 y).run P w = .ok #[] w) (h3 : l.length = news.length) (h4 : ∀ (j : Nat) (v : AV) (y : Value), l[j]? = some v → news[j]? = some y → RepV G (lens s.h) F w v y)
    (hx : RepV G (lens s.h) F w (.sl k sz 0 n m) x) : Steps1 P E a w (do pure (.value (← Builtin.append_ #[t, tx] ty #[x, y]))) (s.setO k (.o (.row e sz) (cs ++ l)), .sl k sz 0 (n + cnt) (m + cnt * sz)) := by
  have hln : (lens s.h)[k]? = some m := by simp [lens, List.getElem?_map, hk, lnO, g1]
  have hnl := h1.newsLen
  have hob := hr.heap.obj k _ hk
  have hklt : k < s.h.length := (List.getElem?_eq_some_iff.1 hk).1
  have hlen : (cs ++ l).length = m + cnt * sz := by simp; omega
  have hget : ∀ (h : List AObj), k < h.length → (lens (h.set k (.o (.row e sz) (cs ++ l))))[k]? = some (m + cnt * sz) := fun h hh => by
    simp [lens, List.getElem?_map, List.getElem?_set, hh, lnO]; omega
  have bytes : (n + cnt) * ti.bytes ≤ 140737488355328 := by
    exact Nat.le_trans (Nat.mul_le_mul_right _ g5') (Nat.div_mul_le_self _ _)
  have g5 : n + cnt ≤ 140737488355328 := Nat.le_trans g5' (Nat.div_le_self _ _)
  have grow : ∀ (cur : Array Value) (c' : Nat), cur.size = c' * sz → c' ≤ maxLen → n + cnt ≤ c' → 0 < cnt → CRel G (lens s.h) F w cs cur → (∀ j, j < news.length → cur[cs.length + j]? = news[j]?) →
      (Builtin.append_ #[t, tx] ty #[x, y]).run P w = .ok (.slice (some ⟨w.heap.size, 0, none⟩) (n + cnt) c') (w.drew.alloc (.cells cur e)) → Steps1 P E a w (do pure (.value (← Builtin.append_ #[t, tx] ty #[x, y]))) (s.setO k (.o (.row e sz) (cs ++ l)), .sl k sz 0 (n + cnt) (m + cnt * sz)) := by
    intro cur c' q1 q2 q3 q4 q5 q6 hrun
    have hmul : 0 < cnt * sz := Nat.mul_pos q4 g3
    have hl2 := Later.set (y := .o (.row e sz) (cs ++ l)) G hk w.heap.size cur.size (.inr (by simp only [lnO]; omega))
    obtain ⟨u1, u2, u3⟩ := upd_same G k w.heap.size cur.size false
    have hle : (n + cnt) * sz ≤ c' * sz := Nat.mul_le_mul_right _ q3
    rw [Nat.add_mul] at hle
    have hT := hr.drew.turn hk hho rfl rfl hl2 (w' := w.drew.alloc (.cells cur e)) (fun c hc _ => heap_alloc_lt w.drew _ hc) ⟨rfl, rfl, rfl, by simp⟩ (.inr (Nat.le_refl _)) (fun keepF hnF => .inr ⟨u3, by rw [u1]; exact hnF, cur, c', by rw [u1]; exact Blk.made w.drew e cur, by rw [u2], by rw [u2]; exact q1, q2, by rw [u2, hlen]; omega,
      CRel.last (q5.keep hl2 (fun _ h => h) keepF) h3 (fun j v z a1 a2 => RepV.keep (w := w) hl2 (fun _ h => h) (fun c hc => keepF c hc) (h4 j v z a1 a2)) (fun _ _ => rfl) q6⟩)
    refine ⟨_, w.drew.alloc (.cells cur e), G.upd k w.heap.size cur.size false, F, .inl (runw hrun), hT, ?_⟩
    have := RepV.sl (G := G.upd k w.heap.size cur.size false) (F := F) (w := w.drew.alloc (.cells cur e)) (ln := lens (s.h.set k (.o (.row e sz) (cs ++ l)))) k sz 0 (n + cnt) (m + cnt * sz) c' (hget _ hklt) u3 q3 q2 (by rw [u2, q1]; omega)
    rw [u1] at this
    exact this
  rcases sl_inv hx hln with ⟨hv, _, rfl, rfl, rfl⟩ | ⟨hv, c, rfl, c1, c2, c3⟩
  · have hcs : cs = [] := List.eq_nil_of_length_eq_zero g1
    subst hcs
    rcases Nat.eq_zero_or_pos cnt with h0 | h0
    · subst h0
      have hln0 : l = [] := List.eq_nil_of_length_eq_zero (by rw [h3, hnl]; simp)
      subst hln0
      have hrun : (Builtin.append_ #[t, tx] ty #[.slice none 0 0, y]).run P w = .ok (.slice none 0 0) w := by
        rcases h1.kind with ⟨e'', hk''⟩ | hk'' <;> simp [Builtin.append_, run_underlying i1, run_underlying hk'', h1.len, sizeOf, typeInfo, i2, i3, h2]
      refine ⟨_, w, G, F, .inl (runw hrun), ?_, ?_⟩
      · simp only [AS.setO, List.append_nil, set_self hk]
        exact hr
      · have := hget s.h hklt
        simp only [Nat.zero_mul, Nat.add_zero, List.append_nil, AS.setO] at this ⊢
        exact .slNil k sz this hv
    · have hg := run_append_grow_src (P := P) w t tx ty e ti z i1 i2 k2 none 0 0 [] (by simp [Builtin.firstCells]) y cnt news (by rw [i3]; exact h1) (by omega) (by omega) (growslice_fits (by omega) bytes)
      have hge := grownCap_ge w (0 + cnt) 0 e
      have hcm := grownCap_le_maxLen w (0 + cnt) 0 e (by unfold maxLen; omega)
      refine grow _ _ ?_ hcm hge h0 (fun j av hj => by simp at hj) (fun j hj => ?_) hg
      · simp only [List.nil_append, Array.size_append, List.size_toArray, size_zeroCells, hz1, hnl]
        rw [← Nat.add_mul]; congr 1; omega
      · simp only [List.nil_append, List.length_nil, Nat.zero_add]
        rw [Array.getElem?_append_left (by simpa using hj)]
        simp
  · rcases hob with ⟨h0, _⟩ | ⟨_, hnF, cur, cc, b1, b2, b3, b4, b5, b6⟩
    · rw [hv] at h0; cases h0
    · have hcz : c * sz ≤ cur.size := by omega
      have hnc : n * sz ≤ c * sz := Nat.mul_le_mul_right _ c1
      by_cases hroom : n + cnt ≤ c
      · have hrm : (n + cnt) * sz ≤ c * sz := Nat.mul_le_mul_right _ hroom
        rw [Nat.add_mul] at hrm
        have hcell : ∀ j, j < news.length → (w.cell? ⟨G.σ k, 0 + n * ti.size + j, none⟩).isSome = true := fun j hj => by rw [b1.cell, i3]; simp; omega
        have hrun := run_append_room_src (P := P) w t tx ty e ti i1 i2 (G.σ k) 0 n c y cnt news (by rw [i3]; exact h1) hroom hcell (fun j _ => b1.free _)
        rw [i3, copy_world b1 (by omega) h1.one] at hrun
        have hl2 := Later.set (y := .o (.row e sz) (cs ++ l)) G hk (G.σ k) (G.bs k) (by
          rcases Nat.eq_zero_or_pos cnt with h0 | h0
          · subst h0; exact .inl ⟨by simp only [lnO]; omega, rfl, rfl, hv⟩
          · have := Nat.mul_pos h0 g3
            exact .inr (by simp only [lnO]; omega))
        obtain ⟨u1, u2, u3⟩ := upd_same G k (G.σ k) (G.bs k) false
        have hT := hr.turn hk hho rfl rfl hl2 (w' := w.setRow (G.σ k) (spl cur (0 + n * sz) news)) (fun c hc hne => setRow_other w _ c _ hne) ⟨rfl, rfl, rfl, by simp⟩ (.inl ⟨rfl, hv⟩) (fun keepF hnF => .inr ⟨u3, by rw [u1]; exact hnF, spl cur (0 + n * sz) news, cc, by rw [u1]; exact setRow_blk b1, by rw [u2, spl_size _ _ _ (by omega)]; exact b2, by rw [u2]; exact b3, b4, by rw [u2, hlen]; omega,
          CRel.last (b6.keep hl2 (fun _ h => h) keepF) h3 (fun j v z a1 a2 => (h4 j v z a1 a2).keep hl2 (fun _ h => h) keepF) (fun j hj => by rw [spl_at _ _ _ (by omega), if_pos (by omega)]) (fun j hj => by
            rw [spl_at _ _ _ (by omega), if_neg (by omega), if_pos (by omega)]
            congr 1; omega)⟩)
        refine ⟨_, w.setRow (G.σ k) (spl cur (0 + n * sz) news), G.upd k (G.σ k) (G.bs k) false, F, .inl (runw hrun), hT, ?_⟩
        have := RepV.sl (G := G.upd k (G.σ k) (G.bs k) false) (F := F) (w := w.setRow (G.σ k) (spl cur (0 + n * sz) news)) (ln := lens (s.h.set k (.o (.row e sz) (cs ++ l)))) k sz 0 (n + cnt) (m + cnt * sz) c (hget _ hklt) u3 hroom c2 (by rw [u2]; exact c3)
        rw [u1] at this
        exact this
      · have hold : (Builtin.firstCells ti.size n (.slice (some ⟨G.σ k, 0, none⟩) n c)).run P w.drew = .ok (cur.toList.take (n * sz)).toArray w.drew := by
          rw [i3]
          refine run_firstCells_some w.drew sz n _ n c _ (by simp; omega) fun j u hu => ?_
          rw [addE]
          rw [List.getElem?_take] at hu
          split at hu
          · show w.cell? _ = _
            rw [b1.cell]; simpa using hu
          · cases hu
        have hg := run_append_grow_src (P := P) w t tx ty e ti z i1 i2 k2 (some ⟨G.σ k, 0, none⟩) n c _ hold y cnt news (by rw [i3]; exact h1) (by omega) (by omega) (growslice_fits (by omega) bytes)
        have hge := grownCap_ge w (n + cnt) c e
        have hcm := grownCap_le_maxLen w (n + cnt) c e (by unfold maxLen; omega)
        have htl : (cur.toList.take (n * sz)).length = n * sz := by simp; omega
        refine grow _ _ ?_ hcm hge (by omega) (fun j av hj => ?_) (fun j hj => ?_) hg
        · simp only [Array.size_append, List.size_toArray, List.length_append, htl, size_zeroCells, hz1, hnl]
          rw [← Nat.add_mul, ← Nat.add_mul]; congr 1; omega
        · have hjl : j < cs.length := (List.getElem?_eq_some_iff.1 hj).1
          obtain ⟨u, hu, hru⟩ := b6 j av hj
          refine ⟨u, ?_, hru⟩
          rw [Array.getElem?_append_left (by simp; omega)]
          simp only [List.getElem?_toArray]
          rw [List.getElem?_append_left (by omega), List.getElem?_take, if_pos (by omega)]
          simpa using hu
        · rw [Array.getElem?_append_left (by simp; omega)]
          simp only [List.getElem?_toArray]
          rw [List.getElem?_append_right (by omega)]
          congr 1; omega
theorem rowAt_blk (hr : Rel E G F s a w) {k sz off n m : Nat} {x : Value} (h1 : rowAt s.h k m = true) (h0 : 0 < m) (hx : RepV G (lens s.h) F w (.sl k sz off n m) x) :
    ∃ c ty cur, x = .slice (some ⟨G.σ k, off, none⟩) n c ∧ Blk w (G.σ k) ty cur ∧ m ≤ cur.size ∧ G.vir k = false ∧ ∃ o, s.h[k]? = some o ∧ fzO o = false := by
  unfold rowAt at h1
  split at h1
  · rename_i e sz' cs hk
    have hm : cs.length = m := by simpa using h1
    have hln : (lens s.h)[k]? = some m := by simp [lens, List.getElem?_map, hk, lnO, hm]
    rcases sl_inv hx hln with ⟨_, _, _, hm0, _⟩ | ⟨hv, c, hxe, _⟩
    · omega
    · rcases hr.heap.obj k _ hk with ⟨h0, _⟩ | ⟨_, hnF, cur, cc, b1, b2, b3, b4, b5, b6⟩
      · rw [hv] at h0; cases h0
      · exact ⟨c, e, cur, hxe, b1, by omega, hv, _, hk, rfl⟩
  · cases h1
theorem ovl_find (fn : Func) (h : fn.origin = "slices.overlaps") (n1 : Extern.allGenericRows.lookup fn.name = none) (n2 : Extern.allTypedRows.lookup fn.name = none) (n3 : Extern.allRows.lookup fn.name = none) : Extern.find fn = some (Extern.SlicesOverlaps.overlaps fn.params fn.resultTypes) := by
  have h1 : Extern.allGenericRows.lookup "slices.overlaps" = none := by kernel_rfl
  have h2 : Extern.allTypedRows.lookup "slices.overlaps" = some Extern.SlicesOverlaps.overlaps := by kernel_rfl
  unfold Extern.find
  simp only [h, h1, h2, n1, n2, n3]
  rfl
theorem ovl_sound (hr : Rel E G F s a w) {x y f : Operand} {q : Prop × AS × AV} (hq : ovlV P s x y (s.ev f) = some q) (hs : q.1) (o : Sem Next) (ho : ∀ g, a.eval f = .func (.func g) #[] #[] → o = callFunc g #[a.eval x, a.eval y]) : Steps1 P E a w o q.2 := by
  have hf := hr.ev f
  unfold ovlV at hq
  split at hq
  · rename_i g e1
    split at hq
    · rename_i ht
      rw [Option.map_eq_some_iff] at hq
      obtain ⟨p, hp, rfl⟩ := hq
      obtain ⟨g1, g2, hs⟩ := hs
      have hx := (hr.ev x).ung g1
      have hy := (hr.ev y).ung g2
      unfold ovl2 at hp
      split at hp
      · rename_i k sz off n m k' sz' off' n' m' e2 e3
        injection hp with hp; subst hp
        obtain ⟨s1, s2, s3, s4, s5⟩ := hs
        rw [e2] at hx
        rw [e3] at hy
        obtain ⟨c, ty, cur, hxe, hb, hle, hv, _, hk, hfz⟩ := rowAt_blk hr s2 s4 hx
        obtain ⟨c', ty', cur', hye, hb', hle', hv', _, hk', hfz'⟩ := rowAt_blk hr s3 s5 hy
        have hne : G.σ k ≠ G.σ k' := fun e => s1 (hr.heap.inj k k' _ _ hk hk' hv hv' hfz hfz' e)
        rw [e1] at hf
        have hfe : a.eval f = .func (.func g) #[] #[] := by
          clear ho
          generalize a.eval f = z at hf ⊢
          cases hf with
          | d _ _ h => cases h
          | clo _ _ _ cs ds h1 h2 h3 h4 =>
            have e4 : cs = #[] := by simpa using h1.symm
            have e5 : ds = #[] := by simpa using h2.symm
            rw [e4, e5]
        unfold ovlT at ht
        split at ht
        · rename_i fn hfn
          simp only [Bool.and_eq_true, beq_iff_eq] at ht
          obtain ⟨⟨⟨⟨⟨⟨⟨t1, t0⟩, n1⟩, n2⟩, n3⟩, t2⟩, t3⟩, t4⟩ := ht
          split at t4
          · rename_i pa pb hpar
            simp only [Bool.and_eq_true, beq_iff_eq] at t4
            obtain ⟨rfl, t5⟩ := t4
            obtain ⟨e, he⟩ := slT_some t5
            obtain ⟨i, hi⟩ : ∃ i, P.info? e = some i := by
              unfold slT at t5
              rw [he] at t5
              simp only [Option.isSome_map] at t5
              exact Option.isSome_iff_exists.1 t5
            have hparams : fn.params = #[pa, pa] := by
              have := congrArg List.toArray hpar
              simpa using this
            have hov : (Extern.SlicesOverlaps.overlaps fn.params fn.resultTypes #[.slice (some ⟨G.σ k, off, none⟩) n c, .slice (some ⟨G.σ k', off', none⟩) n' c']).run P w = .ok (.bool false) w := by
              rw [hparams]
              have := Lib.run_overlaps_apart (P := P) w pa 0 e he i.size (fun w => by simp [sizeOf, typeInfo, hi]) ⟨G.σ k, off, none⟩ ⟨G.σ k', off', none⟩ n c n' c' hne ty ty' cur.size cur'.size
                (by unfold World.shape?; rw [show w.heap[G.σ k]? = _ from hb]) (by unfold World.shape?; rw [show w.heap[G.σ k']? = _ from hb']) (by omega)
                (by unfold World.frozen?; rw [show w.heap[G.σ k]? = _ from hb]; simp) (by unfold World.frozen?; rw [show w.heap[G.σ k]? = _ from hb]; simp)
              exact this
            have hrun : o.run P w = .ok (.value (.bool false)) w := by
              rw [ho g hfe, hxe, hye, run_callFunc_extern hfn (by simpa using t0) t2 (by simpa using t3) (ovl_find fn t1 (by simpa using n1) (by simpa using n2) (by simpa using n3)), hov]
              rfl
            exact ⟨_, w, G, F, .inl hrun, hr, .cc _⟩
          · cases t4
        · cases ht
      · cases hp
    · cases hq
  · cases hq
theorem row_step0 {w0 : World} (hr : Rel E G F s a w) (e sz c n : Nat) (cs : List AV) (cur : Array Value) (hl : cs.length ≤ cur.size) (hc : cur.size = c * sz) (hm : c ≤ maxLen) (hn : n ≤ c) (hcs : cs.length = n * sz) (h : ∀ (j : Nat) (v : AV) (y : Value), cs[j]? = some v → cur[j]? = some y → RepV G (lens s.h) F w v y) (o : Sem Next)
    (hrun : o.run P w0 = .ok (.value (.slice (some ⟨w.heap.size, 0, none⟩) n c)) (w.alloc (.cells cur e))) : Steps1 P E a w0 o (s.push (.o (.row e sz) cs), .sl s.h.length sz 0 n (n * sz)) := by
  obtain ⟨u1, u2, u3⟩ := upd_same G s.h.length w.heap.size cur.size false
  refine ⟨_, _, G.upd s.h.length w.heap.size cur.size false, F, .inl hrun, hr.new (.cells cur e) (.o (.row e sz) cs) _ rfl (.inr ⟨u3, by rw [u1]; exact fresh_nF hr, cur, c, by rw [u1]; exact Blk.made w e cur, by rw [u2], by rw [u2]; exact hc, hm, by rw [u2]; exact hl, CRel.new (kd := .box) hr h hl _ _ _⟩), ?_⟩
  have := RepV.sl (G := G.upd s.h.length w.heap.size cur.size false) (F := F) (w := w.alloc (.cells cur e)) (ln := lens (s.h ++ [.o (.row e sz) cs])) s.h.length sz 0 n (n * sz) c (by rw [lens_push]; simp [lnO, hcs]) u3 hn hm (by rw [u2, hc]; omega)
  rw [u1] at this
  exact this
theorem app_slc (hr : Rel E G F s a w) {t tx ty e sz k n m cnt : Nat} {ti : TypeInfo} {cs l : List AV} {news : List Value} {x y : Value} (i1 : P.underlying t = some (.slice e)) (i2 : P.info? e = some ti) (i3 : ti.size = sz)
    (hk : s.h[k]? = some (.o (.row e sz) cs)) (hho : E.ho k = false) (g1 : cs.length = m) (g3 : 0 < sz) (g0 : 0 < m)
    (h1 : Src P sz tx y cnt news w) (h3 : l.length = news.length) (h4 : ∀ (j : Nat) (v : AV) (y : Value), l[j]? = some v → news[j]? = some y → RepV G (lens s.h) F w v y)
    (hx : RepV G (lens s.h) F w (.slc k sz 0 n m) x) (hin : (n + cnt) * sz ≤ m) : Steps1 P E a w (do pure (.value (← Builtin.append_ #[t, tx] ty #[x, y]))) (s.setO k (.o (.row e sz) (cs.take (n * sz) ++ l ++ cs.drop (n * sz + cnt * sz))), .slc k sz 0 (n + cnt) m) := by
  have hln : (lens s.h)[k]? = some m := by simp [lens, List.getElem?_map, hk, lnO, g1]
  have hnl := h1.newsLen
  obtain ⟨A, ln', c, rfl, hx1, hx2⟩ := slc_inv hx
  have hcm := hx2 hln
  have hroom : n + cnt ≤ c := Nat.le_of_mul_le_mul_right (by omega) g3
  have hin' : n * sz + cnt * sz ≤ m := by rw [← Nat.add_mul]; exact hin
  rcases sl_inv hx1 hln with ⟨hv, _, _, hm0, _⟩ | ⟨hv, c', he, c1, c2, c3⟩
  · omega
  · injection he with q1 q2 q3
    subst q1 q3
    obtain rfl : n = ln' := q2.symm
    obtain ⟨cur, cty, hb, hcur, hR⟩ := hr.write hk hho rfl hv (n * sz) l news h3 (by omega) h4
    have hcell : ∀ j, j < news.length → (w.cell? ⟨G.σ k, 0 + n * ti.size + j, none⟩).isSome = true := fun j hj => by rw [hb.cell, i3]; simp; omega
    have hrun := run_append_room_src (P := P) w t tx ty e ti i1 i2 (G.σ k) 0 n c y cnt news (by rw [i3]; exact h1) hroom hcell (fun j _ => hb.free _)
    rw [i3, copy_world hb (by omega) h1.one, Nat.zero_add] at hrun
    have hlc : l.length = cnt * sz := by rw [h3, hnl]
    rw [hlc] at hR
    refine ⟨_, w.setRow (G.σ k) (spl cur (n * sz) news), G.upd k (G.σ k) (G.bs k) false, F, .inl (runw hrun), hR, ?_⟩
    obtain ⟨u1, u2, u3⟩ := upd_same G k (G.σ k) (G.bs k) false
    have hkl : k < s.h.length := (List.getElem?_eq_some_iff.1 hk).1
    have hln2 : (lens (s.setO k (.o (.row e sz) (cs.take (n * sz) ++ l ++ cs.drop (n * sz + cnt * sz)))).h)[k]? = some m := by
      simp [AS.setO, lens, List.getElem?_map, List.getElem?_set, hkl, lnO]; omega
    refine .slc _ _ _ _ _ _ _ _ ?_ (fun _ => hcm)
    have := RepV.sl (G := G.upd k (G.σ k) (G.bs k) false) (F := F) (w := w.setRow (G.σ k) (spl cur (n * sz) news)) k sz 0 (n + cnt) m c hln2 u3 hroom c2 (by rw [u2]; exact c3)
    rw [u1] at this
    exact this
theorem app_new (hr : Rel E G F s a w) {t tx ty e sz k n m cnt : Nat} {ti : TypeInfo} {z : Value} {cs l : List AV} {news : List Value} {x y : Value} (i1 : P.underlying t = some (.slice e)) (i2 : P.info? e = some ti) (i3 : ti.size = sz) (k2 : ti.zero = some z) (hz1 : z.cells.size = sz)
    (hk : s.h[k]? = some (.o (.row e sz) cs)) (g1 : cs.length = m) (g2 : n * sz ≤ m) (g3 : 0 < sz) (g0 : 0 < m) (g4 : ti.bytes ≤ 100000) (g5' : n + cnt ≤ 140737488355328 / ti.bytes)
    (h1 : Src P sz tx y cnt news w) (h3 : l.length = news.length) (h4 : ∀ (j : Nat) (v : AV) (y : Value), l[j]? = some v → news[j]? = some y → RepV G (lens s.h) F w v y)
    (hx : RepV G (lens s.h) F w (.slc k sz 0 n m) x) (hout : ¬ (n + cnt) * sz ≤ m) : Steps1 P E a w (do pure (.value (← Builtin.append_ #[t, tx] ty #[x, y]))) (s.push (.o (.row e sz) (cs.take (n * sz) ++ l)), .sl s.h.length sz 0 (n + cnt) ((n + cnt) * sz)) := by
  have hln : (lens s.h)[k]? = some m := by simp [lens, List.getElem?_map, hk, lnO, g1]
  have hnl := h1.newsLen
  have hob := hr.heap.obj k _ hk
  obtain ⟨A, ln', c, rfl, hx1, hx2⟩ := slc_inv hx
  have hcm := hx2 hln
  have bytes : (n + cnt) * ti.bytes ≤ 140737488355328 := Nat.le_trans (Nat.mul_le_mul_right _ g5') (Nat.div_mul_le_self _ _)
  have g5 : n + cnt ≤ 140737488355328 := Nat.le_trans g5' (Nat.div_le_self _ _)
  rcases sl_inv hx1 hln with ⟨hv, _, _, hm0, _⟩ | ⟨hv, c', he, c1, c2, c3⟩
  · omega
  · injection he with q1 q2 q3
    subst q1 q3
    obtain rfl : n = ln' := q2.symm
    rcases hob with ⟨h0, _⟩ | ⟨_, hnF, cur, cc, b1, b2, b3, b4, b5, b6⟩
    · rw [hv] at h0; cases h0
    have hroom : c < n + cnt := by
      rcases Nat.lt_or_ge c (n + cnt) with h | h
      · exact h
      · have := Nat.mul_le_mul_right sz h; omega
    have hold : (Builtin.firstCells ti.size n (.slice (some ⟨G.σ k, 0, none⟩) n c)).run P w.drew = .ok (cur.toList.take (n * sz)).toArray w.drew := by
      rw [i3]
      refine run_firstCells_some w.drew sz n _ n c _ (by simp; omega) fun j u hu => ?_
      rw [addE]
      rw [List.getElem?_take] at hu
      split at hu
      · show w.cell? _ = _
        rw [b1.cell]; simpa using hu
      · cases hu
    have hg := run_append_grow_src (P := P) w t tx ty e ti z i1 i2 k2 (some ⟨G.σ k, 0, none⟩) n c _ hold y cnt news (by rw [i3]; exact h1) (by omega) (by omega) (growslice_fits (by omega) bytes)
    have hge := grownCap_ge w (n + cnt) c e
    have hcmx := grownCap_le_maxLen w (n + cnt) c e (by unfold maxLen; omega)
    have htl : (cur.toList.take (n * sz)).length = n * sz := by simp; omega
    have htc : (cs.take (n * sz)).length = n * sz := by simp; omega
    have hlc : (cs.take (n * sz) ++ l).length = (n + cnt) * sz := by rw [List.length_append, htc, h3, hnl, Nat.add_mul]
    have hle := Nat.mul_le_mul_right sz hge
    refine row_step0 hr.drew e sz (grownCap w (n + cnt) c e) (n + cnt) _ _ ?_ ?_ hcmx hge hlc (fun j v z' hv hz' => ?_) _ (runw hg)
    · rw [hlc]; simp only [Array.size_append, List.size_toArray, List.length_append, htl, size_zeroCells, hz1, hnl]
      rw [← Nat.add_mul]; omega
    · simp only [Array.size_append, List.size_toArray, List.length_append, htl, size_zeroCells, hz1, hnl]
      rw [← Nat.add_mul, ← Nat.add_mul]; congr 1; omega
    · have hjl : j < (cs.take (n * sz) ++ l).length := (List.getElem?_eq_some_iff.1 hv).1
      rw [Array.getElem?_append_left (by simp only [List.size_toArray, List.length_append, htl, hnl]; rw [← Nat.add_mul, ← hlc]; exact hjl)] at hz'
      simp only [List.getElem?_toArray] at hz'
      by_cases hj : j < n * sz
      · rw [List.getElem?_append_left (by omega), List.getElem?_take, if_pos hj] at hv
        rw [List.getElem?_append_left (by omega), List.getElem?_take, if_pos hj] at hz'
        obtain ⟨u, hu, hru⟩ := b6 j v hv
        have : z' = u := by
          rw [Array.getElem?_toList, hu] at hz'; injection hz' with hz'; exact hz'.symm
        subst this
        exact RepV.keep (w := w) (w' := w.drew) (Later.refl _ _) (fun _ h => h) (fun _ _ => rfl) hru
      · rw [List.getElem?_append_right (by omega), htc] at hv
        rw [List.getElem?_append_right (by omega), htl] at hz'
        exact RepV.keep (w := w) (w' := w.drew) (Later.refl _ _) (fun _ h => h) (fun _ _ => rfl) (h4 _ v z' hv hz')
theorem run_append_zeros_grow (w : World) (t tn ty e : TypeId) (i : TypeInfo) (z : Value) (k kn : IntKind) (ht : P.underlying t = some (.slice e)) (htn : P.underlying tn = some (.int kn)) (hi : P.info? e = some i) (hz : i.zero = some z) (base : Option Addr) (sLen sCap : Nat) (olds : List Value)
    (hold : (Builtin.firstCells i.size sLen (.slice base sLen sCap)).run P w.drew = .ok olds.toArray w.drew) (n : Nat) (h0 : 0 < n) (hs : 0 < i.size) (hg : sCap < sLen + n) (h63 : ((sLen + n : Nat) : Int) ≤ 9223372036854775807) (h48 : n * i.bytes ≤ 281474976710656)
    (hfit : Builtin.nextslicecap (sLen + n) sCap * i.bytes ≤ 281474976710656) :
    (Builtin.append_ #[t, tn] ty #[.slice base sLen sCap, .int k n]).run P w =
      .ok (.slice (some ⟨w.heap.size, 0, none⟩) (sLen + n) (grownCap w (sLen + n) sCap e)) (w.drew.alloc (.cells (olds.toArray ++ Builtin.zeroCells z.cells n ++ Builtin.zeroCells z.cells (grownCap w (sLen + n) sCap e - (sLen + n))) e)) := by
  have hn : ¬ (sLen + n ≤ sCap) := by omega
  have hw : IntKind.i64.wrap (n : Int) = n := by rw [IntKind.wrap_i64]; omega
  have h63' : ¬ (9223372036854775807 < ((sLen : Int) + (n : Int))) := by omega
  have h48' : ¬ (281474976710656 < Builtin.nextslicecap (sLen + n) sCap * i.bytes) := by omega
  have h48i : ¬ (281474976710656 < (n : Int) * (i.bytes : Int)) := by
    rw [← Int.natCast_mul]
    omega
  have hneg : ¬ ((n : Int) < 0) := by omega
  have hns : ¬ (n * i.size = 0) := Nat.mul_ne_zero (by omega) (by omega)
  simp [Builtin.append_, run_underlying ht, run_underlying htn, sizeOf, typeInfo, zeroValue, hi, hz, asInt, asIntOf, hw, hn, hneg, hns, h63', h48', h48i, Question.forced, hold, newRow, grownCap]
theorem app_zeros (hr : Rel E G F s a w) {t tx ty : TypeId} {u v : AV} {x y : Value} {q : Prop × AS × AV} (htx : isIntT P tx = true) (hq : appZ P E.ho s t u v = some q) (hs : q.1) (hx : RepV G (lens s.h) F w u x) (hy : RepV G (lens s.h) F w v y)
    (o : Sem Next) (ho : o = (do pure (.value (← Builtin.append_ #[t, tx] ty #[x, y])))) : Steps1 P E a w o q.2 := by
  subst ho
  unfold appZ at hq
  split at hq
  · rename_i e sz by_ k sz' n m kq qn e1
    split at hq
    · rename_i z0 e' sz'' cs hz hk
      split at hq
      · rename_i hcond
        obtain ⟨rfl, rfl, rfl, hho⟩ := hcond
        injection hq with hq; subst hq
        obtain ⟨g1, g2, g0, g3, gq, gm, g4, g5', g7⟩ := hs
        obtain ⟨ti, i1, i2, i3, i4⟩ := slT_inv e1
        simp only at i1 i2 i3 i4
        obtain ⟨i', z, k1, k2, hz0⟩ := zeroT_inv hz
        rw [i2] at k1; injection k1 with k1; subst k1
        subst hz0
        have hz1 : z.cells.size = sz'' := by simpa using g7
        obtain ⟨kn, htn⟩ : ∃ kn, P.underlying tx = some (.int kn) := by
          unfold isIntT at htx
          split at htx
          · rename_i kn h; exact ⟨kn, h⟩
          · cases htx
        have hln : (lens s.h)[k]? = some m := by simp [lens, List.getElem?_map, hk, lnO, g1]
        have hob := hr.heap.obj k _ hk
        obtain ⟨A, ln', c, rfl, hx1, hx2⟩ := slc_inv hx
        have hcm := hx2 hln
        have hye := hy.c_inv
        subst hye
        obtain ⟨cnt, rfl⟩ : ∃ cnt : Nat, qn = cnt := ⟨qn.toNat, by omega⟩
        simp only [Int.toNat_natCast] at gm g5' ⊢
        have bytes : (n + cnt) * ti.bytes ≤ 140737488355328 := by rw [i4]; exact Nat.le_trans (Nat.mul_le_mul_right _ g5') (Nat.div_mul_le_self _ _)
        have g5 : n + cnt ≤ 140737488355328 := Nat.le_trans g5' (Nat.div_le_self _ _)
        rcases sl_inv hx1 hln with ⟨hv, _, _, hm0, _⟩ | ⟨hv, c', he, c1, c2, c3⟩
        · omega
        · injection he with q1 q2 q3
          subst q1 q3
          obtain rfl : n = ln' := q2.symm
          rcases hob with ⟨h0, _⟩ | ⟨_, hnF, cur, cc, b1, b2, b3, b4, b5, b6⟩
          · rw [hv] at h0; cases h0
          have hroom : c < n + cnt := by
            rcases Nat.lt_or_ge c (n + cnt) with h | h
            · exact h
            · have := Nat.mul_le_mul_right sz'' h; omega
          have hold : (Builtin.firstCells ti.size n (.slice (some ⟨G.σ k, 0, none⟩) n c)).run P w.drew = .ok (cur.toList.take (n * sz'')).toArray w.drew := by
            rw [i3]
            refine run_firstCells_some w.drew sz'' n _ n c _ (by simp; omega) fun j u hu => ?_
            rw [addE]
            rw [List.getElem?_take] at hu
            split at hu
            · show w.cell? _ = _
              rw [b1.cell]; simpa using hu
            · cases hu
          have hbc : cnt * ti.bytes ≤ (n + cnt) * ti.bytes := Nat.mul_le_mul_right _ (by omega)
          have hg := run_append_zeros_grow (P := P) w t tx ty e' ti z kq kn i1 htn i2 k2 (some ⟨G.σ k, 0, none⟩) n c _ hold cnt (by omega) (by omega) (by omega) (by omega) (by omega) (growslice_fits (by omega) bytes)
          have hge := grownCap_ge w (n + cnt) c e'
          have hcmx := grownCap_le_maxLen w (n + cnt) c e' (by unfold maxLen; omega)
          have htl : (cur.toList.take (n * sz'')).length = n * sz'' := by simp; omega
          have htc : (cs.take (n * sz'')).length = n * sz'' := by simp; omega
          have hrl : (rowZ cnt z.cells.toList).length = cnt * sz'' := by rw [rowZ_length]; simp [hz1]
          have hlc : (cs.take (n * sz'') ++ rowZ cnt z.cells.toList).length = (n + cnt) * sz'' := by rw [List.length_append, htc, hrl, Nat.add_mul]
          have hle := Nat.mul_le_mul_right sz'' hge
          have hdist : (n + cnt) * sz'' = n * sz'' + cnt * sz'' := Nat.add_mul _ _ _
          have hgs : (grownCap w (n + cnt) c e' - (n + cnt)) * sz'' = grownCap w (n + cnt) c e' * sz'' - (n + cnt) * sz'' := Nat.sub_mul _ _ _
          refine row_step0 hr.drew e' sz'' (grownCap w (n + cnt) c e') (n + cnt) _ _ ?_ ?_ hcmx hge hlc (fun j v z' hv hz' => ?_) _ (runw hg)
          · rw [hlc]; simp only [Array.size_append, List.size_toArray, htl, size_zeroCells, hz1]
            omega
          · simp only [Array.size_append, List.size_toArray, htl, size_zeroCells, hz1]
            omega
          · have hjl : j < (cs.take (n * sz'') ++ rowZ cnt z.cells.toList).length := (List.getElem?_eq_some_iff.1 hv).1
            rw [Array.getElem?_append_left (by simp only [Array.size_append, List.size_toArray, htl, size_zeroCells, hz1]; omega)] at hz'
            by_cases hj : j < n * sz''
            · rw [List.getElem?_append_left (by omega), List.getElem?_take, if_pos hj] at hv
              rw [Array.getElem?_append_left (by simp only [List.size_toArray]; omega)] at hz'
              simp only [List.getElem?_toArray] at hz'
              rw [List.getElem?_take, if_pos hj] at hz'
              obtain ⟨u, hu, hru⟩ := b6 j v hv
              have : z' = u := by
                rw [Array.getElem?_toList, hu] at hz'; injection hz' with hz'; exact hz'.symm
              subst this
              exact RepV.keep (w := w) (w' := w.drew) (Later.refl _ _) (fun _ h => h) (fun _ _ => rfl) hru
            · rw [List.getElem?_append_right (by omega), htc] at hv
              rw [Array.getElem?_append_right (by simp only [List.size_toArray]; omega)] at hz'
              simp only [List.size_toArray, htl] at hz'
              exact made_crel (N := cnt * z.cells.size) (by omega) _ v z' hv hz'
      · cases hq
    · cases hq
  · rename_i e sz by_ kq qn e1
    split at hq
    · rename_i z0 hz
      split at hq
      · cases hq
      rename_i hho
      injection hq with hq; subst hq
      obtain ⟨g3, gq, g4, g5', g7⟩ := hs
      obtain ⟨ti, i1, i2, i3, i4⟩ := slT_inv e1
      simp only at i1 i2 i3 i4
      obtain ⟨i', z, k1, k2, hz0⟩ := zeroT_inv hz
      rw [i2] at k1; injection k1 with k1; subst k1
      subst hz0
      have hz1 : z.cells.size = sz := by simpa using g7
      obtain ⟨kn, htn⟩ : ∃ kn, P.underlying tx = some (.int kn) := by
        unfold isIntT at htx
        split at htx
        · rename_i kn h; exact ⟨kn, h⟩
        · cases htx
      have hye := hy.c_inv
      subst hye
      obtain ⟨cnt, rfl⟩ : ∃ cnt : Nat, qn = cnt := ⟨qn.toNat, by omega⟩
      simp only [Int.toNat_natCast] at g5' ⊢
      have bytes : (0 + cnt) * ti.bytes ≤ 140737488355328 := by rw [i4, Nat.zero_add]; exact Nat.le_trans (Nat.mul_le_mul_right _ g5') (Nat.div_mul_le_self _ _)
      have g5 : cnt ≤ 140737488355328 := Nat.le_trans g5' (Nat.div_le_self _ _)
      have hold : (Builtin.firstCells ti.size 0 (.slice none 0 0)).run P w.drew = .ok ([] : List Value).toArray w.drew := run_firstCells_none _ _ _ _ _
      have bytes' : cnt * ti.bytes ≤ 140737488355328 := by simpa using bytes
      have hg := run_append_zeros_grow (P := P) w t tx ty e ti z kq kn i1 htn i2 k2 none 0 0 [] hold cnt (by omega) (by omega) (by omega) (by omega) (by omega) (growslice_fits (by omega) bytes)
      have hge := grownCap_ge w (0 + cnt) 0 e
      have hcmx := grownCap_le_maxLen w (0 + cnt) 0 e (by unfold maxLen; omega)
      have hrl : (rowZ cnt z.cells.toList).length = cnt * sz := by rw [rowZ_length]; simp [hz1]
      have hle := Nat.mul_le_mul_right sz hge
      have hgs : (grownCap w (0 + cnt) 0 e - (0 + cnt)) * sz = grownCap w (0 + cnt) 0 e * sz - (0 + cnt) * sz := Nat.sub_mul _ _ _
      simp only [Nat.zero_add] at hg hge hcmx hle hgs
      have hst := row_step0 hr.drew e sz (grownCap w cnt 0 e) cnt (rowZ cnt z.cells.toList) (([] : List Value).toArray ++ Builtin.zeroCells z.cells cnt ++ Builtin.zeroCells z.cells (grownCap w cnt 0 e - cnt)) ?_ ?_ hcmx hge hrl (fun j v z' hv hz' => ?_) _ (runw hg)
      · rw [hx.c_inv]
        simpa [AS.push] using hst
      · rw [hrl]; simp only [Array.size_append, List.size_toArray, List.length_nil, size_zeroCells, hz1]
        omega
      · simp only [Array.size_append, List.size_toArray, List.length_nil, size_zeroCells, hz1]
        omega
      · have hjl : j < (rowZ cnt z.cells.toList).length := (List.getElem?_eq_some_iff.1 hv).1
        rw [Array.getElem?_append_left (by simp only [Array.size_append, List.size_toArray, List.length_nil, size_zeroCells, hz1]; omega)] at hz'
        rw [Array.getElem?_append_right (by simp)] at hz'
        simp only [List.size_toArray, List.length_nil, Nat.sub_zero] at hz'
        exact made_crel (N := cnt * z.cells.size) (by omega) _ v z' hv hz'
    · cases hq
  · cases hq
theorem app_sound (hr : Rel E G F s a w) {t tx ty : TypeId} {u v : AV} {x y : Value} {q : Prop × AS × AV} (hq : appV P E.ho s t tx u v = some q) (hs : q.1) (hx : RepV G (lens s.h) F w u x) (hy : RepV G (lens s.h) F w v y)
    (o : Sem Next) (ho : o = (do pure (.value (← Builtin.append_ #[t, tx] ty #[x, y])))) : Steps1 P E a w o q.2 := by
  subst ho
  unfold appV at hq
  split at hq
  · rename_i e sz by_ e1
    split at hq
    · rename_i z0 cnt l hz hsrc
      split at hq
      · rename_i ht
        obtain ⟨ti, i1, i2, i3, i4⟩ := slT_inv e1
        simp only at i1 i2 i3 i4
        obtain ⟨i', z, k1, k2, hz0⟩ := zeroT_inv hz
        rw [i2] at k1; injection k1 with k1; subst k1
        split at hq
        · rename_i k sz' n m
          split at hq
          · rename_i e' sz'' cs hk
            split at hq
            · rename_i hcond
              obtain ⟨rfl, rfl, rfl, hho⟩ := hcond
              injection hq with hq; subst hq
              obtain ⟨g1, g2, g3, g4, g5, g6, g7⟩ := hs
              obtain ⟨news, h1, h2, h3, h4⟩ := srcV_sound hr.heap hsrc g6 ht hy
              have h20 := h2 0 (Nat.zero_le _)
              simp only [Nat.zero_mul, List.take_zero] at h20
              exact app_core hr i1 i2 i3 k2 (by rw [hz0] at g7; simpa using g7) hk hho g1 g2 g3 (by rw [i4]; exact g4) (by rw [i4]; exact g5) h1 h20 h3 h4 hx
            · cases hq
          · cases hq
        · rename_i k sz' n m
          split at hq
          · rename_i e' sz'' cs hk
            split at hq
            · rename_i hcond
              obtain ⟨rfl, rfl, rfl, hho, hho2⟩ := hcond
              split at hq
              · rename_i hin
                injection hq with hq; subst hq
                obtain ⟨g1, g3, g0, g6⟩ := hs
                obtain ⟨news, h1, h2, h3, h4⟩ := srcV_sound hr.heap hsrc g6 ht hy
                exact app_slc hr i1 i2 i3 hk hho g1 g3 g0 h1 h3 h4 hx hin
              · rename_i hin
                injection hq with hq; subst hq
                obtain ⟨g1, g2, g0, g3, g4, g5, g6, g7⟩ := hs
                obtain ⟨news, h1, h2, h3, h4⟩ := srcV_sound hr.heap hsrc g6 ht hy
                exact app_new hr i1 i2 i3 k2 (by rw [hz0] at g7; simpa using g7) hk g1 g2 g3 g0 (by rw [i4]; exact g4) (by rw [i4]; exact g5) h1 h3 h4 hx hin
            · cases hq
          · cases hq
        · split at hq
          · cases hq
          rename_i hho
          injection hq with hq; subst hq
          obtain ⟨g3, g4, g5, g6, g7⟩ := hs
          obtain ⟨news, h1, h2, h3, h4⟩ := srcV_sound hr.heap hsrc g6 ht hy
          have h20 := h2 0 (Nat.zero_le _)
          simp only [Nat.zero_mul, List.take_zero] at h20
          have hv := hr.virt e sz
          have hN := (upd_same G s.h.length 0 0 true).2.2
          have hk : (s.h ++ [AObj.o (.row e sz) []])[s.h.length]? = some (.o (.row e sz) []) := by simp
          have hc := app_core (ty := ty) hv i1 i2 i3 k2 (by rw [hz0] at g7; simpa using g7) (n := 0) (m := 0) hk (by simpa using hho) rfl (by simp) g3 (by rw [i4]; exact g4) (by rw [i4, Nat.zero_add]; exact g5) h1 h20 h3
            (fun j v' y' a1 a2 => (h4 j v' y' a1 a2).keep (Later.push G s.h (.o (.row e sz) []) 0 0 true) (fun _ h => h) (fun _ _ => rfl)) (x := .slice none 0 0) (.slNil _ sz (by simp [lens_push, lnO]) hN)
          rw [hx.c_inv]
          simp only [Nat.zero_add, List.nil_append, AS.setO] at hc
          have e0 : (s.h ++ [AObj.o (.row e sz) []]).set s.h.length (.o (.row e sz) l) = s.h ++ [.o (.row e sz) l] := by
            rw [List.set_append_right _ _ (Nat.le_refl _)]; simp
          rw [e0] at hc
          exact hc
        · cases hq
      · cases hq
    · cases hq
  · cases hq
end
end Go.Proofs.Ytmgpiminicgbiaa
namespace Go.Proofs.Ytmgpiminicgbiaa
set_option linter.unusedVariables false
set_option linter.unusedSimpArgs false
open Go.RowKit

section
variable {P : Program} {G : Gh} {F : Nat → Prop} {w : World} {E : Env} {s : AS} {a : Act}
/-- a new block that stays as it is -/
theorem Rel.newF (hr : Rel E G F s a w) (o : Obj) (ho : ∃ c t f, o = .cells c t f) : Rel E G (fun b => F b ∨ b = w.heap.size) s a (w.alloc o) := by
  have hl := Later.refl G (lens s.h)
  have hw : ∀ b, F b → (w.alloc o).heap[b]? = w.heap[b]? := fun b hb => heap_alloc_lt w o (hr.flt b hb)
  have hF : ∀ b, F b → F b ∨ b = w.heap.size := fun _ h => .inl h
  refine ⟨hr.len, hr.def0.keep (fun D h1 h2 => ⟨fun h3 => h3.elim h1 fun e => by have := lt_of_heap h2; omega, heap_alloc_lt w o (lt_of_heap h2)⟩), fun i av v h1 h2 => (hr.slot i av v h1 h2).keep hl hF hw, ⟨fun k y hk => ?_, hr.heap.inj⟩, hr.mod.alloc o, hr.sup, fun b hb => ?_, fun b hb => .inl (hr.f0 b hb), hr.fc.more hF hw fun b hb => ?_, hr.lat⟩
  · refine (hr.heap.obj k y hk).keep hl hF hw ⟨rfl, rfl, rfl⟩ (fun hv => heap_alloc_lt w o (hr.heap.lt hk hv)) (fun hv hf => ?_)
    rintro (h | h)
    · exact hr.heap.nfz hk hv hf h
    · have := hr.heap.lt hk hv; omega
  · rcases hb with hb | rfl
    · exact hr.fsup b hb
    · exact .inr (.inr hr.mod.size)
  · rcases hb with hb | rfl
    · obtain ⟨c, t, f, e⟩ := hr.fc b hb; exact ⟨c, t, f, (hw b hb).trans e⟩
    · obtain ⟨c, t, f, rfl⟩ := ho; exact ⟨c, t, f, heap_alloc_new w _⟩
theorem bytes_sound (hr : Rel E G F s a w) {src dst : TypeId} {x : Operand} {b : ByteArray} {e by_ : Nat} (h1 : slT P dst = some (e, 1, by_)) (h2 : isStrT P src = true) (h3 : intT P e = some .u8) (hx : a.eval x = .string b) (hb : b.size ≤ 9223372036854775807) (o : Oper) (ho : o.op = .convert src dst x) :
    Steps1 P E a w (execOp a.eval o) (s, .fs 1 b.size (u8av b.data.toList)) := by
  obtain ⟨ti, i1, i2, i3, i4⟩ := slT_inv h1
  have hrun := run_bytes_of_string (P := P) w src dst e b (isStrT_inv h2) i1 (intT_inv h3)
  have hge := grownCap_ge w b.size 0 e
  have hcm := grownCap_le_maxLen w b.size 0 e (by unfold maxLen; omega)
  refine ⟨_, _, G, _, .inl (by simp [execOp, ho, hx]; rw [hrun]; rfl), hr.drew.newF _ ⟨_, _, _, rfl⟩, .d _ _ ?_⟩
  have hlen : (u8av b.data.toList).length = b.size := by simp [u8av]
  rcases Nat.eq_zero_or_pos b.size with h0 | h0
  · have : u8av b.data.toList = [] := List.eq_nil_of_length_eq_zero (by rw [hlen, h0])
    rw [this, h0]
    exact .fs0 1 _ _ (by rw [h0] at hcm; exact hcm)
  · refine .fs 1 b.size w.heap.size 0 _ _ (fun j => (bytesRow b (grownCap w b.size 0 e)).getD j undef) h0 hge hcm (by rw [hlen]; omega) (.inr rfl) (fun j hj => ?_) fun j u hu => ?_
    · refine (cell_cells (i := 0 + j) (heap_alloc_new w.drew _)).trans ?_
      rw [Nat.zero_add]
      have : j < (bytesRow b (grownCap w b.size 0 e)).size := by rw [hlen] at hj; simp [bytesRow]; omega
      simp [Array.getD, this]
    · simp only [u8av, List.getElem?_map, Option.map_eq_some_iff] at hu
      obtain ⟨c, hc, rfl⟩ := hu
      have hj : j < b.size := by simpa using (List.getElem?_eq_some_iff.1 hc).1
      have : (bytesRow b (grownCap w b.size 0 e)).getD j undef = u8 c := by
        rw [Array.getD_eq_getD_getElem?, bytesRow, Array.getElem?_append_left (by simpa using hj), Array.getElem?_map]
        rw [Array.getElem?_toList] at hc
        rw [hc]; rfl
      rw [this]
      exact .c _
theorem range_sound (hr : Rel E G F s a w) {t : TypeId} {x : Operand} {b : ByteArray} (h1 : isStrT P t = true) (hx : a.eval x = .string b) (o : Oper) (ho : o.op = .range t x) : Steps1 P E a w (execOp a.eval o) (s.push (.raw (.it b 0)), .ptr s.h.length 0 0) := by
  obtain ⟨u1, u2, u3⟩ := upd_same G s.h.length w.heap.size 0 false
  have hrun : (execOp a.eval o).run P w = .ok (.value (.pointer (some ⟨w.heap.size, 0, none⟩))) (w.alloc (.stringIter b 0)) := by
    simp [execOp, ho, hx, Instr.range, run_underlying (isStrT_inv h1)]
  refine ⟨_, _, _, F, .inl hrun, hr.new (.stringIter b 0) (.raw (.it b 0)) 0 rfl ⟨u3, by rw [u1]; exact fresh_nF hr, by rw [u1]; exact heap_alloc_new w _⟩, ?_⟩
  have := RepV.ptr (G := G.upd s.h.length w.heap.size 0 false) (F := F) (w := w.alloc (.stringIter b 0)) (ln := lens (s.h ++ [.raw (.it b 0)])) s.h.length 0 0 (lens_push _ _) u3
  rw [u1] at this
  exact this
theorem mref_inv {h : Nat} {v : Value} {ln : List Nat} (hr : RepV G ln F w (.mref h) v) (hl : ln[h]? = some 0) : G.vir h = false ∧ v = .map (some (G.σ h)) := by
  cases hr with
  | d _ _ h => cases h
  | mref _ h1 h2 => exact ⟨h2, rfl⟩
  | mrefOld _ m' _ h1 h2 => rw [hl] at h1; injection h1 with h1; omega
theorem msAt_inv {h : List AObj} {k : Nat} {es : List (ByteArray × Value)} (e : msAt h k = some es) : h[k]? = some (.raw (.ms es)) := by
  unfold msAt at e
  split at e
  · rename_i es' hk; injection e with e; subst e; exact hk
  · cases e
theorem findNow_ent (b : ByteArray) : ∀ (es : List (ByteArray × Value)) (n i : Nat), Instr.findNow .string (.string b) (entL n es) i = some (findS b es i)
  | [], _, _ => rfl
  | e :: es, n, i => by
    simp only [entL, Instr.findNow, Instr.sameNow, findS]
    cases h : b == e.1 with
    | true => rfl
    | false => simpa using findNow_ent b es (n + 1) (i + 1)
theorem entL_length : ∀ (n : Nat) (es : List (ByteArray × Value)), (entL n es).length = es.length
  | _, [] => rfl
  | n, e :: es => by simp [entL, entL_length (n + 1) es]
theorem entL_snoc (b : ByteArray) (x : Value) : ∀ (n : Nat) (es : List (ByteArray × Value)), entL n (es ++ [(b, x)]) = entL n es ++ [{ key := .string b, val := x, born := n + es.length }]
  | n, [] => rfl
  | n, e :: es => by
    simp only [List.cons_append, entL, entL_snoc b x (n + 1) es, List.length_cons]
    rw [show n + 1 + es.length = n + (es.length + 1) by omega]
theorem findS_at (b : ByteArray) : ∀ (es : List (ByteArray × Value)) (i j : Nat) (v : Value), findS b es i = some (j, v) → i ≤ j ∧ ∃ e, es[j - i]? = some e ∧ e.1 = b
  | [], _, _, _, h => by cases h
  | e :: es, i, j, v, h => by
    simp only [findS] at h
    split at h
    · rename_i hb
      injection h with h; injection h with h1 h2
      subst h1
      exact ⟨Nat.le_refl _, e, by simp, ((MapKept.bytes_beq _ _).1 hb).symm⟩
    · obtain ⟨h1, e', h2, h3⟩ := findS_at b es (i + 1) j v h
      refine ⟨by omega, e', ?_, h3⟩
      rw [show j - i = (j - (i + 1)) + 1 by omega, List.getElem?_cons_succ]
      exact h2
theorem entL_get : ∀ (n : Nat) (es : List (ByteArray × Value)) (j : Nat), (entL n es)[j]? = es[j]?.map fun e => { key := .string e.1, val := e.2, born := n + j }
  | _, [], j => by simp [entL]
  | n, e :: es, 0 => by simp [entL]
  | n, e :: es, j + 1 => by
    simp only [entL, List.getElem?_cons_succ, entL_get (n + 1) es j]
    rw [show n + 1 + j = n + (j + 1) by omega]
theorem entL_set (b : ByteArray) (x : Value) (es : List (ByteArray × Value)) (j : Nat) (e : ByteArray × Value) (hj : es[j]? = some e) (he : e.1 = b) :
    (entL 0 es).toArray.modify j (fun u => { u with key := .string b, val := x }) = (entL 0 (es.set j (b, x))).toArray := by
  apply Array.ext'
  apply List.ext_getElem?
  intro i
  have hjl : j < es.length := (List.getElem?_eq_some_iff.1 hj).1
  rw [Array.toList_modify, List.getElem?_modify]
  simp only [List.toList_toArray, entL_get]
  by_cases h : j = i
  · subst h
    rw [hj, List.getElem?_set_self hjl]
    simp
  · rw [List.getElem?_set_ne h]
    cases es[i]? <;> simp [h]
theorem zero1_run {e : TypeId} {z : Value} (h : zero1 P e = some z) : (zeroValue e).run P w = .ok z w := by
  unfold zero1 at h
  rw [Option.bind_eq_some_iff] at h
  obtain ⟨i, h1, h2⟩ := h
  simp [zeroValue, typeInfo, h1, h2]
theorem makeMap_sound (hr : Rel E G F s a w) {t k e : TypeId} (h1 : mapT P t = some (k, e)) (o : Oper) (ho : o.op = .makeMap t none) : Steps1 P E a w (execOp a.eval o) (s.push (.raw (.ms [])), .mref s.h.length) := by
  obtain ⟨u1, u2, u3⟩ := upd_same G s.h.length w.heap.size 0 false
  have hrun : (execOp a.eval o).run P w = .ok (.value (.map (some w.heap.size))) (w.alloc (.map #[] 0)) := by
    simp [execOp, ho, Instr.makeMap]
  refine ⟨_, _, _, F, .inl hrun, hr.new (.map #[] 0) (.raw (.ms [])) 0 rfl ⟨u3, by rw [u1]; exact fresh_nF hr, by rw [u1]; exact heap_alloc_new w _⟩, ?_⟩
  have := RepV.mref (G := G.upd s.h.length w.heap.size 0 false) (F := F) (w := w.alloc (.map #[] 0)) (ln := lens (s.h ++ [.raw (.ms [])])) s.h.length (lens_push _ _) u3
  rw [u1] at this
  exact this
theorem makeMapK_sound (hr : Rel E G F s a w) {t k e : TypeId} (h1 : mapT P t = some (k, e)) (o : Oper) (ho : o.op = .makeMap t none) : Steps1 P E a w (execOp a.eval o) (s.push (.raw (.mk [])), .mref s.h.length) := by
  obtain ⟨u1, u2, u3⟩ := upd_same G s.h.length w.heap.size 0 false
  have hrun : (execOp a.eval o).run P w = .ok (.value (.map (some w.heap.size))) (w.alloc (.map #[] 0)) := by
    simp [execOp, ho, Instr.makeMap]
  refine ⟨_, _, _, F, .inl hrun, hr.new (.map #[] 0) (.raw (.mk [])) 0 rfl ⟨u3, by rw [u1]; exact fresh_nF hr, by rw [u1]; exact heap_alloc_new w _⟩, ?_⟩
  have := RepV.mref (G := G.upd s.h.length w.heap.size 0 false) (F := F) (w := w.alloc (.map #[] 0)) (ln := lens (s.h ++ [.raw (.mk [])])) s.h.length (lens_push _ _) u3
  rw [u1] at this
  exact this
theorem mkAt_inv {h : List AObj} {k : Nat} {ks : List (List Value)} (e : mkAt h k = some ks) : h[k]? = some (.raw (.mk ks)) := by
  unfold mkAt at e
  split at e
  · rename_i es' hk; injection e with e; subst e; exact hk
  · cases e
theorem entK_length : ∀ (n : Nat) (ks : List (List Value)), (entK n ks).length = ks.length
  | _, [] => rfl
  | n, e :: ks => by simp [entK, entK_length (n + 1) ks]
theorem entK_snoc (k : List Value) : ∀ (n : Nat) (ks : List (List Value)), entK n (ks ++ [k]) = entK n ks ++ [{ key := .agg k.toArray, val := .bool true, born := n + ks.length }]
  | n, [] => rfl
  | n, e :: ks => by
    simp only [List.cons_append, entK, entK_snoc k (n + 1) ks, List.length_cons]
    rw [show n + 1 + ks.length = n + (ks.length + 1) by omega]
theorem entK_mem : ∀ (n : Nat) (ks : List (List Value)) (e : MapEntry), e ∈ entK n ks → (∃ k ∈ ks, e.key = .agg k.toArray) ∧ e.val = .bool true
  | n, [], e, h => by simp [entK] at h
  | n, k :: ks, e, h => by
    simp only [entK, List.mem_cons] at h
    rcases h with rfl | h
    · exact ⟨⟨k, by simp, rfl⟩, rfl⟩
    · obtain ⟨⟨k', h1, h2⟩, h3⟩ := entK_mem (n + 1) ks e h
      exact ⟨⟨k', by simp [h1], h2⟩, h3⟩
theorem entK_of : ∀ (n : Nat) (ks : List (List Value)) (k : List Value), k ∈ ks → ∃ e ∈ entK n ks, e.key = .agg k.toArray
  | n, k' :: ks, k, h => by
    rcases List.mem_cons.1 h with rfl | h
    · exact ⟨_, by simp [entK]; exact .inl rfl, rfl⟩
    · obtain ⟨e, h1, h2⟩ := entK_of (n + 1) ks k h
      exact ⟨e, by simp [entK, h1], h2⟩
theorem eqB1_eq {a b : Value} (h : eqB1 a b = true) : a = b := by
  unfold eqB1 at h
  split at h
  · simp only [Bool.and_eq_true, decide_eq_true_eq] at h
    rw [h.1, h.2]
  · rw [of_decide_eq_true h]
  · rw [of_decide_eq_true h]
  · cases h
theorem eqB1_refl {a : Value} (h : basV a = true) : eqB1 a a = true := by
  cases a <;> simp_all [basV, eqB1]
theorem eqL1_eq : ∀ {a b : List Value}, eqL1 a b = true → a = b
  | [], [], _ => rfl
  | x :: a, y :: b, h => by
    simp only [eqL1, Bool.and_eq_true] at h
    rw [eqB1_eq h.1, eqL1_eq h.2]
  | [], _ :: _, h => by simp [eqL1] at h
  | _ :: _, [], h => by simp [eqL1] at h
theorem eqL1_refl : ∀ {a : List Value}, a.all basV = true → eqL1 a a = true
  | [], _ => rfl
  | x :: a, h => by
    simp only [List.all_cons, Bool.and_eq_true] at h
    simp only [eqL1, Bool.and_eq_true]
    exact ⟨eqB1_refl h.1, eqL1_refl h.2⟩
theorem hasK_iff {ks : List (List Value)} {vs : List Value} (hb : vs.all basV = true) : hasK ks vs = true ↔ vs ∈ ks := by
  simp only [hasK, List.any_eq_true]
  constructor
  · rintro ⟨k, h1, h2⟩; rw [← eqL1_eq h2]; exact h1
  · intro h; exact ⟨vs, h, eqL1_refl hb⟩
theorem cvals_rep {ln : List Nat} : ∀ {l : List AV} {vs : List Value}, cvals l = some vs → ∀ {xs : List Value}, l.length = xs.length → (∀ (j : Nat) (u : AV) (x : Value), l[j]? = some u → xs[j]? = some x → RepV G ln F w u x) → xs = vs
  | [], vs, h, xs, h1, h2 => by
    simp only [cvals] at h; injection h with h; subst h
    exact List.eq_nil_of_length_eq_zero h1.symm
  | u :: l, vs, h, [], h1, h2 => by simp at h1
  | u :: l, vs, h, x :: xs, h1, h2 => by
    cases u with
    | c v =>
      simp only [cvals] at h
      rw [Option.map_eq_some_iff] at h
      obtain ⟨vs', h3, rfl⟩ := h
      have := h2 0 _ x rfl rfl
      rw [this.c_inv, cvals_rep h3 (xs := xs) (by simpa using h1) fun j u x hu hx => h2 (j + 1) u x (by simpa using hu) (by simpa using hx)]
    | _ => simp [cvals] at h
theorem mapUpdateK_sound (hr : Rel E G F s a w) {t : TypeId} {m k v : Operand} {x y u : AV} {q : Prop × AS × AV} (hq : updK P E.ho s t m k v x y u = some q) (hs : q.1) (hx : RepV G (lens s.h) F w x (a.eval m)) (hy : RepV G (lens s.h) F w y (a.eval k)) (hu : RepV G (lens s.h) F w u (a.eval v)) (o : Oper) (ho : o.op = .mapUpdate t m k v) : Steps1 P E a w (execOp a.eval o) q.2 := by
  unfold updK at hq
  split at hq
  · rename_i h l
    split at hq
    · rename_i kt e ks vs e1 e2 e3
      split at hq
      · rename_i hho
        injection hq with hq; subst hq
        obtain ⟨_, hlaw, hbas, hkeys⟩ := hs
        have hk := mkAt_inv e2
        have hln : (lens s.h)[h]? = some 0 := by simp [lens, List.getElem?_map, hk, lnO]
        obtain ⟨hv, hm⟩ := mref_inv hx hln
        obtain ⟨_, hnF, hb⟩ := hr.heap.obj h _ hk
        have hb : w.heap[G.σ h]? = some (.map (entK 0 ks).toArray ks.length) := hb
        have hkey : a.eval k = .agg vs.toArray := by
          obtain ⟨cs, h1, h2, h3⟩ := agg_inv hy
          have := cvals_rep e3 (xs := cs.toList) (by simpa using h2) fun j u x hu hx => h3 j u x hu (by simpa using hx)
          rw [h1, ← this]
        have hval : a.eval v = .bool true := hu.c_inv
        obtain ⟨lx, hlx⟩ := Option.isSome_iff_exists.1 (hkeys vs (by simp))
        have hck := hlaw.check w false hlx
        have hlt : G.σ h < w.heap.size := hr.heap.lt hk hv
        have hall : ∀ e ∈ entK 0 ks, ∃ l, keyOf P kt e.key = some l := fun e he => by
          obtain ⟨⟨k', h1, h2⟩, _⟩ := entK_mem 0 ks e he
          rw [h2]
          exact Option.isSome_iff_exists.1 (hkeys k' (by simp [h1]))
        have hrun : (execOp a.eval o).run P w = .ok .skip { w with heap := w.heap.setIfInBounds (G.σ h) (rawObj (.mk (addK ks vs))) } := by
          rcases hlaw.find w hlx (entK 0 ks) hall with ⟨hf, hne⟩ | ⟨j, e', hf, g1, g2⟩
          · have hno : ¬ hasK ks vs = true := fun hh => by
              obtain ⟨e', h1, h2⟩ := entK_of 0 ks vs ((hasK_iff hbas).1 hh)
              exact hne e' h1 h2
            have e4 : rawObj (.mk (addK ks vs)) = .map ((entK 0 ks).toArray.push { key := .agg vs.toArray, val := .bool true, born := ks.length }) (ks.length + 1) := by
              simp only [rawObj, addK, if_neg hno, entK_snoc, List.length_append, List.length_singleton, Nat.zero_add]
              congr 1
              exact (List.push_toArray ..).symm
            rw [e4]
            simp [execOp, ho, hm, hkey, hval, Instr.mapUpdate, Sem.run_bind, run_underlying (mapT_inv e1), MapKept.run_getObj_map hb, hck, hf, MapKept.run_setObj_map _ hb, Result.andThen]
          · have hmem : e' ∈ entK 0 ks := List.mem_of_getElem? g1
            obtain ⟨⟨k', h1, h2⟩, h3⟩ := entK_mem 0 ks e' hmem
            have hkk : k' = vs := by
              rw [h2] at g2; injection g2 with g2
              have := congrArg Array.toList g2
              simpa using this
            subst hkk
            have hyes : hasK ks k' = true := (hasK_iff hbas).2 h1
            have hst := hlaw.stays w hlx
            have e4 : rawObj (.mk (addK ks k')) = .map ((entK 0 ks).toArray.modify j fun u => { u with key := .agg k'.toArray, val := .bool true }) ks.length := by
              simp only [rawObj, addK, if_pos hyes]
              congr 1
              apply Array.ext'
              apply List.ext_getElem?
              intro i
              rw [Array.toList_modify, List.getElem?_modify]
              simp only [List.toList_toArray]
              by_cases hij : j = i
              · subst hij
                rw [g1]
                simp only [if_true, Option.map_some]
                obtain ⟨ek, ev, eb⟩ := e'
                simp only at h2 h3
                rw [h2, h3]; rfl
              · simp [hij]
            have hkj : (((entK 0 ks).toArray[j]?).map (·.key)).getD (.agg k'.toArray) = .agg k'.toArray := by
              simp [g1, g2]
            rw [e4]
            simp only [execOp, ho, hm, hkey, hval, Instr.mapUpdate, Sem.run_bind, run_underlying (mapT_inv e1), MapKept.run_getObj_map hb, hck, hf, hkj, hst, MapKept.run_setObj_map _ hb, Result.andThen_ok]
            simp
        obtain ⟨u1, u2, u3⟩ := upd_same G h (G.σ h) (G.bs h) false
        have hT := hr.turn hk hho rfl (y := .raw (.mk (addK ks vs))) rfl (Later.set (y := .raw (.mk (addK ks vs))) G hk (G.σ h) (G.bs h) (.inl ⟨rfl, rfl, rfl, hv⟩))
          (w' := { w with heap := w.heap.setIfInBounds (G.σ h) (rawObj (.mk (addK ks vs))) }) (fun c hc hne => by simp [Array.getElem?_setIfInBounds, Ne.symm hne]) ⟨rfl, rfl, rfl, by simp⟩ (.inl ⟨rfl, hv⟩)
          (fun _ hnF => ⟨u3, by rw [u1]; exact hnF, by rw [u1]; simp [hlt]⟩)
        exact ⟨undef, _, _, F, .inr ⟨hrun, rfl⟩, hT, .any _⟩
      · cases hq
    · cases hq
  · cases hq
theorem lookup_sound (hr : Rel E G F s a w) {t : TypeId} {m k : Operand} {x y : AV} {q : Prop × AS × AV} (hq : lookV P s t m k x y = some q) (hs : q.1) (hx : RepV G (lens s.h) F w x (a.eval m)) (hy : RepV G (lens s.h) F w y (a.eval k)) (o : Oper) (ho : o.op = .lookup t m k false) : Steps1 P E a w (execOp a.eval o) q.2 := by
  unfold lookV at hq
  split at hq
  · rename_i h b
    split at hq
    · rename_i kt e es e1 e2
      split at hq
      · rename_i hkt
        rw [Option.map_eq_some_iff] at hq
        obtain ⟨z, hz, rfl⟩ := hq
        have hk := msAt_inv e2
        have hln : (lens s.h)[h]? = some 0 := by simp [lens, List.getElem?_map, hk, lnO]
        obtain ⟨hv, hm⟩ := mref_inv hx hln
        obtain ⟨_, _, hb⟩ := hr.heap.obj h _ hk
        have hb : w.heap[G.σ h]? = some (.map (entL 0 es).toArray es.length) := hb
        have hkey : a.eval k = .string b := hy.c_inv
        have hkd : P.underlying kt = some .string := isStrT_inv hkt
        have hck : ∀ em, (Instr.checkKey em 10000 kt (.string b)).run P w = .ok () w := fun em => MapKept.run_checkKey (k := .string b) hkd (by simp [MapKept.IsKey]) em 9999
        have hf := MapKept.run_findKey (P := P) (w := w) hkd (findNow_ent b es 0 0)
        have hzero : (zeroValue e).run P w = .ok z w := zero1_run hz
        refine ⟨(lookS es b).getD z, w, G, F, .inl ?_, hr, .cc _⟩
        cases hfs : findS b es 0 with
        | none =>
          rw [hfs] at hf
          simp [execOp, ho, hm, hkey, Instr.lookup, Sem.run_bind, run_underlying (mapT_inv e1), MapKept.run_getObj_map hb, hck, hf, hzero, lookS, hfs, Result.andThen]
        | some p =>
          rw [hfs] at hf
          simp [execOp, ho, hm, hkey, Instr.lookup, Sem.run_bind, run_underlying (mapT_inv e1), MapKept.run_getObj_map hb, hck, hf, lookS, hfs, Result.andThen]
      · cases hq
    · cases hq
  · cases hq
theorem mapUpdate_sound (hr : Rel E G F s a w) {t : TypeId} {m k v : Operand} {x y u : AV} {q : Prop × AS × AV} (hq : updV P E.ho s t m k v x y u = some q) (hx : RepV G (lens s.h) F w x (a.eval m)) (hy : RepV G (lens s.h) F w y (a.eval k)) (hu : RepV G (lens s.h) F w u (a.eval v)) (o : Oper) (ho : o.op = .mapUpdate t m k v) : Steps1 P E a w (execOp a.eval o) q.2 := by
  unfold updV at hq
  split at hq
  · rename_i h b val
    split at hq
    · rename_i kt e es e1 e2
      split at hq
      · rename_i hkt
        obtain ⟨hkt, hho⟩ := hkt
        injection hq with hq; subst hq
        have hk := msAt_inv e2
        have hln : (lens s.h)[h]? = some 0 := by simp [lens, List.getElem?_map, hk, lnO]
        obtain ⟨hv, hm⟩ := mref_inv hx hln
        obtain ⟨_, hnF, hb⟩ := hr.heap.obj h _ hk
        have hb : w.heap[G.σ h]? = some (.map (entL 0 es).toArray es.length) := hb
        have hkey : a.eval k = .string b := hy.c_inv
        have hval : a.eval v = val := hu.c_inv
        have hkd : P.underlying kt = some .string := isStrT_inv hkt
        have hck : (Instr.checkKey false 10000 kt (.string b)).run P w = .ok () w := MapKept.run_checkKey (k := .string b) hkd (by simp [MapKept.IsKey]) false 9999
        have hf := MapKept.run_findKey (P := P) (w := w) hkd (findNow_ent b es 0 0)
        have hlt : G.σ h < w.heap.size := hr.heap.lt hk hv
        have hrun : (execOp a.eval o).run P w = .ok .skip { w with heap := w.heap.setIfInBounds (G.σ h) (rawObj (.ms (updS es b val))) } := by
          cases hfs : findS b es 0 with
          | none =>
            rw [hfs] at hf
            have e3 : rawObj (.ms (updS es b val)) = .map ((entL 0 es).toArray.push { key := .string b, val := val, born := es.length }) (es.length + 1) := by
              simp only [rawObj, updS, hfs, entL_snoc, List.length_append, List.length_singleton, Nat.zero_add]
              congr 1
              exact (List.push_toArray ..).symm
            rw [e3]
            simp [execOp, ho, hm, hkey, hval, Instr.mapUpdate, Sem.run_bind, run_underlying (mapT_inv e1), MapKept.run_getObj_map hb, hck, hf, MapKept.run_setObj_map _ hb, Result.andThen]
          | some p =>
            obtain ⟨j, ov⟩ := p
            rw [hfs] at hf
            obtain ⟨_, e', g1, g2⟩ := findS_at b es 0 j ov hfs
            rw [Nat.sub_zero] at g1
            have g3 : (entL 0 es)[j]? = some { key := .string b, val := e'.2, born := j } := by
              rw [entL_get, g1, Option.map_some, g2, Nat.zero_add]
            have e3 : rawObj (.ms (updS es b val)) = .map ((entL 0 es).toArray.modify j fun u => { u with key := .string b, val := val }) es.length := by
              simp only [rawObj, updS, hfs, List.length_set]
              rw [entL_set b val es j e' g1 g2]
            have hst := MapKept.run_keyThatStays (P := P) (w := w) (k := .string b) (d := .string) (by simp [MapKept.IsKey])
            rw [e3]
            simp [execOp, ho, hm, hkey, hval, Instr.mapUpdate, Sem.run_bind, run_underlying (mapT_inv e1), MapKept.run_getObj_map hb, hck, hf, g3, hst, MapKept.run_setObj_map _ hb, Result.andThen]
        obtain ⟨u1, u2, u3⟩ := upd_same G h (G.σ h) (G.bs h) false
        have hT := hr.turn hk hho rfl (y := .raw (.ms (updS es b val))) rfl (Later.set (y := .raw (.ms (updS es b val))) G hk (G.σ h) (G.bs h) (.inl ⟨rfl, rfl, rfl, hv⟩))
          (w' := { w with heap := w.heap.setIfInBounds (G.σ h) (rawObj (.ms (updS es b val))) }) (fun c hc hne => by simp [Array.getElem?_setIfInBounds, Ne.symm hne]) ⟨rfl, rfl, rfl, by simp⟩ (.inl ⟨rfl, hv⟩)
          (fun _ hnF => ⟨u3, by rw [u1]; exact hnF, by rw [u1]; simp [hlt]⟩)
        exact ⟨undef, _, _, F, .inr ⟨hrun, rfl⟩, hT, .any _⟩
      · cases hq
    · cases hq
  · cases hq
theorem lenM_sound (hr : Rel E G F s a w) {t : TypeId} {m : Operand} {x : AV} {q : Prop × AS × AV} (hq : lenM P s t m x = some q) (hx : RepV G (lens s.h) F w x (a.eval m)) (o : Oper) (c : Call) (ho : o.op = .call c) (hc : c.callee = .builtin .len) (ha : c.args = #[m]) (ht : c.argTypes = #[t]) : Steps1 P E a w (execOp a.eval o) q.2 := by
  unfold lenM at hq
  split at hq
  · rename_i h
    split at hq
    · rename_i kt es e1 e2
      injection hq with hq; subst hq
      have hk := msAt_inv e2
      have hln : (lens s.h)[h]? = some 0 := by simp [lens, List.getElem?_map, hk, lnO]
      obtain ⟨hv, hm⟩ := mref_inv hx hln
      obtain ⟨_, _, hb⟩ := hr.heap.obj h _ hk
      have hb : w.heap[G.σ h]? = some (.map (entL 0 es).toArray es.length) := hb
      refine ⟨.int .i64 es.length, w, G, F, .inl ?_, hr, .cc _⟩
      obtain ⟨k1, k2⟩ := kt
      obtain ⟨cal, args, ats⟩ := c
      simp only at hc ha ht
      subst hc ha ht
      simp [execOp, ho, resolve, invoke, builtin, Builtin.len_, hm, run_underlying (mapT_inv e1), MapKept.run_getObj_map hb, entL_length, goInt]
    · rename_i kt e1 e2
      rw [Option.map_eq_some_iff] at hq
      obtain ⟨ks, e3, hq⟩ := hq
      subst hq
      have hk := mkAt_inv e3
      have hln : (lens s.h)[h]? = some 0 := by simp [lens, List.getElem?_map, hk, lnO]
      obtain ⟨hv, hm⟩ := mref_inv hx hln
      obtain ⟨_, _, hb⟩ := hr.heap.obj h _ hk
      have hb : w.heap[G.σ h]? = some (.map (entK 0 ks).toArray ks.length) := hb
      refine ⟨.int .i64 ks.length, w, G, F, .inl ?_, hr, .cc _⟩
      obtain ⟨k1, k2⟩ := kt
      obtain ⟨cal, args, ats⟩ := c
      simp only at hc ha ht
      subst hc ha ht
      simp [execOp, ho, resolve, invoke, builtin, Builtin.len_, hm, run_underlying (mapT_inv e1), MapKept.run_getObj_map hb, entK_length, goInt]
    · cases hq
  · cases hq
theorem lenM_gc {t : TypeId} {m : Operand} {x : AV} {q : Prop × AS × AV} (hq : lenM P s t m x = some q) (hs : q.1) : (s.ev m).gc := by
  unfold lenM at hq
  split at hq
  · split at hq
    · injection hq with hq; subst hq; exact hs
    · rw [Option.map_eq_some_iff] at hq
      obtain ⟨ks, _, hq⟩ := hq
      subst hq; exact hs
    · cases hq
  · cases hq
theorem lookV_gc {t : TypeId} {m k : Operand} {x y : AV} {q : Prop × AS × AV} (hq : lookV P s t m k x y = some q) (hs : q.1) : (s.ev m).gc ∧ (s.ev k).gc := by
  unfold lookV at hq
  split at hq
  · split at hq
    · split at hq
      · rw [Option.map_eq_some_iff] at hq
        obtain ⟨z, _, rfl⟩ := hq
        exact ⟨hs.1, hs.2.1⟩
      · cases hq
    · cases hq
  · cases hq
theorem updV_gc {ho : Nat → Bool} {t : TypeId} {m k v : Operand} {x y u : AV} {q : Prop × AS × AV} (hq : updV P ho s t m k v x y u = some q) (hs : q.1) : (s.ev m).gc ∧ (s.ev k).gc ∧ (s.ev v).gc := by
  unfold updV at hq
  split at hq
  · split at hq
    · split at hq
      · injection hq with hq; subst hq; exact hs
      · cases hq
    · cases hq
  · cases hq
theorem updK_gc {ho : Nat → Bool} {t : TypeId} {m k v : Operand} {x y u : AV} {q : Prop × AS × AV} (hq : updK P ho s t m k v x y u = some q) (hs : q.1) : (s.ev m).gc ∧ (s.ev k).gc ∧ (s.ev v).gc := by
  unfold updK at hq
  split at hq
  · split at hq
    · split at hq
      · injection hq with hq; subst hq; exact hs.1
      · cases hq
    · cases hq
  · cases hq
theorem mark_sound (hr : Rel E G F s a w) {t : TypeId} {x : Operand} {e by_ k n m : Nat} {e' : Nat} {cs : List AV} (h1 : slT P t = some (e, 1, by_)) (h3 : intT P e = some .u8) (hx : RepV G (lens s.h) F w (.sl k 1 0 n m) (a.eval x)) (hk : s.h[k]? = some (.o (.row e' 1) cs)) (hho : E.ho k = false) (hm : cs.length = m) (hn : n = m) (h0 : 0 < n) (hd : cs.all isD = true)
    (o : Oper) (ho : o.op = .convert t t x) : Steps1 P E a w (execOp a.eval o) (s.setO k (.o .fz cs), .fs 1 n cs) := by
  obtain ⟨ti, i1, i2, i3, i4⟩ := slT_inv h1
  have hln : (lens s.h)[k]? = some m := by simp [lens, List.getElem?_map, hk, lnO, hm]
  rcases sl_inv hx hln with ⟨hv, q1, q2, q3, q4⟩ | ⟨hv, cap, hxe, g3, g4, g5⟩
  · omega
  have hob := hr.heap.obj k _ hk
  rcases hob with ⟨q, _⟩ | ⟨_, _, cur, c, hb, b2, b3, b4, b5, b6⟩
  · rw [hv] at q; cases q
  have hb : w.heap[G.σ k]? = some (.cells cur e' (0, 0)) := hb
  have hfr : (w.freeze ⟨G.σ k, cur.size, none⟩ 1).heap[G.σ k]? = some (.cells cur e' (cur.size, cur.size + 1)) := by
    unfold World.freeze
    rw [if_neg (by decide)]
    simp only [Array.getElem?_modify, if_true, hb]
    rfl
  have hoth : ∀ c, c ≠ G.σ k → (w.freeze ⟨G.σ k, cur.size, none⟩ 1).heap[c]? = w.heap[c]? := fun c hc => by
    unfold World.freeze
    rw [if_neg (by decide)]
    simp only [Array.getElem?_modify]
    rw [if_neg (fun h => hc h.symm)]
  have hrun : (execOp a.eval o).run P w = .ok (.value (.slice (some ⟨G.σ k, 0, none⟩) n cap)) (w.freeze ⟨G.σ k, cur.size, none⟩ 1) := by
    have hsh : w.shape? (G.σ k) = some (e', cur.size) := by unfold World.shape?; rw [hb]
    simp [execOp, ho, hxe, convert, run_underlying i1, run_underlying (intT_inv h3), markStringish, hsh]
  have hR := hr.frz hk hho hv hb hfr hoth ⟨by simp [World.freeze], by simp [World.freeze], by simp [World.freeze], by simp [World.freeze]⟩
  refine ⟨_, _, _, _, .inl hrun, hR, .d _ _ ?_⟩
  have hcell : ∀ j, j < cs.length → ∃ v, cur[j]? = some v ∧ ∀ u, cs[j]? = some u → RepD F w u v := fun j hj => by
    obtain ⟨v, e1, e2⟩ := b6 j cs[j] (List.getElem?_eq_getElem hj)
    refine ⟨v, e1, fun u hu => ?_⟩
    rw [List.getElem?_eq_getElem hj] at hu
    injection hu with hu; subst hu
    exact isD_rep (List.all_eq_true.1 hd _ (List.getElem_mem hj)) e2
  refine .fs 1 n (G.σ k) 0 cap cs (fun j => (cur[j]?).getD undef) h0 g3 g4 (by omega) (.inr rfl) (fun j hj => ?_) fun j u hu => ?_
  · obtain ⟨v, e1, _⟩ := hcell j hj
    rw [e1, Option.getD_some]
    refine (cell_cells (i := 0 + j) hfr).trans ?_
    rw [Nat.zero_add]; exact e1
  · obtain ⟨v, e1, e2⟩ := hcell j (List.getElem?_eq_some_iff.1 hu).1
    rw [e1, Option.getD_some]
    have hnF : ∀ b, F b → b ≠ G.σ k := fun b hb e => hr.heap.nfz hk hv rfl (e ▸ hb)
    exact (e2 u hu).keep (fun b h => .inl h) fun b hb => hoth b (hnF b hb)
theorem implO_sound (hr : Rel E G F s a w) (o : Oper) {q : Prop × AS × AV} (hq : implO P E.ho s o.op = some q) (hs : q.1) : Steps1 P E a w (execOp a.eval o) q.2 := by
  obtain ⟨dst, op, ty, pos, aft, gd⟩ := o
  simp only at hq
  unfold implO at hq
  split at hq
  · rw [Option.map_eq_some_iff] at hq
    obtain ⟨z, hz, rfl⟩ := hq
    exact alloc_sound hr hz _ rfl
  · split at hq
    · rename_i hok
      injection hq with hq; subst hq
      exact newbox_sound hr hok hs _ rfl
    · cases hq
  · split at hq
    · rename_i e sz by_ e1
      split at hq
      · rename_i z l e2 e3
        rw [Option.map_eq_some_iff] at hq
        obtain ⟨cs, hcs, rfl⟩ := hq
        exact buildSlice_sound hr e1 e2 e3 hcs hs _ rfl
      · cases hq
    · cases hq
  · split at hq
    · rename_i e sz by_ k1 n k2 m e1 e2 e3
      rw [Option.map_eq_some_iff] at hq
      obtain ⟨z, hz, rfl⟩ := hq
      obtain ⟨g1, g2, g3⟩ := hs
      have hx := (hr.ev _).ung g1
      have hy := (hr.ev _).ung g2
      rw [e2] at hx
      rw [e3] at hy
      exact makeSlice_sound hr e1 hz hx.c_inv hy.c_inv g3 _ rfl
    · cases hq
  · rw [Option.map_eq_some_iff] at hq
    obtain ⟨p, hp, rfl⟩ := hq
    exact store_sound hr hp hs.1 hs.2.1 hs.2.2 _ rfl
  · rename_i c
    obtain ⟨cal, args, ats⟩ := c
    obtain ⟨args⟩ := args
    obtain ⟨ats⟩ := ats
    simp only at hq
    split at hq
    · rename_i x y t tx
      split at hq
      · rename_i htx
        rw [Option.map_eq_some_iff] at hq
        obtain ⟨p, hp, rfl⟩ := hq
        exact app_zeros (ty := ty) hr htx hp hs.2.2 ((hr.ev x).ungs hs.1) ((hr.ev y).ung hs.2.1) _ (by simp [execOp, resolve, invoke, builtin])
      rw [Option.map_eq_some_iff] at hq
      obtain ⟨p, hp, rfl⟩ := hq
      exact app_sound (ty := ty) hr hp hs.2.2 ((hr.ev x).ungs hs.1) ((hr.ev y).ung hs.2.1) _ (by simp [execOp, resolve, invoke, builtin])
    · rename_i x y t tx
      split at hq
      · rename_i ht
        rw [Option.map_eq_some_iff] at hq
        obtain ⟨p, hp, rfl⟩ := hq
        exact copy_sound (ty := ty) hr hp hs.2.2 ht ((hr.ev x).ung hs.1) ((hr.ev y).ung hs.2.1) _ (by simp [execOp, resolve, invoke, builtin])
      · cases hq
    · rename_i x t
      exact lenM_sound hr hq ((hr.ev x).ung (lenM_gc hq hs)) _ _ rfl rfl rfl rfl
    · rename_i x t
      rw [Option.map_eq_some_iff] at hq
      obtain ⟨p, hp, rfl⟩ := hq
      exact clear_sound (ty := ty) hr hp hs.2 ((hr.ev x).ung hs.1) _ (by simp [execOp, resolve, invoke, builtin])
    · rename_i f x y _
      exact ovl_sound hr hq hs _ fun g hg => by simp [execOp, resolve, invoke, hg, Deferred.ofValue]
    · cases hq
  · rename_i src dst' x
    split at hq
    · rename_i b e1
      split at hq
      · rename_i e by_ e2
        split at hq
        · rename_i hc
          injection hq with hq; subst hq
          simp only [Bool.and_eq_true, beq_iff_eq] at hc
          have hx := (hr.ev x).ung hs.1
          rw [e1] at hx
          exact bytes_sound hr e2 hc.1 hc.2 hx.c_inv hs.2 _ rfl
        · cases hq
      · cases hq
    · rename_i k n m e1
      split at hq
      · rename_i e by_ e' cs e2 e3
        split at hq
        · rename_i hc
          injection hq with hq; subst hq
          obtain ⟨rfl, c2, c3⟩ := hc
          obtain ⟨g1, g2, g3, g4, g5⟩ := hs
          have hx := (hr.ev x).ung g1
          rw [e1] at hx
          exact mark_sound hr e2 c2 hx e3 c3 g2 g3 g4 g5 _ rfl
        · cases hq
      · cases hq
    · cases hq
  · rename_i t x
    split at hq
    · rename_i b e1
      split at hq
      · rename_i hc
        injection hq with hq; subst hq
        have hx := (hr.ev x).ung hs
        rw [e1] at hx
        exact range_sound hr hc hx.c_inv _ rfl
      · cases hq
    · cases hq
  · split at hq
    · rename_i k e e1
      split at hq
      · injection hq with hq; subst hq
        exact makeMap_sound hr e1 _ rfl
      · injection hq with hq; subst hq
        exact makeMapK_sound hr e1 _ rfl
    · cases hq
  · have hg := lookV_gc hq hs
    exact lookup_sound hr hq hs ((hr.ev _).ung hg.1) ((hr.ev _).ung hg.2) _ rfl
  · unfold updW at hq
    split at hq
    · rename_i h1 h2
      have hg := updK_gc hq hs
      rw [← h2] at hq
      exact mapUpdateK_sound hr hq hs ((hr.ev _).ung hg.1) ((hr.ev _).ung hg.2.1) ((hr.ev _).ung hg.2.2) _ rfl
    · have hg := updV_gc hq hs
      exact mapUpdate_sound hr hq ((hr.ev _).ung hg.1) ((hr.ev _).ung hg.2.1) ((hr.ev _).ung hg.2.2) _ rfl
  · cases hq
end

/-! ## A step, a list of steps -/
def callable (P : Program) (g : FuncId) : Bool := match P.funcs[g]? with | some fn => fn.name != "runtime.NumGoroutine" && fn.body.isSome | none => false
/-- a call of function g, from here on -/
def CallG (P : Program) (E : Env) (g : FuncId) (args : List AV) (s : AS) (K : AV → AS → Prop) : Prop :=
  ∀ (G : Gh) (F : Nat → Prop) (a : Act) (w : World) (vs : Array Value), Rel E G F s a w → args.length = vs.size → (∀ (j : Nat) (u : AV) (x : Value), args[j]? = some u → vs[j]? = some x → RepV G (lens s.h) F w u x) →
    Calls P g vs w fun e w' => ∃ (x : Value) (r : AV) (s' : AS) (G' : Gh) (F' : Nat → Prop), e = .returned x ∧ Rel E G' F' s' a w' ∧ RepV G' (lens s'.h) F' w' r x ∧ K r s'
/-- what comes later is named, not written out: so simp does not look at it before its time -/
def swapK {κ : Type} (f : AS → κ → Prop) (k : κ) (s : AS) : Prop := f s k
def putK (d : Option Nat) (K : AS → Prop) (r : AV) (s : AS) : Prop := K (s.put d r)
def gcsL (s : AS) : List Operand → Prop
  | [] => True
  | x :: r => (s.ev x).gc ∧ gcsL s r
def evL (s : AS) (l : List Operand) : List AV := l.map fun x => (s.ev x).ung
def callP (P : Program) (E : Env) (s : AS) (d : Option Nat) (K : AS → Prop) (args : List Operand) : AV → Prop
  | .clo (.func g) first caps => callable P g = true ∧ gcsL s args ∧ CallG P E g (first ++ evL s args ++ caps) s (putK d K)
  | _ => False
def onIt (ho : Nat → Bool) (s : AS) (d : Option Nat) (K : AS → Prop) (k : Nat) : Option AObj → Prop
  | some (.raw (.it b pos)) => ho k = false ∧ (pos < b.size → K ((s.setO k (.raw (.it b (pos + (Utf8.decode b pos).2)))).put d (.tup [.c (.bool true), .c (.int .i64 pos), .c (.int .i32 (Utf8.decode b pos).1)]))) ∧ (¬ pos < b.size → K (s.put d (.tup [.c (.bool false)])))
  | _ => False
def nextP (ho : Nat → Bool) (s : AS) (d : Option Nat) (K : AS → Prop) : AV → Prop
  | .ptr k 0 0 => onIt ho s d K k s.h[k]?
  | _ => False
def pickP (s : AS) (d : Option Nat) (K : AS → Prop) (a b : AV) : AV → Prop
  | .c (.bool v) => if v = true then K (s.put d a) else K (s.put d b)
  | _ => False
/-- is a slice nil? If it is empty (z) it may be so, or not. -/
def nilOp (s : AS) (d : Option Nat) (K : AS → Prop) (op : BinOp) (z : Prop) : Prop := match op with
  | .eql => K (s.put d (.c (.bool false))) ∧ (z → K (s.put d (.c (.bool true))))
  | .neq => K (s.put d (.c (.bool true))) ∧ (z → K (s.put d (.c (.bool false))))
  | _ => False
def isLit : Operand → Bool
  | .const _ => true
  | _ => false
def ifT (P : Program) (t : TypeId) : Bool := match P.underlying t with
  | some (.interface _) => true
  | _ => false
def ifOp (s : AS) (d : Option Nat) (K : AS → Prop) (op : BinOp) (b : Bool) : Prop := match op with
  | .eql => K (s.put d (.c (.bool b)))
  | .neq => K (s.put d (.c (.bool (!b))))
  | _ => False
def nilEq (P : Program) (s : AS) (d : Option Nat) (K : AS → Prop) (op : BinOp) (t : TypeId) (lit : Bool) : AV → AV → Prop
  | .sl h _ _ _ m, .c (.slice none 0 0) => (slT P t).isSome = true ∧ (lens s.h)[h]? = some m ∧ nilOp s d K op (m = 0)
  | .fs _ n _, .c (.slice none 0 0) => (slT P t).isSome = true ∧ nilOp s d K op (n = 0)
  | .c .nilIface, .c .nilIface => ifT P t = true ∧ lit = true ∧ ifOp s d K op true
  | .c (.iface _ _), .c .nilIface => ifT P t = true ∧ ifOp s d K op false
  | _, _ => False
def stepC (P : Program) (E : Env) (o : Oper) (s : AS) (K : AS → Prop) : Prop :=
  match o.op with
  | .pick c a b => (s.ev c).gc ∧ pickP s o.dst K (s.ev a) (s.ev b) (s.ev c).ung
  | .binOp op t x y _ => (s.ev x).gc ∧ (s.ev y).gc ∧ nilEq P s o.dst K op t (isLit y) (s.ev x).ung (s.ev y).ung
  | .next it true => (s.ev it).gc ∧ nextP E.ho s o.dst K (s.ev it).ung
  | .call c => match c.callee with
    | .value f => (s.ev f).gc ∧ callP P E s o.dst K c.args.toList (s.ev f).ung
    | _ => False
  | _ => False
def onImpl (P : Program) (E : Env) (o : Oper) (s : AS) (K : AS → Prop) : Option (Prop × AS × AV) → Prop
  | some q => q.1 ∧ K (q.2.1.put o.dst q.2.2)
  | none => stepC P E o s K
def onPure (P : Program) (E : Env) (o : Oper) (s : AS) (K : AS → Prop) : Option (Prop × AV) → Prop
  | some q => q.1 ∧ K (s.put o.dst q.2)
  | none => onImpl P E o s K (implO P E.ho s o.op)
def stepO (P : Program) (E : Env) (o : Oper) (s : AS) (K : AS → Prop) : Prop := onPure P E o s K (pureV P anyRo s o.op)
/-- whether a guarded operation is carried out -/
def gV : AV → Bool → Option Bool
  | .c (.bool b), want => some (b == want)
  | .g b w (.c (.bool x)), want => some (b == w && x == want)
  | .c (.tuple _), _ => some false
  | .g _ _ (.c (.tuple _)), _ => some false
  | _, _ => none
def guardV (ops : Array Oper) (s : AS) (j : Nat) (want : Bool) : Option Bool := match (ops[j]?).bind (·.dst) with
  | some d => gV (s.ev (.tmp d)) want
  | none => none
/-- an operation whose guard is known, or not -/
def condG (P : Program) (E : Env) (o : Oper) (s : AS) (K : AS → Prop) (c : Bool) : Prop := (c = true → stepO P E o s K) ∧ (c = false → K (s.put o.dst (.c undef)))
/-- what is known if c is true; of what is known if b is -/
def mkG (c : Bool) : AV → AV
  | .g b want v => .g (c && (b == want)) true v
  | .any => .any
  | .c v => .g c true (.c v)
  | .ptr h o m => .g c true (.ptr h o m)
  | .mref h => .g c true (.mref h)
  | .sl h z o n m => .g c true (.sl h z o n m)
  | .slc h z o n m => .g c true (.slc h z o n m)
  | .fs z n l => .g c true (.fs z n l)
  | .fp l => .g c true (.fp l)
  | .agg l => .g c true (.agg l)
  | .tup l => .g c true (.tup l)
  | .clo f l k => .g c true (.clo f l k)
theorem mkG_rep {G : Gh} {ln : List Nat} {F : Nat → Prop} {w : World} {c : Bool} {u : AV} {x : Value} (h1 : c = true → RepV G ln F w u x) (h2 : c ≠ true → x = undef) : RepV G ln F w (mkG c u) x := by
  cases u with
  | g b want v =>
    refine .g _ true v x (fun h => ?_) fun h => ?_
    · simp only [Bool.and_eq_true, beq_iff_eq] at h
      have := h1 h.1
      cases this with
      | d _ _ hd => cases hd
      | g _ _ _ _ g1 g2 => exact g1 h.2
    · by_cases hc : c = true
      · have := h1 hc
        cases this with
        | d _ _ hd => cases hd
        | g _ _ _ _ g1 g2 =>
          refine g2 fun hb => h ?_
          rw [hc, hb]; simp
      · exact h2 hc
  | any => exact .any x
  | _ => exact .g c true _ x h1 h2
def onGP (P : Program) (E : Env) (o : Oper) (s : AS) (K : AS → Prop) (c : Bool) : Option (Prop × AV) → Prop
  | some q => (c = true → q.1) ∧ K (s.put o.dst (mkG c q.2))
  | none => condG P E o s K c
def onGV (P : Program) (E : Env) (o : Oper) (s : AS) (K : AS → Prop) : Option Bool → Prop
  | some c => onGP P E o s K c (pureV P anyRo s o.op)
  | none => False
def stepP (P : Program) (E : Env) (ops : Array Oper) (o : Oper) (s : AS) (K : AS → Prop) : Prop :=
  match o.guard with
  | none => stepO P E o s K
  | some (j, want) => onGV P E o s K (guardV ops s j want)
theorem condG_true {P : Program} {E : Env} {o : Oper} {s : AS} {K : AS → Prop} : condG P E o s K true = stepO P E o s K := by simp [condG]
theorem condG_false {P : Program} {E : Env} {o : Oper} {s : AS} {K : AS → Prop} : condG P E o s K false = K (s.put o.dst (.c undef)) := by simp [condG]
def runL (P : Program) (E : Env) (ops : Array Oper) : List Oper → AS → (AS → Prop) → Prop
  | [], s, K => K s
  | o :: l, s, K => stepP P E ops o s (swapK (runL P E ops l) K)

section
variable {P : Program} {E : Env} {s : AS} {a : Act} {w : World}
theorem Sat.put {d : Option Nat} {v : AV} {x : Value} {G : Gh} {F : Nat → Prop} (hr : Rel E G F s a w) (hv : RepV G (lens s.h) F w v x) : Sat E (s.put d v) (a.put d x) w := ⟨G, F, hr.put hv d⟩
theorem callable_inv {g : FuncId} (h : callable P g = true) (args : Array Value) (w : World) : (callFunc g args).run P w = .ok (.enter g args) w := by
  unfold callable at h
  split at h
  · rename_i fn hfn
    simp only [Bool.and_eq_true, bne_iff_ne, ne_eq] at h
    obtain ⟨b, hb⟩ := Option.isSome_iff_exists.1 h.2
    simp [callFunc, hfn, h.1, hb]
  · cases h
theorem clo_inv {G : Gh} {F : Nat → Prop} {ln : List Nat} {f : Fn} {l k : List AV} {x : Value} (hr : RepV G ln F w (.clo f l k) x) : ∃ cs ds : Array Value, x = .func f cs ds ∧ l.length = cs.size ∧ k.length = ds.size ∧ (∀ (j : Nat) (u : AV) (x : Value), l[j]? = some u → cs[j]? = some x → RepV G ln F w u x) ∧
    ∀ (j : Nat) (u : AV) (x : Value), k[j]? = some u → ds[j]? = some x → RepV G ln F w u x := by
  cases hr with
  | d _ _ h => cases h
  | clo _ _ _ cs ds h1 h2 h3 h4 => exact ⟨cs, ds, rfl, h1, h2, h3, h4⟩
theorem rep_app {G : Gh} {F : Nat → Prop} {ln : List Nat} {l k : List AV} {cs ds : Array Value} (hl : l.length = cs.size) (h1 : ∀ (j : Nat) (u : AV) (x : Value), l[j]? = some u → cs[j]? = some x → RepV G ln F w u x)
    (h2 : ∀ (j : Nat) (u : AV) (x : Value), k[j]? = some u → ds[j]? = some x → RepV G ln F w u x) : ∀ (j : Nat) (u : AV) (x : Value), (l ++ k)[j]? = some u → (cs ++ ds)[j]? = some x → RepV G ln F w u x := by
  intro j u x hu hx
  by_cases hj : j < l.length
  · rw [List.getElem?_append_left hj] at hu
    rw [Array.getElem?_append_left (by omega)] at hx
    exact h1 j u x hu hx
  · rw [List.getElem?_append_right (by omega)] at hu
    rw [Array.getElem?_append_right (by omega), ← hl] at hx
    exact h2 _ u x hu hx
theorem evL_rep {G : Gh} {F : Nat → Prop} (hr : Rel E G F s a w) : ∀ (l : List Operand), gcsL s l → (evL s l).length = (l.map a.eval).length ∧ ∀ (j : Nat) (u : AV) (x : Value), (evL s l)[j]? = some u → (l.map a.eval)[j]? = some x → RepV G (lens s.h) F w u x := by
  intro l
  induction l with
  | nil => intro _; exact ⟨rfl, fun j u x h => by simp [evL] at h⟩
  | cons y r ih =>
    intro hg
    obtain ⟨i1, i2⟩ := ih hg.2
    refine ⟨by simp [evL], fun j u x hu hx => ?_⟩
    cases j with
    | zero => simp [evL] at hu hx; subst hu hx; exact (hr.ev y).ung hg.1
    | succ j => exact i2 j u x (by simpa [evL] using hu) (by simpa using hx)
def upB (P : Program) (o : Oper) (a : Act) (next : Act → World → Prop) : Result Next → Prop
  | .ok (.value v) w' => next (a.put o.dst v) w'
  | .ok .skip w' => next (a.put o.dst undef) w'
  | .ok (.enter f args) w' => Calls P f args w' fun e w'' => ∃ v, e = .returned v ∧ next (a.put o.dst v) w''
  | _ => False
/-- what an operation comes to, wherever it stands: in a round too -/
def _root_.Go.Oper.wpB (P : Program) (o : Oper) (a : Act) (w : World) (next : Act → World → Prop) : Prop := (∀ c, o.op ≠ .defer c) ∧ upB P o a next ((execOp a.eval o).run P w)
theorem wpB_wp {o : Oper} {next : Act → World → Prop} {Q : Exit → Act → World → Prop} (h : o.wpB P a w next) : o.wp P a w next Q := by
  obtain ⟨_, h⟩ := h
  unfold Oper.wp
  generalize (execOp a.eval o).run P w = r at *
  unfold upB at h
  split at h
  · exact h
  · exact h
  · exact h.mono fun e w' ⟨v, he, hn⟩ => by subst he; exact hn
  · cases h
theorem run_nilEq (op : BinOp) (t e : TypeId) (x y : Operand) (A : Option Addr) (n c : Nat) (he : P.underlying t = some (.slice e)) (w' : World) : (do eqGuard op t x y (.slice A n c) (.slice none 0 0); binOp op t (.slice A n c) (.slice none 0 0)).run P w' = (binOp op t (.slice A n c) (.slice none 0 0)).run P w' := by
  rw [Sem.run_bind, run_eqGuard_none _ _ _ _ _ _ _ (by simp) (by simp)]; rfl
theorem ifT_some {P : Program} {t : TypeId} (h : ifT P t = true) : P.underlying t = some (.interface (P.methodsAt t)) := by
  unfold ifT at h
  unfold Program.methodsAt
  cases hu : P.underlying t with
  | none => rw [hu] at h; cases h
  | some u =>
    rw [hu] at h
    cases u <;> first | rfl | cases h
theorem nilEq_sound {G : Gh} {F : Nat → Prop} {ln : List Nat} (hln : ln = lens s.h) {d : Option Nat} {K : AS → Prop} {op : BinOp} {t : TypeId} {u v : AV} {lit : Bool} (h : nilEq P s d K op t lit u v) {x y : Value} (hx : RepV G ln F w u x) (hy : RepV G ln F w v y) (ox oy : Operand) (hlit : isLit oy = lit) :
    ∃ b : Bool, (∀ w', (do eqGuard op t ox oy x y; binOp op t x y).run P w' = .ok (.bool b) w') ∧ K (s.put d (.c (.bool b))) := by
  subst hln
  have key : ∀ (A : Option Addr) (n c : Nat) (z : Prop), (slT P t).isSome = true → (A = none → z) → nilOp s d K op z → ∃ b : Bool, (∀ w', (do eqGuard op t ox oy (.slice A n c) (.slice none 0 0); binOp op t (.slice A n c) (.slice none 0 0)).run P w' = .ok (.bool b) w') ∧ K (s.put d (.c (.bool b))) := by
    intro A n c z h1 h2 h3
    obtain ⟨e, he⟩ := slT_some h1
    unfold nilOp at h3
    split at h3
    · cases A with
      | none => exact ⟨true, fun w' => by rw [run_nilEq _ _ _ _ _ _ _ _ he]; simp [binOp, run_equal_slice_nil _ _ _ _ _ _ he], h3.2 (h2 rfl)⟩
      | some b => exact ⟨false, fun w' => by rw [run_nilEq _ _ _ _ _ _ _ _ he]; simp [binOp, run_equal_slice_nil _ _ _ _ _ _ he], h3.1⟩
    · cases A with
      | none => exact ⟨false, fun w' => by rw [run_nilEq _ _ _ _ _ _ _ _ he]; simp [binOp, run_equal_slice_nil _ _ _ _ _ _ he], h3.2 (h2 rfl)⟩
      | some b => exact ⟨true, fun w' => by rw [run_nilEq _ _ _ _ _ _ _ _ he]; simp [binOp, run_equal_slice_nil _ _ _ _ _ _ he], h3.1⟩
    · cases h3
  unfold nilEq at h
  split at h
  · rename_i k _ _ _ m
    have e2 := hy.c_inv
    subst e2
    obtain ⟨h1, h2, h3⟩ := h
    cases hx with
    | d _ _ hx => cases hx
    | sl _ _ _ _ _ c => exact key _ _ _ _ h1 (fun h => by cases h) h3
    | slNil _ _ e1 => exact key _ _ _ _ h1 (fun _ => rfl) h3
    | slOld _ _ _ _ _ m' A l c e1 e2 => rw [h2] at e1; injection e1 with e1; omega
  · have e2 := hy.c_inv
    subst e2
    obtain ⟨h1, h3⟩ := h
    cases hx with
    | d _ _ hx =>
      cases hx with
      | fs0 _ A c => exact key _ _ _ _ h1 (fun _ => rfl) h3
      | fs _ n b o c l f => exact key _ _ _ _ h1 (fun h => by cases h) h3
  · have e1 := hx.c_inv
    have e2 := hy.c_inv
    subst e1 e2
    obtain ⟨h1, h2, h3⟩ := h
    obtain ⟨c, rfl⟩ : ∃ c, oy = .const c := by
      rw [h2] at hlit
      cases oy with
      | const c => exact ⟨c, rfl⟩
      | _ => cases hlit
    have hi := ifT_some h1
    unfold ifOp at h3
    split at h3
    · exact ⟨true, fun w' => by rw [eqGuard_nil_constR]; exact run_eql_nil_nil w' _ hi, h3⟩
    · exact ⟨false, fun w' => by rw [eqGuard_nil_constR]; exact run_neq_nil_nil w' _ hi, h3⟩
    · cases h3
  · have e1 := hx.c_inv
    have e2 := hy.c_inv
    subst e1 e2
    obtain ⟨h1, h3⟩ := h
    have hi := ifT_some h1
    unfold ifOp at h3
    split at h3
    · exact ⟨false, fun w' => by rw [Sem.run_bind, run_eqGuard_none _ _ _ _ _ _ _ (by simp) (by simp)]; exact run_eql_held_nil w' _ _ _ hi, h3⟩
    · exact ⟨true, fun w' => by rw [Sem.run_bind, run_eqGuard_none _ _ _ _ _ _ _ (by simp) (by simp)]; exact run_neq_held_nil w' _ _ _ hi, h3⟩
    · cases h3
  · cases h
theorem stepO_soundB {G : Gh} {F : Nat → Prop} (hr : Rel E G F s a w) (o : Oper) {K : AS → Prop} (h : stepO P E o s K) {next : Act → World → Prop} (hn : ∀ s' a' w', Sat E s' a' w' → K s' → next a' w') : o.wpB P a w next := by
  have hnd : ∀ c, o.op ≠ .defer c := fun c hc => by simp [stepO, onPure, onImpl, stepC, pureV, implO, hc] at h
  refine ⟨hnd, ?_⟩
  unfold stepO onPure at h
  split at h
  · rename_i q hq
    obtain ⟨x, h1, h2⟩ := pureV_sound hr o hq h.1
    unfold upB
    rw [h1 w (SameOn.refl _ _ _ _ _)]
    exact hn _ _ _ (Sat.put hr h2) h.2
  · unfold onImpl at h
    split at h
    · rename_i q hq
      obtain ⟨x, w', G', F', h1, h2, h3⟩ := implO_sound hr o hq h.1
      unfold upB
      rcases h1 with h1 | ⟨h1, rfl⟩
      · rw [h1]; exact hn _ _ _ (Sat.put h2 h3) h.2
      · rw [h1]; exact hn _ _ _ (Sat.put h2 h3) h.2
    · unfold stepC at h
      split at h
      · rename_i c x y ho
        obtain ⟨g1, h⟩ := h
        have hc := (hr.ev c).ung g1
        unfold pickP at h
        split at h
        · rename_i v e1
          rw [e1] at hc
          have hrun : (execOp a.eval o).run P w = .ok (.value (if v then a.eval x else a.eval y)) w := by
            simp [execOp, ho, hc.c_inv, asBool]
          unfold upB
          rw [hrun]
          cases v
          · exact hn _ _ _ (Sat.put hr (hr.ev y)) (by simpa using h)
          · exact hn _ _ _ (Sat.put hr (hr.ev x)) (by simpa using h)
        · cases h
      · rename_i op t x y mx ho
        obtain ⟨g1, g2, h⟩ := h
        obtain ⟨b, hb, hk⟩ := nilEq_sound rfl h ((hr.ev x).ung g1) ((hr.ev y).ung g2) x y rfl
        have hrun : (execOp a.eval o).run P w = .ok (.value (.bool b)) w := by
          have := runv (hb w)
          simpa [execOp, ho] using this
        unfold upB
        rw [hrun]
        exact hn _ _ _ (Sat.put hr (.cc _)) hk
      · rename_i it ho
        obtain ⟨g1, h⟩ := h
        have hc := (hr.ev it).ung g1
        unfold nextP at h
        split at h
        · rename_i k e1
          rw [e1] at hc
          unfold onIt at h
          split at h
          · rename_i b pos hk
            have hln : (lens s.h)[k]? = some 0 := by simp [lens, List.getElem?_map, hk, lnO]
            obtain ⟨hv, hx⟩ := ptr_inv hc hln
            obtain ⟨_, hnF, hb⟩ := hr.heap.obj k _ hk
            have hb : w.heap[G.σ k]? = some (.stringIter b pos) := hb
            obtain ⟨hho, h⟩ := h
            by_cases hp : pos < b.size
            · have hrun : (execOp a.eval o).run P w = .ok (.value (.tuple #[.bool true, goInt pos, .int .i32 (Utf8.decode b pos).1])) { w with heap := w.heap.setIfInBounds (G.σ k) (.stringIter b (pos + (Utf8.decode b pos).2)) } := by
                simp [execOp, ho, hx, Instr.next, getObj, setObj, Sem.run, hb, hp]
              unfold upB
              rw [hrun]
              have hlt : G.σ k < w.heap.size := hr.heap.lt hk hv
              obtain ⟨u1, u2, u3⟩ := upd_same G k (G.σ k) (G.bs k) false
              have hT := hr.turn hk hho rfl (y := .raw (.it b (pos + (Utf8.decode b pos).2))) rfl (Later.set (y := .raw (.it b (pos + (Utf8.decode b pos).2))) G hk (G.σ k) (G.bs k) (.inl ⟨rfl, rfl, rfl, hv⟩))
                (w' := { w with heap := w.heap.setIfInBounds (G.σ k) (.stringIter b (pos + (Utf8.decode b pos).2)) }) (fun c hc hne => by simp [Array.getElem?_setIfInBounds, Ne.symm hne]) ⟨rfl, rfl, rfl, by simp⟩ (.inl ⟨rfl, hv⟩)
                (fun _ hnF => ⟨u3, by rw [u1]; exact hnF, by rw [u1]; simp [hlt, rawObj]⟩)
              refine hn _ _ _ (Sat.put hT (.tup _ _ rfl fun j u x hu hx => ?_)) (h.1 hp)
              match j, hu, hx with
              | 0, hu, hx => simp at hu hx; subst hu hx; exact .cc _
              | 1, hu, hx => simp [goInt] at hu hx; subst hu hx; exact .cc _
              | 2, hu, hx => simp at hu hx; subst hu hx; exact .cc _
              | j + 3, hu, hx => simp at hu
            · have hrun : (execOp a.eval o).run P w = .ok (.value (.tuple #[.bool false])) w := by
                simp [execOp, ho, hx, Instr.next, getObj, Sem.run, hb, hp]
              unfold upB
              rw [hrun]
              refine hn _ _ _ (Sat.put hr (.tup _ _ rfl fun j u x hu hx => ?_)) (h.2 hp)
              match j, hu, hx with
              | 0, hu, hx => simp at hu hx; subst hu hx; exact .cc _
              | j + 1, hu, hx => simp at hu
          · cases h
        · cases h
      · rename_i c ho
        split at h
        · rename_i f hf
          obtain ⟨g1, h⟩ := h
          have hc := (hr.ev f).ung g1
          unfold callP at h
          split at h
          · rename_i g first caps e1
            obtain ⟨g2, g3, h⟩ := h
            rw [e1] at hc
            obtain ⟨cs, ds, e2, l1, l2, l3, l4⟩ := clo_inv hc
            obtain ⟨m1, m2⟩ := evL_rep hr c.args.toList g3
            have hrun : (execOp a.eval o).run P w = .ok (.enter g (cs ++ c.args.map a.eval ++ ds)) w := by
              have hcf := fun args => callable_inv (P := P) g2 args w
              unfold execOp
              simp [ho, resolve, hf, e2, Deferred.ofValue, invoke, hcf]
            unfold upB
            rw [hrun]
            have hl1 : (first ++ evL s c.args.toList).length = (cs ++ c.args.map a.eval).size := by simp [l1, m1]
            have hrep1 := rep_app (G := G) (ln := lens s.h) (F := F) (w := w) (cs := cs) (ds := c.args.map a.eval) l1 l3 fun j u x hu hx => m2 j u x hu (by simpa using hx)
            refine (h G F a w (cs ++ c.args.map a.eval ++ ds) hr (by simp [l1, l2, m1]) (rep_app hl1 hrep1 l4)).mono fun e w' ⟨x, r, s', G', F', he, hR, hV, hK⟩ => ?_
            exact ⟨x, he, hn _ _ _ (Sat.put hR hV) hK⟩
          · cases h
        · cases h
      · cases h
theorem stepO_sound {G : Gh} {F : Nat → Prop} (hr : Rel E G F s a w) (o : Oper) {K : AS → Prop} (h : stepO P E o s K) {Q : Exit → Act → World → Prop} {next : Act → World → Prop} (hn : ∀ s' a' w', Sat E s' a' w' → K s' → next a' w') : o.wp P a w next Q := wpB_wp (stepO_soundB hr o h hn)
theorem gV_sound {G : Gh} {F : Nat → Prop} {ln : List Nat} {u : AV} {want c : Bool} {x : Value} (hq : gV u want = some c) (hr : RepV G ln F w u x) : (match some x with | some (.bool b) => some b | _ => none) == some want ↔ c = true := by
  unfold gV at hq
  split at hq
  · injection hq with hq; subst hq
    rw [hr.c_inv]
    simp
  · injection hq with hq; subst hq
    cases hr with
    | d _ _ h => cases h
    | g _ _ _ _ h1 h2 =>
      rename_i b wt y _
      by_cases hb : wt = y
      · have := (h1 hb).c_inv
        subst this
        simp [hb]
      · have := h2 hb
        subst this
        simp [hb, undef]
  · injection hq with hq; subst hq
    rw [hr.c_inv]
    simp
  · injection hq with hq; subst hq
    cases hr with
    | d _ _ h => cases h
    | g _ _ _ _ h1 h2 =>
      rename_i b wt y _
      by_cases hb : wt = y
      · have := (h1 hb).c_inv
        subst this
        simp
      · have := h2 hb
        subst this
        simp [undef]
  · cases hq
theorem guard_sound {G : Gh} {F : Nat → Prop} (hr : Rel E G F s a w) {ops : Array Oper} {o : Oper} {j : Nat} {want c : Bool} (ho : o.guard = some (j, want)) (hq : guardV ops s j want = some c) : Region.wanted o (yielded ops a.tmps) = c := by
  unfold guardV at hq
  split at hq
  · rename_i d hd
    have hev := hr.ev (.tmp d)
    have key := gV_sound hq hev
    simp only [Region.wanted, ho, yielded, hd, Option.bind_some]
    have hsz : a.tmps[d]? = some (a.eval (.tmp d)) ∨ (a.tmps[d]? = none ∧ a.eval (.tmp d) = undef) := by
      simp only [Act.eval, Array.getD_eq_getD_getElem?]
      cases h : a.tmps[d]? with
      | none => exact .inr ⟨rfl, rfl⟩
      | some v => exact .inl rfl
    rcases hsz with h | ⟨h, h'⟩
    · rw [h]
      rw [Bool.eq_iff_iff]
      exact key
    · rw [h]
      rw [h'] at key
      rw [Bool.eq_iff_iff]
      simpa [undef] using key
  · cases hq
theorem undef_cc {G : Gh} {F : Nat → Prop} {ln : List Nat} : RepV G ln F w (.c undef) undef := .cc _
theorem stepP_soundB {G : Gh} {F : Nat → Prop} (hr : Rel E G F s a w) (ops : Array Oper) (o : Oper) {K : AS → Prop} (h : stepP P E ops o s K) {next : Act → World → Prop} (hn : ∀ s' a' w', Sat E s' a' w' → K s' → next a' w') :
    if Region.wanted o (yielded ops a.tmps) then o.wpB P a w next else next (a.put o.dst undef) w := by
  unfold stepP at h
  split at h
  · rename_i ho
    rw [if_pos (by simp [Region.wanted, ho])]
    exact stepO_soundB hr o h hn
  · rename_i j want ho
    unfold onGV at h
    split at h
    · rename_i c hc
      rw [guard_sound hr ho hc]
      unfold onGP at h
      split at h
      · rename_i q hq
        obtain ⟨h1, h2⟩ := h
        cases c
        · exact hn _ _ _ (Sat.put hr (mkG_rep (fun h => by cases h) (fun _ => rfl))) h2
        · obtain ⟨x, e1, e2⟩ := pureV_sound hr o hq (h1 rfl)
          rw [if_pos rfl]
          refine ⟨fun c hc => by simp [pureV, hc] at hq, ?_⟩
          unfold upB
          rw [e1 w (SameOn.refl _ _ _ _ _)]
          exact hn _ _ _ (Sat.put hr (mkG_rep (fun _ => e2) (fun h => absurd rfl h))) h2
      · obtain ⟨h1, h2⟩ := h
        cases c
        · exact hn _ _ _ (Sat.put hr undef_cc) (h2 rfl)
        · rw [if_pos rfl]
          exact stepO_soundB hr o (h1 rfl) hn
    · cases h
theorem stepP_sound {G : Gh} {F : Nat → Prop} (hr : Rel E G F s a w) (ops : Array Oper) (o : Oper) {K : AS → Prop} (h : stepP P E ops o s K) {Q : Exit → Act → World → Prop} {next : Act → World → Prop} (hn : ∀ s' a' w', Sat E s' a' w' → K s' → next a' w') :
    if Region.wanted o (yielded ops a.tmps) then o.wp P a w next Q else next (a.put o.dst undef) w := by
  have hB := stepP_soundB hr ops o h hn
  split at hB
  · rename_i hw; rw [if_pos hw]; exact wpB_wp hB
  · rename_i hw; rw [if_neg hw]; exact hB
theorem runL_sound {ops : Array Oper} {Q : Exit → Act → World → Prop} {K : AS → Prop} (hQ : ∀ s' a' w', Sat E s' a' w' → K s' → Q .normal a' w') : ∀ (l : List Oper) (s : AS) (a : Act) (w : World), Sat E s a w → runL P E ops l s K → wpList P ops Q l a w := by
  intro l
  induction l with
  | nil => intro s a w hs h; exact hQ s a w hs h
  | cons o l ih =>
    intro s a w ⟨G, F, hr⟩ h
    refine wpList_step fun K' hK' => ?_
    exact stepP_sound hr ops o h fun s' a' w' hs hk => hK' _ _ (ih s' a' w' hs hk)
end
end Go.Proofs.Ytmgpiminicgbiaa
