import Derived.WalkKit
import Derived.WalkSpells
import Derived.WalkLawsBesides
import Derived.Lib.Hide
import Derived.Deep.LoopGhost
import Derived.Deep.QuietTactic
import Derived.Deep.Draws
import Derived.Deep.DeepFit
import Derived.Deep.DeepMust
import Derived.Deep.RegionHeld3
import Derived.Deep.RegionLaw
import Derived.Deep.DeepCutAuto
import Derived.StillTailTactics
import Derived.Outline
import Derived.BigQuiet
import Derived.BigRegion
import Derived.RegionTactic
import Derived.PlainAid
import Derived.Laws.CopyOwn
import Derived.Maps.AppendAt
import Derived.Lib.AppendStr
import Derived.Laws.IdiomStrings
import Derived.Handy
namespace Go.Proofs.Ytmgpiminicgbiaa
set_option linter.unusedVariables false
set_option linter.unusedSimpArgs false
open Go.RowKit
open Go.Lib (strCells strCells_length strCells_oneCell run_firstCells_string run_append_room_string run_append_grow_string)

/-- Outside the set S of blocks (and below the old size) nothing has turned. -/
structure Mod (S : Nat → Prop) (w w' : World) : Prop where
  os : w'.os = w.os
  tape : w'.tape = w.tape
  output : w'.output = w.output
  size : w.heap.size ≤ w'.heap.size
  block : ∀ k, k < w.heap.size → ¬ S k → w'.heap[k]? = w.heap[k]?

/-- The walk halts here: no step of it fits. 'stop_here' lays it, 'go_on' lifts it. -/
def Stop (p : Prop) : Prop := p
theorem stop_here {p : Prop} (h : Stop p) : p := h
theorem go_on {p : Prop} (h : p) : Stop p := h

theorem szA (w : World) (o : Obj) : (w.alloc o).heap.size = w.heap.size + 1 := by simp
section
variable {S S' : Nat → Prop} {w w' w'' : World}
theorem Mod.refl (S : Nat → Prop) (w : World) : Mod S w w := ⟨rfl, rfl, rfl, Nat.le_refl _, fun _ _ _ => rfl⟩
theorem Mod.mod (h : Mod S w w') (k : Mod S' w' w'') (hs : ∀ i, i < w.heap.size → S' i → S i) : Mod S w w'' :=
  ⟨k.os.trans h.os, k.tape.trans h.tape, k.output.trans h.output, Nat.le_trans h.size k.size, fun i hi hn => (k.block i (Nat.lt_of_lt_of_le hi h.size) fun e => hn (hs i hi e)).trans (h.block i hi hn)⟩
theorem Mod.trans (h : Mod S w w') (k : Mod S w' w'') : Mod S w w'' := h.mod k fun _ _ h => h
/-- what is new for the first world may be turned freely by the second step -/
theorem Mod.mono (h : Mod S w w') (hs : ∀ k, k < w.heap.size → S k → S' k) : Mod S' w w' :=
  ⟨h.os, h.tape, h.output, h.size, fun i hi hn => h.block i hi fun e => hn (hs i hi e)⟩
theorem Mod.free (h : Mod (fun _ => False) w w') (S : Nat → Prop) : Mod S w w' := h.mono fun _ _ e => e.elim
theorem Mod.drew (h : Mod S w w') : Mod S w w'.drew := ⟨h.os, h.tape, h.output, h.size, h.block⟩
theorem Mod.drewN (h : Mod S w w') (n : Nat) : Mod S w (w'.drewN n) := ⟨h.os, h.tape, h.output, h.size, h.block⟩
theorem Mod.alloc (h : Mod S w w') (o : Obj) : Mod S w (w'.alloc o) :=
  ⟨h.os, h.tape, h.output, by have := h.size; simp; omega, fun k hk hs => (Below.heap_alloc _ _ _ (Nat.lt_of_lt_of_le hk h.size)).trans (h.block k hk hs)⟩
theorem Mod.setCell (h : Mod S w w') {a : Addr} (ha : a.block < w.heap.size → S a.block) (u : Value) : Mod S w (w'.setCell a u) :=
  ⟨h.os, h.tape, h.output, by simpa [World.setCell] using h.size, fun k hk hs => by
    by_cases e : k = a.block
    · subst e; exact absurd (ha hk) hs
    · exact (Below.heap_setCell _ _ _ _ e).trans (h.block k hk hs)⟩
theorem Mod.put (w : World) (g i : Nat) (u : Value) : Mod (fun k => k = g) w (w.setCell ⟨g, i, none⟩ u) := (Mod.refl (fun k => k = g) _).setCell (fun _ => rfl) _
theorem Mod.grown (h : Mod S w w') {row : Option Nat} (hg : w'.grownBy w'' row) (hr : ∀ k, row = some k → k < w.heap.size → S k) : Mod S w w'' :=
  ⟨hg.os.trans h.os, hg.tape.trans h.tape, hg.output.trans h.output, Nat.le_trans h.size hg.size, fun k hk hs =>
    (hg.block k (Nat.lt_of_lt_of_le hk h.size) fun e => hs (hr k e.symm hk)).trans (h.block k hk hs)⟩
theorem Mod.cell {a : Addr} (h : Mod S w w') (ha : a.block < w.heap.size) (hs : ¬ S a.block) : w'.cell? a = w.cell? a := World.cell?_of_block (h.block _ ha hs)
theorem Mod.frozen {a : Addr} (h : Mod S w w') (ha : a.block < w.heap.size) (hs : ¬ S a.block) : w'.frozen? a = w.frozen? a := World.frozen?_of_block (h.block _ ha hs)
theorem Mod.below (h : Mod S w w') {B : Nat} (hB : B ≤ w.heap.size) (hs : ∀ k, S k → B ≤ k) : Below B w w' :=
  ⟨h.os, h.tape, h.output, h.size, fun k hk => h.block k (by omega) fun e => by have := hs k e; omega⟩
theorem bmod {B : Nat} (h : Below B w w') (k : Mod S w' w'') (hs : ∀ k, S k → B ≤ k) (hB : B ≤ w'.heap.size) : Below B w w'' := h.trans (k.below hB hs)
theorem bsame {B : Nat} (h : Below B w w') (k : Mod (fun _ => False) w' w'') (hB : B ≤ w'.heap.size) : Below B w w'' := h.trans (k.below hB fun _ e => e.elim)
theorem Mod.of_below {B : Nat} (h : Below B w w') : Mod (B ≤ ·) w w' := ⟨h.os, h.tape, h.output, h.size, fun k _ hn => h.block k (by omega)⟩

/-- Block g is just these cells of element type t, none frozen. -/
def Blk (w : World) (g : Nat) (t : TypeId) (cs : Array Value) : Prop := w.heap[g]? = some (.cells cs t (0, 0))
variable {g : Nat} {t : TypeId} {cs : Array Value}
theorem Blk.lt (h : Blk w g t cs) : g < w.heap.size := by
  unfold Blk at h
  by_cases e : g < w.heap.size
  · exact e
  · rw [Array.getElem?_eq_none (by omega)] at h; cases h
theorem Blk.cell (h : Blk w g t cs) (i : Nat) : w.cell? ⟨g, i, none⟩ = cs[i]? := cell_of_row w g i cs t (0, 0) h
theorem Blk.cell' (h : Blk w g t cs) {i : Nat} (hi : i < cs.size) : w.cell? ⟨g, i, none⟩ = some cs[i] := by rw [h.cell, Array.getElem?_eq_getElem hi]
theorem Blk.free (h : Blk w g t cs) (i : Nat) : w.frozen? ⟨g, i, none⟩ = false := by
  unfold Blk at h
  simp [World.frozen?, h]
theorem Blk.made (w : World) (t : TypeId) (cs : Array Value) : Blk (w.alloc (.cells cs t)) w.heap.size t cs := heap_alloc_new w _
theorem Blk.drew (h : Blk w g t cs) : Blk w.drew g t cs := h
theorem Blk.alloc (h : Blk w g t cs) (o : Obj) : Blk (w.alloc o) g t cs := (Below.heap_alloc w o g h.lt).trans h
theorem Blk.set (h : Blk w g t cs) (i : Nat) (u : Value) : Blk (w.setCell ⟨g, i, none⟩ u) g t (cs.setIfInBounds i u) := by
  unfold Blk at h ⊢
  simp [World.setCell, Array.getElem?_modify, h]
theorem Blk.keep (h : Blk w g t cs) (hm : Mod S w w') (hs : ¬ S g) : Blk w' g t cs := (hm.block g h.lt hs).trans h

/-- The slice value (A, n, c) owns a row (or is nil): its n elements, of 'size' cells each, are xs. -/
def Own (w : World) (e : TypeId) (size : Nat) (A : Option Addr) (n c : Nat) (xs : List Value) : Prop := w.ownsRow 0 e size (.slice A n c) n xs
/-- The block that the address lies in. -/
def ob (A : Option Addr) : Option Nat := A.map (·.block)
/-- A slice's elements may be read: xs. -/
def Rd (w : World) (size : Nat) (A : Option Addr) (n : Nat) (xs : List Value) : Prop :=
  xs.length = n * size ∧ (0 < n → ∃ ad, A = some ad ∧ ∀ j u, xs[j]? = some u → w.cell? (ad.add j) = some u)
variable {e size n c : Nat} {A : Option Addr} {xs : List Value}
theorem own_block (A : Option Addr) (n c : Nat) : Value.ownBlock (.slice A n c) = ob A := by cases A <;> rfl
theorem Own.len (h : Own w e size A n c xs) : xs.length = n * size := h.1
theorem Own.nil (w : World) (e size : Nat) : Own w e size none 0 0 [] := World.ownsRow_nil w 0 e size
theorem Own.rd (h : Own w e size A n c xs) : Rd w size A n xs := by
  refine ⟨h.1, fun hn => ?_⟩
  rcases h.2 with ⟨_, h0⟩ | ⟨g, cap, cur, hv, _⟩
  · omega
  · injection hv with hA _ _
    subst hA
    exact ⟨_, rfl, World.ownsRow.cells h (g := g) rfl⟩
/-- a row that has just been laid, whole -/
theorem Own.lit (w : World) (e : TypeId) (cs : Array Value) (hm : cs.size ≤ maxLen) : Own (w.alloc (.cells cs e)) e 1 (some ⟨w.heap.size, 0, none⟩) cs.size cs.size cs.toList :=
  ⟨by simp, .inr ⟨w.heap.size, cs.size, cs, rfl, Nat.zero_le _, heap_alloc_new w _, Nat.le_refl _, hm, by simp, by rw [Nat.mul_one]; exact List.take_of_length_le (by simp)⟩⟩
theorem Own.lit1 (w : World) (e : TypeId) (x : Value) : Own (w.alloc (.cells #[x] e)) e 1 (some ⟨w.heap.size, 0, none⟩) 1 1 [x] := Own.lit w e #[x] (by simp [maxLen])
theorem Own.lit1e (w : World) (e : TypeId) {x : Value} {l : List Value} (h : [x] = l) : Own (w.alloc (.cells #[x] e)) e 1 (some ⟨w.heap.size, 0, none⟩) 1 1 l := h ▸ Own.lit1 w e x
theorem Own.lt (h : Own w e size A n c xs) : ∀ k, ob A = some k → k < w.heap.size := fun k hk => (World.ownsRow.lt h k (by rw [own_block]; exact hk)).2
theorem Own.keep (h : Own w e size A n c xs) (hm : Mod S w w') (hs : ∀ k, ob A = some k → ¬ S k) : Own w' e size A n c xs := by
  refine ⟨h.1, ?_⟩
  rcases h.2 with hn | ⟨g, cap, cur, hv, hb, hg, rest⟩
  · exact .inl hn
  · refine .inr ⟨g, cap, cur, hv, hb, ?_, rest⟩
    injection hv with hA _ _
    rw [hm.block g (Array.getElem?_eq_some_iff.1 hg).1 (hs g (by subst hA; rfl))]
    exact hg
theorem Own.alloc (h : Own w e size A n c xs) (o : Obj) : Own (w.alloc o) e size A n c xs := World.ownsRow.alloc h o
theorem Own.drew (h : Own w e size A n c xs) : Own w.drew e size A n c xs := h
/-- a row is no block of another element type -/
theorem Own.ne (h : Own w e size A n c xs) (hb : Blk w g t cs) (hne : e ≠ t) : ob A ≠ some g := by
  intro hA
  rcases h.2 with ⟨hv, _⟩ | ⟨g', cap, cur, hv, _, hg, _⟩
  · injection hv with hA'; subst hA'; cases hA
  · injection hv with hA' _ _
    subst hA'
    have : g' = g := by simpa [ob] using hA
    subst this
    unfold Blk at hb
    rw [hg] at hb
    injection hb with hb
    injection hb with _ ht
    exact hne ht
theorem Own.at_ (h : Own w e size A n c xs) (hn : 0 < n) : ∃ g cur, A = some ⟨g, 0, none⟩ ∧ Blk w g e cur ∧ n ≤ c ∧ c ≤ maxLen ∧ cur.size = c * size ∧ cur.toList.take (n * size) = xs := by
  rcases h.2 with ⟨_, h0⟩ | ⟨g, cap, cur, hv, _, hg, h1, h2, h3, h4⟩
  · omega
  · injection hv with hA _ hc
    subst hc
    exact ⟨g, cur, hA, hg, h1, h2, h3, h4⟩
theorem Own.make (g : Nat) (cur : Array Value) (hg : Blk w g e cur) (hn : n ≤ c) (hc : c ≤ maxLen) (hs : cur.size = c * size) (hx : cur.toList.take (n * size) = xs) : Own w e size (some ⟨g, 0, none⟩) n c xs := by
  refine ⟨?_, .inr ⟨g, c, cur, rfl, Nat.zero_le _, hg, hn, hc, hs, hx⟩⟩
  rw [← hx, List.length_take, Array.length_toList, hs, Nat.min_eq_left (Nat.mul_le_mul_right _ hn)]

theorem Own.cap (h : Own w e size A n c xs) : n ≤ c ∧ c ≤ maxLen := by
  rcases h.2 with ⟨hv, h0⟩ | ⟨g, cap, cur, hv, _, _, h1, h2, _⟩
  · injection hv with _ _ hc
    subst hc h0
    exact ⟨Nat.le_refl _, Nat.zero_le _⟩
  · injection hv with _ _ hc
    subst hc
    exact ⟨h1, h2⟩
theorem Own.store {g : Nat} (h : Own w e 1 (some ⟨g, 0, none⟩) n c xs) {j : Nat} (hj : j < n) (u : Value) : Own (w.setCell ⟨g, j, none⟩ u) e 1 (some ⟨g, 0, none⟩) n c (xs.set j u) := by
  obtain ⟨g', cur, hA, hb, h1, h2, h3, h4⟩ := h.at_ (by omega)
  injection hA with hA
  injection hA with hA
  subst hA
  simp only [Nat.mul_one] at h3 h4
  refine Own.make g (cur.setIfInBounds j u) (hb.set j u) h1 h2 (by simp; omega) ?_
  subst h4
  rw [Nat.mul_one, Array.toList_setIfInBounds, List.take_set]
/-- a row of bytes, whatever they are -/
def Bytesy (w : World) (e : TypeId) (A : Option Addr) (n c : Nat) : Prop := ∃ xs, Own w e 1 A n c xs ∧ ∀ j, j < n → ∃ z, xs[j]? = some (.int .u8 z)
theorem Bytesy.of {l : List UInt8} (h : Own w e 1 A n c (List.map (fun b : UInt8 => Value.int .u8 (b.toNat : Int)) l)) : Bytesy w e A n c := by
  refine ⟨_, h, fun j hj => ?_⟩
  have hl := h.1
  simp at hl
  exact ⟨l[j].toNat, by simp [List.getElem?_map, List.getElem?_eq_getElem (show j < l.length by omega)]⟩
theorem Bytesy.at_ (h : Bytesy w e A n c) {j : Nat} (hj : j < n) : ∃ g z, A = some ⟨g, 0, none⟩ ∧ w.cell? ⟨g, j, none⟩ = some (.int .u8 z) ∧ w.frozen? ⟨g, j, none⟩ = false ∧ ∀ y, Bytesy (w.setCell ⟨g, j, none⟩ (.int .u8 y)) e A n c := by
  obtain ⟨xs, ho, hz⟩ := h
  obtain ⟨g, cur, rfl, hb, h1, h2, h3, h4⟩ := ho.at_ (by omega)
  obtain ⟨z, hzj⟩ := hz j hj
  refine ⟨g, z, rfl, ?_, hb.free j, fun y => ⟨_, ho.store hj _, fun i hi => ?_⟩⟩
  · rw [hb.cell j, ← hzj, ← h4, List.getElem?_take, if_pos (by omega)]
    simp
  · rw [List.getElem?_set]
    have hl := ho.1
    split
    · exact ⟨y, by rw [if_pos (by omega)]⟩
    · exact hz i hi
theorem Bytesy.keep (h : Bytesy w e A n c) (hm : Mod S w w') (hs : ∀ k, ob A = some k → ¬ S k) : Bytesy w' e A n c := let ⟨xs, h1, h2⟩ := h; ⟨xs, h1.keep hm hs, h2⟩
theorem Bytesy.lt (h : Bytesy w e A n c) : ∀ k, ob A = some k → k < w.heap.size := let ⟨_, h1, _⟩ := h; h1.lt
theorem Rd.len (h : Rd w size A n xs) : xs.length = n * size := h.1
theorem Rd.nil (w : World) (size : Nat) (A : Option Addr) : Rd w size A 0 [] := ⟨by simp, fun h => absurd h (by omega)⟩
theorem add_block (a : Addr) (j : Nat) : (a.add j).block = a.block := by unfold Addr.add; split <;> rfl
theorem add_add (a : Addr) (i j : Nat) : (a.add i).add j = a.add (i + j) := by
  unfold Addr.add
  by_cases hi : i = 0 <;> by_cases hj : j = 0 <;> simp [hi, hj, Nat.add_assoc]
theorem Rd.keep (h : Rd w size A n xs) (hm : Mod S w w') (hs : ∀ k, ob A = some k → k < w.heap.size → ¬ S k) : Rd w' size A n xs := by
  refine ⟨h.1, fun hn => ?_⟩
  obtain ⟨ad, rfl, hc⟩ := h.2 hn
  refine ⟨ad, rfl, fun j u hu => ?_⟩
  have h1 := hc j u hu
  have hlt := World.block_lt_of_cell? w _ h1
  rw [hm.cell hlt (hs _ (by simp [ob, add_block]) hlt)]
  exact h1
theorem Rd.drew (h : Rd w size A n xs) : Rd w.drew size A n xs := h
theorem Rd.alloc (h : Rd w size A n xs) (o : Obj) : Rd (w.alloc o) size A n xs := h.keep ((Mod.refl (fun _ => False) w).alloc o) fun _ _ _ => id
theorem Rd.cut (h : Rd w size A n xs) {k cap : Nat} (hk : k ≤ n) (hc : n ≤ cap) :
    Rd w size (if cap = k then A else A.map (·.add (k * size))) (n - k) (xs.drop (k * size)) := by
  refine ⟨by rw [List.length_drop, h.1, Nat.sub_mul], fun hn => ?_⟩
  obtain ⟨ad, rfl, hcell⟩ := h.2 (by omega)
  rw [if_neg (by omega)]
  refine ⟨ad.add (k * size), rfl, fun j u hu => ?_⟩
  rw [add_add]
  exact hcell _ u (by rw [← hu, List.getElem?_drop])
theorem Rd.take (h : Rd w size A n xs) {k : Nat} (hk : k ≤ n) : Rd w size A k (xs.take (k * size)) := by
  refine ⟨by rw [List.length_take, h.1, Nat.min_eq_left (Nat.mul_le_mul_right _ hk)], fun hn => ?_⟩
  obtain ⟨ad, rfl, hcell⟩ := h.2 (by omega)
  refine ⟨ad, rfl, fun j u hu => hcell j u ?_⟩
  rw [List.getElem?_take] at hu
  split at hu
  · exact hu
  · cases hu
theorem Rd.addr (h : Rd w 1 A n xs) (hn : 0 < n) : ∃ b o, A = some ⟨b, o, none⟩ ∧ ∀ j u, xs[j]? = some u → w.cell? ⟨b, o + j, none⟩ = some u := by
  obtain ⟨⟨b, o, sp⟩, rfl, hc⟩ := h.2 hn
  have hl := h.1
  have h0 := hc 0 _ (List.getElem?_eq_getElem (show 0 < xs.length by omega))
  have hsp : sp = none := by simpa [Addr.add] using World.cell?_spot h0
  subst hsp
  refine ⟨b, o, rfl, fun j u hu => ?_⟩
  have := hc j u hu
  unfold Addr.add at this
  split at this
  · subst_vars; simpa using this
  · simpa using this
theorem Rd.one (w : World) (x : Value) (t : TypeId) : Rd (w.alloc (.cells #[x] t)) 1 (some ⟨w.heap.size, 0, none⟩) 1 [x] :=
  ⟨rfl, fun _ => ⟨_, rfl, cell_one_new w x t⟩⟩

/-- The set of blocks F has grown to F' by new blocks alone. -/
def Grows (n : Nat) (F F' : Nat → Prop) : Prop := ∀ k, F' k → F k ∨ n ≤ k
/-- Two sets of blocks are apart. -/
def Apart (F G : Nat → Prop) : Prop := ∀ k, F k → ¬ G k
theorem Apart.symm {F G : Nat → Prop} (h : Apart F G) : Apart G F := fun k hg hf => h k hf hg
theorem Apart.none (F : Nat → Prop) : Apart F (fun _ => False) := fun _ _ h => h
theorem Apart.of_lt {F G : Nat → Prop} {n : Nat} (hF : ∀ k, F k → k < n) (hG : ∀ k, G k → n ≤ k) : Apart F G := fun k h1 h2 => by have := hF k h1; have := hG k h2; omega
/-- All of these blocks are from B on. -/
def Fresh (B : Nat) (F : Nat → Prop) : Prop := ∀ k, F k → B ≤ k
theorem Fresh.grows {F F' : Nat → Prop} {B n : Nat} (h : Fresh B F) (hg : Grows n F F') (hB : B ≤ n) : Fresh B F' := fun k hk => by
  rcases hg k hk with h1 | h1
  · exact h k h1
  · omega
theorem Fresh.mono {F : Nat → Prop} {B n : Nat} (h : Fresh n F) (hB : B ≤ n) : Fresh B F := fun k hk => Nat.le_trans hB (h k hk)
theorem Apart.grows {F F' G : Nat → Prop} {n : Nat} (h : Apart F G) (hg : Grows n F F') (hl : ∀ k, G k → k < n) : Apart F' G := fun k hk hG => by
  rcases hg k hk with h1 | h1
  · exact h k h1 hG
  · have := hl k hG; omega

theorem Rd.lit (w : World) (cs : Array Value) (t : TypeId) (fr : Nat × Nat) : Rd (w.alloc (.cells cs t fr)) 1 (some ⟨w.heap.size, 0, none⟩) cs.size cs.toList := by
  refine ⟨by simp, fun _ => ⟨_, rfl, fun j u hu => ?_⟩⟩
  have hadd : (⟨w.heap.size, 0, none⟩ : Addr).add j = ⟨w.heap.size, j, none⟩ := by unfold Addr.add; split <;> simp_all
  have hb : (w.alloc (.cells cs t fr)).heap[w.heap.size]? = some (.cells cs t fr) := heap_alloc_new w _
  rw [hadd, cell_of_row _ _ j cs t fr hb]
  simpa using hu
/-- append onto a row of the call's own (or nil), from any source. -/
theorem run_app {P : Program} (w : World) (t ty e : TypeId) (i : TypeInfo) (z : Value) (size bytes : Nat) (ht : P.underlying t = some (.slice e)) (hi : P.info? e = some i) (hz : i.zero = some z)
    (hsize : i.size = size) (hby : i.bytes = bytes) (hzs : z.cells.size = size) (hsz : 0 < size)
    {A : Option Addr} {n c : Nat} {xs : List Value} (hown : Own w e size A n c xs) {B : Option Addr} {m c' : Nat} {news : List Value} (hr : Rd w size B m news) (h1 : ∀ u ∈ news, u.oneCell' = true)
    (h63 : n + m ≤ maxLen) (hbytes : (n + m) * bytes ≤ 140737488355328) :
    ∃ A' c'' w', (Builtin.append_ #[t, t] ty #[.slice A n c, .slice B m c']).run P w = .ok (.slice A' (n + m) c'') w' ∧ Own w' e size A' (n + m) c'' (xs ++ news) ∧ Mod (fun k => ob A = some k) w w' ∧
      (A' = A ∨ A' = some ⟨w.heap.size, 0, none⟩) ∧ (A' = none → A = none ∧ m = 0) := by
  have key : ∀ v' w', w'.ownsRow 0 e size v' (n + m) (xs ++ news) → w.grownBy w' (Value.ownBlock (.slice A n c)) → (v'.ownBlock = Value.ownBlock (.slice A n c) ∨ v'.ownBlock = some w.heap.size) → (v' = .slice none 0 0 ↔ Value.slice A n c = .slice none 0 0 ∧ m = 0) →
      ∃ A' c'', v' = .slice A' (n + m) c'' ∧ Own w' e size A' (n + m) c'' (xs ++ news) ∧ Mod (fun k => ob A = some k) w w' ∧ (A' = A ∨ A' = some ⟨w.heap.size, 0, none⟩) ∧ (A' = none → A = none ∧ m = 0) := by
    intro v' w' ho hg hb hnil
    have hM : Mod (fun k => ob A = some k) w w' := ⟨hg.os, hg.tape, hg.output, hg.size, fun k hk hs => hg.block k hk (by rw [own_block]; exact fun e => hs e.symm)⟩
    rcases ho.2 with ⟨rfl, h0⟩ | ⟨g, cap, cur, rfl, hb0, hgg, rest⟩
    · obtain ⟨hv, _⟩ := hnil.1 rfl
      injection hv with hA
      exact ⟨none, 0, by rw [h0], by unfold Own; rw [h0] at ho ⊢; exact ho, hM, .inl hA.symm, fun _ => ⟨hA, by omega⟩⟩
    · refine ⟨some ⟨g, 0, none⟩, cap, rfl, ⟨ho.1, .inr ⟨g, cap, cur, rfl, hb0, hgg, rest⟩⟩, hM, ?_, fun h => by cases h⟩
      rcases hb with hb | hb
      · rcases hown.2 with ⟨hv, _⟩ | ⟨g', cap', cur', hv, _⟩
        · rw [hv] at hb; simp [Value.ownBlock] at hb
        · rw [hv] at hb
          injection hv with hA
          have : g = g' := by simpa [Value.ownBlock] using hb
          subst this
          exact .inl hA.symm
      · have : g = w.heap.size := by simpa [Value.ownBlock] using hb
        subst this
        exact .inr rfl
  by_cases h0 : m = 0
  · subst h0
    have hn : news = [] := List.eq_nil_of_length_eq_zero (by simpa using hr.1)
    subst hn
    refine ⟨A, c, w, ?_, by simpa using hown, Mod.refl _ _, .inl rfl, fun h => ⟨h, rfl⟩⟩
    rcases hown.2 with ⟨hv, h0⟩ | ⟨g, cap, cur, hv, _, _, hnc, _⟩
    · injection hv with hA _ hc
      subst hA hc h0
      cases B <;> simp [Builtin.append_, run_underlying ht, sizeOf, typeInfo, hi, Builtin.lenOf, Builtin.firstCells, loadCells, loadCellsFrom]
    · injection hv with hA _ hc
      subst hA hc
      cases B <;> simp [Builtin.append_, run_underlying ht, sizeOf, typeInfo, hi, Builtin.lenOf, Builtin.firstCells, loadCells, loadCellsFrom, storeCells, hnc]
  · obtain ⟨ad, rfl, hc⟩ := hr.2 (by omega)
    obtain ⟨v', w', hrun, ho, hg, hnil, hb⟩ := run_append_own_at (P := P) w 0 t ty e i z size bytes ht hi hz hsize hby hzs hsz _ n xs hown ad m c' news hr.1 hc h1 h63 hbytes (Nat.zero_le _)
    obtain ⟨A', c'', rfl, r1, r2, r3, r4⟩ := key v' w' ho hg hb hnil
    exact ⟨A', c'', w', hrun, r1, r2, r3, r4⟩

theorem wp_app {P : Program} {o : Oper} {a : Act} {w : World} {K : Act → World → Prop} {Q : Exit → Act → World → Prop} (s x : Operand) (t : TypeId)
    (ho : o.op = .call { callee := .builtin .append, args := #[s, x], argTypes := #[t, t] })
    (e : TypeId) (i : TypeInfo) (z : Value) (size bytes : Nat) (ht : P.underlying t = some (.slice e)) (hi : P.info? e = some i) (hz : i.zero = some z)
    (hsize : i.size = size) (hby : i.bytes = bytes) (hzs : z.cells.size = size) (hsz : 0 < size)
    (A : Option Addr) (n c : Nat) (xs : List Value) (hs : a.eval s = .slice A n c) (hown : Own w e size A n c xs)
    (B : Option Addr) (m c' : Nat) (news : List Value) (hx : a.eval x = .slice B m c') (hr : Rd w size B m news) (h1 : ∀ u ∈ news, u.oneCell' = true)
    (h63 : n + m ≤ maxLen) (hbytes : (n + m) * bytes ≤ 140737488355328)
    (h : ∀ A' c'' w', Own w' e size A' (n + m) c'' (xs ++ news) → Mod (fun k => ob A = some k) w w' → (A' = A ∨ A' = some ⟨w.heap.size, 0, none⟩) → (A' = none → A = none ∧ m = 0) → K (a.put o.dst (.slice A' (n + m) c'')) w') : o.wp P a w K Q := by
  obtain ⟨A', c'', w', hrun, h2, h3, h4, h5⟩ := run_app (P := P) w t o.type e i z size bytes ht hi hz hsize hby hzs hsz hown (c' := c') hr h1 h63 hbytes
  unfold Oper.wp execOp
  simp only [ho, resolve, invoke, builtin, Sem.run_bind, Sem.run_pure, Result.andThen_ok, List.map_toArray, List.map_cons, List.map_nil, hs, hx, hrun]
  exact h A' c'' w' h2 h3 h4 h5

theorem wpList_app {P : Program} {ops : Array Oper} {rest : List Oper} {o : Oper} {a : Act} {w : World} {Q : Exit → Act → World → Prop} (hgd : o.guard = none) (s x : Operand) (t : TypeId)
    (ho : o.op = .call { callee := .builtin .append, args := #[s, x], argTypes := #[t, t] })
    (e : TypeId) (i : TypeInfo) (z : Value) (size bytes : Nat) (ht : P.underlying t = some (.slice e)) (hi : P.info? e = some i) (hz : i.zero = some z)
    (hsize : i.size = size) (hby : i.bytes = bytes) (hzs : z.cells.size = size) (hsz : 0 < size)
    (A : Option Addr) (n c : Nat) (xs : List Value) (hs : a.eval s = .slice A n c) (hown : Own w e size A n c xs)
    (B : Option Addr) (m c' : Nat) (news : List Value) (hx : a.eval x = .slice B m c') (hr : Rd w size B m news) (h1 : ∀ u ∈ news, u.oneCell' = true)
    (h63 : n + m ≤ maxLen) (hbytes : (n + m) * bytes ≤ 140737488355328)
    (h : ∀ A' c'' w', Own w' e size A' (n + m) c'' (xs ++ news) → Mod (fun k => ob A = some k) w w' → (A' = A ∨ A' = some ⟨w.heap.size, 0, none⟩) → (A' = none → A = none ∧ m = 0) → wpList P ops Q rest (a.put o.dst (.slice A' (n + m) c'')) w') : wpList P ops Q (o :: rest) a w :=
  wpList_plain hgd fun _ hK => wp_app s x t ho e i z size bytes ht hi hz hsize hby hzs hsz A n c xs hs hown B m c' news hx hr h1 h63 hbytes fun A' c'' w' h2 h3 h4 h5 => hK _ _ (h A' c'' w' h2 h3 h4 h5)

theorem step_app {P : Program} {ops : Array Oper} {o : Oper} {a : Act} {w : World} {K : Act → World → Prop} {Q : Exit → Act → World → Prop} {E : Prop} (hgd : o.guard = none) (s x : Operand) (t : TypeId)
    (ho : o.op = .call { callee := .builtin .append, args := #[s, x], argTypes := #[t, t] })
    (e : TypeId) (i : TypeInfo) (z : Value) (size bytes : Nat) (ht : P.underlying t = some (.slice e)) (hi : P.info? e = some i) (hz : i.zero = some z)
    (hsize : i.size = size) (hby : i.bytes = bytes) (hzs : z.cells.size = size) (hsz : 0 < size)
    (A : Option Addr) (n c : Nat) (xs : List Value) (hs : a.eval s = .slice A n c) (hown : Own w e size A n c xs)
    (B : Option Addr) (m c' : Nat) (news : List Value) (hx : a.eval x = .slice B m c') (hr : Rd w size B m news) (h1 : ∀ u ∈ news, u.oneCell' = true)
    (h63 : n + m ≤ maxLen) (hbytes : (n + m) * bytes ≤ 140737488355328)
    (h : ∀ A' c'' w', Own w' e size A' (n + m) c'' (xs ++ news) → Mod (fun k => ob A = some k) w w' → (A' = A ∨ A' = some ⟨w.heap.size, 0, none⟩) → (A' = none → A = none ∧ m = 0) → K (a.put o.dst (.slice A' (n + m) c'')) w') :
    if Region.wanted o (yielded ops a.tmps) = true then Oper.wp P o a w K Q else E := by
  have hw : Region.wanted o (yielded ops a.tmps) = true := by simp [Region.wanted, hgd]
  rw [if_pos hw]
  exact wp_app s x t ho e i z size bytes ht hi hz hsize hby hzs hsz A n c xs hs hown B m c' news hx hr h1 h63 hbytes h

/-- s[k:], whatever the capacity: one address, behind a name. -/
theorem run_cut {P : Program} (t e : TypeId) (i : TypeInfo) (ht : P.underlying t = some (.slice e)) (hi : P.info? e = some i) (A : Option Addr) (n c k : Nat) (hk : k ≤ n) (hc : n ≤ c) :
    ∃ A', (∀ w : World, (Instr.slice t (.slice A n c) (some (.int .i64 (k : Int))) none none).run P w = .ok (.slice A' (n - k) (c - k)) w) ∧ (∀ w xs, Rd w i.size A n xs → Rd w i.size A' (n - k) (xs.drop (k * i.size))) ∧ (∀ b, ob A' = some b → ob A = some b) := by
  refine ⟨if c = k then A else A.map (·.add (k * i.size)), fun w => ?_, fun w xs h => h.cut hk hc, fun b hb => ?_⟩
  · have he : P.elem t = e := by simp [Program.elem, ht]
    rw [run_slice_l w t A n c (by rw [he]; exact ht) .i64 k (by omega) (by omega)]
    simp [sizeOf, typeInfo, he, hi, sliced]
  · split at hb
    · exact hb
    · cases A with
      | none => exact hb
      | some a => simpa [ob, add_block] using hb

/-! ### bytes -/
def u8 (b : UInt8) : Value := .int .u8 (b.toNat : Int)
def u8s (l : List UInt8) : List Value := l.map u8
@[simp] theorem u8s_length (l : List UInt8) : (u8s l).length = l.length := by simp [u8s]
theorem u8s_append (a b : List UInt8) : u8s (a ++ b) = u8s a ++ u8s b := by simp [u8s]
theorem u8s_one (l : List UInt8) : ∀ u ∈ u8s l, u.oneCell' = true := by
  intro u hu
  simp only [u8s, List.mem_map] at hu
  obtain ⟨b, _, rfl⟩ := hu
  rfl
theorem u8s_take (l : List UInt8) (k : Nat) : (u8s l).take k = u8s (l.take k) := by simp [u8s, List.map_take]
theorem u8s_drop (l : List UInt8) (k : Nat) : (u8s l).drop k = u8s (l.drop k) := by simp [u8s, List.map_drop]
theorem u8s_at (l : List UInt8) (k : Nat) (h : k < l.length) : (u8s l)[k]? = some (u8 l[k]) := by simp [u8s, List.getElem?_map, List.getElem?_eq_getElem h]
theorem u8_inj {a b : UInt8} (h : u8 a = u8 b) : a = b := by
  unfold u8 at h
  injection h with _ h
  exact UInt8.toNat_inj.1 (by omega)
theorem u8s_inj : ∀ {a b : List UInt8}, u8s a = u8s b → a = b
  | [], [], _ => rfl
  | [], _ :: _, h => by cases h
  | _ :: _, [], h => by cases h
  | x :: a, y :: b, h => by
    simp only [u8s, List.map_cons, List.cons.injEq] at h
    rw [u8_inj h.1, u8s_inj h.2]
theorem strCells_u8s (s : ByteArray) : strCells s = u8s s.data.toList := rfl

theorem own_of_block {w : World} {e size g n c : Nat} {cur : Array Value} {xs : List Value} (hg : w.heap[g]? = some (.cells cur e (0, 0))) (hn : n ≤ c) (hc : c ≤ maxLen) (hs : cur.size = c * size) (hx : cur.toList.take (n * size) = xs) : Own w e size (some ⟨g, 0, none⟩) n c xs :=
  Own.make g cur hg hn hc hs hx

theorem run_app_str {P : Program} (w : World) (t u ty e : TypeId) (i : TypeInfo) (ht : P.underlying t = some (.slice e)) (hu : P.underlying u = some .string) (hi : P.info? e = some i) (hz : i.zero = some (.int .u8 0))
    (hsize : i.size = 1) (hby : i.bytes = 1) {A : Option Addr} {n c : Nat} {xs : List Value} (hown : Own w e 1 A n c xs) (s : ByteArray) (hbytes : n + s.size ≤ 140737488355328) :
    ∃ A' c'' w', (Builtin.append_ #[t, u] ty #[.slice A n c, .string s]).run P w = .ok (.slice A' (n + s.size) c'') w' ∧ Own w' e 1 A' (n + s.size) c'' (xs ++ u8s s.data.toList) ∧ Mod (fun k => ob A = some k) w w' ∧
      (A' = A ∨ A' = some ⟨w.heap.size, 0, none⟩) := by
  have h63 : n + s.size ≤ maxLen := by unfold maxLen; omega
  have hxl : xs.length = n := by simpa using hown.1
  have hsl : (u8s s.data.toList).length = s.size := (u8s_length _).trans rfl
  have grown : ∀ (old : Nat), old < n + s.size →
      Own (w.drew.alloc (.cells (xs.toArray ++ (strCells s).toArray ++ Builtin.zeroCells (Value.int .u8 0).cells (grownCap w (n + s.size) old e - (n + s.size))) e)) e 1
        (some ⟨w.heap.size, 0, none⟩) (n + s.size) (grownCap w (n + s.size) old e) (xs ++ u8s s.data.toList) ∧
      Mod (fun k => ob A = some k) w (w.drew.alloc (.cells (xs.toArray ++ (strCells s).toArray ++ Builtin.zeroCells (Value.int .u8 0).cells (grownCap w (n + s.size) old e - (n + s.size))) e)) := by
    intro old ho
    have hge := grownCap_ge w (n + s.size) old e
    have hcm : grownCap w (n + s.size) old e ≤ maxLen := grownCap_le_maxLen w (n + s.size) old e h63
    refine ⟨own_of_block (heap_alloc_new w.drew _) hge hcm ?_ ?_, (Mod.refl _ _).drew.alloc _⟩
    · have hz1 : (Value.int IntKind.u8 0).cells.size = 1 := rfl
      simp only [Array.size_append, List.size_toArray, size_zeroCells, hz1, hxl, strCells_length]
      omega
    · simp only [Array.toList_append, List.append_assoc]
      rw [strCells_u8s, ← List.append_assoc, Nat.mul_one, List.take_left' (by simp [hxl, hsl])]
  rcases hown.2 with ⟨hv, h0⟩ | ⟨g, cap, cur, hv, hbg, hg, hnc, hcm, hcs, htake⟩
  · injection hv with hA _ hc
    subst hA h0 hc
    have hx : xs = [] := List.eq_nil_of_length_eq_zero hxl
    subst hx
    by_cases hm : s.size = 0
    · have hn : u8s s.data.toList = [] := List.eq_nil_of_length_eq_zero (by rw [hsl]; exact hm)
      refine ⟨none, 0, w, ?_, by rw [hm, hn]; exact Own.nil w e 1, Mod.refl _ _, .inl rfl⟩
      have hf := run_firstCells_string (P := P) w 1 s
      rw [hm] at hf
      simp [Builtin.append_, run_underlying ht, run_underlying hu, sizeOf, typeInfo, hi, hsize, Builtin.lenOf, hm, hf]
    · have hr := run_append_nil_string (P := P) w t u ty e i (.int .u8 0) ht hu hi hz s (by omega) (by omega) (by rw [hby]; omega)
      have hgr := grown 0 (by omega)
      simp only [Nat.zero_add, List.nil_append, Array.empty_append] at hgr ⊢
      have e1 : (s.data.map fun b => Value.int .u8 b.toNat) = (strCells s).toArray := by
        apply Array.ext'
        simp [strCells]
      rw [e1] at hr
      exact ⟨_, _, _, hr, hgr.1, hgr.2, .inr rfl⟩
  · injection hv with hA _ hc
    subst hA hc
    by_cases hroom : n + s.size ≤ c
    · have hcs' : cur.size = c := by simpa using hcs
      have hr := run_append_room_string (P := P) w t u ty e i ht hu hi hsize g n c cur hg s hroom (by omega)
      refine ⟨_, _, _, hr, own_of_block (setRow_heap w g cur _ e _ hg) hroom hcm ?_ ?_, ⟨rfl, rfl, rfl, by simp, fun k _ hk => setRow_other w g k _ (fun e => hk (by simp [ob, e]))⟩, .inl rfl⟩
      · simp only [List.size_toArray, List.length_append, List.length_take, List.length_drop, Array.length_toList, strCells_length]
        omega
      · have ht' : cur.toList.take n = xs := by simpa using htake
        rw [ht', strCells_u8s]
        simp only [Nat.mul_one, List.append_assoc]
        rw [← List.append_assoc, List.take_left' (by simp [hxl, hsl])]
    · have holds : ∀ j u, xs[j]? = some u → w.cell? ((⟨g, 0, none⟩ : Addr).add j) = some u := World.ownsRow.cells hown (g := g) rfl
      have hr := run_append_grow_string (P := P) w t u ty e i (.int .u8 0) ht hu hi hz ⟨g, 0, none⟩ n c xs (by rw [hsize]; simpa using hxl) holds s (by omega) (by omega) (by rw [hby]; exact growslice_fits (by omega) (by omega))
      have hgr := grown c (by omega)
      exact ⟨_, _, _, hr, hgr.1, hgr.2, .inr rfl⟩

theorem wpList_app_str {P : Program} {ops : Array Oper} {rest : List Oper} {o : Oper} {a : Act} {w : World} {Q : Exit → Act → World → Prop} (hgd : o.guard = none) (sl x : Operand) (t u : TypeId)
    (ho : o.op = .call { callee := .builtin .append, args := #[sl, x], argTypes := #[t, u] })
    (e : TypeId) (i : TypeInfo) (ht : P.underlying t = some (.slice e)) (hu : P.underlying u = some .string) (hi : P.info? e = some i) (hz : i.zero = some (.int .u8 0)) (hsize : i.size = 1) (hby : i.bytes = 1)
    (A : Option Addr) (n c : Nat) (xs : List Value) (hs : a.eval sl = .slice A n c) (hown : Own w e 1 A n c xs) (s : ByteArray) (hx : a.eval x = .string s) (hbytes : n + s.size ≤ 140737488355328)
    (h : ∀ A' c'' w', Own w' e 1 A' (n + s.size) c'' (xs ++ u8s s.data.toList) → Mod (fun k => ob A = some k) w w' → (A' = A ∨ A' = some ⟨w.heap.size, 0, none⟩) → wpList P ops Q rest (a.put o.dst (.slice A' (n + s.size) c'')) w') : wpList P ops Q (o :: rest) a w := by
  refine wpList_plain hgd fun _ hK => ?_
  obtain ⟨A', c'', w', hrun, h2, h3, h4⟩ := run_app_str (P := P) w t u o.type e i ht hu hi hz hsize hby hown s hbytes
  unfold Oper.wp execOp
  simp only [ho, resolve, invoke, builtin, Sem.run_bind, Sem.run_pure, Result.andThen_ok, List.map_toArray, List.map_cons, List.map_nil, hs, hx, hrun]
  exact hK _ _ (h A' c'' w' h2 h3 h4)

/-- A slice of bytes that may be read, as a string. -/
theorem run_string_of {P : Program} (w : World) (src dst e : TypeId) (A : Option Addr) (n c : Nat) (l : List UInt8)
    (hs : P.underlying src = some (.slice e)) (he : P.underlying e = some (.int .u8)) (hd : P.underlying dst = some .string) (h : Rd w 1 A n (u8s l)) :
    (convert src dst (.slice A n c)).run P w = .ok (.string ⟨l.toArray⟩) w := by
  have hl : l.length = n := by simpa using h.1
  rcases Nat.eq_zero_or_pos n with h0 | h0
  · subst h0
    have : l = [] := List.eq_nil_of_length_eq_zero hl
    subst this
    cases A with
    | none => rw [run_convert_bytes_string w src dst e none 0 c hs he hd]; rfl
    | some a => exact run_convert_bytes_back w src dst e a c [] hs he hd fun j hj => by simp at hj
  · obtain ⟨ad, rfl, hc⟩ := h.2 h0
    subst hl
    exact run_convert_bytes_back w src dst e ad c l hs he hd fun j hj => hc j _ (u8s_at l j hj)
end
end Go.Proofs.Ytmgpiminicgbiaa
