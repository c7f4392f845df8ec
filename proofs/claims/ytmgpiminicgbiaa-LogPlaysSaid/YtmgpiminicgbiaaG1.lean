import Derived.WalkKit
import Derived.WalkSpells
import Derived.WalkLawsBesides
import Derived.Lib.Hide
import Derived.Deep.LoopGhost
import Derived.Deep.QuietTactic
import Derived.Deep.Draws
import Derived.Deep.DeepFit
import Derived.Deep.DeepMust
import Derived.Deep.RegionHeld3
import Derived.Deep.RegionLaw
import Derived.Deep.DeepCutAuto
import Derived.StillTailTactics
import Derived.Outline
import Derived.BigQuiet
import Derived.BigRegion
import Derived.RegionTactic
import Derived.PlainAid
import Derived.Laws.CopyOwn
import Derived.Maps.AppendAt
import Derived.Lib.AppendStr
import Derived.Laws.IdiomStrings
import Derived.Handy
import GoSem.Core.Next
namespace Go.Proofs.Ytmgpiminicgbiaa
set_option linter.unusedVariables false
set_option linter.unusedSimpArgs false
open Go.RowKit
open Go.Lib (strCells strCells_length strCells_oneCell run_firstCells_string run_append_room_string run_append_grow_string)

/-- Outside the set S of blocks (and below the old size) nothing has turned. -/
structure Mod (S : Nat → Prop) (w w' : World) : Prop where
  os : w'.os = w.os
  tape : w'.tape = w.tape
  output : w'.output = w.output
  size : w.heap.size ≤ w'.heap.size
  block : ∀ k, k < w.heap.size → ¬ S k → w'.heap[k]? = w.heap[k]?

/-- The walk halts here: no step of it fits. 'stop_here' lays it, 'go_on' lifts it. -/
def Stop (p : Prop) : Prop := p
theorem stop_here {p : Prop} (h : Stop p) : p := h
theorem go_on {p : Prop} (h : p) : Stop p := h

theorem szA (w : World) (o : Obj) : (w.alloc o).heap.size = w.heap.size + 1 := by simp
section
variable {S S' : Nat → Prop} {w w' w'' : World}
theorem Mod.refl (S : Nat → Prop) (w : World) : Mod S w w := ⟨rfl, rfl, rfl, Nat.le_refl _, fun _ _ _ => rfl⟩
theorem Mod.mod (h : Mod S w w') (k : Mod S' w' w'') (hs : ∀ i, i < w.heap.size → S' i → S i) : Mod S w w'' :=
  ⟨k.os.trans h.os, k.tape.trans h.tape, k.output.trans h.output, Nat.le_trans h.size k.size, fun i hi hn => (k.block i (Nat.lt_of_lt_of_le hi h.size) fun e => hn (hs i hi e)).trans (h.block i hi hn)⟩
theorem Mod.trans (h : Mod S w w') (k : Mod S w' w'') : Mod S w w'' := h.mod k fun _ _ h => h
/-- what is new for the first world may be turned freely by the second step -/
theorem Mod.mono (h : Mod S w w') (hs : ∀ k, k < w.heap.size → S k → S' k) : Mod S' w w' :=
  ⟨h.os, h.tape, h.output, h.size, fun i hi hn => h.block i hi fun e => hn (hs i hi e)⟩
theorem Mod.free (h : Mod (fun _ => False) w w') (S : Nat → Prop) : Mod S w w' := h.mono fun _ _ e => e.elim
theorem Mod.drew (h : Mod S w w') : Mod S w w'.drew := ⟨h.os, h.tape, h.output, h.size, h.block⟩
theorem Mod.drewN (h : Mod S w w') (n : Nat) : Mod S w (w'.drewN n) := ⟨h.os, h.tape, h.output, h.size, h.block⟩
theorem Mod.alloc (h : Mod S w w') (o : Obj) : Mod S w (w'.alloc o) :=
  ⟨h.os, h.tape, h.output, by have := h.size; simp; omega, fun k hk hs => (Below.heap_alloc _ _ _ (Nat.lt_of_lt_of_le hk h.size)).trans (h.block k hk hs)⟩
theorem Mod.setCell (h : Mod S w w') {a : Addr} (ha : a.block < w.heap.size → S a.block) (u : Value) : Mod S w (w'.setCell a u) :=
  ⟨h.os, h.tape, h.output, by simpa [World.setCell] using h.size, fun k hk hs => by
    by_cases e : k = a.block
    · subst e; exact absurd (ha hk) hs
    · exact (Below.heap_setCell _ _ _ _ e).trans (h.block k hk hs)⟩
theorem Mod.put (w : World) (g i : Nat) (u : Value) : Mod (fun k => k = g) w (w.setCell ⟨g, i, none⟩ u) := (Mod.refl (fun k => k = g) _).setCell (fun _ => rfl) _
theorem Mod.grown (h : Mod S w w') {row : Option Nat} (hg : w'.grownBy w'' row) (hr : ∀ k, row = some k → k < w.heap.size → S k) : Mod S w w'' :=
  ⟨hg.os.trans h.os, hg.tape.trans h.tape, hg.output.trans h.output, Nat.le_trans h.size hg.size, fun k hk hs =>
    (hg.block k (Nat.lt_of_lt_of_le hk h.size) fun e => hs (hr k e.symm hk)).trans (h.block k hk hs)⟩
theorem Mod.cell {a : Addr} (h : Mod S w w') (ha : a.block < w.heap.size) (hs : ¬ S a.block) : w'.cell? a = w.cell? a := World.cell?_of_block (h.block _ ha hs)
theorem Mod.frozen {a : Addr} (h : Mod S w w') (ha : a.block < w.heap.size) (hs : ¬ S a.block) : w'.frozen? a = w.frozen? a := World.frozen?_of_block (h.block _ ha hs)
theorem Mod.below (h : Mod S w w') {B : Nat} (hB : B ≤ w.heap.size) (hs : ∀ k, S k → B ≤ k) : Below B w w' :=
  ⟨h.os, h.tape, h.output, h.size, fun k hk => h.block k (by omega) fun e => by have := hs k e; omega⟩
theorem bmod {B : Nat} (h : Below B w w') (k : Mod S w' w'') (hs : ∀ k, S k → B ≤ k) (hB : B ≤ w'.heap.size) : Below B w w'' := h.trans (k.below hB hs)
theorem bsame {B : Nat} (h : Below B w w') (k : Mod (fun _ => False) w' w'') (hB : B ≤ w'.heap.size) : Below B w w'' := h.trans (k.below hB fun _ e => e.elim)
theorem Mod.of_below {B : Nat} (h : Below B w w') : Mod (B ≤ ·) w w' := ⟨h.os, h.tape, h.output, h.size, fun k _ hn => h.block k (by omega)⟩

/-- Block g is just these cells of element type t, none frozen. -/
def Blk (w : World) (g : Nat) (t : TypeId) (cs : Array Value) : Prop := w.heap[g]? = some (.cells cs t (0, 0))
variable {g : Nat} {t : TypeId} {cs : Array Value}
theorem Blk.lt (h : Blk w g t cs) : g < w.heap.size := by
  unfold Blk at h
  by_cases e : g < w.heap.size
  · exact e
  · rw [Array.getElem?_eq_none (by omega)] at h; cases h
theorem Blk.cell (h : Blk w g t cs) (i : Nat) : w.cell? ⟨g, i, none⟩ = cs[i]? := cell_of_row w g i cs t (0, 0) h
theorem Blk.cell' (h : Blk w g t cs) {i : Nat} (hi : i < cs.size) : w.cell? ⟨g, i, none⟩ = some cs[i] := by rw [h.cell, Array.getElem?_eq_getElem hi]
theorem Blk.free (h : Blk w g t cs) (i : Nat) : w.frozen? ⟨g, i, none⟩ = false := by
  unfold Blk at h
  simp [World.frozen?, h]
theorem Blk.made (w : World) (t : TypeId) (cs : Array Value) : Blk (w.alloc (.cells cs t)) w.heap.size t cs := heap_alloc_new w _
theorem Blk.drew (h : Blk w g t cs) : Blk w.drew g t cs := h
theorem Blk.alloc (h : Blk w g t cs) (o : Obj) : Blk (w.alloc o) g t cs := (Below.heap_alloc w o g h.lt).trans h
theorem Blk.set (h : Blk w g t cs) (i : Nat) (u : Value) : Blk (w.setCell ⟨g, i, none⟩ u) g t (cs.setIfInBounds i u) := by
  unfold Blk at h ⊢
  simp [World.setCell, Array.getElem?_modify, h]
theorem Blk.keep (h : Blk w g t cs) (hm : Mod S w w') (hs : ¬ S g) : Blk w' g t cs := (hm.block g h.lt hs).trans h

/-- The slice value (A, n, c) owns a row (or is nil): its n elements, of 'size' cells each, are xs. -/
def Own (w : World) (e : TypeId) (size : Nat) (A : Option Addr) (n c : Nat) (xs : List Value) : Prop := w.ownsRow 0 e size (.slice A n c) n xs
/-- The block that the address lies in. -/
def ob (A : Option Addr) : Option Nat := A.map (·.block)
/-- A slice's elements may be read: xs. -/
def Rd (w : World) (size : Nat) (A : Option Addr) (n : Nat) (xs : List Value) : Prop :=
  xs.length = n * size ∧ (0 < n → ∃ ad, A = some ad ∧ ∀ j u, xs[j]? = some u → w.cell? (ad.add j) = some u)
variable {e size n c : Nat} {A : Option Addr} {xs : List Value}
theorem own_block (A : Option Addr) (n c : Nat) : Value.ownBlock (.slice A n c) = ob A := by cases A <;> rfl
theorem Own.len (h : Own w e size A n c xs) : xs.length = n * size := h.1
theorem Own.nil (w : World) (e size : Nat) : Own w e size none 0 0 [] := World.ownsRow_nil w 0 e size
theorem Own.rd (h : Own w e size A n c xs) : Rd w size A n xs := by
  refine ⟨h.1, fun hn => ?_⟩
  rcases h.2 with ⟨_, h0⟩ | ⟨g, cap, cur, hv, _⟩
  · omega
  · injection hv with hA _ _
    subst hA
    exact ⟨_, rfl, World.ownsRow.cells h (g := g) rfl⟩
/-- a row that has just been laid, whole -/
theorem Own.lit (w : World) (e : TypeId) (cs : Array Value) (hm : cs.size ≤ maxLen) : Own (w.alloc (.cells cs e)) e 1 (some ⟨w.heap.size, 0, none⟩) cs.size cs.size cs.toList :=
  ⟨by simp, .inr ⟨w.heap.size, cs.size, cs, rfl, Nat.zero_le _, heap_alloc_new w _, Nat.le_refl _, hm, by simp, by rw [Nat.mul_one]; exact List.take_of_length_le (by simp)⟩⟩
theorem Own.lit1 (w : World) (e : TypeId) (x : Value) : Own (w.alloc (.cells #[x] e)) e 1 (some ⟨w.heap.size, 0, none⟩) 1 1 [x] := Own.lit w e #[x] (by simp [maxLen])
theorem Own.lit1e (w : World) (e : TypeId) {x : Value} {l : List Value} (h : [x] = l) : Own (w.alloc (.cells #[x] e)) e 1 (some ⟨w.heap.size, 0, none⟩) 1 1 l := h ▸ Own.lit1 w e x
theorem Own.lt (h : Own w e size A n c xs) : ∀ k, ob A = some k → k < w.heap.size := fun k hk => (World.ownsRow.lt h k (by rw [own_block]; exact hk)).2
theorem Own.keep (h : Own w e size A n c xs) (hm : Mod S w w') (hs : ∀ k, ob A = some k → ¬ S k) : Own w' e size A n c xs := by
  refine ⟨h.1, ?_⟩
  rcases h.2 with hn | ⟨g, cap, cur, hv, hb, hg, rest⟩
  · exact .inl hn
  · refine .inr ⟨g, cap, cur, hv, hb, ?_, rest⟩
    injection hv with hA _ _
    rw [hm.block g (Array.getElem?_eq_some_iff.1 hg).1 (hs g (by subst hA; rfl))]
    exact hg
theorem Own.alloc (h : Own w e size A n c xs) (o : Obj) : Own (w.alloc o) e size A n c xs := World.ownsRow.alloc h o
theorem Own.drew (h : Own w e size A n c xs) : Own w.drew e size A n c xs := h
/-- a row is no block of another element type -/
theorem Own.ne (h : Own w e size A n c xs) (hb : Blk w g t cs) (hne : e ≠ t) : ob A ≠ some g := by
  intro hA
  rcases h.2 with ⟨hv, _⟩ | ⟨g', cap, cur, hv, _, hg, _⟩
  · injection hv with hA'; subst hA'; cases hA
  · injection hv with hA' _ _
    subst hA'
    have : g' = g := by simpa [ob] using hA
    subst this
    unfold Blk at hb
    rw [hg] at hb
    injection hb with hb
    injection hb with _ ht
    exact hne ht
theorem Own.at_ (h : Own w e size A n c xs) (hn : 0 < n) : ∃ g cur, A = some ⟨g, 0, none⟩ ∧ Blk w g e cur ∧ n ≤ c ∧ c ≤ maxLen ∧ cur.size = c * size ∧ cur.toList.take (n * size) = xs := by
  rcases h.2 with ⟨_, h0⟩ | ⟨g, cap, cur, hv, _, hg, h1, h2, h3, h4⟩
  · omega
  · injection hv with hA _ hc
    subst hc
    exact ⟨g, cur, hA, hg, h1, h2, h3, h4⟩
theorem Own.make (g : Nat) (cur : Array Value) (hg : Blk w g e cur) (hn : n ≤ c) (hc : c ≤ maxLen) (hs : cur.size = c * size) (hx : cur.toList.take (n * size) = xs) : Own w e size (some ⟨g, 0, none⟩) n c xs := by
  refine ⟨?_, .inr ⟨g, c, cur, rfl, Nat.zero_le _, hg, hn, hc, hs, hx⟩⟩
  rw [← hx, List.length_take, Array.length_toList, hs, Nat.min_eq_left (Nat.mul_le_mul_right _ hn)]

theorem Own.cap (h : Own w e size A n c xs) : n ≤ c ∧ c ≤ maxLen := by
  rcases h.2 with ⟨hv, h0⟩ | ⟨g, cap, cur, hv, _, _, h1, h2, _⟩
  · injection hv with _ _ hc
    subst hc h0
    exact ⟨Nat.le_refl _, Nat.zero_le _⟩
  · injection hv with _ _ hc
    subst hc
    exact ⟨h1, h2⟩
theorem Own.store {g : Nat} (h : Own w e 1 (some ⟨g, 0, none⟩) n c xs) {j : Nat} (hj : j < n) (u : Value) : Own (w.setCell ⟨g, j, none⟩ u) e 1 (some ⟨g, 0, none⟩) n c (xs.set j u) := by
  obtain ⟨g', cur, hA, hb, h1, h2, h3, h4⟩ := h.at_ (by omega)
  injection hA with hA
  injection hA with hA
  subst hA
  simp only [Nat.mul_one] at h3 h4
  refine Own.make g (cur.setIfInBounds j u) (hb.set j u) h1 h2 (by simp; omega) ?_
  subst h4
  rw [Nat.mul_one, Array.toList_setIfInBounds, List.take_set]
/-- a row of bytes, whatever they are -/
def Bytesy (w : World) (e : TypeId) (A : Option Addr) (n c : Nat) : Prop := ∃ xs, Own w e 1 A n c xs ∧ ∀ j, j < n → ∃ z, xs[j]? = some (.int .u8 z)
theorem Bytesy.of {l : List UInt8} (h : Own w e 1 A n c (List.map (fun b : UInt8 => Value.int .u8 (b.toNat : Int)) l)) : Bytesy w e A n c := by
  refine ⟨_, h, fun j hj => ?_⟩
  have hl := h.1
  simp at hl
  exact ⟨l[j].toNat, by simp [List.getElem?_map, List.getElem?_eq_getElem (show j < l.length by omega)]⟩
theorem Bytesy.at_ (h : Bytesy w e A n c) {j : Nat} (hj : j < n) : ∃ g z, A = some ⟨g, 0, none⟩ ∧ w.cell? ⟨g, j, none⟩ = some (.int .u8 z) ∧ w.frozen? ⟨g, j, none⟩ = false ∧ ∀ y, Bytesy (w.setCell ⟨g, j, none⟩ (.int .u8 y)) e A n c := by
  obtain ⟨xs, ho, hz⟩ := h
  obtain ⟨g, cur, rfl, hb, h1, h2, h3, h4⟩ := ho.at_ (by omega)
  obtain ⟨z, hzj⟩ := hz j hj
  refine ⟨g, z, rfl, ?_, hb.free j, fun y => ⟨_, ho.store hj _, fun i hi => ?_⟩⟩
  · rw [hb.cell j, ← hzj, ← h4, List.getElem?_take, if_pos (by omega)]
    simp
  · rw [List.getElem?_set]
    have hl := ho.1
    split
    · exact ⟨y, by rw [if_pos (by omega)]⟩
    · exact hz i hi
theorem Bytesy.keep (h : Bytesy w e A n c) (hm : Mod S w w') (hs : ∀ k, ob A = some k → ¬ S k) : Bytesy w' e A n c := let ⟨xs, h1, h2⟩ := h; ⟨xs, h1.keep hm hs, h2⟩
theorem Bytesy.lt (h : Bytesy w e A n c) : ∀ k, ob A = some k → k < w.heap.size := let ⟨_, h1, _⟩ := h; h1.lt
theorem Rd.len (h : Rd w size A n xs) : xs.length = n * size := h.1
theorem Rd.nil (w : World) (size : Nat) (A : Option Addr) : Rd w size A 0 [] := ⟨by simp, fun h => absurd h (by omega)⟩
theorem add_block (a : Addr) (j : Nat) : (a.add j).block = a.block := by unfold Addr.add; split <;> rfl
theorem add_add (a : Addr) (i j : Nat) : (a.add i).add j = a.add (i + j) := by
  unfold Addr.add
  by_cases hi : i = 0 <;> by_cases hj : j = 0 <;> simp [hi, hj, Nat.add_assoc]
theorem Rd.keep (h : Rd w size A n xs) (hm : Mod S w w') (hs : ∀ k, ob A = some k → k < w.heap.size → ¬ S k) : Rd w' size A n xs := by
  refine ⟨h.1, fun hn => ?_⟩
  obtain ⟨ad, rfl, hc⟩ := h.2 hn
  refine ⟨ad, rfl, fun j u hu => ?_⟩
  have h1 := hc j u hu
  have hlt := World.block_lt_of_cell? w _ h1
  rw [hm.cell hlt (hs _ (by simp [ob, add_block]) hlt)]
  exact h1
theorem Rd.drew (h : Rd w size A n xs) : Rd w.drew size A n xs := h
theorem Rd.alloc (h : Rd w size A n xs) (o : Obj) : Rd (w.alloc o) size A n xs := h.keep ((Mod.refl (fun _ => False) w).alloc o) fun _ _ _ => id
theorem Rd.cut (h : Rd w size A n xs) {k cap : Nat} (hk : k ≤ n) (hc : n ≤ cap) :
    Rd w size (if cap = k then A else A.map (·.add (k * size))) (n - k) (xs.drop (k * size)) := by
  refine ⟨by rw [List.length_drop, h.1, Nat.sub_mul], fun hn => ?_⟩
  obtain ⟨ad, rfl, hcell⟩ := h.2 (by omega)
  rw [if_neg (by omega)]
  refine ⟨ad.add (k * size), rfl, fun j u hu => ?_⟩
  rw [add_add]
  exact hcell _ u (by rw [← hu, List.getElem?_drop])
theorem Rd.take (h : Rd w size A n xs) {k : Nat} (hk : k ≤ n) : Rd w size A k (xs.take (k * size)) := by
  refine ⟨by rw [List.length_take, h.1, Nat.min_eq_left (Nat.mul_le_mul_right _ hk)], fun hn => ?_⟩
  obtain ⟨ad, rfl, hcell⟩ := h.2 (by omega)
  refine ⟨ad, rfl, fun j u hu => hcell j u ?_⟩
  rw [List.getElem?_take] at hu
  split at hu
  · exact hu
  · cases hu
theorem Rd.addr (h : Rd w 1 A n xs) (hn : 0 < n) : ∃ b o, A = some ⟨b, o, none⟩ ∧ ∀ j u, xs[j]? = some u → w.cell? ⟨b, o + j, none⟩ = some u := by
  obtain ⟨⟨b, o, sp⟩, rfl, hc⟩ := h.2 hn
  have hl := h.1
  have h0 := hc 0 _ (List.getElem?_eq_getElem (show 0 < xs.length by omega))
  have hsp : sp = none := by simpa [Addr.add] using World.cell?_spot h0
  subst hsp
  refine ⟨b, o, rfl, fun j u hu => ?_⟩
  have := hc j u hu
  unfold Addr.add at this
  split at this
  · subst_vars; simpa using this
  · simpa using this
theorem Rd.one (w : World) (x : Value) (t : TypeId) : Rd (w.alloc (.cells #[x] t)) 1 (some ⟨w.heap.size, 0, none⟩) 1 [x] :=
  ⟨rfl, fun _ => ⟨_, rfl, cell_one_new w x t⟩⟩

/-- The set of blocks F has grown to F' by new blocks alone. -/
def Grows (n : Nat) (F F' : Nat → Prop) : Prop := ∀ k, F' k → F k ∨ n ≤ k
/-- Two sets of blocks are apart. -/
def Apart (F G : Nat → Prop) : Prop := ∀ k, F k → ¬ G k
theorem Apart.symm {F G : Nat → Prop} (h : Apart F G) : Apart G F := fun k hg hf => h k hf hg
theorem Apart.none (F : Nat → Prop) : Apart F (fun _ => False) := fun _ _ h => h
theorem Apart.of_lt {F G : Nat → Prop} {n : Nat} (hF : ∀ k, F k → k < n) (hG : ∀ k, G k → n ≤ k) : Apart F G := fun k h1 h2 => by have := hF k h1; have := hG k h2; omega
/-- All of these blocks are from B on. -/
def Fresh (B : Nat) (F : Nat → Prop) : Prop := ∀ k, F k → B ≤ k
theorem Fresh.grows {F F' : Nat → Prop} {B n : Nat} (h : Fresh B F) (hg : Grows n F F') (hB : B ≤ n) : Fresh B F' := fun k hk => by
  rcases hg k hk with h1 | h1
  · exact h k h1
  · omega
theorem Fresh.mono {F : Nat → Prop} {B n : Nat} (h : Fresh n F) (hB : B ≤ n) : Fresh B F := fun k hk => Nat.le_trans hB (h k hk)
theorem Apart.grows {F F' G : Nat → Prop} {n : Nat} (h : Apart F G) (hg : Grows n F F') (hl : ∀ k, G k → k < n) : Apart F' G := fun k hk hG => by
  rcases hg k hk with h1 | h1
  · exact h k h1 hG
  · have := hl k hG; omega

theorem Rd.lit (w : World) (cs : Array Value) (t : TypeId) (fr : Nat × Nat) : Rd (w.alloc (.cells cs t fr)) 1 (some ⟨w.heap.size, 0, none⟩) cs.size cs.toList := by
  refine ⟨by simp, fun _ => ⟨_, rfl, fun j u hu => ?_⟩⟩
  have hadd : (⟨w.heap.size, 0, none⟩ : Addr).add j = ⟨w.heap.size, j, none⟩ := by unfold Addr.add; split <;> simp_all
  have hb : (w.alloc (.cells cs t fr)).heap[w.heap.size]? = some (.cells cs t fr) := heap_alloc_new w _
  rw [hadd, cell_of_row _ _ j cs t fr hb]
  simpa using hu
/-- append onto a row of the call's own (or nil), from any source. -/
theorem run_app {P : Program} (w : World) (t ty e : TypeId) (i : TypeInfo) (z : Value) (size bytes : Nat) (ht : P.underlying t = some (.slice e)) (hi : P.info? e = some i) (hz : i.zero = some z)
    (hsize : i.size = size) (hby : i.bytes = bytes) (hzs : z.cells.size = size) (hsz : 0 < size)
    {A : Option Addr} {n c : Nat} {xs : List Value} (hown : Own w e size A n c xs) {B : Option Addr} {m c' : Nat} {news : List Value} (hr : Rd w size B m news) (h1 : ∀ u ∈ news, u.oneCell' = true)
    (h63 : n + m ≤ maxLen) (hbytes : (n + m) * bytes ≤ 140737488355328) :
    ∃ A' c'' w', (Builtin.append_ #[t, t] ty #[.slice A n c, .slice B m c']).run P w = .ok (.slice A' (n + m) c'') w' ∧ Own w' e size A' (n + m) c'' (xs ++ news) ∧ Mod (fun k => ob A = some k) w w' ∧
      (A' = A ∨ A' = some ⟨w.heap.size, 0, none⟩) ∧ (A' = none → A = none ∧ m = 0) := by
  have key : ∀ v' w', w'.ownsRow 0 e size v' (n + m) (xs ++ news) → w.grownBy w' (Value.ownBlock (.slice A n c)) → (v'.ownBlock = Value.ownBlock (.slice A n c) ∨ v'.ownBlock = some w.heap.size) → (v' = .slice none 0 0 ↔ Value.slice A n c = .slice none 0 0 ∧ m = 0) →
      ∃ A' c'', v' = .slice A' (n + m) c'' ∧ Own w' e size A' (n + m) c'' (xs ++ news) ∧ Mod (fun k => ob A = some k) w w' ∧ (A' = A ∨ A' = some ⟨w.heap.size, 0, none⟩) ∧ (A' = none → A = none ∧ m = 0) := by
    intro v' w' ho hg hb hnil
    have hM : Mod (fun k => ob A = some k) w w' := ⟨hg.os, hg.tape, hg.output, hg.size, fun k hk hs => hg.block k hk (by rw [own_block]; exact fun e => hs e.symm)⟩
    rcases ho.2 with ⟨rfl, h0⟩ | ⟨g, cap, cur, rfl, hb0, hgg, rest⟩
    · obtain ⟨hv, _⟩ := hnil.1 rfl
      injection hv with hA
      exact ⟨none, 0, by rw [h0], by unfold Own; rw [h0] at ho ⊢; exact ho, hM, .inl hA.symm, fun _ => ⟨hA, by omega⟩⟩
    · refine ⟨some ⟨g, 0, none⟩, cap, rfl, ⟨ho.1, .inr ⟨g, cap, cur, rfl, hb0, hgg, rest⟩⟩, hM, ?_, fun h => by cases h⟩
      rcases hb with hb | hb
      · rcases hown.2 with ⟨hv, _⟩ | ⟨g', cap', cur', hv, _⟩
        · rw [hv] at hb; simp [Value.ownBlock] at hb
        · rw [hv] at hb
          injection hv with hA
          have : g = g' := by simpa [Value.ownBlock] using hb
          subst this
          exact .inl hA.symm
      · have : g = w.heap.size := by simpa [Value.ownBlock] using hb
        subst this
        exact .inr rfl
  by_cases h0 : m = 0
  · subst h0
    have hn : news = [] := List.eq_nil_of_length_eq_zero (by simpa using hr.1)
    subst hn
    refine ⟨A, c, w, ?_, by simpa using hown, Mod.refl _ _, .inl rfl, fun h => ⟨h, rfl⟩⟩
    rcases hown.2 with ⟨hv, h0⟩ | ⟨g, cap, cur, hv, _, _, hnc, _⟩
    · injection hv with hA _ hc
      subst hA hc h0
      cases B <;> simp [Builtin.append_, run_underlying ht, sizeOf, typeInfo, hi, Builtin.lenOf, Builtin.firstCells, loadCells, loadCellsFrom]
    · injection hv with hA _ hc
      subst hA hc
      cases B <;> simp [Builtin.append_, run_underlying ht, sizeOf, typeInfo, hi, Builtin.lenOf, Builtin.firstCells, loadCells, loadCellsFrom, storeCells, hnc]
  · obtain ⟨ad, rfl, hc⟩ := hr.2 (by omega)
    obtain ⟨v', w', hrun, ho, hg, hnil, hb⟩ := run_append_own_at (P := P) w 0 t ty e i z size bytes ht hi hz hsize hby hzs hsz _ n xs hown ad m c' news hr.1 hc h1 h63 hbytes (Nat.zero_le _)
    obtain ⟨A', c'', rfl, r1, r2, r3, r4⟩ := key v' w' ho hg hb hnil
    exact ⟨A', c'', w', hrun, r1, r2, r3, r4⟩

theorem wp_app {P : Program} {o : Oper} {a : Act} {w : World} {K : Act → World → Prop} {Q : Exit → Act → World → Prop} (s x : Operand) (t : TypeId)
    (ho : o.op = .call { callee := .builtin .append, args := #[s, x], argTypes := #[t, t] })
    (e : TypeId) (i : TypeInfo) (z : Value) (size bytes : Nat) (ht : P.underlying t = some (.slice e)) (hi : P.info? e = some i) (hz : i.zero = some z)
    (hsize : i.size = size) (hby : i.bytes = bytes) (hzs : z.cells.size = size) (hsz : 0 < size)
    (A : Option Addr) (n c : Nat) (xs : List Value) (hs : a.eval s = .slice A n c) (hown : Own w e size A n c xs)
    (B : Option Addr) (m c' : Nat) (news : List Value) (hx : a.eval x = .slice B m c') (hr : Rd w size B m news) (h1 : ∀ u ∈ news, u.oneCell' = true)
    (h63 : n + m ≤ maxLen) (hbytes : (n + m) * bytes ≤ 140737488355328)
    (h : ∀ A' c'' w', Own w' e size A' (n + m) c'' (xs ++ news) → Mod (fun k => ob A = some k) w w' → (A' = A ∨ A' = some ⟨w.heap.size, 0, none⟩) → (A' = none → A = none ∧ m = 0) → K (a.put o.dst (.slice A' (n + m) c'')) w') : o.wp P a w K Q := by
  obtain ⟨A', c'', w', hrun, h2, h3, h4, h5⟩ := run_app (P := P) w t o.type e i z size bytes ht hi hz hsize hby hzs hsz hown (c' := c') hr h1 h63 hbytes
  unfold Oper.wp execOp
  simp only [ho, resolve, invoke, builtin, Sem.run_bind, Sem.run_pure, Result.andThen_ok, List.map_toArray, List.map_cons, List.map_nil, hs, hx, hrun]
  exact h A' c'' w' h2 h3 h4 h5

theorem wpList_app {P : Program} {ops : Array Oper} {rest : List Oper} {o : Oper} {a : Act} {w : World} {Q : Exit → Act → World → Prop} (hgd : o.guard = none) (s x : Operand) (t : TypeId)
    (ho : o.op = .call { callee := .builtin .append, args := #[s, x], argTypes := #[t, t] })
    (e : TypeId) (i : TypeInfo) (z : Value) (size bytes : Nat) (ht : P.underlying t = some (.slice e)) (hi : P.info? e = some i) (hz : i.zero = some z)
    (hsize : i.size = size) (hby : i.bytes = bytes) (hzs : z.cells.size = size) (hsz : 0 < size)
    (A : Option Addr) (n c : Nat) (xs : List Value) (hs : a.eval s = .slice A n c) (hown : Own w e size A n c xs)
    (B : Option Addr) (m c' : Nat) (news : List Value) (hx : a.eval x = .slice B m c') (hr : Rd w size B m news) (h1 : ∀ u ∈ news, u.oneCell' = true)
    (h63 : n + m ≤ maxLen) (hbytes : (n + m) * bytes ≤ 140737488355328)
    (h : ∀ A' c'' w', Own w' e size A' (n + m) c'' (xs ++ news) → Mod (fun k => ob A = some k) w w' → (A' = A ∨ A' = some ⟨w.heap.size, 0, none⟩) → (A' = none → A = none ∧ m = 0) → wpList P ops Q rest (a.put o.dst (.slice A' (n + m) c'')) w') : wpList P ops Q (o :: rest) a w :=
  wpList_plain hgd fun _ hK => wp_app s x t ho e i z size bytes ht hi hz hsize hby hzs hsz A n c xs hs hown B m c' news hx hr h1 h63 hbytes fun A' c'' w' h2 h3 h4 h5 => hK _ _ (h A' c'' w' h2 h3 h4 h5)

theorem step_app {P : Program} {ops : Array Oper} {o : Oper} {a : Act} {w : World} {K : Act → World → Prop} {Q : Exit → Act → World → Prop} {E : Prop} (hgd : o.guard = none) (s x : Operand) (t : TypeId)
    (ho : o.op = .call { callee := .builtin .append, args := #[s, x], argTypes := #[t, t] })
    (e : TypeId) (i : TypeInfo) (z : Value) (size bytes : Nat) (ht : P.underlying t = some (.slice e)) (hi : P.info? e = some i) (hz : i.zero = some z)
    (hsize : i.size = size) (hby : i.bytes = bytes) (hzs : z.cells.size = size) (hsz : 0 < size)
    (A : Option Addr) (n c : Nat) (xs : List Value) (hs : a.eval s = .slice A n c) (hown : Own w e size A n c xs)
    (B : Option Addr) (m c' : Nat) (news : List Value) (hx : a.eval x = .slice B m c') (hr : Rd w size B m news) (h1 : ∀ u ∈ news, u.oneCell' = true)
    (h63 : n + m ≤ maxLen) (hbytes : (n + m) * bytes ≤ 140737488355328)
    (h : ∀ A' c'' w', Own w' e size A' (n + m) c'' (xs ++ news) → Mod (fun k => ob A = some k) w w' → (A' = A ∨ A' = some ⟨w.heap.size, 0, none⟩) → (A' = none → A = none ∧ m = 0) → K (a.put o.dst (.slice A' (n + m) c'')) w') :
    if Region.wanted o (yielded ops a.tmps) = true then Oper.wp P o a w K Q else E := by
  have hw : Region.wanted o (yielded ops a.tmps) = true := by simp [Region.wanted, hgd]
  rw [if_pos hw]
  exact wp_app s x t ho e i z size bytes ht hi hz hsize hby hzs hsz A n c xs hs hown B m c' news hx hr h1 h63 hbytes h

/-- s[k:], whatever the capacity: one address, behind a name. -/
theorem run_cut {P : Program} (t e : TypeId) (i : TypeInfo) (ht : P.underlying t = some (.slice e)) (hi : P.info? e = some i) (A : Option Addr) (n c k : Nat) (hk : k ≤ n) (hc : n ≤ c) :
    ∃ A', (∀ w : World, (Instr.slice t (.slice A n c) (some (.int .i64 (k : Int))) none none).run P w = .ok (.slice A' (n - k) (c - k)) w) ∧ (∀ w xs, Rd w i.size A n xs → Rd w i.size A' (n - k) (xs.drop (k * i.size))) ∧ (∀ b, ob A' = some b → ob A = some b) := by
  refine ⟨if c = k then A else A.map (·.add (k * i.size)), fun w => ?_, fun w xs h => h.cut hk hc, fun b hb => ?_⟩
  · have he : P.elem t = e := by simp [Program.elem, ht]
    rw [run_slice_l w t A n c (by rw [he]; exact ht) .i64 k (by omega) (by omega)]
    simp [sizeOf, typeInfo, he, hi, sliced]
  · split at hb
    · exact hb
    · cases A with
      | none => exact hb
      | some a => simpa [ob, add_block] using hb

/-! ### bytes -/
def u8 (b : UInt8) : Value := .int .u8 (b.toNat : Int)
def u8s (l : List UInt8) : List Value := l.map u8
@[simp] theorem u8s_length (l : List UInt8) : (u8s l).length = l.length := by simp [u8s]
theorem u8s_append (a b : List UInt8) : u8s (a ++ b) = u8s a ++ u8s b := by simp [u8s]
theorem u8s_one (l : List UInt8) : ∀ u ∈ u8s l, u.oneCell' = true := by
  intro u hu
  simp only [u8s, List.mem_map] at hu
  obtain ⟨b, _, rfl⟩ := hu
  rfl
theorem u8s_take (l : List UInt8) (k : Nat) : (u8s l).take k = u8s (l.take k) := by simp [u8s, List.map_take]
theorem u8s_drop (l : List UInt8) (k : Nat) : (u8s l).drop k = u8s (l.drop k) := by simp [u8s, List.map_drop]
theorem u8s_at (l : List UInt8) (k : Nat) (h : k < l.length) : (u8s l)[k]? = some (u8 l[k]) := by simp [u8s, List.getElem?_map, List.getElem?_eq_getElem h]
theorem u8_inj {a b : UInt8} (h : u8 a = u8 b) : a = b := by
  unfold u8 at h
  injection h with _ h
  exact UInt8.toNat_inj.1 (by omega)
theorem u8s_inj : ∀ {a b : List UInt8}, u8s a = u8s b → a = b
  | [], [], _ => rfl
  | [], _ :: _, h => by cases h
  | _ :: _, [], h => by cases h
  | x :: a, y :: b, h => by
    simp only [u8s, List.map_cons, List.cons.injEq] at h
    rw [u8_inj h.1, u8s_inj h.2]
theorem strCells_u8s (s : ByteArray) : strCells s = u8s s.data.toList := rfl

theorem own_of_block {w : World} {e size g n c : Nat} {cur : Array Value} {xs : List Value} (hg : w.heap[g]? = some (.cells cur e (0, 0))) (hn : n ≤ c) (hc : c ≤ maxLen) (hs : cur.size = c * size) (hx : cur.toList.take (n * size) = xs) : Own w e size (some ⟨g, 0, none⟩) n c xs :=
  Own.make g cur hg hn hc hs hx

theorem run_app_str {P : Program} (w : World) (t u ty e : TypeId) (i : TypeInfo) (ht : P.underlying t = some (.slice e)) (hu : P.underlying u = some .string) (hi : P.info? e = some i) (hz : i.zero = some (.int .u8 0))
    (hsize : i.size = 1) (hby : i.bytes = 1) {A : Option Addr} {n c : Nat} {xs : List Value} (hown : Own w e 1 A n c xs) (s : ByteArray) (hbytes : n + s.size ≤ 140737488355328) :
    ∃ A' c'' w', (Builtin.append_ #[t, u] ty #[.slice A n c, .string s]).run P w = .ok (.slice A' (n + s.size) c'') w' ∧ Own w' e 1 A' (n + s.size) c'' (xs ++ u8s s.data.toList) ∧ Mod (fun k => ob A = some k) w w' ∧
      (A' = A ∨ A' = some ⟨w.heap.size, 0, none⟩) := by
  have h63 : n + s.size ≤ maxLen := by unfold maxLen; omega
  have hxl : xs.length = n := by simpa using hown.1
  have hsl : (u8s s.data.toList).length = s.size := (u8s_length _).trans rfl
  have grown : ∀ (old : Nat), old < n + s.size →
      Own (w.drew.alloc (.cells (xs.toArray ++ (strCells s).toArray ++ Builtin.zeroCells (Value.int .u8 0).cells (grownCap w (n + s.size) old e - (n + s.size))) e)) e 1
        (some ⟨w.heap.size, 0, none⟩) (n + s.size) (grownCap w (n + s.size) old e) (xs ++ u8s s.data.toList) ∧
      Mod (fun k => ob A = some k) w (w.drew.alloc (.cells (xs.toArray ++ (strCells s).toArray ++ Builtin.zeroCells (Value.int .u8 0).cells (grownCap w (n + s.size) old e - (n + s.size))) e)) := by
    intro old ho
    have hge := grownCap_ge w (n + s.size) old e
    have hcm : grownCap w (n + s.size) old e ≤ maxLen := grownCap_le_maxLen w (n + s.size) old e h63
    refine ⟨own_of_block (heap_alloc_new w.drew _) hge hcm ?_ ?_, (Mod.refl _ _).drew.alloc _⟩
    · have hz1 : (Value.int IntKind.u8 0).cells.size = 1 := rfl
      simp only [Array.size_append, List.size_toArray, size_zeroCells, hz1, hxl, strCells_length]
      omega
    · simp only [Array.toList_append, List.append_assoc]
      rw [strCells_u8s, ← List.append_assoc, Nat.mul_one, List.take_left' (by simp [hxl, hsl])]
  rcases hown.2 with ⟨hv, h0⟩ | ⟨g, cap, cur, hv, hbg, hg, hnc, hcm, hcs, htake⟩
  · injection hv with hA _ hc
    subst hA h0 hc
    have hx : xs = [] := List.eq_nil_of_length_eq_zero hxl
    subst hx
    by_cases hm : s.size = 0
    · have hn : u8s s.data.toList = [] := List.eq_nil_of_length_eq_zero (by rw [hsl]; exact hm)
      refine ⟨none, 0, w, ?_, by rw [hm, hn]; exact Own.nil w e 1, Mod.refl _ _, .inl rfl⟩
      have hf := run_firstCells_string (P := P) w 1 s
      rw [hm] at hf
      simp [Builtin.append_, run_underlying ht, run_underlying hu, sizeOf, typeInfo, hi, hsize, Builtin.lenOf, hm, hf]
    · have hr := run_append_nil_string (P := P) w t u ty e i (.int .u8 0) ht hu hi hz s (by omega) (by omega) (by rw [hby]; omega)
      have hgr := grown 0 (by omega)
      simp only [Nat.zero_add, List.nil_append, Array.empty_append] at hgr ⊢
      have e1 : (s.data.map fun b => Value.int .u8 b.toNat) = (strCells s).toArray := by
        apply Array.ext'
        simp [strCells]
      rw [e1] at hr
      exact ⟨_, _, _, hr, hgr.1, hgr.2, .inr rfl⟩
  · injection hv with hA _ hc
    subst hA hc
    by_cases hroom : n + s.size ≤ c
    · have hcs' : cur.size = c := by simpa using hcs
      have hr := run_append_room_string (P := P) w t u ty e i ht hu hi hsize g n c cur hg s hroom (by omega)
      refine ⟨_, _, _, hr, own_of_block (setRow_heap w g cur _ e _ hg) hroom hcm ?_ ?_, ⟨rfl, rfl, rfl, by simp, fun k _ hk => setRow_other w g k _ (fun e => hk (by simp [ob, e]))⟩, .inl rfl⟩
      · simp only [List.size_toArray, List.length_append, List.length_take, List.length_drop, Array.length_toList, strCells_length]
        omega
      · have ht' : cur.toList.take n = xs := by simpa using htake
        rw [ht', strCells_u8s]
        simp only [Nat.mul_one, List.append_assoc]
        rw [← List.append_assoc, List.take_left' (by simp [hxl, hsl])]
    · have holds : ∀ j u, xs[j]? = some u → w.cell? ((⟨g, 0, none⟩ : Addr).add j) = some u := World.ownsRow.cells hown (g := g) rfl
      have hr := run_append_grow_string (P := P) w t u ty e i (.int .u8 0) ht hu hi hz ⟨g, 0, none⟩ n c xs (by rw [hsize]; simpa using hxl) holds s (by omega) (by omega) (by rw [hby]; exact growslice_fits (by omega) (by omega))
      have hgr := grown c (by omega)
      exact ⟨_, _, _, hr, hgr.1, hgr.2, .inr rfl⟩

theorem wpList_app_str {P : Program} {ops : Array Oper} {rest : List Oper} {o : Oper} {a : Act} {w : World} {Q : Exit → Act → World → Prop} (hgd : o.guard = none) (sl x : Operand) (t u : TypeId)
    (ho : o.op = .call { callee := .builtin .append, args := #[sl, x], argTypes := #[t, u] })
    (e : TypeId) (i : TypeInfo) (ht : P.underlying t = some (.slice e)) (hu : P.underlying u = some .string) (hi : P.info? e = some i) (hz : i.zero = some (.int .u8 0)) (hsize : i.size = 1) (hby : i.bytes = 1)
    (A : Option Addr) (n c : Nat) (xs : List Value) (hs : a.eval sl = .slice A n c) (hown : Own w e 1 A n c xs) (s : ByteArray) (hx : a.eval x = .string s) (hbytes : n + s.size ≤ 140737488355328)
    (h : ∀ A' c'' w', Own w' e 1 A' (n + s.size) c'' (xs ++ u8s s.data.toList) → Mod (fun k => ob A = some k) w w' → (A' = A ∨ A' = some ⟨w.heap.size, 0, none⟩) → wpList P ops Q rest (a.put o.dst (.slice A' (n + s.size) c'')) w') : wpList P ops Q (o :: rest) a w := by
  refine wpList_plain hgd fun _ hK => ?_
  obtain ⟨A', c'', w', hrun, h2, h3, h4⟩ := run_app_str (P := P) w t u o.type e i ht hu hi hz hsize hby hown s hbytes
  unfold Oper.wp execOp
  simp only [ho, resolve, invoke, builtin, Sem.run_bind, Sem.run_pure, Result.andThen_ok, List.map_toArray, List.map_cons, List.map_nil, hs, hx, hrun]
  exact hK _ _ (h A' c'' w' h2 h3 h4)

/-- A slice of bytes that may be read, as a string. -/
theorem run_string_of {P : Program} (w : World) (src dst e : TypeId) (A : Option Addr) (n c : Nat) (l : List UInt8)
    (hs : P.underlying src = some (.slice e)) (he : P.underlying e = some (.int .u8)) (hd : P.underlying dst = some .string) (h : Rd w 1 A n (u8s l)) :
    (convert src dst (.slice A n c)).run P w = .ok (.string ⟨l.toArray⟩) w := by
  have hl : l.length = n := by simpa using h.1
  rcases Nat.eq_zero_or_pos n with h0 | h0
  · subst h0
    have : l = [] := List.eq_nil_of_length_eq_zero hl
    subst this
    cases A with
    | none => rw [run_convert_bytes_string w src dst e none 0 c hs he hd]; rfl
    | some a => exact run_convert_bytes_back w src dst e a c [] hs he hd fun j hj => by simp at hj
  · obtain ⟨ad, rfl, hc⟩ := h.2 h0
    subst hl
    exact run_convert_bytes_back w src dst e ad c l hs he hd fun j hj => hc j _ (u8s_at l j hj)
end
end Go.Proofs.Ytmgpiminicgbiaa
namespace Go.Proofs.Ytmgpiminicgbiaa
set_option linter.unusedVariables false
set_option linter.unusedSimpArgs false
open Go.RowKit

/-! ### values of many cells: loaded, stored, copied as one list -/
/-- a part of a block's cells written over -/
def spl (cur : Array Value) (off : Nat) (xs : List Value) : Array Value := (cur.toList.take off ++ xs ++ cur.toList.drop (off + xs.length)).toArray
theorem spl_size (cur : Array Value) (off : Nat) (xs : List Value) (h : off + xs.length ≤ cur.size) : (spl cur off xs).size = cur.size := by
  simp [spl]; omega
theorem spl_at (cur : Array Value) (off : Nat) (xs : List Value) (h : off + xs.length ≤ cur.size) (i : Nat) : (spl cur off xs)[i]? = if i < off then cur[i]? else if i < off + xs.length then xs[i - off]? else cur[i]? := by
  simp only [spl, List.getElem?_toArray]
  by_cases h1 : i < off
  · rw [if_pos h1, List.append_assoc, List.getElem?_append_left (by simp; omega), List.getElem?_take, if_pos h1]; simp
  · rw [if_neg h1]
    by_cases h2 : i < off + xs.length
    · rw [if_pos h2, List.append_assoc, List.getElem?_append_right (by simp; omega), List.getElem?_append_left (by simp; omega)]
      congr 1; simp; omega
    · rw [if_neg h2, List.getElem?_append_right (by simp; omega), List.getElem?_drop]
      simp
      congr 1; omega

section
variable {P : Program}
def isAggD : TypeDesc → Bool | .struct _ | .array _ _ => true | _ => false
theorem run_loadN (w : World) (ty : TypeId) (d : TypeDesc) (i : TypeInfo) (hu : P.underlying ty = some d) (hd : isAggD d = true) (hi : P.info? ty = some i) (ad : Addr) (xs : List Value) (hl : xs.length = i.size)
    (hc : ∀ j u, xs[j]? = some u → w.cell? (ad.add j) = some u) : (loadVar ty ad).run P w = .ok (.agg xs.toArray) w := by
  have hl2 := run_loadCells_list (P := P) w ad xs hc
  have hagg : (isAgg ty).run P w = .ok true w := by
    unfold isAgg
    rw [Sem.run_bind, run_underlying hu w]
    cases d <;> simp_all [isAggD]
  rw [hl] at hl2
  simp [loadVar, Sem.run_bind, hagg, sizeOf, typeInfo, hi, hl2]
theorem run_storeN (w : World) (ty : TypeId) (i : TypeInfo) (hi : P.info? ty = some i) (g off : Nat) (e : TypeId) (cur : Array Value) (hb : Blk w g e cur) (v : Value) (hl : v.cells.size = i.size) (h1 : ∀ u ∈ v.cells.toList, u.oneCell' = true) (hf : off + i.size ≤ cur.size) :
    (storeVar ty ⟨g, off, none⟩ v).run P w = .ok () (w.setRow g (spl cur off v.cells.toList)) := by
  have h := run_storeCells_at P g off e v.cells.toList 0 cur w hb (by simp; omega) h1
  simp only [Nat.add_zero] at h
  simp [storeVar, Sem.run_bind, sizeOf, typeInfo, hi, hl, h, spl]
theorem Mod.setRow (w : World) (g : Nat) (cs : Array Value) : Mod (fun k => k = g) w (w.setRow g cs) := ⟨rfl, rfl, rfl, by simp, fun k _ hk => setRow_other w g k _ (fun e => hk e)⟩

theorem wp_loadN {o : Oper} {a : Act} {w : World} {K : Act → World → Prop} {Q : Exit → Act → World → Prop} (ty : TypeId) (x : Operand) (ho : o.op = .load ty x)
    (d : TypeDesc) (i : TypeInfo) (hu : P.underlying ty = some d) (hd : isAggD d = true) (hi : P.info? ty = some i) (ad : Addr) (hx : a.eval x = .pointer (some ad)) (xs : List Value) (hl : xs.length = i.size)
    (hc : ∀ j u, xs[j]? = some u → w.cell? (ad.add j) = some u) (h : K (a.put o.dst (.agg xs.toArray)) w) : o.wp P a w K Q := by
  unfold Oper.wp execOp
  simp only [ho, hx, Instr.loadAt, Instr.sureAddr, Sem.run_bind, Sem.run_pure, Result.andThen_ok, run_loadN w ty d i hu hd hi ad xs hl hc]
  exact h
theorem wpList_loadN {ops : Array Oper} {rest : List Oper} {o : Oper} {a : Act} {w : World} {Q : Exit → Act → World → Prop} (hgd : o.guard = none) (ty : TypeId) (x : Operand) (ho : o.op = .load ty x)
    (d : TypeDesc) (i : TypeInfo) (hu : P.underlying ty = some d) (hd : isAggD d = true) (hi : P.info? ty = some i) (ad : Addr) (hx : a.eval x = .pointer (some ad)) (xs : List Value) (hl : xs.length = i.size)
    (hc : ∀ j u, xs[j]? = some u → w.cell? (ad.add j) = some u) (h : wpList P ops Q rest (a.put o.dst (.agg xs.toArray)) w) : wpList P ops Q (o :: rest) a w :=
  wpList_plain hgd fun _ hK => wp_loadN ty x ho d i hu hd hi ad hx xs hl hc (hK _ _ h)
theorem step_loadN {ops : Array Oper} {o : Oper} {a : Act} {w : World} {K : Act → World → Prop} {Q : Exit → Act → World → Prop} {E : Prop} (hgd : o.guard = none) (ty : TypeId) (x : Operand) (ho : o.op = .load ty x)
    (d : TypeDesc) (i : TypeInfo) (hu : P.underlying ty = some d) (hd : isAggD d = true) (hi : P.info? ty = some i) (ad : Addr) (hx : a.eval x = .pointer (some ad)) (xs : List Value) (hl : xs.length = i.size)
    (hc : ∀ j u, xs[j]? = some u → w.cell? (ad.add j) = some u) (h : K (a.put o.dst (.agg xs.toArray)) w) :
    if Region.wanted o (yielded ops a.tmps) = true then Oper.wp P o a w K Q else E := by
  have hw : Region.wanted o (yielded ops a.tmps) = true := by simp [Region.wanted, hgd]
  rw [if_pos hw]
  exact wp_loadN ty x ho d i hu hd hi ad hx xs hl hc h

theorem wp_storeN {o : Oper} {a : Act} {w : World} {K : Act → World → Prop} {Q : Exit → Act → World → Prop} (ty : TypeId) (x y : Operand) (ho : o.op = .store ty x y)
    (i : TypeInfo) (hi : P.info? ty = some i) (g off : Nat) (hx : a.eval x = .pointer (some ⟨g, off, none⟩)) (v : Value) (hy : a.eval y = v) (e : TypeId) (cur : Array Value) (hb : Blk w g e cur)
    (hl : v.cells.size = i.size) (h1 : ∀ u ∈ v.cells.toList, u.oneCell' = true) (hf : off + i.size ≤ cur.size)
    (h : ∀ w', Blk w' g e (spl cur off v.cells.toList) → Mod (fun k => k = g) w w' → K (a.put o.dst undef) w') : o.wp P a w K Q := by
  have hr := run_storeN (P := P) w ty i hi g off e cur hb v hl h1 hf
  unfold Oper.wp execOp
  simp only [ho, hx, hy, Instr.storeAt, Instr.sureAddr, Sem.run_bind, Sem.run_pure, Result.andThen_ok, hr]
  exact h _ (setRow_heap w g cur _ e _ hb) (Mod.setRow w g _)
theorem wpList_storeN {ops : Array Oper} {rest : List Oper} {o : Oper} {a : Act} {w : World} {Q : Exit → Act → World → Prop} (hgd : o.guard = none) (ty : TypeId) (x y : Operand) (ho : o.op = .store ty x y)
    (i : TypeInfo) (hi : P.info? ty = some i) (g off : Nat) (hx : a.eval x = .pointer (some ⟨g, off, none⟩)) (v : Value) (hy : a.eval y = v) (e : TypeId) (cur : Array Value) (hb : Blk w g e cur)
    (hl : v.cells.size = i.size) (h1 : ∀ u ∈ v.cells.toList, u.oneCell' = true) (hf : off + i.size ≤ cur.size)
    (h : ∀ w', Blk w' g e (spl cur off v.cells.toList) → Mod (fun k => k = g) w w' → wpList P ops Q rest (a.put o.dst undef) w') : wpList P ops Q (o :: rest) a w :=
  wpList_plain hgd fun _ hK => wp_storeN ty x y ho i hi g off hx v hy e cur hb hl h1 hf fun w' h2 h3 => hK _ _ (h w' h2 h3)
theorem step_storeN {ops : Array Oper} {o : Oper} {a : Act} {w : World} {K : Act → World → Prop} {Q : Exit → Act → World → Prop} {E : Prop} (hgd : o.guard = none) (ty : TypeId) (x y : Operand) (ho : o.op = .store ty x y)
    (i : TypeInfo) (hi : P.info? ty = some i) (g off : Nat) (hx : a.eval x = .pointer (some ⟨g, off, none⟩)) (v : Value) (hy : a.eval y = v) (e : TypeId) (cur : Array Value) (hb : Blk w g e cur)
    (hl : v.cells.size = i.size) (h1 : ∀ u ∈ v.cells.toList, u.oneCell' = true) (hf : off + i.size ≤ cur.size)
    (h : ∀ w', Blk w' g e (spl cur off v.cells.toList) → Mod (fun k => k = g) w w' → K (a.put o.dst undef) w') :
    if Region.wanted o (yielded ops a.tmps) = true then Oper.wp P o a w K Q else E := by
  have hw : Region.wanted o (yielded ops a.tmps) = true := by simp [Region.wanted, hgd]
  rw [if_pos hw]
  exact wp_storeN ty x y ho i hi g off hx v hy e cur hb hl h1 hf h

/-- copy into a part of a known block, from any source of one-cell elements. -/
theorem run_copyN (w : World) (dT sT ty e : TypeId) (i : TypeInfo) (hu : P.underlying dT = some (.slice e)) (hi : P.info? e = some i) (hs : i.size = 1) (g off dLen dCap : Nat) (t : TypeId) (cur : Array Value) (hb : Blk w g t cur) (hf : off + dLen ≤ cur.size)
    (A : Option Addr) (n c : Nat) (xs : List Value) (hr : Rd w 1 A n xs) (h1 : ∀ u ∈ xs, u.oneCell' = true) :
    (Builtin.copy_ #[dT, sT] ty #[.slice (some ⟨g, off, none⟩) dLen dCap, .slice A n c]).run P w = .ok (goInt (Nat.min n dLen)) (w.setRow g (spl cur off (xs.take dLen))) := by
  have hxl : xs.length = n := by simpa using hr.1
  have hmin : Nat.min n dLen = (xs.take dLen).length := by rw [List.length_take, hxl]; exact Nat.min_comm _ _
  have hst := run_storeCells_at P g off t (xs.take dLen) 0 cur w hb (by rw [List.length_take]; omega) fun u hu => h1 u (List.mem_of_mem_take hu)
  simp only [Nat.add_zero] at hst
  have hfc : (Builtin.firstCells 1 (Nat.min n dLen) (.slice A n c)).run P w = .ok (xs.take dLen).toArray w := by
    rcases Nat.eq_zero_or_pos n with h0 | h0
    · subst h0
      have : xs = [] := List.eq_nil_of_length_eq_zero hxl
      subst this
      cases A <;> simp [Builtin.firstCells, loadCells, loadCellsFrom]
    · obtain ⟨ad, rfl, hc⟩ := hr.2 h0
      rw [hmin]
      have := run_firstCells_some (P := P) w 1 (xs.take dLen).length ad n c (xs.take dLen) (by simp) (fun j v hv => hc j v (by
        rw [List.getElem?_take] at hv
        split at hv
        · exact hv
        · cases hv))
      exact this
  simp [Builtin.copy_, run_underlying hu, Builtin.lenOf, sizeOf, typeInfo, hi, hs, hfc, hst, spl]
theorem wp_copyN {o : Oper} {a : Act} {w : World} {K : Act → World → Prop} {Q : Exit → Act → World → Prop} (d s : Operand) (dT sT : TypeId)
    (ho : o.op = .call { callee := .builtin .copy, args := #[d, s], argTypes := #[dT, sT] }) (e : TypeId) (i : TypeInfo) (hu : P.underlying dT = some (.slice e)) (hi : P.info? e = some i) (hs : i.size = 1)
    (g off dLen dCap : Nat) (hd : a.eval d = .slice (some ⟨g, off, none⟩) dLen dCap) (t : TypeId) (cur : Array Value) (hb : Blk w g t cur) (hf : off + dLen ≤ cur.size)
    (A : Option Addr) (n c : Nat) (hx : a.eval s = .slice A n c) (xs : List Value) (hr : Rd w 1 A n xs) (h1 : ∀ u ∈ xs, u.oneCell' = true)
    (h : ∀ w', Blk w' g t (spl cur off (xs.take dLen)) → Mod (fun k => k = g) w w' → K (a.put o.dst (goInt (Nat.min n dLen))) w') : o.wp P a w K Q := by
  have hrun := run_copyN (P := P) w dT sT o.type e i hu hi hs g off dLen dCap t cur hb hf A n c xs hr h1
  unfold Oper.wp execOp
  simp only [ho, resolve, invoke, builtin, Sem.run_bind, Sem.run_pure, Result.andThen_ok, List.map_toArray, List.map_cons, List.map_nil, hd, hx, hrun]
  exact h _ (setRow_heap w g cur _ t _ hb) (Mod.setRow w g _)
theorem wpList_copyN {ops : Array Oper} {rest : List Oper} {o : Oper} {a : Act} {w : World} {Q : Exit → Act → World → Prop} (hgd : o.guard = none) (d s : Operand) (dT sT : TypeId)
    (ho : o.op = .call { callee := .builtin .copy, args := #[d, s], argTypes := #[dT, sT] }) (e : TypeId) (i : TypeInfo) (hu : P.underlying dT = some (.slice e)) (hi : P.info? e = some i) (hs : i.size = 1)
    (g off dLen dCap : Nat) (hd : a.eval d = .slice (some ⟨g, off, none⟩) dLen dCap) (t : TypeId) (cur : Array Value) (hb : Blk w g t cur) (hf : off + dLen ≤ cur.size)
    (A : Option Addr) (n c : Nat) (hx : a.eval s = .slice A n c) (xs : List Value) (hr : Rd w 1 A n xs) (h1 : ∀ u ∈ xs, u.oneCell' = true)
    (h : ∀ w', Blk w' g t (spl cur off (xs.take dLen)) → Mod (fun k => k = g) w w' → wpList P ops Q rest (a.put o.dst (goInt (Nat.min n dLen))) w') : wpList P ops Q (o :: rest) a w :=
  wpList_plain hgd fun _ hK => wp_copyN d s dT sT ho e i hu hi hs g off dLen dCap hd t cur hb hf A n c hx xs hr h1 fun w' h2 h3 => hK _ _ (h w' h2 h3)
theorem step_copyN {ops : Array Oper} {o : Oper} {a : Act} {w : World} {K : Act → World → Prop} {Q : Exit → Act → World → Prop} {E : Prop} (hgd : o.guard = none) (d s : Operand) (dT sT : TypeId)
    (ho : o.op = .call { callee := .builtin .copy, args := #[d, s], argTypes := #[dT, sT] }) (e : TypeId) (i : TypeInfo) (hu : P.underlying dT = some (.slice e)) (hi : P.info? e = some i) (hs : i.size = 1)
    (g off dLen dCap : Nat) (hd : a.eval d = .slice (some ⟨g, off, none⟩) dLen dCap) (t : TypeId) (cur : Array Value) (hb : Blk w g t cur) (hf : off + dLen ≤ cur.size)
    (A : Option Addr) (n c : Nat) (hx : a.eval s = .slice A n c) (xs : List Value) (hr : Rd w 1 A n xs) (h1 : ∀ u ∈ xs, u.oneCell' = true)
    (h : ∀ w', Blk w' g t (spl cur off (xs.take dLen)) → Mod (fun k => k = g) w w' → K (a.put o.dst (goInt (Nat.min n dLen))) w') :
    if Region.wanted o (yielded ops a.tmps) = true then Oper.wp P o a w K Q else E := by
  have hw : Region.wanted o (yielded ops a.tmps) = true := by simp [Region.wanted, hgd]
  rw [if_pos hw]
  exact wp_copyN d s dT sT ho e i hu hi hs g off dLen dCap hd t cur hb hf A n c hx xs hr h1 h
/-- AN OPERATION WHOSE RUN IS KNOWN (chosen by its slot: '(o := ⟨some 17, _, _, _, _, _⟩)'). -/
theorem wpList_run {ops : Array Oper} {rest : List Oper} {o : Oper} {a : Act} {w w' : World} {Q : Exit → Act → World → Prop} (hgd : o.guard = none) (v : Value) (hr : (execOp a.eval o).run P w = .ok (.value v) w')
    (h : wpList P ops Q rest (a.put o.dst v) w') : wpList P ops Q (o :: rest) a w :=
  wpList_plain hgd fun _ hK => by
    unfold Oper.wp
    rw [hr]
    exact hK _ _ h
end
end Go.Proofs.Ytmgpiminicgbiaa
namespace Go.Proofs.Ytmgpiminicgbiaa
set_option linter.unusedVariables false
set_option linter.unusedSimpArgs false
open Go
/-! ## The library's tables that the rows of this seat list: the variable's block, its cells -/

def isTab (t cs : Array Value) : Prop := cs = t
/-- one cell that holds some integer of that kind -/
def isInt1 (k : IntKind) (cs : Array Value) : Prop := ∃ m : Int, cs = #[.int k m]
/-- one cell that holds an interface's value -/
def isIf1 (cs : Array Value) : Prop := ∃ v : Value, cs = #[v] ∧ (v = .nilIface ∨ ∃ t p, v = .iface t p)
def tabB : List (Nat × (Array Value → Prop)) := []
def TabAt (w : World) (p : Nat × (Array Value → Prop)) : Prop := ∃ cs ty fr, p.2 cs ∧ w.heap[p.1]? = some (.cells cs ty fr)
end Go.Proofs.Ytmgpiminicgbiaa
namespace Go.Proofs.Ytmgpiminicgbiaa
set_option linter.unusedVariables false
set_option linter.unusedSimpArgs false
open Go.RowKit

/-! ## An abstract walker: states whose slots and blocks are described, not computed -/
/-- What a slot or a cell holds, as far as it is known. -/
inductive AV where
  | any
  | c (v : Value)
  | ptr (h off m : Nat)
  | mref (h : Nat)
  | sl (h sz off n m : Nat)
  | slc (h sz off n m : Nat)
  | fs (sz n : Nat) (l : List AV)
  | fp (l : List AV)
  | agg (l : List AV)
  | tup (l : List AV)
  | clo (f : Fn) (first caps : List AV)
  | g (b want : Bool) (v : AV)
instance : Inhabited AV := ⟨.any⟩
inductive AKind where
  | box
  | row (e sz : Nat)
  | fz
/-- an object that is no cells: an iterator of a string, a map as it was filled -/
inductive RawO where
  | it (s : ByteArray) (pos : Nat)
  | ms (es : List (ByteArray × Value))
  | mk (ks : List (List Value))
/-- a map's entries, by strings, in the order in which they came -/
def entL : Nat → List (ByteArray × Value) → List MapEntry
  | _, [] => []
  | n, e :: es => { key := .string e.1, val := e.2, born := n } :: entL (n + 1) es
/-- a map by structs, whose values are all true -/
def entK : Nat → List (List Value) → List MapEntry
  | _, [] => []
  | n, k :: ks => { key := .agg k.toArray, val := .bool true, born := n } :: entK (n + 1) ks
def rawObj : RawO → Obj
  | .it s pos => .stringIter s pos
  | .ms es => .map (entL 0 es).toArray es.length
  | .mk ks => .map (entK 0 ks).toArray ks.length
/-- where a key stands, and what is there -/
def findS (b : ByteArray) : List (ByteArray × Value) → Nat → Option (Nat × Value)
  | [], _ => none
  | e :: es, i => if b == e.1 then some (i, e.2) else findS b es (i + 1)
def lookS (es : List (ByteArray × Value)) (b : ByteArray) : Option Value := (findS b es 0).map (·.2)
def updS (es : List (ByteArray × Value)) (b : ByteArray) (x : Value) : List (ByteArray × Value) := match findS b es 0 with
  | some (i, _) => es.set i (b, x)
  | none => es ++ [(b, x)]
/-- A block of the call's own (or one that was lent to it). -/
inductive AObj where
  | o (k : AKind) (cells : List AV)
  | raw (x : RawO)
structure Gh where
  σ : Nat → Nat
  bs : Nat → Nat
  vir : Nat → Bool
structure AS where
  t : List AV
  h : List AObj
def lnO : AObj → Nat
  | .o _ cs => cs.length
  | .raw _ => 0
def lens (h : List AObj) : List Nat := h.map lnO

/-- Data that stays: readable in blocks of F alone. -/
inductive RepD (F : Nat → Prop) (w : World) : AV → Value → Prop
  | c (v : Value) : RepD F w (.c v) v
  | fs0 (sz : Nat) (A : Option Addr) (c : Nat) : c ≤ maxLen → RepD F w (.fs sz 0 []) (.slice A 0 c)
  | fs (sz n b o c : Nat) (l : List AV) (f : Nat → Value) : 0 < n → n ≤ c → c ≤ maxLen → l.length = n * sz → F b →
      (∀ j, j < l.length → w.cell? ⟨b, o + j, none⟩ = some (f j)) → (∀ (j : Nat) (u : AV), l[j]? = some u → RepD F w u (f j)) → RepD F w (.fs sz n l) (.slice (some ⟨b, o, none⟩) n c)

inductive RepV (G : Gh) (ln : List Nat) (F : Nat → Prop) (w : World) : AV → Value → Prop
  | any (v : Value) : RepV G ln F w .any v
  | d (av : AV) (v : Value) : RepD F w av v → RepV G ln F w av v
  | ptr (h off m : Nat) : ln[h]? = some m → G.vir h = false → RepV G ln F w (.ptr h off m) (.pointer (some ⟨G.σ h, off, none⟩))
  | ptrOld (h off m m' : Nat) (p : Option Addr) : ln[h]? = some m' → m < m' → RepV G ln F w (.ptr h off m) (.pointer p)
  | mref (h : Nat) : ln[h]? = some 0 → G.vir h = false → RepV G ln F w (.mref h) (.map (some (G.σ h)))
  | mrefOld (h m' : Nat) (v : Value) : ln[h]? = some m' → 0 < m' → RepV G ln F w (.mref h) v
  | sl (h sz off n m c : Nat) : ln[h]? = some m → G.vir h = false → n ≤ c → c ≤ maxLen → off + c * sz ≤ G.bs h → RepV G ln F w (.sl h sz off n m) (.slice (some ⟨G.σ h, off, none⟩) n c)
  | slNil (h sz : Nat) : ln[h]? = some 0 → G.vir h = true → RepV G ln F w (.sl h sz 0 0 0) (.slice none 0 0)
  | slOld (h sz off n m m' : Nat) (A : Option Addr) (l c : Nat) : ln[h]? = some m' → m < m' → RepV G ln F w (.sl h sz off n m) (.slice A l c)
  | slc (h sz off n m : Nat) (A : Option Addr) (l c : Nat) : RepV G ln F w (.sl h sz off n m) (.slice A l c) → (ln[h]? = some m → off + c * sz = m) → RepV G ln F w (.slc h sz off n m) (.slice A l c)
  | fp (l : List AV) (b o : Nat) (f : Nat → Value) : F b → (∀ j, j < l.length → w.cell? ⟨b, o + j, none⟩ = some (f j)) → (∀ (j : Nat) (u : AV), l[j]? = some u → RepD F w u (f j)) → RepV G ln F w (.fp l) (.pointer (some ⟨b, o, none⟩))
  | agg (l : List AV) (cs : Array Value) : l.length = cs.size → (∀ (j : Nat) (u : AV) (x : Value), l[j]? = some u → cs[j]? = some x → RepV G ln F w u x) → RepV G ln F w (.agg l) (.agg cs)
  | tup (l : List AV) (cs : Array Value) : l.length = cs.size → (∀ (j : Nat) (u : AV) (x : Value), l[j]? = some u → cs[j]? = some x → RepV G ln F w u x) → RepV G ln F w (.tup l) (.tuple cs)
  | clo (f : Fn) (l k : List AV) (cs ds : Array Value) : l.length = cs.size → k.length = ds.size → (∀ (j : Nat) (u : AV) (x : Value), l[j]? = some u → cs[j]? = some x → RepV G ln F w u x) →
      (∀ (j : Nat) (u : AV) (x : Value), k[j]? = some u → ds[j]? = some x → RepV G ln F w u x) → RepV G ln F w (.clo f l k) (.func f cs ds)
  | g (b want : Bool) (u : AV) (v : Value) : (b = want → RepV G ln F w u v) → (b ≠ want → v = undef) → RepV G ln F w (.g b want u) v

theorem RepD.keep {F F' : Nat → Prop} {w w' : World} (hF : ∀ b, F b → F' b) (hw : ∀ b, F b → w'.heap[b]? = w.heap[b]?) : ∀ {av v}, RepD F w av v → RepD F' w' av v := by
  intro av v h
  induction h with
  | c v => exact .c v
  | fs0 sz A c h => exact .fs0 sz A c h
  | fs sz n b o c l f h1 h2 h3 h4 h5 h6 _ ih => exact .fs sz n b o c l f h1 h2 h3 h4 (hF b h5) (fun j hj => by rw [World.cell?_of_block (a := ⟨b, o + j, none⟩) (hw b h5)]; exact h6 j hj) ih

/-- How the handles may have turned from one state to the next. -/
def Later (G G' : Gh) (ln ln' : List Nat) : Prop :=
  ∀ (k m : Nat), ln[k]? = some m → (ln'[k]? = some m ∧ G'.σ k = G.σ k ∧ G'.bs k = G.bs k ∧ G'.vir k = G.vir k) ∨ ∃ m', ln'[k]? = some m' ∧ m < m'
theorem Later.refl (G : Gh) (ln : List Nat) : Later G G ln ln := fun _ _ h => .inl ⟨h, rfl, rfl, rfl⟩
theorem Later.trans {G G' G'' : Gh} {l l' l'' : List Nat} (h : Later G G' l l') (k : Later G' G'' l' l'') : Later G G'' l l'' := by
  intro j m hj
  rcases h j m hj with ⟨e1, e2, e3, e4⟩ | ⟨m', e1, e2⟩
  · rcases k j m e1 with ⟨f1, f2, f3, f4⟩ | ⟨m', f1, f2⟩
    · exact .inl ⟨f1, f2.trans e2, f3.trans e3, f4.trans e4⟩
    · exact .inr ⟨m', f1, f2⟩
  · rcases k j m' e1 with ⟨f1, _⟩ | ⟨m'', f1, f2⟩
    · exact .inr ⟨m', f1, e2⟩
    · exact .inr ⟨m'', f1, Nat.lt_trans e2 f2⟩
/-- these handles are where they were, or their rows have grown -/
def Same (st : Nat → Bool) (G G' : Gh) (ln ln' : List Nat) : Prop := ∀ (k m : Nat), st k = true → ln[k]? = some m → (ln'[k]? = some m ∧ G'.σ k = G.σ k ∧ G'.bs k = G.bs k ∧ G'.vir k = G.vir k) ∨ ∃ m', ln'[k]? = some m' ∧ m < m'
theorem Same.trans {st : Nat → Bool} {G G' G'' : Gh} {l l' l'' : List Nat} (h : Same st G G' l l') (k : Same st G' G'' l' l'') : Same st G G'' l l'' := by
  intro j m hs hj
  rcases h j m hs hj with ⟨e1, e2, e3, e4⟩ | ⟨m', e1, e2⟩
  · rcases k j m hs e1 with ⟨f1, f2, f3, f4⟩ | ⟨m', f1, f2⟩
    · exact .inl ⟨f1, f2.trans e2, f3.trans e3, f4.trans e4⟩
    · exact .inr ⟨m', f1, f2⟩
  · rcases k j m' hs e1 with ⟨f1, _⟩ | ⟨m'', f1, f2⟩
    · exact .inr ⟨m', f1, e2⟩
    · exact .inr ⟨m'', f1, Nat.lt_trans e2 f2⟩
theorem Later.same {G G' : Gh} {l l' : List Nat} (h : Later G G' l l') (st : Nat → Bool) : Same st G G' l l' := fun k m _ hm => h k m hm
theorem RepV.sl_ln {G : Gh} {ln : List Nat} {F : Nat → Prop} {w : World} {h sz off n m : Nat} {v : Value} (hr : RepV G ln F w (.sl h sz off n m) v) : ∃ m', ln[h]? = some m' ∧ m ≤ m' := by
  cases hr with
  | d _ _ h => cases h
  | sl _ _ _ _ _ c h1 => exact ⟨_, h1, Nat.le_refl _⟩
  | slNil _ _ h1 => exact ⟨_, h1, Nat.le_refl _⟩
  | slOld _ _ _ _ _ m' _ _ _ h1 h2 => exact ⟨_, h1, Nat.le_of_lt h2⟩
/-- a slice whose capacity ends with what is known of the row -/
theorem slc_keep {ln ln' : List Nat} {h m : Nat} (h1 : ∃ m', ln[h]? = some m' ∧ m ≤ m') (h2 : ∀ m', ln[h]? = some m' → ln'[h]? = some m' ∨ ∃ m'', ln'[h]? = some m'' ∧ m' < m'') (h3 : ln'[h]? = some m) : ln[h]? = some m := by
  obtain ⟨m', e1, e2⟩ := h1
  rcases h2 m' e1 with e | ⟨m'', e, e3⟩
  · rw [h3] at e; injection e with e; subst e; exact e1
  · rw [h3] at e; injection e with e; omega
theorem RepV.keep {G G' : Gh} {ln ln' : List Nat} {F F' : Nat → Prop} {w w' : World} (hl : Later G G' ln ln') (hF : ∀ b, F b → F' b) (hw : ∀ b, F b → w'.heap[b]? = w.heap[b]?) :
    ∀ {av v}, RepV G ln F w av v → RepV G' ln' F' w' av v := by
  intro av v h
  induction h with
  | any v => exact .any v
  | d av v h => exact .d _ _ (h.keep hF hw)
  | ptr h off m h1 h2 =>
    rcases hl _ _ h1 with ⟨e1, e2, e3, e4⟩ | ⟨m', e1, e2⟩
    · rw [← e2]; exact .ptr h off m e1 (e4.trans h2)
    · exact .ptrOld h off m m' _ e1 e2
  | ptrOld h off m m' p h1 h2 =>
    rcases hl _ _ h1 with ⟨e1, _⟩ | ⟨m'', e1, e2⟩
    · exact .ptrOld h off m m' p e1 h2
    · exact .ptrOld h off m m'' p e1 (Nat.lt_trans h2 e2)
  | mref h h1 h2 =>
    rcases hl _ _ h1 with ⟨e1, e2, e3, e4⟩ | ⟨m', e1, e2⟩
    · rw [← e2]; exact .mref h e1 (e4.trans h2)
    · exact .mrefOld h m' _ e1 e2
  | mrefOld h m' v h1 h2 =>
    rcases hl _ _ h1 with ⟨e1, _⟩ | ⟨m'', e1, e2⟩
    · exact .mrefOld h m' v e1 h2
    · exact .mrefOld h m'' v e1 (Nat.lt_trans h2 e2)
  | sl h sz off n m c h1 h2 h3 h4 h5 =>
    rcases hl _ _ h1 with ⟨e1, e2, e3, e4⟩ | ⟨m', e1, e2⟩
    · rw [← e2]; exact .sl h sz off n m c e1 (e4.trans h2) h3 h4 (e3.symm ▸ h5)
    · exact .slOld h sz off n m m' _ _ _ e1 e2
  | slNil h sz h1 h2 =>
    rcases hl _ _ h1 with ⟨e1, e2, e3, e4⟩ | ⟨m', e1, e2⟩
    · exact .slNil h sz e1 (e4.trans h2)
    · exact .slOld h sz 0 0 0 m' _ _ _ e1 e2
  | slOld h sz off n m m' A l c h1 h2 =>
    rcases hl _ _ h1 with ⟨e1, _⟩ | ⟨m'', e1, e2⟩
    · exact .slOld h sz off n m m' A l c e1 h2
    · exact .slOld h sz off n m m'' A l c e1 (Nat.lt_trans h2 e2)
  | slc h sz off n m A l c h1 h2 ih => exact .slc h sz off n m A l c ih fun e => h2 (slc_keep h1.sl_ln (fun m' em => (hl _ _ em).imp (fun x => x.1) id) e)
  | fp l b o f h1 h2 h3 => exact .fp l b o f (hF b h1) (fun j hj => by rw [World.cell?_of_block (a := ⟨b, o + j, none⟩) (hw b h1)]; exact h2 j hj) fun j u hu => (h3 j u hu).keep hF hw
  | agg l cs h1 _ ih => exact .agg l cs h1 ih
  | tup l cs h1 _ ih => exact .tup l cs h1 ih
  | clo f l k cs ds h1 h2 _ _ ih1 ih2 => exact .clo f l k cs ds h1 h2 ih1 ih2
  | g b want u v _ h ih => exact .g b want u v ih h

def CRel (G : Gh) (ln : List Nat) (F : Nat → Prop) (w : World) (cs : List AV) (cur : Array Value) : Prop :=
  ∀ (j : Nat) (av : AV), cs[j]? = some av → ∃ x, cur[j]? = some x ∧ RepV G ln F w av x
theorem CRel.keep {G G' : Gh} {ln ln' : List Nat} {F F' : Nat → Prop} {w w' : World} {cs : List AV} {cur : Array Value} (h : CRel G ln F w cs cur) (hl : Later G G' ln ln') (hF : ∀ b, F b → F' b) (hw : ∀ b, F b → w'.heap[b]? = w.heap[b]?) :
    CRel G' ln' F' w' cs cur := fun j av hj => let ⟨x, h1, h2⟩ := h j av hj; ⟨x, h1, h2.keep hl hF hw⟩
def ORel (G : Gh) (ln : List Nat) (F : Nat → Prop) (w : World) (k : Nat) : AObj → Prop
  | .o .box cs => G.vir k = false ∧ ¬ F (G.σ k) ∧ ∃ cur ty, Blk w (G.σ k) ty cur ∧ cur.size = G.bs k ∧ cs.length = G.bs k ∧ CRel G ln F w cs cur
  | .o (.row e sz) cs => (G.vir k = true ∧ cs = []) ∨ (G.vir k = false ∧ ¬ F (G.σ k) ∧ ∃ cur c, Blk w (G.σ k) e cur ∧ cur.size = G.bs k ∧ G.bs k = c * sz ∧ c ≤ maxLen ∧ cs.length ≤ G.bs k ∧ CRel G ln F w cs cur)
  | .o .fz cs => (G.vir k = true ∧ cs = []) ∨ (G.vir k = false ∧ F (G.σ k) ∧ ∃ cur ty fr, w.heap[G.σ k]? = some (.cells cur ty fr) ∧ cur.size = G.bs k ∧ cs.length ≤ cur.size ∧ CRel G ln F w cs cur)
  | .raw x => G.vir k = false ∧ ¬ F (G.σ k) ∧ w.heap[G.σ k]? = some (rawObj x)
/-- Both are blocks that lie there. -/
def Solid (G : Gh) (h : List AObj) (k : Nat) : Prop := k < h.length ∧ G.vir k = false
def fzO : AObj → Bool
  | .o .fz _ => true
  | _ => false
structure HRel (G : Gh) (F : Nat → Prop) (h : List AObj) (w : World) : Prop where
  obj : ∀ (k : Nat) (x : AObj), h[k]? = some x → ORel G (lens h) F w k x
  inj : ∀ (j k : Nat) (x y : AObj), h[j]? = some x → h[k]? = some y → G.vir j = false → G.vir k = false → fzO x = false → fzO y = false → G.σ j = G.σ k → j = k
structure Env where
  w0 : World
  L : Nat → Prop
  F0 : Nat → Prop
  G0 : Gh
  ln0 : List Nat
  st : Nat → Bool
  ho : Nat → Bool
  mks : Nat → Prop
/-- the marks that ranges over functions have left among the deferred calls -/
structure Marked (mk : Nat → Prop) (F : Nat → Prop) (w : World) (ds : List Deferred) : Prop where
  nod : ds.Nodup
  mem : ∀ d ∈ ds, ∃ D : Nat, d = { target := .collected D, args := #[] } ∧ mk D ∧ ¬ F D ∧ w.heap[D]? = some (.deferred (some []))
theorem Marked.nil {mk : Nat → Prop} {F : Nat → Prop} {w : World} {ds : List Deferred} (h : ds = []) : Marked mk F w ds := by subst h; exact ⟨List.nodup_nil, fun d h => by cases h⟩
theorem Marked.keep {mk : Nat → Prop} {F F' : Nat → Prop} {w w' : World} {ds : List Deferred} (h : Marked mk F w ds) (hk : ∀ D, ¬ F D → w.heap[D]? = some (.deferred (some [])) → ¬ F' D ∧ w'.heap[D]? = w.heap[D]?) : Marked mk F' w' ds :=
  ⟨h.nod, fun d hd => let ⟨D, e1, e2, e3, e4⟩ := h.mem d hd; let ⟨k1, k2⟩ := hk D e3 e4; ⟨D, e1, e2, k1, k2.trans e4⟩⟩
/-- what stays lies in cells -/
structure FC (F : Nat → Prop) (w : World) : Prop where
  cells : ∀ b, F b → ∃ cs ty fr, w.heap[b]? = some (.cells cs ty fr)
  tabs : ∀ p ∈ tabB, F p.1 ∧ TabAt w p
instance {F : Nat → Prop} {w : World} : CoeFun (FC F w) (fun _ => ∀ b, F b → ∃ cs ty fr, w.heap[b]? = some (.cells cs ty fr)) := ⟨FC.cells⟩
theorem FC.lt {F : Nat → Prop} {w : World} (h : FC F w) (b : Nat) (hb : F b) : b < w.heap.size := let ⟨_, _, _, e⟩ := h b hb; (Array.getElem?_eq_some_iff.1 e).1
theorem FC.more {F F' : Nat → Prop} {w w' : World} (h : FC F w) (hF : ∀ b, F b → F' b) (hw : ∀ b, F b → w'.heap[b]? = w.heap[b]?) (hc : ∀ b, F' b → ∃ cs ty fr, w'.heap[b]? = some (.cells cs ty fr)) : FC F' w' :=
  ⟨hc, fun p hp => let ⟨h1, cs, ty, fr, h3, h2⟩ := h.tabs p hp; ⟨hF _ h1, cs, ty, fr, h3, (hw _ h1).trans h2⟩⟩
theorem FC.keep {F : Nat → Prop} {w w' : World} (h : FC F w) (hw : ∀ b, F b → w'.heap[b]? = w.heap[b]?) : FC F w' := h.more (fun _ h => h) hw fun b hb => let ⟨c, t, f, e⟩ := h b hb; ⟨c, t, f, (hw b hb).trans e⟩
def TabW (w : World) : Prop := ∀ p ∈ tabB, TabAt w p
def tabF (b : Nat) : Prop := ∃ p ∈ tabB, b = p.1
theorem FC.tabW {F : Nat → Prop} {w : World} (h : FC F w) : TabW w := fun p hp => (h.tabs p hp).2
theorem TabW.fc {w : World} (h : TabW w) : FC tabF w := ⟨fun b ⟨p, hp, e⟩ => by obtain ⟨cs, ty, fr, h3, h1⟩ := h p hp; rw [e]; exact ⟨_, ty, fr, h1⟩, fun p hp => ⟨⟨p, hp, rfl⟩, h p hp⟩⟩
structure Rel (E : Env) (G : Gh) (F : Nat → Prop) (s : AS) (a : Act) (w : World) : Prop where
  len : a.tmps.size = s.t.length
  def0 : Marked E.mks F w a.defers
  slot : ∀ (i : Nat) (av : AV) (v : Value), s.t[i]? = some av → a.tmps[i]? = some v → RepV G (lens s.h) F w av v
  heap : HRel G F s.h w
  mod : Mod E.L E.w0 w
  sup : ∀ (k : Nat) (x : AObj), s.h[k]? = some x → G.vir k = false → fzO x = false → E.ho k = false → E.L (G.σ k) ∨ E.w0.heap.size ≤ G.σ k
  fsup : ∀ b, F b → E.F0 b ∨ E.L b ∨ E.w0.heap.size ≤ b
  f0 : ∀ b, E.F0 b → F b
  fc : FC F w
  lat : Same E.st E.G0 G E.ln0 (lens s.h)
theorem Rel.flt {E : Env} {G : Gh} {F : Nat → Prop} {s : AS} {a : Act} {w : World} (h : Rel E G F s a w) : ∀ b, F b → b < w.heap.size := h.fc.lt
def Sat (E : Env) (s : AS) (a : Act) (w : World) : Prop := ∃ G F, Rel E G F s a w

def AS.put (s : AS) (d : Option Nat) (v : AV) : AS := match d with | some i => { s with t := s.t.set i v } | none => s
theorem AS.put_h (s : AS) (d : Option Nat) (v : AV) : (s.put d v).h = s.h := by cases d <;> rfl
theorem Rel.put {E : Env} {G : Gh} {F : Nat → Prop} {s : AS} {a : Act} {w : World} (h : Rel E G F s a w) {av : AV} {v : Value} (hr : RepV G (lens s.h) F w av v) (d : Option Nat) : Rel E G F (s.put d av) (a.put d v) w := by
  cases d with
  | none => exact h
  | some d =>
    refine ⟨by simp [Act.put, AS.put, h.len], h.def0, fun i u x hi hx => ?_, h.heap, h.mod, h.sup, h.fsup, h.f0, h.fc, h.lat⟩
    simp only [AS.put, Act.put] at hi hx ⊢
    rw [List.getElem?_set] at hi
    rw [Array.getElem?_setIfInBounds] at hx
    by_cases hd : d = i
    · subst hd
      rw [if_pos rfl] at hi hx
      split at hi
      · injection hi with hi
        split at hx
        · injection hx with hx
          subst hi hx
          exact hr
        · cases hx
      · cases hi
    · rw [if_neg hd] at hi hx
      exact h.slot i u x hi hx
/-- an operand as it is known -/
def AS.ev (s : AS) : Operand → AV
  | .tmp t => (s.t[t]?).getD .any
  | .const v => .c v
  | .global _ => .any
  | .func f => .clo (.func f) [] []
theorem Rel.ev {E : Env} {G : Gh} {F : Nat → Prop} {s : AS} {a : Act} {w : World} (h : Rel E G F s a w) (x : Operand) : RepV G (lens s.h) F w (s.ev x) (a.eval x) := by
  cases x with
  | tmp t =>
    simp only [AS.ev, Act.eval, Array.getD_eq_getD_getElem?]
    cases ht : s.t[t]? with
    | none => exact .any _
    | some av =>
      have hlt : t < a.tmps.size := by rw [h.len]; exact (List.getElem?_eq_some_iff.1 ht).1
      simp only [Option.getD_some]
      rw [Array.getElem?_eq_getElem hlt, Option.getD_some]
      exact h.slot t av _ ht (Array.getElem?_eq_getElem hlt)
  | const v => exact .d _ _ (.c v)
  | global g => exact .any _
  | func f => exact .clo (.func f) [] [] #[] #[] rfl rfl (by simp) (by simp)
end Go.Proofs.Ytmgpiminicgbiaa
namespace Go.Proofs.Ytmgpiminicgbiaa
set_option linter.unusedVariables false
set_option linter.unusedSimpArgs false
open Go.RowKit

/-! ## What the types say -/
section
variable (P : Program)
def aggD : TypeDesc → Bool | .struct _ | .array _ _ => true | _ => false
/-- size, and whether it is an aggregate -/
def tyT (t : TypeId) : Option (Nat × Bool) := match P.info? t, P.underlying t with | some i, some d => some (i.size, aggD d) | _, _ => none
/-- of a slice type: its element's type, size, bytes -/
def slT (t : TypeId) : Option (TypeId × Nat × Nat) := match P.underlying t with | some (.slice e) => (P.info? e).map fun i => (e, i.size, i.bytes) | _ => none
/-- of an array type: its length, its element's size -/
def arT (t : TypeId) : Option (Nat × Nat) := match P.underlying t with | some (.array n e) => (P.info? e).map fun i => (n, i.size) | _ => none
/-- of an array type: its length, its element's size, and whether that is an aggregate -/
def arX (t : TypeId) : Option (Nat × Nat × Bool) := match P.underlying t with
  | some (.array n e) => (tyT P e).bind fun p => if p.1 = 0 then none else some (n, p.1, p.2)
  | _ => none
/-- a field's offset, size, and whether it is an aggregate -/
def fldT (t : TypeId) (f : Nat) : Option (Nat × Nat × Bool) := match P.underlying t with
  | some (.struct fs) => match fs[f]? with
    | some x => (tyT P x.type).bind fun p => if p.1 = 0 then none else some (x.offset, p.1, p.2)
    | none => none
  | _ => none
def zeroT (t : TypeId) : Option (List Value) := (P.info? t).bind fun i => i.zero.map fun z => z.cells.toList
def intT (t : TypeId) : Option IntKind := match P.underlying t with | some (.int k) => some k | _ => none
def isIntT (t : TypeId) : Bool := match P.underlying t with | some (.int _) => true | _ => false
def mapT (P : Program) (t : TypeId) : Option (TypeId × TypeId) := match P.underlying t with
  | some (.map k e) => some (k, e)
  | _ => none
theorem mapT_inv {P : Program} {t k e : TypeId} (h : mapT P t = some (k, e)) : P.underlying t = some (.map k e) := by
  unfold mapT at h
  split at h
  · rename_i a b hu; injection h with h; injection h with h1 h2; subst h1 h2; exact hu
  · cases h
def isStrT (t : TypeId) : Bool := match P.underlying t with | some .string => true | _ => false
def isBoolT (t : TypeId) : Bool := match P.underlying t with | some .bool => true | _ => false
def isPtrT (t : TypeId) : Bool := match P.underlying t with | some (.pointer _) => true | _ => false
end

def AV.ung : AV → AV
  | .g _ _ v => v
  | .slc h sz off n m => .sl h sz off n m
  | v => v
/-- .. where a slice's capacity is still told -/
def AV.ungs : AV → AV
  | .g _ _ v => v
  | v => v
def AV.gc : AV → Prop
  | .g b w _ => b = w
  | _ => True
theorem RepV.ung {G : Gh} {ln : List Nat} {F : Nat → Prop} {w : World} {av : AV} {v : Value} (h : RepV G ln F w av v) (hg : av.gc) : RepV G ln F w av.ung v := by
  cases av with
  | g b want u =>
    cases h with
    | d _ _ h => cases h
    | g _ _ _ _ h _ => exact h hg
  | slc k sz off n m =>
    cases h with
    | d _ _ h => cases h
    | slc _ _ _ _ _ A l c h1 _ => exact h1
  | _ => exact h
theorem RepV.ungs {G : Gh} {ln : List Nat} {F : Nat → Prop} {w : World} {av : AV} {v : Value} (h : RepV G ln F w av v) (hg : av.gc) : RepV G ln F w av.ungs v := by
  cases av with
  | g b want u =>
    cases h with
    | d _ _ h => cases h
    | g _ _ _ _ h _ => exact h hg
  | _ => exact h
/-- the cells of a value -/
def AV.cells : AV → List AV
  | .agg l => l
  | v => [v]
def loadV (sz : Nat) (agg : Bool) (l : List AV) : AV := if agg then .agg (l.take sz) else (l[0]?).getD .any
def fldCut (off sz : Nat) (agg : Bool) (l : List AV) : AV := if agg then .agg ((l.drop off).take sz) else (l[off]?).getD .any
def intBin (op : BinOp) (k : IntKind) (x y : Int) : Option (Prop × Value) :=
  match op with
  | .add => some (True, .int k (k.wrap (x + y)))
  | .sub => some (True, .int k (k.wrap (x - y)))
  | .mul => some (True, .int k (k.wrap (x * y)))
  | .quo => some (y ≠ 0, .int k (k.wrap (x.tdiv y)))
  | .rem => some (y ≠ 0, .int k (x.tmod y))
  | .and => some (True, .int k (k.wrap (BitVec.ofInt k.bits x &&& BitVec.ofInt k.bits y).toNat))
  | .or => some (True, .int k (k.wrap (BitVec.ofInt k.bits x ||| BitVec.ofInt k.bits y).toNat))
  | .xor => some (True, .int k (k.wrap (BitVec.ofInt k.bits x ^^^ BitVec.ofInt k.bits y).toNat))
  | .andNot => some (True, .int k (k.wrap (BitVec.ofInt k.bits x &&& ~~~ BitVec.ofInt k.bits y).toNat))
  | .eql => some (True, .bool (decide (x = y)))
  | .neq => some (True, .bool (decide (x ≠ y)))
  | .lss => some (True, .bool (decide (x < y)))
  | .leq => some (True, .bool (decide (x ≤ y)))
  | .gtr => some (True, .bool (decide (y < x)))
  | .geq => some (True, .bool (decide (y ≤ x)))
  | _ => none
def strBin (op : BinOp) (x y : ByteArray) : Option (Prop × Value) :=
  match op with
  | .add => some (x.size + y.size ≤ 9223372036854775807, .string (x ++ y))
  | .eql => some (True, .bool (decide (x = y)))
  | .neq => some (True, .bool (decide (x ≠ y)))
  | .lss => some (True, .bool (Op.bytesLess x.toList y.toList))
  | .leq => some (True, .bool (Op.bytesLess x.toList y.toList || decide (x = y)))
  | .gtr => some (True, .bool (!(Op.bytesLess x.toList y.toList || decide (x = y))))
  | .geq => some (True, .bool (!(Op.bytesLess x.toList y.toList)))
  | _ => none
def shV (op : BinOp) (k : IntKind) (x y : Int) : Option (Prop × Value) :=
  match op with
  | .shl => some (0 ≤ y, .int k (k.wrap (x * 2 ^ (min y.toNat k.bits))))
  | .shr => some (0 ≤ y, .int k (x.fdiv (2 ^ (min y.toNat k.bits))))
  | _ => none
def isSh : BinOp → Bool | .shl | .shr => true | _ => false
/-- two one-cell values, or two pointers -/
def binV (P : Program) (ln : List Nat) (op : BinOp) (t : TypeId) : AV → AV → Option (Prop × AV)
  | .c (.int k x), .c (.int k' y) => if isSh op then (shV op k x y).map fun p => (p.1, .c p.2) else if k = k' then (intBin op k x y).map fun p => (p.1, .c p.2) else none
  | .c (.string x), .c (.string y) => (strBin op x y).map fun p => (p.1, .c p.2)
  | .c (.bool x), .c (.bool y) => if isBoolT P t then (match op with | .eql => some (True, .c (.bool (decide (x = y)))) | .neq => some (True, .c (.bool (decide (x ≠ y)))) | _ => none) else none
  | .ptr h off m, .c (.pointer none) => if isPtrT P t then (match op with | .eql => some (ln[h]? = some m, .c (.bool false)) | .neq => some (ln[h]? = some m, .c (.bool true)) | _ => none) else none
  | .c (.slice none 0 0), .c (.slice none 0 0) => if (slT P t).isSome then (match op with | .eql => some (True, .c (.bool true)) | .neq => some (True, .c (.bool false)) | _ => none) else none
  | .c (.pointer none), .c (.pointer none) => if isPtrT P t then (match op with | .eql => some (True, .c (.bool true)) | .neq => some (True, .c (.bool false)) | _ => none) else none
  | .fp _, .c (.pointer none) => if isPtrT P t then (match op with | .eql => some (True, .c (.bool false)) | .neq => some (True, .c (.bool true)) | _ => none) else none
  | _, _ => none

/-! structs, compared leaf by leaf -/
inductive Leaf where
  | b
  | i
  | s
def flatFs (P : Program) (rec : TypeId → Option (List Leaf)) : List Field → Nat → Option (List Leaf)
  | [], _ => some []
  | f :: fs, off => match rec f.type, P.info? f.type with
    | some l, some i => if f.name ≠ "_" ∧ f.offset = off ∧ i.size = l.length ∧ 0 < l.length then (flatFs P rec fs (off + l.length)).map (l ++ ·) else none
    | _, _ => none
def flatIn (P : Program) : Nat → TypeId → Option (List Leaf)
  | 0, _ => none
  | d + 1, t => match P.underlying t with
    | some .bool => some [.b]
    | some (.int _) => some [.i]
    | some .string => some [.s]
    | some (.struct fs) => if P.stoodInHeld t = false then flatFs P (flatIn P d) fs.toList 0 else none
    | _ => none
def flatT (P : Program) (t : TypeId) : Option (List Leaf) := match P.underlying t with
  | some (.struct _) => if P.eqGuardType P.depth t = false then flatIn P 20 t else none
  | _ => none
def eqF : List Leaf → List AV → List AV → Option Bool
  | [], _, _ => some true
  | .i :: ks, .c (.int k x) :: l, .c (.int k' y) :: l' => if k = k' then (eqF ks l l').map (decide (x = y) && ·) else none
  | .b :: ks, .c (.bool x) :: l, .c (.bool y) :: l' => (eqF ks l l').map (decide (x = y) && ·)
  | .s :: ks, .c (.string x) :: l, .c (.string y) :: l' => (eqF ks l l').map (decide (x = y) && ·)
  | _, _, _ => none
def eqOp (op : BinOp) (b : Bool) : Option (Prop × AV) := match op with
  | .eql => some (True, .c (.bool b))
  | .neq => some (True, .c (.bool (!b)))
  | _ => none
def binV2 (P : Program) (ln : List Nat) (op : BinOp) (t : TypeId) : AV → AV → Option (Prop × AV)
  | .agg l, .agg l' => (flatT P t).bind fun ks => (eqF ks l l').bind (eqOp op)
  | u, v => binV P ln op t u v
theorem toList_eq_iff (x y : ByteArray) : (x.toList == y.toList) = decide (x = y) := by
  rw [ByteArray.toList_eq, ByteArray.toList_eq, Bool.eq_iff_iff]
  cases x; cases y
  simp [Array.toList_inj]

section
variable {P : Program} {G : Gh} {ln : List Nat} {F : Nat → Prop} {w : World}
theorem RepV.c_inv {v x : Value} (h : RepV G ln F w (.c v) x) : x = v := by
  cases h with
  | d _ _ h => cases h; rfl
theorem RepV.cc (v : Value) : RepV G ln F w (.c v) v := .d _ _ (.c v)
theorem run_eqGuard_none (op : BinOp) (t : TypeId) (x y : Operand) (a b : Value) (w : World) (h1 : ∀ l, a ≠ .agg l) (h2 : a ≠ .nilIface) : (eqGuard op t x y a b).run P w = .ok () w := by
  cases op <;> cases a <;> simp_all [eqGuard]
theorem run_binOp_int (op : BinOp) (t : TypeId) (k : IntKind) (x y : Int) (q : Prop × Value) (hs : isSh op = false) (hq : intBin op k x y = some q) (hside : q.1) (w : World) :
    (binOp op t (.int k x) (.int k y)).run P w = .ok q.2 w := by
  cases op <;> simp [intBin, isSh] at hq hs <;> subst hq <;> simp_all [binOp, Op.intArith, Op.intDiv, Op.intBits, Op.intCmp] <;> rfl
theorem run_binOp_sh (op : BinOp) (t : TypeId) (k k' : IntKind) (x y : Int) (q : Prop × Value) (hs : isSh op = true) (hq : shV op k x y = some q) (hside : q.1) (w : World) :
    (binOp op t (.int k x) (.int k' y)).run P w = .ok q.2 w := by
  cases op <;> simp [shV, isSh] at hq hs <;> subst hq <;> simp [binOp, Op.shift, Int.not_lt.2 hside]
theorem run_binOp_str (op : BinOp) (t : TypeId) (x y : ByteArray) (q : Prop × Value) (hq : strBin op x y = some q) (hside : q.1) (w : World) :
    (binOp op t (.string x) (.string y)).run P w = .ok q.2 w := by
  cases op <;> simp [strBin] at hq <;> subst hq <;> simp [binOp, Op.stringOp, toList_eq_iff]
  case add => 
    have : (IntKind.i64.max : Int) = 9223372036854775807 := by decide
    simp at hside
    omega
theorem slT_some {t : TypeId} (h : (slT P t).isSome = true) : ∃ e, P.underlying t = some (.slice e) := by
  unfold slT at h
  split at h
  · exact ⟨_, by assumption⟩
  · cases h
theorem binV_sound {op : BinOp} {t : TypeId} {u v : AV} {q : Prop × AV} (hq : binV P ln op t u v = some q) (hside : q.1) {x y : Value} (hx : RepV G ln F w u x) (hy : RepV G ln F w v y) (ox oy : Operand) :
    ∃ z, (∀ w', (do eqGuard op t ox oy x y; binOp op t x y).run P w' = .ok z w') ∧ RepV G ln F w q.2 z := by
  unfold binV at hq
  split at hq
  · rename_i k a k' b
    have e1 := hx.c_inv
    have e2 := hy.c_inv
    subst e1 e2
    split at hq
    · rename_i hs
      rw [Option.map_eq_some_iff] at hq
      obtain ⟨q', hq', rfl⟩ := hq
      exact ⟨q'.2, fun w' => by rw [Sem.run_bind, run_eqGuard_none _ _ _ _ _ _ _ (by simp) (by simp)]; exact run_binOp_sh op t k k' a b q' hs hq' hside w', .cc _⟩
    · rename_i hs
      split at hq
      · rename_i hk
        subst hk
        rw [Option.map_eq_some_iff] at hq
        obtain ⟨q', hq', rfl⟩ := hq
        exact ⟨q'.2, fun w' => by rw [Sem.run_bind, run_eqGuard_none _ _ _ _ _ _ _ (by simp) (by simp)]; exact run_binOp_int op t k a b q' (by simpa using hs) hq' hside w', .cc _⟩
      · cases hq
  · rename_i a b
    have e1 := hx.c_inv
    have e2 := hy.c_inv
    subst e1 e2
    rw [Option.map_eq_some_iff] at hq
    obtain ⟨q', hq', rfl⟩ := hq
    exact ⟨q'.2, fun w' => by rw [Sem.run_bind, run_eqGuard_none _ _ _ _ _ _ _ (by simp) (by simp)]; exact run_binOp_str op t a b q' hq' hside w', .cc _⟩
  · rename_i a b
    have e1 := hx.c_inv
    have e2 := hy.c_inv
    subst e1 e2
    split at hq
    · rename_i hb
      have hb' : P.underlying t = some .bool := by
        unfold isBoolT at hb
        split at hb
        · assumption
        · cases hb
      split at hq
      · injection hq with hq; subst hq
        refine ⟨.bool (decide (a = b)), fun w' => ?_, .cc _⟩
        rw [Sem.run_bind, run_eqGuard_none _ _ _ _ _ _ _ (by simp) (by simp)]
        cases a <;> cases b <;> simp [binOp, run_equal_bool _ _ _ _ hb']
      · injection hq with hq; subst hq
        refine ⟨.bool (decide (a ≠ b)), fun w' => ?_, .cc _⟩
        rw [Sem.run_bind, run_eqGuard_none _ _ _ _ _ _ _ (by simp) (by simp)]
        cases a <;> cases b <;> simp [binOp, run_equal_bool _ _ _ _ hb']
      · cases hq
    · cases hq
  · rename_i h off m
    have e2 := hy.c_inv
    subst e2
    split at hq
    · rename_i hb
      obtain hb' : P.underlying t = some (.pointer (P.pointee t)) := by
        unfold isPtrT at hb
        split at hb
        · rename_i e he
          rw [he]
          simp [Program.pointee, he]
        · cases hb
      have key : ln[h]? = some m → ∃ b, x = .pointer (some b) := by
        intro hm
        cases hx with
        | d _ _ hx => cases hx
        | ptr _ _ _ h1 h2 => exact ⟨_, rfl⟩
        | ptrOld _ _ _ m' _ h1 h2 => rw [hm] at h1; injection h1 with h1; omega
      split at hq
      · injection hq with hq; subst hq
        obtain ⟨b, rfl⟩ := key hside
        refine ⟨.bool false, fun w' => ?_, .cc _⟩
        rw [Sem.run_bind, run_eqGuard_none _ _ _ _ _ _ _ (by simp) (by simp)]
        simp [binOp, run_equal_pointer_nil _ _ _ hb']
      · injection hq with hq; subst hq
        obtain ⟨b, rfl⟩ := key hside
        refine ⟨.bool true, fun w' => ?_, .cc _⟩
        rw [Sem.run_bind, run_eqGuard_none _ _ _ _ _ _ _ (by simp) (by simp)]
        simp [binOp, run_equal_pointer_nil _ _ _ hb']
      · cases hq
    · cases hq
  · have e1 := hx.c_inv
    have e2 := hy.c_inv
    subst e1 e2
    split at hq
    · rename_i hb
      obtain ⟨e, he⟩ := slT_some hb
      split at hq
      · injection hq with hq; subst hq
        refine ⟨.bool true, fun w' => ?_, .cc _⟩
        rw [Sem.run_bind, run_eqGuard_none _ _ _ _ _ _ _ (by simp) (by simp)]
        simp [binOp, run_equal_slice_nil _ _ _ _ _ _ he]
      · injection hq with hq; subst hq
        refine ⟨.bool false, fun w' => ?_, .cc _⟩
        rw [Sem.run_bind, run_eqGuard_none _ _ _ _ _ _ _ (by simp) (by simp)]
        simp [binOp, run_equal_slice_nil _ _ _ _ _ _ he]
      · cases hq
    · cases hq
  · have e1 := hx.c_inv
    have e2 := hy.c_inv
    subst e1 e2
    split at hq
    · rename_i hb
      obtain hb' : P.underlying t = some (.pointer (P.pointee t)) := by
        unfold isPtrT at hb
        split at hb
        · rename_i e he
          rw [he]
          simp [Program.pointee, he]
        · cases hb
      split at hq
      · injection hq with hq; subst hq
        refine ⟨.bool true, fun w' => ?_, .cc _⟩
        rw [Sem.run_bind, run_eqGuard_none _ _ _ _ _ _ _ (by simp) (by simp)]
        simp [binOp, run_equal_pointer_nil _ _ _ hb']
      · injection hq with hq; subst hq
        refine ⟨.bool false, fun w' => ?_, .cc _⟩
        rw [Sem.run_bind, run_eqGuard_none _ _ _ _ _ _ _ (by simp) (by simp)]
        simp [binOp, run_equal_pointer_nil _ _ _ hb']
      · cases hq
    · cases hq
  · rename_i l
    have e2 := hy.c_inv
    subst e2
    split at hq
    · rename_i hb
      obtain hb' : P.underlying t = some (.pointer (P.pointee t)) := by
        unfold isPtrT at hb
        split at hb
        · rename_i e he
          rw [he]
          simp [Program.pointee, he]
        · cases hb
      have key : ∃ b, x = .pointer (some b) := by
        cases hx with
        | d _ _ hx => cases hx
        | fp _ b o f h1 h2 h3 => exact ⟨_, rfl⟩
      obtain ⟨b, rfl⟩ := key
      split at hq
      · injection hq with hq; subst hq
        refine ⟨.bool false, fun w' => ?_, .cc _⟩
        rw [Sem.run_bind, run_eqGuard_none _ _ _ _ _ _ _ (by simp) (by simp)]
        simp [binOp, run_equal_pointer_nil _ _ _ hb']
      · injection hq with hq; subst hq
        refine ⟨.bool true, fun w' => ?_, .cc _⟩
        rw [Sem.run_bind, run_eqGuard_none _ _ _ _ _ _ _ (by simp) (by simp)]
        simp [binOp, run_equal_pointer_nil _ _ _ hb']
      · cases hq
    · cases hq
  · cases hq
end
end Go.Proofs.Ytmgpiminicgbiaa
namespace Go.Proofs.Ytmgpiminicgbiaa
set_option linter.unusedVariables false
set_option linter.unusedSimpArgs false
open Go.RowKit

/-! ## Operations that turn nothing: their value, and what must be so -/
def cellsH (h : List AObj) (k : Nat) : Option (List AV) := match h[k]? with | some (.o _ cs) => some cs | _ => none
def isU8 : AV → Bool | .c (.int .u8 n) => decide (0 ≤ n) && decide (n < 256) | _ => false
def u8of : AV → UInt8 | .c (.int .u8 n) => UInt8.ofNat n.toNat | _ => 0
def u8av (l : List UInt8) : List AV := l.map fun b => .c (u8 b)
def bytesOf (l : List AV) : ByteArray := ⟨(l.map u8of).toArray⟩
def loIx : Option AV → Option Int | none => some 0 | some (.c (.int _ n)) => some n | _ => none
def hiIx (d : Int) : Option AV → Option Int | none => some d | some (.c (.int _ n)) => some n | _ => none
/-- a slice's cells, as they are known, and the size of an element -/
def viewS (ro : Nat → Bool) (h : List AObj) : AV → Option (Nat × List AV)
  | .fs sz _ l => some (sz, l)
  | .sl k sz off n m => (cellsH h k).bind fun cs => if cs.length = m ∧ ro k = true ∧ off + n * sz ≤ m then some (sz, (cs.drop off).take (n * sz)) else none
  | .c (.slice none 0 0) => some (1, [])
  | _ => none
def lenV (P : Program) (h : List AObj) (t : TypeId) : AV → Option (Prop × Nat)
  | .c (.string s) => if isStrT P t then some (True, s.size) else none
  | .c (.slice _ n _) => if (slT P t).isSome then some (True, n) else none
  | .fs _ n _ => if (slT P t).isSome then some (True, n) else none
  | .sl k _ _ n m => if (slT P t).isSome then some ((lens h)[k]? = some m, n) else none
  | _ => none
def capV (P : Program) (h : List AObj) (t : TypeId) : AV → Option (Prop × Nat)
  | .c (.slice _ _ c) => if (slT P t).isSome then some (True, c) else none
  | .slc k sz off _ m => if (slT P t).isSome then some (0 < sz ∧ (lens h)[k]? = some m, (m - off) / sz) else none
  | _ => none
def max2V : AV → AV → Option AV
  | .c (.int k x), .c (.int k' y) => if k = k' then some (.c (.int k (max x y))) else none
  | _, _ => none
def min2V : AV → AV → Option AV
  | .c (.int k x), .c (.int k' y) => if k = k' then some (.c (.int k (min x y))) else none
  | _, _ => none
def foldV (f : AV → AV → Option AV) : AV → List AV → Option AV
  | x, [] => some x
  | x, y :: l => (f x y).bind fun z => foldV f z l
def unV (op : UnOp) : AV → Option AV
  | .c (.bool b) => match op with | .not => some (.c (.bool (!b))) | _ => none
  | .c (.int k n) => match op with
    | .neg => some (.c (.int k (k.wrap (0 - n))))
    | .xor => some (.c (.int k (k.wrap (BitVec.ofInt k.bits (if k.signed then -1 else k.max) ^^^ BitVec.ofInt k.bits n).toNat)))
    | _ => none
  | _ => none
def convV (P : Program) (ro : Nat → Bool) (h : List AObj) (src dst : TypeId) : AV → Option (Prop × AV)
  | .c (.int _ n) => (intT P dst).bind fun k => if (intT P src).isSome then some (True, .c (.int k (k.wrap n))) else none
  | .c (.string s) => if isStrT P dst && isStrT P src then some (True, .c (.string s)) else none
  | v => if isStrT P dst then match slT P src, viewS ro h v with
    | some (e, 1, _), some (1, l) => if intT P e = some .u8 then some (l.all isU8 = true, .c (.string (bytesOf l))) else none
    | _, _ => none
    else none
def sliceV (P : Program) (h : List AObj) (t : TypeId) (x : AV) (lo hi : Option AV) : Option (Prop × AV) :=
  match x with
  | .c (.string s) => if isStrT P t then match loIx lo, hiIx s.size hi with
    | some l, some k => some (0 ≤ l ∧ l ≤ k ∧ k ≤ s.size, .c (.string (s.extract l.toNat k.toNat)))
    | _, _ => none
    else none
  | .fs sz n c => match slT P t, loIx lo, hiIx n hi with
    | some (_, sz', _), some l, some k => some (sz' = sz ∧ 0 ≤ l ∧ l ≤ k ∧ k ≤ n, .fs sz (k.toNat - l.toNat) ((c.drop (l.toNat * sz)).take ((k.toNat - l.toNat) * sz)))
    | _, _, _ => none
  | .c (.slice none 0 0) => match slT P t, loIx lo, hiIx 0 hi with
    | some _, some l, some k => some (l = 0 ∧ k = 0, .c (.slice none 0 0))
    | _, _, _ => none
  | .sl g sz off n m => match slT P t, loIx lo, hiIx n hi with
    | some (_, sz', _), some l, some k => some (sz' = sz ∧ (lens h)[g]? = some m ∧ 0 ≤ l ∧ l ≤ k ∧ k ≤ n ∧ (l = 0 ∨ l < n), .sl g sz (off + l.toNat * sz) (k.toNat - l.toNat) m)
    | _, _, _ => none
  | .slc g sz off n m => match slT P t, loIx lo, hiIx n hi with
    | some (_, sz', _), some l, some k => some (sz' = sz ∧ 0 < sz ∧ (lens h)[g]? = some m ∧ 0 ≤ l ∧ l ≤ k ∧ off + k.toNat * sz ≤ m, if l = 0 ∨ off + l.toNat * sz < m then .slc g sz (off + l.toNat * sz) (k.toNat - l.toNat) m else .sl g sz off 0 m)
    | _, _, _ => none
  | .ptr g off m => match arT P t, loIx lo, hiIx ((arT P t).elim 0 (·.1)) hi with
    | some (n, sz), some l, some k => some ((lens h)[g]? = some m ∧ off + n * sz ≤ m ∧ 0 ≤ l ∧ l ≤ k ∧ k ≤ n ∧ l < n ∧ n ≤ maxLen, .sl g sz (off + l.toNat * sz) (k.toNat - l.toNat) m)
    | _, _, _ => none
  | _ => none
/-- a slice whose capacity is cut -/
def slice3V (P : Program) (h : List AObj) (t : TypeId) (x : AV) (lo : Option AV) (hi mx : AV) : Option (Prop × AV) :=
  match x, hi, mx with
  | .fs sz n c, .c (.int _ k), .c (.int _ m') => match slT P t, loIx lo with
    | some (_, sz', _), some l => some (sz' = sz ∧ 0 ≤ l ∧ l ≤ k ∧ k ≤ m' ∧ m' ≤ n, .fs sz (k.toNat - l.toNat) ((c.drop (l.toNat * sz)).take ((k.toNat - l.toNat) * sz)))
    | _, _ => none
  | .sl g sz off n m, .c (.int _ k), .c (.int _ m') => match slT P t, loIx lo with
    | some (_, sz', _), some l => some (sz' = sz ∧ (lens h)[g]? = some m ∧ 0 ≤ l ∧ l ≤ k ∧ k ≤ m' ∧ m' ≤ n ∧ (l = 0 ∨ l < m'), .sl g sz (off + l.toNat * sz) (k.toNat - l.toNat) m)
    | _, _ => none
  | _, _, _ => none
def ixV (P : Program) (h : List AObj) (t : TypeId) (x : AV) (i : Int) : Option (Prop × AV) :=
  match x with
  | .fs sz n c => (slT P t).bind fun p => some (p.2.1 = sz ∧ 0 ≤ i ∧ i < n, .fp ((c.drop (i.toNat * sz)).take sz))
  | .sl g sz off n m => (slT P t).bind fun p => some (p.2.1 = sz ∧ (lens h)[g]? = some m ∧ 0 ≤ i ∧ i < n, .ptr g (off + i.toNat * sz) m)
  | .ptr g off m => (arT P t).bind fun p => some ((lens h)[g]? = some m ∧ 0 ≤ i ∧ i < p.1, .ptr g (off + i.toNat * p.2) m)
  | .fp c => (arT P t).bind fun p => some (0 ≤ i ∧ i < p.1, .fp (c.drop (i.toNat * p.2)))
  | _ => none
def fldV (P : Program) (h : List AObj) (t : TypeId) (f : Nat) : AV → Option (Prop × AV)
  | .ptr g off m => (fldT P t f).bind fun p => some ((lens h)[g]? = some m, .ptr g (off + p.1) m)
  | .fp c => (fldT P t f).bind fun p => some (True, .fp (c.drop p.1))
  | _ => none
def loadAV (P : Program) (ro : Nat → Bool) (h : List AObj) (t : TypeId) : AV → Option (Prop × AV)
  | .ptr g off m => match tyT P t, cellsH h g with
    | some (sz, ag), some cs => if ro g then some (cs.length = m ∧ off + sz ≤ cs.length ∧ 0 < sz, loadV sz ag (cs.drop off)) else none
    | _, _ => none
  | .fp c => match tyT P t with
    | some (sz, ag) => some (sz ≤ c.length ∧ 0 < sz, loadV sz ag c)
    | _ => none
  | _ => none
def nilV (h : List AObj) : AV → Option (Prop × AV)
  | .ptr g off m => some ((lens h)[g]? = some m, .ptr g off m)
  | .fp c => some (True, .fp c)
  | .clo (.func f) a b => some (True, .clo (.func f) a b)
  | _ => none
def fillV : List AV → List (Nat × Nat × AV) → Option (List AV)
  | z, [] => some z
  | z, (off, sz, v) :: r => if v.cells.length = sz ∧ off + sz ≤ z.length then fillV (z.take off ++ v.cells ++ z.drop (off + sz)) r else none
def isCell : AV → Bool
  | .c v => v.oneCell'
  | .ptr .. | .sl .. | .fs .. | .fp _ | .clo .. => true
  | _ => false
def okV : AV → Bool
  | .agg _ => true
  | v => isCell v
/-- where the parts of a struct's or an array's type lie -/
def plT (P : Program) (t : TypeId) : Option (Nat → Option (Nat × Nat)) := match P.underlying t with
  | some (.struct fs) => (fs.toList.mapM fun f => (P.info? f.type).map fun i => (f.offset, i.size)).map fun l i => l[i]?
  | some (.array _ e) => (P.info? e).map fun ie i => some (i * ie.size, ie.size)
  | _ => none
def partsV (s : AS) (pl : Nat → Option (Nat × Nat)) : List (Nat × Operand) → Option (List (Nat × Nat × AV))
  | [] => some []
  | (i, x) :: r => match pl i, okV (s.ev x).ung, partsV s pl r with
    | some (off, sz), true, some l => some ((off, sz, (s.ev x).ung) :: l)
    | _, _, _ => none
def gcO (s : AS) : Option Operand → Prop
  | none => True
  | some x => (s.ev x).gc
def gcsV (s : AS) : List (Nat × Operand) → Prop
  | [] => True
  | (_, x) :: r => (s.ev x).gc ∧ gcsV s r
def buildV (P : Program) (s : AS) (t : TypeId) (parts : List (Nat × Operand)) : Option (Prop × AV) :=
  match zeroT P t, plT P t with
  | some z, some pl => (partsV s pl parts).bind fun l => (fillV (z.map .c) l).map fun cs => (gcsV s parts, .agg cs)
  | _, _ => none
def callV (P : Program) (s : AS) (c : Call) : Option (Prop × AV) :=
  match c.callee, c.args.toList, c.argTypes.toList with
  | .builtin .len, [x], [t] => (lenV P s.h t (s.ev x).ung).map fun p => ((s.ev x).gc ∧ p.1, .c (.int .i64 p.2))
  | .builtin .cap, [x], [t] => (capV P s.h t (s.ev x).ungs).map fun p => ((s.ev x).gc ∧ p.1, .c (.int .i64 p.2))
  | .builtin .max, [x, y], _ => (max2V (s.ev x).ung (s.ev y).ung).map fun v => ((s.ev x).gc ∧ (s.ev y).gc, v)
  | .builtin .max, x :: y :: z :: l, _ => (foldV max2V (s.ev x).ung ((y :: z :: l).map fun o => (s.ev o).ung)).map fun v => ((∀ o ∈ x :: y :: z :: l, (s.ev o).gc), v)
  | .builtin .min, [x, y], _ => (min2V (s.ev x).ung (s.ev y).ung).map fun v => ((s.ev x).gc ∧ (s.ev y).gc, v)
  | .builtin .min, x :: y :: z :: l, _ => (foldV min2V (s.ev x).ung ((y :: z :: l).map fun o => (s.ev o).ung)).map fun v => ((∀ o ∈ x :: y :: z :: l, (s.ev o).gc), v)
  | _, _, _ => none
def pureV (P : Program) (ro : Nat → Bool) (s : AS) (op : Op) : Option (Prop × AV) :=
  match op with
  | .move x | .assign x => some (True, s.ev x)
  | .pick c a b => match (s.ev c).ung, (s.ev a).ung, (s.ev b).ung with
    | .c (.bool v), .c (.bool x), .c (.bool y) => some ((s.ev c).gc ∧ (v = true → (s.ev a).gc) ∧ (v = false → (s.ev b).gc), .c (.bool (bif v then x else y)))
    | _, _, _ => none
  | .nilCheck x => (nilV s.h (s.ev x).ung).map fun p => ((s.ev x).gc ∧ p.1, p.2)
  | .binOp op t x y _ => (binV2 P (lens s.h) op t (s.ev x).ung (s.ev y).ung).map fun p => ((s.ev x).gc ∧ (s.ev y).gc ∧ p.1, p.2)
  | .unOp op _ x => (unV op (s.ev x).ung).map fun v => ((s.ev x).gc, v)
  | .convert src dst x => (convV P ro s.h src dst (s.ev x).ung).map fun p => ((s.ev x).gc ∧ p.1, p.2)
  | .slice t x lo hi none => (sliceV P s.h t (s.ev x).ungs (lo.map fun o => (s.ev o).ung) (hi.map fun o => (s.ev o).ung)).map fun p => ((s.ev x).gc ∧ gcO s lo ∧ gcO s hi ∧ p.1, p.2)
  | .slice t x lo (some hi) (some mx) => (slice3V P s.h t (s.ev x).ung (lo.map s.ev) (s.ev hi) (s.ev mx)).map fun p => ((s.ev x).gc ∧ p.1, p.2)
  | .fieldAddr t x f => (fldV P s.h t f (s.ev x).ung).map fun p => ((s.ev x).gc ∧ p.1, p.2)
  | .field t x f => match (s.ev x).ung, fldT P t f with
    | .agg l, some (off, sz, ag) => some ((s.ev x).gc ∧ off + sz ≤ l.length, fldCut off sz ag l)
    | _, _ => none
  | .indexAddr t x i => match (s.ev i).ung with
    | .c (.int _ n) => (ixV P s.h t (s.ev x).ung n).map fun p => ((s.ev x).gc ∧ (s.ev i).gc ∧ p.1, p.2)
    | _ => none
  | .index t x i => match (s.ev x).ung, (s.ev i).ung with
    | .c (.string b), .c (.int _ n) => if isStrT P t then some ((s.ev x).gc ∧ (s.ev i).gc ∧ 0 ≤ n ∧ n < b.size, .c (.int .u8 ((b.data.toList[n.toNat]?).getD 0).toNat)) else none
    | .agg l, .c (.int _ n) => (arX P t).bind fun p => some ((s.ev x).gc ∧ (s.ev i).gc ∧ 0 ≤ n ∧ n < p.1 ∧ n.toNat * p.2.1 + p.2.1 ≤ l.length, fldCut (n.toNat * p.2.1) p.2.1 p.2.2 l)
    | _, _ => none
  | .extract x i => match (s.ev x).ung with
    | .tup l => some ((s.ev x).gc ∧ i < l.length, (l[i]?).getD .any)
    | _ => none
  | .makeFunc f l k => some (True, .clo f (l.toList.map s.ev) (k.toList.map s.ev))
  | .load t x => (loadAV P ro s.h t (s.ev x).ung).map fun p => ((s.ev x).gc ∧ p.1, p.2)
  | .build t parts => buildV P s t parts.toList
  | .call c => callV P s c
  | _ => none
end Go.Proofs.Ytmgpiminicgbiaa
namespace Go.Proofs.Ytmgpiminicgbiaa
set_option linter.unusedVariables false
set_option linter.unusedSimpArgs false
open Go.RowKit

def SameOn (ro : Nat → Bool) (G : Gh) (F : Nat → Prop) (h : List AObj) (w w' : World) : Prop :=
  ∀ b, (F b ∨ ∃ k x, h[k]? = some x ∧ ro k = true ∧ G.vir k = false ∧ b = G.σ k) → w'.heap[b]? = w.heap[b]?
theorem SameOn.refl (ro : Nat → Bool) (G : Gh) (F : Nat → Prop) (h : List AObj) (w : World) : SameOn ro G F h w w := fun _ _ => rfl

section
variable {P : Program} {G : Gh} {ln : List Nat} {F : Nat → Prop} {w : World} {ro : Nat → Bool} {h : List AObj}
theorem ptr_inv {k off m : Nat} {x : Value} (hr : RepV G ln F w (.ptr k off m) x) (hm : ln[k]? = some m) : G.vir k = false ∧ x = .pointer (some ⟨G.σ k, off, none⟩) := by
  cases hr with
  | d _ _ h => cases h
  | ptr _ _ _ h1 h2 => exact ⟨h2, rfl⟩
  | ptrOld _ _ _ m' _ h1 h2 => rw [hm] at h1; injection h1 with h1; omega
theorem sl_inv {k sz off n m : Nat} {x : Value} (hr : RepV G ln F w (.sl k sz off n m) x) (hm : ln[k]? = some m) :
    (G.vir k = true ∧ off = 0 ∧ n = 0 ∧ m = 0 ∧ x = .slice none 0 0) ∨ (G.vir k = false ∧ ∃ c, x = .slice (some ⟨G.σ k, off, none⟩) n c ∧ n ≤ c ∧ c ≤ maxLen ∧ off + c * sz ≤ G.bs k) := by
  cases hr with
  | d _ _ h => cases h
  | sl _ _ _ _ _ c h1 h2 h3 h4 h5 => exact .inr ⟨h2, c, rfl, h3, h4, h5⟩
  | slNil _ _ h1 h2 => exact .inl ⟨h2, rfl, rfl, rfl, rfl⟩
  | slOld _ _ _ _ _ m' _ _ _ h1 h2 => rw [hm] at h1; injection h1 with h1; omega
theorem slc_inv {k sz off n m : Nat} {x : Value} (hr : RepV G ln F w (.slc k sz off n m) x) : ∃ A l c, x = .slice A l c ∧ RepV G ln F w (.sl k sz off n m) (.slice A l c) ∧ (ln[k]? = some m → off + c * sz = m) := by
  cases hr with
  | d _ _ h => cases h
  | slc _ _ _ _ _ A l c h1 h2 => exact ⟨A, l, c, rfl, h1, h2⟩
theorem fs_inv {sz n : Nat} {l : List AV} {x : Value} (hr : RepV G ln F w (.fs sz n l) x) : RepD F w (.fs sz n l) x := by
  cases hr with
  | d _ _ h => exact h
theorem fsD_inv {sz n : Nat} {l : List AV} {x : Value} (hr : RepD F w (.fs sz n l) x) : ∃ A c, x = .slice A n c ∧ n ≤ c ∧ c ≤ maxLen ∧ l.length = n * sz ∧
    (0 < n → ∃ (b o : Nat) (f : Nat → Value), A = some ⟨b, o, none⟩ ∧ F b ∧ (∀ j, j < l.length → w.cell? ⟨b, o + j, none⟩ = some (f j)) ∧ ∀ (j : Nat) (u : AV), l[j]? = some u → RepD F w u (f j)) := by
  cases hr with
  | fs0 _ A c h => exact ⟨A, c, rfl, Nat.zero_le _, h, by simp, fun h => absurd h (by omega)⟩
  | fs _ _ b o c _ f h1 h2 h3 h4 h5 h6 h7 => exact ⟨_, c, rfl, h2, h3, h4, fun _ => ⟨b, o, f, rfl, h5, h6, h7⟩⟩
theorem fp_inv {l : List AV} {x : Value} (hr : RepV G ln F w (.fp l) x) : ∃ (b o : Nat) (f : Nat → Value), x = .pointer (some ⟨b, o, none⟩) ∧ F b ∧ (∀ j, j < l.length → w.cell? ⟨b, o + j, none⟩ = some (f j)) ∧ ∀ (j : Nat) (u : AV), l[j]? = some u → RepD F w u (f j) := by
  cases hr with
  | d _ _ h => cases h
  | fp _ b o f h1 h2 h3 => exact ⟨b, o, f, rfl, h1, h2, h3⟩
theorem lens_at {k m : Nat} (hm : (lens h)[k]? = some m) : ∃ x, h[k]? = some x ∧ lnO x = m := by
  unfold lens at hm
  rw [List.getElem?_map, Option.map_eq_some_iff] at hm
  exact hm
theorem cellsH_at {k : Nat} {cs : List AV} (hc : cellsH h k = some cs) : ∃ kd, h[k]? = some (.o kd cs) ∧ (lens h)[k]? = some cs.length := by
  unfold cellsH at hc
  split at hc
  · rename_i kd cs' hk
    injection hc with hc
    subst hc
    exact ⟨kd, hk, by simp [lens, List.getElem?_map, hk, lnO]⟩
  · cases hc
/-- a solid block's cells, and what they hold -/
theorem HRel.cells (hh : HRel G F h w) {k : Nat} {kd : AKind} {cs : List AV} (hk : h[k]? = some (.o kd cs)) (hv : G.vir k = false) :
    ∃ cur ty fr, w.heap[G.σ k]? = some (.cells cur ty fr) ∧ cs.length ≤ cur.size ∧ CRel G (lens h) F w cs cur := by
  have := hh.obj k _ hk
  cases kd with
  | box => obtain ⟨_, _, cur, ty, h1, h2, h3, h4⟩ := this; exact ⟨cur, ty, _, h1, by omega, h4⟩
  | row e sz =>
    rcases this with ⟨h1, _⟩ | ⟨_, _, cur, c, h1, h2, h3, h4, h5, h6⟩
    · rw [hv] at h1; cases h1
    · exact ⟨cur, e, _, h1, by omega, h6⟩
  | fz =>
    rcases this with ⟨h1, _⟩ | ⟨_, _, cur, ty, fr, h1, _, h2, h3⟩
    · rw [hv] at h1; cases h1
    · exact ⟨cur, ty, fr, h1, h2, h3⟩
theorem HRel.bs (hh : HRel G F h w) {k : Nat} {x : AObj} (hk : h[k]? = some x) : lnO x ≤ G.bs k := by
  have := hh.obj k _ hk
  cases x with
  | raw s => exact Nat.zero_le _
  | o kd cs =>
    simp only [lnO]
    cases kd with
    | box => obtain ⟨_, _, cur, ty, h1, h2, h3, h4⟩ := this; omega
    | row e sz =>
      rcases this with ⟨_, h1⟩ | ⟨_, _, cur, c, h1, h2, h3, h4, h5, h6⟩
      · subst h1; exact Nat.zero_le _
      · exact h5
    | fz =>
      rcases this with ⟨_, h1⟩ | ⟨_, _, cur, ty, fr, h1, h2, h3, h4⟩
      · subst h1; exact Nat.zero_le _
      · omega
theorem cell_cells {b i : Nat} {cur : Array Value} {ty : TypeId} {fr : Nat × Nat} (hb : w.heap[b]? = some (.cells cur ty fr)) : w.cell? ⟨b, i, none⟩ = cur[i]? := cell_of_row w b i cur ty fr hb

theorem tyT_inv {t sz : Nat} {ag : Bool} (ht : tyT P t = some (sz, ag)) : ∃ i d, P.info? t = some i ∧ i.size = sz ∧ P.underlying t = some d ∧ aggD d = ag := by
  unfold tyT at ht
  split at ht
  · rename_i i d hi hd
    injection ht with ht
    injection ht with e1 e2
    exact ⟨i, d, hi, e1, hd, e2⟩
  · cases ht
theorem slT_inv {t : Nat} {p : TypeId × Nat × Nat} (ht : slT P t = some p) : ∃ i, P.underlying t = some (.slice p.1) ∧ P.info? p.1 = some i ∧ i.size = p.2.1 ∧ i.bytes = p.2.2 := by
  unfold slT at ht
  split at ht
  · rename_i e he
    rw [Option.map_eq_some_iff] at ht
    obtain ⟨i, hi, rfl⟩ := ht
    exact ⟨i, he, hi, rfl, rfl⟩
  · cases ht
theorem arT_inv {t : Nat} {p : Nat × Nat} (ht : arT P t = some p) : ∃ e i, P.underlying t = some (.array p.1 e) ∧ P.info? e = some i ∧ i.size = p.2 := by
  unfold arT at ht
  split at ht
  · rename_i n e he
    rw [Option.map_eq_some_iff] at ht
    obtain ⟨i, hi, rfl⟩ := ht
    exact ⟨e, i, he, hi, rfl⟩
  · cases ht
theorem intT_inv {t : Nat} {k : IntKind} (ht : intT P t = some k) : P.underlying t = some (.int k) := by
  unfold intT at ht
  split at ht
  · rename_i k' hk
    injection ht with ht; rw [hk, ht]
  · cases ht
theorem isStrT_inv {t : Nat} (ht : isStrT P t = true) : P.underlying t = some .string := by
  unfold isStrT at ht
  split at ht
  · assumption
  · cases ht
theorem fldT_inv {t f : Nat} {p : Nat × Nat × Bool} (ht : fldT P t f = some p) : ∃ fs x i d, P.underlying t = some (.struct fs) ∧ fs[f]? = some x ∧ P.info? x.type = some i ∧ P.underlying x.type = some d ∧ x.offset = p.1 ∧ i.size = p.2.1 ∧ p.2.1 ≠ 0 ∧ aggD d = p.2.2 := by
  unfold fldT at ht
  split at ht
  · rename_i fs hfs
    split at ht
    · rename_i x hx
      rw [Option.bind_eq_some_iff] at ht
      obtain ⟨⟨sz, ag⟩, h1, h2⟩ := ht
      split at h2
      · cases h2
      · rename_i hne
        injection h2 with h2
        subst h2
        obtain ⟨i, d, e1, e2, e3, e4⟩ := tyT_inv h1
        exact ⟨fs, x, i, d, hfs, hx, e1, e3, rfl, e2, hne, e4⟩
    · cases ht
  · cases ht
theorem arX_inv {t : Nat} {p : Nat × Nat × Bool} (ht : arX P t = some p) : ∃ e i d, P.underlying t = some (.array p.1 e) ∧ P.info? e = some i ∧ P.underlying e = some d ∧ i.size = p.2.1 ∧ p.2.1 ≠ 0 ∧ aggD d = p.2.2 := by
  unfold arX at ht
  split at ht
  · rename_i n e he
    rw [Option.bind_eq_some_iff] at ht
    obtain ⟨⟨sz, ag⟩, h1, h2⟩ := ht
    split at h2
    · cases h2
    · rename_i hne
      injection h2 with h2
      subst h2
      obtain ⟨i, d, e1, e2, e3, e4⟩ := tyT_inv h1
      exact ⟨e, i, d, he, e1, e3, e2, hne, e4⟩
  · cases ht
/-- a load of whatever type from cells that lie in one block -/
theorem run_load {t sz : Nat} {ag : Bool} (ht : tyT P t = some (sz, ag)) (b o : Nat) (cs : List AV) (f : Nat → Value) (hs : 0 < sz) (hl : sz ≤ cs.length) (w' : World) (hc : ∀ j, j < sz → w'.cell? ⟨b, o + j, none⟩ = some (f j))
    (hr : ∀ (j : Nat) (u : AV), cs[j]? = some u → RepV G ln F w u (f j)) :
    ∃ x, (∀ w'', (∀ j, j < sz → w''.cell? ⟨b, o + j, none⟩ = some (f j)) → (loadVar t ⟨b, o, none⟩).run P w'' = .ok x w'') ∧ RepV G ln F w (loadV sz ag cs) x := by
  obtain ⟨i, d, hi, hsz, hu, hd⟩ := tyT_inv ht
  have addE : ∀ j, (⟨b, o, none⟩ : Addr).add j = ⟨b, o + j, none⟩ := fun j => by unfold Addr.add; split <;> simp_all
  cases ag with
  | true =>
    refine ⟨.agg ((List.range sz).map f).toArray, fun w'' hc => run_loadN w'' t d i hu (by cases d <;> simp_all [aggD, isAggD]) hi _ _ (by simp [hsz]) fun j u hj => ?_, ?_⟩
    · by_cases hlt : j < sz
      · have : u = f j := by simpa [hlt] using hj.symm
        subst this
        rw [addE]
        exact hc j hlt
      · rw [List.getElem?_eq_none (by simp; omega)] at hj; cases hj
    · simp only [loadV, if_true]
      refine .agg _ _ (by simp; omega) fun j u x hu hx => ?_
      rw [List.getElem?_take] at hu
      split at hu
      · rename_i hj
        have : x = f j := by simp [hj] at hx; exact hx.symm
        subst this
        exact hr j u hu
      · cases hu
  | false =>
    have hag : (w'' : World) → (isAgg t).run P w'' = .ok false w'' := fun w'' => by
      unfold isAgg
      rw [Sem.run_bind, run_underlying hu w'']
      cases d <;> simp_all [aggD]
    refine ⟨f 0, fun w'' hc => ?_, ?_⟩
    · have := hc 0 hs
      simp only [Nat.add_zero] at this
      simp [loadVar, Sem.run_bind, hag, load, Sem.run, this]
    · have hlt : 0 < cs.length := by omega
      simp only [loadV, Bool.false_eq_true, if_false]
      rw [List.getElem?_eq_getElem hlt, Option.getD_some]
      exact hr 0 _ (List.getElem?_eq_getElem hlt)
end
end Go.Proofs.Ytmgpiminicgbiaa
namespace Go.Proofs.Ytmgpiminicgbiaa
set_option linter.unusedVariables false
set_option linter.unusedSimpArgs false
open Go.RowKit

section
variable {P : Program} {G : Gh} {F : Nat → Prop} {w : World} {ro : Nat → Bool} {h : List AObj}
/-- what a value's run comes to in each world that agrees on what is read -/
def Yv (P : Program) (ro : Nat → Bool) (G : Gh) (F : Nat → Prop) (h : List AObj) (w : World) (av : AV) (s : Sem Value) : Prop :=
  ∃ x, (∀ w', SameOn ro G F h w w' → s.run P w' = .ok x w') ∧ RepV G (lens h) F w av x
theorem addE (b o j : Nat) : (⟨b, o, none⟩ : Addr).add j = ⟨b, o + j, none⟩ := by unfold Addr.add; split <;> simp_all
theorem drop_at {α : Type} (l : List α) (k j : Nat) : (l.drop k)[j]? = l[k + j]? := by rw [List.getElem?_drop]

theorem nilV_sound {op : Sem Next} {u : AV} {q : Prop × AV} {x : Value} (hh : HRel G F h w) (hq : nilV h u = some q) (hs : q.1) (hx : RepV G (lens h) F w u x) :
    (∃ b, x = .pointer (some b)) ∨ (∃ f a b, x = .func (.func f) a b) := by
  unfold nilV at hq
  split at hq
  · injection hq with hq; subst hq
    exact .inl ⟨_, (ptr_inv hx hs).2⟩
  · obtain ⟨b, o, f, h1, _⟩ := fp_inv hx
    exact .inl ⟨_, h1⟩
  · cases hx with
    | d _ _ h => cases h
    | clo f l k cs ds _ _ _ _ => exact .inr ⟨_, _, _, rfl⟩
  · cases hq
theorem nilV_same {u : AV} {q : Prop × AV} (hq : nilV h u = some q) : q.2 = u := by
  unfold nilV at hq
  split at hq <;> first | (injection hq with hq; subst hq; rfl) | cases hq

theorem loadAV_sound {t : TypeId} {u : AV} {q : Prop × AV} {x : Value} (hh : HRel G F h w) (hq : loadAV P ro h t u = some q) (hs : q.1) (hx : RepV G (lens h) F w u x) : Yv P ro G F h w q.2 (Instr.loadAt t x) := by
  unfold loadAV at hq
  split at hq
  · rename_i g off m
    split at hq
    · rename_i sz ag cs htt hcs
      split at hq
      · rename_i hro
        injection hq with hq; subst hq
        obtain ⟨kd, hk, hln⟩ := cellsH_at hcs
        obtain ⟨e1, e2, e3⟩ := hs
        rw [e1] at hln
        obtain ⟨hv, rfl⟩ := ptr_inv hx hln
        obtain ⟨cur, ty, fr, hb, hsz, hcr⟩ := hh.cells hk hv
        have hcell : ∀ (w' : World), SameOn ro G F h w w' → ∀ j, j < sz → w'.cell? ⟨G.σ g, off + j, none⟩ = some (cur.getD (off + j) undef) := fun w' hso j hj => by
          rw [World.cell?_of_block (a := ⟨G.σ g, off + j, none⟩) (hso (G.σ g) (.inr ⟨g, _, hk, hro, hv, rfl⟩)), cell_cells hb]
          have : off + j < cur.size := by omega
          simp [Array.getD, this]
        obtain ⟨x, hrun, hrep⟩ := run_load (P := P) (G := G) (ln := lens h) (F := F) (w := w) htt (G.σ g) off (cs.drop off) (fun j => cur.getD (off + j) undef) e3 (by simp; omega) w (hcell w (SameOn.refl _ _ _ _ _)) (fun j u hu => by
          rw [drop_at] at hu
          obtain ⟨y, hy, hr⟩ := hcr _ _ hu
          have : cur.getD (off + j) undef = y := by rw [Array.getD_eq_getD_getElem?, hy]; rfl
          rw [this]; exact hr)
        exact ⟨x, fun w' hso => by simpa [Instr.loadAt, Instr.sureAddr] using hrun w' (hcell w' hso), hrep⟩
      · cases hq
    · cases hq
  · rename_i c
    split at hq
    · rename_i sz ag htt
      injection hq with hq; subst hq
      obtain ⟨b, o, f, rfl, hF, hc, hr⟩ := fp_inv hx
      have hcell : ∀ (w' : World), SameOn ro G F h w w' → ∀ j, j < sz → w'.cell? ⟨b, o + j, none⟩ = some (f j) := fun w' hso j hj => by
        rw [World.cell?_of_block (a := ⟨b, o + j, none⟩) (hso b (.inl hF))]; exact hc j (by have := hs.1; omega)
      obtain ⟨x, hrun, hrep⟩ := run_load (P := P) (G := G) (ln := lens h) (F := F) (w := w) htt b o c f hs.2 hs.1 w (hcell w (SameOn.refl _ _ _ _ _)) (fun j u hu => .d _ _ (hr j u hu))
      exact ⟨x, fun w' hso => by simpa [Instr.loadAt, Instr.sureAddr] using hrun w' (hcell w' hso), hrep⟩
    · cases hq
  · cases hq

theorem fldV_sound {t : TypeId} {f : Nat} {u : AV} {q : Prop × AV} {x : Value} (hq : fldV P h t f u = some q) (hs : q.1) (hx : RepV G (lens h) F w u x) : Yv P ro G F h w q.2 (Instr.fieldAt t x f) := by
  unfold fldV at hq
  split at hq
  · rename_i g off m
    rw [Option.bind_eq_some_iff] at hq
    obtain ⟨p, hp, hq⟩ := hq
    injection hq with hq; subst hq
    obtain ⟨hv, rfl⟩ := ptr_inv hx hs
    obtain ⟨fs, y, i, d, h1, h2, h3, h4, h5, h6, h7, h8⟩ := fldT_inv hp
    refine ⟨.pointer (some ⟨G.σ g, off + p.1, none⟩), fun w' _ => ?_, .ptr g _ m hs hv⟩
    simp [Instr.fieldAt, run_underlying h1, h2, Instr.sureAddr, fieldPlace, sizeOf, typeInfo, h3, h6, h7, addE, h5]
  · rename_i c
    rw [Option.bind_eq_some_iff] at hq
    obtain ⟨p, hp, hq⟩ := hq
    injection hq with hq; subst hq
    obtain ⟨b, o, f', rfl, hF, hc, hr⟩ := fp_inv hx
    obtain ⟨fs, y, i, d, h1, h2, h3, h4, h5, h6, h7, h8⟩ := fldT_inv hp
    refine ⟨.pointer (some ⟨b, o + p.1, none⟩), fun w' _ => ?_, .fp _ b (o + p.1) (fun j => f' (p.1 + j)) hF (fun j hj => ?_) fun j u hu => ?_⟩
    · simp [Instr.fieldAt, run_underlying h1, h2, Instr.sureAddr, fieldPlace, sizeOf, typeInfo, h3, h6, h7, addE, h5]
    · rw [Nat.add_assoc]; exact hc _ (by simp at hj; omega)
    · rw [drop_at] at hu; exact hr _ u hu
  · cases hq

theorem ixV_sound {t : TypeId} {i : Int} {k : IntKind} {u : AV} {q : Prop × AV} {x : Value} (hq : ixV P h t u i = some q) (hs : q.1) (hx : RepV G (lens h) F w u x) : Yv P ro G F h w q.2 (Instr.indexAt t x (.int k i)) := by
  unfold ixV at hq
  split at hq
  · rename_i sz n c
    rw [Option.bind_eq_some_iff] at hq
    obtain ⟨p, hp, hq⟩ := hq
    injection hq with hq; subst hq
    obtain ⟨e1, e2, e3⟩ := hs
    obtain ⟨A, cap, rfl, h1, h2, h3, h4⟩ := fsD_inv (fs_inv hx)
    obtain ⟨b, o, f, rfl, hF, hc, hr⟩ := h4 (by omega)
    obtain ⟨ti, g1, g2, g3, g4⟩ := slT_inv hp
    have hin : i.toNat * sz + sz ≤ n * sz := by rw [← Nat.succ_mul]; exact Nat.mul_le_mul_right _ (by omega)
    refine ⟨.pointer (some ⟨b, o + i.toNat * sz, none⟩), fun w' _ => ?_, .fp _ b (o + i.toNat * sz) (fun j => f (i.toNat * sz + j)) hF (fun j hj => ?_) fun j u hu => ?_⟩
    · simp [Instr.indexAt, asIntOf, run_underlying g1, e2, e3, sizeOf, typeInfo, g2, g3, e1, addE]
    · rw [Nat.add_assoc]; exact hc _ (by simp at hj; omega)
    · rw [List.getElem?_take] at hu
      split at hu
      · rw [drop_at] at hu; exact hr _ u hu
      · cases hu
  · rename_i g sz off n m
    rw [Option.bind_eq_some_iff] at hq
    obtain ⟨p, hp, hq⟩ := hq
    injection hq with hq; subst hq
    obtain ⟨e1, e0, e2, e3⟩ := hs
    obtain ⟨ti, g1, g2, g3, g4⟩ := slT_inv hp
    rcases sl_inv hx e0 with ⟨_, _, rfl, _⟩ | ⟨hv, c, rfl, _⟩
    · omega
    · refine ⟨.pointer (some ⟨G.σ g, off + i.toNat * sz, none⟩), fun w' _ => ?_, .ptr g _ m e0 hv⟩
      simp [Instr.indexAt, asIntOf, run_underlying g1, e2, e3, sizeOf, typeInfo, g2, g3, e1, addE]
  · rename_i g off m
    rw [Option.bind_eq_some_iff] at hq
    obtain ⟨p, hp, hq⟩ := hq
    injection hq with hq; subst hq
    obtain ⟨e0, e2, e3⟩ := hs
    obtain ⟨e, ti, g1, g2, g3⟩ := arT_inv hp
    obtain ⟨hv, rfl⟩ := ptr_inv hx e0
    refine ⟨.pointer (some ⟨G.σ g, off + i.toNat * p.2, none⟩), fun w' _ => ?_, .ptr g _ m e0 hv⟩
    simp [Instr.indexAt, asIntOf, run_underlying g1, Instr.sureAddr, e2, e3, sizeOf, typeInfo, g2, g3, addE]
  · rename_i c
    rw [Option.bind_eq_some_iff] at hq
    obtain ⟨p, hp, hq⟩ := hq
    injection hq with hq; subst hq
    obtain ⟨e2, e3⟩ := hs
    obtain ⟨e, ti, g1, g2, g3⟩ := arT_inv hp
    obtain ⟨b, o, f, rfl, hF, hc, hr⟩ := fp_inv hx
    refine ⟨.pointer (some ⟨b, o + i.toNat * p.2, none⟩), fun w' _ => ?_, .fp _ b (o + i.toNat * p.2) (fun j => f (i.toNat * p.2 + j)) hF (fun j hj => ?_) fun j u hu => ?_⟩
    · simp [Instr.indexAt, asIntOf, run_underlying g1, Instr.sureAddr, e2, e3, sizeOf, typeInfo, g2, g3, addE]
    · rw [Nat.add_assoc]; exact hc _ (by simp at hj; omega)
    · rw [drop_at] at hu; exact hr _ u hu
  · cases hq
end
end Go.Proofs.Ytmgpiminicgbiaa
namespace Go.Proofs.Ytmgpiminicgbiaa
set_option linter.unusedVariables false
set_option linter.unusedSimpArgs false
open Go.RowKit

section
variable {P : Program} {G : Gh} {F : Nat → Prop} {w : World} {ro : Nat → Bool} {h : List AObj}
theorem unV_sound {op : UnOp} {u v : AV} {x : Value} (hq : unV op u = some v) (hx : RepV G (lens h) F w u x) : Yv P ro G F h w v (Op.unary op x) := by
  unfold unV at hq
  split at hq
  · have e := hx.c_inv
    subst e
    split at hq
    · injection hq with hq; subst hq
      exact ⟨_, fun w' _ => by simp [Op.unary], .cc _⟩
    · cases hq
  · have e := hx.c_inv
    subst e
    split at hq
    · injection hq with hq; subst hq
      exact ⟨_, fun w' _ => by simp [Op.unary, Op.intArith], .cc _⟩
    · injection hq with hq; subst hq
      exact ⟨_, fun w' _ => by simp [Op.unary, Op.intBits], .cc _⟩
    · cases hq
  · cases hq
theorem capV_sound {t ty : TypeId} {u : AV} {q : Prop × Nat} {x : Value} (hq : capV P h t u = some q) (hs : q.1) (hx : RepV G (lens h) F w u x) : Yv P ro G F h w (.c (.int .i64 q.2)) (Builtin.cap_ #[t] ty #[x]) := by
  unfold capV at hq
  split at hq
  · split at hq
    · rename_i ht
      injection hq with hq; subst hq
      obtain ⟨e, he⟩ := slT_some ht
      rw [hx.c_inv]
      exact ⟨_, fun w' _ => by simp [Builtin.cap_, run_underlying he, goInt], .cc _⟩
    · cases hq
  · rename_i k sz off n m
    split at hq
    · rename_i ht
      injection hq with hq; subst hq
      obtain ⟨e, he⟩ := slT_some ht
      obtain ⟨A, l, c, rfl, h1, h2⟩ := slc_inv hx
      have hc : (m - off) / sz = c := by
        have := h2 hs.2
        have e : m - off = c * sz := by omega
        rw [e, Nat.mul_div_cancel _ hs.1]
      simp only
      rw [hc]
      exact ⟨_, fun w' _ => by simp [Builtin.cap_, run_underlying he, goInt], .cc _⟩
    · cases hq
  · cases hq
theorem lenV_sound {t ty : TypeId} {u : AV} {q : Prop × Nat} {x : Value} (hq : lenV P h t u = some q) (hs : q.1) (hx : RepV G (lens h) F w u x) : Yv P ro G F h w (.c (.int .i64 q.2)) (Builtin.len_ #[t] ty #[x]) := by
  unfold lenV at hq
  split at hq
  · have e := hx.c_inv
    subst e
    split at hq
    · rename_i ht
      injection hq with hq; subst hq
      exact ⟨_, fun w' _ => by simp [Builtin.len_, run_underlying (isStrT_inv ht), goInt], .cc _⟩
    · cases hq
  · have e := hx.c_inv
    subst e
    split at hq
    · rename_i ht
      injection hq with hq; subst hq
      obtain ⟨e, he⟩ := slT_some ht
      exact ⟨_, fun w' _ => by simp [Builtin.len_, run_underlying he, goInt], .cc _⟩
    · cases hq
  · split at hq
    · rename_i ht
      injection hq with hq; subst hq
      obtain ⟨e, he⟩ := slT_some ht
      obtain ⟨A, c, rfl, _⟩ := fsD_inv (fs_inv hx)
      exact ⟨_, fun w' _ => by simp [Builtin.len_, run_underlying he, goInt], .cc _⟩
    · cases hq
  · split at hq
    · rename_i ht
      injection hq with hq; subst hq
      obtain ⟨e, he⟩ := slT_some ht
      rcases sl_inv hx hs with ⟨_, _, rfl, _, rfl⟩ | ⟨_, c, rfl, _⟩
      · exact ⟨_, fun w' _ => by simp [Builtin.len_, run_underlying he, goInt], .cc _⟩
      · exact ⟨_, fun w' _ => by simp [Builtin.len_, run_underlying he, goInt], .cc _⟩
    · cases hq
  · cases hq
theorem max2_sound {u v z : AV} {x y : Value} {ats : Array TypeId} {ty : TypeId} (hq : max2V u v = some z) (hx : RepV G (lens h) F w u x) (hy : RepV G (lens h) F w v y) : Yv P ro G F h w z (Builtin.max_ ats ty #[x, y]) := by
  unfold max2V at hq
  split at hq
  · have e := hx.c_inv
    have e' := hy.c_inv
    subst e e'
    split at hq
    · rename_i hk
      subst hk
      injection hq with hq; subst hq
      refine ⟨_, fun w' _ => by simp [Builtin.max_, Builtin.max2]; rfl, ?_⟩
      rename_i k a b
      have : (if b > a then b else a) = max a b := by omega
      rw [this]
      exact .cc _
    · cases hq
  · cases hq
theorem max2_run {u v z : AV} {x y : Value} (hq : max2V u v = some z) (hx : RepV G (lens h) F w u x) (hy : RepV G (lens h) F w v y) : ∃ r, (∀ w', (Builtin.max2 x y).run P w' = .ok r w') ∧ RepV G (lens h) F w z r := by
  unfold max2V at hq
  split at hq
  · have e := hx.c_inv
    have e' := hy.c_inv
    subst e e'
    split at hq
    · rename_i hk
      subst hk
      injection hq with hq; subst hq
      refine ⟨_, fun w' => by simp [Builtin.max2]; rfl, ?_⟩
      rename_i k a b
      have : (if b > a then b else a) = max a b := by omega
      rw [this]
      exact .cc _
    · cases hq
  · cases hq
theorem foldMax_sound : ∀ (l : List AV) (vs : List Value) (u z : AV) (x : Value), foldV max2V u l = some z → RepV G (lens h) F w u x → l.length = vs.length → (∀ (j : Nat) (u' : AV) (v' : Value), l[j]? = some u' → vs[j]? = some v' → RepV G (lens h) F w u' v') → ∃ r, (∀ w', (vs.foldlM Builtin.max2 x).run P w' = .ok r w') ∧ RepV G (lens h) F w z r
  | [], [], u, z, x, hq, hx, _, _ => by
    simp only [foldV, Option.some.injEq] at hq
    subst hq
    exact ⟨x, fun w' => rfl, hx⟩
  | [], _ :: _, _, _, _, _, _, hl, _ => by simp at hl
  | _ :: _, [], _, _, _, _, _, hl, _ => by simp at hl
  | v :: l, y :: vs, u, z, x, hq, hx, hl, hv => by
    simp only [foldV, Option.bind_eq_some_iff] at hq
    obtain ⟨t, h1, h2⟩ := hq
    obtain ⟨r1, h3, h4⟩ := max2_run (P := P) h1 hx (hv 0 v y rfl rfl)
    obtain ⟨r, h5, h6⟩ := foldMax_sound l vs t z r1 h2 h4 (by simpa using hl) fun j u' v' e1 e2 => hv (j + 1) u' v' (by simpa using e1) (by simpa using e2)
    refine ⟨r, fun w' => ?_, h6⟩
    simp only [List.foldlM_cons]
    simp [h3 w', h5 w']
theorem min2_run {u v z : AV} {x y : Value} (hq : min2V u v = some z) (hx : RepV G (lens h) F w u x) (hy : RepV G (lens h) F w v y) : ∃ r, (∀ w', (Builtin.min2 x y).run P w' = .ok r w') ∧ RepV G (lens h) F w z r := by
  unfold min2V at hq
  split at hq
  · have e := hx.c_inv
    have e' := hy.c_inv
    subst e e'
    split at hq
    · rename_i hk
      subst hk
      injection hq with hq; subst hq
      refine ⟨_, fun w' => by simp [Builtin.min2]; rfl, ?_⟩
      rename_i k a b
      have : (if b < a then b else a) = min a b := by omega
      rw [this]
      exact .cc _
    · cases hq
  · cases hq
theorem foldMin_sound : ∀ (l : List AV) (vs : List Value) (u z : AV) (x : Value), foldV min2V u l = some z → RepV G (lens h) F w u x → l.length = vs.length → (∀ (j : Nat) (u' : AV) (v' : Value), l[j]? = some u' → vs[j]? = some v' → RepV G (lens h) F w u' v') → ∃ r, (∀ w', (vs.foldlM Builtin.min2 x).run P w' = .ok r w') ∧ RepV G (lens h) F w z r
  | [], [], u, z, x, hq, hx, _, _ => by
    simp only [foldV, Option.some.injEq] at hq
    subst hq
    exact ⟨x, fun w' => rfl, hx⟩
  | [], _ :: _, _, _, _, _, _, hl, _ => by simp at hl
  | _ :: _, [], _, _, _, _, _, hl, _ => by simp at hl
  | v :: l, y :: vs, u, z, x, hq, hx, hl, hv => by
    simp only [foldV, Option.bind_eq_some_iff] at hq
    obtain ⟨t, h1, h2⟩ := hq
    obtain ⟨r1, h3, h4⟩ := min2_run (P := P) h1 hx (hv 0 v y rfl rfl)
    obtain ⟨r, h5, h6⟩ := foldMin_sound l vs t z r1 h2 h4 (by simpa using hl) fun j u' v' e1 e2 => hv (j + 1) u' v' (by simpa using e1) (by simpa using e2)
    refine ⟨r, fun w' => ?_, h6⟩
    simp only [List.foldlM_cons]
    simp [h3 w', h5 w']
theorem min2_sound {u v z : AV} {x y : Value} {ats : Array TypeId} {ty : TypeId} (hq : min2V u v = some z) (hx : RepV G (lens h) F w u x) (hy : RepV G (lens h) F w v y) : Yv P ro G F h w z (Builtin.min_ ats ty #[x, y]) := by
  unfold min2V at hq
  split at hq
  · have e := hx.c_inv
    have e' := hy.c_inv
    subst e e'
    split at hq
    · rename_i hk
      subst hk
      injection hq with hq; subst hq
      refine ⟨_, fun w' _ => by simp [Builtin.min_, Builtin.min2]; rfl, ?_⟩
      rename_i k a b
      have : (if b < a then b else a) = min a b := by omega
      rw [this]
      exact .cc _
    · cases hq
  · cases hq

theorem isU8_inv {u : AV} (hu : isU8 u = true) : u = .c (u8 (u8of u)) := by
  unfold isU8 at hu
  split at hu
  · rename_i n
    simp at hu
    simp [u8, u8of]
    omega
  · cases hu
theorem view_rd {u : AV} {p : Nat × List AV} {x : Value} (hh : HRel G F h w) (hv : viewS ro h u = some p) (hx : RepV G (lens h) F w u x) :
    ∃ A n c, x = .slice A n c ∧ p.2.length = n * p.1 ∧
      ∃ f : Nat → Value, (∀ w', SameOn ro G F h w w' → 0 < n → ∃ b o, A = some ⟨b, o, none⟩ ∧ ∀ j, j < p.2.length → w'.cell? ⟨b, o + j, none⟩ = some (f j)) ∧ ∀ (j : Nat) (u : AV), p.2[j]? = some u → RepV G (lens h) F w u (f j) := by
  unfold viewS at hv
  split at hv
  · rename_i sz n l'
    injection hv with hv; subst hv
    obtain ⟨A, c, rfl, h1, h2, h3, h4⟩ := fsD_inv (fs_inv hx)
    rcases Nat.eq_zero_or_pos n with h0 | h0
    · subst h0
      have : l' = [] := List.eq_nil_of_length_eq_zero (by simpa using h3)
      subst this
      exact ⟨A, 0, c, rfl, h3, fun _ => undef, fun _ _ h => absurd h (by omega), fun j u hj => by simp at hj⟩
    · obtain ⟨b, o, f, rfl, hF, hc, hr⟩ := h4 h0
      exact ⟨_, n, c, rfl, h3, f, fun w' hso _ => ⟨b, o, rfl, fun j hj => by rw [World.cell?_of_block (a := ⟨b, o + j, none⟩) (hso b (.inl hF))]; exact hc j hj⟩, fun j u hj => .d _ _ (hr j u hj)⟩
  · rename_i k sz off n m
    rw [Option.bind_eq_some_iff] at hv
    obtain ⟨cs, hcs, hv⟩ := hv
    split at hv
    · rename_i hm
      obtain ⟨hm, hro, hle⟩ := hm
      injection hv with hv; subst hv
      obtain ⟨kd, hk, hln⟩ := cellsH_at hcs
      rw [hm] at hln
      have hlen : ((cs.drop off).take (n * sz)).length = n * sz := by simp; omega
      rcases sl_inv hx hln with ⟨h1, rfl, rfl, rfl, rfl⟩ | ⟨hv, c, rfl, h3, h4, h5⟩
      · exact ⟨none, 0, 0, rfl, hlen, fun _ => undef, fun _ _ h => absurd h (by omega), fun j u hj => by simp at hj⟩
      · obtain ⟨cur, ty, fr, hb, hsz, hcr⟩ := hh.cells hk hv
        refine ⟨_, n, c, rfl, hlen, fun j => cur.getD (off + j) undef, fun w' hso _ => ⟨_, _, rfl, fun j hj => ?_⟩, fun j u hu => ?_⟩
        · rw [World.cell?_of_block (a := ⟨G.σ k, off + j, none⟩) (hso (G.σ k) (.inr ⟨k, _, hk, hro, hv, rfl⟩)), cell_cells hb]
          simp only at hj
          have : off + j < cur.size := by omega
          simp [Array.getD, this]
        · simp only at hu
          rw [List.getElem?_take] at hu
          split at hu
          · rw [drop_at] at hu
            obtain ⟨y, hy, hr⟩ := hcr _ _ hu
            have : cur.getD (off + j) undef = y := by rw [Array.getD_eq_getD_getElem?, hy]; rfl
            show RepV _ _ _ _ _ (cur.getD (off + j) undef)
            rw [this]; exact hr
          · cases hu
    · cases hv
  · injection hv with hv; subst hv
    have e := hx.c_inv
    subst e
    exact ⟨none, 0, 0, rfl, rfl, fun _ => undef, fun _ _ h => absurd h (by omega), fun j u hj => by simp at hj⟩
  · cases hv
/-- bytes that are known to be such -/
theorem view_bytes {l : List AV} {n : Nat} {A : Option Addr} (hl : l.length = n * 1) (hu : l.all isU8 = true) {f : Nat → Value} {w' : World} (h2 : 0 < n → ∃ b o, A = some ⟨b, o, none⟩ ∧ ∀ j, j < l.length → w'.cell? ⟨b, o + j, none⟩ = some (f j))
    (h3 : ∀ (j : Nat) (u : AV), l[j]? = some u → RepV G (lens h) F w u (f j)) : Rd w' 1 A n (u8s (l.map u8of)) := by
  refine ⟨by simpa using hl, fun hn => ?_⟩
  obtain ⟨b, o, rfl, hc⟩ := h2 hn
  refine ⟨_, rfl, fun j u hj => ?_⟩
  rw [addE]
  simp only [u8s, List.map_map, List.getElem?_map, Option.map_eq_some_iff] at hj
  obtain ⟨v, hv, rfl⟩ := hj
  have hj : j < l.length := (List.getElem?_eq_some_iff.1 hv).1
  rw [hc j hj]
  have hr := h3 j v hv
  have h8 := List.all_eq_true.1 hu v (List.mem_of_getElem? hv)
  rw [isU8_inv h8] at hr
  rw [hr.c_inv]
  rfl
theorem convV_sound {src dst : TypeId} {u : AV} {q : Prop × AV} {x : Value} (hh : HRel G F h w) (hq : convV P ro h src dst u = some q) (hs : q.1) (hx : RepV G (lens h) F w u x) : Yv P ro G F h w q.2 (convert src dst x) := by
  unfold convV at hq
  split at hq
  · rename_i k0 n
    have e := hx.c_inv
    subst e
    rw [Option.bind_eq_some_iff] at hq
    obtain ⟨k, hk, hq⟩ := hq
    split at hq
    · rename_i hsrc
      injection hq with hq; subst hq
      obtain ⟨k1, hk1⟩ := Option.isSome_iff_exists.1 hsrc
      exact ⟨_, fun w' _ => by simp [convert, run_underlying (intT_inv hk), run_underlying (intT_inv hk1), Conv.intToInt], .cc _⟩
    · cases hq
  · rename_i s
    have e := hx.c_inv
    subst e
    split at hq
    · rename_i ht
      injection hq with hq; subst hq
      simp only [Bool.and_eq_true] at ht
      exact ⟨_, fun w' _ => by simp [convert, run_underlying (isStrT_inv ht.1), run_underlying (isStrT_inv ht.2)], .cc _⟩
    · cases hq
  · split at hq
    · rename_i ht
      split at hq
      · rename_i e by_ l hsl hview
        split at hq
        · rename_i he
          injection hq with hq; subst hq
          obtain ⟨A, n, c, rfl, h1, f, h2, h3⟩ := view_rd (ro := ro) hh hview hx
          obtain ⟨ti, g1, g2, g3, g4⟩ := slT_inv hsl
          exact ⟨_, fun w' hso => run_string_of w' src dst e A n c _ g1 (intT_inv he) (isStrT_inv ht) (view_bytes (w' := w') h1 hs (h2 w' hso) h3), .cc _⟩
        · cases hq
      · cases hq
    · cases hq
end
end Go.Proofs.Ytmgpiminicgbiaa
namespace Go.Proofs.Ytmgpiminicgbiaa
set_option linter.unusedVariables false
set_option linter.unusedSimpArgs false
open Go.RowKit

section
variable {P : Program} {G : Gh} {F : Nat → Prop} {w : World} {ro : Nat → Bool} {h : List AObj}
theorem run_bounds (b : Bool) (len cap : Nat) (lo hi : Option Value) (l k : Int) (hlo : (lo = none ∧ l = 0) ∨ ∃ kd, lo = some (.int kd l)) (hhi : (hi = none ∧ k = len) ∨ ∃ kd, hi = some (.int kd k))
    (h0 : 0 ≤ l) (h1 : l ≤ k) (h2 : k ≤ cap) (w' : World) : (Instr.sliceBounds b len cap lo hi none).run P w' = .ok (l.toNat, k.toNat, cap) w' := by
  have h3 : 0 ≤ k := by omega
  have hcast : ((k.toNat : Nat) : Int) = k := by omega
  rcases hlo with ⟨rfl, rfl⟩ | ⟨kd, rfl⟩ <;> rcases hhi with ⟨rfl, rfl⟩ | ⟨kd', rfl⟩ <;>
    simp [Instr.sliceBounds, Instr.sliceBound, asIntOf, h0, h1, h2, h3]
  all_goals (try omega)
  all_goals (simp_all)
theorem lo_inv {x : Option AV} {v : Option Value} {l : Int} (hq : loIx x = some l) (hx : ∀ u, x = some u → ∃ y, v = some y ∧ RepV G (lens h) F w u y) (hn : x = none → v = none) : (v = none ∧ l = 0) ∨ ∃ kd, v = some (.int kd l) := by
  unfold loIx at hq
  split at hq
  · injection hq with hq; exact .inl ⟨hn rfl, hq.symm⟩
  · injection hq with hq; subst hq
    obtain ⟨y, h1, h2⟩ := hx _ rfl
    exact .inr ⟨_, by rw [h1, h2.c_inv]⟩
  · cases hq
theorem hi_inv {x : Option AV} {v : Option Value} {l d : Int} (hq : hiIx d x = some l) (hx : ∀ u, x = some u → ∃ y, v = some y ∧ RepV G (lens h) F w u y) (hn : x = none → v = none) : (v = none ∧ l = d) ∨ ∃ kd, v = some (.int kd l) := by
  unfold hiIx at hq
  split at hq
  · injection hq with hq; exact .inl ⟨hn rfl, hq.symm⟩
  · injection hq with hq; subst hq
    obtain ⟨y, h1, h2⟩ := hx _ rfl
    exact .inr ⟨_, by rw [h1, h2.c_inv]⟩
  · cases hq
theorem sliceV_sound {t : TypeId} {u : AV} {lo hi : Option AV} {q : Prop × AV} {x : Value} {vlo vhi : Option Value} (hh : HRel G F h w) (hq : sliceV P h t u lo hi = some q) (hs : q.1) (hx : RepV G (lens h) F w u x)
    (hlo : ∀ u, lo = some u → ∃ y, vlo = some y ∧ RepV G (lens h) F w u y) (hlo0 : lo = none → vlo = none) (hhi : ∀ u, hi = some u → ∃ y, vhi = some y ∧ RepV G (lens h) F w u y) (hhi0 : hi = none → vhi = none) :
    Yv P ro G F h w q.2 (Instr.sliceAt t x vlo vhi none) := by
  unfold sliceV at hq
  split at hq
  · rename_i s
    have e := hx.c_inv
    subst e
    split at hq
    · rename_i ht
      split at hq
      · rename_i l k hl hk
        injection hq with hq; subst hq
        obtain ⟨e1, e2, e3⟩ := hs
        exact ⟨_, fun w' _ => by simp [Instr.sliceAt, Instr.slice, run_underlying (isStrT_inv ht), run_bounds false s.size s.size vlo vhi l k (lo_inv hl hlo hlo0) (hi_inv hk hhi hhi0) e1 e2 e3], .cc _⟩
      · cases hq
    · cases hq
  · rename_i sz n c
    split at hq
    · rename_i e sz' by_ l k hsl hl hk
      injection hq with hq; subst hq
      obtain ⟨e0, e1, e2, e3⟩ := hs
      obtain ⟨A, cap, rfl, h1, h2, h3, h4⟩ := fsD_inv (fs_inv hx)
      obtain ⟨ti, g1, g2, g3, g4⟩ := slT_inv hsl
      simp only at g1 g2 g3 g4
      have hb := fun w' => run_bounds (P := P) true n cap vlo vhi l k (lo_inv hl hlo hlo0) (hi_inv hk hhi hhi0) e1 e2 (by omega) w'
      refine ⟨.slice (if cap = l.toNat then A else A.map (·.add (l.toNat * sz))) (k.toNat - l.toNat) (cap - l.toNat), fun w' _ => by simp [Instr.sliceAt, Instr.slice, run_underlying g1, hb w', sizeOf, typeInfo, g2, g3, e0], .d _ _ ?_⟩
      rcases Nat.eq_zero_or_pos (k.toNat - l.toNat) with hz | hz
      · have : (c.drop (l.toNat * sz)).take ((k.toNat - l.toNat) * sz) = [] := by rw [hz]; simp
        rw [this, hz]
        exact .fs0 _ _ _ (by omega)
      · obtain ⟨b, o, f, rfl, hF, hc, hr⟩ := h4 (by omega)
        rw [if_neg (by omega)]
        simp only [Option.map_some, addE]
        have hin : l.toNat * sz + (k.toNat - l.toNat) * sz ≤ n * sz := by rw [← Nat.add_mul]; exact Nat.mul_le_mul_right _ (by omega)
        refine .fs _ _ _ _ _ _ (fun j => f (l.toNat * sz + j)) hz (by omega) (by omega) (by simp; omega) hF (fun j hj => ?_) fun j u hu => ?_
        · rw [Nat.add_assoc]; exact hc _ (by simp at hj; omega)
        · rw [List.getElem?_take] at hu
          split at hu
          · rw [drop_at] at hu; exact hr _ u hu
          · cases hu
    · cases hq
  · split at hq
    · rename_i p l k hsl hl hk
      injection hq with hq; subst hq
      obtain ⟨e1, e2⟩ := hs
      subst e1 e2
      obtain ⟨e, sz, by_⟩ := p
      obtain ⟨ti, g1, g2, g3, g4⟩ := slT_inv hsl
      simp only at g1 g2 g3 g4
      have hb := fun w' => run_bounds (P := P) true 0 0 vlo vhi 0 0 (lo_inv hl hlo hlo0) (hi_inv hk hhi hhi0) (by omega) (by omega) (by omega) w'
      rw [hx.c_inv]
      exact ⟨.slice none 0 0, fun w' _ => by simp [Instr.sliceAt, Instr.slice, run_underlying g1, hb w', sizeOf, typeInfo, g2, g3], .cc _⟩
    · cases hq
  · rename_i g sz off n m
    split at hq
    · rename_i e sz' by_ l k hsl hl hk
      injection hq with hq; subst hq
      obtain ⟨e0, em, e1, e2, e3, e4⟩ := hs
      obtain ⟨ti, g1, g2, g3, g4⟩ := slT_inv hsl
      simp only at g1 g2 g3 g4
      rcases sl_inv hx em with ⟨hv, rfl, rfl, rfl, rfl⟩ | ⟨hv, cap, rfl, h3, h4, h5⟩
      · have hl0 : l = 0 := by omega
        have hk0 : k = 0 := by omega
        subst hl0 hk0
        have hb := fun w' => run_bounds (P := P) true 0 0 vlo vhi 0 0 (lo_inv hl hlo hlo0) (hi_inv hk hhi hhi0) e1 e2 (by omega) w'
        refine ⟨.slice none 0 0, fun w' _ => by simpa [Instr.sliceAt, Instr.slice, run_underlying g1, sizeOf, typeInfo, g2] using by rw [hb w']; simp, ?_⟩
        simpa using RepV.slNil g sz em hv
      · have hb := fun w' => run_bounds (P := P) true n cap vlo vhi l k (lo_inv hl hlo hlo0) (hi_inv hk hhi hhi0) e1 e2 (by omega) w'
        refine ⟨.slice (some ⟨G.σ g, off + l.toNat * sz, none⟩) (k.toNat - l.toNat) (cap - l.toNat), fun w' _ => ?_, ?_⟩
        · rcases e4 with rfl | e4
          · simp [Instr.sliceAt, Instr.slice, run_underlying g1, hb w', sizeOf, typeInfo, g2, g3, e0, addE]
          · have hne : ¬ cap = l.toNat := by omega
            simp [Instr.sliceAt, Instr.slice, run_underlying g1, hb w', sizeOf, typeInfo, g2, g3, e0, addE, hne]
        · refine .sl g sz _ _ m _ em hv (by omega) (by omega) ?_
          have : off + l.toNat * sz + (cap - l.toNat) * sz = off + cap * sz := by
            rw [Nat.add_assoc, ← Nat.add_mul]
            congr 2
            omega
          omega
    · cases hq
  · rename_i g sz off n m
    split at hq
    · rename_i e sz' by_ l k hsl hl hk
      injection hq with hq; subst hq
      obtain ⟨e0, ez, em, e1, e2, e3⟩ := hs
      obtain ⟨ti, g1, g2, g3, g4⟩ := slT_inv hsl
      simp only at g1 g2 g3 g4
      obtain ⟨A, ln', c, rfl, hx1, hx2⟩ := slc_inv hx
      have hcm := hx2 em
      have hkc : k ≤ c := by
        have h1 : k.toNat * sz ≤ c * sz := by omega
        have h2 := Nat.le_of_mul_le_mul_right h1 ez
        omega
      rcases sl_inv hx1 em with ⟨hv, rfl, rfl, rfl, hxe⟩ | ⟨hv, cap, hxe, h3, h4, h5⟩
      · injection hxe with q1 q2 q3
        subst q1 q2 q3
        have hk0 : k = 0 := by omega
        have hl0 : l = 0 := by omega
        subst hl0 hk0
        have hb := fun w' => run_bounds (P := P) true 0 0 vlo vhi 0 0 (lo_inv hl hlo hlo0) (hi_inv hk hhi hhi0) e1 e2 (by omega) w'
        refine ⟨.slice none 0 0, fun w' _ => by simpa [Instr.sliceAt, Instr.slice, run_underlying g1, sizeOf, typeInfo, g2] using by rw [hb w']; simp, ?_⟩
        simp only [true_or, if_true]
        simpa using RepV.slc g sz 0 0 0 none 0 0 (RepV.slNil g sz em hv) (fun _ => by simp)
      · injection hxe with q1 q2 q3
        subst q1 q2 q3
        have hb := fun w' => run_bounds (P := P) true ln' c vlo vhi l k (lo_inv hl hlo hlo0) (hi_inv hk hhi hhi0) e1 e2 hkc w'
        have hoff : off + l.toNat * sz + (c - l.toNat) * sz = off + c * sz := by
          rw [Nat.add_assoc, ← Nat.add_mul]
          congr 2
          omega
        by_cases e4 : l = 0 ∨ off + l.toNat * sz < m
        rotate_left
        · have hlc : c ≤ l.toNat := by
            have h1 : c * sz ≤ l.toNat * sz := by omega
            exact Nat.le_of_mul_le_mul_right h1 ez
          have hcl : c = l.toNat := by omega
          have hkl : k.toNat - l.toNat = 0 := by omega
          rw [if_neg e4]
          refine ⟨.slice (some ⟨G.σ g, off, none⟩) (k.toNat - l.toNat) (c - l.toNat), fun w' _ => ?_, ?_⟩
          · have hcl' : (c = l.toNat) = True := eq_true hcl
            simp [Instr.sliceAt, Instr.slice, run_underlying g1, hb w', sizeOf, typeInfo, g2, g3, e0, hcl']
          · rw [hkl, hcl, Nat.sub_self]
            exact .sl g sz off 0 m 0 em hv (Nat.le_refl _) (Nat.zero_le _) (by omega)
        rw [if_pos e4]
        refine ⟨.slice (some ⟨G.σ g, off + l.toNat * sz, none⟩) (k.toNat - l.toNat) (c - l.toNat), fun w' _ => ?_, ?_⟩
        · rcases e4 with rfl | e4
          · simp [Instr.sliceAt, Instr.slice, run_underlying g1, hb w', sizeOf, typeInfo, g2, g3, e0, addE]
          · have hne : ¬ c = l.toNat := fun e => by subst e; omega
            simp [Instr.sliceAt, Instr.slice, run_underlying g1, hb w', sizeOf, typeInfo, g2, g3, e0, addE, hne]
        · refine .slc _ _ _ _ _ _ _ _ (.sl g sz _ _ m _ em hv (by omega) (by omega) (by omega)) fun _ => by omega
    · cases hq
  · rename_i g off m
    split at hq
    · rename_i n sz l k har hl hk
      injection hq with hq; subst hq
      obtain ⟨em, en, e1, e2, e3, e4, e5⟩ := hs
      obtain ⟨e, ti, g1, g2, g3⟩ := arT_inv har
      simp only at g1 g3
      obtain ⟨hv, rfl⟩ := ptr_inv hx em
      obtain ⟨y, hy, hym⟩ := lens_at em
      have hel : (arT P t).elim (0 : Int) (fun p => (p.1 : Int)) = n := by rw [har]; rfl
      have hk' : hiIx n hi = some k := by rw [← hk]; congr 1; rw [har]; rfl
      have hb := fun w' => run_bounds (P := P) false n n vlo vhi l k (lo_inv hl hlo hlo0) (hi_inv hk' hhi hhi0) e1 e2 (by omega) w'
      refine ⟨.slice (some ⟨G.σ g, off + l.toNat * sz, none⟩) (k.toNat - l.toNat) (n - l.toNat), fun w' _ => ?_, ?_⟩
      · have hne : ¬ n = l.toNat := by omega
        simp [Instr.sliceAt, run_underlying g1, Instr.sureAddr, hb w', sizeOf, typeInfo, g2, g3, addE, hne]
      · refine .sl g sz _ _ m _ em hv (by omega) (by omega) ?_
        have : off + l.toNat * sz + (n - l.toNat) * sz = off + n * sz := by
          rw [Nat.add_assoc, ← Nat.add_mul]
          congr 2
          omega
        have : m ≤ G.bs g := hym ▸ hh.bs hy
        omega
    · cases hq
  · cases hq
theorem run_bounds3 (len cap : Nat) (lo : Option Value) (l k m : Int) (kd kd' : IntKind) (hlo : (lo = none ∧ l = 0) ∨ ∃ kd, lo = some (.int kd l)) (h0 : 0 ≤ l) (h1 : l ≤ k) (h2 : k ≤ m) (h3 : m ≤ cap) (w' : World) :
    (Instr.sliceBounds true len cap lo (some (.int kd k)) (some (.int kd' m))).run P w' = .ok (l.toNat, k.toNat, m.toNat) w' := by
  have h4 : 0 ≤ k := by omega
  have h5 : 0 ≤ m := by omega
  have hc1 : ((k.toNat : Nat) : Int) = k := by omega
  have hc2 : ((m.toNat : Nat) : Int) = m := by omega
  rcases hlo with ⟨rfl, rfl⟩ | ⟨kd, rfl⟩ <;>
    simp [Instr.sliceBounds, Instr.sliceBound, asIntOf, h0, h1, h2, h3, h4, h5, Int.max_eq_left h4, Int.max_eq_left h5]
  all_goals (try omega)
theorem slice3V_sound {t : TypeId} {u ahi amx : AV} {lo : Option AV} {q : Prop × AV} {x vhi vmx : Value} {vlo : Option Value} (hh : HRel G F h w) (hq : slice3V P h t u lo ahi amx = some q) (hs : q.1) (hx : RepV G (lens h) F w u x)
    (hlo : ∀ u, lo = some u → ∃ y, vlo = some y ∧ RepV G (lens h) F w u y) (hlo0 : lo = none → vlo = none) (hhi : RepV G (lens h) F w ahi vhi) (hmx : RepV G (lens h) F w amx vmx) :
    Yv P ro G F h w q.2 (Instr.sliceAt t x vlo (some vhi) (some vmx)) := by
  unfold slice3V at hq
  split at hq
  · rename_i sz n c kd k kd' m'
    rw [hhi.c_inv, hmx.c_inv]
    split at hq
    · rename_i e sz' by_ l hsl hl
      injection hq with hq; subst hq
      obtain ⟨e0, e1, e2, e3, e4⟩ := hs
      obtain ⟨A, cap, rfl, h1, h2, h3, h4⟩ := fsD_inv (fs_inv hx)
      obtain ⟨ti, g1, g2, g3, g4⟩ := slT_inv hsl
      simp only at g1 g2 g3 g4
      have hb := fun w' => run_bounds3 (P := P) n cap vlo l k m' kd kd' (lo_inv hl hlo hlo0) e1 e2 e3 (by omega) w'
      refine ⟨.slice (if m'.toNat = l.toNat then A else A.map (·.add (l.toNat * sz))) (k.toNat - l.toNat) (m'.toNat - l.toNat), fun w' _ => by simp [Instr.sliceAt, Instr.slice, run_underlying g1, hb w', sizeOf, typeInfo, g2, g3, e0], .d _ _ ?_⟩
      rcases Nat.eq_zero_or_pos (k.toNat - l.toNat) with hz | hz
      · have : (c.drop (l.toNat * sz)).take ((k.toNat - l.toNat) * sz) = [] := by rw [hz]; simp
        rw [this, hz]
        exact .fs0 _ _ _ (by omega)
      · obtain ⟨b, o, f, rfl, hF, hc, hr⟩ := h4 (by omega)
        rw [if_neg (by omega)]
        simp only [Option.map_some, addE]
        have hin : l.toNat * sz + (k.toNat - l.toNat) * sz ≤ n * sz := by rw [← Nat.add_mul]; exact Nat.mul_le_mul_right _ (by omega)
        refine .fs _ _ _ _ _ _ (fun j => f (l.toNat * sz + j)) hz (by omega) (by omega) (by simp; omega) hF (fun j hj => ?_) fun j u hu => ?_
        · rw [Nat.add_assoc]; exact hc _ (by simp at hj; omega)
        · rw [List.getElem?_take] at hu
          split at hu
          · rw [drop_at] at hu; exact hr _ u hu
          · cases hu
    · cases hq
  · rename_i g sz off n m kd k kd' m'
    rw [hhi.c_inv, hmx.c_inv]
    split at hq
    · rename_i e sz' by_ l hsl hl
      injection hq with hq; subst hq
      obtain ⟨e0, em, e1, e2, e3, e4, e5⟩ := hs
      obtain ⟨ti, g1, g2, g3, g4⟩ := slT_inv hsl
      simp only at g1 g2 g3 g4
      rcases sl_inv hx em with ⟨hv, rfl, rfl, rfl, rfl⟩ | ⟨hv, cap, rfl, h3, h4, h5⟩
      · have hl0 : l = 0 := by omega
        have hk0 : k = 0 := by omega
        have hm0 : m' = 0 := by omega
        subst hl0 hk0 hm0
        have hb := fun w' => run_bounds3 (P := P) 0 0 vlo 0 0 0 kd kd' (lo_inv hl hlo hlo0) e1 e2 e3 (by omega) w'
        refine ⟨.slice none 0 0, fun w' _ => by simpa [Instr.sliceAt, Instr.slice, run_underlying g1, sizeOf, typeInfo, g2] using by rw [hb w']; simp, ?_⟩
        simpa using RepV.slNil g sz em hv
      · have hb := fun w' => run_bounds3 (P := P) n cap vlo l k m' kd kd' (lo_inv hl hlo hlo0) e1 e2 e3 (by omega) w'
        refine ⟨.slice (some ⟨G.σ g, off + l.toNat * sz, none⟩) (k.toNat - l.toNat) (m'.toNat - l.toNat), fun w' _ => ?_, ?_⟩
        · rcases e5 with rfl | e5
          · simp [Instr.sliceAt, Instr.slice, run_underlying g1, hb w', sizeOf, typeInfo, g2, g3, e0, addE]
          · have hne : ¬ m'.toNat = l.toNat := by omega
            simp [Instr.sliceAt, Instr.slice, run_underlying g1, hb w', sizeOf, typeInfo, g2, g3, e0, addE, hne]
        · refine .sl g sz _ _ m _ em hv (by omega) (by omega) ?_
          have : off + l.toNat * sz + (m'.toNat - l.toNat) * sz = off + m'.toNat * sz := by
            rw [Nat.add_assoc, ← Nat.add_mul]
            congr 2
            omega
          have : m'.toNat * sz ≤ cap * sz := Nat.mul_le_mul_right _ (by omega)
          omega
    · cases hq
  · cases hq
theorem rho_none {s : AS} {a : Act} {x : Option Operand} {ln : List Nat} (hev : ∀ x, RepV G ln F w (s.ev x) (a.eval x)) : (∀ u, x.map s.ev = some u → ∃ y, x.map a.eval = some y ∧ RepV G ln F w u y) ∧ (x.map s.ev = none → x.map a.eval = none) := by
  cases x with
  | none => exact ⟨fun u hu => (by cases hu), fun _ => rfl⟩
  | some x => exact ⟨fun u hu => by injection hu with hu; subst hu; exact ⟨_, rfl, hev x⟩, fun h => by cases h⟩
theorem rho_ung {s : AS} {a : Act} {x : Option Operand} {ln : List Nat} (hev : ∀ x, RepV G ln F w (s.ev x) (a.eval x)) (hg : gcO s x) : (∀ u, (x.map fun o => (s.ev o).ung) = some u → ∃ y, x.map a.eval = some y ∧ RepV G ln F w u y) ∧ ((x.map fun o => (s.ev o).ung) = none → x.map a.eval = none) := by
  cases x with
  | none => exact ⟨fun u hu => (by cases hu), fun _ => rfl⟩
  | some x => exact ⟨fun u hu => by injection hu with hu; subst hu; exact ⟨_, rfl, (hev x).ung hg⟩, fun h => by cases h⟩
theorem part_sound {t off sz : Nat} {ag : Bool} {l : List AV} {cs : Array Value} {ln : List Nat} {i : TypeInfo} {d : TypeDesc} (h1 : P.info? t = some i) (h2 : P.underlying t = some d) (h3 : i.size = sz) (h4 : aggD d = ag) (h0 : sz ≠ 0) (hl : off + sz ≤ l.length)
    (hsz : l.length = cs.size) (hr : ∀ (j : Nat) (u : AV) (x : Value), l[j]? = some u → cs[j]? = some x → RepV G ln F w u x) :
    ∃ x, (∀ w', (part t cs off).run P w' = .ok x w') ∧ RepV G ln F w (fldCut off sz ag l) x := by
  cases ag with
  | true =>
    have hag : (w'' : World) → (isAgg t).run P w'' = .ok true w'' := fun w'' => by
      unfold isAgg
      rw [Sem.run_bind, run_underlying h2 w'']
      cases d <;> simp_all [aggD]
    refine ⟨.agg (cs.extract off (off + sz)), fun w' => by simp [part, Sem.run_bind, hag, sizeOf, typeInfo, h1, h3], ?_⟩
    simp only [fldCut, if_true]
    refine .agg _ _ (by simp; omega) fun j u x hu hx => ?_
    rw [List.getElem?_take] at hu
    split at hu
    · rename_i hj
      rw [drop_at] at hu
      rw [Array.getElem?_extract] at hx
      rw [if_pos (by omega)] at hx
      exact hr _ u x hu hx
    · cases hu
  | false =>
    have hag : (w'' : World) → (isAgg t).run P w'' = .ok false w'' := fun w'' => by
      unfold isAgg
      rw [Sem.run_bind, run_underlying h2 w'']
      cases d <;> simp_all [aggD]
    have hlt : off < cs.size := by omega
    have hlt' : off < l.length := by omega
    refine ⟨cs[off], fun w' => by simp [part, Sem.run_bind, hag, Array.getElem?_eq_getElem hlt], ?_⟩
    simp only [fldCut, Bool.false_eq_true, if_false]
    rw [List.getElem?_eq_getElem hlt', Option.getD_some]
    exact hr off _ _ (List.getElem?_eq_getElem hlt') (Array.getElem?_eq_getElem hlt)
theorem agg_inv {l : List AV} {x : Value} {ln : List Nat} (hr : RepV G ln F w (.agg l) x) : ∃ cs : Array Value, x = .agg cs ∧ l.length = cs.size ∧ ∀ (j : Nat) (u : AV) (x : Value), l[j]? = some u → cs[j]? = some x → RepV G ln F w u x := by
  cases hr with
  | d _ _ h => cases h
  | agg _ cs h1 h2 => exact ⟨cs, rfl, h1, h2⟩
theorem eqF_app : ∀ {ks ks' : List Leaf} {l l' : List AV} {b : Bool}, eqF (ks ++ ks') l l' = some b → ks.length ≤ l.length ∧ ks.length ≤ l'.length ∧ ∃ b1 b2, eqF ks (l.take ks.length) (l'.take ks.length) = some b1 ∧ eqF ks' (l.drop ks.length) (l'.drop ks.length) = some b2 ∧ b = (b1 && b2) := by
  intro ks
  induction ks with
  | nil => intro ks' l l' b h; exact ⟨Nat.zero_le _, Nat.zero_le _, true, b, by simp [eqF], by simpa using h, by simp⟩
  | cons k ks ih =>
    intro ks' l l' b h
    match k, l, l', h with
    | .i, .c (.int q x) :: l, .c (.int q' y) :: l', h =>
      simp only [List.cons_append, eqF] at h
      split at h
      · rename_i hq
        rw [Option.map_eq_some_iff] at h
        obtain ⟨b', h5, rfl⟩ := h
        obtain ⟨g1, g2, b1, b2, g3, g4, rfl⟩ := ih h5
        exact ⟨by simpa using g1, by simpa using g2, decide (x = y) && b1, b2, by simp [eqF, hq, g3], by simpa using g4, by rw [Bool.and_assoc]⟩
      · cases h
    | .b, .c (.bool x) :: l, .c (.bool y) :: l', h =>
      simp only [List.cons_append, eqF] at h
      rw [Option.map_eq_some_iff] at h
      obtain ⟨b', h5, rfl⟩ := h
      obtain ⟨g1, g2, b1, b2, g3, g4, rfl⟩ := ih h5
      exact ⟨by simpa using g1, by simpa using g2, decide (x = y) && b1, b2, by simp [eqF, g3], by simpa using g4, by rw [Bool.and_assoc]⟩
    | .s, .c (.string x) :: l, .c (.string y) :: l', h =>
      simp only [List.cons_append, eqF] at h
      rw [Option.map_eq_some_iff] at h
      obtain ⟨b', h5, rfl⟩ := h
      obtain ⟨g1, g2, b1, b2, g3, g4, rfl⟩ := ih h5
      exact ⟨by simpa using g1, by simpa using g2, decide (x = y) && b1, b2, by simp [eqF, g3], by simpa using g4, by rw [Bool.and_assoc]⟩
def shapeA (ag : Bool) (u : AV) : Prop := if ag then ∃ l, u = .agg l else ∃ c, u = .c c
theorem eqFs_sound {ln : List Nat} {rec : TypeId → Option (List Leaf)} {D : Nat} (IH : ∀ t ks d, rec t = some ks → P.underlying t = some d → ∀ (u v : AV) (x y : Value) (b : Bool), shapeA (aggD d) u → shapeA (aggD d) v → RepV G ln F w u x → RepV G ln F w v y → eqF ks u.cells v.cells = some b → ∀ w', (Op.equalIn D t x y).run P w' = .ok b w')
    (IH2 : ∀ t ks d, rec t = some ks → P.underlying t = some d → aggD d = false → ks.length = 1) (IH3 : ∀ t ks, rec t = some ks → ∃ d, P.underlying t = some d)
    {l l' : List AV} {xs ys : Array Value} (h1 : l.length = xs.size) (h2 : l'.length = ys.size) (h3 : ∀ (j : Nat) (u : AV) (x : Value), l[j]? = some u → xs[j]? = some x → RepV G ln F w u x) (h4 : ∀ (j : Nat) (u : AV) (x : Value), l'[j]? = some u → ys[j]? = some x → RepV G ln F w u x) :
    ∀ (fs : List Field) (off : Nat) (ks : List Leaf) (b : Bool), flatFs P rec fs off = some ks → eqF ks (l.drop off) (l'.drop off) = some b → ∀ w', (Op.eqFields D xs ys fs).run P w' = .ok b w' := by
  intro fs
  induction fs with
  | nil =>
    intro off ks b hf he w'
    simp only [flatFs] at hf
    injection hf with hf; subst hf
    simp only [eqF] at he
    injection he with he; subst he
    simp [Op.eqFields]
  | cons f fs ih =>
    intro off ks b hf he w'
    simp only [flatFs] at hf
    split at hf
    · rename_i lf i hl hi
      split at hf
      · rename_i hc
        obtain ⟨c1, c2, c3, c4⟩ := hc
        rw [Option.map_eq_some_iff] at hf
        obtain ⟨ks', hf, rfl⟩ := hf
        obtain ⟨g1, g2, b1, b2, e1, e2, rfl⟩ := eqF_app he
        simp only [List.length_drop] at g1 g2
        obtain ⟨d, hd⟩ := IH3 f.type lf hl
        have hoff : off + lf.length ≤ l.length := by omega
        have hoff' : off + lf.length ≤ l'.length := by omega
        obtain ⟨x, p1, p2⟩ := part_sound (P := P) (F := F) (w := w) (G := G) (ln := ln) hi hd c3 rfl (by omega) hoff h1 h3
        obtain ⟨y, q1, q2⟩ := part_sound (P := P) (F := F) (w := w) (G := G) (ln := ln) hi hd c3 rfl (by omega) hoff' h2 h4
        have hxy : ∀ w', (Op.equalIn D f.type x y).run P w' = .ok b1 w' := by
          cases ha : aggD d with
          | true =>
            rw [ha] at p2 q2
            exact IH f.type lf d hl hd _ _ x y b1 (by rw [ha]; exact ⟨_, rfl⟩) (by rw [ha]; exact ⟨_, rfl⟩) p2 q2 e1
          | false =>
            rw [ha] at p2 q2
            have hlf := IH2 f.type lf d hl hd ha
            have hat : ∀ (m : List AV), off + lf.length ≤ m.length → (m.drop off).take lf.length = [fldCut off lf.length false m] := by
              intro m hm
              have : off < m.length := by omega
              simp only [fldCut, Bool.false_eq_true, if_false]
              rw [List.getElem?_eq_getElem this, List.drop_eq_getElem_cons this, hlf]
              rfl
            rw [hat l hoff, hat l' hoff'] at e1
            have hcc : ∃ c c', fldCut off lf.length false l = .c c ∧ fldCut off lf.length false l' = .c c' := by
              generalize fldCut off lf.length false l = q at e1 ⊢
              generalize fldCut off lf.length false l' = q' at e1 ⊢
              cases lf with
              | nil => simp at hlf
              | cons a t =>
                cases q with
                | c c => cases q' with
                  | c c' => exact ⟨_, _, rfl, rfl⟩
                  | _ => cases a <;> cases c <;> simp [eqF] at e1
                | _ => cases a <;> simp [eqF] at e1
            obtain ⟨c, c', h5, h6⟩ := hcc
            exact IH f.type lf d hl hd _ _ x y b1 (by rw [ha]; exact ⟨c, h5⟩) (by rw [ha]; exact ⟨c', h6⟩) p2 q2 (by rw [h5, h6]; rw [h5, h6] at e1; exact e1)
        have hrest := ih (off + lf.length) ks' b2 hf (by rw [← List.drop_drop, ← List.drop_drop]; exact e2)
        simp only [Op.eqFields]
        rw [if_pos c1, c2, Sem.run_bind, p1, Result.andThen_ok, Sem.run_bind, q1, Result.andThen_ok, Sem.run_bind, hxy, Result.andThen_ok]
        cases b1
        · simp
        · simpa using hrest w'
      · cases hf
    · cases hf
theorem flatIn_one : ∀ (n : Nat) (t : TypeId) (ks : List Leaf) (d : TypeDesc), flatIn P n t = some ks → P.underlying t = some d → aggD d = false → ks.length = 1 := by
  intro n t ks d h1 h2 h3
  cases n with
  | zero => cases h1
  | succ n =>
    simp only [flatIn, h2] at h1
    cases d <;> simp [aggD] at h1 h3 <;> subst h1 <;> rfl
theorem flatIn_some : ∀ (n : Nat) (t : TypeId) (ks : List Leaf), flatIn P n t = some ks → ∃ d, P.underlying t = some d := by
  intro n t ks h
  cases n with
  | zero => cases h
  | succ n =>
    simp only [flatIn] at h
    cases hu : P.underlying t with
    | some d => exact ⟨d, rfl⟩
    | none => rw [hu] at h; cases h
theorem flatIn_sound {ln : List Nat} (D0 : Nat) : ∀ (n : Nat) (t : TypeId) (ks : List Leaf) (d : TypeDesc), flatIn P n t = some ks → P.underlying t = some d → ∀ (u v : AV) (x y : Value) (b : Bool), shapeA (aggD d) u → shapeA (aggD d) v → RepV G ln F w u x → RepV G ln F w v y → eqF ks u.cells v.cells = some b → ∀ w', (Op.equalIn (n + D0) t x y).run P w' = .ok b w' := by
  intro n
  induction n with
  | zero => intro t ks d h; cases h
  | succ n ih =>
    intro t ks d h1 h2 u v x y b hu hv hx hy he w'
    have en : n + 1 + D0 = n + D0 + 1 := by omega
    rw [en]
    simp only [flatIn, h2] at h1
    split at h1
    · rename_i hd
      injection hd with hd; subst hd
      injection h1 with h1; subst h1
      obtain ⟨c, rfl⟩ := hu
      obtain ⟨c', rfl⟩ := hv
      rw [hx.c_inv, hy.c_inv]
      cases c <;> cases c' <;> simp [eqF, AV.cells] at he
      subst he
      rw [run_equalIn_bool _ _ _ _ _ h2]
      rename_i p q
      cases p <;> cases q <;> rfl
    · rename_i hd
      injection hd with hd; subst hd
      injection h1 with h1; subst h1
      obtain ⟨c, rfl⟩ := hu
      obtain ⟨c', rfl⟩ := hv
      rw [hx.c_inv, hy.c_inv]
      cases c <;> cases c' <;> simp [eqF, AV.cells] at he
      obtain ⟨rfl, he⟩ := he
      subst he
      rw [run_equalIn_int _ _ _ _ _ _ _ h2]
      congr 1
    · rename_i hd
      injection hd with hd; subst hd
      injection h1 with h1; subst h1
      obtain ⟨c, rfl⟩ := hu
      obtain ⟨c', rfl⟩ := hv
      rw [hx.c_inv, hy.c_inv]
      cases c <;> cases c' <;> simp [eqF, AV.cells] at he
      subst he
      rw [run_equalIn_string _ _ _ _ _ h2, toList_eq_iff]
    · rename_i fs hd
      injection hd with hd; subst hd
      split at h1
      · rename_i hst
        obtain ⟨l, rfl⟩ := hu
        obtain ⟨l', rfl⟩ := hv
        obtain ⟨xs, rfl, a1, a2⟩ := agg_inv hx
        obtain ⟨ys, rfl, a3, a4⟩ := agg_inv hy
        have hfo : P.fieldsOf t = fs := by simp [Program.fieldsOf, h2]
        rw [run_equalIn_struct _ _ _ _ _ (by rw [hfo]; exact h2) hst, hfo]
        exact eqFs_sound (fun t ks d g1 g2 u v x y b => ih t ks d g1 g2 u v x y b) (fun t ks d => flatIn_one n t ks d) (fun t ks => flatIn_some n t ks) a1 a3 a2 a4 fs.toList 0 ks b h1 (by simpa [AV.cells] using he) w'
      · cases h1
    · cases h1
theorem binV2_sound {ln : List Nat} {op : BinOp} {t : TypeId} {u v : AV} {q : Prop × AV} (hq : binV2 P ln op t u v = some q) (hside : q.1) {x y : Value} (hx : RepV G ln F w u x) (hy : RepV G ln F w v y) (ox oy : Operand) :
    ∃ z, (∀ w', (do eqGuard op t ox oy x y; binOp op t x y).run P w' = .ok z w') ∧ RepV G ln F w q.2 z := by
  unfold binV2 at hq
  split at hq
  · rename_i l l'
    rw [Option.bind_eq_some_iff] at hq
    obtain ⟨ks, hks, hq⟩ := hq
    rw [Option.bind_eq_some_iff] at hq
    obtain ⟨b, hb, hq⟩ := hq
    unfold flatT at hks
    split at hks
    · rename_i fs hfs
      split at hks
      · rename_i hg
        have heq := flatIn_sound (P := P) 9980 20 t ks _ hks hfs _ _ x y b ⟨l, rfl⟩ ⟨l', rfl⟩ hx hy hb
        obtain ⟨xs, rfl, _⟩ := agg_inv hx
        obtain ⟨ys, rfl, _⟩ := agg_inv hy
        unfold eqOp at hq
        split at hq
        · injection hq with hq; subst hq
          refine ⟨.bool b, fun w' => ?_, .cc _⟩
          rw [Sem.run_bind, run_eqGuard_agg _ _ _ _ _ _ _ hg, Result.andThen_ok, run_eql_struct, heq w']
          rfl
        · injection hq with hq; subst hq
          refine ⟨.bool (!b), fun w' => ?_, .cc _⟩
          rw [Sem.run_bind, run_eqGuard_agg _ _ _ _ _ _ _ hg, Result.andThen_ok, run_neq_struct, heq w']
          rfl
        · cases hq
      · cases hks
    · cases hks
  · exact binV_sound hq hside hx hy ox oy
theorem tup_inv {l : List AV} {x : Value} {ln : List Nat} (hr : RepV G ln F w (.tup l) x) : ∃ cs : Array Value, x = .tuple cs ∧ l.length = cs.size ∧ ∀ (j : Nat) (u : AV) (x : Value), l[j]? = some u → cs[j]? = some x → RepV G ln F w u x := by
  cases hr with
  | d _ _ h => cases h
  | tup _ cs h1 h2 => exact ⟨cs, rfl, h1, h2⟩
theorem runv {s : Sem Value} {x : Value} {w' : World} (hs : s.run P w' = .ok x w') : (do pure (Next.value (← s)) : Sem Next).run P w' = .ok (.value x) w' := by
  simp [Sem.run_bind, hs]
theorem isCell_one {u : AV} {x : Value} {ln : List Nat} (hc : isCell u = true) (hr : RepV G ln F w u x) : x.oneCell' = true := by
  cases u with
  | c v => rw [hr.c_inv]; exact hc
  | any => cases hc
  | mref k => cases hc
  | slc k sz off n m => cases hc
  | agg l => cases hc
  | tup l => cases hc
  | g b w v => cases hc
  | ptr k off m => cases hr with
    | d _ _ h => cases h
    | ptr _ _ _ _ _ => rfl
    | ptrOld _ _ _ _ _ _ _ => rfl
  | sl k sz off n m => cases hr with
    | d _ _ h => cases h
    | sl _ _ _ _ _ _ _ _ _ _ _ => rfl
    | slNil _ _ _ _ => rfl
    | slOld _ _ _ _ _ _ _ _ _ _ _ => rfl
  | fs sz n l => obtain ⟨A, c, rfl, _⟩ := fsD_inv (fs_inv hr); rfl
  | fp l => obtain ⟨b, o, f, rfl, _⟩ := fp_inv hr; rfl
  | clo f l k => cases hr with
    | d _ _ h => cases h
    | clo _ _ _ _ _ _ _ _ _ => rfl
theorem oneCell_cells {x : Value} (h : x.oneCell' = true) : x.cells = #[x] := by
  cases x <;> first | rfl | cases h
theorem okV_cells {u : AV} {x : Value} {ln : List Nat} (hc : okV u = true) (hr : RepV G ln F w u x) : u.cells.length = x.cells.size ∧ ∀ (j : Nat) (v : AV) (y : Value), u.cells[j]? = some v → x.cells[j]? = some y → RepV G ln F w v y := by
  by_cases hu : ∃ l, u = .agg l
  · obtain ⟨l, rfl⟩ := hu
    obtain ⟨cs, rfl, h1, h2⟩ := agg_inv hr
    exact ⟨h1, h2⟩
  · have h1 : isCell u = true := by cases u <;> first | exact hc | exact absurd ⟨_, rfl⟩ hu
    have h2 : u.cells = [u] := by cases u <;> first | rfl | exact absurd ⟨_, rfl⟩ hu
    rw [h2, oneCell_cells (isCell_one h1 hr)]
    refine ⟨rfl, fun j v y hv hy => ?_⟩
    cases j with
    | zero => simp at hv hy; subst hv hy; exact hr
    | succ j => simp at hv
theorem foldl_set (vs : List Value) : ∀ (k off : Nat) (cells : Array Value), off + k + vs.length ≤ cells.size →
    ((vs.zipIdx k).foldl (fun cs (c, j) => cs.setIfInBounds (off + j) c) cells).size = cells.size ∧
    ∀ j, ((vs.zipIdx k).foldl (fun cs (c, j) => cs.setIfInBounds (off + j) c) cells)[j]? = if off + k ≤ j ∧ j < off + k + vs.length then vs[j - (off + k)]? else cells[j]? := by
  induction vs with
  | nil => intro k off cells _; exact ⟨rfl, fun j => by simp; omega⟩
  | cons v vs ih =>
    intro k off cells hle
    simp only [List.length_cons] at hle
    obtain ⟨h1, h2⟩ := ih (k + 1) off (cells.setIfInBounds (off + k) v) (by simp; omega)
    simp only [List.zipIdx_cons, List.foldl_cons]
    refine ⟨by rw [h1]; simp, fun j => ?_⟩
    rw [h2 j, List.length_cons]
    by_cases e1 : off + (k + 1) ≤ j ∧ j < off + (k + 1) + vs.length
    · rw [if_pos e1, if_pos (by omega)]
      have : j - (off + k) = (j - (off + (k + 1))) + 1 := by omega
      rw [this, List.getElem?_cons_succ]
    · rw [if_neg e1, Array.getElem?_setIfInBounds]
      by_cases e2 : off + k = j
      · subst e2
        rw [if_pos rfl, if_pos (by omega), if_pos (by omega)]
        simp
      · rw [if_neg e2, if_neg (by omega)]
theorem fill_sound {ln : List Nat} (pl : Nat → Option (Nat × Nat)) (ev : Operand → Value) {s : AS} (hev : ∀ x, RepV G ln F w (s.ev x) (ev x)) : ∀ (parts : List (Nat × Operand)) (l : List (Nat × Nat × AV)) (Z Z' : List AV) (cells : Array Value),
    partsV s pl parts = some l → gcsV s parts → fillV Z l = some Z' → Z.length = cells.size → (∀ (j : Nat) (v : AV) (y : Value), Z[j]? = some v → cells[j]? = some y → RepV G ln F w v y) →
    ∃ cells', Instr.fill pl cells (parts.map fun p => (p.1, ev p.2)) = some cells' ∧ Z'.length = cells'.size ∧ ∀ (j : Nat) (v : AV) (y : Value), Z'[j]? = some v → cells'[j]? = some y → RepV G ln F w v y := by
  intro parts
  induction parts with
  | nil =>
    intro l Z Z' cells h1 _ h2 h3 h4
    simp only [partsV] at h1
    injection h1 with h1; subst h1
    simp only [fillV] at h2
    injection h2 with h2; subst h2
    exact ⟨cells, rfl, h3, h4⟩
  | cons p r ih =>
    obtain ⟨i, x⟩ := p
    intro l Z Z' cells h1 hg h2 h3 h4
    simp only [partsV] at h1
    split at h1
    · rename_i off sz l' e1 e2 e3
      injection h1 with h1; subst h1
      simp only [fillV] at h2
      split at h2
      · rename_i hc
        obtain ⟨c1, c2⟩ := hc
        obtain ⟨q1, q2⟩ := okV_cells e2 ((hev x).ung hg.1)
        obtain ⟨f1, f2⟩ := foldl_set (ev x).cells.toList 0 off cells (by simp; omega)
        have hsz : (ev x).cells.size = sz := by omega
        have key := ih l' _ Z' ((ev x).cells.zipIdx.foldl (fun cs (c, j) => cs.setIfInBounds (off + j) c) cells) e3 hg.2 h2
        have eA : ((ev x).cells.zipIdx.foldl (fun cs (c, j) => cs.setIfInBounds (off + j) c) cells) = (((ev x).cells.toList.zipIdx 0).foldl (fun cs (c, j) => cs.setIfInBounds (off + j) c) cells) := by
          rw [← Array.foldl_toList, Array.toList_zipIdx]
        rw [eA] at key
        obtain ⟨cells', g1, g2, g3⟩ := key (by rw [f1]; simp; omega) (fun j v y hv hy => by
          rw [f2 j] at hy
          simp only [Nat.add_zero, Array.length_toList] at hy
          by_cases k1 : j < off
          · rw [if_neg (by omega)] at hy
            rw [List.append_assoc, List.getElem?_append_left (by simp; omega), List.getElem?_take, if_pos k1] at hv
            exact h4 j v y hv hy
          · by_cases k2 : j < off + sz
            · rw [if_pos (by omega)] at hy
              rw [List.append_assoc, List.getElem?_append_right (by simp; omega), List.getElem?_append_left (by simp; omega)] at hv
              have : j - (Z.take off).length = j - off := by simp; omega
              rw [this] at hv
              exact q2 _ v y hv (by simpa using hy)
            · rw [if_neg (by omega)] at hy
              rw [List.getElem?_append_right (by simp; omega), List.getElem?_drop] at hv
              have : off + sz + (j - (Z.take off ++ (s.ev x).ung.cells).length) = j := by simp; omega
              rw [this] at hv
              exact h4 j v y hv hy)
        refine ⟨cells', ?_, g2, g3⟩
        simp only [List.map_cons, Instr.fill, e1]
        rw [if_neg (by simp [hsz]; omega), eA]
        exact g1
      · cases h2
    · cases h1
theorem zero_crel {z : Array Value} {ln : List Nat} (j : Nat) (v : AV) (y : Value) (hv : (z.toList.map AV.c)[j]? = some v) (hy : z[j]? = some y) : RepV G ln F w v y := by
  rw [List.getElem?_map, Option.map_eq_some_iff] at hv
  obtain ⟨u, hu, rfl⟩ := hv
  rw [Array.getElem?_toList] at hu
  rw [hu] at hy; injection hy with hy; subst hy
  exact .cc _
theorem buildV_sound {E : Env} {s : AS} {a : Act} (hr : Rel E G F s a w) {t : TypeId} {parts : Array (Nat × Operand)} {dst : Option Tmp} {ty : TypeId} {pos : String} {aft : Array Edge} {gd : Option (Nat × Bool)} {q : Prop × AV} (hq : buildV P s t parts.toList = some q) (hs : q.1) :
    ∃ x, (∀ w', SameOn ro G F s.h w w' → (execOp a.eval ⟨dst, .build t parts, ty, pos, aft, gd⟩).run P w' = .ok (.value x) w') ∧ RepV G (lens s.h) F w q.2 x := by
  unfold buildV at hq
  split at hq
  · rename_i z pl hz hpl
    rw [Option.bind_eq_some_iff] at hq
    obtain ⟨l, hl, hq⟩ := hq
    rw [Option.map_eq_some_iff] at hq
    obtain ⟨cs, hcs, rfl⟩ := hq
    simp only at hs
    unfold zeroT at hz
    rw [Option.bind_eq_some_iff] at hz
    obtain ⟨it, hit, hz⟩ := hz
    rw [Option.map_eq_some_iff] at hz
    obtain ⟨zv, hzv, rfl⟩ := hz
    obtain ⟨cells', f1, f2, f3⟩ := fill_sound pl a.eval hr.ev parts.toList l _ cs zv.cells hl hs hcs (by simp) zero_crel
    have hb : P.built t ((parts.map fun p => (p.1, a.eval p.2)).toList) = some cells' := by
      unfold plT at hpl
      unfold Program.built
      split at hpl
      · rename_i fs hfs
        rw [Option.map_eq_some_iff] at hpl
        obtain ⟨pls, hp1, rfl⟩ := hpl
        simp only [hit, hfs, hzv, hp1]
        simpa using f1
      · rename_i n e he
        rw [Option.map_eq_some_iff] at hpl
        obtain ⟨ie, hie, rfl⟩ := hpl
        simp only [hit, he, hzv, hie]
        simpa using f1
      · cases hpl
    exact ⟨.agg cells', fun w' _ => runv (run_build w' t _ cells' hb), .agg _ _ f2 f3⟩
  · cases hq
theorem callV_sound {E : Env} {s : AS} {a : Act} (hr : Rel E G F s a w) {c : Call} {dst : Option Tmp} {ty : TypeId} {pos : String} {aft : Array Edge} {gd : Option (Nat × Bool)} {q : Prop × AV} (hq : callV P s c = some q) (hs : q.1) :
    ∃ x, (∀ w', SameOn ro G F s.h w w' → (execOp a.eval ⟨dst, .call c, ty, pos, aft, gd⟩).run P w' = .ok (.value x) w') ∧ RepV G (lens s.h) F w q.2 x := by
  obtain ⟨cal, args, ats⟩ := c
  obtain ⟨args⟩ := args
  obtain ⟨ats⟩ := ats
  have hev := hr.ev
  unfold callV at hq
  simp only at hq
  split at hq
  · rename_i x t
    rw [Option.map_eq_some_iff] at hq
    obtain ⟨p, hp, rfl⟩ := hq
    obtain ⟨z, h1, h2⟩ := lenV_sound (ro := ro) (ty := ty) hp hs.2 ((hev x).ung hs.1)
    exact ⟨z, fun w' hw => by simpa [execOp, resolve, invoke, builtin] using runv (P := P) (h1 w' hw), h2⟩
  · rename_i x t
    rw [Option.map_eq_some_iff] at hq
    obtain ⟨p, hp, rfl⟩ := hq
    obtain ⟨z, h1, h2⟩ := capV_sound (ro := ro) (ty := ty) hp hs.2 ((hev x).ungs hs.1)
    exact ⟨z, fun w' hw => by simpa [execOp, resolve, invoke, builtin] using runv (P := P) (h1 w' hw), h2⟩
  · rename_i x y
    rw [Option.map_eq_some_iff] at hq
    obtain ⟨p, hp, rfl⟩ := hq
    obtain ⟨z, h1, h2⟩ := max2_sound (P := P) (ro := ro) hp ((hev x).ung hs.1) ((hev y).ung hs.2)
    exact ⟨z, fun w' hw => by simpa [execOp, resolve, invoke, builtin] using runv (P := P) (h1 w' hw), h2⟩
  · rename_i x y t l
    rw [Option.map_eq_some_iff] at hq
    obtain ⟨p, hp, rfl⟩ := hq
    obtain ⟨r, h1, h2⟩ := foldMax_sound (P := P) _ ((y :: t :: l).map a.eval) _ _ (a.eval x) hp ((hev x).ung (hs x (by simp))) (by simp) fun j u' v' e1 e2 => by
      rw [List.getElem?_map, Option.map_eq_some_iff] at e1 e2
      obtain ⟨o, ho, rfl⟩ := e1
      obtain ⟨o', ho', rfl⟩ := e2
      rw [ho] at ho'
      injection ho' with ho'; subst ho'
      exact (hev o).ung (hs o (List.mem_cons_of_mem _ (List.mem_of_getElem? ho)))
    refine ⟨r, fun w' hw => ?_, h2⟩
    have h3 : (Builtin.max_ ats.toArray ty ((x :: y :: t :: l).map a.eval).toArray).run P w' = .ok r w' := by
      simp only [Builtin.max_, List.map_cons]
      exact h1 w'
    simpa [execOp, resolve, invoke, builtin] using runv (P := P) h3
  · rename_i x y
    rw [Option.map_eq_some_iff] at hq
    obtain ⟨p, hp, rfl⟩ := hq
    obtain ⟨z, h1, h2⟩ := min2_sound (P := P) (ro := ro) hp ((hev x).ung hs.1) ((hev y).ung hs.2)
    exact ⟨z, fun w' hw => by simpa [execOp, resolve, invoke, builtin] using runv (P := P) (h1 w' hw), h2⟩
  · rename_i x y t l
    rw [Option.map_eq_some_iff] at hq
    obtain ⟨p, hp, rfl⟩ := hq
    obtain ⟨r, h1, h2⟩ := foldMin_sound (P := P) _ ((y :: t :: l).map a.eval) _ _ (a.eval x) hp ((hev x).ung (hs x (by simp))) (by simp) fun j u' v' e1 e2 => by
      rw [List.getElem?_map, Option.map_eq_some_iff] at e1 e2
      obtain ⟨o, ho, rfl⟩ := e1
      obtain ⟨o', ho', rfl⟩ := e2
      rw [ho] at ho'
      injection ho' with ho'; subst ho'
      exact (hev o).ung (hs o (List.mem_cons_of_mem _ (List.mem_of_getElem? ho)))
    refine ⟨r, fun w' hw => ?_, h2⟩
    have h3 : (Builtin.min_ ats.toArray ty ((x :: y :: t :: l).map a.eval).toArray).run P w' = .ok r w' := by
      simp only [Builtin.min_, List.map_cons]
      exact h1 w'
    simpa [execOp, resolve, invoke, builtin] using runv (P := P) h3
  · cases hq
theorem pureV_sound {E : Env} {s : AS} {a : Act} (hr : Rel E G F s a w) (o : Oper) {q : Prop × AV} (hq : pureV P ro s o.op = some q) (hs : q.1) :
    ∃ x, (∀ w', SameOn ro G F s.h w w' → (execOp a.eval o).run P w' = .ok (.value x) w') ∧ RepV G (lens s.h) F w q.2 x := by
  obtain ⟨dst, op, ty, pos, aft, gd⟩ := o
  simp only at hq
  have hev := hr.ev
  unfold pureV at hq
  split at hq
  · injection hq with hq; subst hq
    exact ⟨_, fun w' _ => rfl, hev _⟩
  · injection hq with hq; subst hq
    exact ⟨_, fun w' _ => rfl, hev _⟩
  · rename_i c x y
    split at hq
    · rename_i v b1 b2 e1 e2 e3
      injection hq with hq; subst hq
      obtain ⟨g1, g2, g3⟩ := hs
      have hc := (hev c).ung g1
      rw [e1] at hc
      have hc' := hc.c_inv
      cases v
      · have hy := (hev y).ung (g3 rfl)
        rw [e3] at hy
        exact ⟨_, fun w' _ => by simp [execOp, hc', asBool]; rfl, by rw [hy.c_inv]; exact .cc _⟩
      · have hx := (hev x).ung (g2 rfl)
        rw [e2] at hx
        exact ⟨_, fun w' _ => by simp [execOp, hc', asBool]; rfl, by rw [hx.c_inv]; exact .cc _⟩
    · cases hq
  · rename_i x
    rw [Option.map_eq_some_iff] at hq
    obtain ⟨p, hp, rfl⟩ := hq
    obtain ⟨g1, g2⟩ := hs
    have hx := (hev x).ung g1
    refine ⟨a.eval x, fun w' _ => ?_, by simp only; rw [nilV_same hp]; exact hx⟩
    rcases nilV_sound (q := p) (op := pure .skip) hr.heap hp g2 hx with ⟨b, e⟩ | ⟨f, l, k, e⟩ <;> simp [execOp, e]
  · rename_i op t x y _
    rw [Option.map_eq_some_iff] at hq
    obtain ⟨p, hp, rfl⟩ := hq
    obtain ⟨g1, g2, g3⟩ := hs
    obtain ⟨z, h1, h2⟩ := binV2_sound hp g3 ((hev x).ung g1) ((hev y).ung g2) x y
    exact ⟨z, fun w' _ => runv (h1 w'), h2⟩
  · rename_i op t x
    rw [Option.map_eq_some_iff] at hq
    obtain ⟨p, hp, rfl⟩ := hq
    obtain ⟨z, h1, h2⟩ := unV_sound (ro := ro) hp ((hev x).ung hs)
    exact ⟨z, fun w' hw => runv (h1 w' hw), h2⟩
  · rename_i src dst x
    rw [Option.map_eq_some_iff] at hq
    obtain ⟨p, hp, rfl⟩ := hq
    obtain ⟨z, h1, h2⟩ := convV_sound hr.heap hp hs.2 ((hev x).ung hs.1)
    exact ⟨z, fun w' hw => runv (h1 w' hw), h2⟩
  · rename_i t x lo hi
    rw [Option.map_eq_some_iff] at hq
    obtain ⟨p, hp, rfl⟩ := hq
    obtain ⟨z, h1, h2⟩ := sliceV_sound (ro := ro) hr.heap hp hs.2.2.2 ((hev x).ungs hs.1) (rho_ung (x := lo) hev hs.2.1).1 (rho_ung (x := lo) hev hs.2.1).2 (rho_ung (x := hi) hev hs.2.2.1).1 (rho_ung (x := hi) hev hs.2.2.1).2
    exact ⟨z, fun w' hw => runv (h1 w' hw), h2⟩
  · rename_i t x lo hi mx
    rw [Option.map_eq_some_iff] at hq
    obtain ⟨p, hp, rfl⟩ := hq
    obtain ⟨z, h1, h2⟩ := slice3V_sound (ro := ro) hr.heap hp hs.2 ((hev x).ung hs.1) (rho_none (x := lo) hev).1 (rho_none (x := lo) hev).2 (hev hi) (hev mx)
    exact ⟨z, fun w' hw => runv (h1 w' hw), h2⟩
  · rename_i t x f
    rw [Option.map_eq_some_iff] at hq
    obtain ⟨p, hp, rfl⟩ := hq
    obtain ⟨z, h1, h2⟩ := fldV_sound (ro := ro) hp hs.2 ((hev x).ung hs.1)
    exact ⟨z, fun w' hw => runv (h1 w' hw), h2⟩
  · rename_i t x f
    split at hq
    · rename_i l off sz ag e1 e2
      injection hq with hq; subst hq
      obtain ⟨g1, g2⟩ := hs
      have hx := (hev x).ung g1
      rw [e1] at hx
      obtain ⟨cs, e3, e4, e5⟩ := agg_inv hx
      obtain ⟨fs, y, i, d, h1, h2, h3, h4, h5, h6, h7, h8⟩ := fldT_inv e2
      simp only at h5 h6 h7 h8
      obtain ⟨z, r1, r2⟩ := part_sound (P := P) h3 h4 h6 h8 h7 g2 e4 e5
      exact ⟨z, fun w' _ => runv (by simp [Instr.field, run_underlying h1, h2, e3, asAgg, h5, r1 w']), r2⟩
    · cases hq
  · rename_i t x i
    split at hq
    · rename_i k n e1
      rw [Option.map_eq_some_iff] at hq
      obtain ⟨p, hp, rfl⟩ := hq
      obtain ⟨g1, g2, g3⟩ := hs
      have hi := (hev i).ung g2
      rw [e1] at hi
      obtain ⟨z, h1, h2⟩ := ixV_sound (ro := ro) (k := k) hp g3 ((hev x).ung g1)
      exact ⟨z, fun w' hw => runv (by rw [hi.c_inv]; exact h1 w' hw), h2⟩
    · cases hq
  · rename_i t x i
    split at hq
    · rename_i b k n e1 e2
      split at hq
      · rename_i ht
        injection hq with hq; subst hq
        obtain ⟨g1, g2, g3, g4⟩ := hs
        have hx := (hev x).ung g1
        have hi := (hev i).ung g2
        rw [e1] at hx
        rw [e2] at hi
        have hlt : n.toNat < b.size := by omega
        have hlt' : n.toNat < b.data.toList.length := by simpa using hlt
        refine ⟨_, fun w' _ => runv (by rw [hx.c_inv, hi.c_inv]; simp [Instr.index, asIntOf, run_underlying (isStrT_inv ht), g3, hlt]; rfl), ?_⟩
        rw [List.getElem?_eq_getElem hlt', Option.getD_some]
        exact .cc _
      · cases hq
    · rename_i l k n e1 e2
      rw [Option.bind_eq_some_iff] at hq
      obtain ⟨p, hp, hq⟩ := hq
      injection hq with hq; subst hq
      obtain ⟨g1, g2, g3, g4, g5⟩ := hs
      have hx := (hev x).ung g1
      have hi := (hev i).ung g2
      rw [e1] at hx
      rw [e2] at hi
      obtain ⟨cs, e3, e4, e5⟩ := agg_inv hx
      obtain ⟨e, ie, d, h1, h2, h3, h4, h5, h6⟩ := arX_inv hp
      obtain ⟨z, r1, r2⟩ := part_sound (P := P) h2 h3 h4 h6 h5 g5 e4 e5
      exact ⟨z, fun w' _ => runv (by rw [e3, hi.c_inv]; simp [Instr.index, asIntOf, run_underlying h1, g3, g4, sizeOf, typeInfo, h2, h4, r1 w']), r2⟩
    · cases hq
  · rename_i x i
    split at hq
    · rename_i l e1
      injection hq with hq; subst hq
      obtain ⟨g1, g2⟩ := hs
      have hx := (hev x).ung g1
      rw [e1] at hx
      obtain ⟨cs, e3, e4, e5⟩ := tup_inv hx
      have hlt : i < cs.size := by omega
      exact ⟨cs[i], fun w' _ => runv (by rw [e3]; simp [Instr.extract, hlt]), by simp only; rw [List.getElem?_eq_getElem g2, Option.getD_some]; exact e5 i _ _ (List.getElem?_eq_getElem g2) (Array.getElem?_eq_getElem hlt)⟩
    · cases hq
  · rename_i f l k
    injection hq with hq; subst hq
    refine ⟨_, fun w' _ => runv rfl, .clo f _ _ _ _ (by simp) (by simp) (fun j u x hu hx => ?_) fun j u x hu hx => ?_⟩
    · rw [List.getElem?_map, Option.map_eq_some_iff] at hu
      rw [Array.getElem?_map, Option.map_eq_some_iff] at hx
      obtain ⟨y, hy, rfl⟩ := hu
      obtain ⟨y', hy', rfl⟩ := hx
      rw [Array.getElem?_toList] at hy
      rw [hy] at hy'; injection hy' with hy'; subst hy'
      exact hev y
    · rw [List.getElem?_map, Option.map_eq_some_iff] at hu
      rw [Array.getElem?_map, Option.map_eq_some_iff] at hx
      obtain ⟨y, hy, rfl⟩ := hu
      obtain ⟨y', hy', rfl⟩ := hx
      rw [Array.getElem?_toList] at hy
      rw [hy] at hy'; injection hy' with hy'; subst hy'
      exact hev y
  · rename_i t x
    rw [Option.map_eq_some_iff] at hq
    obtain ⟨p, hp, rfl⟩ := hq
    obtain ⟨z, h1, h2⟩ := loadAV_sound hr.heap hp hs.2 ((hev x).ung hs.1)
    exact ⟨z, fun w' hw => runv (h1 w' hw), h2⟩
  · exact buildV_sound hr hq hs
  · exact callV_sound hr hq hs
  · cases hq
end
end Go.Proofs.Ytmgpiminicgbiaa
