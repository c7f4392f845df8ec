import Derived.Test.YthgoocdldnkogaaGreatDoorG3
import Derived.RangeFuncNested
import Derived.RangeFuncCalls
import Derived.TacticsIn
import Derived.OrdersIn
import Derived.ProofKit
import Derived.OpenShut
import Derived.ShutString
import Derived.ChangeOld
import Derived.Below
import Derived.SliceStrings
namespace Go.Proofs.YthgoocdldnkogaaGreatDoor
set_option linter.unusedVariables false
set_option linter.unusedSimpArgs false
open Go.RowKit

section
variable {P : Program} {E : Env} {l n : Nat}
end

section
variable {P : Program} {E : Env} {s : AS} {a : Act} {G : Gh} {F : Nat → Prop} {w w' : World}
theorem Rel.keepW {S : Nat → Prop} (hr : Rel E G F s a w) (hm : Mod S w w') (h1 : ∀ b, F b → ¬ S b) (h2 : ∀ (k : Nat) (x : AObj), s.h[k]? = some x → G.vir k = false → ¬ S (G.σ k)) (h3 : ∀ D, w.heap[D]? = some (.deferred (some [])) → ¬ S D) (h4 : ∀ b, S b → E.w0.heap.size ≤ b) : Rel E G F s a w' := by
 have hw : ∀ b, F b → w'.heap[b]? = w.heap[b]? := fun b hb => hm.block b (hr.flt b hb) (h1 b hb)
 have hl := Later.refl G (lens s.h)
 refine ⟨hr.len, hr.def0.keep (fun D e1 e2 => ⟨e1, hm.block D (lt_of_heap e2) (h3 D e2)⟩), fun i av v e1 e2 => (hr.slot i av v e1 e2).keep hl (fun _ h => h) hw, ⟨fun k y hk => ?_, hr.heap.inj⟩, hr.mod.mod hm fun i hi hS => absurd (h4 i hS) (by omega), hr.sup, hr.fsup, hr.f0, hr.fc.keep hw, hr.lat⟩
 exact (hr.heap.obj k y hk).keep hl (fun _ h => h) hw ⟨rfl, rfl, rfl⟩ (fun hv => hm.block _ (hr.heap.lt hk hv) (h2 k y hk hv)) fun hv hf => hr.heap.nfz hk hv hf
theorem Rel.grow (hr : Rel E G F s a w) (hm : Mod (fun _ => False) w w') : Rel E G F s a w' := hr.keepW hm (fun _ _ h => h) (fun _ _ _ _ h => h) (fun _ _ h => h) fun _ h => h.elim
def kpB (G : Gh) (h : List AObj) (kp : List Nat) (b : Nat) : Prop := ∃ k x, k ∈ kp ∧ h[k]? = some x ∧ G.vir k = false ∧ b = G.σ k
def setPs (t : List AV) : List Nat → List AV → List AV
 | p :: ps, v :: vs => setPs (t.set p v) ps vs
 | _, _ => t
theorem Rel.setPs : ∀ (ps : List Nat) (l : List AV) (vs : List Value) (t : List AV) (a : Act), Rel E G F ⟨t, s.h⟩ a w → l.length = vs.length → (∀ (j : Nat) (u : AV) (x : Value), l[j]? = some u → vs[j]? = some x → RepV G (lens s.h) F w u x) →
  Rel E G F ⟨setPs t ps l, s.h⟩ { a with tmps := (ps.zip vs).foldl (fun t (p : Nat × Value) => t.setIfInBounds p.1 p.2) a.tmps } w := by
 intro ps
 induction ps with
 | nil => intro l vs t a hr _ _; simpa [Go.Proofs.YthgoocdldnkogaaGreatDoor.setPs] using hr
 | cons p ps ih =>
  intro l vs t a hr hl hv
  cases l with
  | nil => cases vs with
   | nil => simpa [Go.Proofs.YthgoocdldnkogaaGreatDoor.setPs] using hr
   | cons x vs => simp at hl
  | cons u l => cases vs with
   | nil => simp at hl
   | cons x vs =>
    have h1 := hr.put (hv 0 u x rfl rfl) (some p)
    have := ih l vs (t.set p u) (a.put (some p) x) h1 (by simpa using hl) fun j u' x' e1 e2 => hv (j + 1) u' x' (by simpa using e1) (by simpa using e2)
    simpa [Go.Proofs.YthgoocdldnkogaaGreatDoor.setPs, Act.put] using this
end


structure Itm where
 f : Nat → List AV
 dat : List (AV × Value)
instance : CoeFun Itm (fun _ => Nat → List AV) := ⟨Itm.f⟩
instance : Coe (Nat → List AV) Itm := ⟨fun f => ⟨f, []⟩⟩
def keepV (n : Nat) : AV → AV
 | .c v => .c v
 | .ptr k off m => if k < n then .ptr k off m else .any
 | .mref k => if k < n then .mref k else .any
 | .sl k sz off c m => if k < n then .sl k sz off c m else .any
 | .clo (.yield l) [] [] => .clo (.yield l) [] []
 | _ => .any
def hoN (n : Nat) : Nat → Bool := fun k => decide (k < n)
section
variable (P : Program) (l : Nat) (h : List AObj) (N : Nat) (items : Itm)
def hnY (ov : Bool) : Nat := if ov = true then 0 else h.length
end
def EY (G : Gh) (F : Nat → Prop) (h : List AObj) (W : World) : Env := ⟨W, fun _ => False, F, G, lens h, allSt, hoN h.length, fun _ => False⟩
structure YCtx where
 G : Gh
 F : Nat → Prop
 w : World
 J : Nat → World → Prop
 Jx : Nat → World → Prop
def keptY (C : YCtx) (h : List AObj) (W : World) : Prop := ∀ b, C.F b ∨ kpB C.G h (List.range h.length) b → W.heap[b]? = C.w.heap[b]?
def SatY (C : YCtx) (h : List AObj) (j : Nat) (ov : Bool) (s : AS) (a : Act) (W : World) : Prop :=
 if ov = true then ∃ W0, C.Jx j W0 ∧ Sat (EY C.G tabF [] W0) s a W else ∃ W0, C.J j W0 ∧ keptY C h W0 ∧ Sat (EY C.G C.F h W0) s a W
section
variable {P : Program} {l : Nat} {h : List AObj} {N : Nat} {items : Itm} {C : YCtx}
theorem satY_ex {j : Nat} {ov : Bool} {s : AS} {a : Act} {W : World} (hs : SatY C h j ov s a W) : ∃ E : Env, E.ho = hoN (hnY h ov) ∧ E.ln0.length ≤ h.length ∧ Sat E s a W ∧ ∀ s' a' W', Sat E s' a' W' → SatY C h j ov s' a' W' := by
 cases ov with
 | true =>
  obtain ⟨W0, h1, h2⟩ : ∃ W0, C.Jx j W0 ∧ Sat (EY C.G tabF [] W0) s a W := hs
  exact ⟨_, by simp [EY, hnY], by simp [EY, lens], h2, fun s' a' W' h3 => ⟨W0, h1, h3⟩⟩
 | false =>
  obtain ⟨W0, h1, hk, h2⟩ : ∃ W0, C.J j W0 ∧ keptY C h W0 ∧ Sat (EY C.G C.F h W0) s a W := hs
  exact ⟨_, by simp [EY, hnY], by simp [EY, lens], h2, fun s' a' W' h3 => ⟨W0, h1, hk, h3⟩⟩
theorem SatY.drew {j : Nat} {ov : Bool} {s : AS} {a : Act} {W : World} (hs : SatY C h j ov s a W) : SatY C h j ov s a W.drew := by
 obtain ⟨E, _, _, h1, h2⟩ := satY_ex hs
 exact h2 s a _ (Sat.drew h1)
end

section
variable {P : Program} {l : Nat} {h : List AObj} {N : Nat} {items : Itm}
variable {stk : List Fr} {fin : Exit → AS → Nat → Bool → Prop} {s : AS} {j : Nat} {ov : Bool}
end
end Go.Proofs.YthgoocdldnkogaaGreatDoor
namespace Go.Proofs.YthgoocdldnkogaaGreatDoor
set_option linter.unusedVariables false
set_option linter.unusedSimpArgs false
open Go.ChangeShapes Go.WideShapes Go.ChangeAt Go.RowKit

def CB (w : World) (b : Nat) : Prop := ∃ cs ty fr, w.heap[b]? = some (.cells cs ty fr)
theorem CB.fc (w : World) (hT : ∀ p ∈ tabB, TabAt w p) : FC (CB w) w := ⟨fun _ h => h, fun p hp => let ⟨cs, ty, fr, h3, h⟩ := hT p hp; ⟨⟨_, ty, fr, h⟩, cs, ty, fr, h3, h⟩⟩
def RepC (w : World) (l : List AV) (cs : List Value) : Prop := ∀ (j : Nat) (u : AV) (v : Value), l[j]? = some u → cs[j]? = some v → RepD (CB w) w u v
structure Opn (P : Program) (t : TypeId) (α : Type) where
 av : α → List AV
 wf : α → Prop
 len : ∀ x, (av x).length = P.cellsOf t
 opn : ∀ {H : Type} (enc : TypeId × Value → H) (w : World) (fuel : Nat) (cs : List Value) (y : DataW H × List MemPlace), DataW.trod enc P w 0 (fun _ => true) true fuel t cs = some y → ∃ x, wf x ∧ cs.length = P.cellsOf t ∧ RepC w (av x) cs
section
variable {P : Program} {t e : TypeId} {α β : Type}
theorem repC_one {w : World} {u : AV} {v : Value} (h : RepD (CB w) w u v) : RepC w [u] [v] := fun j u' v' h1 h2 => by
 cases j with
 | zero => simp at h1 h2; subst h1 h2; exact h
 | succ j => simp at h1
def opnInt (k : IntKind) (ht : P.underlying t = some (.int k)) (hc : P.cellsOf t = 1) : Opn P t Int where
 av n := [.c (.int k n)]
 wf n := (Lit.int k n).wf = true
 len _ := hc.symm
 opn enc w fuel cs y h := by
  obtain ⟨n, rfl, _, hw⟩ := DataW.trod_int ht h
  exact ⟨n, hw, hc.symm, repC_one (.c _)⟩
def opnBool (ht : P.underlying t = some .bool) (hc : P.cellsOf t = 1) : Opn P t Bool where
 av n := [.c (.bool n)]
 wf _ := True
 len _ := hc.symm
 opn enc w fuel cs y h := by
  obtain ⟨n, rfl, _⟩ := DataW.trod_bool ht h
  exact ⟨n, trivial, hc.symm, repC_one (.c _)⟩
def opnString (ht : P.underlying t = some .string) (hc : P.cellsOf t = 1) : Opn P t ByteArray where
 av s := [.c (.string s)]
 wf s := s.size ≤ maxLen
 len _ := hc.symm
 opn enc w fuel cs y h := by
  obtain ⟨n, rfl, _, hw⟩ := DataW.trod_string ht h
  exact ⟨n, hw, hc.symm, repC_one (.c _)⟩
theorem list_of {p : Nat → α → Prop} (n : Nat) (h : ∀ i, i < n → ∃ x, p i x) : ∃ l : List α, l.length = n ∧ ∀ i x, l[i]? = some x → p i x := by
 induction n with
 | zero => exact ⟨[], rfl, fun i x h => by simp at h⟩
 | succ n ih =>
  obtain ⟨l, h1, h2⟩ := ih fun i hi => h i (by omega)
  obtain ⟨x, hx⟩ := h n (by omega)
  refine ⟨l ++ [x], by simp [h1], fun i y hy => ?_⟩
  rw [List.getElem?_append] at hy
  split at hy
  ·exact h2 i y hy
  ·rename_i hi
   have : i = n := by
    have := (List.getElem?_eq_some_iff.1 hy).1
    simp at this; omega
   subst this
   simp [h1] at hy
   subst hy
   exact hx
theorem flatMap_get {f : α → List β} {k : Nat} (hf : ∀ x, (f x).length = k) : ∀ (l : List α) (j : Nat) (u : β), (l.flatMap f)[j]? = some u → ∃ x, l[j / k]? = some x ∧ (f x)[j % k]? = some u := by
 intro l
 induction l with
 | nil => intro j u h; simp at h
 | cons x l ih =>
  intro j u h
  rw [List.flatMap_cons, List.getElem?_append] at h
  split at h
  ·rename_i hlt
   rw [hf] at hlt
   exact ⟨x, by rw [Nat.div_eq_of_lt hlt]; rfl, by rw [Nat.mod_eq_of_lt hlt]; exact h⟩
  ·rename_i hlt
   rw [hf] at hlt h
   have hk : 0 < k := by
    rcases Nat.eq_zero_or_pos k with rfl | h0
    ·obtain ⟨y, _, hy⟩ := ih _ u h
     have := (List.getElem?_eq_some_iff.1 hy).1
     rw [hf] at this; omega
    ·exact h0
   obtain ⟨y, h1, h2⟩ := ih _ u h
   refine ⟨y, ?_, ?_⟩
   ·rw [Nat.div_eq_sub_div hk (by omega), List.getElem?_cons_succ]; exact h1
   ·rw [Nat.mod_eq_sub_mod (by omega)]; exact h2
theorem add_addR (a : Addr) (h : a.spot = none) (i j : Nat) : (a.add i).add j = ⟨a.block, a.off + (i + j), none⟩ := by
 obtain ⟨b, o, s⟩ := a
 simp only at h
 subst h
 unfold Addr.add
 split <;> split <;> simp_all <;> omega
def opnSlice (o : Opn P e α) (sz : Nat) (ht : P.underlying t = some (.slice e)) (hc : P.cellsOf t = 1) (hsz : P.cellsOf e = sz) (h0 : 0 < sz) : Opn P t (List α) where
 av l := [.fs sz l.length (l.flatMap o.av)]
 wf l := l.length ≤ maxLen ∧ ∀ x ∈ l, o.wf x
 len _ := hc.symm
 opn enc w fuel cs y h := by
  rcases DataW.trod_slice ht h with ⟨rfl, _⟩ | ⟨a, len, cap, elems, rest, n, _, rfl, _, _, hl, hm, hlen, hel, _, _⟩
  ·exact ⟨[], ⟨Nat.zero_le _, by simp⟩, hc.symm, repC_one (by simpa using RepD.fs0 sz none 0 (Nat.zero_le _))⟩
  ·obtain ⟨l, l1, l2⟩ := list_of (p := fun i x => o.wf x ∧ ∃ ci, w.cells? 0 (a.add (i * P.cellsOf e)) (P.cellsOf e) = some ci ∧ ci.length = P.cellsOf e ∧ RepC w (o.av x) ci) len fun i hi => by
    have h1 := hel i hi
    rw [List.getElem?_eq_getElem (by omega), Option.bind_eq_some_iff] at h1
    obtain ⟨ci, h2, h3⟩ := h1
    obtain ⟨x, x1, x2, x3⟩ := o.opn enc w n ci _ h3
    exact ⟨x, x1, ci, h2, x2, x3⟩
   refine ⟨l, ⟨by omega, fun x hx => ?_⟩, hc.symm, repC_one ?_⟩
   ·obtain ⟨i, hi, rfl⟩ := List.mem_iff_getElem.1 hx
    exact (l2 i _ (List.getElem?_eq_getElem hi)).1
   rcases Nat.eq_zero_or_pos len with hz | hz
   ·have : l = [] := List.eq_nil_of_length_eq_zero (by omega)
    subst this
    rw [hz]
    simpa using RepD.fs0 sz (some a) cap hm
   ·have hcell : ∀ i, i < len → ∀ r, r < sz → ∃ v, w.cell? ((a.add (i * sz)).add r) = some v ∧ ∀ x u, l[i]? = some x → (o.av x)[r]? = some u → RepD (CB w) w u v := fun i hi r hr => by
     obtain ⟨_, ci, c1, c2, c3⟩ := l2 i l[i] (List.getElem?_eq_getElem (by omega))
     rw [hsz] at c1 c2
     have hv : r < ci.length := by omega
     refine ⟨ci[r], ?_, fun x u hx hu => ?_⟩
     ·rw [(World.cells?_some c1).2.2 r hr, List.getElem?_eq_getElem hv]
     ·rw [List.getElem?_eq_getElem (by omega)] at hx
      injection hx with hx; subst hx
      exact c3 r u _ hu (List.getElem?_eq_getElem hv)
    obtain ⟨v0, hv0, _⟩ := hcell 0 hz 0 h0
    have hv0 : w.cell? a = some v0 := by simpa [Addr.add] using hv0
    have hspot : a.spot = none := by
     unfold World.cell? at hv0
     split at hv0
     ·split at hv0
      ·cases hv0
      ·rename_i h; simpa using h
     ·cases hv0
    have hCB : CB w a.block := by
     unfold World.cell? at hv0
     split at hv0
     ·rename_i c ty fr hb; exact ⟨c, ty, fr, hb⟩
     ·cases hv0
    have hlen2 : (l.flatMap o.av).length = len * sz := by
     have : ∀ l : List α, (l.flatMap o.av).length = l.length * sz := by
      intro l
      induction l with
      | nil => simp
      | cons x l ih => rw [List.flatMap_cons, List.length_append, o.len, hsz, ih, List.length_cons, Nat.succ_mul]; omega
     rw [this, l1]
    have hdm : ∀ j, j < len * sz → j / sz < len ∧ j % sz < sz ∧ j / sz * sz + j % sz = j := fun j hj => by
     refine ⟨?_, Nat.mod_lt _ h0, by rw [Nat.mul_comm]; exact Nat.div_add_mod j sz⟩
     exact Nat.div_lt_of_lt_mul (by rw [Nat.mul_comm]; exact hj)
    have ha : a = ⟨a.block, a.off, none⟩ := by rw [← hspot]
    rw [ha, l1]
    have hall : ∀ j, ∃ v, j < len * sz → w.cell? ⟨a.block, a.off + j, none⟩ = some v ∧ ∀ u, (l.flatMap o.av)[j]? = some u → RepD (CB w) w u v := fun j => by
     by_cases hj : j < len * sz
     ·obtain ⟨d1, d2, d3⟩ := hdm j hj
      obtain ⟨v, h1, h2⟩ := hcell (j / sz) d1 (j % sz) d2
      rw [add_addR a hspot, d3] at h1
      refine ⟨v, fun _ => ⟨h1, fun u hu => ?_⟩⟩
      obtain ⟨x, hx1, hx2⟩ := flatMap_get (k := sz) (fun x => (o.len x).trans hsz) l j u hu
      exact h2 x u hx1 hx2
     ·exact ⟨undef, fun h => absurd h hj⟩
    obtain ⟨f, hf⟩ := Classical.axiomOfChoice hall
    refine .fs sz len a.block a.off cap _ f hz hl hm hlen2 hCB (fun j hj => (hf j (by rw [← hlen2]; exact hj)).1) fun j u hu => ?_
    have hj : j < len * sz := by have := (List.getElem?_eq_some_iff.1 hu).1; omega
    exact (hf j hj).2 u hu
structure OpnF (P : Program) (fs : List Field) (off : Nat) (α : Type) where
 av : α → List AV
 wf : α → Prop
 tot : Nat
 len : ∀ x, (av x).length = tot
 opn : ∀ {H : Type} (enc : TypeId × Value → H) (w : World) (fuel : Nat) (cs : List Value), (∀ (i : Nat) (f : Field), fs[i]? = some f → ∃ y, DataW.trod enc P w 0 (fun _ => true) true fuel f.type ((cs.drop f.offset).take (P.cellsOf f.type)) = some y) →
  ∃ x, wf x ∧ RepC w (av x) (cs.drop off)
def opnNil (off : Nat) : OpnF P [] off Unit where
 av _ := []
 wf _ := True
 tot := 0
 len _ := rfl
 opn enc w fuel cs h := ⟨(), trivial, fun j u v h => by simp at h⟩
def opnCons {f : Field} {fs : List Field} {off : Nat} (n : Nat) (o : Opn P f.type α) (hn : P.cellsOf f.type = n) (ho : f.offset = off) (r : OpnF P fs (off + n) β) : OpnF P (f :: fs) off (α × β) where
 av x := o.av x.1 ++ r.av x.2
 wf x := o.wf x.1 ∧ r.wf x.2
 tot := n + r.tot
 len x := by rw [List.length_append, o.len, r.len, hn]
 opn enc w fuel cs h := by
  obtain ⟨y, hy⟩ := h 0 f rfl
  obtain ⟨x1, a1, a2, a3⟩ := o.opn enc w fuel _ y hy
  obtain ⟨x2, b1, b2⟩ := r.opn enc w fuel cs fun i g hg => h (i + 1) g hg
  refine ⟨(x1, x2), ⟨a1, b1⟩, fun j u v hu hv => ?_⟩
  rw [List.getElem?_append] at hu
  rw [o.len, hn] at hu
  rw [List.getElem?_drop] at hv
  split at hu
  ·rename_i hj
   refine a3 j u v hu ?_
   rw [List.getElem?_take, hn, if_pos hj, List.getElem?_drop, ho]
   exact hv
  ·rename_i hj
   refine b2 (j - n) u v hu ?_
   rw [List.getElem?_drop]
   rw [← hv]
   congr 1
   omega
def opnStruct {fs : Array Field} {l : List Field} (ht : P.underlying t = some (.struct fs)) (hl : fs = l.toArray) (r : OpnF P l 0 α) (hc : P.cellsOf t = r.tot) : Opn P t α where
 av := r.av
 wf := r.wf
 len x := (r.len x).trans hc.symm
 opn enc w fuel cs y h := by
  obtain ⟨xs, n, _, _, h1, h2, h3⟩ := DataW.trod_struct ht h
  obtain ⟨x, x1, x2⟩ := r.opn enc w n cs fun i f hf => by
   have hf' : fs[i]? = some f := by rw [hl]; simpa using hf
   rw [h3 i f hf']
   have : i < fs.size := (Array.getElem?_eq_some_iff.1 hf').1
   exact ⟨_, List.getElem?_eq_getElem (by omega)⟩
  exact ⟨x, x1, h1, by simpa using x2⟩
def Opn.map (o : Opn P t α) (f : α → β) (av : β → List AV) (wf : β → Prop) (h1 : ∀ x, av (f x) = o.av x) (h2 : ∀ x, o.wf x → wf (f x)) (h3 : ∀ y, (av y).length = P.cellsOf t) : Opn P t β where
 av := av
 wf := wf
 len := h3
 opn enc w fuel cs y h := by
  obtain ⟨x, x1, x2, x3⟩ := o.opn enc w fuel cs y h
  exact ⟨f x, h2 x x1, x2, by rw [h1]; exact x3⟩
theorem Opn.one {H : Type} {enc : TypeId × Value → H} {w : World} {v : Value} {d : DataW H} {ps : List MemPlace} (o : Opn P t α) (h : DataW.Trod enc P w 0 (fun _ => true) true t v d ps) (hv : v.cells = #[v]) : ∃ x, o.wf x ∧ RepC w (o.av x) [v] := by
 obtain ⟨fuel, hf⟩ := h
 obtain ⟨x, x1, _, x3⟩ := o.opn enc w fuel _ _ hf
 exact ⟨x, x1, by rw [hv] at x3; exact x3⟩
theorem Opn.many {H : Type} {enc : TypeId × Value → H} {w : World} {cs : Array Value} {d : DataW H} {ps : List MemPlace} (o : Opn P t α) (h : DataW.Trod enc P w 0 (fun _ => true) true t (.agg cs) d ps) : ∃ x, o.wf x ∧ (o.av x).length = cs.size ∧ RepC w (o.av x) cs.toList := by
 obtain ⟨fuel, hf⟩ := h
 obtain ⟨x, x1, x2, x3⟩ := o.opn enc w fuel _ _ hf
 exact ⟨x, x1, by rw [o.len, ← x2]; simp [Value.cells], by simpa [Value.cells] using x3⟩
def G0 : Gh := ⟨fun _ => 0, fun _ => 0, fun _ => false⟩
theorem repA_agg {w : World} {l : List AV} {cs : Array Value} (h0 : l.length = cs.size) (h : RepC w l cs.toList) : RepV G0 [] (CB w) w (.agg l) (.agg cs) := .agg _ _ h0 fun j u v h1 h2 => .d _ _ (h j u v h1 (by simpa using h2))
theorem repL_nil {w : World} : RepL G0 [] (CB w) w [] #[] := ⟨rfl, fun j u v h => by simp at h⟩
theorem repL_cons {w : World} {u : AV} {v : Value} {l : List AV} {vs : List Value} (h : RepV G0 [] (CB w) w u v) (k : RepL G0 [] (CB w) w l vs.toArray) : RepL G0 [] (CB w) w (u :: l) (v :: vs).toArray := by
 refine ⟨by have := k.1; simpa using this, fun j u' v' h1 h2 => ?_⟩
 cases j with
 | zero => simp at h1 h2; subst h1 h2; exact h
 | succ j => exact k.2 j u' v' (by simpa using h1) (by simpa using h2)
theorem law_callsT {f : FuncId} {args : List AV} {st : Nat → Bool} (h : ACalls P f args [] st (fun r _ => r = .c (.bool true))) {w : World} {vs : Array Value} (hr : RepL G0 [] (CB w) w args vs) (hT : ∀ p ∈ tabB, TabAt w p) : Calls P f vs w fun e w' => e = .returned (.bool true) ∧ Below w.heap.size w w' := by
 refine (h G0 (CB w) w vs ⟨fun k x hk => by simp at hk, fun j k x y hj => by simp at hj⟩ (CB.fc w hT) hr).mono fun e w' ⟨x, r, h', G', F', he, hf, hv, _, hp⟩ => ?_
 subst hp
 rw [hv.c_inv] at he
 exact ⟨he, hf.mod.below (Nat.le_refl _) fun k ⟨i, y, hi, _⟩ => by simp at hi⟩
end
end Go.Proofs.YthgoocdldnkogaaGreatDoor
namespace Go.Proofs.YthgoocdldnkogaaGreatDoor
set_option linter.unusedVariables false
set_option linter.unusedSimpArgs false
open Go.RowKit
section
variable {P : Program} {E : Env} {s : AS}
end

section
variable {P : Program} {E : Env} {s : AS}
theorem lens_set {h : List AObj} {k : Nat} {x y : AObj} (hk : h[k]? = some x) (hl : lnO y = lnO x) : lens (h.set k y) = lens h := by
 apply List.ext_getElem?
 intro i
 simp only [lens, List.getElem?_map]
 by_cases hi : i = k
 ·subst hi
  rw [List.getElem?_set_self (List.getElem?_eq_some_iff.1 hk).1, hk]; simp [hl]
 ·rw [List.getElem?_set_ne (Ne.symm hi)]
theorem wk_cell (r j : Nat) {kd : AKind} {cs : List AV} {old new : AV} (h0 : s.h[r]? = some (.o kd cs)) (hj : cs[j]? = some old)
  (himp : ∀ G F w v, HRel G F s.h w → RepV G (lens s.h) F w old v → RepV G (lens s.h) F w new v) : Wk E s ⟨s.t, s.h.set r (.o kd (cs.set j new))⟩ := by
 intro a w ⟨G, F, hr⟩
 have hl : lens (s.h.set r (.o kd (cs.set j new))) = lens s.h := lens_set h0 (by simp [lnO])
 have hcr : ∀ {cur : Array Value}, CRel G (lens s.h) F w cs cur → CRel G (lens s.h) F w (cs.set j new) cur := fun {cur} hc i av hi => by
  by_cases hij : i = j
  ·subst hij
   rw [List.getElem?_set_self (List.getElem?_eq_some_iff.1 hj).1] at hi
   injection hi with hi; subst hi
   obtain ⟨x, h1, h2⟩ := hc i old hj
   exact ⟨x, h1, himp G F w x hr.heap h2⟩
  ·rw [List.getElem?_set_ne (Ne.symm hij)] at hi
   exact hc i av hi
 have hget : ∀ {k : Nat} {x : AObj}, (s.h.set r (.o kd (cs.set j new)))[k]? = some x → (k = r ∧ x = .o kd (cs.set j new)) ∨ (k ≠ r ∧ s.h[k]? = some x) := fun {k x} hk => by
  by_cases hkr : k = r
  ·subst hkr
   rw [List.getElem?_set_self (List.getElem?_eq_some_iff.1 h0).1] at hk
   injection hk with hk; exact .inl ⟨rfl, hk.symm⟩
  ·rw [List.getElem?_set_ne (Ne.symm hkr)] at hk; exact .inr ⟨hkr, hk⟩
 have hold : ∀ {k : Nat} {x : AObj}, (s.h.set r (.o kd (cs.set j new)))[k]? = some x → ∃ y, s.h[k]? = some y ∧ fzO y = fzO x := fun {k x} hk => by
  rcases hget hk with ⟨rfl, rfl⟩ | ⟨_, hk⟩
  ·exact ⟨_, h0, by cases kd <;> rfl⟩
  ·exact ⟨x, hk, rfl⟩
 refine ⟨G, F, hr.len, hr.def0, fun i av v h1 h2 => by rw [hl]; exact hr.slot i av v h1 h2, ⟨fun k x hk => ?_, fun j' k x y hj' hk vj vk fj fk he => ?_⟩, hr.mod, fun k x hk hv hf hho => ?_, hr.fsup, hr.f0, hr.fc, by rw [hl]; exact hr.lat⟩
 ·rw [hl]
  rcases hget hk with ⟨rfl, rfl⟩ | ⟨_, hk⟩
  ·have hob := hr.heap.obj k _ h0
   cases kd with
   | box => obtain ⟨a1, a2, cur, ty, a3, a4, a5, a6⟩ := hob; exact ⟨a1, a2, cur, ty, a3, a4, by simpa using a5, hcr a6⟩
   | row e sz =>
    rcases hob with ⟨a1, a2⟩ | ⟨a1, a2, cur, c, a3, a4, a5, a6, a7, a8⟩
    ·subst a2; simp at hj
    ·exact .inr ⟨a1, a2, cur, c, a3, a4, a5, a6, by simpa using a7, hcr a8⟩
   | fz =>
    rcases hob with ⟨a1, a2⟩ | ⟨a1, a2, cur, ty, fr, a3, a4, a5, a6⟩
    ·subst a2; simp at hj
    ·exact .inr ⟨a1, a2, cur, ty, fr, a3, a4, by simpa using a5, hcr a6⟩
  ·exact hr.heap.obj k x hk
 ·obtain ⟨x', hx', ex⟩ := hold hj'
  obtain ⟨y', hy', ey⟩ := hold hk
  exact hr.heap.inj j' k x' y' hx' hy' vj vk (ex.trans fj) (ey.trans fk) he
 ·obtain ⟨x', hx', ex⟩ := hold hk
  exact hr.sup k x' hx' hv (ex.trans hf) hho
theorem wk_slot (i : Nat) {old new : AV} (hi : s.t[i]? = some old) (himp : ∀ G F w v, HRel G F s.h w → RepV G (lens s.h) F w old v → RepV G (lens s.h) F w new v) : Wk E s ⟨s.t.set i new, s.h⟩ := by
 intro a w ⟨G, F, hr⟩
 refine ⟨G, F, by simpa using hr.len, hr.def0, fun k av v h1 h2 => ?_, hr.heap, hr.mod, hr.sup, hr.fsup, hr.f0, hr.fc, hr.lat⟩
 by_cases hk : k = i
 ·subst hk
  rw [List.getElem?_set_self (List.getElem?_eq_some_iff.1 hi).1] at h1
  injection h1 with h1; subst h1
  exact himp G F w v hr.heap (hr.slot k old v hi h2)
 ·rw [List.getElem?_set_ne (Ne.symm hk)] at h1
  exact hr.slot k av v h1 h2
theorem nil_fs0 (sz : Nat) {G : Gh} {F : Nat → Prop} {w : World} {ln : List Nat} {v : Value} (h : RepV G ln F w (.c (.slice none 0 0)) v) : RepV G ln F w (.fs sz 0 []) v := by
 have := h.c_inv
 subst this
 exact .d _ _ (.fs0 sz none 0 (Nat.zero_le _))
theorem fz_fs {h : List AObj} {k sz off n m : Nat} {cs : List AV} (hk : h[k]? = some (.o .fz cs)) (hm : cs.length = m) (hn : off + n * sz ≤ m) (hx : n ≤ maxLen) (hd : ((cs.drop off).take (n * sz)).all isD = true) {G : Gh} {F : Nat → Prop} {w : World} {v : Value} (hh : HRel G F h w) (hv : RepV G (lens h) F w (.sl k sz off n m) v) : RepV G (lens h) F w (.fs sz n ((cs.drop off).take (n * sz))) v := by
 refine RepV.conv (lent := []) (ok := fun i => i == k) (Gc := G) (lnc := lens h) (Fc := F) hh (fun i k h => by simp at h) (fun _ h => h) (fun k' kd cs' h1 h2 h3 => ?_) hv (q := cs.length = m ∧ off + n * sz ≤ m ∧ n ≤ maxLen ∧ ((cs.drop off).take (n * sz)).all isD = true) (av' := .fs sz n ((cs.drop off).take (n * sz))) ?_ ⟨hm, hn, hx, hd⟩
 ·have e : k' = k := by simpa using h2
  subst e
  rw [hk] at h1; injection h1 with h1; injection h1 with h1 h1'; subst h1 h1'
  rcases hh.obj k' _ hk with ⟨g1, _⟩ | ⟨_, g1, _⟩
  ·rw [h3] at g1; cases g1
  ·exact g1
 ·simp [AV.conv, idx, cellsH, hk]
theorem wk_fz (k : Nat) {e sz : Nat} {cs : List AV} (hk : s.h[k]? = some (.o (.row e sz) cs)) (hho : E.ho k = false) : Wk E s ⟨s.t, s.h.set k (.o .fz cs)⟩ := by
 intro a w ⟨G, F, hr⟩
 have hl : lens (s.h.set k (.o .fz cs)) = lens s.h := lens_set hk (by simp [lnO])
 have hget : ∀ {j : Nat} {x : AObj}, (s.h.set k (.o .fz cs))[j]? = some x → (j = k ∧ x = .o .fz cs) ∨ (j ≠ k ∧ s.h[j]? = some x) := fun {j x} hj => by
  by_cases hjk : j = k
  ·subst hjk
   rw [List.getElem?_set_self (List.getElem?_eq_some_iff.1 hk).1] at hj
   injection hj with hj; exact .inl ⟨rfl, hj.symm⟩
  ·rw [List.getElem?_set_ne (Ne.symm hjk)] at hj; exact .inr ⟨hjk, hj⟩
 have hinj : ∀ (j' k' : Nat) (x y : AObj), (s.h.set k (.o .fz cs))[j']? = some x → (s.h.set k (.o .fz cs))[k']? = some y → G.vir j' = false → G.vir k' = false → fzO x = false → fzO y = false → G.σ j' = G.σ k' → j' = k' := fun j' k' x y hj' hk' vj vk fj fk he => by
  rcases hget hj' with ⟨_, rfl⟩ | ⟨_, hj'⟩
  ·cases fj
  rcases hget hk' with ⟨_, rfl⟩ | ⟨_, hk'⟩
  ·cases fk
  exact hr.heap.inj j' k' x y hj' hk' vj vk fj fk he
 rcases hr.heap.obj k _ hk with ⟨g1, g2⟩ | ⟨g1, g2, cur, c, g3, g4, g5, g6, g7, g8⟩
 ·refine ⟨G, F, hr.len, hr.def0, fun i av v h1 h2 => by rw [hl]; exact hr.slot i av v h1 h2, ⟨fun j x hj => ?_, hinj⟩, hr.mod, fun j x hj hv hf hh => ?_, hr.fsup, hr.f0, hr.fc, by rw [hl]; exact hr.lat⟩
  ·rw [hl]
   rcases hget hj with ⟨rfl, rfl⟩ | ⟨_, hj⟩
   ·exact .inl ⟨g1, g2⟩
   ·exact hr.heap.obj j x hj
  ·rcases hget hj with ⟨rfl, rfl⟩ | ⟨_, hj⟩
   ·cases hf
   ·exact hr.sup j x hj hv hf hh
 ·have hF : ∀ b, F b → F b ∨ b = G.σ k := fun b h => .inl h
  have hlt := Later.refl G (lens s.h)
  have hb : w.heap[G.σ k]? = some (.cells cur e (0, 0)) := g3
  refine ⟨G, fun b => F b ∨ b = G.σ k, hr.len, hr.def0.keep fun D h1 h2 => ⟨fun h => h.elim h1 (fun e => by subst e; rw [hb] at h2; cases h2), rfl⟩, fun i av v h1 h2 => by rw [hl]; exact (hr.slot i av v h1 h2).keep hlt hF fun _ _ => rfl, ⟨fun j x hj => ?_, hinj⟩, hr.mod, fun j x hj hv hf hh => ?_, fun b h => ?_, fun b h => .inl (hr.f0 b h), hr.fc.more hF (fun _ _ => rfl) fun b h => ?_, by rw [hl]; exact hr.lat⟩
  ·rw [hl]
   rcases hget hj with ⟨rfl, rfl⟩ | ⟨hjk, hj⟩
   ·exact .inr ⟨g1, .inr rfl, cur, e, (0, 0), hb, g4, by rw [g4]; exact g7, g8.keep hlt hF fun _ _ => rfl⟩
   ·exact (hr.heap.obj j x hj).keep hlt hF (fun _ _ => rfl) ⟨rfl, rfl, rfl⟩ (fun _ => rfl) fun hv hf h => h.elim (hr.heap.nfz hj hv hf) fun e => hjk (hr.heap.inj j k x _ hj hk hv g1 hf rfl e)
  ·rcases hget hj with ⟨rfl, rfl⟩ | ⟨_, hj⟩
   ·cases hf
   ·exact hr.sup j x hj hv hf hh
  ·rcases h with h | rfl
   ·exact hr.fsup b h
   ·rcases hr.sup k _ hk g1 rfl hho with h | h
    ·exact .inr (.inl h)
    ·exact .inr (.inr h)
  ·rcases h with h | rfl
   ·exact hr.fc b h
   ·exact ⟨cur, e, (0, 0), hb⟩
theorem wk_data (r j k : Nat) {kd : AKind} {cs l : List AV} {e sz n m : Nat} (hho : E.ho k = false) (hrk : r ≠ k) (h0 : s.h[r]? = some (.o kd cs)) (hj : cs[j]? = some (.sl k sz 0 n m)) (hk : s.h[k]? = some (.o (.row e sz) l)) (hm : l.length = m) (hn : n * sz = m) (hx : n ≤ maxLen) (hd : l.all isD = true) :
  Wk E s ⟨s.t, (s.h.set k (.o .fz l)).set r (.o kd (cs.set j (.fs sz n l)))⟩ := by
 refine Wk.trans (wk_fz k hk hho) ?_
 have h1 : (s.h.set k (.o .fz l))[r]? = some (.o kd cs) := by rw [List.getElem?_set_ne (Ne.symm hrk)]; exact h0
 have h2 : (s.h.set k (.o .fz l))[k]? = some (.o .fz l) := List.getElem?_set_self (List.getElem?_eq_some_iff.1 hk).1
 have e1 : (l.drop 0).take (n * sz) = l := by rw [List.drop_zero, List.take_of_length_le (by omega)]
 refine wk_cell r j h1 hj fun G F w v hh hv => ?_
 have := fz_fs (off := 0) h2 hm (by omega) hx (by rw [e1]; exact hd) hh hv
 rw [e1] at this
 exact this
theorem Clean.wkh {st : Nat → Bool} {h h2 h' : List AObj} {r r2 r' : AV} (hw : ∀ E : Env, E.ho = noHo → E.ln0 = lens h → Wk E ⟨[r], h⟩ ⟨[r2], h2⟩) (hc : Clean st h2 r2 h' r') : Clean st h r h' r' := by
 intro E G F w x hE hf hrep
 have hr : Rel ⟨E.w0, E.L, E.F0, G, lens h, allSt, E.ho, E.mks⟩ G F ⟨[r], h⟩ ⟨#[x], []⟩ w := Rel.mk' ⟨hf.heap, hf.mod, hf.sup, hf.fsup, hf.f0, hf.fc⟩ rfl rfl (fun i av v h1 h2 => by
  cases i with
  | zero => simp at h1 h2; subst h1 h2; exact hrep
  | succ i => simp at h1) ((Later.refl _ _).same _)
 obtain ⟨G2, F2, hr2⟩ := hw ⟨E.w0, E.L, E.F0, G, lens h, allSt, E.ho, E.mks⟩ hE rfl _ w ⟨G, F, hr⟩
 have hrep2 := hr2.slot 0 r2 x rfl rfl
 obtain ⟨G', F', c1, c2, c3⟩ := hc E G2 F2 w x hE ⟨hr2.heap, hr2.mod, hr2.sup, hr2.fsup, hr2.f0, hr2.fc⟩ hrep2
 exact ⟨G', F', c1, c2, fun k m hs hm => by
  rcases hr2.lat k m rfl hm with ⟨e1, e2, e3, e4⟩ | ⟨m', e1, e2⟩
  ·rcases c3 k m hs e1 with ⟨f1, f2, f3, f4⟩ | ⟨m', f1, f2⟩
   ·exact .inl ⟨f1, f2.trans e2, f3.trans e3, f4.trans e4⟩
   ·exact .inr ⟨m', f1, f2⟩
  ·rcases c3 k m' hs e1 with ⟨f1, _⟩ | ⟨m'', f1, f2⟩
   ·exact .inr ⟨m', f1, e2⟩
   ·exact .inr ⟨m'', f1, Nat.lt_trans e2 f2⟩⟩
theorem Ret.wkh {st : Nat → Bool} {h h2 : List AObj} {r r2 : AV} {Post : AV → List AObj → Prop} (hw : ∀ E : Env, E.ho = noHo → E.ln0 = lens h → Wk E ⟨[r], h⟩ ⟨[r2], h2⟩) (hr : Ret st Post h2 r2) : Ret st Post h r := let ⟨h', r', hc, hp⟩ := hr; ⟨h', r', Clean.wkh hw hc, hp⟩
end
end Go.Proofs.YthgoocdldnkogaaGreatDoor
