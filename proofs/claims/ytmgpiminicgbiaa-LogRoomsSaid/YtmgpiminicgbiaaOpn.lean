import Derived.Test.YtmgpiminicgbiaaEo
import Derived.ProofKit
import Derived.OpenShut
import Derived.ShutString
import Derived.ChangeOld
import Derived.Below
import Derived.SliceStrings
namespace Go.Proofs.Ytmgpiminicgbiaa
set_option linter.unusedVariables false
set_option linter.unusedSimpArgs false
open Go.ChangeShapes Go.WideShapes Go.ChangeAt Go.RowKit

/-! ## What comes in, as it is known -/
/-- blocks that hold cells -/
def CB (w : World) (b : Nat) : Prop := ∃ cs ty fr, w.heap[b]? = some (.cells cs ty fr)
theorem CB.fc (w : World) : FC (CB w) w := fun _ h => h
def RepC (w : World) (l : List AV) (cs : List Value) : Prop := ∀ (j : Nat) (u : AV) (v : Value), l[j]? = some u → cs[j]? = some v → RepD (CB w) w u v
structure Opn (P : Program) (t : TypeId) (α : Type) where
  av : α → List AV
  wf : α → Prop
  len : ∀ x, (av x).length = P.cellsOf t
  opn : ∀ {H : Type} (enc : TypeId × Value → H) (w : World) (fuel : Nat) (cs : List Value) (y : DataW H × List MemPlace), DataW.trod enc P w 0 (fun _ => true) true fuel t cs = some y → ∃ x, wf x ∧ cs.length = P.cellsOf t ∧ RepC w (av x) cs
section
variable {P : Program} {t e : TypeId} {α β : Type}
theorem repC_one {w : World} {u : AV} {v : Value} (h : RepD (CB w) w u v) : RepC w [u] [v] := fun j u' v' h1 h2 => by
  cases j with
  | zero => simp at h1 h2; subst h1 h2; exact h
  | succ j => simp at h1
def opnInt (k : IntKind) (ht : P.underlying t = some (.int k)) (hc : P.cellsOf t = 1) : Opn P t Int where
  av n := [.c (.int k n)]
  wf n := (Lit.int k n).wf = true
  len _ := hc.symm
  opn enc w fuel cs y h := by
    obtain ⟨n, rfl, _, hw⟩ := DataW.trod_int ht h
    exact ⟨n, hw, hc.symm, repC_one (.c _)⟩
def opnU8 (ht : P.underlying t = some (.int .u8)) (hc : P.cellsOf t = 1) : Opn P t UInt8 where
  av n := [.c (u8 n)]
  wf _ := True
  len _ := hc.symm
  opn enc w fuel cs y h := by
    obtain ⟨n, rfl, _, hw⟩ := DataW.trod_int ht h
    refine ⟨UInt8.ofNat n.toNat, trivial, hc.symm, repC_one ?_⟩
    have e : u8 (UInt8.ofNat n.toNat) = .int .u8 n := by
      have := bounds_u8 hw
      simp only [u8, UInt8.toNat_ofNat']
      congr 1
      omega
    rw [e]
    exact .c _
def opnBool (ht : P.underlying t = some .bool) (hc : P.cellsOf t = 1) : Opn P t Bool where
  av n := [.c (.bool n)]
  wf _ := True
  len _ := hc.symm
  opn enc w fuel cs y h := by
    obtain ⟨n, rfl, _⟩ := DataW.trod_bool ht h
    exact ⟨n, trivial, hc.symm, repC_one (.c _)⟩
def opnString (ht : P.underlying t = some .string) (hc : P.cellsOf t = 1) : Opn P t ByteArray where
  av s := [.c (.string s)]
  wf s := s.size ≤ maxLen
  len _ := hc.symm
  opn enc w fuel cs y h := by
    obtain ⟨n, rfl, _, hw⟩ := DataW.trod_string ht h
    exact ⟨n, hw, hc.symm, repC_one (.c _)⟩
theorem list_of {p : Nat → α → Prop} (n : Nat) (h : ∀ i, i < n → ∃ x, p i x) : ∃ l : List α, l.length = n ∧ ∀ i x, l[i]? = some x → p i x := by
  induction n with
  | zero => exact ⟨[], rfl, fun i x h => by simp at h⟩
  | succ n ih =>
    obtain ⟨l, h1, h2⟩ := ih fun i hi => h i (by omega)
    obtain ⟨x, hx⟩ := h n (by omega)
    refine ⟨l ++ [x], by simp [h1], fun i y hy => ?_⟩
    rw [List.getElem?_append] at hy
    split at hy
    · exact h2 i y hy
    · rename_i hi
      have : i = n := by
        have := (List.getElem?_eq_some_iff.1 hy).1
        simp at this; omega
      subst this
      simp [h1] at hy
      subst hy
      exact hx
theorem flatMap_get {f : α → List β} {k : Nat} (hf : ∀ x, (f x).length = k) : ∀ (l : List α) (j : Nat) (u : β), (l.flatMap f)[j]? = some u → ∃ x, l[j / k]? = some x ∧ (f x)[j % k]? = some u := by
  intro l
  induction l with
  | nil => intro j u h; simp at h
  | cons x l ih =>
    intro j u h
    rw [List.flatMap_cons, List.getElem?_append] at h
    split at h
    · rename_i hlt
      rw [hf] at hlt
      exact ⟨x, by rw [Nat.div_eq_of_lt hlt]; rfl, by rw [Nat.mod_eq_of_lt hlt]; exact h⟩
    · rename_i hlt
      rw [hf] at hlt h
      have hk : 0 < k := by
        rcases Nat.eq_zero_or_pos k with rfl | h0
        · obtain ⟨y, _, hy⟩ := ih _ u h
          have := (List.getElem?_eq_some_iff.1 hy).1
          rw [hf] at this; omega
        · exact h0
      obtain ⟨y, h1, h2⟩ := ih _ u h
      refine ⟨y, ?_, ?_⟩
      · rw [Nat.div_eq_sub_div hk (by omega), List.getElem?_cons_succ]; exact h1
      · rw [Nat.mod_eq_sub_mod (by omega)]; exact h2
theorem add_addR (a : Addr) (h : a.spot = none) (i j : Nat) : (a.add i).add j = ⟨a.block, a.off + (i + j), none⟩ := by
  obtain ⟨b, o, s⟩ := a
  simp only at h
  subst h
  unfold Addr.add
  split <;> split <;> simp_all <;> omega
def opnSlice (o : Opn P e α) (sz : Nat) (ht : P.underlying t = some (.slice e)) (hc : P.cellsOf t = 1) (hsz : P.cellsOf e = sz) (h0 : 0 < sz) : Opn P t (List α) where
  av l := [.fs sz l.length (l.flatMap o.av)]
  wf l := l.length ≤ maxLen ∧ ∀ x ∈ l, o.wf x
  len _ := hc.symm
  opn enc w fuel cs y h := by
    rcases DataW.trod_slice ht h with ⟨rfl, _⟩ | ⟨a, len, cap, elems, rest, n, _, rfl, _, _, hl, hm, hlen, hel, _, _⟩
    · exact ⟨[], ⟨Nat.zero_le _, by simp⟩, hc.symm, repC_one (by simpa using RepD.fs0 sz none 0 (Nat.zero_le _))⟩
    · obtain ⟨l, l1, l2⟩ := list_of (p := fun i x => o.wf x ∧ ∃ ci, w.cells? 0 (a.add (i * P.cellsOf e)) (P.cellsOf e) = some ci ∧ ci.length = P.cellsOf e ∧ RepC w (o.av x) ci) len fun i hi => by
        have h1 := hel i hi
        rw [List.getElem?_eq_getElem (by omega), Option.bind_eq_some_iff] at h1
        obtain ⟨ci, h2, h3⟩ := h1
        obtain ⟨x, x1, x2, x3⟩ := o.opn enc w n ci _ h3
        exact ⟨x, x1, ci, h2, x2, x3⟩
      refine ⟨l, ⟨by omega, fun x hx => ?_⟩, hc.symm, repC_one ?_⟩
      · obtain ⟨i, hi, rfl⟩ := List.mem_iff_getElem.1 hx
        exact (l2 i _ (List.getElem?_eq_getElem hi)).1
      rcases Nat.eq_zero_or_pos len with hz | hz
      · have : l = [] := List.eq_nil_of_length_eq_zero (by omega)
        subst this
        rw [hz]
        simpa using RepD.fs0 sz (some a) cap hm
      · have hcell : ∀ i, i < len → ∀ r, r < sz → ∃ v, w.cell? ((a.add (i * sz)).add r) = some v ∧ ∀ x u, l[i]? = some x → (o.av x)[r]? = some u → RepD (CB w) w u v := fun i hi r hr => by
          obtain ⟨_, ci, c1, c2, c3⟩ := l2 i l[i] (List.getElem?_eq_getElem (by omega))
          rw [hsz] at c1 c2
          have hv : r < ci.length := by omega
          refine ⟨ci[r], ?_, fun x u hx hu => ?_⟩
          · rw [(World.cells?_some c1).2.2 r hr, List.getElem?_eq_getElem hv]
          · rw [List.getElem?_eq_getElem (by omega)] at hx
            injection hx with hx; subst hx
            exact c3 r u _ hu (List.getElem?_eq_getElem hv)
        obtain ⟨v0, hv0, _⟩ := hcell 0 hz 0 h0
        have hv0 : w.cell? a = some v0 := by simpa [Addr.add] using hv0
        have hspot : a.spot = none := by
          unfold World.cell? at hv0
          split at hv0
          · split at hv0
            · cases hv0
            · rename_i h; simpa using h
          · cases hv0
        have hCB : CB w a.block := by
          unfold World.cell? at hv0
          split at hv0
          · rename_i c ty fr hb; exact ⟨c, ty, fr, hb⟩
          · cases hv0
        have hlen2 : (l.flatMap o.av).length = len * sz := by
          have : ∀ l : List α, (l.flatMap o.av).length = l.length * sz := by
            intro l
            induction l with
            | nil => simp
            | cons x l ih => rw [List.flatMap_cons, List.length_append, o.len, hsz, ih, List.length_cons, Nat.succ_mul]; omega
          rw [this, l1]
        have hdm : ∀ j, j < len * sz → j / sz < len ∧ j % sz < sz ∧ j / sz * sz + j % sz = j := fun j hj => by
          refine ⟨?_, Nat.mod_lt _ h0, by rw [Nat.mul_comm]; exact Nat.div_add_mod j sz⟩
          exact Nat.div_lt_of_lt_mul (by rw [Nat.mul_comm]; exact hj)
        have ha : a = ⟨a.block, a.off, none⟩ := by rw [← hspot]
        rw [ha, l1]
        have hall : ∀ j, ∃ v, j < len * sz → w.cell? ⟨a.block, a.off + j, none⟩ = some v ∧ ∀ u, (l.flatMap o.av)[j]? = some u → RepD (CB w) w u v := fun j => by
          by_cases hj : j < len * sz
          · obtain ⟨d1, d2, d3⟩ := hdm j hj
            obtain ⟨v, h1, h2⟩ := hcell (j / sz) d1 (j % sz) d2
            rw [add_addR a hspot, d3] at h1
            refine ⟨v, fun _ => ⟨h1, fun u hu => ?_⟩⟩
            obtain ⟨x, hx1, hx2⟩ := flatMap_get (k := sz) (fun x => (o.len x).trans hsz) l j u hu
            exact h2 x u hx1 hx2
          · exact ⟨undef, fun h => absurd h hj⟩
        obtain ⟨f, hf⟩ := Classical.axiomOfChoice hall
        refine .fs sz len a.block a.off cap _ f hz hl hm hlen2 hCB (fun j hj => (hf j (by rw [← hlen2]; exact hj)).1) fun j u hu => ?_
        have hj : j < len * sz := by have := (List.getElem?_eq_some_iff.1 hu).1; omega
        exact (hf j hj).2 u hu
/-- fields, one behind the other -/
structure OpnF (P : Program) (fs : List Field) (off : Nat) (α : Type) where
  av : α → List AV
  wf : α → Prop
  tot : Nat
  len : ∀ x, (av x).length = tot
  opn : ∀ {H : Type} (enc : TypeId × Value → H) (w : World) (fuel : Nat) (cs : List Value), (∀ (i : Nat) (f : Field), fs[i]? = some f → ∃ y, DataW.trod enc P w 0 (fun _ => true) true fuel f.type ((cs.drop f.offset).take (P.cellsOf f.type)) = some y) →
    ∃ x, wf x ∧ RepC w (av x) (cs.drop off)
def opnNil (off : Nat) : OpnF P [] off Unit where
  av _ := []
  wf _ := True
  tot := 0
  len _ := rfl
  opn enc w fuel cs h := ⟨(), trivial, fun j u v h => by simp at h⟩
def opnCons {f : Field} {fs : List Field} {off : Nat} (n : Nat) (o : Opn P f.type α) (hn : P.cellsOf f.type = n) (ho : f.offset = off) (r : OpnF P fs (off + n) β) : OpnF P (f :: fs) off (α × β) where
  av x := o.av x.1 ++ r.av x.2
  wf x := o.wf x.1 ∧ r.wf x.2
  tot := n + r.tot
  len x := by rw [List.length_append, o.len, r.len, hn]
  opn enc w fuel cs h := by
    obtain ⟨y, hy⟩ := h 0 f rfl
    obtain ⟨x1, a1, a2, a3⟩ := o.opn enc w fuel _ y hy
    obtain ⟨x2, b1, b2⟩ := r.opn enc w fuel cs fun i g hg => h (i + 1) g hg
    refine ⟨(x1, x2), ⟨a1, b1⟩, fun j u v hu hv => ?_⟩
    rw [List.getElem?_append] at hu
    rw [o.len, hn] at hu
    rw [List.getElem?_drop] at hv
    split at hu
    · rename_i hj
      refine a3 j u v hu ?_
      rw [List.getElem?_take, hn, if_pos hj, List.getElem?_drop, ho]
      exact hv
    · rename_i hj
      refine b2 (j - n) u v hu ?_
      rw [List.getElem?_drop]
      rw [← hv]
      congr 1
      omega
def opnStruct {fs : Array Field} {l : List Field} (ht : P.underlying t = some (.struct fs)) (hl : fs = l.toArray) (r : OpnF P l 0 α) (hc : P.cellsOf t = r.tot) : Opn P t α where
  av := r.av
  wf := r.wf
  len x := (r.len x).trans hc.symm
  opn enc w fuel cs y h := by
    obtain ⟨xs, n, _, _, h1, h2, h3⟩ := DataW.trod_struct ht h
    obtain ⟨x, x1, x2⟩ := r.opn enc w n cs fun i f hf => by
      have hf' : fs[i]? = some f := by rw [hl]; simpa using hf
      rw [h3 i f hf']
      have : i < fs.size := (Array.getElem?_eq_some_iff.1 hf').1
      exact ⟨_, List.getElem?_eq_getElem (by omega)⟩
    exact ⟨x, x1, h1, by simpa using x2⟩
def Opn.map (o : Opn P t α) (f : α → β) (av : β → List AV) (wf : β → Prop) (h1 : ∀ x, av (f x) = o.av x) (h2 : ∀ x, o.wf x → wf (f x)) (h3 : ∀ y, (av y).length = P.cellsOf t) : Opn P t β where
  av := av
  wf := wf
  len := h3
  opn enc w fuel cs y h := by
    obtain ⟨x, x1, x2, x3⟩ := o.opn enc w fuel cs y h
    exact ⟨f x, h2 x x1, x2, by rw [h1]; exact x3⟩
/-- a parameter of one cell -/
theorem Opn.one {H : Type} {enc : TypeId × Value → H} {w : World} {v : Value} {d : DataW H} {ps : List MemPlace} (o : Opn P t α) (h : DataW.Trod enc P w 0 (fun _ => true) true t v d ps) (hv : v.cells = #[v]) : ∃ x, o.wf x ∧ RepC w (o.av x) [v] := by
  obtain ⟨fuel, hf⟩ := h
  obtain ⟨x, x1, _, x3⟩ := o.opn enc w fuel _ _ hf
  exact ⟨x, x1, by rw [hv] at x3; exact x3⟩
/-- a parameter of many -/
theorem Opn.many {H : Type} {enc : TypeId × Value → H} {w : World} {cs : Array Value} {d : DataW H} {ps : List MemPlace} (o : Opn P t α) (h : DataW.Trod enc P w 0 (fun _ => true) true t (.agg cs) d ps) : ∃ x, o.wf x ∧ (o.av x).length = cs.size ∧ RepC w (o.av x) cs.toList := by
  obtain ⟨fuel, hf⟩ := h
  obtain ⟨x, x1, x2, x3⟩ := o.opn enc w fuel _ _ hf
  exact ⟨x, x1, by rw [o.len, ← x2]; simp [Value.cells], by simpa [Value.cells] using x3⟩
def G0 : Gh := ⟨fun _ => 0, fun _ => 0, fun _ => false⟩
theorem repA_one {w : World} {u : AV} {v : Value} (h : RepC w [u] [v]) : RepV G0 [] (CB w) w u v := .d _ _ (h 0 u v rfl rfl)
theorem repA_agg {w : World} {l : List AV} {cs : Array Value} (h0 : l.length = cs.size) (h : RepC w l cs.toList) : RepV G0 [] (CB w) w (.agg l) (.agg cs) := .agg _ _ h0 fun j u v h1 h2 => .d _ _ (h j u v h1 (by simpa using h2))
theorem repL_nil {w : World} : RepL G0 [] (CB w) w [] #[] := ⟨rfl, fun j u v h => by simp at h⟩
theorem repL_cons {w : World} {u : AV} {v : Value} {l : List AV} {vs : List Value} (h : RepV G0 [] (CB w) w u v) (k : RepL G0 [] (CB w) w l vs.toArray) : RepL G0 [] (CB w) w (u :: l) (v :: vs).toArray := by
  refine ⟨by have := k.1; simpa using this, fun j u' v' h1 h2 => ?_⟩
  cases j with
  | zero => simp at h1 h2; subst h1 h2; exact h
  | succ j => exact k.2 j u' v' (by simpa using h1) (by simpa using h2)
/-- the walk of a law, as its statement asks it -/
theorem law_calls {f : FuncId} {args : List AV} {st : Nat → Bool} (h : ACalls P f args [] st (fun r _ => r = .c (.bool true))) {w : World} {vs : Array Value} (hr : RepL G0 [] (CB w) w args vs) : Calls P f vs w fun e w' => e = .returned (.bool true) ∧ Below w.heap.size w w' := by
  refine (h G0 (CB w) w vs ⟨fun k x hk => by simp at hk, fun j k x y hj => by simp at hj⟩ (CB.fc w) hr).mono fun e w' ⟨x, r, h', G', F', he, hf, hv, _, hp⟩ => ?_
  subst hp
  rw [hv.c_inv] at he
  exact ⟨he, hf.mod.below (Nat.le_refl _) fun k ⟨i, y, hi, _⟩ => by simp at hi⟩
end
end Go.Proofs.Ytmgpiminicgbiaa
