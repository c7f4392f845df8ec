import Derived.Test.YtlepkpfbejfpiaaDoorG4
namespace Go.Proofs.YtlepkpfbejfpiaaDoor
set_option linter.unusedVariables false
set_option linter.unusedSimpArgs false
open Go.ChangeShapes Go.WideShapes Go.ChangeAt Go.RowKit
/-! ## What comes in, where a type holds rows of itself -/
theorem slice_at {P : Program} {t e : TypeId} {α : Type} {av : α → List AV} {wf : α → Prop} (hav : ∀ x, (av x).length = P.cellsOf e) (sz : Nat) (ht : P.underlying t = some (.slice e)) (hc : P.cellsOf t = 1) (hsz : P.cellsOf e = sz) (h0 : 0 < sz) {H : Type} (enc : TypeId × Value → H) (w : World) (fuel : Nat) (cs : List Value) (y : DataW H × List MemPlace) (h : DataW.trod enc P w 0 (fun _ => true) true fuel t cs = some y)
    (ho : ∀ n, fuel = n + 1 → ∀ (cs : List Value) (y : DataW H × List MemPlace), DataW.trod enc P w 0 (fun _ => true) true n e cs = some y → ∃ x, wf x ∧ cs.length = P.cellsOf e ∧ RepC w (av x) cs) :
    ∃ l : List α, (l.length ≤ maxLen ∧ ∀ x ∈ l, wf x) ∧ cs.length = P.cellsOf t ∧ RepC w [.fs sz l.length (l.flatMap av)] cs := by
  rcases DataW.trod_slice ht h with ⟨rfl, _⟩ | ⟨a, len, cap, elems, rest, n, hfuel, rfl, _, _, hl, hm, hlen, hel, _, _⟩
  · exact ⟨[], ⟨Nat.zero_le _, by simp⟩, hc.symm, repC_one (by simpa using RepD.fs0 sz none 0 (Nat.zero_le _))⟩
  · obtain ⟨l, l1, l2⟩ := list_of (p := fun i x => wf x ∧ ∃ ci, w.cells? 0 (a.add (i * P.cellsOf e)) (P.cellsOf e) = some ci ∧ ci.length = P.cellsOf e ∧ RepC w (av x) ci) len fun i hi => by
      have h1 := hel i hi
      rw [List.getElem?_eq_getElem (by omega), Option.bind_eq_some_iff] at h1
      obtain ⟨ci, h2, h3⟩ := h1
      obtain ⟨x, x1, x2, x3⟩ := ho n hfuel ci _ h3
      exact ⟨x, x1, ci, h2, x2, x3⟩
    refine ⟨l, ⟨by omega, fun x hx => ?_⟩, hc.symm, repC_one ?_⟩
    · obtain ⟨i, hi, rfl⟩ := List.mem_iff_getElem.1 hx
      exact (l2 i _ (List.getElem?_eq_getElem hi)).1
    rcases Nat.eq_zero_or_pos len with hz | hz
    · have : l = [] := List.eq_nil_of_length_eq_zero (by omega)
      subst this
      rw [hz]
      simpa using RepD.fs0 sz (some a) cap hm
    · have hcell : ∀ i, i < len → ∀ r, r < sz → ∃ v, w.cell? ((a.add (i * sz)).add r) = some v ∧ ∀ x u, l[i]? = some x → (av x)[r]? = some u → RepD (CB w) w u v := fun i hi r hr => by
        obtain ⟨_, ci, c1, c2, c3⟩ := l2 i l[i] (List.getElem?_eq_getElem (by omega))
        rw [hsz] at c1 c2
        have hv : r < ci.length := by omega
        refine ⟨ci[r], ?_, fun x u hx hu => ?_⟩
        · rw [(World.cells?_some c1).2.2 r hr, List.getElem?_eq_getElem hv]
        · rw [List.getElem?_eq_getElem (by omega)] at hx
          injection hx with hx; subst hx
          exact c3 r u _ hu (List.getElem?_eq_getElem hv)
      obtain ⟨v0, hv0, _⟩ := hcell 0 hz 0 h0
      have hv0 : w.cell? a = some v0 := by simpa [Addr.add] using hv0
      have hspot : a.spot = none := by
        unfold World.cell? at hv0
        split at hv0
        · split at hv0
          · cases hv0
          · rename_i h; simpa using h
        · cases hv0
      have hCB : CB w a.block := by
        unfold World.cell? at hv0
        split at hv0
        · rename_i c ty fr hb; exact ⟨c, ty, fr, hb⟩
        · cases hv0
      have hlen2 : (l.flatMap av).length = len * sz := by
        have : ∀ l : List α, (l.flatMap av).length = l.length * sz := by
          intro l
          induction l with
          | nil => simp
          | cons x l ih => rw [List.flatMap_cons, List.length_append, hav, hsz, ih, List.length_cons, Nat.succ_mul]; omega
        rw [this, l1]
      have hdm : ∀ j, j < len * sz → j / sz < len ∧ j % sz < sz ∧ j / sz * sz + j % sz = j := fun j hj => by
        refine ⟨?_, Nat.mod_lt _ h0, by rw [Nat.mul_comm]; exact Nat.div_add_mod j sz⟩
        exact Nat.div_lt_of_lt_mul (by rw [Nat.mul_comm]; exact hj)
      have ha : a = ⟨a.block, a.off, none⟩ := by rw [← hspot]
      rw [ha, l1]
      have hall : ∀ j, ∃ v, j < len * sz → w.cell? ⟨a.block, a.off + j, none⟩ = some v ∧ ∀ u, (l.flatMap av)[j]? = some u → RepD (CB w) w u v := fun j => by
        by_cases hj : j < len * sz
        · obtain ⟨d1, d2, d3⟩ := hdm j hj
          obtain ⟨v, h1, h2⟩ := hcell (j / sz) d1 (j % sz) d2
          rw [add_addR a hspot, d3] at h1
          refine ⟨v, fun _ => ⟨h1, fun u hu => ?_⟩⟩
          obtain ⟨x, hx1, hx2⟩ := flatMap_get (k := sz) (fun x => (hav x).trans hsz) l j u hu
          exact h2 x u hx1 hx2
        · exact ⟨undef, fun h => absurd h hj⟩
      obtain ⟨f, hf⟩ := Classical.axiomOfChoice hall
      refine .fs sz len a.block a.off cap _ f hz hl hm hlen2 hCB (fun j hj => (hf j (by rw [← hlen2]; exact hj)).1) fun j u hu => ?_
      have hj : j < len * sz := by have := (List.getElem?_eq_some_iff.1 hu).1; omega
      exact (hf j hj).2 u hu
/-- a struct whose last field is a row of itself -/
theorem struct_last {P : Program} {t : TypeId} {α β : Type} {avl : β → List AV} {wfl : β → Prop} {fs : Array Field} {l : List Field} (ht : P.underlying t = some (.struct fs)) (hl : fs = l.toArray) (k : Nat) (r : OpnF P (l.take k) 0 α) {f : Field} (hk : l.length = k + 1) (hf : l[k]? = some f) (hoff : f.offset = r.tot) (hcl : P.cellsOf f.type = 1) (hc : P.cellsOf t = r.tot + 1) {H : Type} (enc : TypeId × Value → H) (w : World) (fuel : Nat) (cs : List Value) (y : DataW H × List MemPlace) (h : DataW.trod enc P w 0 (fun _ => true) true fuel t cs = some y)
    (ho : ∀ n, fuel = n + 1 → ∀ (cs : List Value) (y : DataW H × List MemPlace), DataW.trod enc P w 0 (fun _ => true) true n f.type cs = some y → ∃ x, wfl x ∧ cs.length = P.cellsOf f.type ∧ RepC w (avl x) cs) :
    ∃ (x : α) (z : β), r.wf x ∧ wfl z ∧ cs.length = P.cellsOf t ∧ RepC w (r.av x ++ avl z) cs := by
  obtain ⟨xs, n, hn, _, h1, h2, h3⟩ := DataW.trod_struct ht h
  have hget : ∀ (i : Nat) (g : Field), l[i]? = some g → ∃ y, DataW.trod enc P w 0 (fun _ => true) true n g.type ((cs.drop g.offset).take (P.cellsOf g.type)) = some y := fun i g hg => by
    have hg' : fs[i]? = some g := by rw [hl]; simpa using hg
    rw [h3 i g hg']
    have : i < fs.size := (Array.getElem?_eq_some_iff.1 hg').1
    exact ⟨_, List.getElem?_eq_getElem (by omega)⟩
  obtain ⟨x, x1, x2⟩ := r.opn enc w n cs fun i g hg => hget i g (by
    rw [List.getElem?_take] at hg
    split at hg
    · exact hg
    · cases hg)
  obtain ⟨y', hy'⟩ := hget k f hf
  rw [hoff, hcl] at hy'
  obtain ⟨z, z1, _, z3⟩ := ho n hn _ _ hy'
  refine ⟨x, z, x1, z1, h1, fun j u v hu hv => ?_⟩
  rw [List.getElem?_append] at hu
  split at hu
  · exact x2 j u v hu (by simpa using hv)
  · rename_i hj
    rw [r.len] at hj hu
    have hj2 : j < cs.length := (List.getElem?_eq_some_iff.1 hv).1
    have hjt : j = r.tot := by omega
    refine z3 (j - r.tot) u v hu ?_
    rw [List.getElem?_take, if_pos (by omega), List.getElem?_drop, ← hv]
    congr 1
    omega
end Go.Proofs.YtlepkpfbejfpiaaDoor
