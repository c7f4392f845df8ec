import Derived.Test.YtniifindnnfkaaaDoorSlc
namespace Go.Proofs.YtniifindnnfkaaaDoor
set_option linter.unusedVariables false
set_option linter.unusedSimpArgs false
open Go.RowKit
/-! ## A row of one's own, lent as data: it comes back as it was, and may be written again -/
def noFs1 : AV → Bool
  | .any | .c _ | .ptr .. | .sl .. => true
  | _ => false
def noFs : AV → Bool
  | .tup l => l.all noFs1
  | .agg l => l.all noFs1
  | v => noFs1 v
def noFsO : AObj → Bool
  | .o .box cs => cs.all noFs1
  | .o (.row _ _) cs => cs.all noFs1
  | _ => false
theorem noFs1_rep {av : AV} (ho : noFs1 av = true) {G : Gh} {ln : List Nat} {F F' : Nat → Prop} {w w' : World} {v : Value} (h : RepV G ln F w av v) : RepV G ln F' w' av v := by
  cases av with
  | any => exact .any v
  | c x => rw [h.c_inv]; exact .cc x
  | ptr k off m =>
    cases h with
    | d _ _ h => cases h
    | ptr _ _ _ h1 h2 => exact .ptr k off m h1 h2
    | ptrOld _ _ _ m' p h1 h2 => exact .ptrOld k off m m' p h1 h2
  | sl k sz off n m =>
    cases h with
    | d _ _ h => cases h
    | sl _ _ _ _ _ c h1 h2 h3 h4 h5 => exact .sl k sz off n m c h1 h2 h3 h4 h5
    | slNil _ _ h1 h2 => exact .slNil k sz h1 h2
    | slOld _ _ _ _ _ m' A l c h1 h2 => exact .slOld k sz off n m m' A l c h1 h2
  | _ => cases ho
theorem noFs_rep {av : AV} (ho : noFs av = true) {G : Gh} {ln : List Nat} {F F' : Nat → Prop} {w w' : World} {v : Value} (h : RepV G ln F w av v) : RepV G ln F' w' av v := by
  cases av with
  | tup l =>
    obtain ⟨cs, rfl, h1, h2⟩ := tup_inv h
    exact .tup l cs h1 fun j u x hu hx => noFs1_rep (List.all_eq_true.1 ho u (List.mem_of_getElem? hu)) (h2 j u x hu hx)
  | agg l =>
    obtain ⟨cs, rfl, h1, h2⟩ := agg_inv h
    exact .agg l cs h1 fun j u x hu hx => noFs1_rep (List.all_eq_true.1 ho u (List.mem_of_getElem? hu)) (h2 j u x hu hx)
  | any => exact noFs1_rep (av := .any) ho h
  | c x => exact noFs1_rep (av := .c x) ho h
  | ptr k off m => exact noFs1_rep (av := .ptr k off m) ho h
  | sl k sz off n m => exact noFs1_rep (av := .sl k sz off n m) ho h
  | _ => cases ho
theorem ACalls.lend0 {P : Program} {f : FuncId} {e sz n : Nat} {l : List AV} {R : AV} {H : List AObj} {st : Nat → Bool} (hc : ACalls P f [.fs sz n l] [] st (fun r h' => r = R ∧ h' = H)) (hl : l.length = n * sz) (hn : n ≤ maxLen) (hd : l.all isD = true) (hR : noFs R = true) (hH : H.all noFsO = true) :
    ACalls P f [.sl 0 sz 0 n (n * sz)] [.o (.row e sz) l] (fun k => decide (k = 0)) (fun r h' => r = R.reb (· + 1) ∧ h' = .o (.row e sz) l :: H.map (rebO (· + 1))) := by
  intro G F w vs hh hF hr
  obtain ⟨hr1, hr2⟩ := hr
  let Fc : Nat → Prop := fun b => F b ∨ (G.vir 0 = false ∧ b = G.σ 0)
  have h0 : ([AObj.o (.row e sz) l] : List AObj)[0]? = some (.o (.row e sz) l) := rfl
  have hFc : FC Fc w := hF.more (fun _ h => .inl h) (fun _ _ => rfl) fun b hb => by
    rcases hb with h1 | ⟨h1, rfl⟩
    · exact hF b h1
    · exact hh.isCells h0 h1
  have hconv : AV.conv [] (fun _ => true) [AObj.o (.row e sz) l] (.sl 0 sz 0 n (n * sz)) = some (l.length = n * sz ∧ 0 + n * sz ≤ n * sz ∧ n ≤ maxLen ∧ ((l.drop 0).take (n * sz)).all isD = true, .fs sz n l) := by
    simp only [AV.conv, idx, cellsH, h0, if_true, Option.map_some]
    congr 2
    rw [List.drop_zero, List.take_of_length_le (by omega)]
  have hrepL : RepL G [] Fc w [.fs sz n l] vs := by
    refine ⟨hr1, fun j u x hu hx => ?_⟩
    have hj : j = 0 := by
      have := (List.getElem?_eq_some_iff.1 hu).1
      simpa using this
    subst hj
    simp only [List.getElem?_cons_zero, Option.some.injEq] at hu
    subst hu
    refine RepV.conv (lent := []) (ok := fun _ => true) (lnc := []) (Gc := G) hh (fun i k h => by simp at h) (fun b h => .inl h) (fun k kd cs h1 _ h3 => ?_) (hr2 0 _ x rfl hx) hconv ⟨hl, by omega, hn, by rw [List.drop_zero, List.take_of_length_le (by omega)]; exact hd⟩
    have hk : k = 0 := by
      have := (List.getElem?_eq_some_iff.1 h1).1
      simpa using this
    subst hk
    exact .inr ⟨h3, rfl⟩
  refine (hc G Fc w vs ⟨fun k x hk => by simp at hk, fun j k x y hj => by simp at hj⟩ hFc hrepL).mono fun er w' ⟨x, r, h', G', F', he, hf, hrr, _, hp1, hp2⟩ => ?_
  subst hp1 hp2
  have nL : ∀ b, ¬ lentB G [] b := fun b ⟨k, x, hk, _⟩ => by simp at hk
  have old : ∀ b, b < w.heap.size → w'.heap[b]? = w.heap[b]? := fun b hb => hf.mod.block b hb (nL b)
  let G2 : Gh := ⟨fun i => match i with | 0 => G.σ 0 | i + 1 => G'.σ i, fun i => match i with | 0 => G.bs 0 | i + 1 => G'.bs i, fun i => match i with | 0 => G.vir 0 | i + 1 => G'.vir i⟩
  let F2 : Nat → Prop := fun b => F' b ∧ (F b ∨ w.heap.size ≤ b)
  obtain ⟨H2, hH2⟩ : ∃ H2, H2 = AObj.o (.row e sz) l :: h'.map (rebO (· + 1)) := ⟨_, rfl⟩
  have hf0 : ∀ b, F b → F2 b := fun b hb => ⟨hf.f0 b (.inl hb), .inl hb⟩
  have hFlt : ∀ b, F b → b < w.heap.size := hF.lt
  have hln : ∀ i m, (lens h')[i]? = some m → G2.σ (i + 1) = G'.σ i ∧ G2.bs (i + 1) = G'.bs i ∧ G2.vir (i + 1) = G'.vir i ∧ (lens H2)[i + 1]? = some m := fun i m hi => by
    refine ⟨rfl, rfl, rfl, ?_⟩
    rw [hH2]
    simp only [lens, List.map_cons, List.getElem?_cons_succ, List.map_map]
    simp only [lens, List.getElem?_map] at hi ⊢
    rw [Option.map_eq_some_iff] at hi ⊢
    obtain ⟨y, hy, hm⟩ := hi
    exact ⟨y, hy, by simp only [Function.comp]; rw [rebO_ln]; exact hm⟩
  have hget : ∀ {k : Nat} {y : AObj}, H2[k]? = some y → (k = 0 ∧ y = .o (.row e sz) l) ∨ ∃ i z, k = i + 1 ∧ h'[i]? = some z ∧ y = rebO (· + 1) z := fun {k y} hk => by
    rw [hH2] at hk
    cases k with
    | zero => simp at hk; exact .inl ⟨rfl, hk.symm⟩
    | succ i =>
      rw [List.getElem?_cons_succ, List.getElem?_map, Option.map_eq_some_iff] at hk
      obtain ⟨z, hz, rfl⟩ := hk
      exact .inr ⟨i, z, rfl, hz, rfl⟩
  have hno : ∀ {i : Nat} {z : AObj}, h'[i]? = some z → noFsO z = true := fun hz => List.all_eq_true.1 hH _ (List.mem_of_getElem? hz)
  have hob0 := hh.obj 0 _ h0
  have hfz : ∀ {z : AObj}, noFsO z = true → fzO z = false := fun {z} hz => by
    cases z with
    | raw s => cases hz
    | o kd cs => cases kd <;> first | rfl | cases hz
  have hnew : ∀ {i : Nat} {z : AObj}, h'[i]? = some z → G'.vir i = false → w.heap.size ≤ G'.σ i := fun {i z} hz hv => by
    rcases hf.sup i z hz hv (hfz (hno hz)) rfl with h1 | h1
    · exact absurd h1 (nL _)
    · exact h1
  have hcr : ∀ {cs : List AV} {cur : Array Value}, cs.all noFs1 = true → CRel G' (lens h') F' w' cs cur → CRel G2 (lens H2) F2 w' (AV.rebL (· + 1) cs) cur := fun {cs cur} hcs h1 j u hu => by
    obtain ⟨u0, hu0, rfl⟩ := rebL_at.2 j u hu
    obtain ⟨y, e1, e2⟩ := h1 j u0 hu0
    refine ⟨y, e1, RepV.reb hln (noFs1_rep (List.all_eq_true.1 hcs _ (List.mem_of_getElem? hu0)) e2)⟩
  have hheap : HRel G2 F2 H2 w' := by
    refine ⟨fun k y hy => ?_, fun j k y z hj hk vj vk fj fk hσ => ?_⟩
    · rcases hget hy with ⟨rfl, rfl⟩ | ⟨i, z, rfl, hz, rfl⟩
      · rcases hob0 with ⟨a1, a2⟩ | ⟨a1, a2, cur, c, a3, a4, a5, a6, a7, a8⟩
        · exact .inl ⟨a1, a2⟩
        · refine .inr ⟨a1, fun hF2 => hF2.2.elim a2 fun h => by have h1 := a3.lt; have h2 : w.heap.size ≤ G.σ 0 := h; omega, cur, c, ?_, a4, a5, a6, a7, fun j u hu => ?_⟩
          · exact (old _ a3.lt).trans a3
          · obtain ⟨v, e1, e2⟩ := a8 j u hu
            exact ⟨v, e1, .d _ _ ((isD_rep (List.all_eq_true.1 hd _ (List.mem_of_getElem? hu)) e2).keep hf0 fun b hb => old b (hFlt b hb))⟩
      · have hob := hf.heap.obj i z hz
        have hnz := hno hz
        cases z with
        | raw s => cases hnz
        | o kd cs =>
          rw [rebO_eq]
          have hlen : (AV.rebL (· + 1) cs).length = cs.length := rebL_at.1
          cases kd with
          | box =>
            obtain ⟨a1, a2, cur, ty, a3, a4, a5, a6⟩ := hob
            exact ⟨a1, fun h => a2 h.1, cur, ty, a3, a4, by rw [hlen]; exact a5, hcr hnz a6⟩
          | row e' sz' =>
            rcases hob with ⟨a1, a2⟩ | ⟨a1, a2, cur, c, a3, a4, a5, a6, a7, a8⟩
            · exact .inl ⟨a1, by rw [a2]; rfl⟩
            · exact .inr ⟨a1, fun h => a2 h.1, cur, c, a3, a4, a5, a6, by rw [hlen]; exact a7, hcr hnz a8⟩
          | fz => cases hnz
    · rcases hget hj with ⟨rfl, rfl⟩ | ⟨i, y0, rfl, hy0, rfl⟩ <;> rcases hget hk with ⟨rfl, rfl⟩ | ⟨i', z0, rfl, hz0, rfl⟩
      · rfl
      · rcases hob0 with ⟨a1, _⟩ | ⟨_, _, cur, c, a3, _⟩
        · rw [show G2.vir 0 = G.vir 0 from rfl, a1] at vj; cases vj
        · have h1 := hnew hz0 vk
          have h2 := a3.lt
          have h3 : G.σ 0 = G'.σ i' := hσ
          omega
      · rcases hob0 with ⟨a1, _⟩ | ⟨_, _, cur, c, a3, _⟩
        · rw [show G2.vir 0 = G.vir 0 from rfl, a1] at vk; cases vk
        · have h1 := hnew hy0 vj
          have h2 := a3.lt
          have h3 : G'.σ i = G.σ 0 := hσ
          omega
      · have := hf.heap.inj i i' y0 z0 hy0 hz0 vj vk (hfz (hno hy0)) (hfz (hno hz0)) hσ
        rw [this]
  refine ⟨x, r.reb (· + 1), H2, G2, F2, he, ⟨hheap, ⟨hf.mod.os, hf.mod.tape, hf.mod.output, hf.mod.size, fun k hk _ => old k hk⟩, fun k y hy hv hz hho => ?_, fun b hb => ?_, hf0, ?_⟩, RepV.reb hln (noFs_rep hR hrr), fun k m hk hm => ?_, rfl, hH2⟩
  · rcases hget hy with ⟨rfl, rfl⟩ | ⟨i, z, rfl, hz', rfl⟩
    · exact .inl ⟨0, _, h0, hv, rfl, rfl⟩
    · exact .inr (hnew hz' hv)
  · rcases hb.2 with h1 | h1
    · exact .inl h1
    · exact .inr (.inr h1)
  · exact ⟨fun b hb => hf.fc b hb.1, fun p hp => ⟨hf0 _ (hF.tabs p hp).1, (hf.fc.tabs p hp).2⟩⟩
  · have hk0 : k = 0 := of_decide_eq_true hk
    subst hk0
    refine .inl ⟨?_, rfl, rfl, rfl⟩
    rw [hH2]
    simpa [lens] using hm
end Go.Proofs.YtniifindnnfkaaaDoor
