import Derived.Test.YtmgpiminicgbiaaHW
import Derived.Test.YtmgpiminicgbiaaG4
import Derived.Test.YtmgpiminicgbiaaFp
namespace Go.Proofs.Ytmgpiminicgbiaa
set_option linter.unusedVariables false
set_option linter.unusedSimpArgs false
open Go.RowKit
/-! ## Rows inside rows: what lives is read as data, and stays alive -/
section
variable {P : Program} {E : Env} {s : AS}
/-- in the heap h, by these handles alone: a value, told with its rows as data -/
inductive DeepD (h : List AObj) (ok : Nat → Prop) : AV → AV → Prop
  | d (u : AV) : isD u = true → DeepD h ok u u
  | sl (k sz off n m : Nat) (kd : AKind) (cs l : List AV) : ok k → h[k]? = some (.o kd cs) → cs.length = m → off + n * sz ≤ m → n ≤ maxLen → l.length = n * sz →
      (∀ (j : Nat) (u u' : AV), cs[off + j]? = some u → l[j]? = some u' → DeepD h ok u u') → DeepD h ok (.sl k sz off n m) (.fs sz n l)
inductive DeepV (h : List AObj) (ok : Nat → Prop) : AV → AV → Prop
  | d (u u' : AV) : DeepD h ok u u' → DeepV h ok u u'
  | agg (l l' : List AV) : l.length = l'.length → (∀ (j : Nat) (u u' : AV), l[j]? = some u → l'[j]? = some u' → DeepV h ok u u') → DeepV h ok (.agg l) (.agg l')
theorem HRel.cellsOf {G : Gh} {F : Nat → Prop} {h : List AObj} {w : World} (hh : HRel G F h w) {k : Nat} {kd : AKind} {cs : List AV} (hk : h[k]? = some (.o kd cs)) (hv : G.vir k = false) : ∃ cur ty fr, w.heap[G.σ k]? = some (.cells cur ty fr) ∧ CRel G (lens h) F w cs cur := by
  have hob := hh.obj k _ hk
  cases kd with
  | box =>
    obtain ⟨_, _, cur, ty, h3, _, _, h6⟩ := hob
    exact ⟨cur, ty, _, h3, h6⟩
  | row e sz =>
    rcases hob with ⟨h1, _⟩ | ⟨_, _, cur, c, h3, _, _, _, _, h8⟩
    · rw [hv] at h1; cases h1
    · exact ⟨cur, e, _, h3, h8⟩
  | fz =>
    rcases hob with ⟨h1, _⟩ | ⟨_, _, cur, ty, fr, h3, _, _, h6⟩
    · rw [hv] at h1; cases h1
    · exact ⟨cur, ty, fr, h3, h6⟩
theorem deepD_rep {G : Gh} {F Fx : Nat → Prop} {h : List AObj} {ok : Nat → Prop} {w : World} (hh : HRel G F h w) (hF : ∀ b, F b → Fx b) (hok : ∀ k kd cs, ok k → h[k]? = some (.o kd cs) → G.vir k = false → Fx (G.σ k)) {u u' : AV} (hd : DeepD h ok u u') : ∀ {v : Value}, RepV G (lens h) F w u v → RepD Fx w u' v := by
  induction hd with
  | d u hu => intro v hr; exact (isD_rep hu hr).keep hF fun _ _ => rfl
  | sl k sz off n m kd cs l h1 h2 h3 h4 h5 h6 _ ih =>
    intro v hr
    have hlk : (lens h)[k]? = some m := by simp [lens, h2, lnO, h3]
    cases hr with
    | d _ _ h => cases h
    | sl _ _ _ _ _ c a1 a2 a3 a4 a5 =>
      obtain ⟨cur, ty, fr, b1, b2⟩ := hh.cellsOf h2 a2
      by_cases hn : n = 0
      · subst hn
        obtain rfl : l = [] := List.eq_nil_of_length_eq_zero (by omega)
        exact .fs0 sz _ c a4
      · have hget : ∀ j, j < l.length → ∃ x, cs[off + j]? = some x := fun j hj => ⟨cs[off + j]'(by omega), List.getElem?_eq_getElem (by omega)⟩
        refine .fs sz n (G.σ k) off c l (fun j => (cur[off + j]?).getD default) (by omega) a3 a4 h6 (hok k kd cs h1 h2 a2) (fun j hj => ?_) fun j u hu => ?_
        · obtain ⟨x, hx⟩ := hget j hj
          obtain ⟨y, hy, _⟩ := b2 _ x hx
          simp [World.cell?, b1, hy]
        · obtain ⟨x, hx⟩ := hget j (List.getElem?_eq_some_iff.1 hu).1
          obtain ⟨y, hy, hry⟩ := b2 _ x hx
          rw [hy]
          exact ih j x u hx hu hry
    | slNil _ _ a1 a2 =>
      obtain rfl : l = [] := List.eq_nil_of_length_eq_zero (by omega)
      exact .fs0 sz none 0 (Nat.zero_le _)
    | slOld _ _ _ _ _ m' A l' c a1 a2 =>
      rw [hlk] at a1; injection a1 with a1; omega
theorem deepV_rep {G G' : Gh} {F Fx : Nat → Prop} {h : List AObj} {ln : List Nat} {ok : Nat → Prop} {w : World} (hh : HRel G F h w) (hF : ∀ b, F b → Fx b) (hok : ∀ k kd cs, ok k → h[k]? = some (.o kd cs) → G.vir k = false → Fx (G.σ k)) {u u' : AV} (hd : DeepV h ok u u') : ∀ {v : Value}, RepV G (lens h) F w u v → RepV G' ln Fx w u' v := by
  induction hd with
  | d u u' hu => intro v hr; exact .d _ _ (deepD_rep hh hF hok hu hr)
  | agg l l' hl _ ih =>
    intro v hr
    obtain ⟨cs, rfl, h1, h2⟩ := agg_inv hr
    refine .agg l' cs (by omega) fun j u' x hu hx => ?_
    have hj : j < l.length := by have := (List.getElem?_eq_some_iff.1 hu).1; omega
    exact ih j l[j] u' (List.getElem?_eq_getElem hj) hu (h2 j l[j] x (List.getElem?_eq_getElem hj) hx)
/-- **A call to which rows that live, rows inside rows too, are handed as data; it answers plainly; all is as it was.** -/
theorem call_data {g : FuncId} {args : List AV} {K : AV → AS → Prop} {cargs : List AV} {st : Nat → Bool} {Post : AV → List AObj → Prop} (hc : ACalls P g cargs [] st Post) (hlen : cargs.length = args.length) (hcv : ∀ (j : Nat) (u u' : AV), args[j]? = some u → cargs[j]? = some u' → DeepV s.h (fun _ => True) u u')
    (hK : ∀ r h', Post r h' → plainV r = true ∧ K r s) : CallG P E g args s K := by
  intro G F a w vs hr hl hrep
  let Fc : Nat → Prop := fun b => F b ∨ ∃ k kd cs, s.h[k]? = some (.o kd cs) ∧ G.vir k = false ∧ b = G.σ k
  have hFlt : FC Fc w := hr.fc.more (fun _ h => .inl h) (fun _ _ => rfl) fun b hb => by
    rcases hb with h1 | ⟨k, kd, cs, h1, h3, rfl⟩
    · exact hr.fc b h1
    · exact hr.heap.isCells h1 h3
  refine (hc G Fc w vs ⟨fun k x hk => by simp at hk, fun j k x y hj => by simp at hj⟩ hFlt ⟨hlen.trans hl, fun j u' x hu hx => ?_⟩).mono fun e w' ⟨x, r, h', G', F', he, hf, hrr, _, hpost⟩ => ?_
  · have hj : j < args.length := by have := (List.getElem?_eq_some_iff.1 hu).1; omega
    have hu0 := List.getElem?_eq_getElem hj
    exact deepV_rep hr.heap (fun b hb => .inl hb) (fun k kd cs _ h1 h2 => .inr ⟨k, kd, cs, h1, h2, rfl⟩) (hcv j _ u' hu0 hu) (hrep j _ x hu0 hx)
  obtain ⟨hpl, hk⟩ := hK r h' hpost
  have keep : ∀ b, b < w.heap.size → w'.heap[b]? = w.heap[b]? := fun b hb => hf.mod.block b hb fun ⟨k, x, hk, _⟩ => by simp at hk
  have keepF : ∀ b, F b → w'.heap[b]? = w.heap[b]? := fun b hb => keep b (hr.flt b hb)
  have hl := Later.refl G (lens s.h)
  refine ⟨x, r, s, G, F, he, ⟨hr.len, hr.def0.keep (fun D h1 h2 => ⟨h1, keep D (lt_of_heap h2)⟩), fun i av v h1 h2 => (hr.slot i av v h1 h2).keep hl (fun _ h => h) keepF, ⟨fun k y hy => ?_, hr.heap.inj⟩, hr.mod.mod hf.mod (fun i _ ⟨k, x, hk, _⟩ => by simp at hk), hr.sup, hr.fsup, hr.f0, hr.fc.keep keepF, hr.lat⟩, plain_rep hpl hrr, hk⟩
  exact (hr.heap.obj k y hy).keep hl (fun _ h => h) keepF ⟨rfl, rfl, rfl⟩ (fun hv => keep _ (hr.heap.lt hy hv)) fun hv hfz => hr.heap.nfz hy hv hfz
/-- all rows stay as they are from now on -/
def frzR : AObj → AObj
  | .o (.row _ _) cs => .o .fz cs
  | x => x
theorem frzR_ln (x : AObj) : lnO (frzR x) = lnO x := by
  cases x with
  | raw _ => rfl
  | o k cs => cases k <;> rfl
theorem lens_frz (h : List AObj) : lens (h.map frzR) = lens h := by
  unfold lens
  rw [List.map_map]
  exact List.map_congr_left fun x _ => frzR_ln x
theorem wk_fzAll (hho : E.ho = noHo) : Wk E s ⟨s.t, s.h.map frzR⟩ := by
  intro a w ⟨G, F, hr⟩
  have hl := lens_frz s.h
  let F' : Nat → Prop := fun b => F b ∨ ∃ k e sz cs, s.h[k]? = some (.o (.row e sz) cs) ∧ G.vir k = false ∧ b = G.σ k
  have hF : ∀ b, F b → F' b := fun b h => .inl h
  have hlt := Later.refl G (lens s.h)
  have hget : ∀ {j : Nat} {x : AObj}, (s.h.map frzR)[j]? = some x → ∃ y, s.h[j]? = some y ∧ x = frzR y := fun {j x} hj => by
    rw [List.getElem?_map] at hj
    obtain ⟨y, h1, h2⟩ := Option.map_eq_some_iff.1 hj
    exact ⟨y, h1, h2.symm⟩
  have hfz : ∀ {y : AObj}, fzO (frzR y) = false → fzO y = false := fun {y} h => by
    cases y with
    | raw _ => rfl
    | o k cs => cases k <;> first | rfl | cases h
  have hnr : ∀ {y : AObj}, fzO (frzR y) = false → ∀ e sz cs, y ≠ .o (.row e sz) cs := fun {y} h e sz cs he => by subst he; cases h
  refine ⟨G, F', hr.len, hr.def0.keep fun D h1 h2 => ⟨fun h => ?_, rfl⟩, fun i av v h1 h2 => by rw [hl]; exact (hr.slot i av v h1 h2).keep hlt hF fun _ _ => rfl, ⟨fun j x hj => ?_, fun j k x y hj hk vj vk fj fk he => ?_⟩, hr.mod, fun j x hj hv hf hh => ?_, fun b h => ?_, fun b h => .inl (hr.f0 b h), hr.fc.more hF (fun _ _ => rfl) fun b h => ?_, by rw [hl]; exact hr.lat⟩
  · rcases h with h | ⟨k, e, sz, cs, h3, h4, h5⟩
    · exact h1 h
    · obtain ⟨c, t, f, h6⟩ := hr.heap.isCells h3 h4
      rw [h5, h6] at h2; cases h2
  · rw [hl]
    obtain ⟨y, hy, rfl⟩ := hget hj
    have hob := hr.heap.obj j y hy
    cases y with
    | raw z =>
      obtain ⟨a1, a2, a3⟩ := hob
      refine ⟨a1, fun h => ?_, a3⟩
      rcases h with h | ⟨k, e, sz, cs, h3, h4, h5⟩
      · exact a2 h
      · obtain ⟨c, t, f, h6⟩ := hr.heap.isCells h3 h4
        rw [h5, h6] at a3
        cases z <;> cases a3
    | o kd cs =>
      cases kd with
      | box =>
        refine (hob.keep hlt hF (fun _ _ => rfl) ⟨rfl, rfl, rfl⟩ (fun _ => rfl) fun hv hf h => ?_)
        rcases h with h | ⟨k, e, sz, cs', h3, h4, h5⟩
        · exact hr.heap.nfz hy hv hf h
        · have := hr.heap.inj j k _ _ hy h3 hv h4 rfl rfl h5
          subst this
          rw [hy] at h3; cases h3
      | fz => exact hob.keep hlt hF (fun _ _ => rfl) ⟨rfl, rfl, rfl⟩ (fun _ => rfl) fun hv hf h => by cases hf
      | row e sz =>
        rcases hob with ⟨g1, g2⟩ | ⟨g1, g2, cur, c, g3, g4, g5, g6, g7, g8⟩
        · exact .inl ⟨g1, g2⟩
        · exact .inr ⟨g1, .inr ⟨j, e, sz, cs, hy, g1, rfl⟩, cur, e, (0, 0), g3, g4, by rw [g4]; exact g7, g8.keep hlt hF fun _ _ => rfl⟩
  · obtain ⟨x', hx', rfl⟩ := hget hj
    obtain ⟨y', hy', rfl⟩ := hget hk
    exact hr.heap.inj j k x' y' hx' hy' vj vk (hfz fj) (hfz fk) he
  · obtain ⟨y, hy, rfl⟩ := hget hj
    exact hr.sup j y hy hv (hfz hf) hh
  · rcases h with h | ⟨k, e, sz, cs, h3, h4, rfl⟩
    · exact hr.fsup b h
    · rcases hr.sup k _ h3 h4 rfl (by rw [hho]; rfl) with h | h
      · exact .inr (.inl h)
      · exact .inr (.inr h)
  · rcases h with h | ⟨k, e, sz, cs, h3, h4, rfl⟩
    · exact hr.fc b h
    · exact hr.heap.isCells h3 h4
def isFz (h : List AObj) (k : Nat) : Prop := ∃ cs, h[k]? = some (.o .fz cs)
theorem fz_ok {G : Gh} {F : Nat → Prop} {h : List AObj} {w : World} (hh : HRel G F h w) : ∀ k kd cs, isFz h k → h[k]? = some (.o kd cs) → G.vir k = false → F (G.σ k) := fun k kd cs ⟨cs', hf⟩ hk hv => by
  rw [hf] at hk; injection hk with hk; injection hk with h1 h2; subst h1 h2
  rcases hh.obj k _ hf with ⟨g1, _⟩ | ⟨_, g1, _⟩
  · rw [hv] at g1; cases g1
  · exact g1
/-- a slot whose rows all stay is told as data -/
theorem wk_deep (i : Nat) {old new : AV} (hi : s.t[i]? = some old) (hd : DeepV s.h (isFz s.h) old new) : Wk E s ⟨s.t.set i new, s.h⟩ :=
  wk_slot i hi fun G F w v hh hv => deepV_rep hh (fun _ h => h) (fz_ok hh) hd hv
/-- a cell of a block .. -/
theorem wk_deepC (r j : Nat) {kd : AKind} {cs : List AV} {old new : AV} (h0 : s.h[r]? = some (.o kd cs)) (hj : cs[j]? = some old) (hd : DeepV s.h (isFz s.h) old new) : Wk E s ⟨s.t, s.h.set r (.o kd (cs.set j new))⟩ :=
  wk_cell r j h0 hj fun G F w v hh hv => deepV_rep hh (fun _ h => h) (fz_ok hh) hd hv
/-- **A call to which the first blocks are lent, all as they are (rows inside rows too), under their own numbers.** -/
theorem call_all {g : FuncId} {args : List AV} {K : AV → AS → Prop} {H L H' : List AObj} {st : Nat → Bool} {v : AV} (hs : s.h = H ++ L)
    (hc : ACalls P g args H st (fun r h' => r = v ∧ h' = H')) (hl : H'.length = H.length) (hst : ∀ i, i < H.length → st i = true) (hE : E.ho = noHo)
    (hla : AV.livL (List.range' H.length L.length) args = true) (hlh : livH (List.range' H.length L.length) [] 0 H = true) (hK : K v ⟨s.t, H' ++ L⟩) : CallG P E g args s K := by
  intro G F a w vs hr hlen hrep
  have hget1 : ∀ {k : Nat} {x : AObj}, H[k]? = some x → s.h[k]? = some x := fun {k x} hk => by
    rw [hs, List.getElem?_append_left (List.getElem?_eq_some_iff.1 hk).1]; exact hk
  have hget2 : ∀ {k : Nat} {x : AObj}, L[k]? = some x → s.h[H.length + k]? = some x := fun {k x} hk => by
    rw [hs, List.getElem?_append_right (by omega), show H.length + k - H.length = k by omega]; exact hk
  have hlens : ∀ k, k < H.length → (lens s.h)[k]? = (lens H)[k]? := fun k hk => by
    simp only [lens, List.getElem?_map]
    rw [hs, List.getElem?_append_left hk]
  have hslen : s.h.length = H.length + L.length := by rw [hs]; simp
  have hdown : ∀ (k m : Nat), k ∉ List.range' H.length L.length → (lens s.h)[k]? = some m → ((lens H)[k]? = some m ∧ G.σ k = G.σ k ∧ G.bs k = G.bs k ∧ G.vir k = G.vir k) ∨ ∃ m', (lens H)[k]? = some m' ∧ m < m' := fun k m hk hm => by
    have hkl : k < s.h.length := by
      have := (List.getElem?_eq_some_iff.1 hm).1
      simpa [lens] using this
    have hkn : k < H.length := by
      rcases Nat.lt_or_ge k H.length with h | h
      · exact h
      · exact absurd (by rw [List.mem_range'_1]; omega) hk
    exact .inl ⟨(hlens k hkn).symm.trans hm, rfl, rfl, rfl⟩
  have keepD : ∀ {av : AV} {v : Value}, RepV G (lens s.h) F w av v → av.liv (List.range' H.length L.length) = true → RepV G (lens H) F w av v := fun h hv => RepV.keepL hdown (fun _ h => h) (fun _ _ => rfl) h hv
  have hH : HRel G F H w := by
    refine ⟨fun k x hk => ?_, fun j k x y hj hk vj vk fj fk he => hr.heap.inj j k x y (hget1 hj) (hget1 hk) vj vk fj fk he⟩
    have hob := hr.heap.obj k x (hget1 hk)
    have hlv := livH_at hlh k x hk (by simp)
    have crel : ∀ {cs : List AV} {cur : Array Value}, CRel G (lens s.h) F w cs cur → (∀ (j : Nat) (u : AV), cs[j]? = some u → u.liv (List.range' H.length L.length) = true) → CRel G (lens H) F w cs cur := fun h1 h2 j u hu => let ⟨v, f1, f2⟩ := h1 j u hu; ⟨v, f1, keepD f2 (h2 j u hu)⟩
    cases x with
    | raw sx => exact hob
    | o kd cs =>
      have hlc := livO_at hlv
      cases kd with
      | box => obtain ⟨a1, a2, cur, ty, a3, a4, a5, a6⟩ := hob; exact ⟨a1, a2, cur, ty, a3, a4, a5, crel a6 hlc⟩
      | row e sz =>
        rcases hob with ⟨a1, a2⟩ | ⟨a1, a2, cur, c, a3, a4, a5, a6, a7, a8⟩
        · exact .inl ⟨a1, a2⟩
        · exact .inr ⟨a1, a2, cur, c, a3, a4, a5, a6, a7, crel a8 hlc⟩
      | fz =>
        rcases hob with ⟨a1, a2⟩ | ⟨a1, a2, cur, ty, fr, a3, a4, a5, a6⟩
        · exact .inl ⟨a1, a2⟩
        · exact .inr ⟨a1, a2, cur, ty, fr, a3, a4, a5, crel a6 hlc⟩
  refine (hc G F w vs hH hr.fc ⟨hlen, fun j u x hu hx => keepD (hrep j u x hu hx) (livL_at hla j u hu)⟩).mono fun e w' ⟨x, r, h', G', F', he, hf, hrr, hsame, hp1, hp2⟩ => ?_
  subst hp1 hp2
  let G2 : Gh := ⟨fun k => if k < H.length then G'.σ k else G.σ k, fun k => if k < H.length then G'.bs k else G.bs k, fun k => if k < H.length then G'.vir k else G.vir k⟩
  have g2n : ∀ {k : Nat}, k < H.length → G2.σ k = G'.σ k ∧ G2.bs k = G'.bs k ∧ G2.vir k = G'.vir k := fun {k} hk => ⟨if_pos hk, if_pos hk, if_pos hk⟩
  have g2o : ∀ {k : Nat}, ¬ k < H.length → G2.σ k = G.σ k ∧ G2.bs k = G.bs k ∧ G2.vir k = G.vir k := fun {k} hk => ⟨if_neg hk, if_neg hk, if_neg hk⟩
  have hLc : ∀ b, lentB G H b → ∃ k x, k < H.length ∧ s.h[k]? = some x ∧ G.vir k = false ∧ fzO x = false ∧ b = G.σ k := fun b ⟨k, x, hk, hv, hfz, hb⟩ => ⟨k, x, (List.getElem?_eq_some_iff.1 hk).1, hget1 hk, hv, hfz, hb⟩
  have keepB : ∀ b, b < w.heap.size → ¬ lentB G H b → w'.heap[b]? = w.heap[b]? := fun b hb hn => hf.mod.block b hb hn
  have hnL : ∀ {k : Nat} {x : AObj}, ¬ k < H.length → s.h[k]? = some x → G.vir k = false → fzO x = false → ¬ lentB G H (G.σ k) := fun {k x} hkn hk hv hfz hL => by
    obtain ⟨k', x', hk', hx', hv', hfz', he'⟩ := hLc _ hL
    have := hr.heap.inj k k' x x' hk hx' hv hv' hfz hfz' he'
    exact hkn (this ▸ hk')
  have hFL : ∀ b, F b → ¬ lentB G H b := fun b hb hL => by
    obtain ⟨k', x', hk', hx', hv', hfz', rfl⟩ := hLc _ hL
    exact hr.heap.nfz hx' hv' hfz' hb
  have keepF : ∀ b, F b → w'.heap[b]? = w.heap[b]? := fun b hb => keepB b (hr.flt b hb) (hFL b hb)
  have hF' : ∀ b, F b → F' b := fun b hb => hf.f0 b hb
  have hn' : ∀ k, k < H.length → (lens (h' ++ L))[k]? = (lens h')[k]? := fun k hk => by
    simp only [lens, List.getElem?_map]
    rw [List.getElem?_append_left (by omega)]
  have hlatN : Later G' G2 (lens h') (lens (h' ++ L)) := fun k m hm => by
    have hk : k < H.length := by
      have := (List.getElem?_eq_some_iff.1 hm).1
      simp [lens] at this; omega
    exact .inl ⟨(hn' k hk).trans hm, (g2n hk).1, (g2n hk).2.1, (g2n hk).2.2⟩
  have hlatO : Later G G2 (lens s.h) (lens (h' ++ L)) := fun k m hm => by
    by_cases hk : k < H.length
    · rcases hsame k m (hst k hk) ((hlens k hk).symm.trans hm) with ⟨e1, e2, e3, e4⟩ | ⟨m', e1, e2⟩
      · exact .inl ⟨(hn' k hk).trans e1, (g2n hk).1.trans e2, (g2n hk).2.1.trans e3, (g2n hk).2.2.trans e4⟩
      · exact .inr ⟨m', (hn' k hk).trans e1, e2⟩
    · refine .inl ⟨?_, (g2o hk).1, (g2o hk).2.1, (g2o hk).2.2⟩
      simp only [lens, List.getElem?_map] at hm ⊢
      rw [hs, List.getElem?_append_right (by omega)] at hm
      rw [List.getElem?_append_right (by omega), hl]
      exact hm
  have nF' : ∀ {k : Nat} {x : AObj}, ¬ k < H.length → s.h[k]? = some x → G.vir k = false → fzO x = false → ¬ F' (G.σ k) := fun {k x} hkn hk hv hfz hF1 => by
    rcases hf.fsup _ hF1 with h1 | h1 | h1
    · exact hr.heap.nfz hk hv hfz h1
    · exact hnL hkn hk hv hfz h1
    · have h2 := hr.heap.lt hk hv
      have h3 : w.heap.size ≤ G.σ k := h1
      omega
  have hcase : ∀ {k : Nat} {y : AObj}, (h' ++ L)[k]? = some y → (k < H.length ∧ h'[k]? = some y) ∨ (¬ k < H.length ∧ s.h[k]? = some y) := fun {k y} hk => by
    by_cases hkn : k < H.length
    · rw [List.getElem?_append_left (by omega)] at hk
      exact .inl ⟨hkn, hk⟩
    · rw [List.getElem?_append_right (by omega), hl] at hk
      refine .inr ⟨hkn, ?_⟩
      have := hget2 hk
      rwa [show H.length + (k - H.length) = k by omega] at this
  have hnewB : ∀ {k : Nat} {y : AObj}, h'[k]? = some y → G'.vir k = false → fzO y = false → lentB G H (G'.σ k) ∨ w.heap.size ≤ G'.σ k := fun {k y} hk hv hfz => hf.sup k y hk hv hfz rfl
  have hHn : HRel G2 F' (h' ++ L) w' := by
    refine ⟨fun k y hy => ?_, fun j k x y hj hk vj vk fj fk hes => ?_⟩
    · rcases hcase hy with ⟨hk, hy'⟩ | ⟨hk, hy'⟩
      · refine (hf.heap.obj k y hy').keep hlatN (fun _ h => h) (fun _ _ => rfl) (g2n hk) (fun _ => rfl) fun hv hfz => ?_
        exact hf.heap.nfz hy' hv hfz
      · have hob := hr.heap.obj k y hy'
        refine hob.keep hlatO hF' keepF (g2o hk) (fun hv => ?_) fun hv hfz => nF' hk hy' hv hfz
        by_cases hfz : fzO y = false
        · exact keepB _ (hr.heap.lt hy' hv) (hnL hk hy' hv hfz)
        · refine keepF _ ?_
          cases y with
          | raw z => exact absurd rfl hfz
          | o kd cs =>
            cases kd with
            | box => exact absurd rfl hfz
            | row e sz => exact absurd rfl hfz
            | fz =>
              rcases hob with ⟨e1, _⟩ | ⟨_, e1, _⟩
              · rw [hv] at e1; cases e1
              · exact e1
    · have mixed : ∀ {j k : Nat} {x y : AObj}, j < H.length → h'[j]? = some x → ¬ k < H.length → s.h[k]? = some y → G'.vir j = false → G.vir k = false → fzO x = false → fzO y = false → G'.σ j = G.σ k → False := fun {j k x y} hj hx hk hy vj vk fj fk he => by
        rcases hnewB hx vj fj with h1 | h1
        · rw [he] at h1; exact hnL hk hy vk fk h1
        · have := hr.heap.lt hy vk
          omega
      rcases hcase hj with ⟨j1, j2⟩ | ⟨j1, j2⟩ <;> rcases hcase hk with ⟨k1, k2⟩ | ⟨k1, k2⟩
      · exact hf.heap.inj j k x y j2 k2 ((g2n j1).2.2 ▸ vj) ((g2n k1).2.2 ▸ vk) fj fk ((g2n j1).1 ▸ (g2n k1).1 ▸ hes)
      · exact (mixed j1 j2 k1 k2 ((g2n j1).2.2 ▸ vj) ((g2o k1).2.2 ▸ vk) fj fk ((g2n j1).1 ▸ (g2o k1).1 ▸ hes)).elim
      · exact (mixed k1 k2 j1 j2 ((g2n k1).2.2 ▸ vk) ((g2o j1).2.2 ▸ vj) fk fj ((g2n k1).1 ▸ (g2o j1).1 ▸ hes.symm)).elim
      · exact hr.heap.inj j k x y j2 k2 ((g2o j1).2.2 ▸ vj) ((g2o k1).2.2 ▸ vk) fj fk ((g2o j1).1 ▸ (g2o k1).1 ▸ hes)
  have hsupL : ∀ b, lentB G H b → E.L b ∨ E.w0.heap.size ≤ b := fun b hL => by
    obtain ⟨k, x, _, hx, hv, hfz, rfl⟩ := hLc b hL
    exact hr.sup k x hx hv hfz (by rw [hE]; rfl)
  refine ⟨x, r, ⟨s.t, h' ++ L⟩, G2, F', he, ⟨hr.len, hr.def0.keep (fun D h1 h2 => ?_), fun i av v h1 h2 => (hr.slot i av v h1 h2).keep hlatO hF' keepF, hHn, hr.mod.mod hf.mod (fun i hi hL => (hsupL i hL).resolve_right (by omega)), fun k y hy hv hfz hho => ?_, fun b hb => ?_, fun b hb => hF' b (hr.f0 b hb), hf.fc, hr.lat.trans (hlatO.same _)⟩, hrr.keep hlatN (fun _ h => h) (fun _ _ => rfl), hK⟩
  · have hDs := lt_of_heap h2
    have hnLD : ¬ lentB G H D := fun hL => by
      obtain ⟨k, x, _, hx, hv, hfz, rfl⟩ := hLc D hL
      exact hr.heap.notDef hx hv h2
    refine ⟨fun hF1 => ?_, keepB D hDs hnLD⟩
    rcases hf.fsup _ hF1 with h3 | h3 | h3
    · exact h1 h3
    · exact hnLD h3
    · have h3 : w.heap.size ≤ D := h3
      omega
  · rcases hcase hy with ⟨hk, hy'⟩ | ⟨hk, hy'⟩
    · rw [(g2n hk).1]
      rcases hnewB hy' ((g2n hk).2.2 ▸ hv) hfz with h1 | h1
      · exact hsupL _ h1
      · have := hr.mod.size
        exact .inr (by omega)
    · rw [(g2o hk).1]
      exact hr.sup k y hy' ((g2o hk).2.2 ▸ hv) hfz hho
  · rcases hf.fsup b hb with h1 | h1 | h1
    · exact hr.fsup b h1
    · exact .inr (hsupL b h1)
    · have h1 : w.heap.size ≤ b := h1
      have := hr.mod.size
      exact .inr (.inr (by omega))
end
end Go.Proofs.Ytmgpiminicgbiaa
namespace Go.Proofs.Ytmgpiminicgbiaa
set_option linter.unusedVariables false
set_option linter.unusedSimpArgs false
open Go.RowKit
/-! ## Blocks renumbered, dropped, put in another order -/
section
variable {E : Env} {s : AS}
def pickG (G : Gh) (f : Nat → Nat) : Gh := ⟨fun k => G.σ (f k), fun k => G.bs (f k), fun k => G.vir (f k)⟩
theorem rebL_get (f : Nat → Nat) : ∀ (l : List AV) (j : Nat), (AV.rebL f l)[j]? = (l[j]?).map (AV.reb f)
  | [], j => by simp [AV.rebL]
  | v :: l, 0 => by simp [AV.rebL]
  | v :: l, j + 1 => by simp [AV.rebL, rebL_get f l j]
theorem rebL_len (f : Nat → Nat) (l : List AV) : (AV.rebL f l).length = l.length := by
  induction l with
  | nil => rfl
  | cons v l ih => simp [AV.rebL, ih]
/-- f tells where the block k was -/
theorem RepV.pick {G : Gh} {ln ln' : List Nat} {F : Nat → Prop} {w : World} {f : Nat → Nat} (hl : ∀ k, ln'[k]? = ln[f k]?) {u' : AV} {v : Value} (h : RepV G ln F w u' v) : ∀ {u : AV}, u' = AV.reb f u → RepV (pickG G f) ln' F w u v := by
  induction h with
  | any v => intro u hu; cases u <;> first | exact .any v | cases hu
  | d av v h =>
    intro u hu
    have : u = av := by
      cases h <;> (cases u <;> first | exact hu.symm | cases hu)
    subst this
    exact .d _ _ h
  | ptr h off m h1 h2 =>
    intro u hu
    cases u <;> first | (injection hu with e1 e2 e3; subst e1 e2 e3; exact .ptr _ _ _ ((hl _).trans h1) h2) | cases hu
  | ptrOld h off m m' p h1 h2 =>
    intro u hu
    cases u <;> first | (injection hu with e1 e2 e3; subst e1 e2 e3; exact .ptrOld _ _ _ m' _ ((hl _).trans h1) h2) | cases hu
  | mref h h1 h2 =>
    intro u hu
    cases u <;> first | (injection hu with e1; subst e1; exact .mref _ ((hl _).trans h1) h2) | cases hu
  | mrefOld h m' v h1 h2 =>
    intro u hu
    cases u <;> first | (injection hu with e1; subst e1; exact .mrefOld _ m' _ ((hl _).trans h1) h2) | cases hu
  | sl h sz off n m c h1 h2 h3 h4 h5 =>
    intro u hu
    cases u <;> first | (injection hu with e1 e2 e3 e4 e5; subst e1 e2 e3 e4 e5; exact .sl _ _ _ _ _ c ((hl _).trans h1) h2 h3 h4 h5) | cases hu
  | slNil h sz h1 h2 =>
    intro u hu
    cases u <;> first | (injection hu with e1 e2 e3 e4 e5; subst e1 e2 e3 e4 e5; exact .slNil _ _ ((hl _).trans h1) h2) | cases hu
  | slOld h sz off n m m' A l c h1 h2 =>
    intro u hu
    cases u <;> first | (injection hu with e1 e2 e3 e4 e5; subst e1 e2 e3 e4 e5; exact .slOld _ _ _ _ _ m' _ _ _ ((hl _).trans h1) h2) | cases hu
  | slc h sz off n m A l c h1 h2 ih =>
    intro u hu
    cases u with
    | slc k sz' off' n' m' =>
      injection hu with e1 e2 e3 e4 e5
      subst e1 e2 e3 e4 e5
      exact .slc _ _ _ _ _ _ _ _ (ih (u := .sl k sz off n m) rfl) fun e => h2 ((hl _).symm.trans e)
    | _ => cases hu
  | fp l b o g h1 h2 h3 =>
    intro u hu
    cases u <;> first | (injection hu with e1; subst e1; exact .fp _ _ _ g h1 h2 h3) | cases hu
  | agg l cs h1 _ ih =>
    intro u hu
    cases u with
    | agg l0 =>
      injection hu with e1
      subst e1
      refine .agg _ _ (by rw [← rebL_len f]; exact h1) fun j u x hj hx => ih j _ x (by rw [rebL_get, hj]; rfl) hx rfl
    | _ => cases hu
  | tup l cs h1 _ ih =>
    intro u hu
    cases u with
    | tup l0 =>
      injection hu with e1
      subst e1
      refine .tup _ _ (by rw [← rebL_len f]; exact h1) fun j u x hj hx => ih j _ x (by rw [rebL_get, hj]; rfl) hx rfl
    | _ => cases hu
  | clo g l k cs ds h1 h2 _ _ ih1 ih2 =>
    intro u hu
    cases u with
    | clo g0 l0 k0 =>
      injection hu with e0 e1 e2
      subst e0 e1 e2
      refine .clo _ _ _ _ _ (by rw [← rebL_len f]; exact h1) (by rw [← rebL_len f]; exact h2) (fun j u x hj hx => ih1 j _ x (by rw [rebL_get, hj]; rfl) hx rfl) fun j u x hj hx => ih2 j _ x (by rw [rebL_get, hj]; rfl) hx rfl
    | _ => cases hu
  | g b want u0 v _ h ih =>
    intro u hu
    cases u with
    | g b1 w1 u1 =>
      injection hu with e0 e1 e2
      subst e0 e1 e2
      exact .g _ _ _ _ (fun e => ih e rfl) h
    | _ => cases hu
theorem HRel.pick {G : Gh} {F : Nat → Prop} {h h' : List AObj} {w : World} {f : Nat → Nat} (hh : HRel G F h w) (hl : ∀ k, (lens h')[k]? = (lens h)[f k]?) (hinj : ∀ j k, j < h'.length → k < h'.length → f j = f k → j = k)
    (hobj : ∀ (k : Nat) (x : AObj), h'[k]? = some x → h[f k]? = some (rebO f x)) : HRel (pickG G f) F h' w := by
  have crel : ∀ {cs : List AV} {cur : Array Value}, CRel G (lens h) F w (AV.rebL f cs) cur → CRel (pickG G f) (lens h') F w cs cur := fun {cs cur} h1 j u hu =>
    let ⟨v, f1, f2⟩ := h1 j (AV.reb f u) (by rw [rebL_get, hu]; rfl)
    ⟨v, f1, f2.pick hl rfl⟩
  refine ⟨fun k x hk => ?_, fun j k x y hj hk vj vk fj fk he => ?_⟩
  · have hob := hh.obj (f k) _ (hobj k x hk)
    cases x with
    | raw z => exact hob
    | o kd cs =>
      rw [rebO_eq] at hob
      have hlen := rebL_len f cs
      cases kd with
      | box => obtain ⟨a1, a2, cur, ty, a3, a4, a5, a6⟩ := hob; exact ⟨a1, a2, cur, ty, a3, a4, by rw [← hlen]; exact a5, crel a6⟩
      | row e sz =>
        rcases hob with ⟨a1, a2⟩ | ⟨a1, a2, cur, c, a3, a4, a5, a6, a7, a8⟩
        · exact .inl ⟨a1, by rw [a2] at hlen; exact List.eq_nil_of_length_eq_zero hlen.symm⟩
        · exact .inr ⟨a1, a2, cur, c, a3, a4, a5, a6, by rw [← hlen]; exact a7, crel a8⟩
      | fz =>
        rcases hob with ⟨a1, a2⟩ | ⟨a1, a2, cur, ty, fr, a3, a4, a5, a6⟩
        · exact .inl ⟨a1, by rw [a2] at hlen; exact List.eq_nil_of_length_eq_zero hlen.symm⟩
        · exact .inr ⟨a1, a2, cur, ty, fr, a3, a4, by rw [← hlen]; exact a5, crel a6⟩
  · have fz : ∀ {x : AObj}, fzO (rebO f x) = fzO x := fun {x} => by
      cases x with
      | raw _ => rfl
      | o kd cs => rw [rebO_eq]; cases kd <;> rfl
    exact hinj j k (List.getElem?_eq_some_iff.1 hj).1 (List.getElem?_eq_some_iff.1 hk).1 (hh.inj (f j) (f k) _ _ (hobj j x hj) (hobj k y hk) vj vk (fz.trans fj) (fz.trans fk) he)
/-- **the blocks are numbered anew: f tells where each was; what is not named is dropped** -/
theorem wk_pick (f : Nat → Nat) {s' : AS} (hE : E.ho = noHo) (hl : ∀ k, (lens s'.h)[k]? = (lens s.h)[f k]?) (hinj : ∀ j k, j < s'.h.length → k < s'.h.length → f j = f k → j = k)
    (hobj : ∀ (k : Nat) (x : AObj), s'.h[k]? = some x → s.h[f k]? = some (rebO f x)) (ht : s.t = AV.rebL f s'.t) (hst : ∀ k, k < E.ln0.length → E.st k = true → f k = k) : Wk E s s' := by
  intro a w ⟨G, F, hr⟩
  have fz : ∀ {x : AObj}, fzO (rebO f x) = fzO x := fun {x} => by
    cases x with
    | raw _ => rfl
    | o kd cs => rw [rebO_eq]; cases kd <;> rfl
  refine ⟨pickG G f, F, by rw [hr.len, ht, rebL_len], hr.def0, fun i av v h1 h2 => ?_, hr.heap.pick hl hinj hobj, hr.mod, fun k x hk hv hf hh => ?_, hr.fsup, hr.f0, hr.fc, fun k m hs hk => ?_⟩
  · refine (hr.slot i (AV.reb f av) v ?_ h2).pick hl rfl
    rw [ht, rebL_get, h1]; rfl
  · exact hr.sup (f k) _ (hobj k x hk) hv (fz.trans hf) (by rw [hE]; rfl)
  · have hkl : k < E.ln0.length := (List.getElem?_eq_some_iff.1 hk).1
    have e := hst k hkl hs
    have q := hr.lat k m hs hk
    rw [hl k, e]
    show (_ ∧ G.σ (f k) = _ ∧ G.bs (f k) = _ ∧ G.vir (f k) = _) ∨ _
    rw [e]
    exact q
end
end Go.Proofs.Ytmgpiminicgbiaa
namespace Go.Proofs.Ytmgpiminicgbiaa
set_option linter.unusedVariables false
set_option linter.unusedSimpArgs false
open Go.RowKit
/-! ## A call to which the first blocks are lent, and after which some of these (dead) are no more what they were -/
section
variable {P : Program} {E : Env} {s : AS}
theorem ORel.keepL {G G' : Gh} {ln ln' : List Nat} {F F' : Nat → Prop} {w w' : World} {k : Nat} {x : AObj} {dead : List Nat} (h : ORel G ln F w k x) (hl : ∀ (k m : Nat), k ∉ dead → ln[k]? = some m → (ln'[k]? = some m ∧ G'.σ k = G.σ k ∧ G'.bs k = G.bs k ∧ G'.vir k = G.vir k) ∨ ∃ m', ln'[k]? = some m' ∧ m < m') (hF : ∀ b, F b → F' b) (hw : ∀ b, F b → w'.heap[b]? = w.heap[b]?) (hlv : livO dead x = true)
    (hG : G'.σ k = G.σ k ∧ G'.bs k = G.bs k ∧ G'.vir k = G.vir k) (hb : G.vir k = false → w'.heap[G.σ k]? = w.heap[G.σ k]?) (hnF : G.vir k = false → fzO x = false → ¬ F' (G.σ k)) : ORel G' ln' F' w' k x := by
  obtain ⟨g1, g2, g3⟩ := hG
  cases x with
  | raw s => exact ⟨g3.trans h.1, by rw [g1]; exact hnF h.1 rfl, by rw [g1, hb h.1]; exact h.2.2⟩
  | o kd cs =>
    have hlc := livO_at hlv
    have crel : ∀ {cur : Array Value}, CRel G ln F w cs cur → CRel G' ln' F' w' cs cur := fun h1 j u hu => let ⟨v, f1, f2⟩ := h1 j u hu; ⟨v, f1, RepV.keepL hl hF hw f2 (hlc j u hu)⟩
    cases kd with
    | box =>
      obtain ⟨h0, hn, cur, ty, h1, h2, h3, h4⟩ := h
      exact ⟨g3.trans h0, by rw [g1]; exact hnF h0 rfl, cur, ty, by rw [g1]; exact (hb h0).trans h1, by rw [g2]; exact h2, by rw [g2]; exact h3, crel h4⟩
    | row e sz =>
      rcases h with ⟨h0, h1⟩ | ⟨h0, hn, cur, c, h1, h2, h3, h4, h5, h6⟩
      · exact .inl ⟨g3.trans h0, h1⟩
      · exact .inr ⟨g3.trans h0, by rw [g1]; exact hnF h0 rfl, cur, c, by rw [g1]; exact (hb h0).trans h1, by rw [g2]; exact h2, by rw [g2]; exact h3, h4, by rw [g2]; exact h5, crel h6⟩
    | fz =>
      rcases h with ⟨h0, h1⟩ | ⟨h0, hn, cur, ty, fr, h1, h2, h3, h4⟩
      · exact .inl ⟨g3.trans h0, h1⟩
      · exact .inr ⟨g3.trans h0, by rw [g1]; exact hF _ hn, cur, ty, fr, by rw [g1]; exact (hb h0).trans h1, by rw [g2]; exact h2, h3, crel h4⟩
theorem call_alld (dead : List Nat) {g : FuncId} {args : List AV} {K : AV → AS → Prop} {H L H' : List AObj} {st : Nat → Bool} {v : AV} (hs : s.h = H ++ L)
    (hc : ACalls P g args H st (fun r h' => r = v ∧ h' = H')) (hl : H'.length = H.length) (hst : ∀ i, i < H.length → st i = true ∨ i ∈ dead) (hE : ∀ k, k < H.length → E.ho k = false)
    (hdt : AV.livL dead s.t = true) (hdo : ∀ x ∈ L, livO dead x = true) (hde : ∀ k ∈ dead, k < H.length ∧ (E.st k = false ∨ E.ln0.length ≤ k))
    (hla : AV.livL (List.range' H.length L.length) args = true) (hlh : livH (List.range' H.length L.length) [] 0 H = true) (hK : K v ⟨s.t, H' ++ L⟩) : CallG P E g args s K := by
  intro G F a w vs hr hlen hrep
  have hget1 : ∀ {k : Nat} {x : AObj}, H[k]? = some x → s.h[k]? = some x := fun {k x} hk => by
    rw [hs, List.getElem?_append_left (List.getElem?_eq_some_iff.1 hk).1]; exact hk
  have hget2 : ∀ {k : Nat} {x : AObj}, L[k]? = some x → s.h[H.length + k]? = some x := fun {k x} hk => by
    rw [hs, List.getElem?_append_right (by omega), show H.length + k - H.length = k by omega]; exact hk
  have hlens : ∀ k, k < H.length → (lens s.h)[k]? = (lens H)[k]? := fun k hk => by
    simp only [lens, List.getElem?_map]
    rw [hs, List.getElem?_append_left hk]
  have hslen : s.h.length = H.length + L.length := by rw [hs]; simp
  have hdown : ∀ (k m : Nat), k ∉ List.range' H.length L.length → (lens s.h)[k]? = some m → ((lens H)[k]? = some m ∧ G.σ k = G.σ k ∧ G.bs k = G.bs k ∧ G.vir k = G.vir k) ∨ ∃ m', (lens H)[k]? = some m' ∧ m < m' := fun k m hk hm => by
    have hkl : k < s.h.length := by
      have := (List.getElem?_eq_some_iff.1 hm).1
      simpa [lens] using this
    have hkn : k < H.length := by
      rcases Nat.lt_or_ge k H.length with h | h
      · exact h
      · exact absurd (by rw [List.mem_range'_1]; omega) hk
    exact .inl ⟨(hlens k hkn).symm.trans hm, rfl, rfl, rfl⟩
  have keepD : ∀ {av : AV} {v : Value}, RepV G (lens s.h) F w av v → av.liv (List.range' H.length L.length) = true → RepV G (lens H) F w av v := fun h hv => RepV.keepL hdown (fun _ h => h) (fun _ _ => rfl) h hv
  have hH : HRel G F H w := by
    refine ⟨fun k x hk => ?_, fun j k x y hj hk vj vk fj fk he => hr.heap.inj j k x y (hget1 hj) (hget1 hk) vj vk fj fk he⟩
    have hob := hr.heap.obj k x (hget1 hk)
    have hlv := livH_at hlh k x hk (by simp)
    have crel : ∀ {cs : List AV} {cur : Array Value}, CRel G (lens s.h) F w cs cur → (∀ (j : Nat) (u : AV), cs[j]? = some u → u.liv (List.range' H.length L.length) = true) → CRel G (lens H) F w cs cur := fun h1 h2 j u hu => let ⟨v, f1, f2⟩ := h1 j u hu; ⟨v, f1, keepD f2 (h2 j u hu)⟩
    cases x with
    | raw sx => exact hob
    | o kd cs =>
      have hlc := livO_at hlv
      cases kd with
      | box => obtain ⟨a1, a2, cur, ty, a3, a4, a5, a6⟩ := hob; exact ⟨a1, a2, cur, ty, a3, a4, a5, crel a6 hlc⟩
      | row e sz =>
        rcases hob with ⟨a1, a2⟩ | ⟨a1, a2, cur, c, a3, a4, a5, a6, a7, a8⟩
        · exact .inl ⟨a1, a2⟩
        · exact .inr ⟨a1, a2, cur, c, a3, a4, a5, a6, a7, crel a8 hlc⟩
      | fz =>
        rcases hob with ⟨a1, a2⟩ | ⟨a1, a2, cur, ty, fr, a3, a4, a5, a6⟩
        · exact .inl ⟨a1, a2⟩
        · exact .inr ⟨a1, a2, cur, ty, fr, a3, a4, a5, crel a6 hlc⟩
  refine (hc G F w vs hH hr.fc ⟨hlen, fun j u x hu hx => keepD (hrep j u x hu hx) (livL_at hla j u hu)⟩).mono fun e w' ⟨x, r, h', G', F', he, hf, hrr, hsame, hp1, hp2⟩ => ?_
  subst hp1 hp2
  let G2 : Gh := ⟨fun k => if k < H.length then G'.σ k else G.σ k, fun k => if k < H.length then G'.bs k else G.bs k, fun k => if k < H.length then G'.vir k else G.vir k⟩
  have g2n : ∀ {k : Nat}, k < H.length → G2.σ k = G'.σ k ∧ G2.bs k = G'.bs k ∧ G2.vir k = G'.vir k := fun {k} hk => ⟨if_pos hk, if_pos hk, if_pos hk⟩
  have g2o : ∀ {k : Nat}, ¬ k < H.length → G2.σ k = G.σ k ∧ G2.bs k = G.bs k ∧ G2.vir k = G.vir k := fun {k} hk => ⟨if_neg hk, if_neg hk, if_neg hk⟩
  have hLc : ∀ b, lentB G H b → ∃ k x, k < H.length ∧ s.h[k]? = some x ∧ G.vir k = false ∧ fzO x = false ∧ b = G.σ k := fun b ⟨k, x, hk, hv, hfz, hb⟩ => ⟨k, x, (List.getElem?_eq_some_iff.1 hk).1, hget1 hk, hv, hfz, hb⟩
  have keepB : ∀ b, b < w.heap.size → ¬ lentB G H b → w'.heap[b]? = w.heap[b]? := fun b hb hn => hf.mod.block b hb hn
  have hnL : ∀ {k : Nat} {x : AObj}, ¬ k < H.length → s.h[k]? = some x → G.vir k = false → fzO x = false → ¬ lentB G H (G.σ k) := fun {k x} hkn hk hv hfz hL => by
    obtain ⟨k', x', hk', hx', hv', hfz', he'⟩ := hLc _ hL
    have := hr.heap.inj k k' x x' hk hx' hv hv' hfz hfz' he'
    exact hkn (this ▸ hk')
  have hFL : ∀ b, F b → ¬ lentB G H b := fun b hb hL => by
    obtain ⟨k', x', hk', hx', hv', hfz', rfl⟩ := hLc _ hL
    exact hr.heap.nfz hx' hv' hfz' hb
  have keepF : ∀ b, F b → w'.heap[b]? = w.heap[b]? := fun b hb => keepB b (hr.flt b hb) (hFL b hb)
  have hF' : ∀ b, F b → F' b := fun b hb => hf.f0 b hb
  have hn' : ∀ k, k < H.length → (lens (h' ++ L))[k]? = (lens h')[k]? := fun k hk => by
    simp only [lens, List.getElem?_map]
    rw [List.getElem?_append_left (by omega)]
  have hlatN : Later G' G2 (lens h') (lens (h' ++ L)) := fun k m hm => by
    have hk : k < H.length := by
      have := (List.getElem?_eq_some_iff.1 hm).1
      simp [lens] at this; omega
    exact .inl ⟨(hn' k hk).trans hm, (g2n hk).1, (g2n hk).2.1, (g2n hk).2.2⟩
  have hlatO : ∀ (k m : Nat), k ∉ dead → (lens s.h)[k]? = some m → ((lens (h' ++ L))[k]? = some m ∧ G2.σ k = G.σ k ∧ G2.bs k = G.bs k ∧ G2.vir k = G.vir k) ∨ ∃ m', (lens (h' ++ L))[k]? = some m' ∧ m < m' := fun k m hd hm => by
    by_cases hk : k < H.length
    · rcases hsame k m ((hst k hk).resolve_right hd) ((hlens k hk).symm.trans hm) with ⟨e1, e2, e3, e4⟩ | ⟨m', e1, e2⟩
      · exact .inl ⟨(hn' k hk).trans e1, (g2n hk).1.trans e2, (g2n hk).2.1.trans e3, (g2n hk).2.2.trans e4⟩
      · exact .inr ⟨m', (hn' k hk).trans e1, e2⟩
    · refine .inl ⟨?_, (g2o hk).1, (g2o hk).2.1, (g2o hk).2.2⟩
      simp only [lens, List.getElem?_map] at hm ⊢
      rw [hs, List.getElem?_append_right (by omega)] at hm
      rw [List.getElem?_append_right (by omega), hl]
      exact hm
  have nF' : ∀ {k : Nat} {x : AObj}, ¬ k < H.length → s.h[k]? = some x → G.vir k = false → fzO x = false → ¬ F' (G.σ k) := fun {k x} hkn hk hv hfz hF1 => by
    rcases hf.fsup _ hF1 with h1 | h1 | h1
    · exact hr.heap.nfz hk hv hfz h1
    · exact hnL hkn hk hv hfz h1
    · have h2 := hr.heap.lt hk hv
      have h3 : w.heap.size ≤ G.σ k := h1
      omega
  have hcase : ∀ {k : Nat} {y : AObj}, (h' ++ L)[k]? = some y → (k < H.length ∧ h'[k]? = some y) ∨ (¬ k < H.length ∧ s.h[k]? = some y) := fun {k y} hk => by
    by_cases hkn : k < H.length
    · rw [List.getElem?_append_left (by omega)] at hk
      exact .inl ⟨hkn, hk⟩
    · rw [List.getElem?_append_right (by omega), hl] at hk
      refine .inr ⟨hkn, ?_⟩
      have := hget2 hk
      rwa [show H.length + (k - H.length) = k by omega] at this
  have hnewB : ∀ {k : Nat} {y : AObj}, h'[k]? = some y → G'.vir k = false → fzO y = false → lentB G H (G'.σ k) ∨ w.heap.size ≤ G'.σ k := fun {k y} hk hv hfz => hf.sup k y hk hv hfz rfl
  have hHn : HRel G2 F' (h' ++ L) w' := by
    refine ⟨fun k y hy => ?_, fun j k x y hj hk vj vk fj fk hes => ?_⟩
    · rcases hcase hy with ⟨hk, hy'⟩ | ⟨hk, hy'⟩
      · refine (hf.heap.obj k y hy').keep hlatN (fun _ h => h) (fun _ _ => rfl) (g2n hk) (fun _ => rfl) fun hv hfz => ?_
        exact hf.heap.nfz hy' hv hfz
      · have hob := hr.heap.obj k y hy'
        refine hob.keepL hlatO hF' keepF (hdo y (by rw [hs, List.getElem?_append_right (by omega)] at hy'; exact List.mem_of_getElem? hy')) (g2o hk) (fun hv => ?_) fun hv hfz => nF' hk hy' hv hfz
        by_cases hfz : fzO y = false
        · exact keepB _ (hr.heap.lt hy' hv) (hnL hk hy' hv hfz)
        · refine keepF _ ?_
          cases y with
          | raw z => exact absurd rfl hfz
          | o kd cs =>
            cases kd with
            | box => exact absurd rfl hfz
            | row e sz => exact absurd rfl hfz
            | fz =>
              rcases hob with ⟨e1, _⟩ | ⟨_, e1, _⟩
              · rw [hv] at e1; cases e1
              · exact e1
    · have mixed : ∀ {j k : Nat} {x y : AObj}, j < H.length → h'[j]? = some x → ¬ k < H.length → s.h[k]? = some y → G'.vir j = false → G.vir k = false → fzO x = false → fzO y = false → G'.σ j = G.σ k → False := fun {j k x y} hj hx hk hy vj vk fj fk he => by
        rcases hnewB hx vj fj with h1 | h1
        · rw [he] at h1; exact hnL hk hy vk fk h1
        · have := hr.heap.lt hy vk
          omega
      rcases hcase hj with ⟨j1, j2⟩ | ⟨j1, j2⟩ <;> rcases hcase hk with ⟨k1, k2⟩ | ⟨k1, k2⟩
      · exact hf.heap.inj j k x y j2 k2 ((g2n j1).2.2 ▸ vj) ((g2n k1).2.2 ▸ vk) fj fk ((g2n j1).1 ▸ (g2n k1).1 ▸ hes)
      · exact (mixed j1 j2 k1 k2 ((g2n j1).2.2 ▸ vj) ((g2o k1).2.2 ▸ vk) fj fk ((g2n j1).1 ▸ (g2o k1).1 ▸ hes)).elim
      · exact (mixed k1 k2 j1 j2 ((g2n k1).2.2 ▸ vk) ((g2o j1).2.2 ▸ vj) fk fj ((g2n k1).1 ▸ (g2o j1).1 ▸ hes.symm)).elim
      · exact hr.heap.inj j k x y j2 k2 ((g2o j1).2.2 ▸ vj) ((g2o k1).2.2 ▸ vk) fj fk ((g2o j1).1 ▸ (g2o k1).1 ▸ hes)
  have hsupL : ∀ b, lentB G H b → E.L b ∨ E.w0.heap.size ≤ b := fun b hL => by
    obtain ⟨k, x, hkl, hx, hv, hfz, rfl⟩ := hLc b hL
    exact hr.sup k x hx hv hfz (hE k hkl)
  refine ⟨x, r, ⟨s.t, h' ++ L⟩, G2, F', he, ⟨hr.len, hr.def0.keep (fun D h1 h2 => ?_), fun i av v h1 h2 => RepV.keepL hlatO hF' keepF (hr.slot i av v h1 h2) (livL_at hdt i av h1), hHn, hr.mod.mod hf.mod (fun i hi hL => (hsupL i hL).resolve_right (by omega)), fun k y hy hv hfz hho => ?_, fun b hb => ?_, fun b hb => hF' b (hr.f0 b hb), hf.fc, fun k m hks hkm => ?_⟩, hrr.keep hlatN (fun _ h => h) (fun _ _ => rfl), hK⟩
  · have hDs := lt_of_heap h2
    have hnLD : ¬ lentB G H D := fun hL => by
      obtain ⟨k, x, _, hx, hv, hfz, rfl⟩ := hLc D hL
      exact hr.heap.notDef hx hv h2
    refine ⟨fun hF1 => ?_, keepB D hDs hnLD⟩
    rcases hf.fsup _ hF1 with h3 | h3 | h3
    · exact h1 h3
    · exact hnLD h3
    · have h3 : w.heap.size ≤ D := h3
      omega
  · rcases hcase hy with ⟨hk, hy'⟩ | ⟨hk, hy'⟩
    · rw [(g2n hk).1]
      rcases hnewB hy' ((g2n hk).2.2 ▸ hv) hfz with h1 | h1
      · exact hsupL _ h1
      · have := hr.mod.size
        exact .inr (by omega)
    · rw [(g2o hk).1]
      exact hr.sup k y hy' ((g2o hk).2.2 ▸ hv) hfz hho
  · rcases hf.fsup b hb with h1 | h1 | h1
    · exact hr.fsup b h1
    · exact .inr (hsupL b h1)
    · have h1 : w.heap.size ≤ b := h1
      have := hr.mod.size
      exact .inr (.inr (by omega))
  · have hkl : k < E.ln0.length := (List.getElem?_eq_some_iff.1 hkm).1
    have hkd : k ∉ dead := fun hd => by
      rcases (hde k hd).2 with h | h
      · rw [hks] at h; cases h
      · omega
    rcases hr.lat k m hks hkm with ⟨e1, e2, e3, e4⟩ | ⟨m', e1, e2⟩
    · rcases hlatO k m hkd e1 with ⟨f1, f2, f3, f4⟩ | ⟨m', f1, f2⟩
      · exact .inl ⟨f1, f2.trans e2, f3.trans e3, f4.trans e4⟩
      · exact .inr ⟨m', f1, f2⟩
    · rcases hlatO k m' hkd e1 with ⟨f1, _⟩ | ⟨m'', f1, f2⟩
      · exact .inr ⟨m', f1, e2⟩
      · exact .inr ⟨m'', f1, Nat.lt_trans e2 f2⟩
theorem Clean.wkS {st : Nat → Bool} {h h2 h' : List AObj} {r r2 r' : AV} (hw : ∀ E : Env, E.ln0 = lens h → E.ho = noHo → E.st = st → Wk E ⟨[r], h⟩ ⟨[r2], h2⟩) (hc : Clean st h2 r2 h' r') : Clean st h r h' r' := by
  intro E G F w x hE hf hrep
  have hr : Rel ⟨E.w0, E.L, E.F0, G, lens h, st, E.ho, E.mks⟩ G F ⟨[r], h⟩ ⟨#[x], []⟩ w := Rel.mk' ⟨hf.heap, hf.mod, hf.sup, hf.fsup, hf.f0, hf.fc⟩ rfl rfl (fun i av v h1 h2 => by
    cases i with
    | zero => simp at h1 h2; subst h1 h2; exact hrep
    | succ i => simp at h1) ((Later.refl _ _).same _)
  obtain ⟨G2, F2, hr2⟩ := hw ⟨E.w0, E.L, E.F0, G, lens h, st, E.ho, E.mks⟩ rfl hE rfl _ w ⟨G, F, hr⟩
  have hrep2 := hr2.slot 0 r2 x rfl rfl
  obtain ⟨G', F', c1, c2, c3⟩ := hc E G2 F2 w x hE ⟨hr2.heap, hr2.mod, hr2.sup, hr2.fsup, hr2.f0, hr2.fc⟩ hrep2
  exact ⟨G', F', c1, c2, fun k m hs hm => by
    rcases hr2.lat k m hs hm with ⟨e1, e2, e3, e4⟩ | ⟨m', e1, e2⟩
    · rcases c3 k m hs e1 with ⟨f1, f2, f3, f4⟩ | ⟨m', f1, f2⟩
      · exact .inl ⟨f1, f2.trans e2, f3.trans e3, f4.trans e4⟩
      · exact .inr ⟨m', f1, f2⟩
    · rcases c3 k m' hs e1 with ⟨f1, _⟩ | ⟨m'', f1, f2⟩
      · exact .inr ⟨m', f1, e2⟩
      · exact .inr ⟨m'', f1, Nat.lt_trans e2 f2⟩⟩
/-- at a call's end: told otherwise (blocks numbered anew, frozen, dropped) -/
theorem Ret.wkS {st : Nat → Bool} {h h2 : List AObj} {r r2 : AV} {Post : AV → List AObj → Prop} (hw : ∀ E : Env, E.ln0 = lens h → E.ho = noHo → E.st = st → Wk E ⟨[r], h⟩ ⟨[r2], h2⟩) (hr : Ret st Post h2 r2) : Ret st Post h r := let ⟨h', r', hc, hp⟩ := hr; ⟨h', r', hc.wkS hw, hp⟩
end
end Go.Proofs.Ytmgpiminicgbiaa
namespace Go.Proofs.Ytmgpiminicgbiaa
set_option linter.unusedVariables false
set_option linter.unusedSimpArgs false
open Go.RowKit
/-! ## A call that works upon one element of a row whose other elements are not looked at, and upon rows that this element names -/
section
variable {P : Program} {E : Env} {s : AS}
def reD (E : Env) (dead : List Nat) (G : Gh) (F : Nat → Prop) (s : AS) (w : World) : Env := ⟨w, liveH G s.h [] E.ho, F, G, lens s.h, fun k => !dead.contains k, E.ho, E.mks⟩
theorem unbaseD {dead : List Nat} {G G' : Gh} {F F' : Nat → Prop} {a a' : Act} {w w' : World} {s' : AS} (hde : ∀ k ∈ dead, E.st k = false ∨ E.ln0.length ≤ k) (hr : Rel E G F s a w) (h : Rel (reD E dead G F s w) G' F' s' a' w') : Rel E G' F' s' a' w' := by
  have hL : ∀ b, liveH G s.h [] E.ho b → E.L b ∨ E.w0.heap.size ≤ b := fun b ⟨k, x, hk, hv, hf, hn, hb⟩ => by rw [hb]; exact hr.sup k x hk hv hf (by simp only [Bool.or_eq_false_iff] at hn; exact hn.2)
  have hws : E.w0.heap.size ≤ w.heap.size := hr.mod.size
  refine ⟨h.len, h.def0, h.slot, h.heap, hr.mod.mod h.mod fun i hi hl => (hL i hl).resolve_right (by omega), fun k x hk hv hf hh => ?_, fun b hb => ?_, fun b hb => h.f0 b (hr.f0 b hb), h.fc, fun k m hs hk => ?_⟩
  · rcases h.sup k x hk hv hf hh with h1 | h1
    · exact hL _ h1
    · have h2 : w.heap.size ≤ G'.σ k := h1
      exact .inr (by omega)
  · rcases h.fsup b hb with h1 | h1 | h1
    · exact hr.fsup b h1
    · rcases hL b h1 with h2 | h2
      · exact .inr (.inl h2)
      · exact .inr (.inr h2)
    · have h2 : w.heap.size ≤ b := h1
      exact .inr (.inr (by omega))
  · have hkl : k < E.ln0.length := (List.getElem?_eq_some_iff.1 hk).1
    have hkd : k ∉ dead := fun hd => by
      rcases hde k hd with h | h
      · rw [hs] at h; cases h
      · omega
    have hsd : (reD E dead G F s w).st k = true := by
      show (!dead.contains k) = true
      simpa using hkd
    rcases hr.lat k m hs hk with ⟨e1, e2, e3, e4⟩ | ⟨m', e1, e2⟩
    · rcases h.lat k m hsd e1 with ⟨f1, f2, f3, f4⟩ | ⟨m', f1, f2⟩
      · exact .inl ⟨f1, f2.trans e2, f3.trans e3, f4.trans e4⟩
      · exact .inr ⟨m', f1, f2⟩
    · rcases h.lat k m' hsd e1 with ⟨f1, _⟩ | ⟨m'', f1, f2⟩
      · exact .inr ⟨m', f1, e2⟩
      · exact .inr ⟨m'', f1, Nat.lt_trans e2 f2⟩
def valsAt (cur : Array Value) (o n : Nat) : List Value := (List.range n).map fun j => (cur[o + j]?).getD undef
theorem valsAt_len (cur : Array Value) (o n : Nat) : (valsAt cur o n).length = n := by simp [valsAt]
theorem valsAt_get {cur : Array Value} {o n j : Nat} (hj : j < n) : ((valsAt cur o n).map AV.c)[j]? = some (.c ((cur[o + j]?).getD undef)) := by
  simp [valsAt, hj]
theorem call_foc (dead : List Nat) {g : FuncId} {args : List AV} {K : AV → AS → Prop} {e sz : Nat} {pre mid mid' post : List AV} {B B' L : List AObj} {st : Nat → Bool} {v : AV} (hs : s.h = .o (.row e sz) (pre ++ (mid ++ post)) :: (B ++ L))
    (hc : ∀ pv qv : List Value, pv.length = pre.length → qv.length = post.length → ACalls P g args (.o (.row e sz) (pv.map .c ++ (mid ++ qv.map .c)) :: B) st (fun r h' => r = v ∧ h' = .o (.row e sz) (pv.map .c ++ (mid' ++ qv.map .c)) :: B'))
    (hl : B'.length = B.length) (hml : mid'.length = mid.length) (hm0 : 0 < mid.length) (hst : ∀ i, i < B.length + 1 → st i = true ∨ i ∈ dead) (hE : ∀ k, k < B.length + 1 → E.ho k = false)
    (hdt : AV.livL dead s.t = true) (hdo : ∀ x ∈ L, livO dead x = true) (hdp : AV.livL dead pre = true) (hdq : AV.livL dead post = true) (hde : ∀ k ∈ dead, k < B.length + 1 ∧ (E.st k = false ∨ E.ln0.length ≤ k))
    (hla : AV.livL (List.range' (B.length + 1) L.length) args = true) (hlm : AV.livL (List.range' (B.length + 1) L.length) mid = true) (hlb : livH (List.range' (B.length + 1) L.length) [] 0 B = true)
    (hK : K v ⟨s.t, .o (.row e sz) (pre ++ (mid' ++ post)) :: (B' ++ L)⟩) : CallG P E g args s K := by
  intro G F a w vs hr hlen hrep
  have h0 : s.h[0]? = some (.o (.row e sz) (pre ++ (mid ++ post))) := by rw [hs]; rfl
  have hsuc : ∀ k, s.h[k + 1]? = (B ++ L)[k]? := fun k => by rw [hs]; rfl
  rcases hr.heap.obj 0 _ h0 with ⟨_, a2⟩ | ⟨a1, a2, cur, c, a3, a4, a5, a6, a7, a8⟩
  · have := congrArg List.length a2; simp only [List.length_append, List.length_nil] at this; omega
  obtain ⟨pv, hpv⟩ : ∃ pv, pv = valsAt cur 0 pre.length := ⟨_, rfl⟩
  obtain ⟨qv, hqv⟩ : ∃ qv, qv = valsAt cur (pre.length + mid.length) post.length := ⟨_, rfl⟩
  have hpl : pv.length = pre.length := by rw [hpv, valsAt_len]
  have hql : qv.length = post.length := by rw [hqv, valsAt_len]
  obtain ⟨hM, hhM⟩ : ∃ hM : List AObj, hM = .o (.row e sz) (pv.map .c ++ (mid ++ qv.map .c)) :: (B ++ L) := ⟨_, rfl⟩
  have hlnM : lens hM = lens s.h := by rw [hhM, hs]; simp [lens, lnO, hpl, hql]
  have hMs : ∀ k, hM[k + 1]? = s.h[k + 1]? := fun k => by rw [hhM, hsuc]; rfl
  have hM0 : hM[0]? = some (.o (.row e sz) (pv.map .c ++ (mid ++ qv.map .c))) := by rw [hhM]; rfl
  have hcurlen : pre.length + mid.length + post.length ≤ cur.size := by simp at a7; omega
  have crelM : CRel G (lens hM) F w (pv.map .c ++ (mid ++ qv.map .c)) cur := fun j u hu => by
    rw [hlnM]
    by_cases h1 : j < pre.length
    · rw [List.getElem?_append_left (by simp [hpl]; omega), hpv, valsAt_get h1] at hu
      injection hu with hu; subst hu
      have hjc : j < cur.size := by omega
      exact ⟨cur[j], Array.getElem?_eq_getElem hjc, by rw [Nat.zero_add, Array.getElem?_eq_getElem hjc]; exact .cc _⟩
    · rw [List.getElem?_append_right (by simp [hpl]; omega)] at hu
      simp only [List.length_map, hpl] at hu
      by_cases h2 : j - pre.length < mid.length
      · rw [List.getElem?_append_left h2] at hu
        refine a8 j u ?_
        rw [List.getElem?_append_right (by omega), List.getElem?_append_left h2]; exact hu
      · rw [List.getElem?_append_right (by omega)] at hu
        have hj3 : j - pre.length - mid.length < post.length := by
          have := (List.getElem?_eq_some_iff.1 hu).1
          simp [hql] at this; omega
        rw [hqv, valsAt_get hj3] at hu
        injection hu with hu; subst hu
        have hjc : j < cur.size := by omega
        have e1 : pre.length + mid.length + (j - pre.length - mid.length) = j := by omega
        exact ⟨cur[j], Array.getElem?_eq_getElem hjc, by rw [e1, Array.getElem?_eq_getElem hjc]; exact .cc _⟩
  have hheap : HRel G F hM w := by
    refine ⟨fun k x hk => ?_, fun j k x y hj hk vj vk fj fk he => ?_⟩
    · rw [hlnM]
      cases k with
      | zero =>
        rw [hM0] at hk; injection hk with hk; subst hk
        exact .inr ⟨a1, a2, cur, c, a3, a4, a5, a6, by simp [hpl, hql] at a7 ⊢; omega, by rw [← hlnM]; exact crelM⟩
      | succ k => rw [hMs] at hk; exact hr.heap.obj _ x hk
    · have hx : ∃ x', s.h[j]? = some x' ∧ fzO x' = false := by
        cases j with
        | zero => exact ⟨_, h0, rfl⟩
        | succ j => rw [hMs] at hj; exact ⟨x, hj, fj⟩
      have hy : ∃ x', s.h[k]? = some x' ∧ fzO x' = false := by
        cases k with
        | zero => exact ⟨_, h0, rfl⟩
        | succ k => rw [hMs] at hk; exact ⟨y, hk, fk⟩
      obtain ⟨x', hx1, hx2⟩ := hx
      obtain ⟨y', hy1, hy2⟩ := hy
      exact hr.heap.inj j k x' y' hx1 hy1 vj vk hx2 hy2 he
  have hsupM : ∀ k x, hM[k]? = some x → G.vir k = false → fzO x = false → E.ho k = false → liveH G s.h [] E.ho (G.σ k) := fun k x hk hv hf hh => by
    cases k with
    | zero => exact ⟨0, _, h0, hv, rfl, by simpa using hh, rfl⟩
    | succ k => rw [hMs] at hk; exact ⟨k + 1, x, hk, hv, hf, by simpa using hh, rfl⟩
  have hrM : Rel (reD E dead G F s w) G F ⟨s.t, hM⟩ a w :=
    ⟨hr.len, hr.def0, fun i av v h1 h2 => by simp only; rw [hlnM]; exact hr.slot i av v h1 h2, hheap, Mod.refl _ _, fun k x hk hv hf hh => .inl (hsupM k x hk hv hf hh), fun b hb => .inl hb, fun b hb => hb, hr.fc, by simp only; rw [hlnM]; exact (Later.refl _ _).same _⟩
  have hcall := call_alld (P := P) (E := reD E dead G F s w) (s := ⟨s.t, hM⟩) dead (g := g) (args := args) (K := fun r s' => r = v ∧ s' = ⟨s.t, .o (.row e sz) (pv.map AV.c ++ (mid' ++ qv.map AV.c)) :: (B' ++ L)⟩)
    (H := .o (.row e sz) (pv.map AV.c ++ (mid ++ qv.map AV.c)) :: B) (L := L) (H' := .o (.row e sz) (pv.map AV.c ++ (mid' ++ qv.map AV.c)) :: B') (by simp only; rw [hhM]; rfl) (hc pv qv hpl hql) (by simp [hl]) (by simpa using hst) (fun k hk => (hE k (by simpa using hk) : E.ho k = false)) hdt hdo
    (fun k hk => ⟨by simpa using (hde k hk).1, .inl (by show (!dead.contains k) = false; simpa using hk)⟩) (by simpa using hla)
    (by
      simp only [livH, Bool.and_eq_true, Bool.or_eq_true, List.length_cons]
      refine ⟨.inr ?_, ?_⟩
      · simp only [livO, Bool.or_eq_true]
        right
        have lc : ∀ (d : List Nat) (l : List Value), AV.livL d (l.map .c) = true := fun d l => by induction l with | nil => simp [AV.livL] | cons x l ih => simp [AV.livL, AV.liv, ih]
        have la : ∀ (d : List Nat) (x y : List AV), AV.livL d x = true → AV.livL d y = true → AV.livL d (x ++ y) = true := fun d x y h1 h2 => by
          induction x with
          | nil => simpa using h2
          | cons u x ih => simp only [List.cons_append, AV.livL, Bool.and_eq_true] at h1 ⊢; exact ⟨h1.1, ih h1.2⟩
        exact la _ _ _ (lc _ _) (la _ _ _ hlm (lc _ _))
      · have sh : ∀ (d : List Nat) (h : List AObj) (i j : Nat), livH d [] i h = livH d [] j h := fun d h => by induction h with | nil => intro i j; rfl | cons x h ih => intro i j; simp only [livH, List.contains_nil, Bool.false_or]; rw [ih (i + 1) (j + 1)]
        rw [sh _ B (0 + 1) 0]; exact hlb)
    ⟨rfl, rfl⟩
  refine (hcall G F a w vs hrM hlen (fun j u x hu hx => by simp only; rw [hlnM]; exact hrep j u x hu hx)).mono fun ex w' ⟨x, r, s', G', F', he, h, hrr, hq1, hq2⟩ => ?_
  subst hq1 hq2
  obtain ⟨hN, hhN⟩ : ∃ hN : List AObj, hN = .o (.row e sz) (pv.map .c ++ (mid' ++ qv.map .c)) :: (B' ++ L) := ⟨_, rfl⟩
  obtain ⟨hR, hhR⟩ : ∃ hR : List AObj, hR = .o (.row e sz) (pre ++ (mid' ++ post)) :: (B' ++ L) := ⟨_, rfl⟩
  rw [← hhN] at h hrr
  have hlnR : lens hR = lens hN := by rw [hhR, hhN]; simp [lens, lnO, hpl, hql]
  have hRs : ∀ k, hR[k + 1]? = hN[k + 1]? := fun k => by rw [hhR, hhN]; rfl
  have hN0 : hN[0]? = some (.o (.row e sz) (pv.map .c ++ (mid' ++ qv.map .c))) := by rw [hhN]; rfl
  have hR0 : hR[0]? = some (.o (.row e sz) (pre ++ (mid' ++ post))) := by rw [hhR]; rfl
  have hlat : ∀ (k m : Nat), k ∉ dead → (lens s.h)[k]? = some m → ((lens hN)[k]? = some m ∧ G'.σ k = G.σ k ∧ G'.bs k = G.bs k ∧ G'.vir k = G.vir k) ∨ ∃ m', (lens hN)[k]? = some m' ∧ m < m' := fun k m hd hm => h.lat k m (by show (!dead.contains k) = true; simpa using hd) hm
  have hFF : ∀ b, F b → F' b := fun b hb => h.f0 b hb
  have hFw : ∀ b, F b → w'.heap[b]? = w.heap[b]? := fun b hb => h.mod.block b (hr.flt b hb) fun ⟨k, y, hk, hv, hf, _, hb'⟩ => hr.heap.nfz hk hv hf (hb' ▸ hb)
  have keepV : ∀ {av : AV} {x : Value}, RepV G (lens s.h) F w av x → av.liv dead = true → RepV G' (lens hN) F' w' av x := fun h1 h2 => RepV.keepL hlat hFF hFw h1 h2
  have hheapR : HRel G' F' hR w' := by
    refine ⟨fun k y hk => ?_, fun j k y z hj hk vj vk fj fk he => ?_⟩
    · rw [hlnR]
      cases k with
      | succ k => rw [hRs] at hk; exact h.heap.obj _ y hk
      | zero =>
        rw [hR0] at hk; injection hk with hk; subst hk
        rcases h.heap.obj 0 _ hN0 with ⟨_, b2⟩ | ⟨b1, b2, cur', c', b3, b4, b5, b6, b7, b8⟩
        · have := congrArg List.length b2; simp only [List.length_append, List.length_nil, List.length_map] at this; omega
        · refine .inr ⟨b1, b2, cur', c', b3, b4, b5, b6, by simp [hpl, hql] at b7 ⊢; omega, fun j u hu => ?_⟩
          by_cases h1 : j < pre.length
          · rw [List.getElem?_append_left h1] at hu
            obtain ⟨x1, x2, x3⟩ := b8 j (.c ((cur[0 + j]?).getD undef)) (by rw [List.getElem?_append_left (by simp [hpl]; omega), hpv]; exact valsAt_get h1)
            obtain ⟨y1, y2, y3⟩ := a8 j u (by rw [List.getElem?_append_left h1]; exact hu)
            refine ⟨x1, x2, ?_⟩
            rw [x3.c_inv, Nat.zero_add, y2]
            exact keepV y3 (livL_at hdp j u hu)
          · rw [List.getElem?_append_right (by omega)] at hu
            by_cases h2 : j - pre.length < mid'.length
            · rw [List.getElem?_append_left h2] at hu
              refine b8 j u ?_
              rw [List.getElem?_append_right (by simp [hpl]; omega), List.getElem?_append_left (by simp [hpl]; exact h2)]
              simpa [hpl] using hu
            · rw [List.getElem?_append_right (by omega)] at hu
              have hj3 : j - pre.length - mid'.length < post.length := (List.getElem?_eq_some_iff.1 hu).1
              obtain ⟨x1, x2, x3⟩ := b8 j (.c ((cur[pre.length + mid.length + (j - pre.length - mid'.length)]?).getD undef)) (by
                rw [List.getElem?_append_right (by simp [hpl]; omega), List.getElem?_append_right (by simp [hpl]; omega), hqv]
                simp only [List.length_map, hpl]
                exact valsAt_get hj3)
              obtain ⟨y1, y2, y3⟩ := a8 j u (by rw [List.getElem?_append_right (by omega), List.getElem?_append_right (by omega), ← hml]; exact hu)
              refine ⟨x1, x2, ?_⟩
              rw [x3.c_inv, show pre.length + mid.length + (j - pre.length - mid'.length) = j by omega, y2]
              exact keepV y3 (livL_at hdq _ u hu)
    · have hx : ∃ x', hN[j]? = some x' ∧ fzO x' = false := by
        cases j with
        | zero => exact ⟨_, hN0, rfl⟩
        | succ j => rw [hRs] at hj; exact ⟨y, hj, fj⟩
      have hy : ∃ x', hN[k]? = some x' ∧ fzO x' = false := by
        cases k with
        | zero => exact ⟨_, hN0, rfl⟩
        | succ k => rw [hRs] at hk; exact ⟨z, hk, fk⟩
      obtain ⟨x', hx1, hx2⟩ := hx
      obtain ⟨y', hy1, hy2⟩ := hy
      exact h.heap.inj j k x' y' hx1 hy1 vj vk hx2 hy2 he
  have hrR : Rel (reD E dead G F s w) G' F' ⟨s.t, hR⟩ a w' :=
    ⟨h.len, h.def0, fun i av v h1 h2 => by simp only; rw [hlnR]; exact h.slot i av v h1 h2, hheapR, h.mod, fun k y hk hv hf hh => by
      cases k with
      | zero => exact h.sup 0 _ hN0 hv rfl hh
      | succ k => rw [hRs] at hk; exact h.sup (k + 1) y hk hv hf hh, h.fsup, h.f0, h.fc, by simp only; rw [hlnR]; exact h.lat⟩
  exact ⟨x, r, ⟨s.t, hR⟩, G', F', he, unbaseD (fun k hk => (hde k hk).2) hr hrR, by simp only; rw [hlnR]; exact hrr, by rw [hhR]; exact hK⟩
end
end Go.Proofs.Ytmgpiminicgbiaa
namespace Go.Proofs.Ytmgpiminicgbiaa
set_option linter.unusedVariables false
set_option linter.unusedSimpArgs false
open Go.RowKit
/-! ## A function that is called with a row that lives: proved with the row told to its capacity's end, used with the row as far as it is known -/
section
variable {P : Program}
theorem acalls_cap {f : FuncId} {e sz n n2 m : Nat} {cs res : List AV} {rest : List Value} (hcs : cs.length = m) (hnm : n * sz = m) (h0 : 0 < m) (hres : res.length = m) (hd : res.all isD = true)
    (H : ∀ q, n ≤ q → q ≤ maxLen → ACalls P f (.slc 0 sz 0 n (q * sz) :: rest.map .c) [.o (.row e sz) (cs ++ spare ((q - n) * sz))] (fun k => decide (k < 1)) (fun r h' => r = .sl 0 sz 0 n2 (q * sz) ∧ ∃ L, h' = [.o (.row e sz) L] ∧ L.length = q * sz ∧ L.take m = res)) :
    ACalls P f (.sl 0 sz 0 n m :: rest.map .c) [.o (.row e sz) cs] (fun k => decide (k < 1)) (fun r h' => r = .sl 0 sz 0 n2 m ∧ h' = [.o (.row e sz) res]) := by
  intro G F w vs hh hf ⟨hl, hr⟩
  have hvl : 0 < vs.size := by rw [← hl]; simp
  have hln : (lens [AObj.o (.row e sz) cs])[0]? = some m := by simp [lens, lnO, hcs]
  have hsl := hr 0 _ _ rfl (Array.getElem?_eq_getElem hvl)
  rcases sl_inv hsl hln with ⟨_, _, _, hm0, _⟩ | ⟨hv, c, hxe, c1, c2, c3⟩
  · omega
  have hle : n * sz ≤ c * sz := Nat.mul_le_mul_right _ c1
  have hsub : (c - n) * sz = c * sz - n * sz := Nat.sub_mul _ _ _
  have hcl : (cs ++ spare ((c - n) * sz)).length = c * sz := by rw [List.length_append, spare_length]; omega
  have hln2 : (lens [AObj.o (.row e sz) (cs ++ spare ((c - n) * sz))])[0]? = some (c * sz) := by simp [lens, lnO, hcs, spare_length]; omega
  have hlater : Later G G (lens [AObj.o (.row e sz) cs]) (lens [AObj.o (.row e sz) (cs ++ spare ((c - n) * sz))]) := by
    intro j m' hj
    cases j with
    | zero =>
      rw [hln] at hj; injection hj with hj; subst hj
      rcases Nat.lt_or_ge m (c * sz) with h | h
      · exact .inr ⟨_, hln2, h⟩
      · exact .inl ⟨by rw [hln2]; congr 1; omega, rfl, rfl, rfl⟩
    | succ j => simp [lens] at hj
  have hH : HRel G F [AObj.o (.row e sz) (cs ++ spare ((c - n) * sz))] w := by
    refine ⟨fun j y hy => ?_, fun j i y z hj hi _ _ _ _ _ => ?_⟩
    · cases j with
      | succ j => simp at hy
      | zero =>
        simp at hy; subst hy
        rcases hh.obj 0 _ rfl with ⟨a1, _⟩ | ⟨a1, a2, cur, c', a3, a4, a5, a6, a7, a8⟩
        · rw [hv] at a1; cases a1
        · refine .inr ⟨a1, a2, cur, c', a3, a4, a5, a6, by rw [hcl]; omega, fun q u hu => ?_⟩
          by_cases hq : q < cs.length
          · rw [List.getElem?_append_left hq] at hu
            obtain ⟨v, f1, f2⟩ := a8 q u hu
            exact ⟨v, f1, f2.keep hlater (fun _ h => h) fun _ _ => rfl⟩
          · have hql : q < (cs ++ spare ((c - n) * sz)).length := (List.getElem?_eq_some_iff.1 hu).1
            rw [List.getElem?_append_right (by omega)] at hu
            have : u = .any := by
              unfold spare at hu
              rw [List.getElem?_replicate] at hu
              split at hu
              · injection hu with hu; exact hu.symm
              · cases hu
            subst this
            have hlt : q < cur.size := by rw [hcl] at hql; omega
            exact ⟨cur[q], Array.getElem?_eq_getElem hlt, .any _⟩
    · have : j = 0 := by have := (List.getElem?_eq_some_iff.1 hj).1; simpa using this
      have : i = 0 := by have := (List.getElem?_eq_some_iff.1 hi).1; simpa using this
      omega
  have hRL : RepL G (lens [AObj.o (.row e sz) (cs ++ spare ((c - n) * sz))]) F w (.slc 0 sz 0 n (c * sz) :: rest.map .c) vs := by
    refine ⟨by simpa using hl, fun j u x hu hx => ?_⟩
    cases j with
    | zero =>
      simp at hu; subst hu
      rw [Array.getElem?_eq_getElem hvl] at hx; injection hx with hx; subst hx
      rw [hxe]
      exact .slc _ _ _ _ _ _ _ _ (.sl 0 sz 0 n _ c hln2 hv c1 c2 c3) fun _ => by omega
    | succ j =>
      have := hr (j + 1) u x (by simpa using hu) hx
      exact this.keep hlater (fun _ h => h) fun _ _ => rfl
  have hlent : lentB G [AObj.o (.row e sz) (cs ++ spare ((c - n) * sz))] = lentB G [AObj.o (.row e sz) cs] := by
    funext b
    apply propext
    constructor
    · rintro ⟨k, x, hk, hv', hz, hb⟩
      cases k with
      | zero => exact ⟨0, _, rfl, hv', rfl, hb⟩
      | succ k => simp at hk
    · rintro ⟨k, x, hk, hv', hz, hb⟩
      cases k with
      | zero => exact ⟨0, _, rfl, hv', rfl, hb⟩
      | succ k => simp at hk
  refine (H c c1 c2 G F w vs hH hf hRL).mono fun ex w' ⟨x, r, h', G', F', he, hfin, hrr, hsame, hr1, L, hL1, hL2, hL3⟩ => ?_
  subst hr1 hL1
  rw [hlent] at hfin
  have hlL : (lens [AObj.o (.row e sz) L])[0]? = some (c * sz) := by simp [lens, lnO, hL2]
  have hlR : (lens [AObj.o (.row e sz) res])[0]? = some m := by simp [lens, lnO, hres]
  obtain ⟨s1, s2, s3, s4⟩ : (lens [AObj.o (.row e sz) L])[0]? = some (c * sz) ∧ G'.σ 0 = G.σ 0 ∧ G'.bs 0 = G.bs 0 ∧ G'.vir 0 = G.vir 0 := by
    rcases hsame 0 _ rfl hln2 with h | ⟨m', h1, h2⟩
    · exact h
    · rw [hlL] at h1; injection h1 with h1; omega
  have hmod : Mod (lentB G [AObj.o (.row e sz) cs]) w w' := hfin.mod
  have hv' : G'.vir 0 = false := s4.trans hv
  have hLd : ∀ (av : AV) (v : Value), RepV G' (lens [AObj.o (.row e sz) L]) F' w' av v → av.liv [0] = true → RepV G' (lens [AObj.o (.row e sz) res]) F' w' av v := fun av v h1 h2 => RepV.keepL (dead := [0]) (fun k m' hk hm => by
    cases k with
    | zero => simp at hk
    | succ k => simp [lens] at hm) (fun _ h => h) (fun _ _ => rfl) h1 h2
  have hHR : HRel G' F' [AObj.o (.row e sz) res] w' := by
    refine ⟨fun j y hy => ?_, fun j i y z hj hi _ _ _ _ _ => ?_⟩
    · cases j with
      | succ j => simp at hy
      | zero =>
        simp at hy; subst hy
        rcases hfin.heap.obj 0 _ rfl with ⟨a1, _⟩ | ⟨a1, a2, cur, c', a3, a4, a5, a6, a7, a8⟩
        · rw [hv'] at a1; cases a1
        · refine .inr ⟨a1, a2, cur, c', a3, a4, a5, a6, by omega, fun q u hu => ?_⟩
          have hq : q < m := by have := (List.getElem?_eq_some_iff.1 hu).1; omega
          have hlu := isD_liv (dead := [0]) hd q u hu
          rw [← hL3, List.getElem?_take, if_pos hq] at hu
          obtain ⟨v, f1, f2⟩ := a8 q u hu
          exact ⟨v, f1, hLd u v f2 hlu⟩
    · have : j = 0 := by have := (List.getElem?_eq_some_iff.1 hj).1; simpa using this
      have : i = 0 := by have := (List.getElem?_eq_some_iff.1 hi).1; simpa using this
      omega
  refine ⟨x, .sl 0 sz 0 n2 m, [.o (.row e sz) res], G', F', he, ⟨hHR, hfin.mod, fun k y hk hv2 hz hho => ?_, hfin.fsup, hfin.f0, hfin.fc⟩, ?_, fun k m' hk hm => ?_, rfl, rfl⟩
  · cases k with
    | zero => exact hfin.sup 0 _ rfl hv2 rfl hho
    | succ k => simp at hk
  · generalize hM : c * sz = M at hrr hlL
    cases hrr with
    | d _ _ hh => cases hh
    | sl _ _ _ _ _ c' a1 a2 a3 a4 a5 => exact .sl 0 sz 0 n2 m c' hlR a2 a3 a4 a5
    | slNil _ _ a1 a2 => rw [hv'] at a2; cases a2
    | slOld _ _ _ _ _ m' A l c' a1 a2 => rw [hlL] at a1; injection a1 with a1; omega
  · cases k with
    | zero => rw [hln] at hm; injection hm with hm; subst hm; exact .inl ⟨hlR, s2, s3, s4⟩
    | succ k => simp [lens] at hm
end
end Go.Proofs.Ytmgpiminicgbiaa
