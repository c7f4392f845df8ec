import Derived.Test.YthgoocdldnkogaaGreatDoorHW
import Derived.Test.YthgoocdldnkogaaGreatDoorG4
import Derived.Test.YthgoocdldnkogaaGreatDoorFp
namespace Go.Proofs.YthgoocdldnkogaaGreatDoor
set_option linter.unusedVariables false
set_option linter.unusedSimpArgs false
open Go.RowKit
section
variable {P : Program} {E : Env} {s : AS}
inductive DeepD (h : List AObj) (ok : Nat → Prop) : AV → AV → Prop
 | d (u : AV) : isD u = true → DeepD h ok u u
 | sl (k sz off n m : Nat) (kd : AKind) (cs l : List AV) : ok k → h[k]? = some (.o kd cs) → cs.length = m → off + n * sz ≤ m → n ≤ maxLen → l.length = n * sz →
   (∀ (j : Nat) (u u' : AV), cs[off + j]? = some u → l[j]? = some u' → DeepD h ok u u') → DeepD h ok (.sl k sz off n m) (.fs sz n l)
inductive DeepV (h : List AObj) (ok : Nat → Prop) : AV → AV → Prop
 | d (u u' : AV) : DeepD h ok u u' → DeepV h ok u u'
 | agg (l l' : List AV) : l.length = l'.length → (∀ (j : Nat) (u u' : AV), l[j]? = some u → l'[j]? = some u' → DeepV h ok u u') → DeepV h ok (.agg l) (.agg l')
theorem HRel.cellsOf {G : Gh} {F : Nat → Prop} {h : List AObj} {w : World} (hh : HRel G F h w) {k : Nat} {kd : AKind} {cs : List AV} (hk : h[k]? = some (.o kd cs)) (hv : G.vir k = false) : ∃ cur ty fr, w.heap[G.σ k]? = some (.cells cur ty fr) ∧ CRel G (lens h) F w cs cur := by
 have hob := hh.obj k _ hk
 cases kd with
 | box =>
  obtain ⟨_, _, cur, ty, h3, _, _, h6⟩ := hob
  exact ⟨cur, ty, _, h3, h6⟩
 | row e sz =>
  rcases hob with ⟨h1, _⟩ | ⟨_, _, cur, c, h3, _, _, _, _, h8⟩
  ·rw [hv] at h1; cases h1
  ·exact ⟨cur, e, _, h3, h8⟩
 | fz =>
  rcases hob with ⟨h1, _⟩ | ⟨_, _, cur, ty, fr, h3, _, _, h6⟩
  ·rw [hv] at h1; cases h1
  ·exact ⟨cur, ty, fr, h3, h6⟩
theorem deepD_rep {G : Gh} {F Fx : Nat → Prop} {h : List AObj} {ok : Nat → Prop} {w : World} (hh : HRel G F h w) (hF : ∀ b, F b → Fx b) (hok : ∀ k kd cs, ok k → h[k]? = some (.o kd cs) → G.vir k = false → Fx (G.σ k)) {u u' : AV} (hd : DeepD h ok u u') : ∀ {v : Value}, RepV G (lens h) F w u v → RepD Fx w u' v := by
 induction hd with
 | d u hu => intro v hr; exact (isD_rep hu hr).keep hF fun _ _ => rfl
 | sl k sz off n m kd cs l h1 h2 h3 h4 h5 h6 _ ih =>
  intro v hr
  have hlk : (lens h)[k]? = some m := by simp [lens, h2, lnO, h3]
  cases hr with
  | d _ _ h => cases h
  | sl _ _ _ _ _ c a1 a2 a3 a4 a5 =>
   obtain ⟨cur, ty, fr, b1, b2⟩ := hh.cellsOf h2 a2
   by_cases hn : n = 0
   ·subst hn
    obtain rfl : l = [] := List.eq_nil_of_length_eq_zero (by omega)
    exact .fs0 sz _ c a4
   ·have hget : ∀ j, j < l.length → ∃ x, cs[off + j]? = some x := fun j hj => ⟨cs[off + j]'(by omega), List.getElem?_eq_getElem (by omega)⟩
    refine .fs sz n (G.σ k) off c l (fun j => (cur[off + j]?).getD default) (by omega) a3 a4 h6 (hok k kd cs h1 h2 a2) (fun j hj => ?_) fun j u hu => ?_
    ·obtain ⟨x, hx⟩ := hget j hj
     obtain ⟨y, hy, _⟩ := b2 _ x hx
     simp [World.cell?, b1, hy]
    ·obtain ⟨x, hx⟩ := hget j (List.getElem?_eq_some_iff.1 hu).1
     obtain ⟨y, hy, hry⟩ := b2 _ x hx
     rw [hy]
     exact ih j x u hx hu hry
  | slNil _ _ a1 a2 =>
   obtain rfl : l = [] := List.eq_nil_of_length_eq_zero (by omega)
   exact .fs0 sz none 0 (Nat.zero_le _)
  | slOld _ _ _ _ _ m' A l' c a1 a2 =>
   rw [hlk] at a1; injection a1 with a1; omega
theorem deepV_rep {G G' : Gh} {F Fx : Nat → Prop} {h : List AObj} {ln : List Nat} {ok : Nat → Prop} {w : World} (hh : HRel G F h w) (hF : ∀ b, F b → Fx b) (hok : ∀ k kd cs, ok k → h[k]? = some (.o kd cs) → G.vir k = false → Fx (G.σ k)) {u u' : AV} (hd : DeepV h ok u u') : ∀ {v : Value}, RepV G (lens h) F w u v → RepV G' ln Fx w u' v := by
 induction hd with
 | d u u' hu => intro v hr; exact .d _ _ (deepD_rep hh hF hok hu hr)
 | agg l l' hl _ ih =>
  intro v hr
  obtain ⟨cs, rfl, h1, h2⟩ := agg_inv hr
  refine .agg l' cs (by omega) fun j u' x hu hx => ?_
  have hj : j < l.length := by have := (List.getElem?_eq_some_iff.1 hu).1; omega
  exact ih j l[j] u' (List.getElem?_eq_getElem hj) hu (h2 j l[j] x (List.getElem?_eq_getElem hj) hx)
theorem call_data {g : FuncId} {args : List AV} {K : AV → AS → Prop} {cargs : List AV} {st : Nat → Bool} {Post : AV → List AObj → Prop} (hc : ACalls P g cargs [] st Post) (hlen : cargs.length = args.length) (hcv : ∀ (j : Nat) (u u' : AV), args[j]? = some u → cargs[j]? = some u' → DeepV s.h (fun _ => True) u u')
  (hK : ∀ r h', Post r h' → plainV r = true ∧ K r s) : CallG P E g args s K := by
 intro G F a w vs hr hl hrep
 let Fc : Nat → Prop := fun b => F b ∨ ∃ k kd cs, s.h[k]? = some (.o kd cs) ∧ G.vir k = false ∧ b = G.σ k
 have hFlt : FC Fc w := hr.fc.more (fun _ h => .inl h) (fun _ _ => rfl) fun b hb => by
  rcases hb with h1 | ⟨k, kd, cs, h1, h3, rfl⟩
  ·exact hr.fc b h1
  ·exact hr.heap.isCells h1 h3
 refine (hc G Fc w vs ⟨fun k x hk => by simp at hk, fun j k x y hj => by simp at hj⟩ hFlt ⟨hlen.trans hl, fun j u' x hu hx => ?_⟩).mono fun e w' ⟨x, r, h', G', F', he, hf, hrr, _, hpost⟩ => ?_
 ·have hj : j < args.length := by have := (List.getElem?_eq_some_iff.1 hu).1; omega
  have hu0 := List.getElem?_eq_getElem hj
  exact deepV_rep hr.heap (fun b hb => .inl hb) (fun k kd cs _ h1 h2 => .inr ⟨k, kd, cs, h1, h2, rfl⟩) (hcv j _ u' hu0 hu) (hrep j _ x hu0 hx)
 obtain ⟨hpl, hk⟩ := hK r h' hpost
 have keep : ∀ b, b < w.heap.size → w'.heap[b]? = w.heap[b]? := fun b hb => hf.mod.block b hb fun ⟨k, x, hk, _⟩ => by simp at hk
 have keepF : ∀ b, F b → w'.heap[b]? = w.heap[b]? := fun b hb => keep b (hr.flt b hb)
 have hl := Later.refl G (lens s.h)
 refine ⟨x, r, s, G, F, he, ⟨hr.len, hr.def0.keep (fun D h1 h2 => ⟨h1, keep D (lt_of_heap h2)⟩), fun i av v h1 h2 => (hr.slot i av v h1 h2).keep hl (fun _ h => h) keepF, ⟨fun k y hy => ?_, hr.heap.inj⟩, hr.mod.mod hf.mod (fun i _ ⟨k, x, hk, _⟩ => by simp at hk), hr.sup, hr.fsup, hr.f0, hr.fc.keep keepF, hr.lat⟩, plain_rep hpl hrr, hk⟩
 exact (hr.heap.obj k y hy).keep hl (fun _ h => h) keepF ⟨rfl, rfl, rfl⟩ (fun hv => keep _ (hr.heap.lt hy hv)) fun hv hfz => hr.heap.nfz hy hv hfz
end

section
variable {E : Env} {s : AS}
def pickG (G : Gh) (f : Nat → Nat) : Gh := ⟨fun k => G.σ (f k), fun k => G.bs (f k), fun k => G.vir (f k)⟩
theorem rebL_get (f : Nat → Nat) : ∀ (l : List AV) (j : Nat), (AV.rebL f l)[j]? = (l[j]?).map (AV.reb f)
 | [], j => by simp [AV.rebL]
 | v :: l, 0 => by simp [AV.rebL]
 | v :: l, j + 1 => by simp [AV.rebL, rebL_get f l j]
theorem rebL_len (f : Nat → Nat) (l : List AV) : (AV.rebL f l).length = l.length := by
 induction l with
 | nil => rfl
 | cons v l ih => simp [AV.rebL, ih]
theorem RepV.pick {G : Gh} {ln ln' : List Nat} {F : Nat → Prop} {w : World} {f : Nat → Nat} (hl : ∀ k, ln'[k]? = ln[f k]?) {u' : AV} {v : Value} (h : RepV G ln F w u' v) : ∀ {u : AV}, u' = AV.reb f u → RepV (pickG G f) ln' F w u v := by
 induction h with
 | any v => intro u hu; cases u <;> first | exact .any v | cases hu
 | d av v h =>
  intro u hu
  have : u = av := by
   cases h <;> (cases u <;> first | exact hu.symm | cases hu)
  subst this
  exact .d _ _ h
 | ptr h off m h1 h2 =>
  intro u hu
  cases u <;> first | (injection hu with e1 e2 e3; subst e1 e2 e3; exact .ptr _ _ _ ((hl _).trans h1) h2) | cases hu
 | ptrOld h off m m' p h1 h2 =>
  intro u hu
  cases u <;> first | (injection hu with e1 e2 e3; subst e1 e2 e3; exact .ptrOld _ _ _ m' _ ((hl _).trans h1) h2) | cases hu
 | mref h h1 h2 =>
  intro u hu
  cases u <;> first | (injection hu with e1; subst e1; exact .mref _ ((hl _).trans h1) h2) | cases hu
 | mrefOld h m' v h1 h2 =>
  intro u hu
  cases u <;> first | (injection hu with e1; subst e1; exact .mrefOld _ m' _ ((hl _).trans h1) h2) | cases hu
 | sl h sz off n m c h1 h2 h3 h4 h5 =>
  intro u hu
  cases u <;> first | (injection hu with e1 e2 e3 e4 e5; subst e1 e2 e3 e4 e5; exact .sl _ _ _ _ _ c ((hl _).trans h1) h2 h3 h4 h5) | cases hu
 | slNil h sz h1 h2 =>
  intro u hu
  cases u <;> first | (injection hu with e1 e2 e3 e4 e5; subst e1 e2 e3 e4 e5; exact .slNil _ _ ((hl _).trans h1) h2) | cases hu
 | slOld h sz off n m m' A l c h1 h2 =>
  intro u hu
  cases u <;> first | (injection hu with e1 e2 e3 e4 e5; subst e1 e2 e3 e4 e5; exact .slOld _ _ _ _ _ m' _ _ _ ((hl _).trans h1) h2) | cases hu
 | slc h sz off n m A l c h1 h2 ih =>
  intro u hu
  cases u with
  | slc k sz' off' n' m' =>
   injection hu with e1 e2 e3 e4 e5
   subst e1 e2 e3 e4 e5
   exact .slc _ _ _ _ _ _ _ _ (ih (u := .sl k sz off n m) rfl) fun e => h2 ((hl _).symm.trans e)
  | _ => cases hu
 | fp l b o g h1 h2 h3 =>
  intro u hu
  cases u <;> first | (injection hu with e1; subst e1; exact .fp _ _ _ g h1 h2 h3) | cases hu
 | agg l cs h1 _ ih =>
  intro u hu
  cases u with
  | agg l0 =>
   injection hu with e1
   subst e1
   refine .agg _ _ (by rw [← rebL_len f]; exact h1) fun j u x hj hx => ih j _ x (by rw [rebL_get, hj]; rfl) hx rfl
  | _ => cases hu
 | tup l cs h1 _ ih =>
  intro u hu
  cases u with
  | tup l0 =>
   injection hu with e1
   subst e1
   refine .tup _ _ (by rw [← rebL_len f]; exact h1) fun j u x hj hx => ih j _ x (by rw [rebL_get, hj]; rfl) hx rfl
  | _ => cases hu
 | clo g l k cs ds h1 h2 _ _ ih1 ih2 =>
  intro u hu
  cases u with
  | clo g0 l0 k0 =>
   injection hu with e0 e1 e2
   subst e0 e1 e2
   refine .clo _ _ _ _ _ (by rw [← rebL_len f]; exact h1) (by rw [← rebL_len f]; exact h2) (fun j u x hj hx => ih1 j _ x (by rw [rebL_get, hj]; rfl) hx rfl) fun j u x hj hx => ih2 j _ x (by rw [rebL_get, hj]; rfl) hx rfl
  | _ => cases hu
 | g b want u0 v _ h ih =>
  intro u hu
  cases u with
  | g b1 w1 u1 =>
   injection hu with e0 e1 e2
   subst e0 e1 e2
   exact .g _ _ _ _ (fun e => ih e rfl) h
  | _ => cases hu
theorem HRel.pick {G : Gh} {F : Nat → Prop} {h h' : List AObj} {w : World} {f : Nat → Nat} (hh : HRel G F h w) (hl : ∀ k, (lens h')[k]? = (lens h)[f k]?) (hinj : ∀ j k, j < h'.length → k < h'.length → f j = f k → j = k)
  (hobj : ∀ (k : Nat) (x : AObj), h'[k]? = some x → h[f k]? = some (rebO f x)) : HRel (pickG G f) F h' w := by
 have crel : ∀ {cs : List AV} {cur : Array Value}, CRel G (lens h) F w (AV.rebL f cs) cur → CRel (pickG G f) (lens h') F w cs cur := fun {cs cur} h1 j u hu =>
  let ⟨v, f1, f2⟩ := h1 j (AV.reb f u) (by rw [rebL_get, hu]; rfl)
  ⟨v, f1, f2.pick hl rfl⟩
 refine ⟨fun k x hk => ?_, fun j k x y hj hk vj vk fj fk he => ?_⟩
 ·have hob := hh.obj (f k) _ (hobj k x hk)
  cases x with
  | raw z => exact hob
  | o kd cs =>
   rw [rebO_eq] at hob
   have hlen := rebL_len f cs
   cases kd with
   | box => obtain ⟨a1, a2, cur, ty, a3, a4, a5, a6⟩ := hob; exact ⟨a1, a2, cur, ty, a3, a4, by rw [← hlen]; exact a5, crel a6⟩
   | row e sz =>
    rcases hob with ⟨a1, a2⟩ | ⟨a1, a2, cur, c, a3, a4, a5, a6, a7, a8⟩
    ·exact .inl ⟨a1, by rw [a2] at hlen; exact List.eq_nil_of_length_eq_zero hlen.symm⟩
    ·exact .inr ⟨a1, a2, cur, c, a3, a4, a5, a6, by rw [← hlen]; exact a7, crel a8⟩
   | fz =>
    rcases hob with ⟨a1, a2⟩ | ⟨a1, a2, cur, ty, fr, a3, a4, a5, a6⟩
    ·exact .inl ⟨a1, by rw [a2] at hlen; exact List.eq_nil_of_length_eq_zero hlen.symm⟩
    ·exact .inr ⟨a1, a2, cur, ty, fr, a3, a4, by rw [← hlen]; exact a5, crel a6⟩
 ·have fz : ∀ {x : AObj}, fzO (rebO f x) = fzO x := fun {x} => by
   cases x with
   | raw _ => rfl
   | o kd cs => rw [rebO_eq]; cases kd <;> rfl
  exact hinj j k (List.getElem?_eq_some_iff.1 hj).1 (List.getElem?_eq_some_iff.1 hk).1 (hh.inj (f j) (f k) _ _ (hobj j x hj) (hobj k y hk) vj vk (fz.trans fj) (fz.trans fk) he)
theorem wk_pick (f : Nat → Nat) {s' : AS} (hE : E.ho = noHo) (hl : ∀ k, (lens s'.h)[k]? = (lens s.h)[f k]?) (hinj : ∀ j k, j < s'.h.length → k < s'.h.length → f j = f k → j = k)
  (hobj : ∀ (k : Nat) (x : AObj), s'.h[k]? = some x → s.h[f k]? = some (rebO f x)) (ht : s.t = AV.rebL f s'.t) (hst : ∀ k, k < E.ln0.length → E.st k = true → f k = k) : Wk E s s' := by
 intro a w ⟨G, F, hr⟩
 have fz : ∀ {x : AObj}, fzO (rebO f x) = fzO x := fun {x} => by
  cases x with
  | raw _ => rfl
  | o kd cs => rw [rebO_eq]; cases kd <;> rfl
 refine ⟨pickG G f, F, by rw [hr.len, ht, rebL_len], hr.def0, fun i av v h1 h2 => ?_, hr.heap.pick hl hinj hobj, hr.mod, fun k x hk hv hf hh => ?_, hr.fsup, hr.f0, hr.fc, fun k m hs hk => ?_⟩
 ·refine (hr.slot i (AV.reb f av) v ?_ h2).pick hl rfl
  rw [ht, rebL_get, h1]; rfl
 ·exact hr.sup (f k) _ (hobj k x hk) hv (fz.trans hf) (by rw [hE]; rfl)
 ·have hkl : k < E.ln0.length := (List.getElem?_eq_some_iff.1 hk).1
  have e := hst k hkl hs
  have q := hr.lat k m hs hk
  rw [hl k, e]
  show (_ ∧ G.σ (f k) = _ ∧ G.bs (f k) = _ ∧ G.vir (f k) = _) ∨ _
  rw [e]
  exact q
end

section
variable {P : Program} {E : Env} {s : AS}
theorem ORel.keepL {G G' : Gh} {ln ln' : List Nat} {F F' : Nat → Prop} {w w' : World} {k : Nat} {x : AObj} {dead : List Nat} (h : ORel G ln F w k x) (hl : ∀ (k m : Nat), k ∉ dead → ln[k]? = some m → (ln'[k]? = some m ∧ G'.σ k = G.σ k ∧ G'.bs k = G.bs k ∧ G'.vir k = G.vir k) ∨ ∃ m', ln'[k]? = some m' ∧ m < m') (hF : ∀ b, F b → F' b) (hw : ∀ b, F b → w'.heap[b]? = w.heap[b]?) (hlv : livO dead x = true)
  (hG : G'.σ k = G.σ k ∧ G'.bs k = G.bs k ∧ G'.vir k = G.vir k) (hb : G.vir k = false → w'.heap[G.σ k]? = w.heap[G.σ k]?) (hnF : G.vir k = false → fzO x = false → ¬ F' (G.σ k)) : ORel G' ln' F' w' k x := by
 obtain ⟨g1, g2, g3⟩ := hG
 cases x with
 | raw s => exact ⟨g3.trans h.1, by rw [g1]; exact hnF h.1 rfl, by rw [g1, hb h.1]; exact h.2.2⟩
 | o kd cs =>
  have hlc := livO_at hlv
  have crel : ∀ {cur : Array Value}, CRel G ln F w cs cur → CRel G' ln' F' w' cs cur := fun h1 j u hu => let ⟨v, f1, f2⟩ := h1 j u hu; ⟨v, f1, RepV.keepL hl hF hw f2 (hlc j u hu)⟩
  cases kd with
  | box =>
   obtain ⟨h0, hn, cur, ty, h1, h2, h3, h4⟩ := h
   exact ⟨g3.trans h0, by rw [g1]; exact hnF h0 rfl, cur, ty, by rw [g1]; exact (hb h0).trans h1, by rw [g2]; exact h2, by rw [g2]; exact h3, crel h4⟩
  | row e sz =>
   rcases h with ⟨h0, h1⟩ | ⟨h0, hn, cur, c, h1, h2, h3, h4, h5, h6⟩
   ·exact .inl ⟨g3.trans h0, h1⟩
   ·exact .inr ⟨g3.trans h0, by rw [g1]; exact hnF h0 rfl, cur, c, by rw [g1]; exact (hb h0).trans h1, by rw [g2]; exact h2, by rw [g2]; exact h3, h4, by rw [g2]; exact h5, crel h6⟩
  | fz =>
   rcases h with ⟨h0, h1⟩ | ⟨h0, hn, cur, ty, fr, h1, h2, h3, h4⟩
   ·exact .inl ⟨g3.trans h0, h1⟩
   ·exact .inr ⟨g3.trans h0, by rw [g1]; exact hF _ hn, cur, ty, fr, by rw [g1]; exact (hb h0).trans h1, by rw [g2]; exact h2, h3, crel h4⟩
theorem Clean.wkS {st : Nat → Bool} {h h2 h' : List AObj} {r r2 r' : AV} (hw : ∀ E : Env, E.ln0 = lens h → E.ho = noHo → E.st = st → Wk E ⟨[r], h⟩ ⟨[r2], h2⟩) (hc : Clean st h2 r2 h' r') : Clean st h r h' r' := by
 intro E G F w x hE hf hrep
 have hr : Rel ⟨E.w0, E.L, E.F0, G, lens h, st, E.ho, E.mks⟩ G F ⟨[r], h⟩ ⟨#[x], []⟩ w := Rel.mk' ⟨hf.heap, hf.mod, hf.sup, hf.fsup, hf.f0, hf.fc⟩ rfl rfl (fun i av v h1 h2 => by
  cases i with
  | zero => simp at h1 h2; subst h1 h2; exact hrep
  | succ i => simp at h1) ((Later.refl _ _).same _)
 obtain ⟨G2, F2, hr2⟩ := hw ⟨E.w0, E.L, E.F0, G, lens h, st, E.ho, E.mks⟩ rfl hE rfl _ w ⟨G, F, hr⟩
 have hrep2 := hr2.slot 0 r2 x rfl rfl
 obtain ⟨G', F', c1, c2, c3⟩ := hc E G2 F2 w x hE ⟨hr2.heap, hr2.mod, hr2.sup, hr2.fsup, hr2.f0, hr2.fc⟩ hrep2
 exact ⟨G', F', c1, c2, fun k m hs hm => by
  rcases hr2.lat k m hs hm with ⟨e1, e2, e3, e4⟩ | ⟨m', e1, e2⟩
  ·rcases c3 k m hs e1 with ⟨f1, f2, f3, f4⟩ | ⟨m', f1, f2⟩
   ·exact .inl ⟨f1, f2.trans e2, f3.trans e3, f4.trans e4⟩
   ·exact .inr ⟨m', f1, f2⟩
  ·rcases c3 k m' hs e1 with ⟨f1, _⟩ | ⟨m'', f1, f2⟩
   ·exact .inr ⟨m', f1, e2⟩
   ·exact .inr ⟨m'', f1, Nat.lt_trans e2 f2⟩⟩
theorem Ret.wkS {st : Nat → Bool} {h h2 : List AObj} {r r2 : AV} {Post : AV → List AObj → Prop} (hw : ∀ E : Env, E.ln0 = lens h → E.ho = noHo → E.st = st → Wk E ⟨[r], h⟩ ⟨[r2], h2⟩) (hr : Ret st Post h2 r2) : Ret st Post h r := let ⟨h', r', hc, hp⟩ := hr; ⟨h', r', hc.wkS hw, hp⟩
end

section
variable {P : Program} {E : Env} {s : AS}
end

section
variable {P : Program}
end
end Go.Proofs.YthgoocdldnkogaaGreatDoor
