import Derived.Test.YtmgpiminicgbiaaEl
import Derived.Deep.LoopGhost
import Derived.OrdersHeld
namespace Go.Proofs.Ytmgpiminicgbiaa
set_option linter.unusedVariables false
set_option linter.unusedSimpArgs false
open Go.RowKit

section
variable {P : Program} {E : Env} {s : AS}
/-! ## A call that answers plainly -/
def plainV : AV → Bool
  | .c _ => true
  | .tup l => l.all fun v => match v with | .c _ => true | _ => false
  | .agg l => l.all fun v => match v with | .c _ => true | _ => false
  | _ => false
theorem plain_rep {G G' : Gh} {ln ln' : List Nat} {F F' : Nat → Prop} {w w' : World} {r : AV} {x : Value} (hp : plainV r = true) (hr : RepV G ln F w r x) : RepV G' ln' F' w' r x := by
  have all : ∀ {l : List AV} {cs : Array Value}, (l.all fun v => match v with | .c _ => true | _ => false) = true → (∀ (j : Nat) (u : AV) (x : Value), l[j]? = some u → cs[j]? = some x → RepV G ln F w u x) → ∀ (j : Nat) (u : AV) (x : Value), l[j]? = some u → cs[j]? = some x → RepV G' ln' F' w' u x := by
    intro l cs h1 h2 j u x hu hx
    have := List.all_eq_true.1 h1 u (List.mem_of_getElem? hu)
    cases u with
    | c v => rw [(h2 j _ x hu hx).c_inv]; exact .cc v
    | _ => cases this
  cases r with
  | c v => rw [hr.c_inv]; exact .cc v
  | tup l => obtain ⟨cs, rfl, h1, h2⟩ := tup_inv hr; exact .tup l cs h1 (all hp h2)
  | agg l => obtain ⟨cs, rfl, h1, h2⟩ := agg_inv hr; exact .agg l cs h1 (all hp h2)
  | _ => cases hp
theorem call_plain {g : FuncId} {args : List AV} {K : AV → AS → Prop} (ok : Nat → Bool) {cargs : List AV} {st : Nat → Bool} {Post : AV → List AObj → Prop} (hc : ACalls P g cargs [] st Post) {pa : Prop} (ha : AV.convL [] ok s.h args = some (pa, cargs)) (hpa : pa)
    (hK : ∀ r h', Post r h' → plainV r = true ∧ K r s) : CallG P E g args s K := by
  intro G F a w vs hr hl hrep
  let Fc : Nat → Prop := fun b => F b ∨ ∃ k kd cs, s.h[k]? = some (.o kd cs) ∧ ok k = true ∧ G.vir k = false ∧ b = G.σ k
  have hFok : ∀ k kd cs, s.h[k]? = some (.o kd cs) → ok k = true → G.vir k = false → Fc (G.σ k) := fun k kd cs h1 h2 h3 => .inr ⟨k, kd, cs, h1, h2, h3, rfl⟩
  have hFlt : FC Fc w := fun b hb => by
    rcases hb with h1 | ⟨k, kd, cs, h1, _, h3, rfl⟩
    · exact hr.fc b h1
    · exact hr.heap.isCells h1 h3
  obtain ⟨ca1, ca2⟩ := convL_at ha hpa
  refine (hc G Fc w vs ⟨fun k x hk => by simp at hk, fun j k x y hj => by simp at hj⟩ hFlt ⟨ca1.trans hl, fun j u' x hu hx => ?_⟩).mono fun e w' ⟨x, r, h', G', F', he, hf, hrr, _, hpost⟩ => ?_
  · obtain ⟨u, q, f1, f2, f3⟩ := ca2 j u' hu
    exact RepV.conv hr.heap (fun i k h => by simp at h) (fun b hb => .inl hb) hFok (hrep j u x f1 hx) f2 f3
  obtain ⟨hpl, hk⟩ := hK r h' hpost
  have keep : ∀ b, b < w.heap.size → w'.heap[b]? = w.heap[b]? := fun b hb => hf.mod.block b hb fun ⟨k, x, hk, _⟩ => by simp at hk
  have keepF : ∀ b, F b → w'.heap[b]? = w.heap[b]? := fun b hb => keep b (hr.flt b hb)
  have hl := Later.refl G (lens s.h)
  refine ⟨x, r, s, G, F, he, ⟨hr.len, hr.def0.keep (fun D h1 h2 => ⟨h1, keep D (lt_of_heap h2)⟩), fun i av v h1 h2 => (hr.slot i av v h1 h2).keep hl (fun _ h => h) keepF, ⟨fun k y hy => ?_, hr.heap.inj⟩, hr.mod.mod hf.mod (fun i _ ⟨k, x, hk, _⟩ => by simp at hk), hr.sup, hr.fsup, hr.f0, hr.fc.keep keepF, hr.lat⟩, plain_rep hpl hrr, hk⟩
  exact (hr.heap.obj k y hy).keep hl (fun _ h => h) keepF ⟨rfl, rfl, rfl⟩ (fun hv => keep _ (hr.heap.lt hy hv)) fun hv hfz => hr.heap.nfz hy hv hfz

/-! ## Loops -/
def Wk (E : Env) (s s' : AS) : Prop := ∀ a w, Sat E s a w → Sat E s' a w
theorem Wk.refl (E : Env) (s : AS) : Wk E s s := fun _ _ h => h
theorem Wk.trans {s' s'' : AS} (h : Wk E s s') (k : Wk E s' s'') : Wk E s s'' := fun a w x => k a w (h a w x)
def wkV (dead : List Nat) (a : AV) : AV → Prop
  | .any => True
  | b => a = b ∧ b.liv dead = true
def wkL (dead : List Nat) : List AV → List AV → Prop
  | [], [] => True
  | a :: l, b :: k => wkV dead a b ∧ wkL dead l k
  | _, _ => False
theorem wkV_at {dead : List Nat} {a b : AV} (h : wkV dead a b) : b = .any ∨ (a = b ∧ b.liv dead = true) := by
  cases b <;> first | exact .inl rfl | exact .inr h
theorem wkL_at {dead : List Nat} : ∀ {l k : List AV}, wkL dead l k → l.length = k.length ∧ ∀ (j : Nat) (b : AV), k[j]? = some b → ∃ a, l[j]? = some a ∧ wkV dead a b := by
  intro l
  induction l with
  | nil => intro k h; cases k with
    | nil => exact ⟨rfl, fun j b h => by simp at h⟩
    | cons b k => cases h
  | cons a l ih => intro k h; cases k with
    | nil => cases h
    | cons b k =>
      obtain ⟨i1, i2⟩ := ih h.2
      refine ⟨by simp [i1], fun j c hc => ?_⟩
      cases j with
      | zero => simp at hc; subst hc; exact ⟨a, rfl, h.1⟩
      | succ j => simpa using i2 j c (by simpa using hc)
/-- less is told: the first n blocks alone, and of the slots what is named -/
theorem wk_of {s' : AS} (n m : Nat) (hlen : s.h.length = n + m) (hn : E.ln0.length ≤ n) (hh : s.h.take n = s'.h) (ho : livH (List.range' n m) [] 0 s'.h = true) (ht : wkL (List.range' n m) s.t s'.t) : Wk E s s' := by
  intro a w ⟨G, F, hr⟩
  obtain ⟨t1, t2⟩ := wkL_at ht
  have hl' : s'.h.length = n := by rw [← hh]; simp; omega
  have hget : ∀ {k : Nat} {x : AObj}, s'.h[k]? = some x → k < n ∧ s.h[k]? = some x := fun {k x} hk => by
    have hkn : k < n := by rw [← hl']; exact (List.getElem?_eq_some_iff.1 hk).1
    rw [← hh, List.getElem?_take, if_pos hkn] at hk
    exact ⟨hkn, hk⟩
  have hlater : ∀ (k m' : Nat), k ∉ List.range' n m → (lens s.h)[k]? = some m' → ((lens s'.h)[k]? = some m' ∧ G.σ k = G.σ k ∧ G.bs k = G.bs k ∧ G.vir k = G.vir k) ∨ ∃ m'', (lens s'.h)[k]? = some m'' ∧ m' < m'' := fun k m' hk hm => by
    have hkl : k < s.h.length := by
      have := (List.getElem?_eq_some_iff.1 hm).1
      simpa [lens] using this
    have hkn : k < n := by
      rcases Nat.lt_or_ge k n with h | h
      · exact h
      · exact absurd (by rw [List.mem_range'_1]; omega) hk
    refine .inl ⟨?_, rfl, rfl, rfl⟩
    simp only [lens, List.getElem?_map] at hm ⊢
    rw [← hh, List.getElem?_take, if_pos hkn]
    exact hm
  have keepV : ∀ {av : AV} {v : Value}, RepV G (lens s.h) F w av v → av.liv (List.range' n m) = true → RepV G (lens s'.h) F w av v := fun h hv => RepV.keepL hlater (fun _ h => h) (fun _ _ => rfl) h hv
  refine ⟨G, F, by rw [← t1]; exact hr.len, hr.def0, fun i b v hb hv => ?_, ⟨fun k x hk => ?_, fun j k x y hj hk vj vk fj fk he => ?_⟩, hr.mod, fun k x hk hv hf hho => hr.sup k x (hget hk).2 hv hf hho, hr.fsup, hr.f0, hr.fc, fun k m' hs hm => ?_⟩
  · obtain ⟨c, hc, hw⟩ := t2 i b hb
    rcases wkV_at hw with rfl | ⟨rfl, hlv⟩
    · exact .any v
    · exact keepV (hr.slot i c v hc hv) hlv
  · obtain ⟨hkn, hk0⟩ := hget hk
    have hob := hr.heap.obj k x hk0
    have hlv := livH_at ho k x hk (by simp)
    have crel : ∀ {cs : List AV} {cur : Array Value}, CRel G (lens s.h) F w cs cur → (∀ (j : Nat) (u : AV), cs[j]? = some u → u.liv (List.range' n m) = true) → CRel G (lens s'.h) F w cs cur := fun h1 h2 j u hu => let ⟨v, f1, f2⟩ := h1 j u hu; ⟨v, f1, keepV f2 (h2 j u hu)⟩
    cases x with
    | it sx p => exact hob
    | o kd cs =>
      have hlc := livO_at hlv
      cases kd with
      | box => obtain ⟨a1, a2, cur, ty, a3, a4, a5, a6⟩ := hob; exact ⟨a1, a2, cur, ty, a3, a4, a5, crel a6 hlc⟩
      | row e sz =>
        rcases hob with ⟨a1, a2⟩ | ⟨a1, a2, cur, c, a3, a4, a5, a6, a7, a8⟩
        · exact .inl ⟨a1, a2⟩
        · exact .inr ⟨a1, a2, cur, c, a3, a4, a5, a6, a7, crel a8 hlc⟩
      | fz =>
        rcases hob with ⟨a1, a2⟩ | ⟨a1, a2, cur, ty, fr, a3, a4, a5, a6⟩
        · exact .inl ⟨a1, a2⟩
        · exact .inr ⟨a1, a2, cur, ty, fr, a3, a4, a5, crel a6 hlc⟩
  · exact hr.heap.inj j k x y (hget hj).2 (hget hk).2 vj vk fj fk he
  · have hkn : k < n := Nat.lt_of_lt_of_le (List.getElem?_eq_some_iff.1 hm).1 hn
    rcases hr.lat k m' hs hm with ⟨e1, e2, e3, e4⟩ | ⟨m'', e1, e2⟩
    · rcases hlater k m' (by rw [List.mem_range'_1]; omega) e1 with ⟨f1, _⟩ | ⟨m'', f1, f2⟩
      · exact .inl ⟨f1, e2, e3, e4⟩
      · exact .inr ⟨m'', f1, f2⟩
    · rcases hlater k m'' (by rw [List.mem_range'_1]; omega) e1 with ⟨f1, _⟩ | ⟨m3, f1, f2⟩
      · exact .inr ⟨m'', f1, e2⟩
      · exact .inr ⟨m3, f1, Nat.lt_trans e2 f2⟩
/-- a nil slice in a slot, as an empty row of its own -/
theorem wk_virt (i e sz : Nat) (hi : s.t[i]? = some (.c (.slice none 0 0))) : Wk E s ⟨s.t.set i (.sl s.h.length sz 0 0 0), s.h ++ [.o (.row e sz) []]⟩ := by
  intro a w ⟨G, F, hr⟩
  have hv := hr.virt e sz
  refine ⟨_, F, hv.1 |> fun h => by simpa using h, hv.def0, fun j av v h1 h2 => ?_, hv.heap, hv.mod, hv.sup, hv.fsup, hv.f0, hv.fc, hv.lat⟩
  simp only at h1
  rw [List.getElem?_set] at h1
  by_cases e : i = j
  · subst e
    rw [if_pos rfl] at h1
    split at h1
    · injection h1 with h1; subst h1
      rw [(hr.slot i _ v hi h2).c_inv]
      exact .slNil _ sz (by simp [lens_push, lnO]) (upd_same G s.h.length 0 0 true).2.2
    · cases h1
  · rw [if_neg e] at h1
    exact hv.slot j av v h1 h2
/-- a nil slice in a cell of a box, as an empty row of its own -/
theorem wk_virtC (k i e sz : Nat) {cs : List AV} (hk : s.h[k]? = some (.o .box cs)) (hi : cs[i]? = some (.c (.slice none 0 0))) : Wk E s ⟨s.t, s.h.set k (.o .box (cs.set i (.sl s.h.length sz 0 0 0))) ++ [.o (.row e sz) []]⟩ := by
  intro a w ⟨G, F, hr⟩
  have hv := hr.virt e sz
  have hklt : k < s.h.length := (List.getElem?_eq_some_iff.1 hk).1
  have hlen : lens (s.h.set k (.o .box (cs.set i (.sl s.h.length sz 0 0 0))) ++ [.o (.row e sz) []]) = lens (s.h ++ [.o (.row e sz) []]) := by
    apply List.ext_getElem?
    intro j
    simp only [lens, List.map_append, List.getElem?_append, List.length_map, List.length_set, List.getElem?_map, List.getElem?_set]
    by_cases ej : k = j
    · subst ej
      have hk2 : s.h[k] = .o .box cs := (List.getElem?_eq_some_iff.1 hk).2
      simp [hklt, hk2, lnO]
    · rw [if_neg ej]
  have hget : ∀ {j : Nat} {x : AObj}, (s.h.set k (.o .box (cs.set i (.sl s.h.length sz 0 0 0))) ++ [.o (.row e sz) []])[j]? = some x → (j = k ∧ x = .o .box (cs.set i (.sl s.h.length sz 0 0 0))) ∨ (j ≠ k ∧ (s.h ++ [.o (.row e sz) []])[j]? = some x) := fun {j x} hj => by
    by_cases ej : k = j
    · subst ej
      rw [List.getElem?_append_left (by simpa using hklt), List.getElem?_set, if_pos rfl, if_pos hklt] at hj
      injection hj with hj; exact .inl ⟨rfl, hj.symm⟩
    · refine .inr ⟨fun e' => ej e'.symm, ?_⟩
      rw [List.getElem?_append] at hj ⊢
      simp only [List.length_set, List.getElem?_set, if_neg ej] at hj
      exact hj
  have hk' : (s.h ++ [AObj.o (.row e sz) []])[k]? = some (.o .box cs) := by rw [List.getElem?_append_left hklt]; exact hk
  refine ⟨_, F, hv.len, hv.def0, fun j av v h1 h2 => by rw [hlen]; exact hv.slot j av v h1 h2, ⟨fun j x hj => ?_, fun j j' x y hj hj' vj vk fj fk he => ?_⟩, hv.mod, fun j x hj hvj hf hho => ?_, hv.fsup, hv.f0, hv.fc, by rw [hlen]; exact hv.lat⟩
  · rw [hlen]
    rcases hget hj with ⟨rfl, rfl⟩ | ⟨hne, hj⟩
    · obtain ⟨a1, a2, cur, ty, a3, a4, a5, a6⟩ := hv.heap.obj j _ hk'
      refine ⟨a1, a2, cur, ty, a3, a4, by simpa using a5, fun i' u hu => ?_⟩
      rw [List.getElem?_set] at hu
      by_cases ei : i = i'
      · subst ei
        rw [if_pos rfl] at hu
        split at hu
        · injection hu with hu; subst hu
          obtain ⟨y, hy, hry⟩ := a6 i _ hi
          refine ⟨y, hy, ?_⟩
          rw [hry.c_inv]
          exact .slNil _ sz (by simp [lens_push, lnO]) (upd_same G s.h.length 0 0 true).2.2
        · cases hu
      · rw [if_neg ei] at hu
        exact a6 i' u hu
    · exact hv.heap.obj j x hj
  · have key : ∀ {j : Nat} {x : AObj}, (s.h.set k (.o .box (cs.set i (.sl s.h.length sz 0 0 0))) ++ [.o (.row e sz) []])[j]? = some x → fzO x = false → ∃ x', (s.h ++ [.o (.row e sz) []])[j]? = some x' ∧ fzO x' = false := fun {j x} hj hf => by
      rcases hget hj with ⟨rfl, rfl⟩ | ⟨_, h⟩
      · exact ⟨_, hk', rfl⟩
      · exact ⟨x, h, hf⟩
    obtain ⟨x1, h1, h2⟩ := key hj fj
    obtain ⟨x2, h3, h4⟩ := key hj' fk
    exact hv.heap.inj j j' x1 x2 h1 h3 vj vk h2 h4 he
  · rcases hget hj with ⟨rfl, rfl⟩ | ⟨_, hj⟩
    · exact hv.sup j _ hk' hvj rfl hho
    · exact hv.sup j x hj hvj hf hho
theorem EW.weak {c : Code} {s' : AS} {Q : Exit → AS → Prop} (h : EW P E c s' Q) (hw : Wk E s s') : EW P E c s Q := fun a w hs => h a w (hw a w hs)
theorem LoopG.weak {c : Code} {s' : AS} {Q : Exit → AS → Prop} (h : LoopG P E c s' Q) (hw : Wk E s s') : LoopG P E c s Q := fun a w hs => h a w (hw a w hs)
theorem CallG.weak {g : FuncId} {args : List AV} {s' : AS} {K : AV → AS → Prop} (hw : ∀ (G : Gh) (F : Nat → Prop) (a : Act) (w : World), Rel E G F s a w → ∀ (vs : Array Value), (∀ (j : Nat) (u : AV) (x : Value), args[j]? = some u → vs[j]? = some x → RepV G (lens s.h) F w u x) → ∃ G' F', Rel E G' F' s' a w ∧ ∀ (j : Nat) (u : AV) (x : Value), args[j]? = some u → vs[j]? = some x → RepV G' (lens s'.h) F' w u x)
    (h : CallG P E g args s' K) : CallG P E g args s K := fun G F a w vs hr hl hrep => let ⟨G', F', h1, h2⟩ := hw G F a w hr vs hrep; h G' F' a w vs h1 hl h2
def roundK (E : Env) {X : Type} (st : X → AS) (μ : X → Nat) (Inv : X → Prop) (x : X) (Q : Exit → AS → Prop) : Exit → AS → Prop
  | .normal, s' => ∃ x', Inv x' ∧ μ x' < μ x ∧ Wk E s' (st x')
  | e, s' => Q e s'
/-- A loop: its states are of one form, told by x. -/
theorem loop_of {cut : List Nat} (hm : P.follows .mixedOrders = true) {X : Type} {b : Code} {Q : Exit → AS → Prop} (st : X → AS) (μ : X → Nat) (Inv : X → Prop) (x0 : X) (h0 : Inv x0) (hw : Wk E s (st x0)) (round : ∀ x, Inv x → runC cut P E b (st x) (roundK E st μ Inv x Q)) : LoopG P E b s Q := by
  intro a w hs
  refine wp_loop_ghost (fun n a w => ∃ x, Inv x ∧ μ x = n ∧ Sat E (st x) a w) (μ x0) ⟨x0, h0, rfl, hw a w hs⟩ fun n a w ⟨x, hx, hn, hsx⟩ => ?_
  refine Code.wp_mono (fun e a' w' ⟨hp, s', h1, h2⟩ => ?_) (runC_sound hm b _ _ (round x hx) a w hsx)
  cases e with
  | normal =>
    obtain ⟨x', h3, h4, h5⟩ := h2
    exact ⟨μ x', by omega, x', h3, rfl, h5 a' w' h1⟩
  | _ => exact ⟨hp, s', h1, h2⟩
theorem HRel.conv {G : Gh} {F : Nat → Prop} {h ch : List AObj} {w : World} {lent : List Nat} {ok : Nat → Bool} {po : Prop} (hh : HRel G F h w) (ho : convOs lent ok h lent = some (po, ch)) (hpo : po) (hn : lent.Nodup) (hok : ∀ k ∈ lent, ok k = false) :
    let Gc : Gh := ⟨fun i => G.σ (lent.getD i 0), fun i => G.bs (lent.getD i 0), fun i => G.vir (lent.getD i 0)⟩
    let Fc : Nat → Prop := fun b => F b ∨ ∃ k kd cs, h[k]? = some (.o kd cs) ∧ ok k = true ∧ G.vir k = false ∧ b = G.σ k
    HRel Gc Fc ch w ∧ (∀ (i k : Nat), lent[i]? = some k → Gc.σ i = G.σ k ∧ Gc.bs i = G.bs k ∧ Gc.vir i = G.vir k ∧ (lens ch)[i]? = (lens h)[k]?) ∧
    (∀ {i : Nat} {y : AObj}, ch[i]? = some y → ∃ k x, lent[i]? = some k ∧ h[k]? = some x ∧ fzO x = false ∧ fzO y = false) := by
  intro Gc Fc
  obtain ⟨o1, o2⟩ := convOs_at ho hpo
  have hG : ∀ (i k : Nat), lent[i]? = some k → Gc.σ i = G.σ k ∧ Gc.bs i = G.bs k ∧ Gc.vir i = G.vir k ∧ (lens ch)[i]? = (lens h)[k]? := fun i k e => by
    obtain ⟨x, q, y, hx, hcx, hq, hy⟩ := o2 i k e
    refine ⟨by simp [Gc, e], by simp [Gc, e], by simp [Gc, e], ?_⟩
    simp only [lens, List.getElem?_map]
    rw [hx]
    simp only at hy
    rw [hy]
    simp [(convO_kind hcx hq).1]
  have hFF : ∀ b, F b → Fc b := fun b hb => .inl hb
  have hFok : ∀ k kd cs, h[k]? = some (.o kd cs) → ok k = true → G.vir k = false → Fc (G.σ k) := fun k kd cs h1 h2 h3 => .inr ⟨k, kd, cs, h1, h2, h3, rfl⟩
  have nFc : ∀ {k : Nat} {x : AObj}, h[k]? = some x → ok k = false → G.vir k = false → fzO x = false → ¬ Fc (G.σ k) := fun {k x} hk hok' hv hf hF => by
    rcases hF with h1 | ⟨k', kd, cs, h1, h2, h3, h4⟩
    · exact hh.nfz hk hv hf h1
    · by_cases hz : fzO (.o kd cs) = false
      · have := hh.inj k k' x _ hk h1 hv h3 hf hz h4
        rw [this] at hok'; rw [h2] at hok'; cases hok'
      · have hob := hh.obj k' _ h1
        cases kd with
        | box => exact hz rfl
        | row e sz => exact hz rfl
        | fz =>
          rcases hob with ⟨e1, _⟩ | ⟨_, e1, _⟩
          · rw [h3] at e1; cases e1
          · exact hh.nfz hk hv hf (h4 ▸ e1)
  have chG : ∀ {i : Nat} {y : AObj}, ch[i]? = some y → ∃ k x q, lent[i]? = some k ∧ h[k]? = some x ∧ convO lent ok h x = some (q, y) ∧ q := fun {i y} hy => by
    have hi : i < lent.length := by
      have h1 := (List.getElem?_eq_some_iff.1 hy).1
      simp only at o1
      omega
    obtain ⟨x, q, y', hx, hcx, hq, hy'⟩ := o2 i lent[i] (List.getElem?_eq_getElem hi)
    simp only at hy'
    rw [hy] at hy'; injection hy' with hy'; subst hy'
    exact ⟨lent[i], x, q, List.getElem?_eq_getElem hi, hx, hcx, hq⟩
  have conv1 : ∀ {av : AV} {v : Value}, RepV G (lens h) F w av v → ∀ {q : Prop} {av' : AV}, AV.conv lent ok h av = some (q, av') → q → RepV Gc (lens ch) Fc w av' v := fun h => RepV.conv hh hG hFF hFok h
  refine ⟨⟨fun i y hy => ?_, fun i j y z hy hz vi vj _ _ he => ?_⟩, hG, fun {i y} hy => ?_⟩
  · obtain ⟨k, x, q, hk, hx, hcx, hq⟩ := chG hy
    obtain ⟨e1, e2, e3, e4⟩ := hG i k hk
    have hokk := hok k (List.mem_of_getElem? hk)
    have hob := hh.obj k x hx
    cases x with
    | it s p => cases hcx
    | o kd cs =>
      cases kd with
      | fz => cases hcx
      | box =>
        simp only [convO] at hcx
        rw [Option.map_eq_some_iff] at hcx
        obtain ⟨p, hp, hcx⟩ := hcx
        injection hcx with h1 h2; subst h1 h2
        obtain ⟨c1, c2⟩ := convL_at hp hq
        obtain ⟨a1, a2, cur, ty, a3, a4, a5, a6⟩ := hob
        refine ⟨e3.trans a1, by rw [e1]; exact nFc hx hokk a1 rfl, cur, ty, by rw [e1]; exact a3, by rw [e2]; exact a4, by rw [e2, c1]; exact a5, fun j u' hu => ?_⟩
        obtain ⟨u, q', f1, f2, f3⟩ := c2 j u' hu
        obtain ⟨v, f4, f5⟩ := a6 j u f1
        exact ⟨v, f4, conv1 f5 f2 f3⟩
      | row e sz =>
        simp only [convO] at hcx
        injection hcx with hcx; injection hcx with h1 h2; subst h1 h2
        rcases hob with ⟨a1, a2⟩ | ⟨a1, a2, cur, c, a3, a4, a5, a6, a7, a8⟩
        · exact .inl ⟨e3.trans a1, a2⟩
        · refine .inr ⟨e3.trans a1, by rw [e1]; exact nFc hx hokk a1 rfl, cur, c, by rw [e1]; exact a3, by rw [e2]; exact a4, by rw [e2]; exact a5, a6, by rw [e2]; exact a7, fun j u hu => ?_⟩
          obtain ⟨v, f4, f5⟩ := a8 j u hu
          exact ⟨v, f4, .d _ _ ((isD_rep (List.all_eq_true.1 hq u (List.mem_of_getElem? hu)) f5).keep hFF fun _ _ => rfl)⟩
  · obtain ⟨k, x, q, hk, hx, hcx, hq⟩ := chG hy
    obtain ⟨k', x', q', hk', hx', hcx', hq'⟩ := chG hz
    obtain ⟨e1, _, e3, _⟩ := hG i k hk
    obtain ⟨e1', _, e3', _⟩ := hG j k' hk'
    have := hh.inj k k' x x' hx hx' (e3 ▸ vi) (e3' ▸ vj) (convO_kind hcx hq).2.1 (convO_kind hcx' hq').2.1 (by rw [← e1, ← e1']; exact he)
    subst this
    have h1 := idx_of_get _ _ _ hn hk
    have h2 := idx_of_get _ _ _ hn hk'
    rw [h1] at h2; injection h2
  · obtain ⟨k, x, q, hk, hx, hcx, hq⟩ := chG hy
    exact ⟨k, x, hk, hx, (convO_kind hcx hq).2.1, (convO_kind hcx hq).2.2⟩
/-- these blocks are told, in this order; the other rows may be told as data -/
theorem Clean.sel {h h' : List AObj} {r r' : AV} (keep : List Nat) (ok : Nat → Bool) {po pa : Prop} (ho : convOs keep ok h keep = some (po, h')) (ha : AV.conv keep ok h r = some (pa, r')) (hpo : po) (hpa : pa) (hn : keep.Nodup) (hok : ∀ k ∈ keep, ok k = false) {st : Nat → Bool} (hst : ∀ i, i < h.length → st i = true → keep[i]? = some i) :
    Clean st h r h' r' := by
  intro E G F w x hE hf hrep
  obtain ⟨c1, c2, c3⟩ := hf.heap.conv ho hpo hn hok
  refine ⟨_, _, ⟨c1, hf.mod, fun i y hy hv hfz hho => ?_, fun b hb => ?_, fun b hb => .inl (hf.f0 b hb), fun b hb => ?_⟩, RepV.conv hf.heap c2 (fun b hb => .inl hb) (fun k kd cs h1 h2 h3 => .inr ⟨k, kd, cs, h1, h2, h3, rfl⟩) hrep ha hpa, fun k m hs hm => ?_⟩
  · obtain ⟨k, z, e1, e2, e3, _⟩ := c3 hy
    obtain ⟨g1, _, g3, _⟩ := c2 i k e1
    rw [g1]
    exact hf.sup k z e2 (g3 ▸ hv) e3 (by rw [hE]; rfl)
  · rcases hb with h1 | ⟨k, kd, cs, h1, h2, h3, rfl⟩
    · exact hf.fsup b h1
    · by_cases hz : fzO (.o kd cs) = false
      · rcases hf.sup k _ h1 h3 hz (by rw [hE]; rfl) with h4 | h4
        · exact .inr (.inl h4)
        · exact .inr (.inr h4)
      · have hob' := hf.heap.obj k _ h1
        cases kd with
        | box => exact absurd rfl hz
        | row e sz => exact absurd rfl hz
        | fz =>
          rcases hob' with ⟨e1, _⟩ | ⟨_, e1, _⟩
          · rw [h3] at e1; cases e1
          · exact hf.fsup _ e1
  · rcases hb with h1 | ⟨k, kd, cs, h1, h2, h3, rfl⟩
    · exact hf.fc b h1
    · exact hf.heap.isCells h1 h3
  · have hlt : k < h.length := by
      have := (List.getElem?_eq_some_iff.1 hm).1
      simpa [lens] using this
    obtain ⟨g1, g2, g3, g4⟩ := c2 k k (hst k hlt hs)
    exact .inl ⟨g4.trans hm, g1, g2, g3⟩
end
end Go.Proofs.Ytmgpiminicgbiaa
