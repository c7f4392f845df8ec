import Derived.Test.YtmgpiminicgbiaaEo
import Derived.RangeFuncNested
import Derived.RangeFuncCalls
import Derived.TacticsIn
import Derived.OrdersIn
namespace Go.Proofs.Ytmgpiminicgbiaa
set_option linter.unusedVariables false
set_option linter.unusedSimpArgs false
open Go.RowKit

/-! ## What runs in a round of a range over a function -/
section
variable {P : Program} {E : Env} {l n : Nat}
def Fw (l : Nat) : Fence := Fence.wide.inRound l
theorem wpB_wpIn {o : Oper} {a : Act} {w : World} {next : Act → World → Prop} {Q : Exit → Act → World → Prop} (h : o.wpB P a w next) : o.wpIn (Fw l) n P a w next Q := by
  obtain ⟨hnd, h⟩ := h
  refine ⟨fun _ _ => trivial, ?_⟩
  rw [Oper.semAt_eq _ _ _ hnd]
  generalize (execOp a.eval o).run P w = r at *
  unfold upB at h
  split at h
  · exact h
  · exact h
  · exact ⟨fun h => (by cases h), (CallsIn.inRound l (callsIn_wide.2 h)).mono fun e w' ⟨v, he, hn⟩ => by subst he; exact hn⟩
  · cases h
theorem runL_soundIn {ops : Array Oper} {Q : Exit → Act → World → Prop} {K : AS → Prop} (hQ : ∀ s' a' w', Sat E s' a' w' → K s' → Q .normal a' w') : ∀ (L : List Oper) (s : AS) (a : Act) (w : World), Sat E s a w → runL P E ops L s K → wpListIn (Fw l) n P ops Q L a w := by
  intro L
  induction L with
  | nil => intro s a w hs h; exact hQ s a w hs h
  | cons o L ih =>
    intro s a w ⟨G, F, hr⟩ h
    have hB := stepP_soundB hr ops o h (next := wpListIn (Fw l) n P ops Q L) fun s' a' w' hs hk => ih s' a' w' hs hk
    unfold wpListIn
    split at hB
    · rename_i hw; rw [if_pos hw]; exact wpB_wpIn hB
    · rename_i hw; rw [if_neg hw]; exact ⟨fun _ _ => trivial, hB⟩
theorem wpAnyB_in {ops : Array Oper} {Q : Exit → Act → World → Prop} : ∀ (fuel : Nat) (listed : Array Bool) (a : Act) (w : World), wpAnyB P ops (Q .normal) fuel listed a w → wpAnyIn (Fw l) n P .any ops Q fuel listed a w := by
  intro fuel
  induction fuel with
  | zero => intro listed a w h; exact h
  | succ fuel ih =>
    intro listed a w h
    refine ⟨h.1, fun i hi => ?_⟩
    have h2 := wpOpB_mono (ih _) (h.2 i hi)
    unfold wpOpB at h2
    unfold wpOpIn
    split
    · rename_i e; rw [e] at h2; exact h2
    · rename_i o e
      rw [e] at h2
      simp only at h2
      split
      · rename_i hw; rw [if_pos hw] at h2; exact wpB_wpIn h2
      · rename_i hw; rw [if_neg hw] at h2; exact ⟨fun _ _ => trivial, h2⟩
/-- code without loops and ranges over functions -/
def plainC : Code → Bool
  | .skip | .exit _ | .label _ | .goto _ | .ret => true
  | .region _ _ _ => true
  | .seq x y => plainC x && plainC y
  | .cond _ x y => plainC x && plainC y
  | .block _ b => plainC b
  | _ => false
theorem runC_soundIn (hm : P.follows .mixedOrders = true) : ∀ (c : Code) (s : AS) (Q : Exit → AS → Prop), plainC c = true → runC [] P E c s Q → ∀ a w, Sat E s a w → c.wpIn (Fw l) n P (PostC E Q) a w := by
  intro c
  induction c with
  | skip => intro s Q _ h a w hs; exact wpIn_skip ⟨rfl, s, hs, h⟩
  | region id ops draw =>
    intro s Q hp h a w hs
    cases draw with
    | false => exact wpIn_region_list (runL_soundIn (Q := PostC E Q) (fun s' a' w' h1 h2 => ⟨rfl, s', h1, h2⟩) _ s a w hs h)
    | true => exact wpIn_region_any hm (wpAnyB_in _ _ _ _ (h a _ (Sat.drew hs) (PostC E Q .normal) fun s' a' w' h1 h2 => ⟨rfl, s', h1, h2⟩))
  | seq x y ihx ihy =>
    intro s Q hp h a w hs
    simp only [plainC, Bool.and_eq_true] at hp
    simp only [runC] at h
    rw [if_neg (by rw [isCut_nil]; decide)] at h
    refine wpIn_seq (wpIn_mono (ihx s _ hp.1 h a w hs) fun e a' w' ⟨h0, s', h1, h2⟩ => ?_)
    cases e with
    | normal => exact ihy s' Q hp.2 h2 a' w' h1
    | _ => exact ⟨h0, s', h1, h2⟩
  | cond c x y ihx ihy =>
    intro s Q hp h a w hs
    simp only [plainC, Bool.and_eq_true] at hp
    obtain ⟨g1, h⟩ := h
    obtain ⟨G, F, hr⟩ := hs
    have hc := (hr.ev c).ung g1
    unfold condP at h
    split at h
    · rename_i v e1
      rw [e1] at hc
      refine wpIn_cond_split hc.c_inv (fun hv => ihx s Q hp.1 (by rw [if_pos hv] at h; exact h) a w ⟨G, F, hr⟩) fun hv => ihy s Q hp.2 (by rw [if_neg (by rw [hv]; decide)] at h; exact h) a w ⟨G, F, hr⟩
    · cases h
  | block id b ih =>
    intro s Q hp h a w hs
    refine wpIn_block (wpIn_mono (ih s _ hp h a w hs) fun e a' w' ⟨h0, s', h1, h2⟩ => ?_)
    cases e with
    | exit id' =>
      simp only [blockK] at h2
      simp only [Exit.inBlock]
      split
      · rename_i e; rw [if_pos e] at h2; exact ⟨rfl, s', h1, h2⟩
      · rename_i e; rw [if_neg e] at h2; exact ⟨rfl, s', h1, h2⟩
    | _ => exact ⟨h0, s', h1, h2⟩
  | exit id => intro s Q _ h a w hs; exact wpIn_exit ⟨rfl, s, hs, h⟩
  | label l => intro s Q _ h a w hs; exact wpIn_label ⟨rfl, s, hs, h⟩
  | goto l => intro s Q _ h a w hs; exact wpIn_goto ⟨rfl, s, hs, h⟩
  | ret => intro s Q _ h a w hs; exact wpIn_ret ⟨rfl, s, hs, h⟩
  | loop b ih => intro s Q hp; cases hp
  | rangeFunc f ps x b _ _ => intro s Q hp; cases hp
  | scope b _ => intro s Q hp; cases hp
  | refuse y => intro s Q hp; cases hp
end

/-! ## A range over a function -/
section
variable {P : Program} {E : Env} {s : AS} {a : Act} {G : Gh} {F : Nat → Prop} {w w' : World}
/-- the world has turned where nothing is told of -/
theorem Rel.keepW {S : Nat → Prop} (hr : Rel E G F s a w) (hm : Mod S w w') (h1 : ∀ b, F b → ¬ S b) (h2 : ∀ (k : Nat) (x : AObj), s.h[k]? = some x → G.vir k = false → ¬ S (G.σ k)) (h3 : ∀ D, w.heap[D]? = some (.deferred (some [])) → ¬ S D) (h4 : ∀ b, S b → E.w0.heap.size ≤ b) : Rel E G F s a w' := by
  have hw : ∀ b, F b → w'.heap[b]? = w.heap[b]? := fun b hb => hm.block b (hr.flt b hb) (h1 b hb)
  have hl := Later.refl G (lens s.h)
  refine ⟨hr.len, hr.def0.keep (fun D e1 e2 => ⟨e1, hm.block D (lt_of_heap e2) (h3 D e2)⟩), fun i av v e1 e2 => (hr.slot i av v e1 e2).keep hl (fun _ h => h) hw, ⟨fun k y hk => ?_, hr.heap.inj⟩, hr.mod.mod hm fun i hi hS => absurd (h4 i hS) (by omega), hr.sup, hr.fsup, hr.f0, hr.fc.keep hw, hr.lat⟩
  exact (hr.heap.obj k y hk).keep hl (fun _ h => h) hw ⟨rfl, rfl, rfl⟩ (fun hv => hm.block _ (hr.heap.lt hk hv) (h2 k y hk hv)) fun hv hf => hr.heap.nfz hk hv hf
theorem Rel.grow (hr : Rel E G F s a w) (hm : Mod (fun _ => False) w w') : Rel E G F s a w' := hr.keepW hm (fun _ _ h => h) (fun _ _ _ _ h => h) (fun _ _ h => h) fun _ h => h.elim
theorem HRel.notLoop {h : List AObj} (hh : HRel G F h w) {k : Nat} {x : AObj} (hk : h[k]? = some x) (hv : G.vir k = false) {r : Loop} (hd : w.heap[G.σ k]? = some (.loop r)) : False := by
  cases x with
  | it s pos => have := (hh.obj k _ hk).2.2; rw [hd] at this; cases this
  | o kd cs => obtain ⟨c, t, f, e⟩ := hh.isCells hk hv; rw [hd] at e; cases e
theorem mod_putObj (w : World) (l : Nat) (o : Obj) : Mod (fun b => b = l) w (w.putObj l o) := ⟨rfl, rfl, rfl, by simp [World.putObj], fun k _ hk => World.putObj_heap_other hk⟩
theorem Rel.putLoop (hr : Rel E G F s a w) {l : Nat} {r : Loop} (hl : w.heap[l]? = some (.loop r)) (hE : E.w0.heap.size ≤ l) (o : Obj) : Rel E G F s a (w.putObj l o) := by
  refine hr.keepW (mod_putObj w l o) (fun b hb e => ?_) (fun k x hk hv e => ?_) (fun D hD e => ?_) fun b e => by subst e; exact hE
  · subst e; obtain ⟨c, t, f, e⟩ := hr.fc b hb; rw [hl] at e; cases e
  · rw [← e] at hl; exact hr.heap.notLoop hk hv hl
  · subst e; rw [hl] at hD; cases hD
theorem not_live {h : List AObj} (hh : HRel G F h w) {k : Nat} {x : AObj} {ro : List Nat} (hk : h[k]? = some x) (hv : G.vir k = false) (hkr : k ∈ ro) : ¬ liveB G h ro (G.σ k) := by
  rintro ⟨k', x', hk', hv', hf', hn', he'⟩
  by_cases hfx : fzO x = false
  · have := hh.inj k k' x x' hk hk' hv hv' hfx hf' he'
    exact hn' (this ▸ hkr)
  · have hob := hh.obj k x hk
    cases x with
    | it s pos => exact hfx rfl
    | o kd cs =>
      cases kd with
      | box => exact hfx rfl
      | row e sz => exact hfx rfl
      | fz =>
        rcases hob with ⟨g1, _⟩ | ⟨_, g1, _⟩
        · rw [hv] at g1; cases g1
        · exact hh.nfz hk' hv' hf' (he' ▸ g1)
/-- as reE, but of the first n handles alone it is asked that they stay -/
def reT (mks : Nat → Prop) (G : Gh) (F : Nat → Prop) (s : AS) (w : World) (ro : List Nat) (n : Nat) : Env := ⟨w, liveB G s.h ro, F, G, (lens s.h).take n, allSt, fun k => ro.contains k, mks⟩
theorem rebaseT (hr : Rel E G F s a w) (ro : List Nat) (n : Nat) : Rel (reT E.mks G F s w ro n) G F s a w :=
  ⟨hr.len, hr.def0, hr.slot, hr.heap, Mod.refl _ _, fun k x hk hv hf hh => .inl ⟨k, x, hk, hv, hf, by simpa [reT] using hh, rfl⟩, fun b hb => .inl hb, fun b hb => hb, hr.fc, fun k m _ hm => by
    simp only [reT, List.getElem?_take] at hm
    split at hm
    · exact .inl ⟨hm, rfl, rfl, rfl⟩
    · cases hm⟩
theorem unbaseT (hE : E.ho = noHo) {G' : Gh} {F' : Nat → Prop} {a' : Act} {s' : AS} {ro : List Nat} {n : Nat} (hro : ∀ k ∈ ro, k < s.h.length ∧ k < n) (hn : E.ln0.length ≤ n) (hr : Rel E G F s a w) (h : Rel (reT E.mks G F s w ro n) G' F' s' a' w') (hh : heldOk ro s s') : Rel E G' F' s' a' w' := by
  have hlat : ∀ (k m : Nat), k < n → (lens s.h)[k]? = some m → ((lens s'.h)[k]? = some m ∧ G'.σ k = G.σ k ∧ G'.bs k = G.bs k ∧ G'.vir k = G.vir k) ∨ ∃ m', (lens s'.h)[k]? = some m' ∧ m < m' := fun k m hk hm => h.lat k m rfl (by simp only [reT, List.getElem?_take]; rw [if_pos hk]; exact hm)
  have hL : ∀ b, liveB G s.h ro b → E.L b ∨ E.w0.heap.size ≤ b := fun b ⟨k, x, hk, hv, hf, _, hb⟩ => by rw [hb]; exact hr.sup k x hk hv hf (by rw [hE]; rfl)
  have hws : E.w0.heap.size ≤ w.heap.size := hr.mod.size
  refine ⟨h.len, h.def0, h.slot, h.heap, hr.mod.mod h.mod fun i hi hl => (hL i hl).resolve_right (by omega), fun k x hk hv hf _ => ?_, fun b hb => ?_, fun b hb => h.f0 b (hr.f0 b hb), h.fc, fun k m hs hm => ?_⟩
  · by_cases hkr : k ∈ ro
    · obtain ⟨hkl, hkn⟩ := hro k hkr
      have hm : (lens s.h)[k]? = some (lnO s.h[k]) := by simp [lens, hkl]
      obtain ⟨y, hy⟩ : ∃ y, s.h[k]? = some y := ⟨_, List.getElem?_eq_getElem hkl⟩
      rcases hlat k _ hkn hm with ⟨e1, e2, e3, e4⟩ | ⟨m', e1, e2⟩
      · rw [e2]
        by_cases hfy : fzO y = false
        · exact hr.sup k y hy (e4 ▸ hv) hfy (by rw [hE]; rfl)
        · have hob := hr.heap.obj k y hy
          cases y with
          | it s pos => exact absurd rfl hfy
          | o kd cs =>
            cases kd with
            | box => exact absurd rfl hfy
            | row e sz => exact absurd rfl hfy
            | fz =>
              rcases hob with ⟨g1, _⟩ | ⟨_, g1, _⟩
              · have : G.vir k = false := e4 ▸ hv
                rw [this] at g1; cases g1
              · exact absurd (h.f0 _ g1) (by have := h.heap.nfz hk hv hf; rw [e2] at this; exact this)
      · have := (hh k hkr).symm.trans e1
        rw [hm] at this; injection this with this; omega
    · rcases h.sup k x hk hv hf (by simpa [reT] using hkr) with h1 | h1
      · exact hL _ h1
      · have h2 : w.heap.size ≤ G'.σ k := h1
        exact .inr (by omega)
  · rcases h.fsup b hb with h1 | h1 | h1
    · exact hr.fsup b h1
    · rcases hL b h1 with h2 | h2
      · exact .inr (.inl h2)
      · exact .inr (.inr h2)
    · have h2 : w.heap.size ≤ b := h1
      exact .inr (.inr (by omega))
  · have hkn : k < n := Nat.lt_of_lt_of_le (List.getElem?_eq_some_iff.1 hm).1 hn
    rcases hr.lat k m hs hm with ⟨e1, e2, e3, e4⟩ | ⟨m', e1, e2⟩
    · rcases hlat k m hkn e1 with ⟨f1, f2, f3, f4⟩ | ⟨m', f1, f2⟩
      · exact .inl ⟨f1, f2.trans e2, f3.trans e3, f4.trans e4⟩
      · exact .inr ⟨m', f1, f2⟩
    · rcases hlat k m' hkn e1 with ⟨f1, _⟩ | ⟨m'', f1, f2⟩
      · exact .inr ⟨m', f1, e2⟩
      · exact .inr ⟨m'', f1, Nat.lt_trans e2 f2⟩
/-- the blocks of these handles -/
def kpB (G : Gh) (h : List AObj) (kp : List Nat) (b : Nat) : Prop := ∃ k x, k ∈ kp ∧ h[k]? = some x ∧ G.vir k = false ∧ b = G.σ k
/-- data that an iterator hands on: what stays, and what it made since it was last bidden -/
def FY (F : Nat → Prop) (W0 W1 : World) (F2 : Nat → Prop) : Prop := (∀ b, F b → F2 b) ∧ (∀ b, F2 b → F b ∨ W0.heap.size ≤ b) ∧ FC F2 W1
theorem Rel.moreF (hr : Rel E G F s a w) {F2 : Nat → Prop} (h1 : ∀ b, F2 b → E.F0 b ∨ E.L b ∨ E.w0.heap.size ≤ b) (h2 : FC F2 w) (h3 : ∀ (k : Nat) (x : AObj), s.h[k]? = some x → G.vir k = false → fzO x = false → ¬ F2 (G.σ k)) : Rel E G (fun b => F b ∨ F2 b) s a w := by
  have hF : ∀ b, F b → F b ∨ F2 b := fun b h => .inl h
  have hl := Later.refl G (lens s.h)
  refine ⟨hr.len, hr.def0.keep fun D h4 h5 => ⟨fun h => h.elim h4 (fun e => by obtain ⟨c, t, f, e⟩ := h2 D e; rw [h5] at e; cases e), rfl⟩, fun i av v e1 e2 => (hr.slot i av v e1 e2).keep hl hF fun _ _ => rfl, ⟨fun k x hk => ?_, hr.heap.inj⟩, hr.mod, hr.sup, fun b h => h.elim (hr.fsup b) (h1 b), fun b h => .inl (hr.f0 b h), fun b h => h.elim (hr.fc b) (h2 b), hr.lat⟩
  exact (hr.heap.obj k x hk).keep hl hF (fun _ _ => rfl) ⟨rfl, rfl, rfl⟩ (fun _ => rfl) fun hv hf h => h.elim (hr.heap.nfz hk hv hf) (h3 k x hk hv hf)
/-- **The contract of an iterator**: it hands out these items, in order, for as long as it is bidden to; the rounds keep the blocks kp. -/
def ASeq (P : Program) (gf : FuncId) (caps : List AV) (h : List AObj) (kp : List Nat) (N : Nat) (items : Nat → List AV) : Prop :=
  ∀ (G : Gh) (F : Nat → Prop) (w : World) (vs : Array Value), HRel G F h w → FC F w → RepL G (lens h) F w caps vs → ∀ (l : Nat) (J Jx : Nat → World → Prop) (W : World), Mod (fun _ => False) w W → (∀ j A B, J j A → Mod (fun _ => False) A B → J j B) → (∀ j A B, Jx j A → Mod (fun _ => False) A B → Jx j B) →
      (∀ j W0 W1 F2 ys, j < N → J j W0 → Mod (fun _ => False) W0 W1 → FY F W0 W1 F2 → RepL G (lens h) F2 W1 (items j) ys → YieldAt Fence.wide 0 P l ys W1 fun e W' => (e = .returned (.bool true) ∧ J (j + 1) W' ∧ ∀ b, F b ∨ kpB G h kp b → W'.heap[b]? = W1.heap[b]?) ∨ (e = .returned (.bool false) ∧ Jx (j + 1) W')) →
      J 0 W → CallsIn Fence.wide 1 P gf (#[.func (.yield l) #[] #[]] ++ vs) W fun e W' => (∃ v, e = .returned v) ∧ (J N W' ∨ ∃ j, j < N ∧ Jx (j + 1) W')
def heldH (kp : List Nat) (h h' : List AObj) : Prop := ∀ k ∈ kp, (lens h')[k]? = (lens h)[k]?
def rangeK (E : Env) (kp : List Nat) (h h' : List AObj) (t : List AV) (I' : Prop) (Q : Exit → AS → Prop) : Exit → AS → Prop
  | .normal, s' => I' ∧ ∃ t', Wk E s' ⟨t', h'⟩
  | e, s' => ∃ t' h'', Wk E s' ⟨t', h''⟩ ∧ heldH kp h h'' ∧ Q e ⟨t, h''⟩
def midK (P : Program) (b : Code) (kp : List Nat) (h h' : List AObj) (t : List AV) (I' : Prop) (Q : Exit → AS → Prop) : Exit → AS → Prop
  | .normal, s1 => heldH kp h s1.h ∧ ∀ E : Env, E.ho = (fun k => kp.contains k) → E.ln0.length ≤ h.length → E.st = allSt → runK P E [] b [] (rangeK E kp h h' t I' Q) s1
  | _, _ => False
def setPs (t : List AV) : List Nat → List AV → List AV
  | p :: ps, v :: vs => setPs (t.set p v) ps vs
  | _, _ => t
theorem Rel.setPs : ∀ (ps : List Nat) (l : List AV) (vs : List Value) (t : List AV) (a : Act), Rel E G F ⟨t, s.h⟩ a w → l.length = vs.length → (∀ (j : Nat) (u : AV) (x : Value), l[j]? = some u → vs[j]? = some x → RepV G (lens s.h) F w u x) →
    Rel E G F ⟨setPs t ps l, s.h⟩ { a with tmps := (ps.zip vs).foldl (fun t (p : Nat × Value) => t.setIfInBounds p.1 p.2) a.tmps } w := by
  intro ps
  induction ps with
  | nil => intro l vs t a hr _ _; simpa [Go.Proofs.Ytmgpiminicgbiaa.setPs] using hr
  | cons p ps ih =>
    intro l vs t a hr hl hv
    cases l with
    | nil => cases vs with
      | nil => simpa [Go.Proofs.Ytmgpiminicgbiaa.setPs] using hr
      | cons x vs => simp at hl
    | cons u l => cases vs with
      | nil => simp at hl
      | cons x vs =>
        have h1 := hr.put (hv 0 u x rfl rfl) (some p)
        have := ih l vs (t.set p u) (a.put (some p) x) h1 (by simpa using hl) fun j u' x' e1 e2 => hv (j + 1) u' x' (by simpa using e1) (by simpa using e2)
        simpa [Go.Proofs.Ytmgpiminicgbiaa.setPs, Act.put] using this
theorem range_of (hm : P.follows .mixedOrders = true) {f : Operand} {ps : Array Tmp} {id : Nat} {ops : Array Oper} {b : Code} {Q : Exit → AS → Prop} (hE : E.ho = noHo) (hmk : ∀ D, E.w0.heap.size ≤ D → E.mks D) {gf : FuncId} {caps : List AV} (hg : (s.ev f).gc) (hf : (s.ev f).ung = .clo (.func gf) [] caps) (hc : callable P gf = true)
    {N : Nat} {items : Nat → List AV} (kp : List Nat) (hkp : ∀ k ∈ kp, k < s.h.length) (hseq : ASeq P gf caps s.h kp N items) (hps : ∀ j, (items j).length = ps.size) (hpl : plainC b = true)
    (Inv : Nat → Prop) (hI0 : Inv 0) (hh : Nat → List AObj) (h0 : hh 0 = s.h) (hheld : ∀ j, j ≤ N → heldH kp s.h (hh j))
    (round : ∀ j, j < N → Inv j → ∀ E' : Env, E'.ho = (fun k => kp.contains k) → E'.ln0 = lens (hh j) → E'.st = allSt → runK P E' [] (.region id ops false) [] (midK P b kp (hh j) (hh (j + 1)) s.t (Inv (j + 1)) Q) ⟨setPs s.t ps.toList (items j), hh j⟩)
    (done : Inv N → Q .normal ⟨s.t, hh N⟩) : RangeFG P E (.rangeFunc f ps (.region id ops false) b) s Q := by
  intro a w ⟨G, F, hr⟩
  have hcl := (hr.ev f).ung hg
  rw [hf] at hcl
  obtain ⟨cs, ds, e1, e2, e3, _, e5⟩ := clo_inv hcl
  obtain rfl : cs = #[] := by simpa using e2.symm
  have hcall := hseq G F w ds hr.heap hr.fc ⟨e3, e5⟩
  obtain ⟨E2, hE2⟩ : ∃ E2, E2 = reE E.mks G F s w [] := ⟨_, rfl⟩
  have hE2ho : E2.ho = noHo := by subst hE2; rfl
  have hE2m : E2.mks = E.mks := by subst hE2; rfl
  have hE2w : E2.w0 = w := by subst hE2; rfl
  have hr2 : Rel E2 G F ⟨s.t, hh 0⟩ a w := by rw [h0]; subst hE2; exact rebase hr []
  -- a state behind the loop
  have back : ∀ (h' : List AObj) (W : World) (G' : Gh) (F' : Nat → Prop), Rel E2 G' F' ⟨s.t, h'⟩ a W → W.heap[w.heap.size]? = some (.deferred (some [])) → Sat E ⟨s.t, h'⟩ { a with defers := { target := .collected w.heap.size, args := #[] } :: a.defers } W := fun h' W G' F' h2 hD => by
    have hu : Rel E G' F' ⟨s.t, h'⟩ a W := by
      subst hE2
      exact unbase hE (fun k hk => by cases hk) hr h2 fun k hk => by cases hk
    refine ⟨G', F', hu.len, ⟨?_, fun d hd => ?_⟩, hu.slot, hu.heap, hu.mod, hu.sup, hu.fsup, hu.f0, hu.fc, hu.lat⟩
    · refine List.nodup_cons.2 ⟨fun hm => ?_, hu.def0.nod⟩
      obtain ⟨D, g1, _, _, g4⟩ := hr.def0.mem _ hm
      injection g1 with g1 g1'
      injection g1 with g1
      have := lt_of_heap g4
      omega
    · rcases List.mem_cons.1 hd with rfl | hd
      · refine ⟨_, rfl, hmk _ hr.mod.size, fun hb => ?_, hD⟩
        obtain ⟨c, ty, fr, e⟩ := hu.fc _ hb
        rw [hD] at e; cases e
      · exact hu.def0.mem d hd
  refine (wpIn_wide (n := 2)).1 (wpIn_rangeFunc ?_)
  intro fn hfn
  obtain ⟨rec, hrec⟩ : ∃ rec : LoopState → Option Code → Loop, rec = fun st pe => { state := st, pending := pe, fn, tmps := a.tmps, params := ps, assign := .region id ops false, body := b, defers := w.heap.size } := ⟨_, rfl⟩
  obtain ⟨W1, hW1⟩ : ∃ W1, (w.alloc (.deferred (some []))).alloc (.loop (rec .ready none)) = W1 := ⟨_, rfl⟩
  have hL1 : W1.heap[w.heap.size + 1]? = some (.loop (rec .ready none)) := by
    rw [← hW1]; have := World.alloc_heap_new (w.alloc (.deferred (some []))) (.loop (rec .ready none)); rwa [World.size_alloc] at this
  have hK1 : W1.heap[w.heap.size]? = some (.deferred (some [])) := by
    rw [← hW1]; exact (heap_alloc_lt _ _ (by simp)).trans (World.alloc_heap_new w _)
  have hM1 : Mod (fun _ => False) w W1 := by rw [← hW1]; exact ((Mod.refl _ w).alloc _).alloc _
  refine ⟨w.heap.size + 1, [{ target := .collected w.heap.size, args := #[] }], W1, { target := .fn (.func gf) ds, args := #[.func (.yield (w.heap.size + 1)) #[] #[]] }, W1, gf,
    #[.func (.yield (w.heap.size + 1)) #[] #[]] ++ ds, W1, ?_, ?_, ?_, ?_, fun _ => by decide, ?_⟩
  · rw [← hW1, hrec]; exact run_enterLoop_outer _ _ _ _ _
  · simp only [resolve, e1]
    simp [go_sem]
  · intro f' hf'; trivial
  · simp [invoke, go_sem, callable_inv hc]
  have mF : ∀ {A B : World}, Mod (fun _ => False) A B → ∀ {k : Nat} {o : Obj}, A.heap[k]? = some o → B.heap[k]? = some o := fun h k o hk => (h.block k (lt_of_heap hk) fun h => h).trans hk
  have step := hcall (w.heap.size + 1)
    (fun j W => Inv j ∧ ∃ G' F', Rel E2 G' F' ⟨s.t, hh j⟩ a W ∧ W.heap[w.heap.size + 1]? = some (.loop (rec .ready none)) ∧ W.heap[w.heap.size]? = some (.deferred (some [])))
    (fun j W => ∃ (c : Code) (e : Exit) (h' : List AObj) (G' : Gh) (F' : Nat → Prop), Rel E2 G' F' ⟨s.t, h'⟩ a W ∧ Q e ⟨s.t, h'⟩ ∧ ((c = .ret ∧ e = .ret) ∨ (∃ i, c = .exit i ∧ e = .exit i) ∨ ∃ i, c = .goto i ∧ e = .goto i) ∧ W.heap[w.heap.size + 1]? = some (.loop (rec .done (some c))) ∧ W.heap[w.heap.size]? = some (.deferred (some [])))
    W1 hM1 (fun j A B ⟨hI, G', F', h1, h2, h3⟩ hm => ⟨hI, G', F', h1.grow hm, mF hm h2, mF hm h3⟩) (fun j A B ⟨c, e, h', G', F', h1, h2, h3, h4, h5⟩ hm => ⟨c, e, h', G', F', h1.grow hm, h2, h3, mF hm h4, mF hm h5⟩)
    ?_ ⟨hI0, G, F, hr2.grow hM1, hL1, hK1⟩
  · refine step.mono ?_
    rintro e W2 ⟨⟨v, rfl⟩, (⟨hIN, G', F', hi, hl, hk⟩ | ⟨j, hj, c, e, h', G', F', hi, hq, hc, hl, hk⟩)⟩
    · refine ⟨none, _, by have := run_endLoop (P := P) hl (by rw [hrec]; simp); rw [hrec] at this; exact this, ?_⟩
      exact ⟨rfl, ⟨s.t, hh N⟩, back _ _ G' F' (hi.putLoop hl (by rw [hE2w]; omega) _) ((World.putObj_heap_other (by omega)).trans hk), done hIN⟩
    · refine ⟨some c, _, by have := run_endLoop (P := P) hl (by rw [hrec]; simp); rw [hrec] at this; exact this, wpIn_wide.2 ?_⟩
      have hb := back _ _ G' F' (hi.putLoop hl (by rw [hE2w]; omega) (.loop { rec .done (some c) with state := .exhausted })) ((World.putObj_heap_other (by omega)).trans hk)
      rcases hc with ⟨rfl, rfl⟩ | ⟨i, rfl, rfl⟩ | ⟨i, rfl, rfl⟩
      · exact wp_ret ⟨rfl, ⟨s.t, h'⟩, by rw [hrec] at hb; exact hb, hq⟩
      · exact wp_exit ⟨rfl, ⟨s.t, h'⟩, by rw [hrec] at hb; exact hb, hq⟩
      · exact wp_goto ⟨rfl, ⟨s.t, h'⟩, by rw [hrec] at hb; exact hb, hq⟩
  -- one round
  rintro j W0 W F2 ys hj ⟨hIj, G', F1', hi0, hl0, hk0⟩ hmod ⟨fy1, fy2, fy3⟩ hys2
  have hl := mF hmod hl0
  have hk := mF hmod hk0
  have hF0 : ∀ b, F b → F1' b := fun b h => hi0.f0 b (by subst hE2; exact h)
  obtain ⟨F', hi, hF2⟩ : ∃ F', Rel E2 G' F' ⟨s.t, hh j⟩ a W ∧ ∀ b, F2 b → F' b := by
    refine ⟨_, (hi0.grow hmod).moreF (F2 := F2) (fun b hb => ?_) fy3 fun k x hkx hv hf hb => ?_, fun b hb => .inr hb⟩
    · rcases fy2 b hb with h | h
      · exact .inl (by subst hE2; exact h)
      · have := hi0.mod.size
        exact .inr (.inr (by omega))
    · rcases fy2 _ hb with h | h
      · exact hi0.heap.nfz hkx hv hf (hF0 _ h)
      · have := hi0.heap.lt hkx hv
        omega
  have hlt : w.heap.size + 1 < W.heap.size := lt_of_heap hl
  have hy := run_yield (P := P) (args := ys) hl (by rw [← hys2.1, hps, hrec])
  rw [hrec] at hy
  have hkpj : ∀ k ∈ kp, k < (hh j).length := fun k hk => by
    have h1 := hheld j (by omega) k hk
    have h2 : (lens s.h)[k]? = some (lnO (s.h[k]'(hkp k hk))) := by simp [lens, hkp k hk]
    rw [h2] at h1
    have := (List.getElem?_eq_some_iff.1 h1).1
    simpa [lens] using this
  have hr3 := rebase hi kp
  rw [hE2m] at hr3
  have hr3' : Rel (reE E.mks G' F' ⟨s.t, hh j⟩ W kp) G' F' ⟨s.t, hh j⟩ ⟨a.tmps, []⟩ W := ⟨hr3.len, .nil rfl, hr3.slot, hr3.heap, hr3.mod, hr3.sup, hr3.fsup, hr3.f0, hr3.fc, hr3.lat⟩
  have hF : ∀ b, F b → F' b := fun b h => hi.f0 b (by subst hE2; exact h)
  have hLt : Later G G' (lens s.h) (lens (hh j)) := fun k m hm => by
    have := hi.lat k m (by subst hE2; rfl) (by subst hE2; exact hm)
    subst hE2; exact this
  have hsameF : ∀ b, F b → W.heap[b]? = w.heap[b]? := fun b hb => by
    have := hi.mod.block b (by rw [hE2w]; exact hr.flt b hb) (by subst hE2; rintro ⟨k, x, hk, hv, hf, _, he⟩; exact hr.heap.nfz hk hv hf (he ▸ hb))
    rw [hE2w] at this; exact this
  have hst := Rel.setPs (s := ⟨s.t, hh j⟩) ps.toList (items j) ys.toList s.t ⟨a.tmps, []⟩ hr3' (by simpa using hys2.1) fun i u x h1 h2 => (hys2.2 i u x h1 (by simpa using h2)).keep hLt hF2 fun _ _ => rfl
  have hround := round j hj hIj (reE E.mks G' F' ⟨s.t, hh j⟩ W kp) rfl rfl rfl
  refine ⟨fn, _, _, _, hy, roundIn_of_wpIn trivial ?_⟩
  have hfold : (ps.zip ys).foldl (fun t (p : Nat × Value) => t.setIfInBounds p.1 p.2) a.tmps = (ps.toList.zip ys.toList).foldl (fun t (p : Nat × Value) => t.setIfInBounds p.1 p.2) a.tmps := by
    rw [← Array.foldl_toList, Array.toList_zip]
  refine wpIn_region_list (runL_soundIn (E := reE E.mks G' F' ⟨s.t, hh j⟩ W kp) (K := fun s1 => midK P b kp (hh j) (hh (j + 1)) s.t (Inv (j + 1)) Q .normal s1) ?_ ops.toList ⟨setPs s.t ps.toList (items j), hh j⟩ _ W ⟨G', F', by rw [← hfold] at hst; exact hst⟩ hround)
  rintro s1 a1 V1 ⟨G1, F1, hR1⟩ ⟨hh1, hb1⟩
  have hkpj2 : ∀ k ∈ kp, k < (hh j).length ∧ k < (hh j).length := fun k hk => ⟨hkpj k hk, hkpj k hk⟩
  -- the loop's blocks are none that are told of
  have hV1l : V1.heap[w.heap.size + 1]? = some (.loop (rec .ready none)) := (hR1.mod.block _ (lt_of_heap hl) fun ⟨i, x, hx, hv, hf, _, he⟩ => hi.heap.notLoop hx hv (by rw [← he]; exact hl)).trans hl
  have hV1k : V1.heap[w.heap.size]? = some (.deferred (some [])) := (hR1.mod.block _ (lt_of_heap hk) fun ⟨i, x, hx, hv, hf, _, he⟩ => hi.heap.notDef hx hv (by rw [← he]; exact hk)).trans hk
  obtain ⟨V2, hV2⟩ : ∃ V2, V2 = V1.putObj (w.heap.size + 1) (.loop { rec .ready none with state := .busy }) := ⟨_, rfl⟩
  refine ⟨V2, by rw [hV2]; exact run_beginRound hV1l (by rw [hrec]), ?_⟩
  have hu1 : Rel E2 G1 F1 s1 a1 V1 := unbase hE2ho hkpj hi (by rw [hE2m]; exact ⟨hR1.len, hR1.def0, hR1.slot, hR1.heap, hR1.mod, hR1.sup, hR1.fsup, hR1.f0, hR1.fc, hR1.lat⟩) hh1
  have hu2 : Rel E2 G1 F1 s1 a1 V2 := by rw [hV2]; exact hu1.putLoop hV1l (by rw [hE2w]; omega) _
  have hV2l : V2.heap[w.heap.size + 1]? = some (.loop { rec .ready none with state := .busy }) := by rw [hV2]; exact World.putObj_heap_same (lt_of_heap hV1l)
  have hV2k : V2.heap[w.heap.size]? = some (.deferred (some [])) := by rw [hV2]; exact (World.putObj_heap_other (by omega)).trans hV1k
  have hr4 := rebaseT hu2 kp (hh j).length
  have hwalk := runC_soundIn hm (n := 0) (l := w.heap.size + 1) b s1 _ hpl (hb1 (reT E2.mks G1 F1 s1 V2 kp (hh j).length) rfl (by simp only [reT, List.length_take]; exact Nat.min_le_left _ _) rfl) a1 V2 ⟨G1, F1, hr4⟩
  have hn0 : s.h.length ≤ (hh j).length := by
    rcases Nat.eq_zero_or_pos s.h.length with h | h
    · omega
    · have hlt : s.h.length - 1 < s.h.length := by omega
      have hm : (lens s.h)[s.h.length - 1]? = some (lnO (s.h[s.h.length - 1]'hlt)) := by unfold lens; rw [List.getElem?_map, List.getElem?_eq_getElem hlt]; rfl
      rcases hLt _ _ hm with ⟨e1, _⟩ | ⟨m', e1, _⟩ <;>
      · have := (List.getElem?_eq_some_iff.1 e1).1
        simp [lens] at this; omega
  -- behind the body
  have fin : ∀ (t' : List AV) (h'' : List AObj) (G3 : Gh) (F3 : Nat → Prop) (a3 : Act) (V3 : World), Rel (reT E2.mks G1 F1 s1 V2 kp (hh j).length) G3 F3 ⟨t', h''⟩ a3 V3 → heldH kp (hh j) h'' →
      Rel E2 G3 F3 ⟨s.t, h''⟩ a V3 ∧ V3.heap[w.heap.size + 1]? = some (.loop { rec .ready none with state := .busy }) ∧ V3.heap[w.heap.size]? = some (.deferred (some [])) ∧ ∀ b, F b ∨ kpB G s.h kp b → V3.heap[b]? = W.heap[b]? := by
    intro t' h'' G3 F3 a3 V3 h4 hhd
    have hV3l : V3.heap[w.heap.size + 1]? = some (.loop { rec .ready none with state := .busy }) := (h4.mod.block _ (lt_of_heap hV2l) fun ⟨i, x, hx, hv, hf, _, he⟩ => hu2.heap.notLoop hx hv (by rw [← he]; exact hV2l)).trans hV2l
    have hV3k : V3.heap[w.heap.size]? = some (.deferred (some [])) := (h4.mod.block _ (lt_of_heap hV2k) fun ⟨i, x, hx, hv, hf, _, he⟩ => hu2.heap.notDef hx hv (by rw [← he]; exact hV2k)).trans hV2k
    have hkp1 : ∀ k ∈ kp, k < s1.h.length ∧ k < (hh j).length := fun k hk => by
      refine ⟨?_, hkpj k hk⟩
      have h1 := hh1 k hk
      have h2 : (lens (hh j))[k]? = some (lnO ((hh j)[k]'(hkpj k hk))) := by simp [lens, hkpj k hk]
      rw [h2] at h1
      have := (List.getElem?_eq_some_iff.1 h1).1
      simpa [lens] using this
    have hhd1 : heldOk kp s1 ⟨t', h''⟩ := fun k hk => (hhd k hk).trans (hh1 k hk).symm
    have hu4 := unbaseT hE2ho hkp1 (by subst hE2; simpa [reE, lens] using hn0) hu2 h4 hhd1
    have hF12 : ∀ b, F1 b → V3.heap[b]? = V2.heap[b]? := fun b hb => h4.mod.block b (hu2.flt b hb) fun ⟨k, x, hk, hv, hf, _, he⟩ => hu2.heap.nfz hk hv hf (he ▸ hb)
    have hne : ∀ b, F1 b → b ≠ w.heap.size + 1 := fun b hb e => by
      subst e; obtain ⟨c, ty, f, e⟩ := hu1.fc _ hb; rw [hV1l] at e; cases e
    have hF1' : ∀ b, F' b → F1 b := fun b hb => hR1.f0 b hb
    have hWV : ∀ b, F' b → V3.heap[b]? = W.heap[b]? := fun b hb => by
      rw [hF12 b (hF1' b hb), hV2, World.putObj_heap_other (hne b (hF1' b hb))]
      exact hR1.mod.block b (hi.flt b hb) fun ⟨k, x, hk, hv, hf, _, he⟩ => hi.heap.nfz hk hv hf (he ▸ hb)
    have hL13 : Later G' G3 (lens (hh j)) (lens h'') := fun k m hm => by
      have hk : k < (hh j).length := by have := (List.getElem?_eq_some_iff.1 hm).1; simpa [lens] using this
      have l4 : ∀ m, (lens s1.h)[k]? = some m → ((lens h'')[k]? = some m ∧ G3.σ k = G1.σ k ∧ G3.bs k = G1.bs k ∧ G3.vir k = G1.vir k) ∨ ∃ m', (lens h'')[k]? = some m' ∧ m < m' := fun m hm => h4.lat k m rfl (by simp only [reT, List.getElem?_take]; rw [if_pos hk]; exact hm)
      rcases hR1.lat k m rfl hm with ⟨e1, e2, e3, e4⟩ | ⟨m', e1, e2⟩
      · rcases l4 m e1 with ⟨f1, f2, f3, f4⟩ | ⟨m', f1, f2⟩
        · exact .inl ⟨f1, f2.trans e2, f3.trans e3, f4.trans e4⟩
        · exact .inr ⟨m', f1, f2⟩
      · rcases l4 m' e1 with ⟨f1, _⟩ | ⟨m'', f1, f2⟩
        · exact .inr ⟨m', f1, e2⟩
        · exact .inr ⟨m'', f1, Nat.lt_trans e2 f2⟩
    refine ⟨⟨hi.len, hi.def0.keep fun D d1 d2 => ?_, fun i av v e1 e2 => (hi.slot i av v e1 e2).keep hL13 (fun b hb => h4.f0 b (hF1' b hb)) hWV, hu4.heap, hu4.mod, hu4.sup, hu4.fsup, hu4.f0, hu4.fc, hu4.lat⟩, hV3l, hV3k, fun b hb => ?_⟩
    · have d3 : V1.heap[D]? = some (.deferred (some [])) := (hR1.mod.block D (lt_of_heap d2) fun ⟨k, x, hk, hv, hf, _, he⟩ => hi.heap.notDef hk hv (he ▸ d2)).trans d2
      have d4 : V2.heap[D]? = some (.deferred (some [])) := by
        rw [hV2, World.putObj_heap_other (fun e => by rw [e, hV1l] at d3; cases d3)]; exact d3
      have d5 : V3.heap[D]? = some (.deferred (some [])) := (h4.mod.block D (lt_of_heap d4) fun ⟨k, x, hk, hv, hf, _, he⟩ => hu2.heap.notDef hk hv (he ▸ d4)).trans d4
      refine ⟨fun hb => ?_, d5.trans d2.symm⟩
      obtain ⟨c, ty, f, e⟩ := h4.fc D hb
      rw [d5] at e; cases e
    · rcases hb with hb | ⟨k, x, hkk, hx, hv, rfl⟩
      · exact hWV b (hF b hb)
      · have hm : (lens s.h)[k]? = some (lnO x) := by simp [lens, hx]
        have hj1 := hheld j (by omega) k hkk
        have h11 := hh1 k hkk
        rcases hLt k _ hm with ⟨f1, f2, _, f4⟩ | ⟨m', f1, f2⟩
        · rcases hR1.lat k _ rfl f1 with ⟨g1, g2, _, g4⟩ | ⟨m', g1, g2⟩
          · obtain ⟨y, hy⟩ : ∃ y, (hh j)[k]? = some y := ⟨_, List.getElem?_eq_getElem (hkpj k hkk)⟩
            obtain ⟨y1, hy1⟩ : ∃ y, s1.h[k]? = some y := ⟨_, List.getElem?_eq_getElem (hkp1 k hkk).1⟩
            have v1 : G1.vir k = false := by rw [g4]; exact f4.trans hv
            have q1 : V3.heap[G1.σ k]? = V2.heap[G1.σ k]? := h4.mod.block _ (hu2.heap.lt hy1 v1) (not_live hu2.heap hy1 v1 hkk)
            have q2 : V1.heap[G'.σ k]? = W.heap[G'.σ k]? := hR1.mod.block _ (hi.heap.lt hy (f4.trans hv)) (not_live hi.heap hy (f4.trans hv) hkk)
            have g2 : G1.σ k = G'.σ k := g2
            have q3 : V2.heap[G1.σ k]? = V1.heap[G1.σ k]? := by
              rw [hV2]; exact World.putObj_heap_other fun e => hu1.heap.notLoop hy1 v1 (by rw [e]; exact hV1l)
            rw [← f2, ← g2, q1, q3, g2, q2]
          · have h2 := h11.symm.trans g1
            rw [f1] at h2; injection h2 with h2; omega
        · rw [hj1, hm] at f1; injection f1 with f1; omega
  have fin2 : ∀ (jump : Option Code) (V3 : World), V3.heap[w.heap.size + 1]? = some (.loop { rec .ready none with state := .busy }) → V3.heap[w.heap.size]? = some (.deferred (some [])) →
      (Instr.endRound (w.heap.size + 1) jump).run P V3 = .ok (.bool jump.isNone) (V3.putObj (w.heap.size + 1) (.loop (rec (if jump.isNone then .ready else .done) jump))) ∧
      (V3.putObj (w.heap.size + 1) (.loop (rec (if jump.isNone then .ready else .done) jump))).heap[w.heap.size + 1]? = some (.loop (rec (if jump.isNone then .ready else .done) jump)) ∧
      (V3.putObj (w.heap.size + 1) (.loop (rec (if jump.isNone then .ready else .done) jump))).heap[w.heap.size]? = some (.deferred (some [])) := fun jump V3 h1 h2 => by
    have := run_endRound (P := P) jump h1
    rw [hrec] at this ⊢
    exact ⟨this, World.putObj_heap_same (lt_of_heap h1), (World.putObj_heap_other (by omega)).trans h2⟩
  refine wpIn_mono hwalk ?_
  rintro e a3 V3 ⟨hp, s3, ⟨G3, F3, hR3⟩, hq3⟩
  cases e with
  | normal =>
    obtain ⟨hIn, t', hwk⟩ := hq3
    obtain ⟨G4, F4, hR4⟩ := hwk a3 V3 ⟨G3, F3, hR3⟩
    have hhd : heldH kp (hh j) (hh (j + 1)) := fun k hk => (hheld (j + 1) (by omega) k hk).trans (hheld j (by omega) k hk).symm
    obtain ⟨i1, i2, i3, i4⟩ := fin _ _ _ _ _ _ hR4 hhd
    obtain ⟨r1, r2, r3⟩ := fin2 none V3 i2 i3
    refine ⟨_, _, r1, .inl ⟨rfl, ⟨hIn, G4, F4, i1.putLoop i2 (by rw [hE2w]; omega) _, r2, r3⟩, fun b hb => ?_⟩⟩
    rw [World.putObj_heap_other, i4 b hb]
    intro e
    rcases hb with hb | ⟨k, x, hkk, hx, hv, hbk⟩
    · have := hr.flt b hb; omega
    · have := hr.heap.lt hx hv; omega
  | ret =>
    obtain ⟨t', h'', hwk, hhd, hq⟩ := hq3
    obtain ⟨G4, F4, hR4⟩ := hwk a3 V3 ⟨G3, F3, hR3⟩
    obtain ⟨i1, i2, i3, i4⟩ := fin _ _ _ _ _ _ hR4 hhd
    obtain ⟨r1, r2, r3⟩ := fin2 (some .ret) V3 i2 i3
    exact ⟨_, _, r1, .inr ⟨rfl, .ret, .ret, h'', G4, F4, i1.putLoop i2 (by rw [hE2w]; omega) _, hq, .inl ⟨rfl, rfl⟩, r2, r3⟩⟩
  | exit i =>
    obtain ⟨t', h'', hwk, hhd, hq⟩ := hq3
    obtain ⟨G4, F4, hR4⟩ := hwk a3 V3 ⟨G3, F3, hR3⟩
    obtain ⟨i1, i2, i3, i4⟩ := fin _ _ _ _ _ _ hR4 hhd
    obtain ⟨r1, r2, r3⟩ := fin2 (some (.exit i)) V3 i2 i3
    exact ⟨_, _, r1, .inr ⟨rfl, .exit i, .exit i, h'', G4, F4, i1.putLoop i2 (by rw [hE2w]; omega) _, hq, .inr (.inl ⟨i, rfl, rfl⟩), r2, r3⟩⟩
  | goto i =>
    obtain ⟨t', h'', hwk, hhd, hq⟩ := hq3
    obtain ⟨G4, F4, hR4⟩ := hwk a3 V3 ⟨G3, F3, hR3⟩
    obtain ⟨i1, i2, i3, i4⟩ := fin _ _ _ _ _ _ hR4 hhd
    obtain ⟨r1, r2, r3⟩ := fin2 (some (.goto i)) V3 i2 i3
    exact ⟨_, _, r1, .inr ⟨rfl, .goto i, .goto i, h'', G4, F4, i1.putLoop i2 (by rw [hE2w]; omega) _, hq, .inr (.inr ⟨i, rfl, rfl⟩), r2, r3⟩⟩
  | panic c => cases hp
  | outgrown => cases hp
end
end Go.Proofs.Ytmgpiminicgbiaa
