import Derived.Test.YtmgpiminicgbiaaG3
import Derived.RangeFuncNested
import Derived.RangeFuncCalls
import Derived.TacticsIn
import Derived.OrdersIn
import Derived.ProofKit
import Derived.OpenShut
import Derived.ShutString
import Derived.ChangeOld
import Derived.Below
import Derived.SliceStrings
namespace Go.Proofs.Ytmgpiminicgbiaa
set_option linter.unusedVariables false
set_option linter.unusedSimpArgs false
open Go.RowKit

/-! ## What runs in a round of a range over a function -/
section
variable {P : Program} {E : Env} {l n : Nat}
def Fw (l : Nat) : Fence := Fence.wide.inRound l
theorem wpB_wpIn {o : Oper} {a : Act} {w : World} {next : Act → World → Prop} {Q : Exit → Act → World → Prop} (h : o.wpB P a w next) : o.wpIn (Fw l) n P a w next Q := by
  obtain ⟨hnd, h⟩ := h
  refine ⟨fun _ _ => trivial, ?_⟩
  rw [Oper.semAt_eq _ _ _ hnd]
  generalize (execOp a.eval o).run P w = r at *
  unfold upB at h
  split at h
  · exact h
  · exact h
  · exact ⟨fun h => (by cases h), (CallsIn.inRound l (callsIn_wide.2 h)).mono fun e w' ⟨v, he, hn⟩ => by subst he; exact hn⟩
  · cases h
theorem runL_soundIn {ops : Array Oper} {Q : Exit → Act → World → Prop} {K : AS → Prop} (hQ : ∀ s' a' w', Sat E s' a' w' → K s' → Q .normal a' w') : ∀ (L : List Oper) (s : AS) (a : Act) (w : World), Sat E s a w → runL P E ops L s K → wpListIn (Fw l) n P ops Q L a w := by
  intro L
  induction L with
  | nil => intro s a w hs h; exact hQ s a w hs h
  | cons o L ih =>
    intro s a w ⟨G, F, hr⟩ h
    have hB := stepP_soundB hr ops o h (next := wpListIn (Fw l) n P ops Q L) fun s' a' w' hs hk => ih s' a' w' hs hk
    unfold wpListIn
    split at hB
    · rename_i hw; rw [if_pos hw]; exact wpB_wpIn hB
    · rename_i hw; rw [if_neg hw]; exact ⟨fun _ _ => trivial, hB⟩
theorem wpAnyB_in {ops : Array Oper} {Q : Exit → Act → World → Prop} : ∀ (fuel : Nat) (listed : Array Bool) (a : Act) (w : World), wpAnyB P ops (Q .normal) fuel listed a w → wpAnyIn (Fw l) n P .any ops Q fuel listed a w := by
  intro fuel
  induction fuel with
  | zero => intro listed a w h; exact h
  | succ fuel ih =>
    intro listed a w h
    refine ⟨h.1, fun i hi => ?_⟩
    have h2 := wpOpB_mono (ih _) (h.2 i hi)
    unfold wpOpB at h2
    unfold wpOpIn
    split
    · rename_i e; rw [e] at h2; exact h2
    · rename_i o e
      rw [e] at h2
      simp only at h2
      split
      · rename_i hw; rw [if_pos hw] at h2; exact wpB_wpIn h2
      · rename_i hw; rw [if_neg hw] at h2; exact ⟨fun _ _ => trivial, h2⟩
/-- code without loops and ranges over functions -/
def plainC : Code → Bool
  | .skip | .exit _ | .label _ | .goto _ | .ret => true
  | .region _ _ _ => true
  | .seq x y => plainC x && plainC y
  | .cond _ x y => plainC x && plainC y
  | .block _ b => plainC b
  | _ => false
theorem runC_soundIn (hm : P.follows .mixedOrders = true) : ∀ (c : Code) (s : AS) (Q : Exit → AS → Prop), plainC c = true → runC [] P E c s Q → ∀ a w, Sat E s a w → c.wpIn (Fw l) n P (PostC E Q) a w := by
  intro c
  induction c with
  | skip => intro s Q _ h a w hs; exact wpIn_skip ⟨rfl, s, hs, h⟩
  | region id ops draw =>
    intro s Q hp h a w hs
    cases draw with
    | false => exact wpIn_region_list (runL_soundIn (Q := PostC E Q) (fun s' a' w' h1 h2 => ⟨rfl, s', h1, h2⟩) _ s a w hs h)
    | true => exact wpIn_region_any hm (wpAnyB_in _ _ _ _ (h a _ (Sat.drew hs) (PostC E Q .normal) fun s' a' w' h1 h2 => ⟨rfl, s', h1, h2⟩))
  | seq x y ihx ihy =>
    intro s Q hp h a w hs
    simp only [plainC, Bool.and_eq_true] at hp
    simp only [runC] at h
    rw [if_neg (by rw [isCut_nil]; decide)] at h
    refine wpIn_seq (wpIn_mono (ihx s _ hp.1 h a w hs) fun e a' w' ⟨h0, s', h1, h2⟩ => ?_)
    cases e with
    | normal => exact ihy s' Q hp.2 h2 a' w' h1
    | _ => exact ⟨h0, s', h1, h2⟩
  | cond c x y ihx ihy =>
    intro s Q hp h a w hs
    simp only [plainC, Bool.and_eq_true] at hp
    obtain ⟨g1, h⟩ := h
    obtain ⟨G, F, hr⟩ := hs
    have hc := (hr.ev c).ung g1
    unfold condP at h
    split at h
    · rename_i v e1
      rw [e1] at hc
      refine wpIn_cond_split hc.c_inv (fun hv => ihx s Q hp.1 (by rw [if_pos hv] at h; exact h) a w ⟨G, F, hr⟩) fun hv => ihy s Q hp.2 (by rw [if_neg (by rw [hv]; decide)] at h; exact h) a w ⟨G, F, hr⟩
    · cases h
  | block id b ih =>
    intro s Q hp h a w hs
    refine wpIn_block (wpIn_mono (ih s _ hp h a w hs) fun e a' w' ⟨h0, s', h1, h2⟩ => ?_)
    cases e with
    | exit id' =>
      simp only [blockK] at h2
      simp only [Exit.inBlock]
      split
      · rename_i e; rw [if_pos e] at h2; exact ⟨rfl, s', h1, h2⟩
      · rename_i e; rw [if_neg e] at h2; exact ⟨rfl, s', h1, h2⟩
    | _ => exact ⟨h0, s', h1, h2⟩
  | exit id => intro s Q _ h a w hs; exact wpIn_exit ⟨rfl, s, hs, h⟩
  | label l => intro s Q _ h a w hs; exact wpIn_label ⟨rfl, s, hs, h⟩
  | goto l => intro s Q _ h a w hs; exact wpIn_goto ⟨rfl, s, hs, h⟩
  | ret => intro s Q _ h a w hs; exact wpIn_ret ⟨rfl, s, hs, h⟩
  | loop b ih => intro s Q hp; cases hp
  | rangeFunc f ps x b _ _ => intro s Q hp; cases hp
  | scope b _ => intro s Q hp; cases hp
  | refuse y => intro s Q hp; cases hp
end

/-! ## A range over a function -/
section
variable {P : Program} {E : Env} {s : AS} {a : Act} {G : Gh} {F : Nat → Prop} {w w' : World}
/-- the world has turned where nothing is told of -/
theorem Rel.keepW {S : Nat → Prop} (hr : Rel E G F s a w) (hm : Mod S w w') (h1 : ∀ b, F b → ¬ S b) (h2 : ∀ (k : Nat) (x : AObj), s.h[k]? = some x → G.vir k = false → ¬ S (G.σ k)) (h3 : ∀ D, w.heap[D]? = some (.deferred (some [])) → ¬ S D) (h4 : ∀ b, S b → E.w0.heap.size ≤ b) : Rel E G F s a w' := by
  have hw : ∀ b, F b → w'.heap[b]? = w.heap[b]? := fun b hb => hm.block b (hr.flt b hb) (h1 b hb)
  have hl := Later.refl G (lens s.h)
  refine ⟨hr.len, hr.def0.keep (fun D e1 e2 => ⟨e1, hm.block D (lt_of_heap e2) (h3 D e2)⟩), fun i av v e1 e2 => (hr.slot i av v e1 e2).keep hl (fun _ h => h) hw, ⟨fun k y hk => ?_, hr.heap.inj⟩, hr.mod.mod hm fun i hi hS => absurd (h4 i hS) (by omega), hr.sup, hr.fsup, hr.f0, hr.fc.keep hw, hr.lat⟩
  exact (hr.heap.obj k y hk).keep hl (fun _ h => h) hw ⟨rfl, rfl, rfl⟩ (fun hv => hm.block _ (hr.heap.lt hk hv) (h2 k y hk hv)) fun hv hf => hr.heap.nfz hk hv hf
theorem Rel.grow (hr : Rel E G F s a w) (hm : Mod (fun _ => False) w w') : Rel E G F s a w' := hr.keepW hm (fun _ _ h => h) (fun _ _ _ _ h => h) (fun _ _ h => h) fun _ h => h.elim
theorem HRel.notLoop {h : List AObj} (hh : HRel G F h w) {k : Nat} {x : AObj} (hk : h[k]? = some x) (hv : G.vir k = false) {r : Loop} (hd : w.heap[G.σ k]? = some (.loop r)) : False := by
  cases x with
  | raw s => have := (hh.obj k _ hk).2.2; rw [hd] at this; cases s <;> simp [rawObj] at this
  | o kd cs => obtain ⟨c, t, f, e⟩ := hh.isCells hk hv; rw [hd] at e; cases e
theorem mod_putObj (w : World) (l : Nat) (o : Obj) : Mod (fun b => b = l) w (w.putObj l o) := ⟨rfl, rfl, rfl, by simp [World.putObj], fun k _ hk => World.putObj_heap_other hk⟩
theorem Rel.putLoop (hr : Rel E G F s a w) {l : Nat} {r : Loop} (hl : w.heap[l]? = some (.loop r)) (hE : E.w0.heap.size ≤ l) (o : Obj) : Rel E G F s a (w.putObj l o) := by
  refine hr.keepW (mod_putObj w l o) (fun b hb e => ?_) (fun k x hk hv e => ?_) (fun D hD e => ?_) fun b e => by subst e; exact hE
  · subst e; obtain ⟨c, t, f, e⟩ := hr.fc b hb; rw [hl] at e; cases e
  · rw [← e] at hl; exact hr.heap.notLoop hk hv hl
  · subst e; rw [hl] at hD; cases hD
theorem not_live {h : List AObj} (hh : HRel G F h w) {k : Nat} {x : AObj} {ro : List Nat} (hk : h[k]? = some x) (hv : G.vir k = false) (hkr : k ∈ ro) : ¬ liveB G h ro (G.σ k) := by
  rintro ⟨k', x', hk', hv', hf', hn', he'⟩
  by_cases hfx : fzO x = false
  · have := hh.inj k k' x x' hk hk' hv hv' hfx hf' he'
    exact hn' (this ▸ hkr)
  · have hob := hh.obj k x hk
    cases x with
    | raw s => exact hfx rfl
    | o kd cs =>
      cases kd with
      | box => exact hfx rfl
      | row e sz => exact hfx rfl
      | fz =>
        rcases hob with ⟨g1, _⟩ | ⟨_, g1, _⟩
        · rw [hv] at g1; cases g1
        · exact hh.nfz hk' hv' hf' (he' ▸ g1)
/-- as reE, but of the first n handles alone it is asked that they stay -/
def reT (mks : Nat → Prop) (G : Gh) (F : Nat → Prop) (s : AS) (w : World) (ro : List Nat) (n : Nat) : Env := ⟨w, liveB G s.h ro, F, G, (lens s.h).take n, allSt, fun k => ro.contains k, mks⟩
theorem rebaseT (hr : Rel E G F s a w) (ro : List Nat) (n : Nat) : Rel (reT E.mks G F s w ro n) G F s a w :=
  ⟨hr.len, hr.def0, hr.slot, hr.heap, Mod.refl _ _, fun k x hk hv hf hh => .inl ⟨k, x, hk, hv, hf, by simpa [reT] using hh, rfl⟩, fun b hb => .inl hb, fun b hb => hb, hr.fc, fun k m _ hm => by
    simp only [reT, List.getElem?_take] at hm
    split at hm
    · exact .inl ⟨hm, rfl, rfl, rfl⟩
    · cases hm⟩
theorem unbaseT (hE : E.ho = noHo) {G' : Gh} {F' : Nat → Prop} {a' : Act} {s' : AS} {ro : List Nat} {n : Nat} (hro : ∀ k ∈ ro, k < s.h.length ∧ k < n) (hn : E.ln0.length ≤ n) (hr : Rel E G F s a w) (h : Rel (reT E.mks G F s w ro n) G' F' s' a' w') (hh : heldOk ro s s') : Rel E G' F' s' a' w' := by
  have hlat : ∀ (k m : Nat), k < n → (lens s.h)[k]? = some m → ((lens s'.h)[k]? = some m ∧ G'.σ k = G.σ k ∧ G'.bs k = G.bs k ∧ G'.vir k = G.vir k) ∨ ∃ m', (lens s'.h)[k]? = some m' ∧ m < m' := fun k m hk hm => h.lat k m rfl (by simp only [reT, List.getElem?_take]; rw [if_pos hk]; exact hm)
  have hL : ∀ b, liveB G s.h ro b → E.L b ∨ E.w0.heap.size ≤ b := fun b ⟨k, x, hk, hv, hf, _, hb⟩ => by rw [hb]; exact hr.sup k x hk hv hf (by rw [hE]; rfl)
  have hws : E.w0.heap.size ≤ w.heap.size := hr.mod.size
  refine ⟨h.len, h.def0, h.slot, h.heap, hr.mod.mod h.mod fun i hi hl => (hL i hl).resolve_right (by omega), fun k x hk hv hf _ => ?_, fun b hb => ?_, fun b hb => h.f0 b (hr.f0 b hb), h.fc, fun k m hs hm => ?_⟩
  · by_cases hkr : k ∈ ro
    · obtain ⟨hkl, hkn⟩ := hro k hkr
      have hm : (lens s.h)[k]? = some (lnO s.h[k]) := by simp [lens, hkl]
      obtain ⟨y, hy⟩ : ∃ y, s.h[k]? = some y := ⟨_, List.getElem?_eq_getElem hkl⟩
      rcases hlat k _ hkn hm with ⟨e1, e2, e3, e4⟩ | ⟨m', e1, e2⟩
      · rw [e2]
        by_cases hfy : fzO y = false
        · exact hr.sup k y hy (e4 ▸ hv) hfy (by rw [hE]; rfl)
        · have hob := hr.heap.obj k y hy
          cases y with
          | raw s => exact absurd rfl hfy
          | o kd cs =>
            cases kd with
            | box => exact absurd rfl hfy
            | row e sz => exact absurd rfl hfy
            | fz =>
              rcases hob with ⟨g1, _⟩ | ⟨_, g1, _⟩
              · have : G.vir k = false := e4 ▸ hv
                rw [this] at g1; cases g1
              · exact absurd (h.f0 _ g1) (by have := h.heap.nfz hk hv hf; rw [e2] at this; exact this)
      · have := (hh k hkr).symm.trans e1
        rw [hm] at this; injection this with this; omega
    · rcases h.sup k x hk hv hf (by simpa [reT] using hkr) with h1 | h1
      · exact hL _ h1
      · have h2 : w.heap.size ≤ G'.σ k := h1
        exact .inr (by omega)
  · rcases h.fsup b hb with h1 | h1 | h1
    · exact hr.fsup b h1
    · rcases hL b h1 with h2 | h2
      · exact .inr (.inl h2)
      · exact .inr (.inr h2)
    · have h2 : w.heap.size ≤ b := h1
      exact .inr (.inr (by omega))
  · have hkn : k < n := Nat.lt_of_lt_of_le (List.getElem?_eq_some_iff.1 hm).1 hn
    rcases hr.lat k m hs hm with ⟨e1, e2, e3, e4⟩ | ⟨m', e1, e2⟩
    · rcases hlat k m hkn e1 with ⟨f1, f2, f3, f4⟩ | ⟨m', f1, f2⟩
      · exact .inl ⟨f1, f2.trans e2, f3.trans e3, f4.trans e4⟩
      · exact .inr ⟨m', f1, f2⟩
    · rcases hlat k m' hkn e1 with ⟨f1, _⟩ | ⟨m'', f1, f2⟩
      · exact .inr ⟨m', f1, e2⟩
      · exact .inr ⟨m'', f1, Nat.lt_trans e2 f2⟩
/-- the blocks of these handles -/
def kpB (G : Gh) (h : List AObj) (kp : List Nat) (b : Nat) : Prop := ∃ k x, k ∈ kp ∧ h[k]? = some x ∧ G.vir k = false ∧ b = G.σ k
/-- data that an iterator hands on: what stays, and what it made since it was last bidden -/
def FY (F : Nat → Prop) (W0 W1 : World) (F2 : Nat → Prop) : Prop := (∀ b, F b → F2 b) ∧ (∀ b, F2 b → F b ∨ W0.heap.size ≤ b) ∧ FC F2 W1
theorem Rel.moreF (hr : Rel E G F s a w) {F2 : Nat → Prop} (h1 : ∀ b, F2 b → E.F0 b ∨ E.L b ∨ E.w0.heap.size ≤ b) (h2 : FC F2 w) (h3 : ∀ (k : Nat) (x : AObj), s.h[k]? = some x → G.vir k = false → fzO x = false → ¬ F2 (G.σ k)) : Rel E G (fun b => F b ∨ F2 b) s a w := by
  have hF : ∀ b, F b → F b ∨ F2 b := fun b h => .inl h
  have hl := Later.refl G (lens s.h)
  refine ⟨hr.len, hr.def0.keep fun D h4 h5 => ⟨fun h => h.elim h4 (fun e => by obtain ⟨c, t, f, e⟩ := h2 D e; rw [h5] at e; cases e), rfl⟩, fun i av v e1 e2 => (hr.slot i av v e1 e2).keep hl hF fun _ _ => rfl, ⟨fun k x hk => ?_, hr.heap.inj⟩, hr.mod, hr.sup, fun b h => h.elim (hr.fsup b) (h1 b), fun b h => .inl (hr.f0 b h), hr.fc.more hF (fun _ _ => rfl) fun b h => h.elim (fun h => hr.fc b h) fun h => h2 b h, hr.lat⟩
  exact (hr.heap.obj k x hk).keep hl hF (fun _ _ => rfl) ⟨rfl, rfl, rfl⟩ (fun _ => rfl) fun hv hf h => h.elim (hr.heap.nfz hk hv hf) (h3 k x hk hv hf)
/-- **The contract of an iterator**: it hands out these items, in order, for as long as it is bidden to; the rounds keep the blocks kp. -/
def ASeq (P : Program) (gf : FuncId) (caps : List AV) (h : List AObj) (kp : List Nat) (N : Nat) (items : Nat → List AV) : Prop :=
  ∀ (G : Gh) (F : Nat → Prop) (w : World) (vs : Array Value), HRel G F h w → FC F w → RepL G (lens h) F w caps vs → ∀ (l : Nat) (J Jx : Nat → World → Prop) (W : World), Mod (fun _ => False) w W → (∀ j A B, J j A → Mod (fun _ => False) A B → J j B) → (∀ j A B, Jx j A → Mod (fun _ => False) A B → Jx j B) → (∀ j A, Jx j A → TabW A) →
      (∀ j W0 W1 F2 ys, j < N → J j W0 → Mod (fun _ => False) W0 W1 → FY F W0 W1 F2 → RepL G (lens h) F2 W1 (items j) ys → YieldAt Fence.wide 0 P l ys W1 fun e W' => (e = .returned (.bool true) ∧ J (j + 1) W' ∧ ∀ b, F b ∨ kpB G h kp b → W'.heap[b]? = W1.heap[b]?) ∨ (e = .returned (.bool false) ∧ Jx (j + 1) W')) →
      J 0 W → CallsIn Fence.wide 1 P gf (#[.func (.yield l) #[] #[]] ++ vs) W fun e W' => (∃ v, e = .returned v) ∧ (J N W' ∨ ∃ j, j < N ∧ Jx (j + 1) W')
def heldH (kp : List Nat) (h h' : List AObj) : Prop := ∀ k ∈ kp, (lens h')[k]? = (lens h)[k]?
def rangeK (E : Env) (kp : List Nat) (h h' : List AObj) (t : List AV) (I' : Prop) (Q : Exit → AS → Prop) : Exit → AS → Prop
  | .normal, s' => I' ∧ ∃ t', Wk E s' ⟨t', h'⟩
  | e, s' => ∃ t' h'', Wk E s' ⟨t', h''⟩ ∧ heldH kp h h'' ∧ Q e ⟨t, h''⟩
def midK (P : Program) (b : Code) (kp : List Nat) (h h' : List AObj) (t : List AV) (I' : Prop) (Q : Exit → AS → Prop) : Exit → AS → Prop
  | .normal, s1 => heldH kp h s1.h ∧ ∀ E : Env, E.ho = (fun k => kp.contains k) → E.ln0.length ≤ h.length → E.st = allSt → runK P E [] b [] (rangeK E kp h h' t I' Q) s1
  | _, _ => False
def setPs (t : List AV) : List Nat → List AV → List AV
  | p :: ps, v :: vs => setPs (t.set p v) ps vs
  | _, _ => t
theorem Rel.setPs : ∀ (ps : List Nat) (l : List AV) (vs : List Value) (t : List AV) (a : Act), Rel E G F ⟨t, s.h⟩ a w → l.length = vs.length → (∀ (j : Nat) (u : AV) (x : Value), l[j]? = some u → vs[j]? = some x → RepV G (lens s.h) F w u x) →
    Rel E G F ⟨setPs t ps l, s.h⟩ { a with tmps := (ps.zip vs).foldl (fun t (p : Nat × Value) => t.setIfInBounds p.1 p.2) a.tmps } w := by
  intro ps
  induction ps with
  | nil => intro l vs t a hr _ _; simpa [Go.Proofs.Ytmgpiminicgbiaa.setPs] using hr
  | cons p ps ih =>
    intro l vs t a hr hl hv
    cases l with
    | nil => cases vs with
      | nil => simpa [Go.Proofs.Ytmgpiminicgbiaa.setPs] using hr
      | cons x vs => simp at hl
    | cons u l => cases vs with
      | nil => simp at hl
      | cons x vs =>
        have h1 := hr.put (hv 0 u x rfl rfl) (some p)
        have := ih l vs (t.set p u) (a.put (some p) x) h1 (by simpa using hl) fun j u' x' e1 e2 => hv (j + 1) u' x' (by simpa using e1) (by simpa using e2)
        simpa [Go.Proofs.Ytmgpiminicgbiaa.setPs, Act.put] using this
theorem range_of (hm : P.follows .mixedOrders = true) {f : Operand} {ps : Array Tmp} {id : Nat} {ops : Array Oper} {b : Code} {Q : Exit → AS → Prop} (hE : E.ho = noHo) (hmk : ∀ D, E.w0.heap.size ≤ D → E.mks D) {gf : FuncId} {caps : List AV} (hg : (s.ev f).gc) (hf : (s.ev f).ung = .clo (.func gf) [] caps) (hc : callable P gf = true)
    {N : Nat} {items : Nat → List AV} (kp : List Nat) (hkp : ∀ k ∈ kp, k < s.h.length) (hseq : ASeq P gf caps s.h kp N items) (hps : ∀ j, (items j).length = ps.size) (hpl : plainC b = true)
    (Inv : Nat → Prop) (hI0 : Inv 0) (hh : Nat → List AObj) (h0 : hh 0 = s.h) (hheld : ∀ j, j ≤ N → heldH kp s.h (hh j))
    (round : ∀ j, j < N → Inv j → ∀ E' : Env, E'.ho = (fun k => kp.contains k) → E'.ln0 = lens (hh j) → E'.st = allSt → runK P E' [] (.region id ops false) [] (midK P b kp (hh j) (hh (j + 1)) s.t (Inv (j + 1)) Q) ⟨setPs s.t ps.toList (items j), hh j⟩)
    (done : Inv N → Q .normal ⟨s.t, hh N⟩) : RangeFG P E (.rangeFunc f ps (.region id ops false) b) s Q := by
  intro a w ⟨G, F, hr⟩
  have hcl := (hr.ev f).ung hg
  rw [hf] at hcl
  obtain ⟨cs, ds, e1, e2, e3, _, e5⟩ := clo_inv hcl
  obtain rfl : cs = #[] := by simpa using e2.symm
  have hcall := hseq G F w ds hr.heap hr.fc ⟨e3, e5⟩
  obtain ⟨E2, hE2⟩ : ∃ E2, E2 = reE E.mks G F s w [] := ⟨_, rfl⟩
  have hE2ho : E2.ho = noHo := by subst hE2; rfl
  have hE2m : E2.mks = E.mks := by subst hE2; rfl
  have hE2w : E2.w0 = w := by subst hE2; rfl
  have hr2 : Rel E2 G F ⟨s.t, hh 0⟩ a w := by rw [h0]; subst hE2; exact rebase hr []
  -- a state behind the loop
  have back : ∀ (h' : List AObj) (W : World) (G' : Gh) (F' : Nat → Prop), Rel E2 G' F' ⟨s.t, h'⟩ a W → W.heap[w.heap.size]? = some (.deferred (some [])) → Sat E ⟨s.t, h'⟩ { a with defers := { target := .collected w.heap.size, args := #[] } :: a.defers } W := fun h' W G' F' h2 hD => by
    have hu : Rel E G' F' ⟨s.t, h'⟩ a W := by
      subst hE2
      exact unbase hE (fun k hk => by cases hk) hr h2 fun k hk => by cases hk
    refine ⟨G', F', hu.len, ⟨?_, fun d hd => ?_⟩, hu.slot, hu.heap, hu.mod, hu.sup, hu.fsup, hu.f0, hu.fc, hu.lat⟩
    · refine List.nodup_cons.2 ⟨fun hm => ?_, hu.def0.nod⟩
      obtain ⟨D, g1, _, _, g4⟩ := hr.def0.mem _ hm
      injection g1 with g1 g1'
      injection g1 with g1
      have := lt_of_heap g4
      omega
    · rcases List.mem_cons.1 hd with rfl | hd
      · refine ⟨_, rfl, hmk _ hr.mod.size, fun hb => ?_, hD⟩
        obtain ⟨c, ty, fr, e⟩ := hu.fc _ hb
        rw [hD] at e; cases e
      · exact hu.def0.mem d hd
  refine (wpIn_wide (n := 2)).1 (wpIn_rangeFunc ?_)
  intro fn hfn
  obtain ⟨rec, hrec⟩ : ∃ rec : LoopState → Option Code → Loop, rec = fun st pe => { state := st, pending := pe, fn, tmps := a.tmps, params := ps, assign := .region id ops false, body := b, defers := w.heap.size } := ⟨_, rfl⟩
  obtain ⟨W1, hW1⟩ : ∃ W1, (w.alloc (.deferred (some []))).alloc (.loop (rec .ready none)) = W1 := ⟨_, rfl⟩
  have hL1 : W1.heap[w.heap.size + 1]? = some (.loop (rec .ready none)) := by
    rw [← hW1]; have := World.alloc_heap_new (w.alloc (.deferred (some []))) (.loop (rec .ready none)); rwa [World.size_alloc] at this
  have hK1 : W1.heap[w.heap.size]? = some (.deferred (some [])) := by
    rw [← hW1]; exact (heap_alloc_lt _ _ (by simp)).trans (World.alloc_heap_new w _)
  have hM1 : Mod (fun _ => False) w W1 := by rw [← hW1]; exact ((Mod.refl _ w).alloc _).alloc _
  refine ⟨w.heap.size + 1, [{ target := .collected w.heap.size, args := #[] }], W1, { target := .fn (.func gf) ds, args := #[.func (.yield (w.heap.size + 1)) #[] #[]] }, W1, gf,
    #[.func (.yield (w.heap.size + 1)) #[] #[]] ++ ds, W1, ?_, ?_, ?_, ?_, fun _ => by decide, ?_⟩
  · rw [← hW1, hrec]; exact run_enterLoop_outer _ _ _ _ _
  · simp only [resolve, e1]
    simp [go_sem]
  · intro f' hf'; trivial
  · simp [invoke, go_sem, callable_inv hc]
  have mF : ∀ {A B : World}, Mod (fun _ => False) A B → ∀ {k : Nat} {o : Obj}, A.heap[k]? = some o → B.heap[k]? = some o := fun h k o hk => (h.block k (lt_of_heap hk) fun h => h).trans hk
  have step := hcall (w.heap.size + 1)
    (fun j W => Inv j ∧ ∃ G' F', Rel E2 G' F' ⟨s.t, hh j⟩ a W ∧ W.heap[w.heap.size + 1]? = some (.loop (rec .ready none)) ∧ W.heap[w.heap.size]? = some (.deferred (some [])))
    (fun j W => ∃ (c : Code) (e : Exit) (h' : List AObj) (G' : Gh) (F' : Nat → Prop), Rel E2 G' F' ⟨s.t, h'⟩ a W ∧ Q e ⟨s.t, h'⟩ ∧ ((c = .ret ∧ e = .ret) ∨ (∃ i, c = .exit i ∧ e = .exit i) ∨ ∃ i, c = .goto i ∧ e = .goto i) ∧ W.heap[w.heap.size + 1]? = some (.loop (rec .done (some c))) ∧ W.heap[w.heap.size]? = some (.deferred (some [])))
    W1 hM1 (fun j A B ⟨hI, G', F', h1, h2, h3⟩ hm => ⟨hI, G', F', h1.grow hm, mF hm h2, mF hm h3⟩) (fun j A B ⟨c, e, h', G', F', h1, h2, h3, h4, h5⟩ hm => ⟨c, e, h', G', F', h1.grow hm, h2, h3, mF hm h4, mF hm h5⟩) (fun j A ⟨c, e, h', G', F', h1, _⟩ => h1.fc.tabW)
    ?_ ⟨hI0, G, F, hr2.grow hM1, hL1, hK1⟩
  · refine step.mono ?_
    rintro e W2 ⟨⟨v, rfl⟩, (⟨hIN, G', F', hi, hl, hk⟩ | ⟨j, hj, c, e, h', G', F', hi, hq, hc, hl, hk⟩)⟩
    · refine ⟨none, _, by have := run_endLoop (P := P) hl (by rw [hrec]; simp); rw [hrec] at this; exact this, ?_⟩
      exact ⟨rfl, ⟨s.t, hh N⟩, back _ _ G' F' (hi.putLoop hl (by rw [hE2w]; omega) _) ((World.putObj_heap_other (by omega)).trans hk), done hIN⟩
    · refine ⟨some c, _, by have := run_endLoop (P := P) hl (by rw [hrec]; simp); rw [hrec] at this; exact this, wpIn_wide.2 ?_⟩
      have hb := back _ _ G' F' (hi.putLoop hl (by rw [hE2w]; omega) (.loop { rec .done (some c) with state := .exhausted })) ((World.putObj_heap_other (by omega)).trans hk)
      rcases hc with ⟨rfl, rfl⟩ | ⟨i, rfl, rfl⟩ | ⟨i, rfl, rfl⟩
      · exact wp_ret ⟨rfl, ⟨s.t, h'⟩, by rw [hrec] at hb; exact hb, hq⟩
      · exact wp_exit ⟨rfl, ⟨s.t, h'⟩, by rw [hrec] at hb; exact hb, hq⟩
      · exact wp_goto ⟨rfl, ⟨s.t, h'⟩, by rw [hrec] at hb; exact hb, hq⟩
  -- one round
  rintro j W0 W F2 ys hj ⟨hIj, G', F1', hi0, hl0, hk0⟩ hmod ⟨fy1, fy2, fy3⟩ hys2
  have hl := mF hmod hl0
  have hk := mF hmod hk0
  have hF0 : ∀ b, F b → F1' b := fun b h => hi0.f0 b (by subst hE2; exact h)
  obtain ⟨F', hi, hF2⟩ : ∃ F', Rel E2 G' F' ⟨s.t, hh j⟩ a W ∧ ∀ b, F2 b → F' b := by
    refine ⟨_, (hi0.grow hmod).moreF (F2 := F2) (fun b hb => ?_) fy3 fun k x hkx hv hf hb => ?_, fun b hb => .inr hb⟩
    · rcases fy2 b hb with h | h
      · exact .inl (by subst hE2; exact h)
      · have := hi0.mod.size
        exact .inr (.inr (by omega))
    · rcases fy2 _ hb with h | h
      · exact hi0.heap.nfz hkx hv hf (hF0 _ h)
      · have := hi0.heap.lt hkx hv
        omega
  have hlt : w.heap.size + 1 < W.heap.size := lt_of_heap hl
  have hy := run_yield (P := P) (args := ys) hl (by rw [← hys2.1, hps, hrec])
  rw [hrec] at hy
  have hkpj : ∀ k ∈ kp, k < (hh j).length := fun k hk => by
    have h1 := hheld j (by omega) k hk
    have h2 : (lens s.h)[k]? = some (lnO (s.h[k]'(hkp k hk))) := by simp [lens, hkp k hk]
    rw [h2] at h1
    have := (List.getElem?_eq_some_iff.1 h1).1
    simpa [lens] using this
  have hr3 := rebase hi kp
  rw [hE2m] at hr3
  have hr3' : Rel (reE E.mks G' F' ⟨s.t, hh j⟩ W kp) G' F' ⟨s.t, hh j⟩ ⟨a.tmps, []⟩ W := ⟨hr3.len, .nil rfl, hr3.slot, hr3.heap, hr3.mod, hr3.sup, hr3.fsup, hr3.f0, hr3.fc, hr3.lat⟩
  have hF : ∀ b, F b → F' b := fun b h => hi.f0 b (by subst hE2; exact h)
  have hLt : Later G G' (lens s.h) (lens (hh j)) := fun k m hm => by
    have := hi.lat k m (by subst hE2; rfl) (by subst hE2; exact hm)
    subst hE2; exact this
  have hsameF : ∀ b, F b → W.heap[b]? = w.heap[b]? := fun b hb => by
    have := hi.mod.block b (by rw [hE2w]; exact hr.flt b hb) (by subst hE2; rintro ⟨k, x, hk, hv, hf, _, he⟩; exact hr.heap.nfz hk hv hf (he ▸ hb))
    rw [hE2w] at this; exact this
  have hst := Rel.setPs (s := ⟨s.t, hh j⟩) ps.toList (items j) ys.toList s.t ⟨a.tmps, []⟩ hr3' (by simpa using hys2.1) fun i u x h1 h2 => (hys2.2 i u x h1 (by simpa using h2)).keep hLt hF2 fun _ _ => rfl
  have hround := round j hj hIj (reE E.mks G' F' ⟨s.t, hh j⟩ W kp) rfl rfl rfl
  refine ⟨fn, _, _, _, hy, roundIn_of_wpIn trivial ?_⟩
  have hfold : (ps.zip ys).foldl (fun t (p : Nat × Value) => t.setIfInBounds p.1 p.2) a.tmps = (ps.toList.zip ys.toList).foldl (fun t (p : Nat × Value) => t.setIfInBounds p.1 p.2) a.tmps := by
    rw [← Array.foldl_toList, Array.toList_zip]
  refine wpIn_region_list (runL_soundIn (E := reE E.mks G' F' ⟨s.t, hh j⟩ W kp) (K := fun s1 => midK P b kp (hh j) (hh (j + 1)) s.t (Inv (j + 1)) Q .normal s1) ?_ ops.toList ⟨setPs s.t ps.toList (items j), hh j⟩ _ W ⟨G', F', by rw [← hfold] at hst; exact hst⟩ hround)
  rintro s1 a1 V1 ⟨G1, F1, hR1⟩ ⟨hh1, hb1⟩
  have hkpj2 : ∀ k ∈ kp, k < (hh j).length ∧ k < (hh j).length := fun k hk => ⟨hkpj k hk, hkpj k hk⟩
  -- the loop's blocks are none that are told of
  have hV1l : V1.heap[w.heap.size + 1]? = some (.loop (rec .ready none)) := (hR1.mod.block _ (lt_of_heap hl) fun ⟨i, x, hx, hv, hf, _, he⟩ => hi.heap.notLoop hx hv (by rw [← he]; exact hl)).trans hl
  have hV1k : V1.heap[w.heap.size]? = some (.deferred (some [])) := (hR1.mod.block _ (lt_of_heap hk) fun ⟨i, x, hx, hv, hf, _, he⟩ => hi.heap.notDef hx hv (by rw [← he]; exact hk)).trans hk
  obtain ⟨V2, hV2⟩ : ∃ V2, V2 = V1.putObj (w.heap.size + 1) (.loop { rec .ready none with state := .busy }) := ⟨_, rfl⟩
  refine ⟨V2, by rw [hV2]; exact run_beginRound hV1l (by rw [hrec]), ?_⟩
  have hu1 : Rel E2 G1 F1 s1 a1 V1 := unbase hE2ho hkpj hi (by rw [hE2m]; exact ⟨hR1.len, hR1.def0, hR1.slot, hR1.heap, hR1.mod, hR1.sup, hR1.fsup, hR1.f0, hR1.fc, hR1.lat⟩) hh1
  have hu2 : Rel E2 G1 F1 s1 a1 V2 := by rw [hV2]; exact hu1.putLoop hV1l (by rw [hE2w]; omega) _
  have hV2l : V2.heap[w.heap.size + 1]? = some (.loop { rec .ready none with state := .busy }) := by rw [hV2]; exact World.putObj_heap_same (lt_of_heap hV1l)
  have hV2k : V2.heap[w.heap.size]? = some (.deferred (some [])) := by rw [hV2]; exact (World.putObj_heap_other (by omega)).trans hV1k
  have hr4 := rebaseT hu2 kp (hh j).length
  have hwalk := runC_soundIn hm (n := 0) (l := w.heap.size + 1) b s1 _ hpl (hb1 (reT E2.mks G1 F1 s1 V2 kp (hh j).length) rfl (by simp only [reT, List.length_take]; exact Nat.min_le_left _ _) rfl) a1 V2 ⟨G1, F1, hr4⟩
  have hn0 : s.h.length ≤ (hh j).length := by
    rcases Nat.eq_zero_or_pos s.h.length with h | h
    · omega
    · have hlt : s.h.length - 1 < s.h.length := by omega
      have hm : (lens s.h)[s.h.length - 1]? = some (lnO (s.h[s.h.length - 1]'hlt)) := by unfold lens; rw [List.getElem?_map, List.getElem?_eq_getElem hlt]; rfl
      rcases hLt _ _ hm with ⟨e1, _⟩ | ⟨m', e1, _⟩ <;>
      · have := (List.getElem?_eq_some_iff.1 e1).1
        simp [lens] at this; omega
  -- behind the body
  have fin : ∀ (t' : List AV) (h'' : List AObj) (G3 : Gh) (F3 : Nat → Prop) (a3 : Act) (V3 : World), Rel (reT E2.mks G1 F1 s1 V2 kp (hh j).length) G3 F3 ⟨t', h''⟩ a3 V3 → heldH kp (hh j) h'' →
      Rel E2 G3 F3 ⟨s.t, h''⟩ a V3 ∧ V3.heap[w.heap.size + 1]? = some (.loop { rec .ready none with state := .busy }) ∧ V3.heap[w.heap.size]? = some (.deferred (some [])) ∧ ∀ b, F b ∨ kpB G s.h kp b → V3.heap[b]? = W.heap[b]? := by
    intro t' h'' G3 F3 a3 V3 h4 hhd
    have hV3l : V3.heap[w.heap.size + 1]? = some (.loop { rec .ready none with state := .busy }) := (h4.mod.block _ (lt_of_heap hV2l) fun ⟨i, x, hx, hv, hf, _, he⟩ => hu2.heap.notLoop hx hv (by rw [← he]; exact hV2l)).trans hV2l
    have hV3k : V3.heap[w.heap.size]? = some (.deferred (some [])) := (h4.mod.block _ (lt_of_heap hV2k) fun ⟨i, x, hx, hv, hf, _, he⟩ => hu2.heap.notDef hx hv (by rw [← he]; exact hV2k)).trans hV2k
    have hkp1 : ∀ k ∈ kp, k < s1.h.length ∧ k < (hh j).length := fun k hk => by
      refine ⟨?_, hkpj k hk⟩
      have h1 := hh1 k hk
      have h2 : (lens (hh j))[k]? = some (lnO ((hh j)[k]'(hkpj k hk))) := by simp [lens, hkpj k hk]
      rw [h2] at h1
      have := (List.getElem?_eq_some_iff.1 h1).1
      simpa [lens] using this
    have hhd1 : heldOk kp s1 ⟨t', h''⟩ := fun k hk => (hhd k hk).trans (hh1 k hk).symm
    have hu4 := unbaseT hE2ho hkp1 (by subst hE2; simpa [reE, lens] using hn0) hu2 h4 hhd1
    have hF12 : ∀ b, F1 b → V3.heap[b]? = V2.heap[b]? := fun b hb => h4.mod.block b (hu2.flt b hb) fun ⟨k, x, hk, hv, hf, _, he⟩ => hu2.heap.nfz hk hv hf (he ▸ hb)
    have hne : ∀ b, F1 b → b ≠ w.heap.size + 1 := fun b hb e => by
      subst e; obtain ⟨c, ty, f, e⟩ := hu1.fc _ hb; rw [hV1l] at e; cases e
    have hF1' : ∀ b, F' b → F1 b := fun b hb => hR1.f0 b hb
    have hWV : ∀ b, F' b → V3.heap[b]? = W.heap[b]? := fun b hb => by
      rw [hF12 b (hF1' b hb), hV2, World.putObj_heap_other (hne b (hF1' b hb))]
      exact hR1.mod.block b (hi.flt b hb) fun ⟨k, x, hk, hv, hf, _, he⟩ => hi.heap.nfz hk hv hf (he ▸ hb)
    have hL13 : Later G' G3 (lens (hh j)) (lens h'') := fun k m hm => by
      have hk : k < (hh j).length := by have := (List.getElem?_eq_some_iff.1 hm).1; simpa [lens] using this
      have l4 : ∀ m, (lens s1.h)[k]? = some m → ((lens h'')[k]? = some m ∧ G3.σ k = G1.σ k ∧ G3.bs k = G1.bs k ∧ G3.vir k = G1.vir k) ∨ ∃ m', (lens h'')[k]? = some m' ∧ m < m' := fun m hm => h4.lat k m rfl (by simp only [reT, List.getElem?_take]; rw [if_pos hk]; exact hm)
      rcases hR1.lat k m rfl hm with ⟨e1, e2, e3, e4⟩ | ⟨m', e1, e2⟩
      · rcases l4 m e1 with ⟨f1, f2, f3, f4⟩ | ⟨m', f1, f2⟩
        · exact .inl ⟨f1, f2.trans e2, f3.trans e3, f4.trans e4⟩
        · exact .inr ⟨m', f1, f2⟩
      · rcases l4 m' e1 with ⟨f1, _⟩ | ⟨m'', f1, f2⟩
        · exact .inr ⟨m', f1, e2⟩
        · exact .inr ⟨m'', f1, Nat.lt_trans e2 f2⟩
    refine ⟨⟨hi.len, hi.def0.keep fun D d1 d2 => ?_, fun i av v e1 e2 => (hi.slot i av v e1 e2).keep hL13 (fun b hb => h4.f0 b (hF1' b hb)) hWV, hu4.heap, hu4.mod, hu4.sup, hu4.fsup, hu4.f0, hu4.fc, hu4.lat⟩, hV3l, hV3k, fun b hb => ?_⟩
    · have d3 : V1.heap[D]? = some (.deferred (some [])) := (hR1.mod.block D (lt_of_heap d2) fun ⟨k, x, hk, hv, hf, _, he⟩ => hi.heap.notDef hk hv (he ▸ d2)).trans d2
      have d4 : V2.heap[D]? = some (.deferred (some [])) := by
        rw [hV2, World.putObj_heap_other (fun e => by rw [e, hV1l] at d3; cases d3)]; exact d3
      have d5 : V3.heap[D]? = some (.deferred (some [])) := (h4.mod.block D (lt_of_heap d4) fun ⟨k, x, hk, hv, hf, _, he⟩ => hu2.heap.notDef hk hv (he ▸ d4)).trans d4
      refine ⟨fun hb => ?_, d5.trans d2.symm⟩
      obtain ⟨c, ty, f, e⟩ := h4.fc D hb
      rw [d5] at e; cases e
    · rcases hb with hb | ⟨k, x, hkk, hx, hv, rfl⟩
      · exact hWV b (hF b hb)
      · have hm : (lens s.h)[k]? = some (lnO x) := by simp [lens, hx]
        have hj1 := hheld j (by omega) k hkk
        have h11 := hh1 k hkk
        rcases hLt k _ hm with ⟨f1, f2, _, f4⟩ | ⟨m', f1, f2⟩
        · rcases hR1.lat k _ rfl f1 with ⟨g1, g2, _, g4⟩ | ⟨m', g1, g2⟩
          · obtain ⟨y, hy⟩ : ∃ y, (hh j)[k]? = some y := ⟨_, List.getElem?_eq_getElem (hkpj k hkk)⟩
            obtain ⟨y1, hy1⟩ : ∃ y, s1.h[k]? = some y := ⟨_, List.getElem?_eq_getElem (hkp1 k hkk).1⟩
            have v1 : G1.vir k = false := by rw [g4]; exact f4.trans hv
            have q1 : V3.heap[G1.σ k]? = V2.heap[G1.σ k]? := h4.mod.block _ (hu2.heap.lt hy1 v1) (not_live hu2.heap hy1 v1 hkk)
            have q2 : V1.heap[G'.σ k]? = W.heap[G'.σ k]? := hR1.mod.block _ (hi.heap.lt hy (f4.trans hv)) (not_live hi.heap hy (f4.trans hv) hkk)
            have g2 : G1.σ k = G'.σ k := g2
            have q3 : V2.heap[G1.σ k]? = V1.heap[G1.σ k]? := by
              rw [hV2]; exact World.putObj_heap_other fun e => hu1.heap.notLoop hy1 v1 (by rw [e]; exact hV1l)
            rw [← f2, ← g2, q1, q3, g2, q2]
          · have h2 := h11.symm.trans g1
            rw [f1] at h2; injection h2 with h2; omega
        · rw [hj1, hm] at f1; injection f1 with f1; omega
  have fin2 : ∀ (jump : Option Code) (V3 : World), V3.heap[w.heap.size + 1]? = some (.loop { rec .ready none with state := .busy }) → V3.heap[w.heap.size]? = some (.deferred (some [])) →
      (Instr.endRound (w.heap.size + 1) jump).run P V3 = .ok (.bool jump.isNone) (V3.putObj (w.heap.size + 1) (.loop (rec (if jump.isNone then .ready else .done) jump))) ∧
      (V3.putObj (w.heap.size + 1) (.loop (rec (if jump.isNone then .ready else .done) jump))).heap[w.heap.size + 1]? = some (.loop (rec (if jump.isNone then .ready else .done) jump)) ∧
      (V3.putObj (w.heap.size + 1) (.loop (rec (if jump.isNone then .ready else .done) jump))).heap[w.heap.size]? = some (.deferred (some [])) := fun jump V3 h1 h2 => by
    have := run_endRound (P := P) jump h1
    rw [hrec] at this ⊢
    exact ⟨this, World.putObj_heap_same (lt_of_heap h1), (World.putObj_heap_other (by omega)).trans h2⟩
  refine wpIn_mono hwalk ?_
  rintro e a3 V3 ⟨hp, s3, ⟨G3, F3, hR3⟩, hq3⟩
  cases e with
  | normal =>
    obtain ⟨hIn, t', hwk⟩ := hq3
    obtain ⟨G4, F4, hR4⟩ := hwk a3 V3 ⟨G3, F3, hR3⟩
    have hhd : heldH kp (hh j) (hh (j + 1)) := fun k hk => (hheld (j + 1) (by omega) k hk).trans (hheld j (by omega) k hk).symm
    obtain ⟨i1, i2, i3, i4⟩ := fin _ _ _ _ _ _ hR4 hhd
    obtain ⟨r1, r2, r3⟩ := fin2 none V3 i2 i3
    refine ⟨_, _, r1, .inl ⟨rfl, ⟨hIn, G4, F4, i1.putLoop i2 (by rw [hE2w]; omega) _, r2, r3⟩, fun b hb => ?_⟩⟩
    rw [World.putObj_heap_other, i4 b hb]
    intro e
    rcases hb with hb | ⟨k, x, hkk, hx, hv, hbk⟩
    · have := hr.flt b hb; omega
    · have := hr.heap.lt hx hv; omega
  | ret =>
    obtain ⟨t', h'', hwk, hhd, hq⟩ := hq3
    obtain ⟨G4, F4, hR4⟩ := hwk a3 V3 ⟨G3, F3, hR3⟩
    obtain ⟨i1, i2, i3, i4⟩ := fin _ _ _ _ _ _ hR4 hhd
    obtain ⟨r1, r2, r3⟩ := fin2 (some .ret) V3 i2 i3
    exact ⟨_, _, r1, .inr ⟨rfl, .ret, .ret, h'', G4, F4, i1.putLoop i2 (by rw [hE2w]; omega) _, hq, .inl ⟨rfl, rfl⟩, r2, r3⟩⟩
  | exit i =>
    obtain ⟨t', h'', hwk, hhd, hq⟩ := hq3
    obtain ⟨G4, F4, hR4⟩ := hwk a3 V3 ⟨G3, F3, hR3⟩
    obtain ⟨i1, i2, i3, i4⟩ := fin _ _ _ _ _ _ hR4 hhd
    obtain ⟨r1, r2, r3⟩ := fin2 (some (.exit i)) V3 i2 i3
    exact ⟨_, _, r1, .inr ⟨rfl, .exit i, .exit i, h'', G4, F4, i1.putLoop i2 (by rw [hE2w]; omega) _, hq, .inr (.inl ⟨i, rfl, rfl⟩), r2, r3⟩⟩
  | goto i =>
    obtain ⟨t', h'', hwk, hhd, hq⟩ := hq3
    obtain ⟨G4, F4, hR4⟩ := hwk a3 V3 ⟨G3, F3, hR3⟩
    obtain ⟨i1, i2, i3, i4⟩ := fin _ _ _ _ _ _ hR4 hhd
    obtain ⟨r1, r2, r3⟩ := fin2 (some (.goto i)) V3 i2 i3
    exact ⟨_, _, r1, .inr ⟨rfl, .goto i, .goto i, h'', G4, F4, i1.putLoop i2 (by rw [hE2w]; omega) _, hq, .inr (.inr ⟨i, rfl, rfl⟩), r2, r3⟩⟩
  | panic c => cases hp
  | outgrown => cases hp
end
end Go.Proofs.Ytmgpiminicgbiaa
namespace Go.Proofs.Ytmgpiminicgbiaa
set_option linter.unusedVariables false
set_option linter.unusedSimpArgs false
open Go.RowKit

/-! ## Iterators: functions that call yield -/
/-- what an iterator hands on, and what is known of data that it holds -/
structure Itm where
  f : Nat → List AV
  dat : List (AV × Value)
instance : CoeFun Itm (fun _ => Nat → List AV) := ⟨Itm.f⟩
instance : Coe (Nat → List AV) Itm := ⟨fun f => ⟨f, []⟩⟩
/-- what a slot still tells when yield has run: plain values, and where the n blocks lie -/
def keepV (n : Nat) : AV → AV
  | .c v => .c v
  | .ptr k off m => if k < n then .ptr k off m else .any
  | .mref k => if k < n then .mref k else .any
  | .sl k sz off c m => if k < n then .sl k sz off c m else .any
  | .clo (.yield l) [] [] => .clo (.yield l) [] []
  | _ => .any
def itemOk (n : Nat) : AV → Bool
  | .sl k _ _ _ _ => decide (k < n)
  | .ptr k _ _ => decide (k < n)
  | .fs _ _ _ => true
  | v => plainV v
def hoN (n : Nat) : Nat → Bool := fun k => decide (k < n)
def yldArgs (l : Nat) (s : AS) (o : Oper) : Option (Operand × List Operand) := match o.op with
  | .call c => match c.callee with
    | .value f => match (s.ev f).ung with
      | .clo (.yield l') [] [] => if l' = l then some (f, c.args.toList) else none
      | _ => none
    | _ => none
  | _ => none
def AS.clean (s : AS) (n : Nat) : AS := ⟨s.t.map (keepV n), s.h.take n⟩
section
variable (P : Program) (l : Nat) (h : List AObj) (N : Nat) (items : Itm)
def hnY (ov : Bool) : Nat := if ov = true then 0 else h.length
def onYI (o : Oper) (s : AS) (j : Nat) (ov : Bool) (K : AS → Nat → Bool → Prop) : Option (Prop × AS × AV) → Prop
  | some q => q.1 ∧ K (q.2.1.put o.dst q.2.2) j ov
  | none => False
def onYP (o : Oper) (s : AS) (j : Nat) (ov : Bool) (K : AS → Nat → Bool → Prop) : Option (Prop × AV) → Prop
  | some q => q.1 ∧ K (s.put o.dst q.2) j ov
  | none => onYI o s j ov K (implO P (hoN (hnY h ov)) s o.op)
/-- a place in data that the iterator holds -/
def ixD (dat : List (AV × Value)) (s : AS) : Op → Option (Prop × AV)
  | .indexAddr t (.tmp i) x => match dat with
    | [] => none
    | p :: _ => (pureV P anyRo ⟨s.t.set i p.1, s.h⟩ (.indexAddr t (.tmp i) x)).map fun q => (s.t[i]? = some (.c p.2) ∧ q.1, q.2)
  | _ => none
def onYD (o : Oper) (s : AS) (j : Nat) (ov : Bool) (K : AS → Nat → Bool → Prop) : Option (Prop × AV) → Prop
  | some q => ov = false ∧ q.1 ∧ K (s.put o.dst q.2) j ov
  | none => onYP P h o s j ov K (pureV P anyRo s o.op)
def onYA (o : Oper) (s : AS) (j : Nat) (ov : Bool) (K : AS → Nat → Bool → Prop) : Option (Operand × List Operand) → Prop
  | some p => o.guard = none ∧ ov = false ∧ (s.ev p.1).gc ∧ gcsL s p.2 ∧ j < N ∧ evL s p.2 = items j ∧ (items j).all (itemOk h.length) = true ∧ s.h.take h.length = h ∧ K ((s.clean h.length).put o.dst (.c (.bool true))) (j + 1) false ∧ K ((s.clean 0).put o.dst (.c (.bool false))) (j + 1) true
  | none => o.guard = none ∧ onYD P h o s j ov K (ixD P items.dat s o.op)
def stepY (o : Oper) (s : AS) (j : Nat) (ov : Bool) (K : AS → Nat → Bool → Prop) : Prop := onYA P h N items o s j ov K (yldArgs l s o)
def runYL : List Oper → AS → Nat → Bool → (AS → Nat → Bool → Prop) → Prop
  | [], s, j, ov, K => K s j ov
  | o :: r, s, j, ov, K => stepY P l h N items o s j ov (fun s' j' ov' => runYL r s' j' ov' K)
/-- **The contract of an iterator, by itself.** -/
def ASeq0 (gf : FuncId) (caps : List AV) : Prop :=
  ∀ (G : Gh) (F : Nat → Prop) (w : World) (vs : Array Value), HRel G F h w → FC F w → (∀ p ∈ items.dat, RepD F w p.1 p.2) → RepL G (lens h) F w caps vs → ∀ (l : Nat) (J Jx : Nat → World → Prop) (W : World), Mod (fun _ => False) w W → (∀ j A B, J j A → Mod (fun _ => False) A B → J j B) → (∀ j A B, Jx j A → Mod (fun _ => False) A B → Jx j B) → (∀ j A, Jx j A → TabW A) →
      (∀ j W0 W1 F2 ys, j < N → J j W0 → Mod (fun _ => False) W0 W1 → FY F W0 W1 F2 → RepL G (lens h) F2 W1 (items j) ys → YieldAt Fence.wide 0 P l ys W1 fun e W' => (e = .returned (.bool true) ∧ J (j + 1) W' ∧ ∀ b, F b ∨ kpB G h (List.range h.length) b → W'.heap[b]? = W1.heap[b]?) ∨ (e = .returned (.bool false) ∧ Jx (j + 1) W')) →
      J 0 W → CallsIn Fence.wide 1 P gf (#[.func (.yield l) #[] #[]] ++ vs) W fun e W' => (∃ v, e = .returned v) ∧ (J N W' ∨ ∃ j, j < N ∧ Jx (j + 1) W')
end
/-- the surroundings of an iterator's steps, since yield ran last -/
def EY (G : Gh) (F : Nat → Prop) (h : List AObj) (W : World) : Env := ⟨W, fun _ => False, F, G, lens h, allSt, hoN h.length, fun _ => False⟩
structure YCtx where
  G : Gh
  F : Nat → Prop
  w : World
  J : Nat → World → Prop
  Jx : Nat → World → Prop
def keptY (C : YCtx) (h : List AObj) (W : World) : Prop := ∀ b, C.F b ∨ kpB C.G h (List.range h.length) b → W.heap[b]? = C.w.heap[b]?
def SatY (C : YCtx) (h : List AObj) (j : Nat) (ov : Bool) (s : AS) (a : Act) (W : World) : Prop :=
  if ov = true then ∃ W0, C.Jx j W0 ∧ Sat (EY C.G tabF [] W0) s a W else ∃ W0, C.J j W0 ∧ keptY C h W0 ∧ Sat (EY C.G C.F h W0) s a W
def PostY (C : YCtx) (h : List AObj) (Q : Exit → AS → Nat → Bool → Prop) (e : Exit) (a : Act) (W : World) : Prop := panE e = false ∧ ∃ s j ov, SatY C h j ov s a W ∧ Q e s j ov
section
variable {P : Program} {l : Nat} {h : List AObj} {N : Nat} {items : Itm} {C : YCtx}
theorem satY_ex {j : Nat} {ov : Bool} {s : AS} {a : Act} {W : World} (hs : SatY C h j ov s a W) : ∃ E : Env, E.ho = hoN (hnY h ov) ∧ E.ln0.length ≤ h.length ∧ Sat E s a W ∧ ∀ s' a' W', Sat E s' a' W' → SatY C h j ov s' a' W' := by
  cases ov with
  | true =>
    obtain ⟨W0, h1, h2⟩ : ∃ W0, C.Jx j W0 ∧ Sat (EY C.G tabF [] W0) s a W := hs
    exact ⟨_, by simp [EY, hnY], by simp [EY, lens], h2, fun s' a' W' h3 => ⟨W0, h1, h3⟩⟩
  | false =>
    obtain ⟨W0, h1, hk, h2⟩ : ∃ W0, C.J j W0 ∧ keptY C h W0 ∧ Sat (EY C.G C.F h W0) s a W := hs
    exact ⟨_, by simp [EY, hnY], by simp [EY, lens], h2, fun s' a' W' h3 => ⟨W0, h1, hk, h3⟩⟩
theorem keepV_rep {G G' : Gh} {ln ln' : List Nat} {F F' : Nat → Prop} {w w' : World} {n : Nat} {av : AV} {v : Value} (hr : RepV G ln F w av v) (hk : ∀ k m, k < n → ln[k]? = some m → ln'[k]? = some m ∧ G'.σ k = G.σ k ∧ G'.bs k = G.bs k ∧ G'.vir k = G.vir k) : RepV G' ln' F' w' (keepV n av) v := by
  unfold keepV
  split
  · rw [hr.c_inv]; exact .cc _
  · rename_i k off m
    split
    · rename_i hlt
      cases hr with
      | d _ _ h => cases h
      | ptr _ _ _ h1 h2 =>
        obtain ⟨e1, e2, e3, e4⟩ := hk k m hlt h1
        rw [← e2]; exact .ptr k off m e1 (e4.trans h2)
      | ptrOld _ _ _ m' p h1 h2 => exact .ptrOld k off m m' p (hk k m' hlt h1).1 h2
    · exact .any _
  · rename_i k
    split
    · rename_i hlt
      cases hr with
      | d _ _ h => cases h
      | mref _ h1 h2 =>
        obtain ⟨e1, e2, e3, e4⟩ := hk k 0 hlt h1
        rw [← e2]; exact .mref k e1 (e4.trans h2)
      | mrefOld _ m' v h1 h2 => exact .mrefOld k m' v (hk k m' hlt h1).1 h2
    · exact .any _
  · rename_i k sz off n' m
    split
    · rename_i hlt
      cases hr with
      | d _ _ h => cases h
      | sl _ _ _ _ _ c h1 h2 h3 h4 h5 =>
        obtain ⟨e1, e2, e3, e4⟩ := hk k m hlt h1
        rw [← e2]; exact .sl k sz off n' m c e1 (e4.trans h2) h3 h4 (e3.symm ▸ h5)
      | slNil _ _ h1 h2 =>
        obtain ⟨e1, e2, e3, e4⟩ := hk k 0 hlt h1
        exact .slNil k sz e1 (e4.trans h2)
      | slOld _ _ _ _ _ m' A l c h1 h2 => exact .slOld k sz off n' m m' A l c (hk k m' hlt h1).1 h2
    · exact .any _
  · obtain ⟨cs, ds, rfl, h1, h2, _, _⟩ := clo_inv hr
    obtain rfl : cs = #[] := by simpa using h1.symm
    obtain rfl : ds = #[] := by simpa using h2.symm
    exact .clo _ [] [] #[] #[] rfl rfl (by simp) (by simp)
  · exact .any _
theorem itemOk_rep {G G' : Gh} {ln ln' : List Nat} {F F' : Nat → Prop} {w w' : World} {n : Nat} {av : AV} {v : Value} (ho : itemOk n av = true) (hr : RepV G ln F w av v) (hk : ∀ k m, k < n → ln[k]? = some m → ln'[k]? = some m ∧ G'.σ k = G.σ k ∧ G'.bs k = G.bs k ∧ G'.vir k = G.vir k) (hF : ∀ b, F b → F' b ∧ w'.heap[b]? = w.heap[b]?) : RepV G' ln' F' w' av v := by
  have hp : (∃ k off m, av = .ptr k off m ∧ k < n) ∨ (∃ k sz off c m, av = .sl k sz off c m ∧ k < n) ∨ (∃ z m l, av = .fs z m l) ∨ plainV av = true := by
    cases av <;> simp_all [itemOk]
  rcases hp with ⟨k, off, m, rfl, hlt⟩ | ⟨k, sz, off, c, m, rfl, hlt⟩ | ⟨z, m, l, rfl⟩ | hp
  · have := keepV_rep (F' := F') (w' := w') hr hk
    simpa [keepV, hlt] using this
  · have := keepV_rep (F' := F') (w' := w') hr hk
    simpa [keepV, hlt] using this
  · cases hr with
    | d _ _ h => exact .d _ _ (h.keep (fun b hb => (hF b hb).1) fun b hb => (hF b hb).2)
  · exact plain_rep hp hr
structure YOk (P : Program) (l : Nat) (h : List AObj) (N : Nat) (items : Itm) (C : YCtx) : Prop where
  heap : HRel C.G C.F h C.w
  fc : FC C.F C.w
  dat : ∀ p ∈ items.dat, RepD C.F C.w p.1 p.2
  sj : ∀ j A B, C.J j A → Mod (fun _ => False) A B → C.J j B
  sx : ∀ j A B, C.Jx j A → Mod (fun _ => False) A B → C.Jx j B
  tx : ∀ j A, C.Jx j A → TabW A
  yld : ∀ j W0 W1 F2 ys, j < N → C.J j W0 → Mod (fun _ => False) W0 W1 → FY C.F W0 W1 F2 → RepL C.G (lens h) F2 W1 (items j) ys → YieldAt Fence.wide 0 P l ys W1 fun e W' => (e = .returned (.bool true) ∧ C.J (j + 1) W' ∧ ∀ b, C.F b ∨ kpB C.G h (List.range h.length) b → W'.heap[b]? = W1.heap[b]?) ∨ (e = .returned (.bool false) ∧ C.Jx (j + 1) W')
theorem wpB_wide {o : Oper} {a : Act} {w : World} {n : Nat} {next : Act → World → Prop} {Q : Exit → Act → World → Prop} (h : o.wpB P a w next) : o.wpIn Fence.wide n P a w next Q := by
  obtain ⟨hnd, h⟩ := h
  refine ⟨fun _ _ => trivial, ?_⟩
  rw [Oper.semAt_eq _ _ _ hnd]
  generalize (execOp a.eval o).run P w = r at *
  unfold upB at h
  split at h
  · exact h
  · exact h
  · exact ⟨fun h => (by cases h), (callsIn_wide.2 h).mono fun e w' ⟨v, he, hn⟩ => by subst he; exact hn⟩
  · cases h
theorem allSt_kp {k : Nat} {x : AObj} {G : Gh} (hk : h[k]? = some x) (hv : G.vir k = false) : kpB G h (List.range h.length) (G.σ k) :=
  ⟨k, x, List.mem_range.2 (List.getElem?_eq_some_iff.1 hk).1, hk, hv, rfl⟩
/-- the n first slots' story when yield has run -/
theorem clean_sat {G1 : Gh} {F1 : Nat → Prop} {s : AS} {a : Act} {W1 : World} {E : Env} (hr : Rel E G1 F1 s a W1) (hd : a.defers = []) (n : Nat) (G : Gh) (F : Nat → Prop) (W : World) (hH : HRel G F (s.h.take n) W) (hF : FC F W)
    (hk : ∀ k m, k < n → (lens s.h)[k]? = some m → (lens (s.h.take n))[k]? = some m ∧ G.σ k = G1.σ k ∧ G.bs k = G1.bs k ∧ G.vir k = G1.vir k) : Rel (EY G F (s.h.take n) W) G F (s.clean n) a W := by
  refine ⟨by simp [AS.clean, hr.len], .nil hd, fun i av v h1 h2 => ?_, hH, Mod.refl _ _, fun k x hx hv hf hho => ?_, fun b hb => .inl hb, fun b hb => hb, hF, (Later.refl _ _).same _⟩
  · simp only [AS.clean, List.getElem?_map, Option.map_eq_some_iff] at h1
    obtain ⟨u, hu, rfl⟩ := h1
    exact keepV_rep (hr.slot i u v hu h2) hk
  · have hlt := (List.getElem?_eq_some_iff.1 hx).1
    simp only [AS.clean] at hx hlt
    simp only [EY, hoN, decide_eq_false_iff_not] at hho
    omega
theorem yield_sound (hy : YOk P l h N items C) {o : Oper} {s : AS} {j : Nat} {p : Operand × List Operand} {a : Act} {W : World} (hs : SatY C h j false s a W) (hp : yldArgs l s o = some p) (hg : (s.ev p.1).gc) (hgs : gcsL s p.2) (hj : j < N) (hi : evL s p.2 = items j) (hio : (items j).all (itemOk h.length) = true) (hh : s.h.take h.length = h)
    {next : Act → World → Prop} {Q : Exit → Act → World → Prop} (h1 : ∀ a' W', SatY C h (j + 1) false ((s.clean h.length).put o.dst (.c (.bool true))) a' W' → next a' W') (h2 : ∀ a' W', SatY C h (j + 1) true ((s.clean 0).put o.dst (.c (.bool false))) a' W' → next a' W') : o.wpIn Fence.wide 1 P a W next Q := by
  obtain ⟨W0, hJ0, hk0, G1, F1, hr⟩ : ∃ W0, C.J j W0 ∧ keptY C h W0 ∧ Sat (EY C.G C.F h W0) s a W := hs
  have hM : Mod (fun _ => False) W0 W := hr.mod
  have hJ := hy.sj j W0 W hJ0 hM
  have hd : a.defers = [] := by
    cases hdd : a.defers with
    | nil => rfl
    | cons d ds => obtain ⟨D, _, e, _⟩ := hr.def0.mem d (by rw [hdd]; simp); exact e.elim
  obtain ⟨o_, ho_⟩ : ∃ c : Call, o.op = .call c ∧ c.callee = .value p.1 ∧ (s.ev p.1).ung = .clo (.yield l) [] [] ∧ p.2 = c.args.toList := by
    unfold yldArgs at hp
    split at hp
    · rename_i c ho
      split at hp
      · rename_i f hf
        split at hp
        · rename_i l' hcl
          split at hp
          · rename_i e
            injection hp with hp
            subst hp e
            exact ⟨c, ho, hf, hcl, rfl⟩
          · cases hp
        · cases hp
      · cases hp
    · cases hp
  obtain ⟨ho, hf, hcl, hargs⟩ := ho_
  have hc := (hr.ev p.1).ung hg
  rw [hcl] at hc
  obtain ⟨cs, ds, e1, e2, e3, _, _⟩ := clo_inv hc
  obtain rfl : cs = #[] := by simpa using e2.symm
  obtain rfl : ds = #[] := by simpa using e3.symm
  obtain ⟨m1, m2⟩ := evL_rep hr p.2 hgs
  have hlen : ∀ k, k < h.length → (lens s.h)[k]? = (lens h)[k]? := fun k hk => by
    have e : (lens (s.h.take h.length))[k]? = (lens h)[k]? := by rw [hh]
    rw [← e]
    simp only [lens, List.getElem?_map, List.getElem?_take]
    rw [if_pos hk]
  have hagree : ∀ k m, k < h.length → (lens s.h)[k]? = some m → (lens h)[k]? = some m ∧ C.G.σ k = G1.σ k ∧ C.G.bs k = G1.bs k ∧ C.G.vir k = G1.vir k := fun k m hk hm => by
    have hm' := (hlen k hk).symm.trans hm
    rcases hr.lat k m rfl hm' with ⟨f1, f2, f3, f4⟩ | ⟨m', f1, f2⟩
    · exact ⟨hm', f2.symm, f3.symm, f4.symm⟩
    · rw [hm] at f1; injection f1 with f1; omega
  have hrep : RepL C.G (lens h) F1 W (items j) (o_.args.map a.eval) := by
    refine ⟨?_, fun i u x hu hx => ?_⟩
    · rw [← hi, m1, hargs]; simp
    · have hok := List.all_eq_true.1 hio u (List.mem_of_getElem? hu)
      rw [← hi] at hu
      exact itemOk_rep hok (m2 i u x hu (by rw [hargs]; simpa using hx)) hagree fun b hb => ⟨hb, rfl⟩
  obtain ⟨fn, tmps, assign, body, hrunY, hR⟩ := hy.yld j W0 W F1 (o_.args.map a.eval) hj hJ0 hM ⟨hr.f0, fun b hb => (hr.fsup b hb).imp _root_.id (fun h => h.elim (fun h => h.elim) _root_.id), hr.fc⟩ hrep
  have hrun : (execOp a.eval o).run P W = .ok (.round l fn tmps assign body) W := by
    unfold execOp
    simp [ho, resolve, hf, e1, Deferred.ofValue, invoke, hrunY]
  refine ⟨fun _ _ => trivial, ?_⟩
  rw [Oper.semAt_eq _ _ _ (fun c hc => by rw [ho] at hc; cases hc), hrun, Oper.uponIn_round]
  refine ⟨fun h => (by cases h), hR.mono fun e W' hpost => ?_⟩
  rcases hpost with ⟨rfl, hJ', hkp⟩ | ⟨rfl, hJx⟩
  · have hk' : keptY C h W' := fun b hb => (hkp b hb).trans (by
      have hb0 := hk0 b hb
      rw [← hb0]
      have hlt : b < W0.heap.size := by
        obtain ⟨o, ho⟩ : ∃ o, C.w.heap[b]? = some o := by
          rcases hb with hb | ⟨k, x, hkk, hx, hv, rfl⟩
          · obtain ⟨c, t, f, e⟩ := hy.fc b hb; exact ⟨_, e⟩
          · exact ⟨_, Array.getElem?_eq_getElem (hy.heap.lt hx hv)⟩
        rw [ho] at hb0
        exact lt_of_heap hb0
      exact hM.block b hlt fun h => h)
    refine h1 _ _ ⟨W', hJ', hk', ?_⟩
    have hFk : ∀ b, C.F b → W'.heap[b]? = C.w.heap[b]? := fun b hb => hk' b (.inl hb)
    have hHW : HRel C.G C.F h W' := ⟨fun k y hy' => (hy.heap.obj k y hy').keep (Later.refl _ _) (fun _ h => h) hFk ⟨rfl, rfl, rfl⟩ (fun hv => hk' _ (.inr (allSt_kp hy' hv))) fun hv hf => hy.heap.nfz hy' hv hf, hy.heap.inj⟩
    have := clean_sat hr hd h.length C.G C.F W' (by rw [hh]; exact hHW) (hy.fc.keep hFk) (by rw [hh]; exact hagree)
    rw [hh] at this
    refine ⟨C.G, C.F, ?_⟩
    exact this.put (.cc _) o.dst
  · refine h2 _ _ ⟨W', hJx, ?_⟩
    have := clean_sat (n := 0) hr hd C.G tabF W' ⟨fun k x hk => by simp at hk, fun j k x y hj => by simp at hj⟩ (hy.tx _ _ hJx).fc (fun k m hk => by omega)
    simp only [List.take_zero] at this
    exact ⟨C.G, _, this.put (.cc _) o.dst⟩
/-- what is known of data that the iterator holds, told of a slot that holds it -/
theorem Rel.datY (hy : YOk P l h N items C) {i : Nat} {av : AV} {v : Value} (hi : (av, v) ∈ items.dat) {s : AS} (hsi : s.t[i]? = some (.c v)) {a : Act} {W0 W : World} (hk : keptY C h W0) {G1 : Gh} {F1 : Nat → Prop} (hr : Rel (EY C.G C.F h W0) G1 F1 s a W) : Rel (EY C.G C.F h W0) G1 F1 ⟨s.t.set i av, s.h⟩ a W := by
  have hD : RepD F1 W av v := (hy.dat _ hi).keep (fun b hb => hr.f0 b hb) fun b hb => by
    have h0 := hk b (.inl hb)
    obtain ⟨c, t, f, e⟩ := hy.fc b hb
    have hlt : b < W0.heap.size := lt_of_heap (h0.trans e)
    exact ((hr.mod.block b hlt fun h => h).trans h0)
  refine ⟨by simpa using hr.len, hr.def0, fun k av' v' h1 h2 => ?_, hr.heap, hr.mod, hr.sup, hr.fsup, hr.f0, hr.fc, hr.lat⟩
  simp only at h1
  rw [List.getElem?_set] at h1
  split at h1
  · rename_i e
    subst e
    split at h1
    · injection h1 with h1
      subst h1
      have := (hr.slot i _ v' hsi h2).c_inv
      subst this
      exact .d _ _ hD
    · cases h1
  · exact hr.slot k av' v' h1 h2
theorem stepY_sound (hy : YOk P l h N items C) {o : Oper} {s : AS} {j : Nat} {ov : Bool} {K : AS → Nat → Bool → Prop} (hk : stepY P l h N items o s j ov K) {a : Act} {W : World} (hs : SatY C h j ov s a W) {next : Act → World → Prop} {Q : Exit → Act → World → Prop}
    (hn : ∀ s' j' ov' a' W', SatY C h j' ov' s' a' W' → K s' j' ov' → next a' W') : o.guard = none ∧ o.wpIn Fence.wide 1 P a W next Q := by
  unfold stepY onYA at hk
  split at hk
  · rename_i p hp
    obtain ⟨g0, rfl, g1, g2, g3, g4, g5, g6, g7, g8⟩ := hk
    exact ⟨g0, yield_sound hy hs hp g1 g2 g3 g4 g5 g6 (fun a' W' h' => hn _ _ _ a' W' h' g7) fun a' W' h' => hn _ _ _ a' W' h' g8⟩
  · obtain ⟨g0, hk⟩ := hk
    refine ⟨g0, ?_⟩
    unfold onYD at hk
    split at hk
    · rename_i q hq
      obtain ⟨rfl, hq1, hk⟩ := hk
      obtain ⟨W0, hJ, hkp, G1, F1, hr⟩ : ∃ W0, C.J j W0 ∧ keptY C h W0 ∧ Sat (EY C.G C.F h W0) s a W := hs
      obtain ⟨dst, op, ty, pos, aft, gd⟩ := o
      simp only at hq
      unfold ixD at hq
      split at hq
      · rename_i t i x _
        split at hq
        · cases hq
        · rename_i pr rest hdat
          rw [Option.map_eq_some_iff] at hq
          obtain ⟨q', hq', rfl⟩ := hq
          obtain ⟨g1, g2⟩ := hq1
          have hr' := Rel.datY hy (i := i) (av := pr.1) (v := pr.2) (by rw [hdat]; simp) g1 hkp hr
          obtain ⟨x', h1, h2⟩ := pureV_sound hr' (⟨dst, .indexAddr t (.tmp i) x, ty, pos, aft, gd⟩ : Oper) hq' g2
          refine wpB_wide ⟨fun c hc => (by cases hc), ?_⟩
          unfold upB
          rw [h1 W (SameOn.refl _ _ _ _ _)]
          exact hn (s.put dst q'.2) j false _ _ (show SatY C h j false _ _ _ from ⟨W0, hJ, hkp, Sat.put hr h2⟩) hk
      · cases hq
    obtain ⟨E, hE, _, ⟨G1, F1, hr⟩, hback⟩ := satY_ex hs
    have : stepO P E o s (fun s' => K s' j ov) := by
      unfold stepO onPure
      unfold onYP at hk
      split at hk
      · rename_i q hq; rw [hq]; exact hk
      · rename_i hq
        rw [hq]
        rw [← hE] at hk
        unfold onImpl
        unfold onYI at hk
        split at hk
        · rename_i q hq2; simp only; rw [hq2]; exact hk
        · cases hk
    exact wpB_wide (stepO_soundB hr o this fun s' a' W' h1 h2 => hn s' j ov a' W' (hback s' a' W' h1) h2)
theorem runYL_sound (hy : YOk P l h N items C) {ops : Array Oper} {Q : Exit → Act → World → Prop} {K : AS → Nat → Bool → Prop} (hQ : ∀ s' j' ov' a' W', SatY C h j' ov' s' a' W' → K s' j' ov' → Q .normal a' W') : ∀ (L : List Oper) (s : AS) (j : Nat) (ov : Bool) (a : Act) (W : World), SatY C h j ov s a W → runYL P l h N items L s j ov K → wpListIn Fence.wide 1 P ops Q L a W := by
  intro L
  induction L with
  | nil => intro s j ov a W hs hk; exact hQ s j ov a W hs hk
  | cons o L ih =>
    intro s j ov a W hs hk
    obtain ⟨g0, hw⟩ := stepY_sound hy hk hs (next := wpListIn Fence.wide 1 P ops Q L) (Q := Q) fun s' j' ov' a' W' h1 h2 => ih s' j' ov' a' W' h1 h2
    unfold wpListIn
    rw [if_pos (by simp [Region.wanted, g0])]
    exact hw
/-! code -/
def YW (P : Program) (C : YCtx) (h : List AObj) (c : Code) (s : AS) (j : Nat) (ov : Bool) (Q : Exit → AS → Nat → Bool → Prop) : Prop := ∀ a W, SatY C h j ov s a W → c.wp P (PostY C h Q) a W
def seqY (n : AS → Nat → Bool → Prop) (Q : Exit → AS → Nat → Bool → Prop) : Exit → AS → Nat → Bool → Prop
  | .normal => n
  | e => Q e
def blockY (id : Nat) (Q : Exit → AS → Nat → Bool → Prop) : Exit → AS → Nat → Bool → Prop
  | .exit id' => fun s j ov => if id' = id then Q .normal s j ov else Q (.exit id') s j ov
  | e => Q e
def DrawY (P : Program) (h : List AObj) (ops : Array Oper) (s : AS) (j : Nat) (ov : Bool) (K : AS → Nat → Bool → Prop) : Prop := ∀ E : Env, E.ho = hoN (hnY h ov) → DrawG P E ops s fun s' => K s' j ov
def LoopY (P : Program) (l : Nat) (h : List AObj) (N : Nat) (items : Itm) (b : Code) (s : AS) (j : Nat) (ov : Bool) (Q : Exit → AS → Nat → Bool → Prop) : Prop := ∀ C, YOk P l h N items C → YW P C h (.loop b) s j ov Q
def runY (P : Program) (l : Nat) (h : List AObj) (N : Nat) (items : Itm) : Code → AS → Nat → Bool → (Exit → AS → Nat → Bool → Prop) → Prop
  | .skip, s, j, ov, Q => Q .normal s j ov
  | .region _ ops false, s, j, ov, Q => runYL P l h N items ops.toList s j ov (Q .normal)
  | .region _ ops true, s, j, ov, Q => DrawY P h ops s j ov (Q .normal)
  | .seq x y, s, j, ov, Q => runY P l h N items x s j ov (seqY (fun s' j' ov' => runY P l h N items y s' j' ov' Q) Q)
  | .cond c x y, s, j, ov, Q => (s.ev c).gc ∧ condP (runY P l h N items x s j ov Q) (runY P l h N items y s j ov Q) (s.ev c).ung
  | .block id b, s, j, ov, Q => runY P l h N items b s j ov (blockY id Q)
  | .loop b, s, j, ov, Q => LoopY P l h N items b s j ov Q
  | .exit id, s, j, ov, Q => Q (.exit id) s j ov
  | .label _, s, j, ov, Q => Q .normal s j ov
  | .goto l, s, j, ov, Q => Q (.goto l) s j ov
  | .ret, s, j, ov, Q => Q .ret s j ov
  | _, _, _, _, _ => False
theorem SatY.drew {j : Nat} {ov : Bool} {s : AS} {a : Act} {W : World} (hs : SatY C h j ov s a W) : SatY C h j ov s a W.drew := by
  obtain ⟨E, _, _, h1, h2⟩ := satY_ex hs
  exact h2 s a _ (Sat.drew h1)
theorem runY_sound (hm : P.follows .mixedOrders = true) (hy : YOk P l h N items C) : ∀ (c : Code) (s : AS) (j : Nat) (ov : Bool) (Q : Exit → AS → Nat → Bool → Prop), runY P l h N items c s j ov Q → YW P C h c s j ov Q := by
  intro c
  induction c with
  | skip => intro s j ov Q hk a W hs; exact wp_skip ⟨rfl, s, j, ov, hs, hk⟩
  | region id ops draw =>
    intro s j ov Q hk a W hs
    cases draw with
    | false => exact (wpIn_wide (n := 1)).1 (wpIn_region_list (runYL_sound hy (Q := PostY C h Q) (fun s' j' ov' a' W' h1 h2 => ⟨rfl, s', j', ov', h1, h2⟩) _ s j ov a W hs hk))
    | true =>
      obtain ⟨E, hE, _, h1, h2⟩ := satY_ex hs.drew
      exact wp_region_any hm (wpAnyB_wp _ _ _ _ (hk E hE a _ h1 (PostY C h Q .normal) fun s' a' w' g1 g2 => ⟨rfl, s', j, ov, h2 s' a' w' g1, g2⟩))
  | seq x y ihx ihy =>
    intro s j ov Q hk a W hs
    refine wp_seq (Code.wp_mono (fun e a' w' ⟨h0, s', j', ov', h1, h2⟩ => ?_) (ihx s j ov _ hk a W hs))
    cases e with
    | normal => exact ihy s' j' ov' Q h2 a' w' h1
    | _ => exact ⟨h0, s', j', ov', h1, h2⟩
  | cond c x y ihx ihy =>
    intro s j ov Q hk a W hs
    obtain ⟨g1, hk⟩ := hk
    obtain ⟨E, _, _, ⟨G, F, hr⟩, _⟩ := satY_ex hs
    have hc := (hr.ev c).ung g1
    unfold condP at hk
    split at hk
    · rename_i v e1
      rw [e1] at hc
      refine wp_cond_split hc.c_inv (fun hv => ihx s j ov Q (by rw [if_pos hv] at hk; exact hk) a W hs) fun hv => ihy s j ov Q (by rw [if_neg (by rw [hv]; decide)] at hk; exact hk) a W hs
    · cases hk
  | block id b ih =>
    intro s j ov Q hk a W hs
    refine wp_block (Code.wp_mono (fun e a' w' ⟨h0, s', j', ov', h1, h2⟩ => ?_) (ih s j ov _ hk a W hs))
    cases e with
    | exit id' =>
      simp only [blockY] at h2
      simp only [Exit.inBlock]
      split
      · rename_i e; rw [if_pos e] at h2; exact ⟨rfl, s', j', ov', h1, h2⟩
      · rename_i e; rw [if_neg e] at h2; exact ⟨rfl, s', j', ov', h1, h2⟩
    | _ => exact ⟨h0, s', j', ov', h1, h2⟩
  | loop b ih => intro s j ov Q hk; exact hk C hy
  | exit id => intro s j ov Q hk a W hs; exact wp_exit ⟨rfl, s, j, ov, hs, hk⟩
  | label l => intro s j ov Q hk a W hs; exact wp_label ⟨rfl, s, j, ov, hs, hk⟩
  | goto l => intro s j ov Q hk a W hs; exact wp_goto ⟨rfl, s, j, ov, hs, hk⟩
  | ret => intro s j ov Q hk a W hs; exact wp_ret ⟨rfl, s, j, ov, hs, hk⟩
  | rangeFunc f ps x b _ _ => intro s j ov Q hk; cases hk
  | scope b _ => intro s j ov Q hk; cases hk
  | refuse y => intro s j ov Q hk; cases hk
/-- the slots and blocks may be told otherwise -/
def WkY (h : List AObj) (s s' : AS) : Prop := ∀ E : Env, E.ln0.length ≤ h.length → Wk E s s'
theorem WkY.sat {s s' : AS} (hw : WkY h s s') {j : Nat} {ov : Bool} {a : Act} {W : World} (hs : SatY C h j ov s a W) : SatY C h j ov s' a W := by
  obtain ⟨E, _, hl, h1, h2⟩ := satY_ex hs
  exact h2 s' a W (hw E hl a W h1)
def roundY {X : Type} (h : List AObj) (st : X → AS) (jx : X → Nat) (μ : X → Nat) (Inv : X → Prop) (x : X) (Q : Exit → AS → Nat → Bool → Prop) : Exit → AS → Nat → Bool → Prop
  | .normal => fun s j ov => ov = false ∧ ∃ x', Inv x' ∧ μ x' < μ x ∧ jx x' = j ∧ WkY h s (st x')
  | e => Q e
theorem loopY_of (hm : P.follows .mixedOrders = true) {X : Type} {b : Code} {s : AS} {j : Nat} {Q : Exit → AS → Nat → Bool → Prop} (st : X → AS) (jx : X → Nat) (μ : X → Nat) (Inv : X → Prop) (x0 : X) (h0 : Inv x0) (hj : jx x0 = j) (hw : WkY h s (st x0)) (round : ∀ x, Inv x → runY P l h N items b (st x) (jx x) false (roundY h st jx μ Inv x Q)) : LoopY P l h N items b s j false Q := by
  intro C hy a W hs
  refine wp_loop_ghost (fun n a w => ∃ x, Inv x ∧ μ x = n ∧ SatY C h (jx x) false (st x) a w) (μ x0) ⟨x0, h0, rfl, by rw [hj]; exact hw.sat hs⟩ fun n a w ⟨x, hx, hn, hsx⟩ => ?_
  refine Code.wp_mono (fun e a' w' ⟨hp, s', j', ov', h1, h2⟩ => ?_) (runY_sound hm hy b _ _ _ _ (round x hx) a w hsx)
  cases e with
  | normal =>
    obtain ⟨rfl, x', h3, h4, h6, h5⟩ := h2
    exact ⟨μ x', by omega, x', h3, rfl, by rw [h6]; exact h5.sat h1⟩
  | _ => exact ⟨hp, s', j', ov', h1, h2⟩
/-- data in the box that an iterator holds: told of its value -/
theorem aseq0_data {sz n : Nat} {cells : List AV} {gf : FuncId} {N : Nat} {f : Nat → List AV}
    (H : ∀ v, ASeq0 P [.o .box [.c v]] N ⟨f, [(.fs sz n cells, v)]⟩ gf [.ptr 0 0 1]) : ASeq0 P [.o .box [.fs sz n cells]] N ⟨f, []⟩ gf [.ptr 0 0 1] := by
  intro G F w vs hh hfc _ hrep l J Jx W hM sj sx tx hyl hJ0
  obtain ⟨h1, h2, cur, ty, h3, h4, h5, h6⟩ := hh.obj 0 _ rfl
  obtain ⟨x, h7, h8⟩ := h6 0 _ rfl
  have hD : RepD F w (.fs sz n cells) x := by
    cases h8 with
    | d _ _ h => exact h
  refine H x G F w vs ⟨fun k y hk => ?_, fun j k a b hj hk => ?_⟩ hfc (by simpa using hD) hrep l J Jx W hM sj sx tx ?_ hJ0
  · cases k with
    | zero =>
      simp at hk; subst hk
      refine ⟨h1, h2, cur, ty, h3, h4, h5, fun i u hu => ?_⟩
      cases i with
      | zero => simp at hu; subst hu; exact ⟨x, h7, .cc _⟩
      | succ i => simp at hu
    | succ k => simp at hk
  · cases j with
    | zero => cases k with
      | zero => intros; rfl
      | succ k => simp at hk
    | succ j => simp at hj
  · intro j W0 W1 F2 ys a1 a2 a3 a4 a5
    obtain ⟨fn, tmps, assign, body, b1, b2⟩ := hyl j W0 W1 F2 ys a1 a2 a3 a4 a5
    refine ⟨fn, tmps, assign, body, b1, b2.mono fun e W' he => ?_⟩
    rcases he with ⟨e1, e2, e3⟩ | he
    · refine .inl ⟨e1, e2, fun b hb => e3 b ?_⟩
      rcases hb with hb | ⟨k, y, g1, g2, g3, g4⟩
      · exact .inl hb
      · have hk0 : k = 0 := by
          have := (List.getElem?_eq_some_iff.1 g2).1
          simpa using this
        subst hk0
        exact .inr ⟨0, _, by simp, rfl, g3, g4⟩
    · exact .inr he
def finY (N : Nat) : Exit → AS → Nat → Bool → Prop
  | .normal => fun _ j ov => (ov = false → j = N) ∧ (ov = true → 1 ≤ j ∧ j ≤ N)
  | .ret => fun _ j ov => (ov = false → j = N) ∧ (ov = true → 1 ≤ j ∧ j ≤ N)
  | _ => fun _ _ _ => False
theorem aseq0_of {gf : FuncId} {fn : Func} {c : Code} {caps : List AV} {n : Nat} (hm : P.follows .mixedOrders = true) (hf : P.funcs[gf]? = some fn) (hb : fn.body = some c) (hn : fn.ntmps = n) (hrs : fn.results = #[])
    (H : ∀ l, runY P l h N items c ⟨.clo (.yield l) [] [] :: (caps ++ anyS (n - (caps.length + 1))), h⟩ 0 false (finY N)) : ASeq0 P h N items gf caps := by
  subst hn
  simp only [anyS_eq] at H
  intro G F w vs hh hfc hdt hrep l J Jx W hM sj sx tx hyl hJ0
  have hy : YOk P l h N items ⟨G, F, w, J, Jx⟩ := ⟨hh, hfc, hdt, sj, sx, tx, hyl⟩
  refine callsIn_wide.2 (calls_of_wp hf hb ?_)
  have hFk : ∀ b, F b → W.heap[b]? = w.heap[b]? := fun b hb => hM.block b (hfc.lt b hb) fun h => h
  have hk : keptY ⟨G, F, w, J, Jx⟩ h W := fun b hb => by
    rcases hb with hb | ⟨k, x, _, hx, hv, rfl⟩
    · exact hFk b hb
    · exact hM.block _ (hh.lt hx hv) fun h => h
  have hHW : HRel G F h W := ⟨fun k y hy' => (hh.obj k y hy').keep (Later.refl _ _) (fun _ h => h) hFk ⟨rfl, rfl, rfl⟩ (fun hv => hM.block _ (hh.lt hy' hv) fun h => h) fun hv hf => hh.nfz hy' hv hf, hh.inj⟩
  have hs : SatY ⟨G, F, w, J, Jx⟩ h 0 false ⟨.clo (.yield l) [] [] :: (caps ++ List.replicate (fn.ntmps - (caps.length + 1)) .any), h⟩ { tmps := (#[.func (.yield l) #[] #[]] ++ vs) ++ Array.replicate (fn.ntmps - (#[Value.func (.yield l) #[] #[]] ++ vs).size) undef, defers := [] } W := by
    refine ⟨W, hJ0, hk, G, F, ?_⟩
    refine ⟨?_, .nil rfl, fun i av v h1 h2 => ?_, hHW, Mod.refl _ _, fun k x hx hv hf hho => ?_, fun b hb => .inl hb, fun b hb => hb, hfc.keep hFk, (Later.refl _ _).same _⟩
    · have := hrep.1
      simp; omega
    · cases i with
      | zero =>
        rw [Array.getElem?_append_left (by simp; omega), Array.getElem?_append_left (by simp)] at h2
        simp at h1 h2
        subst h1 h2
        exact .clo _ [] [] #[] #[] rfl rfl (by simp) (by simp)
      | succ i =>
        simp only [List.getElem?_cons_succ] at h1
        by_cases hi : i < caps.length
        · rw [List.getElem?_append_left hi] at h1
          rw [Array.getElem?_append_left (by have := hrep.1; simp; omega), Array.getElem?_append_right (by simp)] at h2
          exact (hrep.2 i av v h1 (by simpa using h2)).keep (Later.refl _ _) (fun _ h => h) hFk
        · rw [List.getElem?_append_right (by omega), List.getElem?_replicate] at h1
          split at h1
          · injection h1 with h1; subst h1; exact .any _
          · cases h1
    · have hlt := (List.getElem?_eq_some_iff.1 hx).1
      simp only [EY, hoN, decide_eq_false_iff_not] at hho
      simp only at hlt
      omega
  refine Code.wp_mono (fun e a' W' ⟨hp, s', j', ov', h1, h2⟩ => ?_) (runY_sound hm hy c _ _ _ _ (H l) _ W hs)
  have key : ((ov' = false → j' = N) ∧ (ov' = true → 1 ≤ j' ∧ j' ≤ N)) → (a'.defers = [] ∧ ∃ v, (results fn a'.tmps).run P W' = .ok v W' ∧ ((∃ v', Ending.returned v = .returned v') ∧ (J N W' ∨ ∃ j, j < N ∧ Jx (j + 1) W'))) := fun ⟨k1, k2⟩ => by
    have hdef : ∀ {E : Env} {G : Gh} {F : Nat → Prop}, E.mks = (fun _ => False) → Rel E G F s' a' W' → a'.defers = [] := fun hE hr => by
      cases hdd : a'.defers with
      | nil => rfl
      | cons d ds => obtain ⟨D, _, e, _⟩ := hr.def0.mem d (by rw [hdd]; simp); rw [hE] at e; exact e.elim
    have hres : ∀ v, (results fn a'.tmps).run P W' = .ok v W' → True := fun _ _ => trivial
    have hrn : (results fn a'.tmps).run P W' = .ok (.tuple #[]) W' := by
      have := results_run (P := P) (fn := fn) (tmps := a'.tmps) (vs := []) (w := W') (by rw [hrs]; rfl)
      exact this
    cases ov' with
    | false =>
      obtain ⟨W0, hJ, _, G1, F1, hr⟩ : ∃ W0, J j' W0 ∧ keptY ⟨G, F, w, J, Jx⟩ h W0 ∧ Sat (EY G F h W0) s' a' W' := h1
      have := k1 rfl
      subst this
      exact ⟨hdef rfl hr, _, hrn, ⟨_, rfl⟩, .inl (sj _ _ _ hJ hr.mod)⟩
    | true =>
      obtain ⟨W0, hJ, G1, F1, hr⟩ : ∃ W0, Jx j' W0 ∧ Sat (EY G tabF [] W0) s' a' W' := h1
      obtain ⟨k3, k4⟩ := k2 rfl
      refine ⟨hdef rfl hr, _, hrn, ⟨_, rfl⟩, .inr ⟨j' - 1, by omega, ?_⟩⟩
      rw [Nat.sub_add_cancel k3]
      exact sx _ _ _ hJ hr.mod
  cases e with
  | normal => exact key h2
  | ret => exact key h2
  | _ => cases h2
theorem wkL_any (dead : List Nat) : ∀ l : List AV, wkL dead l (anyS l.length) := by
  intro l
  induction l with
  | nil => trivial
  | cons v l ih => exact ⟨trivial, ih⟩
/-- of the slots nothing is told -/
theorem wk_drop {E : Env} {s : AS} {h' : List AObj} (n m : Nat) (hlen : s.h.length = n + m) (hn : E.ln0.length ≤ n) (hh : s.h.take n = h') (ho : livH (List.range' n m) [] 0 h' = true) : Wk E s ⟨anyS s.t.length, h'⟩ := wk_of n m hlen hn hh ho (wkL_any _ _)
theorem range_next {E : Env} {kp : List Nat} {h h' : List AObj} {t : List AV} {I' : Prop} {Q : Exit → AS → Prop} {s : AS} (n m : Nat) (hI : I') (hlen : s.h.length = n + m) (hn : E.ln0.length ≤ n) (hh : s.h.take n = h') (ho : livH (List.range' n m) [] 0 h' = true) : rangeK E kp h h' t I' Q .normal s := ⟨hI, _, wk_drop n m hlen hn hh ho⟩
theorem range_exit {E : Env} {kp : List Nat} {h h' : List AObj} {t : List AV} {I' : Prop} {Q : Exit → AS → Prop} {s : AS} {i : Nat} (n m : Nat) (hlen : s.h.length = n + m) (hn : E.ln0.length ≤ n) {h'' : List AObj} (hh : s.h.take n = h'') (ho : livH (List.range' n m) [] 0 h'' = true) (hk : heldH kp h h'') (hq : Q (.exit i) ⟨t, h''⟩) : rangeK E kp h h' t I' Q (.exit i) s := ⟨_, h'', wk_drop n m hlen hn hh ho, hk, hq⟩
theorem range_ret {E : Env} {kp : List Nat} {h h' : List AObj} {t : List AV} {I' : Prop} {Q : Exit → AS → Prop} {s : AS} (n m : Nat) (hlen : s.h.length = n + m) (hn : E.ln0.length ≤ n) {h'' : List AObj} (hh : s.h.take n = h'') (ho : livH (List.range' n m) [] 0 h'' = true) (hk : heldH kp h h'') (hq : Q .ret ⟨t, h''⟩) : rangeK E kp h h' t I' Q .ret s := ⟨_, h'', wk_drop n m hlen hn hh ho, hk, hq⟩
/-! the contract, at the blocks of whoever ranges -/
def rebI (lent : List Nat) : AV → AV
  | .sl i sz off c m => .sl (lent.getD i 0) sz off c m
  | .ptr i off m => .ptr (lent.getD i 0) off m
  | v => v
theorem rebI_rep {lent : List Nat} {G Gc : Gh} {ln lnc : List Nat} {F Fc : Nat → Prop} {w w' : World} {n : Nat} {av : AV} {v : Value} (ho : itemOk n av = true) (hr : RepV Gc lnc Fc w av v) (hk : ∀ i m, i < n → lnc[i]? = some m → ln[lent.getD i 0]? = some m ∧ G.σ (lent.getD i 0) = Gc.σ i ∧ G.bs (lent.getD i 0) = Gc.bs i ∧ G.vir (lent.getD i 0) = Gc.vir i) (hF : ∀ b, Fc b → F b ∧ w'.heap[b]? = w.heap[b]?) : RepV G ln F w' (rebI lent av) v := by
  unfold rebI
  split
  · rename_i i sz off c m
    have hlt : i < n := by simpa [itemOk] using ho
    cases hr with
    | d _ _ h => cases h
    | sl _ _ _ _ _ c' h1 h2 h3 h4 h5 =>
      obtain ⟨e1, e2, e3, e4⟩ := hk i m hlt h1
      rw [← e2]; exact .sl _ sz off c m c' e1 (e4.trans h2) h3 h4 (e3.symm ▸ h5)
    | slNil _ _ h1 h2 =>
      obtain ⟨e1, e2, e3, e4⟩ := hk i 0 hlt h1
      exact .slNil _ sz e1 (e4.trans h2)
    | slOld _ _ _ _ _ m' A l c' h1 h2 => exact .slOld _ sz off c m m' A l c' (hk i m' hlt h1).1 h2
  · rename_i i off m
    have hlt : i < n := by simpa [itemOk] using ho
    cases hr with
    | d _ _ h => cases h
    | ptr _ _ _ h1 h2 =>
      obtain ⟨e1, e2, e3, e4⟩ := hk i m hlt h1
      rw [← e2]; exact .ptr _ off m e1 (e4.trans h2)
    | ptrOld _ _ _ m' p h1 h2 => exact .ptrOld _ off m m' p (hk i m' hlt h1).1 h2
  · rename_i h1 h2
    by_cases hfs : ∃ z m l, av = .fs z m l
    · obtain ⟨z, m, l, rfl⟩ := hfs
      cases hr with
      | d _ _ h => exact .d _ _ (h.keep (fun b hb => (hF b hb).1) fun b hb => (hF b hb).2)
    · refine plain_rep ?_ hr
      cases av with
      | sl k sz off c m => exact absurd rfl (h1 k sz off c m)
      | ptr k off m => exact absurd rfl (h2 k off m)
      | fs z m l => exact absurd ⟨z, m, l, rfl⟩ hfs
      | _ => exact ho
theorem aseq_lift {gf : FuncId} {caps cargs : List AV} {hs : List AObj} (lent : List Nat) {pa po : Prop} (hc : ASeq0 P h N items gf cargs) (ha : AV.convL lent (fun _ => false) hs caps = some (pa, cargs)) (ho : convOs lent (fun _ => false) hs lent = some (po, h)) (hp : pa ∧ po) (hn : lent.Nodup)
    (hi : ∀ j, j < N → (items j).all (itemOk h.length) = true) (hd : items.dat = []) : ASeq P gf caps hs lent N (fun j => (items j).map (rebI lent)) := by
  intro G F w vs hh hfc hrep l J Jx W hM sj sx tx hyl hJ0
  obtain ⟨c1, c2, c3⟩ := hh.conv ho hp.2 hn (fun _ _ => rfl)
  have hFc : ∀ b, (F b ∨ ∃ k kd cs, hs[k]? = some (.o kd cs) ∧ (fun _ : Nat => false) k = true ∧ G.vir k = false ∧ b = G.σ k) → F b := fun b hb => by
    rcases hb with hb | ⟨_, _, _, _, h, _⟩
    · exact hb
    · cases h
  obtain ⟨ca1, ca2⟩ := convL_at ha hp.1
  refine hc _ _ w vs c1 (hfc.more (fun _ h => .inl h) (fun _ _ => rfl) fun b hb => hfc b (hFc b hb)) (by rw [hd]; simp) ⟨ca1.trans hrep.1, fun j u' x hu hx => ?_⟩ l J Jx W hM sj sx tx (fun j W0 W1 F2 ys hj hJ hm hfy hys => ?_) hJ0
  · obtain ⟨u, q, f1, f2, f3⟩ := ca2 j u' hu
    exact RepV.conv hh c2 (fun b hb => .inl hb) (fun k kd cs h1 h2 h3 => .inr ⟨k, kd, cs, h1, h2, h3, rfl⟩) (hrep.2 j u x f1 hx) f2 f3
  · have hlen : h.length = lent.length := (convOs_at ho hp.2).1
    have hy : RepL G (lens hs) F2 W1 ((items j).map (rebI lent)) ys := by
      refine ⟨by simpa using hys.1, fun i u x hu hx => ?_⟩
      rw [List.getElem?_map, Option.map_eq_some_iff] at hu
      obtain ⟨v, hv, rfl⟩ := hu
      refine rebI_rep (List.all_eq_true.1 (hi j hj) v (List.mem_of_getElem? hv)) (hys.2 i v x hv hx) (fun i' m hi' hm => ?_) fun b hb => ⟨hb, rfl⟩
      have hl : lent[i']? = some (lent.getD i' 0) := by
        have : i' < lent.length := by omega
        simp [List.getD, List.getElem?_eq_getElem this]
      obtain ⟨e1, e2, e3, e4⟩ := c2 i' _ hl
      exact ⟨e4 ▸ hm, e1.symm, e2.symm, e3.symm⟩
    obtain ⟨fn, tmps, assign, body, h1, h2⟩ := hyl j W0 W1 F2 ys hj hJ hm ⟨fun b hb => hfy.1 b (.inl hb), fun b hb => (hfy.2.1 b hb).imp (hFc b) _root_.id, hfy.2.2⟩ hy
    refine ⟨fn, tmps, assign, body, h1, h2.mono fun e W' he => ?_⟩
    rcases he with ⟨e1, e2, e3⟩ | he
    · refine .inl ⟨e1, e2, fun b hb => e3 b ?_⟩
      rcases hb with hb | ⟨i, y, hik, hy', hv, rfl⟩
      · exact .inl (hFc b hb)
      · obtain ⟨k, x, g1, g2, _, _⟩ := c3 hy'
        obtain ⟨f1, _, f3, _⟩ := c2 i k g1
        exact .inr ⟨k, x, List.mem_of_getElem? g1, g2, f3 ▸ hv, f1⟩
    · exact .inr he
theorem range_k (hm : P.follows .mixedOrders = true) {E : Env} {s : AS} {f : Operand} {ps : Array Tmp} {id : Nat} {ops : Array Oper} {b : Code} {Q : Exit → AS → Prop} (lent : List Nat) {gf : FuncId} {cargs : List AV} (hc : ASeq0 P h N items gf cargs) (hE : E.ho = noHo) (hmk : ∀ D, E.w0.heap.size ≤ D → E.mks D) {caps : List AV} {pa po : Prop} (hg : (s.ev f).gc ∧ (s.ev f).ung = .clo (.func gf) [] caps) (hcl : callable P gf = true)
    (ha : AV.convL lent (fun _ => false) s.h caps = some (pa, cargs)) (ho : convOs lent (fun _ => false) s.h lent = some (po, h)) (hp : pa ∧ po) (hn : lent.Nodup) (hi : ∀ j, (items j).all (itemOk h.length) = true ∧ (items j).length = ps.size) (hpl : plainC b = true) (hlt : ∀ k ∈ lent, k < s.h.length)
    (Inv : Nat → Prop) (hI0 : Inv 0) (hh : Nat → List AObj) (h0 : hh 0 = s.h) (hheld : ∀ j, j ≤ N → heldH lent s.h (hh j))
    (round : ∀ j, j < N → Inv j → ∀ E' : Env, E'.ho = (fun k => lent.contains k) → E'.ln0 = lens (hh j) → E'.st = allSt → runK P E' [] (.region id ops false) [] (midK P b lent (hh j) (hh (j + 1)) s.t (Inv (j + 1)) Q) ⟨setPs s.t ps.toList ((items j).map (rebI lent)), hh j⟩)
    (done : Inv N → Q .normal ⟨s.t, hh N⟩) (hd : items.dat = [] := by rfl) : RangeFG P E (.rangeFunc f ps (.region id ops false) b) s Q :=
  range_of hm hE hmk hg.1 hg.2 hcl lent hlt (aseq_lift lent hc ha ho hp hn (fun j _ => (hi j).1) hd) (fun j => by simpa using (hi j).2) hpl Inv hI0 hh h0 hheld round done
end

/-! ## How simp steps through an iterator -/
section
variable {P : Program} {l : Nat} {h : List AObj} {N : Nat} {items : Itm}
def contY (P : Program) (l : Nat) (h : List AObj) (N : Nat) (items : Itm) (fin : Exit → AS → Nat → Bool → Prop) : List Fr → Exit → AS → Nat → Bool → Prop
  | [] => fin
  | .seq y :: r => seqY (fun s j ov => runY P l h N items y s j ov (contY P l h N items fin r)) (contY P l h N items fin r)
  | .block id :: r => blockY id (contY P l h N items fin r)
def runYK (P : Program) (l : Nat) (h : List AObj) (N : Nat) (items : Itm) (c : Code) (stk : List Fr) (fin : Exit → AS → Nat → Bool → Prop) (s : AS) (j : Nat) (ov : Bool) : Prop := runY P l h N items c s j ov (contY P l h N items fin stk)
def contYK (P : Program) (l : Nat) (h : List AObj) (N : Nat) (items : Itm) (stk : List Fr) (fin : Exit → AS → Nat → Bool → Prop) (e : Exit) (s : AS) (j : Nat) (ov : Bool) : Prop := contY P l h N items fin stk e s j ov
def runYO (P : Program) (l : Nat) (h : List AObj) (N : Nat) (items : Itm) (L : List Oper) (stk : List Fr) (fin : Exit → AS → Nat → Bool → Prop) (s : AS) (j : Nat) (ov : Bool) : Prop := runYL P l h N items L s j ov (contY P l h N items fin stk .normal)
variable {stk : List Fr} {fin : Exit → AS → Nat → Bool → Prop} {s : AS} {j : Nat} {ov : Bool}
theorem onYI_some {o : Oper} {K : AS → Nat → Bool → Prop} {q : Prop × AS × AV} : onYI o s j ov K (some q) = (q.1 ∧ K (q.2.1.put o.dst q.2.2) j ov) := congrArg _root_.id rfl
theorem onYP_some {o : Oper} {K : AS → Nat → Bool → Prop} {q : Prop × AV} : onYP P h o s j ov K (some q) = (q.1 ∧ K (s.put o.dst q.2) j ov) := congrArg _root_.id rfl
theorem onYP_none {o : Oper} {K : AS → Nat → Bool → Prop} : onYP P h o s j ov K none = onYI o s j ov K (implO P (hoN (hnY h ov)) s o.op) := congrArg _root_.id rfl
theorem onYA_some {o : Oper} {K : AS → Nat → Bool → Prop} {p : Operand × List Operand} : onYA P h N items o s j ov K (some p) = (o.guard = none ∧ ov = false ∧ (s.ev p.1).gc ∧ gcsL s p.2 ∧ j < N ∧ evL s p.2 = items j ∧ (items j).all (itemOk h.length) = true ∧ s.h.take h.length = h ∧ K ((s.clean h.length).put o.dst (.c (.bool true))) (j + 1) false ∧ K ((s.clean 0).put o.dst (.c (.bool false))) (j + 1) true) := congrArg _root_.id rfl
theorem onYA_none {o : Oper} {K : AS → Nat → Bool → Prop} : onYA P h N items o s j ov K none = (o.guard = none ∧ onYD P h o s j ov K (ixD P items.dat s o.op)) := congrArg _root_.id rfl
theorem onYD_some {o : Oper} {K : AS → Nat → Bool → Prop} {q : Prop × AV} : onYD P h o s j ov K (some q) = (ov = false ∧ q.1 ∧ K (s.put o.dst q.2) j ov) := congrArg _root_.id rfl
theorem onYD_none {o : Oper} {K : AS → Nat → Bool → Prop} : onYD P h o s j ov K none = onYP P h o s j ov K (pureV P anyRo s o.op) := congrArg _root_.id rfl
theorem runYK_skip : runYK P l h N items .skip stk fin s j ov = contYK P l h N items stk fin .normal s j ov := congrArg _root_.id rfl
theorem runYK_region {id : Nat} {ops : Array Oper} : runYK P l h N items (.region id ops false) stk fin s j ov = runYO P l h N items ops.toList stk fin s j ov := congrArg _root_.id rfl
theorem runYK_draw {id : Nat} {ops : Array Oper} : runYK P l h N items (.region id ops true) stk fin s j ov = DrawY P h ops s j ov (contYK P l h N items stk fin .normal) := congrArg _root_.id rfl
theorem runYK_seq {x y : Code} : runYK P l h N items (.seq x y) stk fin s j ov = runYK P l h N items x (.seq y :: stk) fin s j ov := congrArg _root_.id rfl
def condYK (P : Program) (l : Nat) (h : List AObj) (N : Nat) (items : Itm) (x y : Code) (stk : List Fr) (fin : Exit → AS → Nat → Bool → Prop) (s : AS) (j : Nat) (ov : Bool) (v : AV) : Prop := condP (runYK P l h N items x stk fin s j ov) (runYK P l h N items y stk fin s j ov) v
theorem condYK_bool {x y : Code} {b : Bool} : condYK P l h N items x y stk fin s j ov (.c (.bool b)) = if b = true then runYK P l h N items x stk fin s j ov else runYK P l h N items y stk fin s j ov := congrArg _root_.id rfl
theorem runYK_cond {c : Operand} {x y : Code} : runYK P l h N items (.cond c x y) stk fin s j ov = ((s.ev c).gc ∧ condYK P l h N items x y stk fin s j ov (s.ev c).ung) := congrArg _root_.id rfl
theorem runYK_block {id : Nat} {b : Code} : runYK P l h N items (.block id b) stk fin s j ov = runYK P l h N items b (.block id :: stk) fin s j ov := congrArg _root_.id rfl
theorem runYK_loop {b : Code} : runYK P l h N items (.loop b) stk fin s j ov = LoopY P l h N items b s j ov (contYK P l h N items stk fin) := congrArg _root_.id rfl
theorem runYK_exit {id : Nat} : runYK P l h N items (.exit id) stk fin s j ov = contYK P l h N items stk fin (.exit id) s j ov := congrArg _root_.id rfl
theorem runYK_ret : runYK P l h N items .ret stk fin s j ov = contYK P l h N items stk fin .ret s j ov := congrArg _root_.id rfl
theorem contYK_nil {e : Exit} : contYK P l h N items [] fin e s j ov = fin e s j ov := congrArg _root_.id rfl
theorem contYK_seq {y : Code} : contYK P l h N items (.seq y :: stk) fin .normal s j ov = runYK P l h N items y stk fin s j ov := congrArg _root_.id rfl
theorem contYK_seq_ret {y : Code} : contYK P l h N items (.seq y :: stk) fin .ret s j ov = contYK P l h N items stk fin .ret s j ov := congrArg _root_.id rfl
theorem contYK_seq_exit {y : Code} {i : Nat} : contYK P l h N items (.seq y :: stk) fin (.exit i) s j ov = contYK P l h N items stk fin (.exit i) s j ov := congrArg _root_.id rfl
theorem contYK_block {id : Nat} : contYK P l h N items (.block id :: stk) fin .normal s j ov = contYK P l h N items stk fin .normal s j ov := congrArg _root_.id rfl
theorem contYK_block_ret {id : Nat} : contYK P l h N items (.block id :: stk) fin .ret s j ov = contYK P l h N items stk fin .ret s j ov := congrArg _root_.id rfl
theorem contYK_block_exit {id i : Nat} : contYK P l h N items (.block id :: stk) fin (.exit i) s j ov = if i = id then contYK P l h N items stk fin .normal s j ov else contYK P l h N items stk fin (.exit i) s j ov := by
  show blockY id (contY P l h N items fin stk) (.exit i) s j ov = _
  rfl
theorem runYO_nil : runYO P l h N items [] stk fin s j ov = contYK P l h N items stk fin .normal s j ov := congrArg _root_.id rfl
theorem runYO_cons {o : Oper} {L : List Oper} : runYO P l h N items (o :: L) stk fin s j ov = stepY P l h N items o s j ov (runYO P l h N items L stk fin) := congrArg _root_.id rfl
theorem drawY_k {s : AS} {j : Nat} {ov : Bool} {ops : Array Oper} {K : AS → Nat → Bool → Prop} (p : Plan) (hna : noAlt p = true) (U : List Nat) (hU : ∀ k ∈ U, k < s.h.length) (hok : (Region.noSelect ops && noDefer ops && planOk ops true p (Array.replicate ops.size false) && decide (depth p ≤ ops.size)) = true) (hk : runE P ops U [] noHo p (fun s' => K s' j ov) s) : DrawY P h ops s j ov K :=
  fun _ _ => draw_take p hna U [] hok hU hk
theorem loopY_k (hm : P.follows .mixedOrders = true) {X : Type} {b : Code} {Q : Exit → AS → Nat → Bool → Prop} (st : X → AS) (jx : X → Nat) (μ : X → Nat) (Inv : X → Prop) (x0 : X) (h0 : Inv x0) (hj : jx x0 = j) (hw : WkY h s (st x0)) (round : ∀ x, Inv x → runYK P l h N items b [] (roundY h st jx μ Inv x Q) (st x) (jx x) false) : LoopY P l h N items b s j false Q := loopY_of hm st jx μ Inv x0 h0 hj hw round
theorem aseq0_k {gf : FuncId} {fn : Func} {c : Code} {caps : List AV} {n : Nat} (hm : P.follows .mixedOrders = true) (hf : P.funcs[gf]? = some fn) (hb : fn.body = some c) (hn : fn.ntmps = n) (hrs : fn.results = #[])
    (H : ∀ l, runYK P l h N items c [] (finY N) ⟨.clo (.yield l) [] [] :: (caps ++ anyS (n - (caps.length + 1))), h⟩ 0 false) : ASeq0 P h N items gf caps := aseq0_of hm hf hb hn hrs H
theorem finY_normal : finY N .normal s j ov = ((ov = false → j = N) ∧ (ov = true → 1 ≤ j ∧ j ≤ N)) := congrArg _root_.id rfl
theorem finY_ret : finY N .ret s j ov = ((ov = false → j = N) ∧ (ov = true → 1 ≤ j ∧ j ≤ N)) := congrArg _root_.id rfl
theorem roundY_ret {X : Type} {st : X → AS} {jx : X → Nat} {μ : X → Nat} {Inv : X → Prop} {x : X} {Q : Exit → AS → Nat → Bool → Prop} : roundY h st jx μ Inv x Q .ret s j ov = Q .ret s j ov := congrArg _root_.id rfl
theorem roundY_exit {X : Type} {st : X → AS} {jx : X → Nat} {μ : X → Nat} {Inv : X → Prop} {x : X} {Q : Exit → AS → Nat → Bool → Prop} {i : Nat} : roundY h st jx μ Inv x Q (.exit i) s j ov = Q (.exit i) s j ov := congrArg _root_.id rfl
theorem roundY_next {X : Type} {st : X → AS} {jx : X → Nat} {μ : X → Nat} {Inv : X → Prop} {x : X} {Q : Exit → AS → Nat → Bool → Prop} (x' : X) (h0 : ov = false) (h1 : Inv x') (h2 : μ x' < μ x) (h3 : jx x' = j) (h4 : WkY h s (st x')) : roundY h st jx μ Inv x Q .normal s j ov := ⟨h0, x', h1, h2, h3, h4⟩
end
end Go.Proofs.Ytmgpiminicgbiaa
namespace Go.Proofs.Ytmgpiminicgbiaa
set_option linter.unusedVariables false
set_option linter.unusedSimpArgs false
open Go.ChangeShapes Go.WideShapes Go.ChangeAt Go.RowKit

/-! ## What comes in, as it is known -/
/-- blocks that hold cells -/
def CB (w : World) (b : Nat) : Prop := ∃ cs ty fr, w.heap[b]? = some (.cells cs ty fr)
theorem CB.fc (w : World) (hT : ∀ p ∈ tabB, TabAt w p) : FC (CB w) w := ⟨fun _ h => h, fun p hp => let ⟨cs, ty, fr, h3, h⟩ := hT p hp; ⟨⟨_, ty, fr, h⟩, cs, ty, fr, h3, h⟩⟩
def RepC (w : World) (l : List AV) (cs : List Value) : Prop := ∀ (j : Nat) (u : AV) (v : Value), l[j]? = some u → cs[j]? = some v → RepD (CB w) w u v
structure Opn (P : Program) (t : TypeId) (α : Type) where
  av : α → List AV
  wf : α → Prop
  len : ∀ x, (av x).length = P.cellsOf t
  opn : ∀ {H : Type} (enc : TypeId × Value → H) (w : World) (fuel : Nat) (cs : List Value) (y : DataW H × List MemPlace), DataW.trod enc P w 0 (fun _ => true) true fuel t cs = some y → ∃ x, wf x ∧ cs.length = P.cellsOf t ∧ RepC w (av x) cs
section
variable {P : Program} {t e : TypeId} {α β : Type}
theorem repC_one {w : World} {u : AV} {v : Value} (h : RepD (CB w) w u v) : RepC w [u] [v] := fun j u' v' h1 h2 => by
  cases j with
  | zero => simp at h1 h2; subst h1 h2; exact h
  | succ j => simp at h1
def opnInt (k : IntKind) (ht : P.underlying t = some (.int k)) (hc : P.cellsOf t = 1) : Opn P t Int where
  av n := [.c (.int k n)]
  wf n := (Lit.int k n).wf = true
  len _ := hc.symm
  opn enc w fuel cs y h := by
    obtain ⟨n, rfl, _, hw⟩ := DataW.trod_int ht h
    exact ⟨n, hw, hc.symm, repC_one (.c _)⟩
def opnU8 (ht : P.underlying t = some (.int .u8)) (hc : P.cellsOf t = 1) : Opn P t UInt8 where
  av n := [.c (u8 n)]
  wf _ := True
  len _ := hc.symm
  opn enc w fuel cs y h := by
    obtain ⟨n, rfl, _, hw⟩ := DataW.trod_int ht h
    refine ⟨UInt8.ofNat n.toNat, trivial, hc.symm, repC_one ?_⟩
    have e : u8 (UInt8.ofNat n.toNat) = .int .u8 n := by
      have := bounds_u8 hw
      simp only [u8, UInt8.toNat_ofNat']
      congr 1
      omega
    rw [e]
    exact .c _
def opnBool (ht : P.underlying t = some .bool) (hc : P.cellsOf t = 1) : Opn P t Bool where
  av n := [.c (.bool n)]
  wf _ := True
  len _ := hc.symm
  opn enc w fuel cs y h := by
    obtain ⟨n, rfl, _⟩ := DataW.trod_bool ht h
    exact ⟨n, trivial, hc.symm, repC_one (.c _)⟩
def opnString (ht : P.underlying t = some .string) (hc : P.cellsOf t = 1) : Opn P t ByteArray where
  av s := [.c (.string s)]
  wf s := s.size ≤ maxLen
  len _ := hc.symm
  opn enc w fuel cs y h := by
    obtain ⟨n, rfl, _, hw⟩ := DataW.trod_string ht h
    exact ⟨n, hw, hc.symm, repC_one (.c _)⟩
theorem list_of {p : Nat → α → Prop} (n : Nat) (h : ∀ i, i < n → ∃ x, p i x) : ∃ l : List α, l.length = n ∧ ∀ i x, l[i]? = some x → p i x := by
  induction n with
  | zero => exact ⟨[], rfl, fun i x h => by simp at h⟩
  | succ n ih =>
    obtain ⟨l, h1, h2⟩ := ih fun i hi => h i (by omega)
    obtain ⟨x, hx⟩ := h n (by omega)
    refine ⟨l ++ [x], by simp [h1], fun i y hy => ?_⟩
    rw [List.getElem?_append] at hy
    split at hy
    · exact h2 i y hy
    · rename_i hi
      have : i = n := by
        have := (List.getElem?_eq_some_iff.1 hy).1
        simp at this; omega
      subst this
      simp [h1] at hy
      subst hy
      exact hx
theorem flatMap_get {f : α → List β} {k : Nat} (hf : ∀ x, (f x).length = k) : ∀ (l : List α) (j : Nat) (u : β), (l.flatMap f)[j]? = some u → ∃ x, l[j / k]? = some x ∧ (f x)[j % k]? = some u := by
  intro l
  induction l with
  | nil => intro j u h; simp at h
  | cons x l ih =>
    intro j u h
    rw [List.flatMap_cons, List.getElem?_append] at h
    split at h
    · rename_i hlt
      rw [hf] at hlt
      exact ⟨x, by rw [Nat.div_eq_of_lt hlt]; rfl, by rw [Nat.mod_eq_of_lt hlt]; exact h⟩
    · rename_i hlt
      rw [hf] at hlt h
      have hk : 0 < k := by
        rcases Nat.eq_zero_or_pos k with rfl | h0
        · obtain ⟨y, _, hy⟩ := ih _ u h
          have := (List.getElem?_eq_some_iff.1 hy).1
          rw [hf] at this; omega
        · exact h0
      obtain ⟨y, h1, h2⟩ := ih _ u h
      refine ⟨y, ?_, ?_⟩
      · rw [Nat.div_eq_sub_div hk (by omega), List.getElem?_cons_succ]; exact h1
      · rw [Nat.mod_eq_sub_mod (by omega)]; exact h2
theorem add_addR (a : Addr) (h : a.spot = none) (i j : Nat) : (a.add i).add j = ⟨a.block, a.off + (i + j), none⟩ := by
  obtain ⟨b, o, s⟩ := a
  simp only at h
  subst h
  unfold Addr.add
  split <;> split <;> simp_all <;> omega
def opnSlice (o : Opn P e α) (sz : Nat) (ht : P.underlying t = some (.slice e)) (hc : P.cellsOf t = 1) (hsz : P.cellsOf e = sz) (h0 : 0 < sz) : Opn P t (List α) where
  av l := [.fs sz l.length (l.flatMap o.av)]
  wf l := l.length ≤ maxLen ∧ ∀ x ∈ l, o.wf x
  len _ := hc.symm
  opn enc w fuel cs y h := by
    rcases DataW.trod_slice ht h with ⟨rfl, _⟩ | ⟨a, len, cap, elems, rest, n, _, rfl, _, _, hl, hm, hlen, hel, _, _⟩
    · exact ⟨[], ⟨Nat.zero_le _, by simp⟩, hc.symm, repC_one (by simpa using RepD.fs0 sz none 0 (Nat.zero_le _))⟩
    · obtain ⟨l, l1, l2⟩ := list_of (p := fun i x => o.wf x ∧ ∃ ci, w.cells? 0 (a.add (i * P.cellsOf e)) (P.cellsOf e) = some ci ∧ ci.length = P.cellsOf e ∧ RepC w (o.av x) ci) len fun i hi => by
        have h1 := hel i hi
        rw [List.getElem?_eq_getElem (by omega), Option.bind_eq_some_iff] at h1
        obtain ⟨ci, h2, h3⟩ := h1
        obtain ⟨x, x1, x2, x3⟩ := o.opn enc w n ci _ h3
        exact ⟨x, x1, ci, h2, x2, x3⟩
      refine ⟨l, ⟨by omega, fun x hx => ?_⟩, hc.symm, repC_one ?_⟩
      · obtain ⟨i, hi, rfl⟩ := List.mem_iff_getElem.1 hx
        exact (l2 i _ (List.getElem?_eq_getElem hi)).1
      rcases Nat.eq_zero_or_pos len with hz | hz
      · have : l = [] := List.eq_nil_of_length_eq_zero (by omega)
        subst this
        rw [hz]
        simpa using RepD.fs0 sz (some a) cap hm
      · have hcell : ∀ i, i < len → ∀ r, r < sz → ∃ v, w.cell? ((a.add (i * sz)).add r) = some v ∧ ∀ x u, l[i]? = some x → (o.av x)[r]? = some u → RepD (CB w) w u v := fun i hi r hr => by
          obtain ⟨_, ci, c1, c2, c3⟩ := l2 i l[i] (List.getElem?_eq_getElem (by omega))
          rw [hsz] at c1 c2
          have hv : r < ci.length := by omega
          refine ⟨ci[r], ?_, fun x u hx hu => ?_⟩
          · rw [(World.cells?_some c1).2.2 r hr, List.getElem?_eq_getElem hv]
          · rw [List.getElem?_eq_getElem (by omega)] at hx
            injection hx with hx; subst hx
            exact c3 r u _ hu (List.getElem?_eq_getElem hv)
        obtain ⟨v0, hv0, _⟩ := hcell 0 hz 0 h0
        have hv0 : w.cell? a = some v0 := by simpa [Addr.add] using hv0
        have hspot : a.spot = none := by
          unfold World.cell? at hv0
          split at hv0
          · split at hv0
            · cases hv0
            · rename_i h; simpa using h
          · cases hv0
        have hCB : CB w a.block := by
          unfold World.cell? at hv0
          split at hv0
          · rename_i c ty fr hb; exact ⟨c, ty, fr, hb⟩
          · cases hv0
        have hlen2 : (l.flatMap o.av).length = len * sz := by
          have : ∀ l : List α, (l.flatMap o.av).length = l.length * sz := by
            intro l
            induction l with
            | nil => simp
            | cons x l ih => rw [List.flatMap_cons, List.length_append, o.len, hsz, ih, List.length_cons, Nat.succ_mul]; omega
          rw [this, l1]
        have hdm : ∀ j, j < len * sz → j / sz < len ∧ j % sz < sz ∧ j / sz * sz + j % sz = j := fun j hj => by
          refine ⟨?_, Nat.mod_lt _ h0, by rw [Nat.mul_comm]; exact Nat.div_add_mod j sz⟩
          exact Nat.div_lt_of_lt_mul (by rw [Nat.mul_comm]; exact hj)
        have ha : a = ⟨a.block, a.off, none⟩ := by rw [← hspot]
        rw [ha, l1]
        have hall : ∀ j, ∃ v, j < len * sz → w.cell? ⟨a.block, a.off + j, none⟩ = some v ∧ ∀ u, (l.flatMap o.av)[j]? = some u → RepD (CB w) w u v := fun j => by
          by_cases hj : j < len * sz
          · obtain ⟨d1, d2, d3⟩ := hdm j hj
            obtain ⟨v, h1, h2⟩ := hcell (j / sz) d1 (j % sz) d2
            rw [add_addR a hspot, d3] at h1
            refine ⟨v, fun _ => ⟨h1, fun u hu => ?_⟩⟩
            obtain ⟨x, hx1, hx2⟩ := flatMap_get (k := sz) (fun x => (o.len x).trans hsz) l j u hu
            exact h2 x u hx1 hx2
          · exact ⟨undef, fun h => absurd h hj⟩
        obtain ⟨f, hf⟩ := Classical.axiomOfChoice hall
        refine .fs sz len a.block a.off cap _ f hz hl hm hlen2 hCB (fun j hj => (hf j (by rw [← hlen2]; exact hj)).1) fun j u hu => ?_
        have hj : j < len * sz := by have := (List.getElem?_eq_some_iff.1 hu).1; omega
        exact (hf j hj).2 u hu
/-- fields, one behind the other -/
structure OpnF (P : Program) (fs : List Field) (off : Nat) (α : Type) where
  av : α → List AV
  wf : α → Prop
  tot : Nat
  len : ∀ x, (av x).length = tot
  opn : ∀ {H : Type} (enc : TypeId × Value → H) (w : World) (fuel : Nat) (cs : List Value), (∀ (i : Nat) (f : Field), fs[i]? = some f → ∃ y, DataW.trod enc P w 0 (fun _ => true) true fuel f.type ((cs.drop f.offset).take (P.cellsOf f.type)) = some y) →
    ∃ x, wf x ∧ RepC w (av x) (cs.drop off)
def opnNil (off : Nat) : OpnF P [] off Unit where
  av _ := []
  wf _ := True
  tot := 0
  len _ := rfl
  opn enc w fuel cs h := ⟨(), trivial, fun j u v h => by simp at h⟩
def opnCons {f : Field} {fs : List Field} {off : Nat} (n : Nat) (o : Opn P f.type α) (hn : P.cellsOf f.type = n) (ho : f.offset = off) (r : OpnF P fs (off + n) β) : OpnF P (f :: fs) off (α × β) where
  av x := o.av x.1 ++ r.av x.2
  wf x := o.wf x.1 ∧ r.wf x.2
  tot := n + r.tot
  len x := by rw [List.length_append, o.len, r.len, hn]
  opn enc w fuel cs h := by
    obtain ⟨y, hy⟩ := h 0 f rfl
    obtain ⟨x1, a1, a2, a3⟩ := o.opn enc w fuel _ y hy
    obtain ⟨x2, b1, b2⟩ := r.opn enc w fuel cs fun i g hg => h (i + 1) g hg
    refine ⟨(x1, x2), ⟨a1, b1⟩, fun j u v hu hv => ?_⟩
    rw [List.getElem?_append] at hu
    rw [o.len, hn] at hu
    rw [List.getElem?_drop] at hv
    split at hu
    · rename_i hj
      refine a3 j u v hu ?_
      rw [List.getElem?_take, hn, if_pos hj, List.getElem?_drop, ho]
      exact hv
    · rename_i hj
      refine b2 (j - n) u v hu ?_
      rw [List.getElem?_drop]
      rw [← hv]
      congr 1
      omega
def opnStruct {fs : Array Field} {l : List Field} (ht : P.underlying t = some (.struct fs)) (hl : fs = l.toArray) (r : OpnF P l 0 α) (hc : P.cellsOf t = r.tot) : Opn P t α where
  av := r.av
  wf := r.wf
  len x := (r.len x).trans hc.symm
  opn enc w fuel cs y h := by
    obtain ⟨xs, n, _, _, h1, h2, h3⟩ := DataW.trod_struct ht h
    obtain ⟨x, x1, x2⟩ := r.opn enc w n cs fun i f hf => by
      have hf' : fs[i]? = some f := by rw [hl]; simpa using hf
      rw [h3 i f hf']
      have : i < fs.size := (Array.getElem?_eq_some_iff.1 hf').1
      exact ⟨_, List.getElem?_eq_getElem (by omega)⟩
    exact ⟨x, x1, h1, by simpa using x2⟩
def Opn.map (o : Opn P t α) (f : α → β) (av : β → List AV) (wf : β → Prop) (h1 : ∀ x, av (f x) = o.av x) (h2 : ∀ x, o.wf x → wf (f x)) (h3 : ∀ y, (av y).length = P.cellsOf t) : Opn P t β where
  av := av
  wf := wf
  len := h3
  opn enc w fuel cs y h := by
    obtain ⟨x, x1, x2, x3⟩ := o.opn enc w fuel cs y h
    exact ⟨f x, h2 x x1, x2, by rw [h1]; exact x3⟩
/-- a parameter of one cell -/
theorem Opn.one {H : Type} {enc : TypeId × Value → H} {w : World} {v : Value} {d : DataW H} {ps : List MemPlace} (o : Opn P t α) (h : DataW.Trod enc P w 0 (fun _ => true) true t v d ps) (hv : v.cells = #[v]) : ∃ x, o.wf x ∧ RepC w (o.av x) [v] := by
  obtain ⟨fuel, hf⟩ := h
  obtain ⟨x, x1, _, x3⟩ := o.opn enc w fuel _ _ hf
  exact ⟨x, x1, by rw [hv] at x3; exact x3⟩
/-- a parameter of many -/
theorem Opn.many {H : Type} {enc : TypeId × Value → H} {w : World} {cs : Array Value} {d : DataW H} {ps : List MemPlace} (o : Opn P t α) (h : DataW.Trod enc P w 0 (fun _ => true) true t (.agg cs) d ps) : ∃ x, o.wf x ∧ (o.av x).length = cs.size ∧ RepC w (o.av x) cs.toList := by
  obtain ⟨fuel, hf⟩ := h
  obtain ⟨x, x1, x2, x3⟩ := o.opn enc w fuel _ _ hf
  exact ⟨x, x1, by rw [o.len, ← x2]; simp [Value.cells], by simpa [Value.cells] using x3⟩
def G0 : Gh := ⟨fun _ => 0, fun _ => 0, fun _ => false⟩
theorem repA_one {w : World} {u : AV} {v : Value} (h : RepC w [u] [v]) : RepV G0 [] (CB w) w u v := .d _ _ (h 0 u v rfl rfl)
theorem repA_agg {w : World} {l : List AV} {cs : Array Value} (h0 : l.length = cs.size) (h : RepC w l cs.toList) : RepV G0 [] (CB w) w (.agg l) (.agg cs) := .agg _ _ h0 fun j u v h1 h2 => .d _ _ (h j u v h1 (by simpa using h2))
theorem repL_nil {w : World} : RepL G0 [] (CB w) w [] #[] := ⟨rfl, fun j u v h => by simp at h⟩
theorem repL_cons {w : World} {u : AV} {v : Value} {l : List AV} {vs : List Value} (h : RepV G0 [] (CB w) w u v) (k : RepL G0 [] (CB w) w l vs.toArray) : RepL G0 [] (CB w) w (u :: l) (v :: vs).toArray := by
  refine ⟨by have := k.1; simpa using this, fun j u' v' h1 h2 => ?_⟩
  cases j with
  | zero => simp at h1 h2; subst h1 h2; exact h
  | succ j => exact k.2 j u' v' (by simpa using h1) (by simpa using h2)
/-- the walk of a law, as its statement asks it -/
theorem law_callsT {f : FuncId} {args : List AV} {st : Nat → Bool} (h : ACalls P f args [] st (fun r _ => r = .c (.bool true))) {w : World} {vs : Array Value} (hr : RepL G0 [] (CB w) w args vs) (hT : ∀ p ∈ tabB, TabAt w p) : Calls P f vs w fun e w' => e = .returned (.bool true) ∧ Below w.heap.size w w' := by
  refine (h G0 (CB w) w vs ⟨fun k x hk => by simp at hk, fun j k x y hj => by simp at hj⟩ (CB.fc w hT) hr).mono fun e w' ⟨x, r, h', G', F', he, hf, hv, _, hp⟩ => ?_
  subst hp
  rw [hv.c_inv] at he
  exact ⟨he, hf.mod.below (Nat.le_refl _) fun k ⟨i, y, hi, _⟩ => by simp at hi⟩
theorem law_calls {f : FuncId} {args : List AV} {st : Nat → Bool} (h : ACalls P f args [] st (fun r _ => r = .c (.bool true))) {w : World} {vs : Array Value} (hr : RepL G0 [] (CB w) w args vs) (h0 : tabB = [] := by rfl) : Calls P f vs w fun e w' => e = .returned (.bool true) ∧ Below w.heap.size w w' :=
  law_callsT h hr fun p hp => by rw [h0] at hp; cases hp
end
end Go.Proofs.Ytmgpiminicgbiaa
namespace Go.Proofs.Ytmgpiminicgbiaa
set_option linter.unusedVariables false
set_option linter.unusedSimpArgs false
open Go.RowKit
section
variable {P : Program} {E : Env} {s : AS}
/-- what is known is told with fewer blocks, in another order -/
theorem wk_sel {s' : AS} (keep : List Nat) (t1 : List AV) {t' : List AV} {h' : List AObj} {po pa : Prop} (hE : E.ho = noHo) (ht : wkL [] s.t t1) (ho : convOs keep (fun _ => false) s.h keep = some (po, h')) (ha : AV.convL keep (fun _ => false) s.h t1 = some (pa, t')) (hpo : po) (hpa : pa) (hn : keep.Nodup)
    (hst : ∀ i, i < s.h.length → E.st i = true → keep[i]? = some i) (hl : E.ln0.length ≤ s.h.length) (e1 : t' = s'.t) (e2 : h' = s'.h) : Wk E s s' := by
  refine Wk.trans (s' := ⟨t1, s.h⟩) (wk_of s.h.length 0 rfl hl (List.take_length ..) ?_ (by simpa using ht)) ?_
  · have hd1 : ∀ v : AV, v.liv [] = true := by
      intro v
      refine AV.rec (motive_1 := fun v => v.liv [] = true) (motive_2 := fun l => AV.livL [] l = true) ?_ ?_ ?_ ?_ ?_ ?_ ?_ ?_ ?_ ?_ ?_ ?_ ?_ ?_ v <;> simp_all [AV.liv, AV.livL]
    have hd2 : ∀ l : List AV, AV.livL [] l = true := by
      intro l
      induction l with
      | nil => simp [AV.livL]
      | cons v l ih => simp [AV.livL, hd1 v, ih]
    have hd3 : ∀ (h : List AObj) (n : Nat), livH [] [] n h = true := by
      intro h
      induction h with
      | nil => intro n; simp [livH]
      | cons o h ih =>
        intro n
        simp only [livH, ih, Bool.and_true, Bool.or_eq_true]
        right
        cases o with
        | raw _ => rfl
        | o k cs => cases k <;> simp [livO, hd2]
    simpa using hd3 s.h 0
  · intro a w ⟨G, F, hr⟩
    have hrep : RepV G (lens s.h) F w (.tup t1) (.tuple a.tmps) := .tup _ _ hr.len.symm (fun j u x hu hx => hr.slot j u x hu hx)
    obtain ⟨G', F', hf, hv, hs⟩ := Clean.sel keep (fun _ => false) ho (r := .tup t1) (r' := .tup t') (pa := pa) (by simp [AV.conv, ha]) hpo hpa hn (fun _ _ => rfl) hst E G F w _ hE hr.fin hrep
    obtain ⟨cs, e, g1, g2⟩ := tup_inv hv
    injection e with e; subst e
    obtain ⟨t2, h2⟩ := s'
    simp only at e1 e2
    subst e1 e2
    exact ⟨G', F', ⟨g1.symm, hr.def0.keep fun D _ hD => ⟨fun hF => by obtain ⟨c, t, f, e⟩ := hf.fc D hF; rw [hD] at e; simp at e, rfl⟩, fun i u v hu hv => g2 i u v hu hv, hf.heap, hf.mod, hf.sup, hf.fsup, hf.f0, hf.fc, hr.lat.trans hs⟩⟩
end
end Go.Proofs.Ytmgpiminicgbiaa
namespace Go.Proofs.Ytmgpiminicgbiaa
set_option linter.unusedVariables false
set_option linter.unusedSimpArgs false
open Go.RowKit
/-! ## What is known told otherwise: rows as data, cells as data -/
section
variable {P : Program} {E : Env} {s : AS}
theorem lens_set {h : List AObj} {k : Nat} {x y : AObj} (hk : h[k]? = some x) (hl : lnO y = lnO x) : lens (h.set k y) = lens h := by
  apply List.ext_getElem?
  intro i
  simp only [lens, List.getElem?_map]
  by_cases hi : i = k
  · subst hi
    rw [List.getElem?_set_self (List.getElem?_eq_some_iff.1 hk).1, hk]; simp [hl]
  · rw [List.getElem?_set_ne (Ne.symm hi)]
/-- a cell of a block told otherwise -/
theorem wk_cell (r j : Nat) {kd : AKind} {cs : List AV} {old new : AV} (h0 : s.h[r]? = some (.o kd cs)) (hj : cs[j]? = some old)
    (himp : ∀ G F w v, HRel G F s.h w → RepV G (lens s.h) F w old v → RepV G (lens s.h) F w new v) : Wk E s ⟨s.t, s.h.set r (.o kd (cs.set j new))⟩ := by
  intro a w ⟨G, F, hr⟩
  have hl : lens (s.h.set r (.o kd (cs.set j new))) = lens s.h := lens_set h0 (by simp [lnO])
  have hcr : ∀ {cur : Array Value}, CRel G (lens s.h) F w cs cur → CRel G (lens s.h) F w (cs.set j new) cur := fun {cur} hc i av hi => by
    by_cases hij : i = j
    · subst hij
      rw [List.getElem?_set_self (List.getElem?_eq_some_iff.1 hj).1] at hi
      injection hi with hi; subst hi
      obtain ⟨x, h1, h2⟩ := hc i old hj
      exact ⟨x, h1, himp G F w x hr.heap h2⟩
    · rw [List.getElem?_set_ne (Ne.symm hij)] at hi
      exact hc i av hi
  have hget : ∀ {k : Nat} {x : AObj}, (s.h.set r (.o kd (cs.set j new)))[k]? = some x → (k = r ∧ x = .o kd (cs.set j new)) ∨ (k ≠ r ∧ s.h[k]? = some x) := fun {k x} hk => by
    by_cases hkr : k = r
    · subst hkr
      rw [List.getElem?_set_self (List.getElem?_eq_some_iff.1 h0).1] at hk
      injection hk with hk; exact .inl ⟨rfl, hk.symm⟩
    · rw [List.getElem?_set_ne (Ne.symm hkr)] at hk; exact .inr ⟨hkr, hk⟩
  have hold : ∀ {k : Nat} {x : AObj}, (s.h.set r (.o kd (cs.set j new)))[k]? = some x → ∃ y, s.h[k]? = some y ∧ fzO y = fzO x := fun {k x} hk => by
    rcases hget hk with ⟨rfl, rfl⟩ | ⟨_, hk⟩
    · exact ⟨_, h0, by cases kd <;> rfl⟩
    · exact ⟨x, hk, rfl⟩
  refine ⟨G, F, hr.len, hr.def0, fun i av v h1 h2 => by rw [hl]; exact hr.slot i av v h1 h2, ⟨fun k x hk => ?_, fun j' k x y hj' hk vj vk fj fk he => ?_⟩, hr.mod, fun k x hk hv hf hho => ?_, hr.fsup, hr.f0, hr.fc, by rw [hl]; exact hr.lat⟩
  · rw [hl]
    rcases hget hk with ⟨rfl, rfl⟩ | ⟨_, hk⟩
    · have hob := hr.heap.obj k _ h0
      cases kd with
      | box => obtain ⟨a1, a2, cur, ty, a3, a4, a5, a6⟩ := hob; exact ⟨a1, a2, cur, ty, a3, a4, by simpa using a5, hcr a6⟩
      | row e sz =>
        rcases hob with ⟨a1, a2⟩ | ⟨a1, a2, cur, c, a3, a4, a5, a6, a7, a8⟩
        · subst a2; simp at hj
        · exact .inr ⟨a1, a2, cur, c, a3, a4, a5, a6, by simpa using a7, hcr a8⟩
      | fz =>
        rcases hob with ⟨a1, a2⟩ | ⟨a1, a2, cur, ty, fr, a3, a4, a5, a6⟩
        · subst a2; simp at hj
        · exact .inr ⟨a1, a2, cur, ty, fr, a3, a4, by simpa using a5, hcr a6⟩
    · exact hr.heap.obj k x hk
  · obtain ⟨x', hx', ex⟩ := hold hj'
    obtain ⟨y', hy', ey⟩ := hold hk
    exact hr.heap.inj j' k x' y' hx' hy' vj vk (ex.trans fj) (ey.trans fk) he
  · obtain ⟨x', hx', ex⟩ := hold hk
    exact hr.sup k x' hx' hv (ex.trans hf) hho
/-- a slot told otherwise -/
theorem wk_slot (i : Nat) {old new : AV} (hi : s.t[i]? = some old) (himp : ∀ G F w v, HRel G F s.h w → RepV G (lens s.h) F w old v → RepV G (lens s.h) F w new v) : Wk E s ⟨s.t.set i new, s.h⟩ := by
  intro a w ⟨G, F, hr⟩
  refine ⟨G, F, by simpa using hr.len, hr.def0, fun k av v h1 h2 => ?_, hr.heap, hr.mod, hr.sup, hr.fsup, hr.f0, hr.fc, hr.lat⟩
  by_cases hk : k = i
  · subst hk
    rw [List.getElem?_set_self (List.getElem?_eq_some_iff.1 hi).1] at h1
    injection h1 with h1; subst h1
    exact himp G F w v hr.heap (hr.slot k old v hi h2)
  · rw [List.getElem?_set_ne (Ne.symm hk)] at h1
    exact hr.slot k av v h1 h2
theorem nil_fs0 (sz : Nat) {G : Gh} {F : Nat → Prop} {w : World} {ln : List Nat} {v : Value} (h : RepV G ln F w (.c (.slice none 0 0)) v) : RepV G ln F w (.fs sz 0 []) v := by
  have := h.c_inv
  subst this
  exact .d _ _ (.fs0 sz none 0 (Nat.zero_le _))
/-- a slice of a block that stays is data -/
theorem fz_fs {h : List AObj} {k sz off n m : Nat} {cs : List AV} (hk : h[k]? = some (.o .fz cs)) (hm : cs.length = m) (hn : off + n * sz ≤ m) (hx : n ≤ maxLen) (hd : ((cs.drop off).take (n * sz)).all isD = true) {G : Gh} {F : Nat → Prop} {w : World} {v : Value} (hh : HRel G F h w) (hv : RepV G (lens h) F w (.sl k sz off n m) v) : RepV G (lens h) F w (.fs sz n ((cs.drop off).take (n * sz))) v := by
  refine RepV.conv (lent := []) (ok := fun i => i == k) (Gc := G) (lnc := lens h) (Fc := F) hh (fun i k h => by simp at h) (fun _ h => h) (fun k' kd cs' h1 h2 h3 => ?_) hv (q := cs.length = m ∧ off + n * sz ≤ m ∧ n ≤ maxLen ∧ ((cs.drop off).take (n * sz)).all isD = true) (av' := .fs sz n ((cs.drop off).take (n * sz))) ?_ ⟨hm, hn, hx, hd⟩
  · have e : k' = k := by simpa using h2
    subst e
    rw [hk] at h1; injection h1 with h1; injection h1 with h1 h1'; subst h1 h1'
    rcases hh.obj k' _ hk with ⟨g1, _⟩ | ⟨_, g1, _⟩
    · rw [h3] at g1; cases g1
    · exact g1
  · simp [AV.conv, idx, cellsH, hk]
/-- a row stays as it is from now on -/
theorem wk_fz (k : Nat) {e sz : Nat} {cs : List AV} (hk : s.h[k]? = some (.o (.row e sz) cs)) (hho : E.ho k = false) : Wk E s ⟨s.t, s.h.set k (.o .fz cs)⟩ := by
  intro a w ⟨G, F, hr⟩
  have hl : lens (s.h.set k (.o .fz cs)) = lens s.h := lens_set hk (by simp [lnO])
  have hget : ∀ {j : Nat} {x : AObj}, (s.h.set k (.o .fz cs))[j]? = some x → (j = k ∧ x = .o .fz cs) ∨ (j ≠ k ∧ s.h[j]? = some x) := fun {j x} hj => by
    by_cases hjk : j = k
    · subst hjk
      rw [List.getElem?_set_self (List.getElem?_eq_some_iff.1 hk).1] at hj
      injection hj with hj; exact .inl ⟨rfl, hj.symm⟩
    · rw [List.getElem?_set_ne (Ne.symm hjk)] at hj; exact .inr ⟨hjk, hj⟩
  have hinj : ∀ (j' k' : Nat) (x y : AObj), (s.h.set k (.o .fz cs))[j']? = some x → (s.h.set k (.o .fz cs))[k']? = some y → G.vir j' = false → G.vir k' = false → fzO x = false → fzO y = false → G.σ j' = G.σ k' → j' = k' := fun j' k' x y hj' hk' vj vk fj fk he => by
    rcases hget hj' with ⟨_, rfl⟩ | ⟨_, hj'⟩
    · cases fj
    rcases hget hk' with ⟨_, rfl⟩ | ⟨_, hk'⟩
    · cases fk
    exact hr.heap.inj j' k' x y hj' hk' vj vk fj fk he
  rcases hr.heap.obj k _ hk with ⟨g1, g2⟩ | ⟨g1, g2, cur, c, g3, g4, g5, g6, g7, g8⟩
  · refine ⟨G, F, hr.len, hr.def0, fun i av v h1 h2 => by rw [hl]; exact hr.slot i av v h1 h2, ⟨fun j x hj => ?_, hinj⟩, hr.mod, fun j x hj hv hf hh => ?_, hr.fsup, hr.f0, hr.fc, by rw [hl]; exact hr.lat⟩
    · rw [hl]
      rcases hget hj with ⟨rfl, rfl⟩ | ⟨_, hj⟩
      · exact .inl ⟨g1, g2⟩
      · exact hr.heap.obj j x hj
    · rcases hget hj with ⟨rfl, rfl⟩ | ⟨_, hj⟩
      · cases hf
      · exact hr.sup j x hj hv hf hh
  · have hF : ∀ b, F b → F b ∨ b = G.σ k := fun b h => .inl h
    have hlt := Later.refl G (lens s.h)
    have hb : w.heap[G.σ k]? = some (.cells cur e (0, 0)) := g3
    refine ⟨G, fun b => F b ∨ b = G.σ k, hr.len, hr.def0.keep fun D h1 h2 => ⟨fun h => h.elim h1 (fun e => by subst e; rw [hb] at h2; cases h2), rfl⟩, fun i av v h1 h2 => by rw [hl]; exact (hr.slot i av v h1 h2).keep hlt hF fun _ _ => rfl, ⟨fun j x hj => ?_, hinj⟩, hr.mod, fun j x hj hv hf hh => ?_, fun b h => ?_, fun b h => .inl (hr.f0 b h), hr.fc.more hF (fun _ _ => rfl) fun b h => ?_, by rw [hl]; exact hr.lat⟩
    · rw [hl]
      rcases hget hj with ⟨rfl, rfl⟩ | ⟨hjk, hj⟩
      · exact .inr ⟨g1, .inr rfl, cur, e, (0, 0), hb, g4, by rw [g4]; exact g7, g8.keep hlt hF fun _ _ => rfl⟩
      · exact (hr.heap.obj j x hj).keep hlt hF (fun _ _ => rfl) ⟨rfl, rfl, rfl⟩ (fun _ => rfl) fun hv hf h => h.elim (hr.heap.nfz hj hv hf) fun e => hjk (hr.heap.inj j k x _ hj hk hv g1 hf rfl e)
    · rcases hget hj with ⟨rfl, rfl⟩ | ⟨_, hj⟩
      · cases hf
      · exact hr.sup j x hj hv hf hh
    · rcases h with h | rfl
      · exact hr.fsup b h
      · rcases hr.sup k _ hk g1 rfl hho with h | h
        · exact .inr (.inl h)
        · exact .inr (.inr h)
    · rcases h with h | rfl
      · exact hr.fc b h
      · exact ⟨cur, e, (0, 0), hb⟩
/-- a row is handed on as data: cell j of block r, which was a slice of row k -/
theorem wk_data (r j k : Nat) {kd : AKind} {cs l : List AV} {e sz n m : Nat} (hho : E.ho k = false) (hrk : r ≠ k) (h0 : s.h[r]? = some (.o kd cs)) (hj : cs[j]? = some (.sl k sz 0 n m)) (hk : s.h[k]? = some (.o (.row e sz) l)) (hm : l.length = m) (hn : n * sz = m) (hx : n ≤ maxLen) (hd : l.all isD = true) :
    Wk E s ⟨s.t, (s.h.set k (.o .fz l)).set r (.o kd (cs.set j (.fs sz n l)))⟩ := by
  refine Wk.trans (wk_fz k hk hho) ?_
  have h1 : (s.h.set k (.o .fz l))[r]? = some (.o kd cs) := by rw [List.getElem?_set_ne (Ne.symm hrk)]; exact h0
  have h2 : (s.h.set k (.o .fz l))[k]? = some (.o .fz l) := List.getElem?_set_self (List.getElem?_eq_some_iff.1 hk).1
  have e1 : (l.drop 0).take (n * sz) = l := by rw [List.drop_zero, List.take_of_length_le (by omega)]
  refine wk_cell r j h1 hj fun G F w v hh hv => ?_
  have := fz_fs (off := 0) h2 hm (by omega) hx (by rw [e1]; exact hd) hh hv
  rw [e1] at this
  exact this
/-- first the blocks are told otherwise -/
theorem Clean.wkh {st : Nat → Bool} {h h2 h' : List AObj} {r r2 r' : AV} (hw : ∀ E : Env, E.ho = noHo → E.ln0 = lens h → Wk E ⟨[r], h⟩ ⟨[r2], h2⟩) (hc : Clean st h2 r2 h' r') : Clean st h r h' r' := by
  intro E G F w x hE hf hrep
  have hr : Rel ⟨E.w0, E.L, E.F0, G, lens h, allSt, E.ho, E.mks⟩ G F ⟨[r], h⟩ ⟨#[x], []⟩ w := Rel.mk' ⟨hf.heap, hf.mod, hf.sup, hf.fsup, hf.f0, hf.fc⟩ rfl rfl (fun i av v h1 h2 => by
    cases i with
    | zero => simp at h1 h2; subst h1 h2; exact hrep
    | succ i => simp at h1) ((Later.refl _ _).same _)
  obtain ⟨G2, F2, hr2⟩ := hw ⟨E.w0, E.L, E.F0, G, lens h, allSt, E.ho, E.mks⟩ hE rfl _ w ⟨G, F, hr⟩
  have hrep2 := hr2.slot 0 r2 x rfl rfl
  obtain ⟨G', F', c1, c2, c3⟩ := hc E G2 F2 w x hE ⟨hr2.heap, hr2.mod, hr2.sup, hr2.fsup, hr2.f0, hr2.fc⟩ hrep2
  exact ⟨G', F', c1, c2, fun k m hs hm => by
    rcases hr2.lat k m rfl hm with ⟨e1, e2, e3, e4⟩ | ⟨m', e1, e2⟩
    · rcases c3 k m hs e1 with ⟨f1, f2, f3, f4⟩ | ⟨m', f1, f2⟩
      · exact .inl ⟨f1, f2.trans e2, f3.trans e3, f4.trans e4⟩
      · exact .inr ⟨m', f1, f2⟩
    · rcases c3 k m' hs e1 with ⟨f1, _⟩ | ⟨m'', f1, f2⟩
      · exact .inr ⟨m', f1, e2⟩
      · exact .inr ⟨m'', f1, Nat.lt_trans e2 f2⟩⟩
theorem Ret.wkh {st : Nat → Bool} {h h2 : List AObj} {r r2 : AV} {Post : AV → List AObj → Prop} (hw : ∀ E : Env, E.ho = noHo → E.ln0 = lens h → Wk E ⟨[r], h⟩ ⟨[r2], h2⟩) (hr : Ret st Post h2 r2) : Ret st Post h r := let ⟨h', r', hc, hp⟩ := hr; ⟨h', r', Clean.wkh hw hc, hp⟩
end
end Go.Proofs.Ytmgpiminicgbiaa
