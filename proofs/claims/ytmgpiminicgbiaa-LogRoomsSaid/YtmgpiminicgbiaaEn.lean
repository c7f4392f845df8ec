import Derived.Test.YtmgpiminicgbiaaEm
namespace Go.Proofs.Ytmgpiminicgbiaa
set_option linter.unusedVariables false
set_option linter.unusedSimpArgs false
open Go.RowKit

/-! ## A region that draws its order -/
section
variable {P : Program} {ops : Array Oper} {N : Act → World → Prop}
def wpAnyG (P : Program) (ops : Array Oper) (N : Act → World → Prop) (H : Nat → Nat → Prop) : Nat → Array Bool → (Nat → Prop) → Act → World → Prop
  | 0, listed, _, a, w => Region.ready .any ops listed = [] ∧ N a w
  | fuel + 1, listed, Z, a, w => (Region.ready .any ops listed = [] → N a w) ∧
    ∀ i ∈ Region.ready .any ops listed, wpOpB P ops i (fun a' w' => ∃ Z' : Nat → Prop, (∀ b, Z b → Z' b ∧ w'.heap[b]? = w.heap[b]?) ∧ (∀ b, H i b → w'.heap[b]? = w.heap[b]?) ∧ wpAnyG P ops N H fuel (listed.setIfInBounds i true) Z' a' w') a w
theorem wpAny_of_G {H : Nat → Nat → Prop} : ∀ (fuel : Nat) (listed : Array Bool) (Z : Nat → Prop) (a : Act) (w : World), wpAnyG P ops N H fuel listed Z a w → wpAnyB P ops N fuel listed a w
  | 0, _, _, _, _, h => h
  | fuel + 1, _, _, _, _, h => ⟨h.1, fun i hi => wpOpB_mono (fun a' w' ⟨Z', _, _, h'⟩ => wpAny_of_G fuel _ Z' a' w' h') (h.2 i hi)⟩
def noDefer (ops : Array Oper) : Bool := ops.toList.all fun o => match o.op with | .defer _ => false | _ => true
theorem noDefer_at {ops : Array Oper} (h : noDefer ops = true) {i : Nat} {o : Oper} (hi : ops[i]? = some o) : ∀ c, o.op ≠ .defer c := by
  intro c hc
  have := List.all_eq_true.1 h o (by obtain ⟨hl, e⟩ := Array.getElem?_eq_some_iff.1 hi; rw [← e]; simp)
  rw [hc] at this; cases this
theorem _root_.Go.YieldsIf.opB {S : World → Prop} {i : Nat} {o : Oper} {v : Value} {a : Act} (hd : ∀ c, o.op ≠ .defer c) (hi : ops[i]? = some o) (hy : YieldsIf P ops S o v a) {K : Act → World → Prop} {w : World} (hS : S w) (h : K (a.put o.dst v) w) : wpOpB P ops i K a w := by
  unfold wpOpB
  simp only [hi]
  rcases hy with ⟨hw, hv⟩ | ⟨hw, rfl⟩
  · rw [if_pos hw]
    refine ⟨hd, ?_⟩
    rw [hv w hS]
    exact h
  · rw [if_neg (by rw [hw]; decide)]; exact h
theorem wpOpB_putIf {S : World → Prop} {j : Nat} {oi oj : Oper} {v : Value} (hj : ops[j]? = some oj) (hap : oi.apart ops oj = true)
    (hsi : ∀ cs b, oi.op ≠ .select cs b) (hsj : ∀ cs b, oj.op ≠ .select cs b) {K : Act → World → Prop} {a : Act} {w : World}
    (hy : YieldsIf P ops S oi v a) (h : wpOpB P ops j K (a.put oi.dst v) w) :
    wpOpB P ops j (fun a' w' => YieldsIf P ops S oi v a' ∧ K (a'.put oi.dst v) w') a w := by
  obtain ⟨h1, h2, h3⟩ := Oper.apart_spec hap
  have keep : ∀ (a : Act), YieldsIf P ops S oi v a → ∀ u, YieldsIf P ops S oi v (a.put oj.dst u) := fun a hy u =>
    hy.of_same (execOp_put oi hsi a oj.dst u h3) (wanted_put oi a oj.dst u h3)
  unfold wpOpB at *
  simp only [hj] at *
  rw [wanted_put oj a oi.dst v h1] at h
  split
  · rename_i hw
    rw [if_pos hw] at h
    obtain ⟨hd, h⟩ := h
    refine ⟨hd, ?_⟩
    rw [execOp_put oj hsj a oi.dst v h1] at h
    generalize (execOp a.eval oj).run P w = r at *
    unfold upB at *
    split at h
    · exact ⟨keep a hy _, by rw [← Act.put_comm a v _ h2]; exact h⟩
    · exact ⟨keep a hy _, by rw [← Act.put_comm a v undef h2]; exact h⟩
    · exact h.mono fun e w' ⟨u, he, hn⟩ => ⟨u, he, keep a hy u, by rw [← Act.put_comm a v u h2]; exact hn⟩
    · cases h
  · rename_i hw
    rw [if_neg hw] at h
    exact ⟨keep a hy _, by rw [← Act.put_comm a v undef h2]; exact h⟩
def SameZ (Z : Nat → Prop) (w w' : World) : Prop := ∀ b, Z b → w'.heap[b]? = w.heap[b]?
theorem wpAnyG_first {H : Nat → Nat → Prop} {R : Nat → Prop} {i : Nat} {oi : Oper} {v : Value} (hi : ops[i]? = some oi) (hsel : ∀ (j : Nat) (o : Oper) cs b, ops[j]? = some o → o.op ≠ .select cs b) (hd : ∀ c, oi.op ≠ .defer c)
    (hR : ∀ j oj, ops[j]? = some oj → j ≠ i → (∀ e ∈ oj.after, Region.binds .any e = true → e.on ≠ i) → ∀ b, R b → H j b) :
    ∀ (fuel : Nat) (listed : Array Bool) (Z : Nat → Prop) (a : Act) (w : World),
      (∀ j oj, ops[j]? = some oj → j ≠ i → listed.getD j true = false → (∀ e ∈ oj.after, Region.binds .any e = true → e.on ≠ i) → oi.apart ops oj = true) →
      i ∈ Region.ready .any ops listed → YieldsIf P ops (SameZ (fun b => Z b ∨ R b) w) oi v a →
      wpAnyG P ops N H fuel (listed.setIfInBounds i true) Z (a.put oi.dst v) w → wpAnyG P ops N H (fuel + 1) listed Z a w := by
  intro fuel
  induction fuel with
  | zero =>
    intro listed Z a w _ hr hy hG
    refine ⟨fun h => (by rw [h] at hr; cases hr), fun j hj => ?_⟩
    by_cases hji : j = i
    · subst hji; exact hy.opB hd hi (fun _ _ => rfl) ⟨Z, fun b hb => ⟨hb, rfl⟩, fun _ _ => rfl, hG⟩
    · have := ready_mono hj hji
      rw [hG.1] at this
      cases this
  | succ fuel ih =>
    intro listed Z a w hfree hr hy hG
    refine ⟨fun h => (by rw [h] at hr; cases hr), fun j hj => ?_⟩
    by_cases hji : j = i
    · subst hji; exact hy.opB hd hi (fun _ _ => rfl) ⟨Z, fun b hb => ⟨hb, rfl⟩, fun _ _ => rfl, hG⟩
    · have h1 := hG.2 j (ready_mono hj hji)
      obtain ⟨hjun, oj, hoj, hall⟩ := mem_ready.1 hj
      have hnot : ∀ e ∈ oj.after, Region.binds .any e = true → e.on ≠ i := fun e he hb heq => by
        have h1 := hall e he hb
        have h0 := (mem_ready.1 hr).1
        rw [heq] at h1
        rcases Nat.lt_or_ge i listed.size with h' | h'
        · simp [h'] at h0 h1; rw [h0] at h1; cases h1
        · simp [Array.getElem?_eq_none h'] at h1
      have h2 := wpOpB_putIf hoj (hfree j oj hoj hji hjun hnot) (fun cs b => hsel i oi cs b hi) (fun cs b => hsel j oj cs b hoj) hy h1
      have hfree' : ∀ k ok, ops[k]? = some ok → k ≠ i → (listed.setIfInBounds j true).getD k true = false →
          (∀ e ∈ ok.after, Region.binds .any e = true → e.on ≠ i) → oi.apart ops ok = true := fun k ok hk hki hun hno => by
        refine hfree k ok hk hki ?_ hno
        by_cases hjk : j = k
        · subst hjk; exact hjun
        · rw [getD_set_ne true hjk] at hun; exact hun
      refine wpOpB_mono (fun a' w' ⟨h3, Z', h4, h4', h5⟩ => ⟨Z', h4, h4', ih (listed.setIfInBounds j true) Z' a' w' hfree' (ready_mono hr (Ne.symm hji)) ?_ ?_⟩) h2
      · refine h3.imp (fun ⟨g1, g2⟩ => ⟨g1, fun w'' hw => g2 w'' fun b hb => ?_⟩) id
        rcases hb with hb | hb
        · exact (hw b (.inl (h4 b hb).1)).trans (h4 b hb).2
        · exact (hw b (.inr hb)).trans (h4' b (hR j oj hoj hji hnot b hb))
      · rw [Array.setIfInBounds_comm _ _ hji]
        exact h5
end
inductive Plan where
  | done
  | take (i : Nat) (p : Plan)
  | alt (i : Nat) (p q : Plan)
  | nil
def altIx : Plan → List Nat
  | .alt i _ q => i :: altIx q
  | _ => []
def planOk (ops : Array Oper) : Bool → Plan → Array Bool → Bool
  | _, .done, l => (Region.ready .any ops l).isEmpty
  | _, .take i p, l => Region.free .any ops l i && (Region.ready .any ops l).contains i && planOk ops true p (l.setIfInBounds i true)
  | hd, .alt i p q, l => (!hd || Region.ready .any ops l == i :: altIx q) && planOk ops true p (l.setIfInBounds i true) && (match q with | .nil => true | _ => planOk ops false q l)
  | hd, .nil, _ => !hd
def takeP (P : Program) (ro : List Nat) (ops : Array Oper) (o : Oper) (s : AS) (K : AS → Prop) : Prop :=
  match pureV P (fun k => ro.contains k) s o.op with
  | some q => match o.guard with
    | none => q.1 ∧ K (s.put o.dst q.2)
    | some (j, want) => match guardV ops s j want with
      | some c => (c = true → q.1) ∧ K (s.put o.dst (mkG c q.2))
      | none => False
  | none => False
def allSt : Nat → Bool := fun _ => true
def heldOk (ro : List Nat) (s s' : AS) : Prop := ∀ k ∈ ro, (lens s'.h)[k]? = (lens s.h)[k]?
/-- what operation j may turn -/
def wrOf (wr : List (Nat × List Nat)) (j : Nat) : List Nat := wr.flatMap fun p => if p.1 = j then p.2 else []
def holdOf (U : List Nat) (wr : List (Nat × List Nat)) (j : Nat) : List Nat := U.filter fun k => !(wrOf wr j).contains k
/-- what operation i may read ahead of its turn -/
def roOf (ops : Array Oper) (U : List Nat) (wr : List (Nat × List Nat)) (i : Nat) : List Nat :=
  U.filter fun k => wr.all fun p => !p.2.contains k || p.1 == i || (match ops[p.1]? with | some o => o.after.any fun e => Region.binds .any e && e.on == i | none => true)
def altK (U : List Nat) (s : AS) (K : AS → Prop) (s' : AS) : Prop := heldOk U s s' ∧ K s'
def runD (P : Program) (ops : Array Oper) (U : List Nat) (wr : List (Nat × List Nat)) (ho0 : Nat → Bool) : Plan → AS → (AS → Prop) → Prop
  | .done, s, K => K s
  | .take i p, s, K => match ops[i]? with
    | some o => takeP P (roOf ops U wr i) ops o s (swapK (runD P ops U wr ho0 p) K)
    | none => False
  | .alt i p q, s, K => (match ops[i]? with
    | some o => ∀ E : Env, stepP P ⟨E.w0, E.L, E.F0, E.G0, lens s.h, allSt, fun k => (holdOf U wr i).contains k || ho0 k, E.mks⟩ ops o s (altK U s (swapK (runD P ops U wr ho0 p) K))
    | none => False) ∧ runD P ops U wr ho0 q s K
  | .nil, _, _ => True
section
variable {P : Program} {E : Env} {s : AS} {ops : Array Oper}
def liveB (G : Gh) (h : List AObj) (ro : List Nat) (b : Nat) : Prop := ∃ k x, h[k]? = some x ∧ G.vir k = false ∧ fzO x = false ∧ k ∉ ro ∧ b = G.σ k
def reE (mks : Nat → Prop) (G : Gh) (F : Nat → Prop) (s : AS) (w : World) (ro : List Nat) : Env := ⟨w, liveB G s.h ro, F, G, lens s.h, allSt, fun k => ro.contains k, mks⟩
theorem rebase {G : Gh} {F : Nat → Prop} {a : Act} {w : World} (hr : Rel E G F s a w) (ro : List Nat) : Rel (reE E.mks G F s w ro) G F s a w :=
  ⟨hr.len, hr.def0, hr.slot, hr.heap, Mod.refl _ _, fun k x hk hv hf hh => .inl ⟨k, x, hk, hv, hf, by simpa [reE] using hh, rfl⟩, fun b hb => .inl hb, fun b hb => hb, hr.fc, (Later.refl _ _).same _⟩
theorem unbase (hE : E.ho = noHo) {G G' : Gh} {F F' : Nat → Prop} {a a' : Act} {w w' : World} {s' : AS} {ro : List Nat} (hro : ∀ k ∈ ro, k < s.h.length) (hr : Rel E G F s a w) (h : Rel (reE E.mks G F s w ro) G' F' s' a' w') (hh : heldOk ro s s') : Rel E G' F' s' a' w' := by
  have hL : ∀ b, liveB G s.h ro b → E.L b ∨ E.w0.heap.size ≤ b := fun b ⟨k, x, hk, hv, hf, _, hb⟩ => by rw [hb]; exact hr.sup k x hk hv hf (by rw [hE]; rfl)
  have hws : E.w0.heap.size ≤ w.heap.size := hr.mod.size
  refine ⟨h.len, h.def0, h.slot, h.heap, hr.mod.mod h.mod fun i hi hl => (hL i hl).resolve_right (by omega), fun k x hk hv hf _ => ?_, fun b hb => ?_, fun b hb => h.f0 b (hr.f0 b hb), h.fc, hr.lat.trans fun k m _ hm => h.lat k m rfl hm⟩
  · by_cases hkr : k ∈ ro
    · have hkl := hro k hkr
      have hm : (lens s.h)[k]? = some (lnO s.h[k]) := by simp [lens, hkl]
      obtain ⟨y, hy⟩ : ∃ y, s.h[k]? = some y := ⟨_, List.getElem?_eq_getElem hkl⟩
      rcases h.lat k _ rfl hm with ⟨e1, e2, e3, e4⟩ | ⟨m', e1, e2⟩
      · rw [e2]
        by_cases hfy : fzO y = false
        · exact hr.sup k y hy (e4 ▸ hv) hfy (by rw [hE]; rfl)
        · -- a frozen one stays so
          have hob := hr.heap.obj k y hy
          cases y with
          | it s pos => exact absurd rfl hfy
          | o kd cs =>
            cases kd with
            | box => exact absurd rfl hfy
            | row e sz => exact absurd rfl hfy
            | fz =>
              rcases hob with ⟨g1, _⟩ | ⟨_, g1, _⟩
              · have : G.vir k = false := e4 ▸ hv
                rw [this] at g1; cases g1
              · exact absurd (h.f0 _ g1) (by have := h.heap.nfz hk hv hf; rw [e2] at this; exact this)
      · have := (hh k hkr).symm.trans e1
        rw [hm] at this; injection this with this; omega
    · rcases h.sup k x hk hv hf (by simpa [reE] using hkr) with h1 | h1
      · exact hL _ h1
      · have h2 : w.heap.size ≤ G'.σ k := h1
        exact .inr (by omega)
  · rcases h.fsup b hb with h1 | h1 | h1
    · exact hr.fsup b h1
    · rcases hL b h1 with h2 | h2
      · exact .inr (.inl h2)
      · exact .inr (.inr h2)
    · have h2 : w.heap.size ≤ b := h1
      exact .inr (.inr (by omega))
def liveH (G : Gh) (h : List AObj) (ro : List Nat) (ho0 : Nat → Bool) (b : Nat) : Prop := ∃ k x, h[k]? = some x ∧ G.vir k = false ∧ fzO x = false ∧ (ro.contains k || ho0 k) = false ∧ b = G.σ k
def reH (mks : Nat → Prop) (G : Gh) (F : Nat → Prop) (s : AS) (w : World) (ro : List Nat) (ho0 : Nat → Bool) : Env := ⟨w, liveH G s.h ro ho0, F, G, lens s.h, allSt, fun k => ro.contains k || ho0 k, mks⟩
theorem rebaseH {G : Gh} {F : Nat → Prop} {a : Act} {w : World} (hr : Rel E G F s a w) (ro : List Nat) (ho0 : Nat → Bool) : Rel (reH E.mks G F s w ro ho0) G F s a w :=
  ⟨hr.len, hr.def0, hr.slot, hr.heap, Mod.refl _ _, fun k x hk hv hf hh => .inl ⟨k, x, hk, hv, hf, hh, rfl⟩, fun b hb => .inl hb, fun b hb => hb, hr.fc, (Later.refl _ _).same _⟩
theorem unbaseH {G G' : Gh} {F F' : Nat → Prop} {a a' : Act} {w w' : World} {s' : AS} {ro : List Nat} (hro : ∀ k ∈ ro, k < s.h.length) (hr : Rel E G F s a w) (h : Rel (reH E.mks G F s w ro E.ho) G' F' s' a' w') (hh : heldOk ro s s') : Rel E G' F' s' a' w' := by
  have hL : ∀ b, liveH G s.h ro E.ho b → E.L b ∨ E.w0.heap.size ≤ b := fun b ⟨k, x, hk, hv, hf, hn, hb⟩ => by rw [hb]; exact hr.sup k x hk hv hf (by simp only [Bool.or_eq_false_iff] at hn; exact hn.2)
  have hws : E.w0.heap.size ≤ w.heap.size := hr.mod.size
  refine ⟨h.len, h.def0, h.slot, h.heap, hr.mod.mod h.mod fun i hi hl => (hL i hl).resolve_right (by omega), fun k x hk hv hf hnh => ?_, fun b hb => ?_, fun b hb => h.f0 b (hr.f0 b hb), h.fc, hr.lat.trans fun k m _ hm => h.lat k m rfl hm⟩
  · by_cases hkr : k ∈ ro
    · have hkl := hro k hkr
      have hm : (lens s.h)[k]? = some (lnO s.h[k]) := by simp [lens, hkl]
      obtain ⟨y, hy⟩ : ∃ y, s.h[k]? = some y := ⟨_, List.getElem?_eq_getElem hkl⟩
      rcases h.lat k _ rfl hm with ⟨e1, e2, e3, e4⟩ | ⟨m', e1, e2⟩
      · rw [e2]
        by_cases hfy : fzO y = false
        · exact hr.sup k y hy (e4 ▸ hv) hfy hnh
        · -- a frozen one stays so
          have hob := hr.heap.obj k y hy
          cases y with
          | it s pos => exact absurd rfl hfy
          | o kd cs =>
            cases kd with
            | box => exact absurd rfl hfy
            | row e sz => exact absurd rfl hfy
            | fz =>
              rcases hob with ⟨g1, _⟩ | ⟨_, g1, _⟩
              · have : G.vir k = false := e4 ▸ hv
                rw [this] at g1; cases g1
              · exact absurd (h.f0 _ g1) (by have := h.heap.nfz hk hv hf; rw [e2] at this; exact this)
      · have := (hh k hkr).symm.trans e1
        rw [hm] at this; injection this with this; omega
    · rcases h.sup k x hk hv hf (by simp only [reH, Bool.or_eq_false_iff]; exact ⟨by simpa using hkr, hnh⟩) with h1 | h1
      · exact hL _ h1
      · have h2 : w.heap.size ≤ G'.σ k := h1
        exact .inr (by omega)
  · rcases h.fsup b hb with h1 | h1 | h1
    · exact hr.fsup b h1
    · rcases hL b h1 with h2 | h2
      · exact .inr (.inl h2)
      · exact .inr (.inr h2)
    · have h2 : w.heap.size ≤ b := h1
      exact .inr (.inr (by omega))
/-- the blocks that an operation holds: as they lay when the region began -/
def Hs (G : Gh) (h : List AObj) (l : List Nat) (b : Nat) : Prop := ∃ k x, h[k]? = some x ∧ k ∈ l ∧ G.vir k = false ∧ b = G.σ k
/-- these handles lie where they lay -/
def StayU (U : List Nat) (G0 G : Gh) (h0 h : List AObj) : Prop := ∀ k ∈ U, (lens h)[k]? = (lens h0)[k]? ∧ G.σ k = G0.σ k ∧ G.vir k = G0.vir k
def depth : Plan → Nat
  | .take _ p => depth p + 1
  | .alt _ p q => max (depth p + 1) (depth q)
  | _ => 0
/-- a plan of takes alone -/
def noAlt : Plan → Bool
  | .done => true
  | .take _ p => noAlt p
  | _ => false
theorem contains_iff (ro : List Nat) (k : Nat) : ro.contains k = true ↔ k ∈ ro := by simp
theorem runD_sound (hsel : Region.noSelect ops = true) (hdf : noDefer ops = true) {K : AS → Prop} {N : Act → World → Prop} (hQ : ∀ s' a' w', Sat E s' a' w' → K s' → N a' w') (U : List Nat) (wr : List (Nat × List Nat)) (ho0 : Nat → Bool) (G0 : Gh) (h0 : List AObj) (hU : ∀ k ∈ U, k < h0.length) :
    ∀ (p : Plan), (E.ho = ho0 ∨ noAlt p = true) →
      (∀ (fuel : Nat) (listed : Array Bool) (t : AS) (a : Act) (w : World) (G : Gh) (F : Nat → Prop), depth p ≤ fuel → planOk ops true p listed = true → Rel E G F t a w → StayU U G0 G h0 t.h → runD P ops U wr ho0 p t K →
        wpAnyG P ops N (fun j => Hs G0 h0 (holdOf U wr j)) fuel listed F a w) ∧
      (∀ (fuel : Nat) (listed : Array Bool) (t : AS) (a : Act) (w : World) (G : Gh) (F : Nat → Prop) (hd : Bool), depth p ≤ fuel + 1 → planOk ops hd p listed = true → Rel E G F t a w → StayU U G0 G h0 t.h → runD P ops U wr ho0 p t K →
        ∀ j ∈ altIx p, wpOpB P ops j (fun a' w' => ∃ Z' : Nat → Prop, (∀ b, F b → Z' b ∧ w'.heap[b]? = w.heap[b]?) ∧ (∀ b, Hs G0 h0 (holdOf U wr j) b → w'.heap[b]? = w.heap[b]?) ∧ wpAnyG P ops N (fun j => Hs G0 h0 (holdOf U wr j)) fuel (listed.setIfInBounds j true) Z' a' w') a w) := by
  intro p
  induction p with
  | done =>
    intro hE
    refine ⟨fun fuel listed t a w G F _ hok hr _ hrun => ?_, fun _ _ _ _ _ _ _ _ _ _ _ _ _ j hj => by simp [altIx] at hj⟩
    have hq := hQ t a w ⟨G, F, hr⟩ hrun
    simp only [planOk, List.isEmpty_iff] at hok
    cases fuel with
    | zero => exact ⟨hok, hq⟩
    | succ n => exact ⟨fun _ => hq, fun i hi => by rw [hok] at hi; cases hi⟩
  | nil => intro hE; exact ⟨fun _ _ _ _ _ _ _ _ hok => by simp [planOk] at hok, fun _ _ _ _ _ _ _ _ _ _ _ _ _ j hj => by simp [altIx] at hj⟩
  | take i p ih =>
    intro hE
    have ih := ih hE
    refine ⟨fun fuel listed t a w G F hdep hok hr hst hrun => ?_, fun _ _ _ _ _ _ _ _ _ _ _ _ _ j hj => by simp [altIx] at hj⟩
    simp only [depth] at hdep
    simp only [planOk, Bool.and_eq_true] at hok
    obtain ⟨⟨hf, hc⟩, hok⟩ := hok
    simp only [runD] at hrun
    split at hrun
    · rename_i o ho
      obtain ⟨n, rfl⟩ : ∃ n, fuel = n + 1 := ⟨fuel - 1, by omega⟩
      unfold takeP at hrun
      split at hrun
      · rename_i q hq
        have hR : ∀ j oj, ops[j]? = some oj → j ≠ i → (∀ e ∈ oj.after, Region.binds .any e = true → e.on ≠ i) → ∀ b, Hs G0 h0 (roOf ops U wr i) b → Hs G0 h0 (holdOf U wr j) b := fun j oj hj hji hno b ⟨k, x, hk, hkr, hv, hb⟩ => by
          refine ⟨k, x, hk, ?_, hv, hb⟩
          simp only [roOf, List.mem_filter, List.all_eq_true] at hkr
          simp only [holdOf, List.mem_filter, Bool.not_eq_true', List.contains_eq_mem, decide_eq_false_iff_not, wrOf, List.mem_flatMap, not_exists, not_and]
          refine ⟨hkr.1, fun pr hpr hmem => ?_⟩
          split at hmem
          · rename_i e
            have := hkr.2 pr hpr
            rw [e, hj] at this
            simp only [Bool.or_eq_true, Bool.not_eq_true', List.contains_eq_mem, decide_eq_false_iff_not, beq_iff_eq, Array.any_eq_true', Bool.and_eq_true] at this
            rcases this with (h1 | h1) | ⟨ed, h1, h2, h3⟩
            · exact h1 hmem
            · exact hji h1
            · exact hno ed h1 h2 h3
          · cases hmem
        have hsame : ∀ w', SameZ (fun b => F b ∨ Hs G0 h0 (roOf ops U wr i) b) w w' → SameOn (fun k => (roOf ops U wr i).contains k) G F t.h w w' := fun w' hw b hb => by
          rcases hb with hb | ⟨k, x, hk, hkr, hv, rfl⟩
          · exact hw b (.inl hb)
          · have hkr' : k ∈ roOf ops U wr i := by simpa using hkr
            have hkU : k ∈ U := (List.mem_filter.1 hkr').1
            obtain ⟨s1, s2, s3⟩ := hst k hkU
            exact hw _ (.inr ⟨k, h0[k]'(hU k hkU), List.getElem?_eq_getElem _, hkr', s3 ▸ hv, s2⟩)
        have main : ∀ (v : Value) (av : AV), YieldsIf P ops (SameZ (fun b => F b ∨ Hs G0 h0 (roOf ops U wr i) b) w) o v a → RepV G (lens t.h) F w av v → runD P ops U wr ho0 p (t.put o.dst av) K → wpAnyG P ops N (fun j => Hs G0 h0 (holdOf U wr j)) (n + 1) listed F a w := fun v av hy hrv hk => by
          refine wpAnyG_first ho (Region.noSelect_spec hsel) (noDefer_at hdf ho) hR n listed _ a w (Region.free_spec ho hf) (by simpa using hc) hy ?_
          exact ih.1 n (listed.setIfInBounds i true) (t.put o.dst av) (a.put o.dst v) w G F (by omega) hok (hr.put hrv o.dst) (by rw [AS.put_h]; exact hst) hk
        split at hrun
        · rename_i hg
          obtain ⟨x, h1, h2⟩ := pureV_sound hr o hq hrun.1
          exact main x q.2 (.inl ⟨by simp [Region.wanted, hg], fun w' hw => h1 w' (hsame w' hw)⟩) h2 hrun.2
        · rename_i j want hg
          split at hrun
          · rename_i c hcg
            have hw := guard_sound hr hg hcg
            cases c
            · exact main undef _ (.inr ⟨hw, rfl⟩) (mkG_rep (fun h => by cases h) (fun _ => rfl)) hrun.2
            · obtain ⟨x, h1, h2⟩ := pureV_sound hr o hq (hrun.1 rfl)
              exact main x _ (.inl ⟨hw, fun w' hw => h1 w' (hsame w' hw)⟩) (mkG_rep (fun _ => h2) (fun h => absurd rfl h)) hrun.2
          · cases hrun
      · cases hrun
    · cases hrun
  | alt i p q ihp ihq =>
    intro hE0
    have hE : E.ho = ho0 := hE0.resolve_right (by simp [noAlt])
    clear hE0
    subst hE
    have ihp := ihp (.inl rfl)
    have ihq := ihq (.inl rfl)
    have B : ∀ (fuel : Nat) (listed : Array Bool) (t : AS) (a : Act) (w : World) (G : Gh) (F : Nat → Prop) (hd : Bool), depth (.alt i p q) ≤ fuel + 1 → planOk ops hd (.alt i p q) listed = true → Rel E G F t a w → StayU U G0 G h0 t.h → runD P ops U wr E.ho (.alt i p q) t K →
        ∀ j ∈ altIx (.alt i p q), wpOpB P ops j (fun a' w' => ∃ Z' : Nat → Prop, (∀ b, F b → Z' b ∧ w'.heap[b]? = w.heap[b]?) ∧ (∀ b, Hs G0 h0 (holdOf U wr j) b → w'.heap[b]? = w.heap[b]?) ∧ wpAnyG P ops N (fun j => Hs G0 h0 (holdOf U wr j)) fuel (listed.setIfInBounds j true) Z' a' w') a w := by
      intro fuel listed t a w G F hd hdep hok hr hst hrun j hj
      simp only [depth] at hdep
      simp only [planOk, Bool.and_eq_true] at hok
      obtain ⟨⟨_, hokp⟩, hokq⟩ := hok
      obtain ⟨hrun1, hrun2⟩ := hrun
      simp only [altIx, List.mem_cons] at hj
      rcases hj with rfl | hj
      · split at hrun1
        · rename_i o ho
          have hUt : ∀ k ∈ U, k < t.h.length := fun k hk => by
            have h2 := (hst k hk).1
            have h3 : (lens h0)[k]? = some (lnO (h0[k]'(hU k hk))) := by simp [lens, hU k hk]
            rw [h3] at h2
            simpa [lens] using (List.getElem?_eq_some_iff.1 h2).1
          have hHU : ∀ k ∈ holdOf U wr j, k ∈ U := fun k hk => (List.mem_filter.1 hk).1
          have hr' := rebaseH hr (holdOf U wr j) E.ho
          have hstep := stepP_soundB hr' ops o (hrun1 (reH E.mks G F t w (holdOf U wr j) E.ho)) (next := fun a' w' => ∃ Z' : Nat → Prop, (∀ b, F b → Z' b ∧ w'.heap[b]? = w.heap[b]?) ∧ (∀ b, Hs G0 h0 (holdOf U wr j) b → w'.heap[b]? = w.heap[b]?) ∧ wpAnyG P ops N (fun j => Hs G0 h0 (holdOf U wr j)) fuel (listed.setIfInBounds j true) Z' a' w') fun t' a' w' ⟨G', F', h1⟩ ⟨hh, hk⟩ => by
            have hu := unbaseH (fun k hk => hUt k (hHU k hk)) hr h1 fun k hk => hh k (hHU k hk)
            have stay : StayU U G0 G' h0 t'.h := fun k hk => by
              obtain ⟨s1, s2, s3⟩ := hst k hk
              have h2 := hh k hk
              have hm : (lens t.h)[k]? = some (lnO (t.h[k]'(hUt k hk))) := by simp [lens, hUt k hk]
              rcases h1.lat k _ rfl hm with ⟨_, e2, _, e4⟩ | ⟨m', e1, e2⟩
              · exact ⟨h2.trans s1, e2.trans s2, e4.trans s3⟩
              · have := h2.symm.trans e1
                rw [hm] at this; injection this with this; omega
            have keep : ∀ b, b < w.heap.size → ¬ liveH G t.h (holdOf U wr j) E.ho b → w'.heap[b]? = w.heap[b]? := fun b h2 h3 => h1.mod.block b h2 h3
            have nL : ∀ b, F b → ¬ liveH G t.h (holdOf U wr j) E.ho b := fun b hb ⟨k, x, hk, hv, hf, _, he⟩ => hr.heap.nfz hk hv hf (he ▸ hb)
            refine ⟨F', fun b hb => ⟨h1.f0 b hb, keep b (hr.flt b hb) (nL b hb)⟩, fun b ⟨k, x0, hk0, hkr, hv0, hb⟩ => ?_, ihp.1 fuel _ t' a' w' G' F' (by omega) hokp hu stay hk⟩
            have hkU := hHU k hkr
            obtain ⟨s1, s2, s3⟩ := hst k hkU
            obtain ⟨x, hkx⟩ : ∃ x, t.h[k]? = some x := ⟨_, List.getElem?_eq_getElem (hUt k hkU)⟩
            have hv : G.vir k = false := s3.trans hv0
            have hbk : b = G.σ k := hb.trans s2.symm
            subst hbk
            refine keep _ (hr.heap.lt hkx hv) fun ⟨k', x', hk', hv', hf', hn', he'⟩ => ?_
            by_cases hfx : fzO x = false
            · have := hr.heap.inj k k' x x' hkx hk' hv hv' hfx hf' he'
              rw [← this] at hn'; simp only [Bool.or_eq_false_iff] at hn'; rw [(contains_iff _ _).2 hkr] at hn'; cases hn'.1
            · have hob := hr.heap.obj k x hkx
              cases x with
              | it s pos => exact hfx rfl
              | o kd cs =>
                cases kd with
                | box => exact hfx rfl
                | row e sz => exact hfx rfl
                | fz =>
                  rcases hob with ⟨g1, _⟩ | ⟨_, g1, _⟩
                  · rw [hv] at g1; cases g1
                  · exact hr.heap.nfz hk' hv' hf' (he' ▸ g1)
          unfold wpOpB
          split
          · rename_i h; rw [ho] at h; cases h
          · rename_i o' h
            rw [ho] at h; injection h with h; subst h
            split
            · rename_i hw; rw [if_pos hw] at hstep; exact hstep
            · rename_i hw; rw [if_neg hw] at hstep; exact hstep
        · cases hrun1
      · have hq' : planOk ops false q listed = true := by
          cases q with
          | nil => simp [altIx] at hj
          | _ => exact hokq
        exact ihq.2 fuel listed t a w G F false (by omega) hq' hr hst hrun2 j hj
    refine ⟨fun fuel listed t a w G F hdep hok hr hst hrun => ?_, B⟩
    have hready : Region.ready .any ops listed = i :: altIx q := by
      simp only [planOk, Bool.and_eq_true, Bool.or_eq_true, Bool.not_true, Bool.false_eq_true, false_or] at hok
      simpa using hok.1.1
    obtain ⟨n, rfl⟩ : ∃ n, fuel = n + 1 := ⟨fuel - 1, by simp only [depth] at hdep; omega⟩
    exact ⟨fun h => (by rw [hready] at h; cases h), fun j hj => B n listed t a w G F true hdep hok hr hst hrun j (by rw [hready] at hj; exact hj)⟩
/-- **A region that draws**: by a plan of its orders. U: blocks that are read in it; wr: which of them an operation turns. -/
theorem draw_of {ho0 : Nat → Bool} (hE : E.ho = ho0) {K : AS → Prop} (p : Plan) (U : List Nat) (wr : List (Nat × List Nat)) (hok : (Region.noSelect ops && noDefer ops && planOk ops true p (Array.replicate ops.size false) && decide (depth p ≤ ops.size)) = true) (hU : ∀ k ∈ U, k < s.h.length) (h : runD P ops U wr ho0 p s K) : DrawG P E ops s K := by
  simp only [Bool.and_eq_true, decide_eq_true_eq] at hok
  intro a w ⟨G, F, hr⟩ N hQ
  exact wpAny_of_G _ _ _ _ _ ((runD_sound hok.1.1.1 hok.1.1.2 hQ U wr ho0 G s.h hU p (.inl hE)).1 ops.size _ s a w G F hok.2 hok.1.2 hr (fun k _ => ⟨rfl, rfl, rfl⟩) h)
/-- .. of takes alone: whatever is held -/
theorem draw_take {ho0 : Nat → Bool} {K : AS → Prop} (p : Plan) (hna : noAlt p = true) (U : List Nat) (wr : List (Nat × List Nat)) (hok : (Region.noSelect ops && noDefer ops && planOk ops true p (Array.replicate ops.size false) && decide (depth p ≤ ops.size)) = true) (hU : ∀ k ∈ U, k < s.h.length) (h : runD P ops U wr ho0 p s K) : DrawG P E ops s K := by
  simp only [Bool.and_eq_true, decide_eq_true_eq] at hok
  intro a w ⟨G, F, hr⟩ N hQ
  exact wpAny_of_G _ _ _ _ _ ((runD_sound hok.1.1.1 hok.1.1.2 hQ U wr ho0 G s.h hU p (.inr hna)).1 ops.size _ s a w G F hok.2 hok.1.2 hr (fun k _ => ⟨rfl, rfl, rfl⟩) h)
/-- first less is told, or more -/
theorem Clean.wk {st : Nat → Bool} {h h2 h' : List AObj} {r r2 r' : AV} (hw : ∀ E : Env, E.ln0 = lens h → Wk E ⟨[r], h⟩ ⟨[r2], h2⟩) (hc : Clean st h2 r2 h' r') : Clean st h r h' r' := by
  intro E G F w x hE hf hrep
  have hr : Rel ⟨E.w0, E.L, E.F0, G, lens h, allSt, E.ho, E.mks⟩ G F ⟨[r], h⟩ ⟨#[x], []⟩ w := Rel.mk' ⟨hf.heap, hf.mod, hf.sup, hf.fsup, hf.f0, hf.fc⟩ rfl rfl (fun i av v h1 h2 => by
    cases i with
    | zero => simp at h1 h2; subst h1 h2; exact hrep
    | succ i => simp at h1) ((Later.refl _ _).same _)
  obtain ⟨G2, F2, hr2⟩ := hw _ rfl _ w ⟨G, F, hr⟩
  have hrep2 := hr2.slot 0 r2 x rfl rfl
  obtain ⟨G', F', c1, c2, c3⟩ := hc E G2 F2 w x hE ⟨hr2.heap, hr2.mod, hr2.sup, hr2.fsup, hr2.f0, hr2.fc⟩ hrep2
  exact ⟨G', F', c1, c2, fun k m hs hm => by
    rcases hr2.lat k m rfl hm with ⟨e1, e2, e3, e4⟩ | ⟨m', e1, e2⟩
    · rcases c3 k m hs e1 with ⟨f1, f2, f3, f4⟩ | ⟨m', f1, f2⟩
      · exact .inl ⟨f1, f2.trans e2, f3.trans e3, f4.trans e4⟩
      · exact .inr ⟨m', f1, f2⟩
    · rcases c3 k m' hs e1 with ⟨f1, _⟩ | ⟨m'', f1, f2⟩
      · exact .inr ⟨m', f1, e2⟩
      · exact .inr ⟨m'', f1, Nat.lt_trans e2 f2⟩⟩
theorem ret_same {st : Nat → Bool} {h : List AObj} {r : AV} {Post : AV → List AObj → Prop} (hp : Post r h) : ∃ h' r', Clean st h r h' r' ∧ Post r' h' := ⟨h, r, Clean.refl _ _ _, hp⟩
theorem ret_drop {h : List AObj} {r : AV} {Post : AV → List AObj → Prop} (hpl : plainV r = true) (hp : Post r []) : ∃ h' r', Clean (fun _ => false) h r h' r' ∧ Post r' h' := ⟨[], r, Clean.drop h (fun _ _ _ _ _ hr => plain_rep hpl hr) _ (fun _ _ => rfl), hp⟩
theorem ret_sel {h h' : List AObj} {r r' : AV} {st : Nat → Bool} {Post : AV → List AObj → Prop} (keep : List Nat) (ok : Nat → Bool) {po pa : Prop} (ho : convOs keep ok h keep = some (po, h')) (ha : AV.conv keep ok h r = some (pa, r')) (hpo : po) (hpa : pa) (hn : keep.Nodup) (hok : ∀ k ∈ keep, ok k = false)
    (hst : ∀ i, i < h.length → st i = true → keep[i]? = some i) (hp : Post r' h') : ∃ h' r', Clean st h r h' r' ∧ Post r' h' := ⟨h', r', Clean.sel keep ok ho ha hpo hpa hn hok hst, hp⟩
end
end Go.Proofs.Ytmgpiminicgbiaa
