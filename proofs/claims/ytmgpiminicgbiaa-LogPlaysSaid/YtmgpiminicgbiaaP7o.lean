import Derived.Test.YtmgpiminicgbiaaP7m
namespace Go.Proofs.Ytmgpiminicgbiaa
set_option linter.unusedVariables false
set_option linter.unusedSimpArgs false
open Go.RowKit
/-! ## A region that draws, in which blocks that nothing points at any more may turn: stz tells which stay -/
def runDZ (stz : Nat → Bool) (P : Program) (ops : Array Oper) (U : List Nat) (wr : List (Nat × List Nat)) (ho0 : Nat → Bool) : Plan → AS → (AS → Prop) → Prop
  | .done, s, K => K s
  | .take i p, s, K => match ops[i]? with
    | some o => takeP P (roOf ops U wr i) ops o s (swapK (runDZ stz P ops U wr ho0 p) K)
    | none => False
  | .alt i p q, s, K => (match ops[i]? with
    | some o => ∀ E : Env, stepP P ⟨E.w0, E.L, E.F0, E.G0, lens s.h, stz, fun k => (holdOf U wr i).contains k || ho0 k, E.mks⟩ ops o s (altK U s (swapK (runDZ stz P ops U wr ho0 p) K))
    | none => False) ∧ runDZ stz P ops U wr ho0 q s K
  | .nil, _, _ => True
section
variable {P : Program} {E : Env} {s : AS} {ops : Array Oper}
def reHZ (stz : Nat → Bool) (mks : Nat → Prop) (G : Gh) (F : Nat → Prop) (s : AS) (w : World) (ro : List Nat) (ho0 : Nat → Bool) : Env := ⟨w, liveH G s.h ro ho0, F, G, lens s.h, stz, fun k => ro.contains k || ho0 k, mks⟩
theorem rebaseHZ (stz : Nat → Bool) {G : Gh} {F : Nat → Prop} {a : Act} {w : World} (hr : Rel E G F s a w) (ro : List Nat) (ho0 : Nat → Bool) : Rel (reHZ stz E.mks G F s w ro ho0) G F s a w :=
  ⟨hr.len, hr.def0, hr.slot, hr.heap, Mod.refl _ _, fun k x hk hv hf hh => .inl ⟨k, x, hk, hv, hf, hh, rfl⟩, fun b hb => .inl hb, fun b hb => hb, hr.fc, (Later.refl _ _).same _⟩
theorem unbaseHZ {stz : Nat → Bool} (hz2 : ∀ k, E.st k = true → stz k = true) {G G' : Gh} {F F' : Nat → Prop} {a a' : Act} {w w' : World} {s' : AS} {ro : List Nat} (hro : ∀ k ∈ ro, k < s.h.length) (hz1 : ∀ k ∈ ro, stz k = true) (hr : Rel E G F s a w) (h : Rel (reHZ stz E.mks G F s w ro E.ho) G' F' s' a' w') (hh : heldOk ro s s') : Rel E G' F' s' a' w' := by
  have hL : ∀ b, liveH G s.h ro E.ho b → E.L b ∨ E.w0.heap.size ≤ b := fun b ⟨k, x, hk, hv, hf, hn, hb⟩ => by rw [hb]; exact hr.sup k x hk hv hf (by simp only [Bool.or_eq_false_iff] at hn; exact hn.2)
  have hws : E.w0.heap.size ≤ w.heap.size := hr.mod.size
  refine ⟨h.len, h.def0, h.slot, h.heap, hr.mod.mod h.mod fun i hi hl => (hL i hl).resolve_right (by omega), fun k x hk hv hf hnh => ?_, fun b hb => ?_, fun b hb => h.f0 b (hr.f0 b hb), h.fc, hr.lat.trans fun k m hs hm => h.lat k m (hz2 k hs) hm⟩
  · by_cases hkr : k ∈ ro
    · have hkl := hro k hkr
      have hm : (lens s.h)[k]? = some (lnO s.h[k]) := by simp [lens, hkl]
      obtain ⟨y, hy⟩ : ∃ y, s.h[k]? = some y := ⟨_, List.getElem?_eq_getElem hkl⟩
      rcases h.lat k _ (hz1 k hkr) hm with ⟨e1, e2, e3, e4⟩ | ⟨m', e1, e2⟩
      · rw [e2]
        by_cases hfy : fzO y = false
        · exact hr.sup k y hy (e4 ▸ hv) hfy hnh
        · -- a frozen one stays so
          have hob := hr.heap.obj k y hy
          cases y with
          | raw s => exact absurd rfl hfy
          | o kd cs =>
            cases kd with
            | box => exact absurd rfl hfy
            | row e sz => exact absurd rfl hfy
            | fz =>
              rcases hob with ⟨g1, _⟩ | ⟨_, g1, _⟩
              · have : G.vir k = false := e4 ▸ hv
                rw [this] at g1; cases g1
              · exact absurd (h.f0 _ g1) (by have := h.heap.nfz hk hv hf; rw [e2] at this; exact this)
      · have := (hh k hkr).symm.trans e1
        rw [hm] at this; injection this with this; omega
    · rcases h.sup k x hk hv hf (by simp only [reHZ, Bool.or_eq_false_iff]; exact ⟨by simpa using hkr, hnh⟩) with h1 | h1
      · exact hL _ h1
      · have h2 : w.heap.size ≤ G'.σ k := h1
        exact .inr (by omega)
  · rcases h.fsup b hb with h1 | h1 | h1
    · exact hr.fsup b h1
    · rcases hL b h1 with h2 | h2
      · exact .inr (.inl h2)
      · exact .inr (.inr h2)
    · have h2 : w.heap.size ≤ b := h1
      exact .inr (.inr (by omega))
theorem runDZ_sound {stz : Nat → Bool} (hz2 : ∀ k, E.st k = true → stz k = true) (hsel : Region.noSelect ops = true) (hdf : noDefer ops = true) {K : AS → Prop} {N : Act → World → Prop} (hQ : ∀ s' a' w', Sat E s' a' w' → K s' → N a' w') (U : List Nat) (wr : List (Nat × List Nat)) (ho0 : Nat → Bool) (G0 : Gh) (h0 : List AObj) (hU : ∀ k ∈ U, k < h0.length) (hz1 : ∀ k ∈ U, stz k = true) :
    ∀ (p : Plan), (E.ho = ho0 ∨ noAlt p = true) →
      (∀ (fuel : Nat) (listed : Array Bool) (t : AS) (a : Act) (w : World) (G : Gh) (F : Nat → Prop), depth p ≤ fuel → planOk ops true p listed = true → Rel E G F t a w → StayU U G0 G h0 t.h → runDZ stz P ops U wr ho0 p t K →
        wpAnyG P ops N (fun j => Hs G0 h0 (holdOf U wr j)) fuel listed F a w) ∧
      (∀ (fuel : Nat) (listed : Array Bool) (t : AS) (a : Act) (w : World) (G : Gh) (F : Nat → Prop) (hd : Bool), depth p ≤ fuel + 1 → planOk ops hd p listed = true → Rel E G F t a w → StayU U G0 G h0 t.h → runDZ stz P ops U wr ho0 p t K →
        ∀ j ∈ altIx p, wpOpB P ops j (fun a' w' => ∃ Z' : Nat → Prop, (∀ b, F b → Z' b ∧ w'.heap[b]? = w.heap[b]?) ∧ (∀ b, Hs G0 h0 (holdOf U wr j) b → w'.heap[b]? = w.heap[b]?) ∧ wpAnyG P ops N (fun j => Hs G0 h0 (holdOf U wr j)) fuel (listed.setIfInBounds j true) Z' a' w') a w) := by
  intro p
  induction p with
  | done =>
    intro hE
    refine ⟨fun fuel listed t a w G F _ hok hr _ hrun => ?_, fun _ _ _ _ _ _ _ _ _ _ _ _ _ j hj => by simp [altIx] at hj⟩
    have hq := hQ t a w ⟨G, F, hr⟩ hrun
    simp only [planOk, List.isEmpty_iff] at hok
    cases fuel with
    | zero => exact ⟨hok, hq⟩
    | succ n => exact ⟨fun _ => hq, fun i hi => by rw [hok] at hi; cases hi⟩
  | nil => intro hE; exact ⟨fun _ _ _ _ _ _ _ _ hok => by simp [planOk] at hok, fun _ _ _ _ _ _ _ _ _ _ _ _ _ j hj => by simp [altIx] at hj⟩
  | take i p ih =>
    intro hE
    have ih := ih hE
    refine ⟨fun fuel listed t a w G F hdep hok hr hst hrun => ?_, fun _ _ _ _ _ _ _ _ _ _ _ _ _ j hj => by simp [altIx] at hj⟩
    simp only [depth] at hdep
    simp only [planOk, Bool.and_eq_true] at hok
    obtain ⟨⟨hf, hc⟩, hok⟩ := hok
    simp only [runDZ] at hrun
    split at hrun
    · rename_i o ho
      obtain ⟨n, rfl⟩ : ∃ n, fuel = n + 1 := ⟨fuel - 1, by omega⟩
      have hR : ∀ j oj, ops[j]? = some oj → j ≠ i → (∀ e ∈ oj.after, Region.binds .any e = true → e.on ≠ i) → ∀ b, Hs G0 h0 (roOf ops U wr i) b → Hs G0 h0 (holdOf U wr j) b := fun j oj hj hji hno b ⟨k, x, hk, hkr, hv, hb⟩ => by
        refine ⟨k, x, hk, ?_, hv, hb⟩
        simp only [roOf, List.mem_filter, List.all_eq_true] at hkr
        simp only [holdOf, List.mem_filter, Bool.not_eq_true', List.contains_eq_mem, decide_eq_false_iff_not, wrOf, List.mem_flatMap, not_exists, not_and]
        refine ⟨hkr.1, fun pr hpr hmem => ?_⟩
        split at hmem
        · rename_i e
          have := hkr.2 pr hpr
          rw [e, hj] at this
          simp only [Bool.or_eq_true, Bool.not_eq_true', List.contains_eq_mem, decide_eq_false_iff_not, beq_iff_eq, Array.any_eq_true', Bool.and_eq_true] at this
          rcases this with (h1 | h1) | ⟨ed, h1, h2, h3⟩
          · exact h1 hmem
          · exact hji h1
          · exact hno ed h1 h2 h3
        · cases hmem
      have hsame : ∀ w', SameZ (fun b => F b ∨ Hs G0 h0 (roOf ops U wr i) b) w w' → SameOn (fun k => (roOf ops U wr i).contains k) G F t.h w w' := fun w' hw b hb => by
        rcases hb with hb | ⟨k, x, hk, hkr, hv, rfl⟩
        · exact hw b (.inl hb)
        · have hkr' : k ∈ roOf ops U wr i := by simpa using hkr
          have hkU : k ∈ U := (List.mem_filter.1 hkr').1
          obtain ⟨s1, s2, s3⟩ := hst k hkU
          exact hw _ (.inr ⟨k, h0[k]'(hU k hkU), List.getElem?_eq_getElem _, hkr', s3 ▸ hv, s2⟩)
      have main : ∀ (v : Value) (av : AV), YieldsIf P ops (SameZ (fun b => F b ∨ Hs G0 h0 (roOf ops U wr i) b) w) o v a → RepV G (lens t.h) F w av v → runDZ stz P ops U wr ho0 p (t.put o.dst av) K → wpAnyG P ops N (fun j => Hs G0 h0 (holdOf U wr j)) (n + 1) listed F a w := fun v av hy hrv hk => by
        refine wpAnyG_first ho (Region.noSelect_spec hsel) (noDefer_at hdf ho) hR n listed _ a w (Region.free_spec ho hf) (by simpa using hc) hy ?_
        exact ih.1 n (listed.setIfInBounds i true) (t.put o.dst av) (a.put o.dst v) w G F (by omega) hok (hr.put hrv o.dst) (by rw [AS.put_h]; exact hst) hk
      have hQ2 : Region.wanted o (yielded ops a.tmps) = true → takeQ o t (swapK (runDZ stz P ops U wr ho0 p) K) → wpAnyG P ops N (fun j => Hs G0 h0 (holdOf U wr j)) (n + 1) listed F a w := fun hw h => by
        unfold takeQ at h
        split at h
        · rename_i c x y hop
          obtain ⟨g1, h⟩ := h
          have hc := (hr.ev c).ung g1
          unfold pickP at h
          split at h
          · rename_i v e1
            rw [e1] at hc
            have hex : ∀ w', (execOp a.eval o).run P w' = .ok (.value (if v then a.eval x else a.eval y)) w' := fun w' => by
              simp [execOp, hop, hc.c_inv, asBool]
            cases v
            · exact main (a.eval y) _ (.inl ⟨hw, fun w' _ => hex w'⟩) (hr.ev y) (by simpa [swapK] using h)
            · exact main (a.eval x) _ (.inl ⟨hw, fun w' _ => hex w'⟩) (hr.ev x) (by simpa [swapK] using h)
          · cases h
        · cases h
      unfold takeP at hrun
      split at hrun
      · rename_i q hq
        split at hrun
        · rename_i hg
          obtain ⟨x, h1, h2⟩ := pureV_sound hr o hq hrun.1
          exact main x q.2 (.inl ⟨by simp [Region.wanted, hg], fun w' hw => h1 w' (hsame w' hw)⟩) h2 hrun.2
        · rename_i j want hg
          split at hrun
          · rename_i c hcg
            have hw := guard_sound hr hg hcg
            cases c
            · exact main undef _ (.inr ⟨hw, rfl⟩) (mkG_rep (fun h => by cases h) (fun _ => rfl)) hrun.2
            · obtain ⟨x, h1, h2⟩ := pureV_sound hr o hq (hrun.1 rfl)
              exact main x _ (.inl ⟨hw, fun w' hw => h1 w' (hsame w' hw)⟩) (mkG_rep (fun _ => h2) (fun h => absurd rfl h)) hrun.2
          · cases hrun
      · split at hrun
        · rename_i hg
          exact hQ2 (by simp [Region.wanted, hg]) hrun
        · rename_i j want hg
          split at hrun
          · rename_i c hcg
            have hw := guard_sound hr hg hcg
            cases c
            · exact main undef _ (.inr ⟨hw, rfl⟩) (.d _ _ (.c _)) (hrun.2 rfl)
            · exact hQ2 hw (hrun.1 rfl)
          · cases hrun
    · cases hrun
  | alt i p q ihp ihq =>
    intro hE0
    have hE : E.ho = ho0 := hE0.resolve_right (by simp [noAlt])
    clear hE0
    subst hE
    have ihp := ihp (.inl rfl)
    have ihq := ihq (.inl rfl)
    have B : ∀ (fuel : Nat) (listed : Array Bool) (t : AS) (a : Act) (w : World) (G : Gh) (F : Nat → Prop) (hd : Bool), depth (.alt i p q) ≤ fuel + 1 → planOk ops hd (.alt i p q) listed = true → Rel E G F t a w → StayU U G0 G h0 t.h → runDZ stz P ops U wr E.ho (.alt i p q) t K →
        ∀ j ∈ altIx (.alt i p q), wpOpB P ops j (fun a' w' => ∃ Z' : Nat → Prop, (∀ b, F b → Z' b ∧ w'.heap[b]? = w.heap[b]?) ∧ (∀ b, Hs G0 h0 (holdOf U wr j) b → w'.heap[b]? = w.heap[b]?) ∧ wpAnyG P ops N (fun j => Hs G0 h0 (holdOf U wr j)) fuel (listed.setIfInBounds j true) Z' a' w') a w := by
      intro fuel listed t a w G F hd hdep hok hr hst hrun j hj
      simp only [depth] at hdep
      simp only [planOk, Bool.and_eq_true] at hok
      obtain ⟨⟨_, hokp⟩, hokq⟩ := hok
      obtain ⟨hrun1, hrun2⟩ := hrun
      simp only [altIx, List.mem_cons] at hj
      rcases hj with rfl | hj
      · split at hrun1
        · rename_i o ho
          have hUt : ∀ k ∈ U, k < t.h.length := fun k hk => by
            have h2 := (hst k hk).1
            have h3 : (lens h0)[k]? = some (lnO (h0[k]'(hU k hk))) := by simp [lens, hU k hk]
            rw [h3] at h2
            simpa [lens] using (List.getElem?_eq_some_iff.1 h2).1
          have hHU : ∀ k ∈ holdOf U wr j, k ∈ U := fun k hk => (List.mem_filter.1 hk).1
          have hr' := rebaseHZ stz hr (holdOf U wr j) E.ho
          have hstep := stepP_soundB hr' ops o (hrun1 (reHZ stz E.mks G F t w (holdOf U wr j) E.ho)) (next := fun a' w' => ∃ Z' : Nat → Prop, (∀ b, F b → Z' b ∧ w'.heap[b]? = w.heap[b]?) ∧ (∀ b, Hs G0 h0 (holdOf U wr j) b → w'.heap[b]? = w.heap[b]?) ∧ wpAnyG P ops N (fun j => Hs G0 h0 (holdOf U wr j)) fuel (listed.setIfInBounds j true) Z' a' w') fun t' a' w' ⟨G', F', h1⟩ ⟨hh, hk⟩ => by
            have hu := unbaseHZ hz2 (fun k hk => hUt k (hHU k hk)) (fun k hk => hz1 k (hHU k hk)) hr h1 fun k hk => hh k (hHU k hk)
            have stay : StayU U G0 G' h0 t'.h := fun k hk => by
              obtain ⟨s1, s2, s3⟩ := hst k hk
              have h2 := hh k hk
              have hm : (lens t.h)[k]? = some (lnO (t.h[k]'(hUt k hk))) := by simp [lens, hUt k hk]
              rcases h1.lat k _ (hz1 k hk) hm with ⟨_, e2, _, e4⟩ | ⟨m', e1, e2⟩
              · exact ⟨h2.trans s1, e2.trans s2, e4.trans s3⟩
              · have := h2.symm.trans e1
                rw [hm] at this; injection this with this; omega
            have keep : ∀ b, b < w.heap.size → ¬ liveH G t.h (holdOf U wr j) E.ho b → w'.heap[b]? = w.heap[b]? := fun b h2 h3 => h1.mod.block b h2 h3
            have nL : ∀ b, F b → ¬ liveH G t.h (holdOf U wr j) E.ho b := fun b hb ⟨k, x, hk, hv, hf, _, he⟩ => hr.heap.nfz hk hv hf (he ▸ hb)
            refine ⟨F', fun b hb => ⟨h1.f0 b hb, keep b (hr.flt b hb) (nL b hb)⟩, fun b ⟨k, x0, hk0, hkr, hv0, hb⟩ => ?_, ihp.1 fuel _ t' a' w' G' F' (by omega) hokp hu stay hk⟩
            have hkU := hHU k hkr
            obtain ⟨s1, s2, s3⟩ := hst k hkU
            obtain ⟨x, hkx⟩ : ∃ x, t.h[k]? = some x := ⟨_, List.getElem?_eq_getElem (hUt k hkU)⟩
            have hv : G.vir k = false := s3.trans hv0
            have hbk : b = G.σ k := hb.trans s2.symm
            subst hbk
            refine keep _ (hr.heap.lt hkx hv) fun ⟨k', x', hk', hv', hf', hn', he'⟩ => ?_
            by_cases hfx : fzO x = false
            · have := hr.heap.inj k k' x x' hkx hk' hv hv' hfx hf' he'
              rw [← this] at hn'; simp only [Bool.or_eq_false_iff] at hn'; rw [(contains_iff _ _).2 hkr] at hn'; cases hn'.1
            · have hob := hr.heap.obj k x hkx
              cases x with
              | raw s => exact hfx rfl
              | o kd cs =>
                cases kd with
                | box => exact hfx rfl
                | row e sz => exact hfx rfl
                | fz =>
                  rcases hob with ⟨g1, _⟩ | ⟨_, g1, _⟩
                  · rw [hv] at g1; cases g1
                  · exact hr.heap.nfz hk' hv' hf' (he' ▸ g1)
          unfold wpOpB
          split
          · rename_i h; rw [ho] at h; cases h
          · rename_i o' h
            rw [ho] at h; injection h with h; subst h
            split
            · rename_i hw; rw [if_pos hw] at hstep; exact hstep
            · rename_i hw; rw [if_neg hw] at hstep; exact hstep
        · cases hrun1
      · have hq' : planOk ops false q listed = true := by
          cases q with
          | nil => simp [altIx] at hj
          | _ => exact hokq
        exact ihq.2 fuel listed t a w G F false (by omega) hq' hr hst hrun2 j hj
    refine ⟨fun fuel listed t a w G F hdep hok hr hst hrun => ?_, B⟩
    have hready : Region.ready .any ops listed = i :: altIx q := by
      simp only [planOk, Bool.and_eq_true, Bool.or_eq_true, Bool.not_true, Bool.false_eq_true, false_or] at hok
      simpa using hok.1.1
    obtain ⟨n, rfl⟩ : ∃ n, fuel = n + 1 := ⟨fuel - 1, by simp only [depth] at hdep; omega⟩
    exact ⟨fun h => (by rw [hready] at h; cases h), fun j hj => B n listed t a w G F true hdep hok hr hst hrun j (by rw [hready] at hj; exact hj)⟩
/-- **A region that draws**: by a plan of its orders. U: blocks that are read in it; wr: which of them an operation turns. -/
theorem draw_ofZ (stz : Nat → Bool) (hz2 : ∀ k, E.st k = true → stz k = true) {ho0 : Nat → Bool} (hE : E.ho = ho0) {K : AS → Prop} (p : Plan) (U : List Nat) (wr : List (Nat × List Nat)) (hok : (Region.noSelect ops && noDefer ops && planOk ops true p (Array.replicate ops.size false) && decide (depth p ≤ ops.size)) = true) (hU : ∀ k ∈ U, k < s.h.length) (hz1 : ∀ k ∈ U, stz k = true) (h : runDZ stz P ops U wr ho0 p s K) : DrawG P E ops s K := by
  simp only [Bool.and_eq_true, decide_eq_true_eq] at hok
  intro a w ⟨G, F, hr⟩ N hQ
  exact wpAny_of_G _ _ _ _ _ ((runDZ_sound hz2 hok.1.1.1 hok.1.1.2 hQ U wr ho0 G s.h hU hz1 p (.inl hE)).1 ops.size _ s a w G F hok.2 hok.1.2 hr (fun k _ => ⟨rfl, rfl, rfl⟩) h)

def runEZ (stz : Nat → Bool) (P : Program) (ops : Array Oper) (U : List Nat) (wr : List (Nat × List Nat)) (ho0 : Nat → Bool) (p : Plan) (K : AS → Prop) (s : AS) : Prop := runDZ stz P ops U wr ho0 p s K
theorem runEZ_done {stz ho0 : Nat → Bool} {ops : Array Oper} {U : List Nat} {wr : List (Nat × List Nat)} {K : AS → Prop} : runEZ stz P ops U wr ho0 .done K s = K s := congrArg _root_.id rfl
theorem runEZ_nil {stz ho0 : Nat → Bool} {ops : Array Oper} {U : List Nat} {wr : List (Nat × List Nat)} {K : AS → Prop} : runEZ stz P ops U wr ho0 .nil K s = True := congrArg _root_.id rfl
def altOZ (stz : Nat → Bool) (P : Program) (U : List Nat) (ho : Nat → Bool) (ops : Array Oper) (s : AS) (K : AS → Prop) : Option Oper → Prop
  | some o => ∀ E : Env, stepP P ⟨E.w0, E.L, E.F0, E.G0, lens s.h, stz, ho, E.mks⟩ ops o s (altK U s K)
  | none => False
theorem altOZ_some {stz : Nat → Bool} {U : List Nat} {ho : Nat → Bool} {ops : Array Oper} {o : Oper} {K : AS → Prop} : altOZ stz P U ho ops s K (some o) = (∀ E : Env, stepP P ⟨E.w0, E.L, E.F0, E.G0, lens s.h, stz, ho, E.mks⟩ ops o s (altK U s K)) := congrArg _root_.id rfl
theorem runEZ_take {stz ho0 : Nat → Bool} {ops : Array Oper} {U : List Nat} {wr : List (Nat × List Nat)} {K : AS → Prop} {i : Nat} {p : Plan} : runEZ stz P ops U wr ho0 (.take i p) K s = takeO P (roOf ops U wr i) ops s (runEZ stz P ops U wr ho0 p K) ops[i]? := by
  show runDZ stz P ops U wr ho0 (.take i p) s K = _
  unfold runDZ takeO
  rfl
theorem runEZ_alt {stz ho0 : Nat → Bool} {ops : Array Oper} {U : List Nat} {wr : List (Nat × List Nat)} {K : AS → Prop} {i : Nat} {p q : Plan} : runEZ stz P ops U wr ho0 (.alt i p q) K s = (altOZ stz P U (fun k => (holdOf U wr i).contains k || ho0 k) ops s (runEZ stz P ops U wr ho0 p K) ops[i]? ∧ runEZ stz P ops U wr ho0 q K s) := by
  show runDZ stz P ops U wr ho0 (.alt i p q) s K = _
  unfold runDZ altOZ
  rfl
theorem draw_z {ops : Array Oper} (dead : List Nat) (hE : E.ho = noHo) (hz2 : ∀ k, E.st k = true → (!dead.contains k) = true) {K : AS → Prop} (p : Plan) (U : List Nat) (wr : List (Nat × List Nat)) (hok : (Region.noSelect ops && noDefer ops && planOk ops true p (Array.replicate ops.size false) && decide (depth p ≤ ops.size)) = true) (hU : ∀ k ∈ U, k < s.h.length) (hz1 : ∀ k ∈ U, (!dead.contains k) = true) (h : runEZ (fun k => !dead.contains k) P ops U wr noHo p K s) : DrawG P E ops s K := draw_ofZ _ hz2 hE p U wr hok hU hz1 h
end
end Go.Proofs.Ytmgpiminicgbiaa
