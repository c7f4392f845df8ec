import Derived.Test.YtmgpiminicgbiaaEp
namespace Go.Proofs.Ytmgpiminicgbiaa
set_option linter.unusedVariables false
set_option linter.unusedSimpArgs false
open Go.RowKit

/-! ## Iterators: functions that call yield -/
/-- what a slot still tells when yield has run: plain values, and where the n blocks lie -/
def keepV (n : Nat) : AV → AV
  | .c v => .c v
  | .ptr k off m => if k < n then .ptr k off m else .any
  | .sl k sz off c m => if k < n then .sl k sz off c m else .any
  | .clo (.yield l) [] [] => .clo (.yield l) [] []
  | _ => .any
def itemOk (n : Nat) : AV → Bool
  | .sl k _ _ _ _ => decide (k < n)
  | .ptr k _ _ => decide (k < n)
  | .fs _ _ _ => true
  | v => plainV v
def hoN (n : Nat) : Nat → Bool := fun k => decide (k < n)
def yldArgs (l : Nat) (s : AS) (o : Oper) : Option (Operand × List Operand) := match o.op with
  | .call c => match c.callee with
    | .value f => match (s.ev f).ung with
      | .clo (.yield l') [] [] => if l' = l then some (f, c.args.toList) else none
      | _ => none
    | _ => none
  | _ => none
def AS.clean (s : AS) (n : Nat) : AS := ⟨s.t.map (keepV n), s.h.take n⟩
section
variable (P : Program) (l : Nat) (h : List AObj) (N : Nat) (items : Nat → List AV)
def hnY (ov : Bool) : Nat := if ov = true then 0 else h.length
def onYI (o : Oper) (s : AS) (j : Nat) (ov : Bool) (K : AS → Nat → Bool → Prop) : Option (Prop × AS × AV) → Prop
  | some q => q.1 ∧ K (q.2.1.put o.dst q.2.2) j ov
  | none => False
def onYP (o : Oper) (s : AS) (j : Nat) (ov : Bool) (K : AS → Nat → Bool → Prop) : Option (Prop × AV) → Prop
  | some q => q.1 ∧ K (s.put o.dst q.2) j ov
  | none => onYI o s j ov K (implO P (hoN (hnY h ov)) s o.op)
def onYA (o : Oper) (s : AS) (j : Nat) (ov : Bool) (K : AS → Nat → Bool → Prop) : Option (Operand × List Operand) → Prop
  | some p => o.guard = none ∧ ov = false ∧ (s.ev p.1).gc ∧ gcsL s p.2 ∧ j < N ∧ evL s p.2 = items j ∧ (items j).all (itemOk h.length) = true ∧ s.h.take h.length = h ∧ K ((s.clean h.length).put o.dst (.c (.bool true))) (j + 1) false ∧ K ((s.clean 0).put o.dst (.c (.bool false))) (j + 1) true
  | none => o.guard = none ∧ onYP P h o s j ov K (pureV P anyRo s o.op)
def stepY (o : Oper) (s : AS) (j : Nat) (ov : Bool) (K : AS → Nat → Bool → Prop) : Prop := onYA P h N items o s j ov K (yldArgs l s o)
def runYL : List Oper → AS → Nat → Bool → (AS → Nat → Bool → Prop) → Prop
  | [], s, j, ov, K => K s j ov
  | o :: r, s, j, ov, K => stepY P l h N items o s j ov (fun s' j' ov' => runYL r s' j' ov' K)
/-- **The contract of an iterator, by itself.** -/
def ASeq0 (gf : FuncId) (caps : List AV) : Prop :=
  ∀ (G : Gh) (F : Nat → Prop) (w : World) (vs : Array Value), HRel G F h w → FC F w → RepL G (lens h) F w caps vs → ∀ (l : Nat) (J Jx : Nat → World → Prop) (W : World), Mod (fun _ => False) w W → (∀ j A B, J j A → Mod (fun _ => False) A B → J j B) → (∀ j A B, Jx j A → Mod (fun _ => False) A B → Jx j B) →
      (∀ j W0 W1 F2 ys, j < N → J j W0 → Mod (fun _ => False) W0 W1 → FY F W0 W1 F2 → RepL G (lens h) F2 W1 (items j) ys → YieldAt Fence.wide 0 P l ys W1 fun e W' => (e = .returned (.bool true) ∧ J (j + 1) W' ∧ ∀ b, F b ∨ kpB G h (List.range h.length) b → W'.heap[b]? = W1.heap[b]?) ∨ (e = .returned (.bool false) ∧ Jx (j + 1) W')) →
      J 0 W → CallsIn Fence.wide 1 P gf (#[.func (.yield l) #[] #[]] ++ vs) W fun e W' => (∃ v, e = .returned v) ∧ (J N W' ∨ ∃ j, j < N ∧ Jx (j + 1) W')
end
/-- the surroundings of an iterator's steps, since yield ran last -/
def EY (G : Gh) (F : Nat → Prop) (h : List AObj) (W : World) : Env := ⟨W, fun _ => False, F, G, lens h, allSt, hoN h.length, fun _ => False⟩
structure YCtx where
  G : Gh
  F : Nat → Prop
  w : World
  J : Nat → World → Prop
  Jx : Nat → World → Prop
def keptY (C : YCtx) (h : List AObj) (W : World) : Prop := ∀ b, C.F b ∨ kpB C.G h (List.range h.length) b → W.heap[b]? = C.w.heap[b]?
def SatY (C : YCtx) (h : List AObj) (j : Nat) (ov : Bool) (s : AS) (a : Act) (W : World) : Prop :=
  if ov = true then ∃ W0, C.Jx j W0 ∧ Sat (EY C.G (fun _ => False) [] W0) s a W else ∃ W0, C.J j W0 ∧ keptY C h W0 ∧ Sat (EY C.G C.F h W0) s a W
def PostY (C : YCtx) (h : List AObj) (Q : Exit → AS → Nat → Bool → Prop) (e : Exit) (a : Act) (W : World) : Prop := panE e = false ∧ ∃ s j ov, SatY C h j ov s a W ∧ Q e s j ov
section
variable {P : Program} {l : Nat} {h : List AObj} {N : Nat} {items : Nat → List AV} {C : YCtx}
theorem satY_ex {j : Nat} {ov : Bool} {s : AS} {a : Act} {W : World} (hs : SatY C h j ov s a W) : ∃ E : Env, E.ho = hoN (hnY h ov) ∧ E.ln0.length ≤ h.length ∧ Sat E s a W ∧ ∀ s' a' W', Sat E s' a' W' → SatY C h j ov s' a' W' := by
  cases ov with
  | true =>
    obtain ⟨W0, h1, h2⟩ : ∃ W0, C.Jx j W0 ∧ Sat (EY C.G (fun _ => False) [] W0) s a W := hs
    exact ⟨_, by simp [EY, hnY], by simp [EY, lens], h2, fun s' a' W' h3 => ⟨W0, h1, h3⟩⟩
  | false =>
    obtain ⟨W0, h1, hk, h2⟩ : ∃ W0, C.J j W0 ∧ keptY C h W0 ∧ Sat (EY C.G C.F h W0) s a W := hs
    exact ⟨_, by simp [EY, hnY], by simp [EY, lens], h2, fun s' a' W' h3 => ⟨W0, h1, hk, h3⟩⟩
theorem keepV_rep {G G' : Gh} {ln ln' : List Nat} {F F' : Nat → Prop} {w w' : World} {n : Nat} {av : AV} {v : Value} (hr : RepV G ln F w av v) (hk : ∀ k m, k < n → ln[k]? = some m → ln'[k]? = some m ∧ G'.σ k = G.σ k ∧ G'.bs k = G.bs k ∧ G'.vir k = G.vir k) : RepV G' ln' F' w' (keepV n av) v := by
  unfold keepV
  split
  · rw [hr.c_inv]; exact .cc _
  · rename_i k off m
    split
    · rename_i hlt
      cases hr with
      | d _ _ h => cases h
      | ptr _ _ _ h1 h2 =>
        obtain ⟨e1, e2, e3, e4⟩ := hk k m hlt h1
        rw [← e2]; exact .ptr k off m e1 (e4.trans h2)
      | ptrOld _ _ _ m' p h1 h2 => exact .ptrOld k off m m' p (hk k m' hlt h1).1 h2
    · exact .any _
  · rename_i k sz off n' m
    split
    · rename_i hlt
      cases hr with
      | d _ _ h => cases h
      | sl _ _ _ _ _ c h1 h2 h3 h4 h5 =>
        obtain ⟨e1, e2, e3, e4⟩ := hk k m hlt h1
        rw [← e2]; exact .sl k sz off n' m c e1 (e4.trans h2) h3 h4 (e3.symm ▸ h5)
      | slNil _ _ h1 h2 =>
        obtain ⟨e1, e2, e3, e4⟩ := hk k 0 hlt h1
        exact .slNil k sz e1 (e4.trans h2)
      | slOld _ _ _ _ _ m' A l c h1 h2 => exact .slOld k sz off n' m m' A l c (hk k m' hlt h1).1 h2
    · exact .any _
  · obtain ⟨cs, ds, rfl, h1, h2, _, _⟩ := clo_inv hr
    obtain rfl : cs = #[] := by simpa using h1.symm
    obtain rfl : ds = #[] := by simpa using h2.symm
    exact .clo _ [] [] #[] #[] rfl rfl (by simp) (by simp)
  · exact .any _
theorem itemOk_rep {G G' : Gh} {ln ln' : List Nat} {F F' : Nat → Prop} {w w' : World} {n : Nat} {av : AV} {v : Value} (ho : itemOk n av = true) (hr : RepV G ln F w av v) (hk : ∀ k m, k < n → ln[k]? = some m → ln'[k]? = some m ∧ G'.σ k = G.σ k ∧ G'.bs k = G.bs k ∧ G'.vir k = G.vir k) (hF : ∀ b, F b → F' b ∧ w'.heap[b]? = w.heap[b]?) : RepV G' ln' F' w' av v := by
  have hp : (∃ k off m, av = .ptr k off m ∧ k < n) ∨ (∃ k sz off c m, av = .sl k sz off c m ∧ k < n) ∨ (∃ z m l, av = .fs z m l) ∨ plainV av = true := by
    cases av <;> simp_all [itemOk]
  rcases hp with ⟨k, off, m, rfl, hlt⟩ | ⟨k, sz, off, c, m, rfl, hlt⟩ | ⟨z, m, l, rfl⟩ | hp
  · have := keepV_rep (F' := F') (w' := w') hr hk
    simpa [keepV, hlt] using this
  · have := keepV_rep (F' := F') (w' := w') hr hk
    simpa [keepV, hlt] using this
  · cases hr with
    | d _ _ h => exact .d _ _ (h.keep (fun b hb => (hF b hb).1) fun b hb => (hF b hb).2)
  · exact plain_rep hp hr
structure YOk (P : Program) (l : Nat) (h : List AObj) (N : Nat) (items : Nat → List AV) (C : YCtx) : Prop where
  heap : HRel C.G C.F h C.w
  fc : FC C.F C.w
  sj : ∀ j A B, C.J j A → Mod (fun _ => False) A B → C.J j B
  sx : ∀ j A B, C.Jx j A → Mod (fun _ => False) A B → C.Jx j B
  yld : ∀ j W0 W1 F2 ys, j < N → C.J j W0 → Mod (fun _ => False) W0 W1 → FY C.F W0 W1 F2 → RepL C.G (lens h) F2 W1 (items j) ys → YieldAt Fence.wide 0 P l ys W1 fun e W' => (e = .returned (.bool true) ∧ C.J (j + 1) W' ∧ ∀ b, C.F b ∨ kpB C.G h (List.range h.length) b → W'.heap[b]? = W1.heap[b]?) ∨ (e = .returned (.bool false) ∧ C.Jx (j + 1) W')
theorem wpB_wide {o : Oper} {a : Act} {w : World} {n : Nat} {next : Act → World → Prop} {Q : Exit → Act → World → Prop} (h : o.wpB P a w next) : o.wpIn Fence.wide n P a w next Q := by
  obtain ⟨hnd, h⟩ := h
  refine ⟨fun _ _ => trivial, ?_⟩
  rw [Oper.semAt_eq _ _ _ hnd]
  generalize (execOp a.eval o).run P w = r at *
  unfold upB at h
  split at h
  · exact h
  · exact h
  · exact ⟨fun h => (by cases h), (callsIn_wide.2 h).mono fun e w' ⟨v, he, hn⟩ => by subst he; exact hn⟩
  · cases h
theorem allSt_kp {k : Nat} {x : AObj} {G : Gh} (hk : h[k]? = some x) (hv : G.vir k = false) : kpB G h (List.range h.length) (G.σ k) :=
  ⟨k, x, List.mem_range.2 (List.getElem?_eq_some_iff.1 hk).1, hk, hv, rfl⟩
/-- the n first slots' story when yield has run -/
theorem clean_sat {G1 : Gh} {F1 : Nat → Prop} {s : AS} {a : Act} {W1 : World} {E : Env} (hr : Rel E G1 F1 s a W1) (hd : a.defers = []) (n : Nat) (G : Gh) (F : Nat → Prop) (W : World) (hH : HRel G F (s.h.take n) W) (hF : FC F W)
    (hk : ∀ k m, k < n → (lens s.h)[k]? = some m → (lens (s.h.take n))[k]? = some m ∧ G.σ k = G1.σ k ∧ G.bs k = G1.bs k ∧ G.vir k = G1.vir k) : Rel (EY G F (s.h.take n) W) G F (s.clean n) a W := by
  refine ⟨by simp [AS.clean, hr.len], .nil hd, fun i av v h1 h2 => ?_, hH, Mod.refl _ _, fun k x hx hv hf hho => ?_, fun b hb => .inl hb, fun b hb => hb, hF, (Later.refl _ _).same _⟩
  · simp only [AS.clean, List.getElem?_map, Option.map_eq_some_iff] at h1
    obtain ⟨u, hu, rfl⟩ := h1
    exact keepV_rep (hr.slot i u v hu h2) hk
  · have hlt := (List.getElem?_eq_some_iff.1 hx).1
    simp only [AS.clean] at hx hlt
    simp only [EY, hoN, decide_eq_false_iff_not] at hho
    omega
theorem yield_sound (hy : YOk P l h N items C) {o : Oper} {s : AS} {j : Nat} {p : Operand × List Operand} {a : Act} {W : World} (hs : SatY C h j false s a W) (hp : yldArgs l s o = some p) (hg : (s.ev p.1).gc) (hgs : gcsL s p.2) (hj : j < N) (hi : evL s p.2 = items j) (hio : (items j).all (itemOk h.length) = true) (hh : s.h.take h.length = h)
    {next : Act → World → Prop} {Q : Exit → Act → World → Prop} (h1 : ∀ a' W', SatY C h (j + 1) false ((s.clean h.length).put o.dst (.c (.bool true))) a' W' → next a' W') (h2 : ∀ a' W', SatY C h (j + 1) true ((s.clean 0).put o.dst (.c (.bool false))) a' W' → next a' W') : o.wpIn Fence.wide 1 P a W next Q := by
  obtain ⟨W0, hJ0, hk0, G1, F1, hr⟩ : ∃ W0, C.J j W0 ∧ keptY C h W0 ∧ Sat (EY C.G C.F h W0) s a W := hs
  have hM : Mod (fun _ => False) W0 W := hr.mod
  have hJ := hy.sj j W0 W hJ0 hM
  have hd : a.defers = [] := by
    cases hdd : a.defers with
    | nil => rfl
    | cons d ds => obtain ⟨D, _, e, _⟩ := hr.def0.mem d (by rw [hdd]; simp); exact e.elim
  obtain ⟨o_, ho_⟩ : ∃ c : Call, o.op = .call c ∧ c.callee = .value p.1 ∧ (s.ev p.1).ung = .clo (.yield l) [] [] ∧ p.2 = c.args.toList := by
    unfold yldArgs at hp
    split at hp
    · rename_i c ho
      split at hp
      · rename_i f hf
        split at hp
        · rename_i l' hcl
          split at hp
          · rename_i e
            injection hp with hp
            subst hp e
            exact ⟨c, ho, hf, hcl, rfl⟩
          · cases hp
        · cases hp
      · cases hp
    · cases hp
  obtain ⟨ho, hf, hcl, hargs⟩ := ho_
  have hc := (hr.ev p.1).ung hg
  rw [hcl] at hc
  obtain ⟨cs, ds, e1, e2, e3, _, _⟩ := clo_inv hc
  obtain rfl : cs = #[] := by simpa using e2.symm
  obtain rfl : ds = #[] := by simpa using e3.symm
  obtain ⟨m1, m2⟩ := evL_rep hr p.2 hgs
  have hlen : ∀ k, k < h.length → (lens s.h)[k]? = (lens h)[k]? := fun k hk => by
    have e : (lens (s.h.take h.length))[k]? = (lens h)[k]? := by rw [hh]
    rw [← e]
    simp only [lens, List.getElem?_map, List.getElem?_take]
    rw [if_pos hk]
  have hagree : ∀ k m, k < h.length → (lens s.h)[k]? = some m → (lens h)[k]? = some m ∧ C.G.σ k = G1.σ k ∧ C.G.bs k = G1.bs k ∧ C.G.vir k = G1.vir k := fun k m hk hm => by
    have hm' := (hlen k hk).symm.trans hm
    rcases hr.lat k m rfl hm' with ⟨f1, f2, f3, f4⟩ | ⟨m', f1, f2⟩
    · exact ⟨hm', f2.symm, f3.symm, f4.symm⟩
    · rw [hm] at f1; injection f1 with f1; omega
  have hrep : RepL C.G (lens h) F1 W (items j) (o_.args.map a.eval) := by
    refine ⟨?_, fun i u x hu hx => ?_⟩
    · rw [← hi, m1, hargs]; simp
    · have hok := List.all_eq_true.1 hio u (List.mem_of_getElem? hu)
      rw [← hi] at hu
      exact itemOk_rep hok (m2 i u x hu (by rw [hargs]; simpa using hx)) hagree fun b hb => ⟨hb, rfl⟩
  obtain ⟨fn, tmps, assign, body, hrunY, hR⟩ := hy.yld j W0 W F1 (o_.args.map a.eval) hj hJ0 hM ⟨hr.f0, fun b hb => (hr.fsup b hb).imp _root_.id (fun h => h.elim (fun h => h.elim) _root_.id), hr.fc⟩ hrep
  have hrun : (execOp a.eval o).run P W = .ok (.round l fn tmps assign body) W := by
    unfold execOp
    simp [ho, resolve, hf, e1, Deferred.ofValue, invoke, hrunY]
  refine ⟨fun _ _ => trivial, ?_⟩
  rw [Oper.semAt_eq _ _ _ (fun c hc => by rw [ho] at hc; cases hc), hrun, Oper.uponIn_round]
  refine ⟨fun h => (by cases h), hR.mono fun e W' hpost => ?_⟩
  rcases hpost with ⟨rfl, hJ', hkp⟩ | ⟨rfl, hJx⟩
  · have hk' : keptY C h W' := fun b hb => (hkp b hb).trans (by
      have hb0 := hk0 b hb
      rw [← hb0]
      have hlt : b < W0.heap.size := by
        obtain ⟨o, ho⟩ : ∃ o, C.w.heap[b]? = some o := by
          rcases hb with hb | ⟨k, x, hkk, hx, hv, rfl⟩
          · obtain ⟨c, t, f, e⟩ := hy.fc b hb; exact ⟨_, e⟩
          · exact ⟨_, Array.getElem?_eq_getElem (hy.heap.lt hx hv)⟩
        rw [ho] at hb0
        exact lt_of_heap hb0
      exact hM.block b hlt fun h => h)
    refine h1 _ _ ⟨W', hJ', hk', ?_⟩
    have hFk : ∀ b, C.F b → W'.heap[b]? = C.w.heap[b]? := fun b hb => hk' b (.inl hb)
    have hHW : HRel C.G C.F h W' := ⟨fun k y hy' => (hy.heap.obj k y hy').keep (Later.refl _ _) (fun _ h => h) hFk ⟨rfl, rfl, rfl⟩ (fun hv => hk' _ (.inr (allSt_kp hy' hv))) fun hv hf => hy.heap.nfz hy' hv hf, hy.heap.inj⟩
    have := clean_sat hr hd h.length C.G C.F W' (by rw [hh]; exact hHW) (hy.fc.keep hFk) (by rw [hh]; exact hagree)
    rw [hh] at this
    refine ⟨C.G, C.F, ?_⟩
    exact this.put (.cc _) o.dst
  · refine h2 _ _ ⟨W', hJx, ?_⟩
    have := clean_sat (n := 0) hr hd C.G (fun _ => False) W' ⟨fun k x hk => by simp at hk, fun j k x y hj => by simp at hj⟩ (fun b hb => hb.elim) (fun k m hk => by omega)
    simp only [List.take_zero] at this
    exact ⟨C.G, _, this.put (.cc _) o.dst⟩
theorem stepY_sound (hy : YOk P l h N items C) {o : Oper} {s : AS} {j : Nat} {ov : Bool} {K : AS → Nat → Bool → Prop} (hk : stepY P l h N items o s j ov K) {a : Act} {W : World} (hs : SatY C h j ov s a W) {next : Act → World → Prop} {Q : Exit → Act → World → Prop}
    (hn : ∀ s' j' ov' a' W', SatY C h j' ov' s' a' W' → K s' j' ov' → next a' W') : o.guard = none ∧ o.wpIn Fence.wide 1 P a W next Q := by
  unfold stepY onYA at hk
  split at hk
  · rename_i p hp
    obtain ⟨g0, rfl, g1, g2, g3, g4, g5, g6, g7, g8⟩ := hk
    exact ⟨g0, yield_sound hy hs hp g1 g2 g3 g4 g5 g6 (fun a' W' h' => hn _ _ _ a' W' h' g7) fun a' W' h' => hn _ _ _ a' W' h' g8⟩
  · obtain ⟨g0, hk⟩ := hk
    refine ⟨g0, ?_⟩
    obtain ⟨E, hE, _, ⟨G1, F1, hr⟩, hback⟩ := satY_ex hs
    have : stepO P E o s (fun s' => K s' j ov) := by
      unfold stepO onPure
      unfold onYP at hk
      split at hk
      · rename_i q hq; rw [hq]; exact hk
      · rename_i hq
        rw [hq]
        rw [← hE] at hk
        unfold onImpl
        unfold onYI at hk
        split at hk
        · rename_i q hq2; simp only; rw [hq2]; exact hk
        · cases hk
    exact wpB_wide (stepO_soundB hr o this fun s' a' W' h1 h2 => hn s' j ov a' W' (hback s' a' W' h1) h2)
theorem runYL_sound (hy : YOk P l h N items C) {ops : Array Oper} {Q : Exit → Act → World → Prop} {K : AS → Nat → Bool → Prop} (hQ : ∀ s' j' ov' a' W', SatY C h j' ov' s' a' W' → K s' j' ov' → Q .normal a' W') : ∀ (L : List Oper) (s : AS) (j : Nat) (ov : Bool) (a : Act) (W : World), SatY C h j ov s a W → runYL P l h N items L s j ov K → wpListIn Fence.wide 1 P ops Q L a W := by
  intro L
  induction L with
  | nil => intro s j ov a W hs hk; exact hQ s j ov a W hs hk
  | cons o L ih =>
    intro s j ov a W hs hk
    obtain ⟨g0, hw⟩ := stepY_sound hy hk hs (next := wpListIn Fence.wide 1 P ops Q L) (Q := Q) fun s' j' ov' a' W' h1 h2 => ih s' j' ov' a' W' h1 h2
    unfold wpListIn
    rw [if_pos (by simp [Region.wanted, g0])]
    exact hw
/-! code -/
def YW (P : Program) (C : YCtx) (h : List AObj) (c : Code) (s : AS) (j : Nat) (ov : Bool) (Q : Exit → AS → Nat → Bool → Prop) : Prop := ∀ a W, SatY C h j ov s a W → c.wp P (PostY C h Q) a W
def seqY (n : AS → Nat → Bool → Prop) (Q : Exit → AS → Nat → Bool → Prop) : Exit → AS → Nat → Bool → Prop
  | .normal => n
  | e => Q e
def blockY (id : Nat) (Q : Exit → AS → Nat → Bool → Prop) : Exit → AS → Nat → Bool → Prop
  | .exit id' => fun s j ov => if id' = id then Q .normal s j ov else Q (.exit id') s j ov
  | e => Q e
def DrawY (P : Program) (h : List AObj) (ops : Array Oper) (s : AS) (j : Nat) (ov : Bool) (K : AS → Nat → Bool → Prop) : Prop := ∀ E : Env, E.ho = hoN (hnY h ov) → DrawG P E ops s fun s' => K s' j ov
def LoopY (P : Program) (l : Nat) (h : List AObj) (N : Nat) (items : Nat → List AV) (b : Code) (s : AS) (j : Nat) (ov : Bool) (Q : Exit → AS → Nat → Bool → Prop) : Prop := ∀ C, YOk P l h N items C → YW P C h (.loop b) s j ov Q
def runY (P : Program) (l : Nat) (h : List AObj) (N : Nat) (items : Nat → List AV) : Code → AS → Nat → Bool → (Exit → AS → Nat → Bool → Prop) → Prop
  | .skip, s, j, ov, Q => Q .normal s j ov
  | .region _ ops false, s, j, ov, Q => runYL P l h N items ops.toList s j ov (Q .normal)
  | .region _ ops true, s, j, ov, Q => DrawY P h ops s j ov (Q .normal)
  | .seq x y, s, j, ov, Q => runY P l h N items x s j ov (seqY (fun s' j' ov' => runY P l h N items y s' j' ov' Q) Q)
  | .cond c x y, s, j, ov, Q => (s.ev c).gc ∧ condP (runY P l h N items x s j ov Q) (runY P l h N items y s j ov Q) (s.ev c).ung
  | .block id b, s, j, ov, Q => runY P l h N items b s j ov (blockY id Q)
  | .loop b, s, j, ov, Q => LoopY P l h N items b s j ov Q
  | .exit id, s, j, ov, Q => Q (.exit id) s j ov
  | .label _, s, j, ov, Q => Q .normal s j ov
  | .goto l, s, j, ov, Q => Q (.goto l) s j ov
  | .ret, s, j, ov, Q => Q .ret s j ov
  | _, _, _, _, _ => False
theorem SatY.drew {j : Nat} {ov : Bool} {s : AS} {a : Act} {W : World} (hs : SatY C h j ov s a W) : SatY C h j ov s a W.drew := by
  obtain ⟨E, _, _, h1, h2⟩ := satY_ex hs
  exact h2 s a _ (Sat.drew h1)
theorem runY_sound (hm : P.follows .mixedOrders = true) (hy : YOk P l h N items C) : ∀ (c : Code) (s : AS) (j : Nat) (ov : Bool) (Q : Exit → AS → Nat → Bool → Prop), runY P l h N items c s j ov Q → YW P C h c s j ov Q := by
  intro c
  induction c with
  | skip => intro s j ov Q hk a W hs; exact wp_skip ⟨rfl, s, j, ov, hs, hk⟩
  | region id ops draw =>
    intro s j ov Q hk a W hs
    cases draw with
    | false => exact (wpIn_wide (n := 1)).1 (wpIn_region_list (runYL_sound hy (Q := PostY C h Q) (fun s' j' ov' a' W' h1 h2 => ⟨rfl, s', j', ov', h1, h2⟩) _ s j ov a W hs hk))
    | true =>
      obtain ⟨E, hE, _, h1, h2⟩ := satY_ex hs.drew
      exact wp_region_any hm (wpAnyB_wp _ _ _ _ (hk E hE a _ h1 (PostY C h Q .normal) fun s' a' w' g1 g2 => ⟨rfl, s', j, ov, h2 s' a' w' g1, g2⟩))
  | seq x y ihx ihy =>
    intro s j ov Q hk a W hs
    refine wp_seq (Code.wp_mono (fun e a' w' ⟨h0, s', j', ov', h1, h2⟩ => ?_) (ihx s j ov _ hk a W hs))
    cases e with
    | normal => exact ihy s' j' ov' Q h2 a' w' h1
    | _ => exact ⟨h0, s', j', ov', h1, h2⟩
  | cond c x y ihx ihy =>
    intro s j ov Q hk a W hs
    obtain ⟨g1, hk⟩ := hk
    obtain ⟨E, _, _, ⟨G, F, hr⟩, _⟩ := satY_ex hs
    have hc := (hr.ev c).ung g1
    unfold condP at hk
    split at hk
    · rename_i v e1
      rw [e1] at hc
      refine wp_cond_split hc.c_inv (fun hv => ihx s j ov Q (by rw [if_pos hv] at hk; exact hk) a W hs) fun hv => ihy s j ov Q (by rw [if_neg (by rw [hv]; decide)] at hk; exact hk) a W hs
    · cases hk
  | block id b ih =>
    intro s j ov Q hk a W hs
    refine wp_block (Code.wp_mono (fun e a' w' ⟨h0, s', j', ov', h1, h2⟩ => ?_) (ih s j ov _ hk a W hs))
    cases e with
    | exit id' =>
      simp only [blockY] at h2
      simp only [Exit.inBlock]
      split
      · rename_i e; rw [if_pos e] at h2; exact ⟨rfl, s', j', ov', h1, h2⟩
      · rename_i e; rw [if_neg e] at h2; exact ⟨rfl, s', j', ov', h1, h2⟩
    | _ => exact ⟨h0, s', j', ov', h1, h2⟩
  | loop b ih => intro s j ov Q hk; exact hk C hy
  | exit id => intro s j ov Q hk a W hs; exact wp_exit ⟨rfl, s, j, ov, hs, hk⟩
  | label l => intro s j ov Q hk a W hs; exact wp_label ⟨rfl, s, j, ov, hs, hk⟩
  | goto l => intro s j ov Q hk a W hs; exact wp_goto ⟨rfl, s, j, ov, hs, hk⟩
  | ret => intro s j ov Q hk a W hs; exact wp_ret ⟨rfl, s, j, ov, hs, hk⟩
  | rangeFunc f ps x b _ _ => intro s j ov Q hk; cases hk
  | scope b _ => intro s j ov Q hk; cases hk
  | refuse y => intro s j ov Q hk; cases hk
/-- the slots and blocks may be told otherwise -/
def WkY (h : List AObj) (s s' : AS) : Prop := ∀ E : Env, E.ln0.length ≤ h.length → Wk E s s'
theorem WkY.sat {s s' : AS} (hw : WkY h s s') {j : Nat} {ov : Bool} {a : Act} {W : World} (hs : SatY C h j ov s a W) : SatY C h j ov s' a W := by
  obtain ⟨E, _, hl, h1, h2⟩ := satY_ex hs
  exact h2 s' a W (hw E hl a W h1)
def roundY {X : Type} (h : List AObj) (st : X → AS) (jx : X → Nat) (μ : X → Nat) (Inv : X → Prop) (x : X) (Q : Exit → AS → Nat → Bool → Prop) : Exit → AS → Nat → Bool → Prop
  | .normal => fun s j ov => ov = false ∧ ∃ x', Inv x' ∧ μ x' < μ x ∧ jx x' = j ∧ WkY h s (st x')
  | e => Q e
theorem loopY_of (hm : P.follows .mixedOrders = true) {X : Type} {b : Code} {s : AS} {j : Nat} {Q : Exit → AS → Nat → Bool → Prop} (st : X → AS) (jx : X → Nat) (μ : X → Nat) (Inv : X → Prop) (x0 : X) (h0 : Inv x0) (hj : jx x0 = j) (hw : WkY h s (st x0)) (round : ∀ x, Inv x → runY P l h N items b (st x) (jx x) false (roundY h st jx μ Inv x Q)) : LoopY P l h N items b s j false Q := by
  intro C hy a W hs
  refine wp_loop_ghost (fun n a w => ∃ x, Inv x ∧ μ x = n ∧ SatY C h (jx x) false (st x) a w) (μ x0) ⟨x0, h0, rfl, by rw [hj]; exact hw.sat hs⟩ fun n a w ⟨x, hx, hn, hsx⟩ => ?_
  refine Code.wp_mono (fun e a' w' ⟨hp, s', j', ov', h1, h2⟩ => ?_) (runY_sound hm hy b _ _ _ _ (round x hx) a w hsx)
  cases e with
  | normal =>
    obtain ⟨rfl, x', h3, h4, h6, h5⟩ := h2
    exact ⟨μ x', by omega, x', h3, rfl, by rw [h6]; exact h5.sat h1⟩
  | _ => exact ⟨hp, s', j', ov', h1, h2⟩
def finY (N : Nat) : Exit → AS → Nat → Bool → Prop
  | .normal => fun _ j ov => (ov = false → j = N) ∧ (ov = true → 1 ≤ j ∧ j ≤ N)
  | .ret => fun _ j ov => (ov = false → j = N) ∧ (ov = true → 1 ≤ j ∧ j ≤ N)
  | _ => fun _ _ _ => False
theorem aseq0_of {gf : FuncId} {fn : Func} {c : Code} {caps : List AV} {n : Nat} (hm : P.follows .mixedOrders = true) (hf : P.funcs[gf]? = some fn) (hb : fn.body = some c) (hn : fn.ntmps = n) (hrs : fn.results = #[])
    (H : ∀ l, runY P l h N items c ⟨.clo (.yield l) [] [] :: (caps ++ anyS (n - (caps.length + 1))), h⟩ 0 false (finY N)) : ASeq0 P h N items gf caps := by
  subst hn
  simp only [anyS_eq] at H
  intro G F w vs hh hfc hrep l J Jx W hM sj sx hyl hJ0
  have hy : YOk P l h N items ⟨G, F, w, J, Jx⟩ := ⟨hh, hfc, sj, sx, hyl⟩
  refine callsIn_wide.2 (calls_of_wp hf hb ?_)
  have hFk : ∀ b, F b → W.heap[b]? = w.heap[b]? := fun b hb => hM.block b (hfc.lt b hb) fun h => h
  have hk : keptY ⟨G, F, w, J, Jx⟩ h W := fun b hb => by
    rcases hb with hb | ⟨k, x, _, hx, hv, rfl⟩
    · exact hFk b hb
    · exact hM.block _ (hh.lt hx hv) fun h => h
  have hHW : HRel G F h W := ⟨fun k y hy' => (hh.obj k y hy').keep (Later.refl _ _) (fun _ h => h) hFk ⟨rfl, rfl, rfl⟩ (fun hv => hM.block _ (hh.lt hy' hv) fun h => h) fun hv hf => hh.nfz hy' hv hf, hh.inj⟩
  have hs : SatY ⟨G, F, w, J, Jx⟩ h 0 false ⟨.clo (.yield l) [] [] :: (caps ++ List.replicate (fn.ntmps - (caps.length + 1)) .any), h⟩ { tmps := (#[.func (.yield l) #[] #[]] ++ vs) ++ Array.replicate (fn.ntmps - (#[Value.func (.yield l) #[] #[]] ++ vs).size) undef, defers := [] } W := by
    refine ⟨W, hJ0, hk, G, F, ?_⟩
    refine ⟨?_, .nil rfl, fun i av v h1 h2 => ?_, hHW, Mod.refl _ _, fun k x hx hv hf hho => ?_, fun b hb => .inl hb, fun b hb => hb, hfc.keep hFk, (Later.refl _ _).same _⟩
    · have := hrep.1
      simp; omega
    · cases i with
      | zero =>
        rw [Array.getElem?_append_left (by simp; omega), Array.getElem?_append_left (by simp)] at h2
        simp at h1 h2
        subst h1 h2
        exact .clo _ [] [] #[] #[] rfl rfl (by simp) (by simp)
      | succ i =>
        simp only [List.getElem?_cons_succ] at h1
        by_cases hi : i < caps.length
        · rw [List.getElem?_append_left hi] at h1
          rw [Array.getElem?_append_left (by have := hrep.1; simp; omega), Array.getElem?_append_right (by simp)] at h2
          exact (hrep.2 i av v h1 (by simpa using h2)).keep (Later.refl _ _) (fun _ h => h) hFk
        · rw [List.getElem?_append_right (by omega), List.getElem?_replicate] at h1
          split at h1
          · injection h1 with h1; subst h1; exact .any _
          · cases h1
    · have hlt := (List.getElem?_eq_some_iff.1 hx).1
      simp only [EY, hoN, decide_eq_false_iff_not] at hho
      simp only at hlt
      omega
  refine Code.wp_mono (fun e a' W' ⟨hp, s', j', ov', h1, h2⟩ => ?_) (runY_sound hm hy c _ _ _ _ (H l) _ W hs)
  have key : ((ov' = false → j' = N) ∧ (ov' = true → 1 ≤ j' ∧ j' ≤ N)) → (a'.defers = [] ∧ ∃ v, (results fn a'.tmps).run P W' = .ok v W' ∧ ((∃ v', Ending.returned v = .returned v') ∧ (J N W' ∨ ∃ j, j < N ∧ Jx (j + 1) W'))) := fun ⟨k1, k2⟩ => by
    have hdef : ∀ {E : Env} {G : Gh} {F : Nat → Prop}, E.mks = (fun _ => False) → Rel E G F s' a' W' → a'.defers = [] := fun hE hr => by
      cases hdd : a'.defers with
      | nil => rfl
      | cons d ds => obtain ⟨D, _, e, _⟩ := hr.def0.mem d (by rw [hdd]; simp); rw [hE] at e; exact e.elim
    have hres : ∀ v, (results fn a'.tmps).run P W' = .ok v W' → True := fun _ _ => trivial
    have hrn : (results fn a'.tmps).run P W' = .ok (.tuple #[]) W' := by
      have := results_run (P := P) (fn := fn) (tmps := a'.tmps) (vs := []) (w := W') (by rw [hrs]; rfl)
      exact this
    cases ov' with
    | false =>
      obtain ⟨W0, hJ, _, G1, F1, hr⟩ : ∃ W0, J j' W0 ∧ keptY ⟨G, F, w, J, Jx⟩ h W0 ∧ Sat (EY G F h W0) s' a' W' := h1
      have := k1 rfl
      subst this
      exact ⟨hdef rfl hr, _, hrn, ⟨_, rfl⟩, .inl (sj _ _ _ hJ hr.mod)⟩
    | true =>
      obtain ⟨W0, hJ, G1, F1, hr⟩ : ∃ W0, Jx j' W0 ∧ Sat (EY G (fun _ => False) [] W0) s' a' W' := h1
      obtain ⟨k3, k4⟩ := k2 rfl
      refine ⟨hdef rfl hr, _, hrn, ⟨_, rfl⟩, .inr ⟨j' - 1, by omega, ?_⟩⟩
      rw [Nat.sub_add_cancel k3]
      exact sx _ _ _ hJ hr.mod
  cases e with
  | normal => exact key h2
  | ret => exact key h2
  | _ => cases h2
theorem wkL_any (dead : List Nat) : ∀ l : List AV, wkL dead l (anyS l.length) := by
  intro l
  induction l with
  | nil => trivial
  | cons v l ih => exact ⟨trivial, ih⟩
/-- of the slots nothing is told -/
theorem wk_drop {E : Env} {s : AS} {h' : List AObj} (n m : Nat) (hlen : s.h.length = n + m) (hn : E.ln0.length ≤ n) (hh : s.h.take n = h') (ho : livH (List.range' n m) [] 0 h' = true) : Wk E s ⟨anyS s.t.length, h'⟩ := wk_of n m hlen hn hh ho (wkL_any _ _)
theorem range_next {E : Env} {kp : List Nat} {h h' : List AObj} {t : List AV} {I' : Prop} {Q : Exit → AS → Prop} {s : AS} (n m : Nat) (hI : I') (hlen : s.h.length = n + m) (hn : E.ln0.length ≤ n) (hh : s.h.take n = h') (ho : livH (List.range' n m) [] 0 h' = true) : rangeK E kp h h' t I' Q .normal s := ⟨hI, _, wk_drop n m hlen hn hh ho⟩
theorem range_exit {E : Env} {kp : List Nat} {h h' : List AObj} {t : List AV} {I' : Prop} {Q : Exit → AS → Prop} {s : AS} {i : Nat} (n m : Nat) (hlen : s.h.length = n + m) (hn : E.ln0.length ≤ n) {h'' : List AObj} (hh : s.h.take n = h'') (ho : livH (List.range' n m) [] 0 h'' = true) (hk : heldH kp h h'') (hq : Q (.exit i) ⟨t, h''⟩) : rangeK E kp h h' t I' Q (.exit i) s := ⟨_, h'', wk_drop n m hlen hn hh ho, hk, hq⟩
theorem range_ret {E : Env} {kp : List Nat} {h h' : List AObj} {t : List AV} {I' : Prop} {Q : Exit → AS → Prop} {s : AS} (n m : Nat) (hlen : s.h.length = n + m) (hn : E.ln0.length ≤ n) {h'' : List AObj} (hh : s.h.take n = h'') (ho : livH (List.range' n m) [] 0 h'' = true) (hk : heldH kp h h'') (hq : Q .ret ⟨t, h''⟩) : rangeK E kp h h' t I' Q .ret s := ⟨_, h'', wk_drop n m hlen hn hh ho, hk, hq⟩
/-! the contract, at the blocks of whoever ranges -/
def rebI (lent : List Nat) : AV → AV
  | .sl i sz off c m => .sl (lent.getD i 0) sz off c m
  | .ptr i off m => .ptr (lent.getD i 0) off m
  | v => v
theorem rebI_rep {lent : List Nat} {G Gc : Gh} {ln lnc : List Nat} {F Fc : Nat → Prop} {w w' : World} {n : Nat} {av : AV} {v : Value} (ho : itemOk n av = true) (hr : RepV Gc lnc Fc w av v) (hk : ∀ i m, i < n → lnc[i]? = some m → ln[lent.getD i 0]? = some m ∧ G.σ (lent.getD i 0) = Gc.σ i ∧ G.bs (lent.getD i 0) = Gc.bs i ∧ G.vir (lent.getD i 0) = Gc.vir i) (hF : ∀ b, Fc b → F b ∧ w'.heap[b]? = w.heap[b]?) : RepV G ln F w' (rebI lent av) v := by
  unfold rebI
  split
  · rename_i i sz off c m
    have hlt : i < n := by simpa [itemOk] using ho
    cases hr with
    | d _ _ h => cases h
    | sl _ _ _ _ _ c' h1 h2 h3 h4 h5 =>
      obtain ⟨e1, e2, e3, e4⟩ := hk i m hlt h1
      rw [← e2]; exact .sl _ sz off c m c' e1 (e4.trans h2) h3 h4 (e3.symm ▸ h5)
    | slNil _ _ h1 h2 =>
      obtain ⟨e1, e2, e3, e4⟩ := hk i 0 hlt h1
      exact .slNil _ sz e1 (e4.trans h2)
    | slOld _ _ _ _ _ m' A l c' h1 h2 => exact .slOld _ sz off c m m' A l c' (hk i m' hlt h1).1 h2
  · rename_i i off m
    have hlt : i < n := by simpa [itemOk] using ho
    cases hr with
    | d _ _ h => cases h
    | ptr _ _ _ h1 h2 =>
      obtain ⟨e1, e2, e3, e4⟩ := hk i m hlt h1
      rw [← e2]; exact .ptr _ off m e1 (e4.trans h2)
    | ptrOld _ _ _ m' p h1 h2 => exact .ptrOld _ off m m' p (hk i m' hlt h1).1 h2
  · rename_i h1 h2
    by_cases hfs : ∃ z m l, av = .fs z m l
    · obtain ⟨z, m, l, rfl⟩ := hfs
      cases hr with
      | d _ _ h => exact .d _ _ (h.keep (fun b hb => (hF b hb).1) fun b hb => (hF b hb).2)
    · refine plain_rep ?_ hr
      cases av with
      | sl k sz off c m => exact absurd rfl (h1 k sz off c m)
      | ptr k off m => exact absurd rfl (h2 k off m)
      | fs z m l => exact absurd ⟨z, m, l, rfl⟩ hfs
      | _ => exact ho
theorem aseq_lift {gf : FuncId} {caps cargs : List AV} {hs : List AObj} (lent : List Nat) {pa po : Prop} (hc : ASeq0 P h N items gf cargs) (ha : AV.convL lent (fun _ => false) hs caps = some (pa, cargs)) (ho : convOs lent (fun _ => false) hs lent = some (po, h)) (hp : pa ∧ po) (hn : lent.Nodup)
    (hi : ∀ j, j < N → (items j).all (itemOk h.length) = true) : ASeq P gf caps hs lent N (fun j => (items j).map (rebI lent)) := by
  intro G F w vs hh hfc hrep l J Jx W hM sj sx hyl hJ0
  obtain ⟨c1, c2, c3⟩ := hh.conv ho hp.2 hn (fun _ _ => rfl)
  have hFc : ∀ b, (F b ∨ ∃ k kd cs, hs[k]? = some (.o kd cs) ∧ (fun _ : Nat => false) k = true ∧ G.vir k = false ∧ b = G.σ k) → F b := fun b hb => by
    rcases hb with hb | ⟨_, _, _, _, h, _⟩
    · exact hb
    · cases h
  obtain ⟨ca1, ca2⟩ := convL_at ha hp.1
  refine hc _ _ w vs c1 (fun b hb => hfc b (hFc b hb)) ⟨ca1.trans hrep.1, fun j u' x hu hx => ?_⟩ l J Jx W hM sj sx (fun j W0 W1 F2 ys hj hJ hm hfy hys => ?_) hJ0
  · obtain ⟨u, q, f1, f2, f3⟩ := ca2 j u' hu
    exact RepV.conv hh c2 (fun b hb => .inl hb) (fun k kd cs h1 h2 h3 => .inr ⟨k, kd, cs, h1, h2, h3, rfl⟩) (hrep.2 j u x f1 hx) f2 f3
  · have hlen : h.length = lent.length := (convOs_at ho hp.2).1
    have hy : RepL G (lens hs) F2 W1 ((items j).map (rebI lent)) ys := by
      refine ⟨by simpa using hys.1, fun i u x hu hx => ?_⟩
      rw [List.getElem?_map, Option.map_eq_some_iff] at hu
      obtain ⟨v, hv, rfl⟩ := hu
      refine rebI_rep (List.all_eq_true.1 (hi j hj) v (List.mem_of_getElem? hv)) (hys.2 i v x hv hx) (fun i' m hi' hm => ?_) fun b hb => ⟨hb, rfl⟩
      have hl : lent[i']? = some (lent.getD i' 0) := by
        have : i' < lent.length := by omega
        simp [List.getD, List.getElem?_eq_getElem this]
      obtain ⟨e1, e2, e3, e4⟩ := c2 i' _ hl
      exact ⟨e4 ▸ hm, e1.symm, e2.symm, e3.symm⟩
    obtain ⟨fn, tmps, assign, body, h1, h2⟩ := hyl j W0 W1 F2 ys hj hJ hm ⟨fun b hb => hfy.1 b (.inl hb), fun b hb => (hfy.2.1 b hb).imp (hFc b) _root_.id, hfy.2.2⟩ hy
    refine ⟨fn, tmps, assign, body, h1, h2.mono fun e W' he => ?_⟩
    rcases he with ⟨e1, e2, e3⟩ | he
    · refine .inl ⟨e1, e2, fun b hb => e3 b ?_⟩
      rcases hb with hb | ⟨i, y, hik, hy', hv, rfl⟩
      · exact .inl (hFc b hb)
      · obtain ⟨k, x, g1, g2, _, _⟩ := c3 hy'
        obtain ⟨f1, _, f3, _⟩ := c2 i k g1
        exact .inr ⟨k, x, List.mem_of_getElem? g1, g2, f3 ▸ hv, f1⟩
    · exact .inr he
theorem range_k (hm : P.follows .mixedOrders = true) {E : Env} {s : AS} {f : Operand} {ps : Array Tmp} {id : Nat} {ops : Array Oper} {b : Code} {Q : Exit → AS → Prop} (lent : List Nat) {gf : FuncId} {cargs : List AV} (hc : ASeq0 P h N items gf cargs) (hE : E.ho = noHo) (hmk : ∀ D, E.w0.heap.size ≤ D → E.mks D) {caps : List AV} {pa po : Prop} (hg : (s.ev f).gc ∧ (s.ev f).ung = .clo (.func gf) [] caps) (hcl : callable P gf = true)
    (ha : AV.convL lent (fun _ => false) s.h caps = some (pa, cargs)) (ho : convOs lent (fun _ => false) s.h lent = some (po, h)) (hp : pa ∧ po) (hn : lent.Nodup) (hi : ∀ j, (items j).all (itemOk h.length) = true ∧ (items j).length = ps.size) (hpl : plainC b = true) (hlt : ∀ k ∈ lent, k < s.h.length)
    (Inv : Nat → Prop) (hI0 : Inv 0) (hh : Nat → List AObj) (h0 : hh 0 = s.h) (hheld : ∀ j, j ≤ N → heldH lent s.h (hh j))
    (round : ∀ j, j < N → Inv j → ∀ E' : Env, E'.ho = (fun k => lent.contains k) → E'.ln0 = lens (hh j) → E'.st = allSt → runK P E' [] (.region id ops false) [] (midK P b lent (hh j) (hh (j + 1)) s.t (Inv (j + 1)) Q) ⟨setPs s.t ps.toList ((items j).map (rebI lent)), hh j⟩)
    (done : Inv N → Q .normal ⟨s.t, hh N⟩) : RangeFG P E (.rangeFunc f ps (.region id ops false) b) s Q :=
  range_of hm hE hmk hg.1 hg.2 hcl lent hlt (aseq_lift lent hc ha ho hp hn fun j _ => (hi j).1) (fun j => by simpa using (hi j).2) hpl Inv hI0 hh h0 hheld round done
end

/-! ## How simp steps through an iterator -/
section
variable {P : Program} {l : Nat} {h : List AObj} {N : Nat} {items : Nat → List AV}
def contY (P : Program) (l : Nat) (h : List AObj) (N : Nat) (items : Nat → List AV) (fin : Exit → AS → Nat → Bool → Prop) : List Fr → Exit → AS → Nat → Bool → Prop
  | [] => fin
  | .seq y :: r => seqY (fun s j ov => runY P l h N items y s j ov (contY P l h N items fin r)) (contY P l h N items fin r)
  | .block id :: r => blockY id (contY P l h N items fin r)
def runYK (P : Program) (l : Nat) (h : List AObj) (N : Nat) (items : Nat → List AV) (c : Code) (stk : List Fr) (fin : Exit → AS → Nat → Bool → Prop) (s : AS) (j : Nat) (ov : Bool) : Prop := runY P l h N items c s j ov (contY P l h N items fin stk)
def contYK (P : Program) (l : Nat) (h : List AObj) (N : Nat) (items : Nat → List AV) (stk : List Fr) (fin : Exit → AS → Nat → Bool → Prop) (e : Exit) (s : AS) (j : Nat) (ov : Bool) : Prop := contY P l h N items fin stk e s j ov
def runYO (P : Program) (l : Nat) (h : List AObj) (N : Nat) (items : Nat → List AV) (L : List Oper) (stk : List Fr) (fin : Exit → AS → Nat → Bool → Prop) (s : AS) (j : Nat) (ov : Bool) : Prop := runYL P l h N items L s j ov (contY P l h N items fin stk .normal)
variable {stk : List Fr} {fin : Exit → AS → Nat → Bool → Prop} {s : AS} {j : Nat} {ov : Bool}
theorem onYI_some {o : Oper} {K : AS → Nat → Bool → Prop} {q : Prop × AS × AV} : onYI o s j ov K (some q) = (q.1 ∧ K (q.2.1.put o.dst q.2.2) j ov) := congrArg _root_.id rfl
theorem onYP_some {o : Oper} {K : AS → Nat → Bool → Prop} {q : Prop × AV} : onYP P h o s j ov K (some q) = (q.1 ∧ K (s.put o.dst q.2) j ov) := congrArg _root_.id rfl
theorem onYP_none {o : Oper} {K : AS → Nat → Bool → Prop} : onYP P h o s j ov K none = onYI o s j ov K (implO P (hoN (hnY h ov)) s o.op) := congrArg _root_.id rfl
theorem onYA_some {o : Oper} {K : AS → Nat → Bool → Prop} {p : Operand × List Operand} : onYA P h N items o s j ov K (some p) = (o.guard = none ∧ ov = false ∧ (s.ev p.1).gc ∧ gcsL s p.2 ∧ j < N ∧ evL s p.2 = items j ∧ (items j).all (itemOk h.length) = true ∧ s.h.take h.length = h ∧ K ((s.clean h.length).put o.dst (.c (.bool true))) (j + 1) false ∧ K ((s.clean 0).put o.dst (.c (.bool false))) (j + 1) true) := congrArg _root_.id rfl
theorem onYA_none {o : Oper} {K : AS → Nat → Bool → Prop} : onYA P h N items o s j ov K none = (o.guard = none ∧ onYP P h o s j ov K (pureV P anyRo s o.op)) := congrArg _root_.id rfl
theorem runYK_skip : runYK P l h N items .skip stk fin s j ov = contYK P l h N items stk fin .normal s j ov := congrArg _root_.id rfl
theorem runYK_region {id : Nat} {ops : Array Oper} : runYK P l h N items (.region id ops false) stk fin s j ov = runYO P l h N items ops.toList stk fin s j ov := congrArg _root_.id rfl
theorem runYK_draw {id : Nat} {ops : Array Oper} : runYK P l h N items (.region id ops true) stk fin s j ov = DrawY P h ops s j ov (contYK P l h N items stk fin .normal) := congrArg _root_.id rfl
theorem runYK_seq {x y : Code} : runYK P l h N items (.seq x y) stk fin s j ov = runYK P l h N items x (.seq y :: stk) fin s j ov := congrArg _root_.id rfl
def condYK (P : Program) (l : Nat) (h : List AObj) (N : Nat) (items : Nat → List AV) (x y : Code) (stk : List Fr) (fin : Exit → AS → Nat → Bool → Prop) (s : AS) (j : Nat) (ov : Bool) (v : AV) : Prop := condP (runYK P l h N items x stk fin s j ov) (runYK P l h N items y stk fin s j ov) v
theorem condYK_bool {x y : Code} {b : Bool} : condYK P l h N items x y stk fin s j ov (.c (.bool b)) = if b = true then runYK P l h N items x stk fin s j ov else runYK P l h N items y stk fin s j ov := congrArg _root_.id rfl
theorem runYK_cond {c : Operand} {x y : Code} : runYK P l h N items (.cond c x y) stk fin s j ov = ((s.ev c).gc ∧ condYK P l h N items x y stk fin s j ov (s.ev c).ung) := congrArg _root_.id rfl
theorem runYK_block {id : Nat} {b : Code} : runYK P l h N items (.block id b) stk fin s j ov = runYK P l h N items b (.block id :: stk) fin s j ov := congrArg _root_.id rfl
theorem runYK_loop {b : Code} : runYK P l h N items (.loop b) stk fin s j ov = LoopY P l h N items b s j ov (contYK P l h N items stk fin) := congrArg _root_.id rfl
theorem runYK_exit {id : Nat} : runYK P l h N items (.exit id) stk fin s j ov = contYK P l h N items stk fin (.exit id) s j ov := congrArg _root_.id rfl
theorem runYK_ret : runYK P l h N items .ret stk fin s j ov = contYK P l h N items stk fin .ret s j ov := congrArg _root_.id rfl
theorem contYK_nil {e : Exit} : contYK P l h N items [] fin e s j ov = fin e s j ov := congrArg _root_.id rfl
theorem contYK_seq {y : Code} : contYK P l h N items (.seq y :: stk) fin .normal s j ov = runYK P l h N items y stk fin s j ov := congrArg _root_.id rfl
theorem contYK_seq_ret {y : Code} : contYK P l h N items (.seq y :: stk) fin .ret s j ov = contYK P l h N items stk fin .ret s j ov := congrArg _root_.id rfl
theorem contYK_seq_exit {y : Code} {i : Nat} : contYK P l h N items (.seq y :: stk) fin (.exit i) s j ov = contYK P l h N items stk fin (.exit i) s j ov := congrArg _root_.id rfl
theorem contYK_block {id : Nat} : contYK P l h N items (.block id :: stk) fin .normal s j ov = contYK P l h N items stk fin .normal s j ov := congrArg _root_.id rfl
theorem contYK_block_ret {id : Nat} : contYK P l h N items (.block id :: stk) fin .ret s j ov = contYK P l h N items stk fin .ret s j ov := congrArg _root_.id rfl
theorem contYK_block_exit {id i : Nat} : contYK P l h N items (.block id :: stk) fin (.exit i) s j ov = if i = id then contYK P l h N items stk fin .normal s j ov else contYK P l h N items stk fin (.exit i) s j ov := by
  show blockY id (contY P l h N items fin stk) (.exit i) s j ov = _
  rfl
theorem runYO_nil : runYO P l h N items [] stk fin s j ov = contYK P l h N items stk fin .normal s j ov := congrArg _root_.id rfl
theorem runYO_cons {o : Oper} {L : List Oper} : runYO P l h N items (o :: L) stk fin s j ov = stepY P l h N items o s j ov (runYO P l h N items L stk fin) := congrArg _root_.id rfl
theorem drawY_k {s : AS} {j : Nat} {ov : Bool} {ops : Array Oper} {K : AS → Nat → Bool → Prop} (p : Plan) (hna : noAlt p = true) (U : List Nat) (hU : ∀ k ∈ U, k < s.h.length) (hok : (Region.noSelect ops && noDefer ops && planOk ops true p (Array.replicate ops.size false) && decide (depth p ≤ ops.size)) = true) (hk : runE P ops U [] noHo p (fun s' => K s' j ov) s) : DrawY P h ops s j ov K :=
  fun _ _ => draw_take p hna U [] hok hU hk
theorem loopY_k (hm : P.follows .mixedOrders = true) {X : Type} {b : Code} {Q : Exit → AS → Nat → Bool → Prop} (st : X → AS) (jx : X → Nat) (μ : X → Nat) (Inv : X → Prop) (x0 : X) (h0 : Inv x0) (hj : jx x0 = j) (hw : WkY h s (st x0)) (round : ∀ x, Inv x → runYK P l h N items b [] (roundY h st jx μ Inv x Q) (st x) (jx x) false) : LoopY P l h N items b s j false Q := loopY_of hm st jx μ Inv x0 h0 hj hw round
theorem aseq0_k {gf : FuncId} {fn : Func} {c : Code} {caps : List AV} {n : Nat} (hm : P.follows .mixedOrders = true) (hf : P.funcs[gf]? = some fn) (hb : fn.body = some c) (hn : fn.ntmps = n) (hrs : fn.results = #[])
    (H : ∀ l, runYK P l h N items c [] (finY N) ⟨.clo (.yield l) [] [] :: (caps ++ anyS (n - (caps.length + 1))), h⟩ 0 false) : ASeq0 P h N items gf caps := aseq0_of hm hf hb hn hrs H
theorem finY_normal : finY N .normal s j ov = ((ov = false → j = N) ∧ (ov = true → 1 ≤ j ∧ j ≤ N)) := congrArg _root_.id rfl
theorem finY_ret : finY N .ret s j ov = ((ov = false → j = N) ∧ (ov = true → 1 ≤ j ∧ j ≤ N)) := congrArg _root_.id rfl
theorem roundY_ret {X : Type} {st : X → AS} {jx : X → Nat} {μ : X → Nat} {Inv : X → Prop} {x : X} {Q : Exit → AS → Nat → Bool → Prop} : roundY h st jx μ Inv x Q .ret s j ov = Q .ret s j ov := congrArg _root_.id rfl
theorem roundY_exit {X : Type} {st : X → AS} {jx : X → Nat} {μ : X → Nat} {Inv : X → Prop} {x : X} {Q : Exit → AS → Nat → Bool → Prop} {i : Nat} : roundY h st jx μ Inv x Q (.exit i) s j ov = Q (.exit i) s j ov := congrArg _root_.id rfl
theorem roundY_next {X : Type} {st : X → AS} {jx : X → Nat} {μ : X → Nat} {Inv : X → Prop} {x : X} {Q : Exit → AS → Nat → Bool → Prop} (x' : X) (h0 : ov = false) (h1 : Inv x') (h2 : μ x' < μ x) (h3 : jx x' = j) (h4 : WkY h s (st x')) : roundY h st jx μ Inv x Q .normal s j ov := ⟨h0, x', h1, h2, h3, h4⟩
end
end Go.Proofs.Ytmgpiminicgbiaa
