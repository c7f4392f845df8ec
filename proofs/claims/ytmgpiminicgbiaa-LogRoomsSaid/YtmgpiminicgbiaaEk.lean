import Derived.Test.YtmgpiminicgbiaaEj
import Derived.Orders
import Derived.RangeFuncLeaves
import Derived.RangeFuncRecord
namespace Go.Proofs.Ytmgpiminicgbiaa
set_option linter.unusedVariables false
set_option linter.unusedSimpArgs false
open Go.RowKit

/-! ## Code -/
def panE : Exit → Bool
  | .panic _ => true
  | .outgrown => true
  | _ => false
def PostC (E : Env) (Q : Exit → AS → Prop) (e : Exit) (a : Act) (w : World) : Prop := panE e = false ∧ ∃ s', Sat E s' a w ∧ Q e s'
def EW (P : Program) (E : Env) (c : Code) (s : AS) (Q : Exit → AS → Prop) : Prop := ∀ a w, Sat E s a w → c.wp P (PostC E Q) a w
def LoopG (P : Program) (E : Env) (b : Code) (s : AS) (Q : Exit → AS → Prop) : Prop := EW P E (.loop b) s Q
def RangeFG (P : Program) (E : Env) (c : Code) (s : AS) (Q : Exit → AS → Prop) : Prop := EW P E c s Q
/-- operations in whatever order they may come, by what each comes to wherever it stands -/
def wpOpB (P : Program) (ops : Array Oper) (i : Nat) (K : Act → World → Prop) (a : Act) (w : World) : Prop :=
  match ops[i]? with
  | none => K a w
  | some o => if Region.wanted o (yielded ops a.tmps) then o.wpB P a w K else K (a.put o.dst undef) w
def wpAnyB (P : Program) (ops : Array Oper) (N : Act → World → Prop) : Nat → Array Bool → Act → World → Prop
  | 0, listed, a, w => Region.ready .any ops listed = [] ∧ N a w
  | fuel + 1, listed, a, w => (Region.ready .any ops listed = [] → N a w) ∧ ∀ i ∈ Region.ready .any ops listed, wpOpB P ops i (wpAnyB P ops N fuel (listed.setIfInBounds i true)) a w
theorem upB_mono {P : Program} {o : Oper} {a : Act} {n n' : Act → World → Prop} (h : ∀ a w, n a w → n' a w) {r : Result Next} (hr : upB P o a n r) : upB P o a n' r := by
  unfold upB at hr ⊢
  split at hr
  · exact h _ _ hr
  · exact h _ _ hr
  · exact hr.mono fun e w' ⟨v, he, hn⟩ => ⟨v, he, h _ _ hn⟩
  · cases hr
theorem wpOpB_mono {P : Program} {ops : Array Oper} {i : Nat} {a : Act} {w : World} {n n' : Act → World → Prop} (h : ∀ a w, n a w → n' a w) (hr : wpOpB P ops i n a w) : wpOpB P ops i n' a w := by
  unfold wpOpB at hr ⊢
  split
  · rename_i e; rw [e] at hr; exact h _ _ hr
  · rename_i o e
    rw [e] at hr
    simp only at hr
    split
    · rename_i hw; rw [if_pos hw] at hr; exact ⟨hr.1, upB_mono h hr.2⟩
    · rename_i hw; rw [if_neg hw] at hr; exact h _ _ hr
theorem wpAnyB_wp {P : Program} {ops : Array Oper} {Q : Exit → Act → World → Prop} : ∀ (fuel : Nat) (listed : Array Bool) (a : Act) (w : World), wpAnyB P ops (Q .normal) fuel listed a w → wpAny P .any ops Q fuel listed a w := by
  intro fuel
  induction fuel with
  | zero => intro listed a w h; exact h
  | succ fuel ih =>
    intro listed a w h
    refine ⟨h.1, fun i hi => ?_⟩
    have h2 := wpOpB_mono (ih _) (h.2 i hi)
    unfold wpOpB at h2
    unfold wpOp
    split
    · rename_i e; rw [e] at h2; exact h2
    · rename_i o e
      rw [e] at h2
      simp only at h2
      split
      · rename_i hw; rw [if_pos hw] at h2; exact .inl (wpB_wp h2)
      · rename_i hw; rw [if_neg hw] at h2; exact h2
def DrawG (P : Program) (E : Env) (ops : Array Oper) (s : AS) (K : AS → Prop) : Prop :=
  ∀ a w, Sat E s a w → ∀ N : Act → World → Prop, (∀ s' a' w', Sat E s' a' w' → K s' → N a' w') → wpAnyB P ops N ops.size (Array.replicate ops.size false) a w
def seqK (n : AS → Prop) (Q : Exit → AS → Prop) : Exit → AS → Prop
  | .normal, s => n s
  | e, s => Q e s
def blockK (id : Nat) (Q : Exit → AS → Prop) : Exit → AS → Prop
  | .exit id', s => if id' = id then Q .normal s else Q (.exit id') s
  | e, s => Q e s
def condP (A : Prop) (B : Prop) : AV → Prop
  | .c (.bool v) => if v = true then A else B
  | _ => False
/-- is the code's first region one of these? (there a walk may be cut: what lies behind is walked once, from states of one form) -/
def isCut (l : List Nat) : Code → Bool
  | .region id _ _ => l.contains id
  | .seq x _ => isCut l x
  | .block _ b => isCut l b
  | .loop b => isCut l b
  | _ => false
theorem isCut_nil : ∀ c : Code, isCut [] c = false := by
  intro c
  induction c with
  | region id ops d => rfl
  | seq x y ihx _ => exact ihx
  | block id b ih => exact ih
  | loop b ih => exact ih
  | _ => rfl
def runC (cut : List Nat) (P : Program) (E : Env) : Code → AS → (Exit → AS → Prop) → Prop
  | .skip, s, Q => Q .normal s
  | .region _ ops false, s, Q => runL P E ops ops.toList s (Q .normal)
  | .region _ ops true, s, Q => DrawG P E ops s (Q .normal)
  | .seq x y, s, Q => if isCut cut y = true then EW P E (.seq x y) s Q else runC cut P E x s (seqK (swapK (runC cut P E y) Q) Q)
  | .cond c x y, s, Q => (s.ev c).gc ∧ condP (runC cut P E x s Q) (runC cut P E y s Q) (s.ev c).ung
  | .block id b, s, Q => runC cut P E b s (blockK id Q)
  | .loop b, s, Q => LoopG P E b s Q
  | .exit id, s, Q => Q (.exit id) s
  | .label _, s, Q => Q .normal s
  | .goto l, s, Q => Q (.goto l) s
  | .ret, s, Q => Q .ret s
  | .rangeFunc f ps x b, s, Q => RangeFG P E (.rangeFunc f ps x b) s Q
  | .scope _, _, _ => False
  | .refuse _, _, _ => False
theorem Sat.drew {E : Env} {s : AS} {a : Act} {w : World} (h : Sat E s a w) : Sat E s a w.drew := let ⟨G, F, hr⟩ := h; ⟨G, F, hr.drew⟩
theorem runC_sound {cut : List Nat} {P : Program} {E : Env} (hm : P.follows .mixedOrders = true) : ∀ (c : Code) (s : AS) (Q : Exit → AS → Prop), runC cut P E c s Q → EW P E c s Q := by
  intro c
  induction c with
  | skip => intro s Q h a w hs; exact wp_skip ⟨rfl, s, hs, h⟩
  | region id ops draw =>
    intro s Q h a w hs
    cases draw with
    | false => exact wp_region_list (runL_sound (Q := PostC E Q) (fun s' a' w' h1 h2 => ⟨rfl, s', h1, h2⟩) _ s a w hs h)
    | true => exact wp_region_any hm (wpAnyB_wp _ _ _ _ (h a _ (Sat.drew hs) (PostC E Q .normal) fun s' a' w' h1 h2 => ⟨rfl, s', h1, h2⟩))
  | seq x y ihx ihy =>
    intro s Q h a w hs
    simp only [runC] at h
    split at h
    · exact h a w hs
    refine wp_seq (Code.wp_mono (fun e a' w' ⟨h0, s', h1, h2⟩ => ?_) (ihx s _ h a w hs))
    cases e with
    | normal => exact ihy s' Q h2 a' w' h1
    | _ => exact ⟨h0, s', h1, h2⟩
  | cond c x y ihx ihy =>
    intro s Q h a w hs
    obtain ⟨g1, h⟩ := h
    obtain ⟨G, F, hr⟩ := hs
    have hc := (hr.ev c).ung g1
    unfold condP at h
    split at h
    · rename_i v e1
      rw [e1] at hc
      refine wp_cond_split hc.c_inv (fun hv => ihx s Q (by rw [if_pos hv] at h; exact h) a w ⟨G, F, hr⟩) fun hv => ihy s Q (by rw [if_neg (by rw [hv]; decide)] at h; exact h) a w ⟨G, F, hr⟩
    · cases h
  | block id b ih =>
    intro s Q h a w hs
    refine wp_block (Code.wp_mono (fun e a' w' ⟨h0, s', h1, h2⟩ => ?_) (ih s _ h a w hs))
    cases e with
    | exit id' =>
      simp only [blockK] at h2
      simp only [Exit.inBlock]
      split
      · rename_i e; rw [if_pos e] at h2; exact ⟨rfl, s', h1, h2⟩
      · rename_i e; rw [if_neg e] at h2; exact ⟨rfl, s', h1, h2⟩
    | _ => exact ⟨h0, s', h1, h2⟩
  | loop b ih => intro s Q h; exact h
  | exit id => intro s Q h a w hs; exact wp_exit ⟨rfl, s, hs, h⟩
  | label l => intro s Q h a w hs; exact wp_label ⟨rfl, s, hs, h⟩
  | goto l => intro s Q h a w hs; exact wp_goto ⟨rfl, s, hs, h⟩
  | ret => intro s Q h a w hs; exact wp_ret ⟨rfl, s, hs, h⟩
  | rangeFunc f ps x b _ _ => intro s Q h; exact h
  | scope b _ => intro s Q h; cases h
  | refuse y => intro s Q h; cases h

/-! ## What a call comes to -/
structure Fin (E : Env) (G : Gh) (F : Nat → Prop) (h : List AObj) (w : World) : Prop where
  heap : HRel G F h w
  mod : Mod E.L E.w0 w
  sup : ∀ (k : Nat) (x : AObj), h[k]? = some x → G.vir k = false → fzO x = false → E.ho k = false → E.L (G.σ k) ∨ E.w0.heap.size ≤ G.σ k
  fsup : ∀ b, F b → E.F0 b ∨ E.L b ∨ E.w0.heap.size ≤ b
  f0 : ∀ b, E.F0 b → F b
  fc : FC F w
theorem Fin.flt {E : Env} {G : Gh} {F : Nat → Prop} {h : List AObj} {w : World} (hf : Fin E G F h w) : ∀ b, F b → b < w.heap.size := hf.fc.lt
theorem Rel.fin {E : Env} {G : Gh} {F : Nat → Prop} {s : AS} {a : Act} {w : World} (h : Rel E G F s a w) : Fin E G F s.h w := ⟨h.heap, h.mod, h.sup, h.fsup, h.f0, h.fc⟩
theorem Rel.mk' {E : Env} {G : Gh} {F : Nat → Prop} {s : AS} {a : Act} {w : World} (h : Fin E G F s.h w) (h1 : a.tmps.size = s.t.length) (h2 : a.defers = []) (h3 : ∀ (i : Nat) (av : AV) (v : Value), s.t[i]? = some av → a.tmps[i]? = some v → RepV G (lens s.h) F w av v)
    (h4 : Same E.st E.G0 G E.ln0 (lens s.h)) : Rel E G F s a w :=
  ⟨h1, .nil h2, h3, h.heap, h.mod, h.sup, h.fsup, h.f0, h.fc, h4⟩
def noHo : Nat → Bool := fun _ => false
/-- the blocks that were lent -/
def lentB (G : Gh) (h : List AObj) (b : Nat) : Prop := ∃ k x, h[k]? = some x ∧ G.vir k = false ∧ fzO x = false ∧ b = G.σ k
def RepL (G : Gh) (ln : List Nat) (F : Nat → Prop) (w : World) (l : List AV) (vs : Array Value) : Prop := l.length = vs.size ∧ ∀ (j : Nat) (u : AV) (x : Value), l[j]? = some u → vs[j]? = some x → RepV G ln F w u x
/-- **The contract of a function**: called with these, in whatever world, it returns, and what it returns and what has become of what was lent is as Post says. -/
def ACalls (P : Program) (f : FuncId) (args : List AV) (h : List AObj) (st : Nat → Bool) (Post : AV → List AObj → Prop) : Prop :=
  ∀ (G : Gh) (F : Nat → Prop) (w : World) (vs : Array Value), HRel G F h w → FC F w → RepL G (lens h) F w args vs →
    Calls P f vs w fun e w' => ∃ (x : Value) (r : AV) (h' : List AObj) (G' : Gh) (F' : Nat → Prop), e = .returned x ∧ Fin ⟨w, lentB G h, F, G, lens h, st, noHo, fun D => w.heap.size ≤ D⟩ G' F' h' w' ∧ RepV G' (lens h') F' w' r x ∧ Same st G G' (lens h) (lens h') ∧ Post r h'
/-- what is left may be told otherwise -/
def Clean (st : Nat → Bool) (h : List AObj) (r : AV) (h' : List AObj) (r' : AV) : Prop :=
  ∀ (E : Env) (G : Gh) (F : Nat → Prop) (w : World) (x : Value), E.ho = noHo → Fin E G F h w → RepV G (lens h) F w r x → ∃ G' F', Fin E G' F' h' w ∧ RepV G' (lens h') F' w r' x ∧ Same st G G' (lens h) (lens h')
def resV (P : Program) (s : AS) : List ResultVar → Option (Prop × List AV)
  | [] => some (True, [])
  | .tmp t :: r => (resV P s r).map fun p => ((s.ev (.tmp t)).gc ∧ p.1, (s.ev (.tmp t)).ung :: p.2)
  | .cell t ty :: r => match loadAV P anyRo s.h ty (s.ev (.tmp t)).ung, resV P s r with
    | some q, some p => some ((s.ev (.tmp t)).gc ∧ q.1 ∧ p.1, q.2 :: p.2)
    | _, _ => none
def oneV : List AV → AV
  | [v] => v
  | l => .tup l
def RetP (P : Program) (st : Nat → Bool) (rs : List ResultVar) (Post : AV → List AObj → Prop) (s : AS) : Prop :=
  match resV P s rs with
  | some q => q.1 ∧ ∃ h' r', Clean st s.h (oneV q.2) h' r' ∧ Post r' h'
  | none => False
def retK (P : Program) (st : Nat → Bool) (rs : List ResultVar) (Post : AV → List AObj → Prop) : Exit → AS → Prop
  | .normal, s => RetP P st rs Post s
  | .ret, s => RetP P st rs Post s
  | _, _ => False
def resOne (tmps : Array Value) : ResultVar → Sem Value
  | .tmp t => pure (tmps.getD t undef)
  | .cell x t => do loadVar t (← asAddr (tmps.getD x undef))
section
variable {P : Program} {G : Gh} {F : Nat → Prop} {w : World} {E : Env} {s : AS} {a : Act}
theorem mapM_run {α β : Type} {f : α → Sem β} {x : α} {l : List α} {y : β} {ys : List β} {w : World} (h1 : (f x).run P w = .ok y w) (h2 : (l.mapM f).run P w = .ok ys w) : ((x :: l).mapM f).run P w = .ok (y :: ys) w := by
  rw [List.mapM_cons, Sem.run_bind, h1, Result.andThen_ok, Sem.run_bind, h2, Result.andThen_ok, Sem.run_pure]
theorem resV_sound (hr : Rel E G F s a w) : ∀ (rs : List ResultVar) (q : Prop × List AV), resV P s rs = some q → q.1 →
    ∃ vs : List Value, (rs.mapM (resOne a.tmps)).run P w = .ok vs w ∧ q.2.length = vs.length ∧ ∀ (j : Nat) (u : AV) (x : Value), q.2[j]? = some u → vs[j]? = some x → RepV G (lens s.h) F w u x := by
  intro rs
  induction rs with
  | nil => intro q hq hs; injection hq with hq; subst hq; exact ⟨[], by simp, rfl, fun j u x h => by simp at h⟩
  | cons r rs ih =>
    intro q hq hs
    cases r with
    | tmp t =>
      simp only [resV] at hq
      rw [Option.map_eq_some_iff] at hq
      obtain ⟨p, hp, rfl⟩ := hq
      obtain ⟨vs, h1, h2, h3⟩ := ih p hp hs.2
      refine ⟨a.tmps.getD t undef :: vs, mapM_run rfl h1, by simp [h2], fun j u x hu hx => ?_⟩
      cases j with
      | zero =>
        simp only [List.getElem?_cons_zero, Option.some.injEq] at hu hx
        subst hu hx
        exact (hr.ev (.tmp t)).ung hs.1
      | succ j => exact h3 j u x (by simpa using hu) (by simpa using hx)
    | cell t ty =>
      simp only [resV] at hq
      split at hq
      · rename_i q' p hq' hp
        injection hq with hq; subst hq
        obtain ⟨g1, g2, g3⟩ := hs
        obtain ⟨vs, h1, h2, h3⟩ := ih p hp g3
        have hx0 := (hr.ev (.tmp t)).ung g1
        obtain ⟨y, e1, e2⟩ := loadAV_sound (P := P) hr.heap hq' g2 hx0
        have e1 := e1 w (SameOn.refl _ _ _ _ _)
        have hptr : ∃ b, a.eval (.tmp t) = .pointer (some b) := by
          generalize a.eval (.tmp t) = z at *
          cases z with
          | pointer p => cases p with
            | none => simp [Instr.loadAt, Instr.sureAddr, stuck] at e1
            | some b => exact ⟨b, rfl⟩
          | _ => simp [Instr.loadAt, Instr.sureAddr, stuck] at e1
        obtain ⟨b, hb⟩ := hptr
        have e3 : (loadVar ty b).run P w = .ok y w := by
          rw [hb] at e1
          simpa [Instr.loadAt, Instr.sureAddr] using e1
        have hb' : a.tmps.getD t undef = .pointer (some b) := hb
        refine ⟨y :: vs, mapM_run (by simp only [resOne, hb', asAddr]; simpa using e3) h1, by simp [h2], fun j u x hu hx => ?_⟩
        cases j with
        | zero =>
          simp only [List.getElem?_cons_zero, Option.some.injEq] at hu hx
          subst hu hx
          exact e2
        | succ j => exact h3 j u x (by simpa using hu) (by simpa using hx)
      · cases hq
def oneX : List Value → Value
  | [v] => v
  | l => .tuple l.toArray
theorem results_run {fn : Func} {tmps : Array Value} {vs : List Value} (h : (fn.results.toList.mapM (resOne tmps)).run P w = .ok vs w) : (results fn tmps).run P w = .ok (oneX vs) w := by
  have e : results fn tmps = (do let vs ← fn.results.mapM (resOne tmps); pure (if h : vs.size = 1 then vs[0] else .tuple vs)) := rfl
  rw [e, Array.mapM_eq_mapM_toList, Sem.run_bind, Sem.run_map, h]
  simp only [Result.andThen_ok]
  rw [Sem.run_pure]
  congr 1
  split
  · rename_i h1
    match vs, h1 with
    | [v], _ => rfl
  · rename_i h1
    match vs, h1 with
    | [], _ => rfl
    | [v], h => exact absurd rfl h
    | v :: u :: l, _ => rfl
theorem RetP_sound {fn : Func} {rs : List ResultVar} (hrs : fn.results.toList = rs) {Post : AV → List AObj → Prop} {st : Nat → Bool} (hE : E.ho = noHo) (hr : Rel E G F s a w) (h : RetP P st rs Post s) :
    ∃ (x : Value) (r : AV) (h' : List AObj) (G' : Gh) (F' : Nat → Prop), (results fn a.tmps).run P w = .ok x w ∧ Fin E G' F' h' w ∧ RepV G' (lens h') F' w r x ∧ Same st G G' (lens s.h) (lens h') ∧ Post r h' := by
  unfold RetP at h
  split at h
  · rename_i q hq
    obtain ⟨hs, h', r', hc, hp⟩ := h
    obtain ⟨vs, h1, h2, h3⟩ := resV_sound hr rs q hq hs
    rw [← hrs] at h1
    have hrun := results_run (fn := fn) h1
    have hrep : RepV G (lens s.h) F w (oneV q.2) (oneX vs) := by
      obtain ⟨_, l⟩ := q
      simp only at h2 h3 ⊢
      match l, vs, h2 with
      | [], [], _ => exact .tup [] #[] rfl fun j u x hu => by simp at hu
      | [u], [v], _ => exact h3 0 u v rfl rfl
      | u :: u2 :: l, v :: v2 :: vs, h2 => exact .tup _ _ (by simpa using h2) fun j y z hy hz => h3 j y z hy (by simpa using hz)
    obtain ⟨G', F', f1, f2, f3⟩ := hc E G F w _ hE hr.fin hrep
    exact ⟨_, r', h', G', F', hrun, f1, f2, f3, hp⟩
  · cases h
/-- a mark is taken off -/
theorem Rel.pop {d : Deferred} {ds : List Deferred} {tmps : Array Value} (hm : ∀ D, E.mks D → E.w0.heap.size ≤ D) (hr : Rel E G F s ⟨tmps, d :: ds⟩ w) : ∃ D, d.target = .collected D ∧ w.heap[D]? = some (.deferred (some [])) ∧ Rel E G F s ⟨tmps, ds⟩ (w.putObj D (.deferred none)) := by
  obtain ⟨D, rfl, e2, e3, e4⟩ := hr.def0.mem d (by simp)
  have hne : ∀ {b : Nat}, b ≠ D → (w.putObj D (.deferred none)).heap[b]? = w.heap[b]? := fun h => World.putObj_heap_other h
  have hw : ∀ b, F b → (w.putObj D (.deferred none)).heap[b]? = w.heap[b]? := fun b hb => hne fun e => e3 (e ▸ hb)
  have hs : (w.putObj D (.deferred none)).heap.size = w.heap.size := by simp [World.putObj]
  refine ⟨D, rfl, e4, hr.len, ⟨(List.nodup_cons.1 hr.def0.nod).2, fun d' hd' => ?_⟩, fun i av v h1 h2 => (hr.slot i av v h1 h2).keep (Later.refl _ _) (fun _ h => h) hw, ⟨fun k y hk => ?_, hr.heap.inj⟩, ⟨hr.mod.os, hr.mod.tape, hr.mod.output, by rw [hs]; exact hr.mod.size, fun k h1 h2 => (hne (by have := hm D e2; omega)).trans (hr.mod.block k h1 h2)⟩, hr.sup, hr.fsup, hr.f0, hr.fc.keep hw, hr.lat⟩
  · obtain ⟨D', rfl, f2, f3, f4⟩ := hr.def0.mem d' (List.mem_cons_of_mem _ hd')
    refine ⟨D', rfl, f2, f3, (hne fun e => ?_).trans f4⟩
    subst e
    exact (List.nodup_cons.1 hr.def0.nod).1 hd'
  · exact (hr.heap.obj k y hk).keep (Later.refl _ _) (fun _ h => h) hw ⟨rfl, rfl, rfl⟩ (fun hv => hne fun e => hr.heap.notDef hk hv (by rw [e]; exact e4)) fun hv hf => hr.heap.nfz hk hv hf
theorem leaves_marks {fn : Func} {rs : List ResultVar} {tmps : Array Value} (hrs : fn.results.toList = rs) {Post : AV → List AObj → Prop} {st : Nat → Bool} {R : Ending → World → Prop} (hE : E.ho = noHo) (hm : ∀ D, E.mks D → E.w0.heap.size ≤ D) (hp : RetP P st rs Post s) :
    ∀ (ds : List Deferred) (w : World) (G : Gh) (F : Nat → Prop), Rel E G F s ⟨tmps, ds⟩ w →
      (∀ (w' : World) (G' : Gh) (F' : Nat → Prop) (x : Value) (r : AV) (h' : List AObj), Fin E G' F' h' w' → RepV G' (lens h') F' w' r x → Same st E.G0 G' E.ln0 (lens h') → Post r h' → R (.returned x) w') → E.st = st → LeavesInM Fence.wide 0 P fn tmps R ds .returning w := by
  intro ds
  induction ds with
  | nil =>
    intro w G F hr hR hst
    obtain ⟨x, r, h', G', F', e1, e2, e3, e4, e6⟩ := RetP_sound hrs hE hr hp
    exact ⟨x, e1, hR w G' F' x r h' e2 e3 (Same.trans (hst ▸ hr.lat) e4) e6⟩
  | cons d ds ih =>
    intro w G F hr hR hst
    obtain ⟨D, e1, e2, e3⟩ := hr.pop hm
    exact ⟨by simp, .inl ⟨D, _, e1, run_takeDeferred e2, ih _ G F e3 hR hst⟩⟩
def anyS : Nat → List AV
  | 0 => []
  | n + 1 => .any :: anyS n
theorem anyS_eq (n : Nat) : anyS n = List.replicate n .any := by
  induction n with
  | zero => rfl
  | succ n ih => rw [anyS, ih, List.replicate_succ]
/-- A body is walked once. -/
theorem acalls_of_runM {cut : List Nat} {f : FuncId} {fn : Func} {c : Code} {args : List AV} {h : List AObj} {st : Nat → Bool} {Post : AV → List AObj → Prop} {rs : List ResultVar} {n : Nat} (hm : P.follows .mixedOrders = true) (hf : P.funcs[f]? = some fn) (hb : fn.body = some c) (hn : fn.ntmps = n) (hrs : fn.results.toList = rs)
    (H : ∀ E, E.ln0 = lens h → E.st = st → E.ho = noHo → (∀ D, E.w0.heap.size ≤ D → E.mks D) → runC cut P E c ⟨args ++ anyS (n - args.length), h⟩ (retK P st rs Post)) : ACalls P f args h st Post := by
  subst hn
  simp only [anyS_eq] at H
  intro G F w vs hh hflt hrep
  refine (callsIn_wide (n := 0)).1 (callsIn_of_wp_marks hf hb trivial (wpIn_wide.2 ?_))
  have hr : Rel ⟨w, lentB G h, F, G, lens h, st, noHo, fun D => w.heap.size ≤ D⟩ G F ⟨args ++ List.replicate (fn.ntmps - args.length) .any, h⟩ { tmps := vs ++ Array.replicate (fn.ntmps - vs.size) undef, defers := [] } w := by
    refine Rel.mk' ⟨hh, Mod.refl _ _, fun k x hk hv hf _ => .inl ⟨k, x, hk, hv, hf, rfl⟩, fun b hb => .inl hb, fun b hb => hb, hflt⟩ (by simp [hrep.1]) rfl (fun i av v h1 h2 => ?_) ((Later.refl _ _).same _)
    by_cases hi : i < args.length
    · rw [List.getElem?_append_left hi] at h1
      rw [Array.getElem?_append_left (by rw [← hrep.1]; exact hi)] at h2
      exact hrep.2 i av v h1 h2
    · rw [List.getElem?_append_right (by omega)] at h1
      have : av = .any := by
        rw [List.getElem?_replicate] at h1
        split at h1
        · injection h1 with h1; exact h1.symm
        · cases h1
      rw [this]
      exact .any _
  refine Code.wp_mono (fun e a' w' ⟨_, s', ⟨G', F', hr'⟩, h2⟩ => ?_) (runC_sound hm c _ _ (H _ rfl rfl rfl fun _ h => h) _ w ⟨G, F, hr⟩)
  have key : RetP P st rs Post s' → LeavesInM Fence.wide 0 P fn a'.tmps (fun e w' => ∃ (x : Value) (r : AV) (h' : List AObj) (G' : Gh) (F' : Nat → Prop), e = .returned x ∧ Fin ⟨w, lentB G h, F, G, lens h, st, noHo, fun D => w.heap.size ≤ D⟩ G' F' h' w' ∧ RepV G' (lens h') F' w' r x ∧ Same st G G' (lens h) (lens h') ∧ Post r h') a'.defers .returning w' := fun hp =>
    leaves_marks hrs rfl (fun D h => h) (E := ⟨w, lentB G h, F, G, lens h, st, noHo, fun D => w.heap.size ≤ D⟩) hp a'.defers w' G' F' hr' (fun w'' G'' F'' x r h' e2 e3 e4 e6 => ⟨x, r, h', _, _, rfl, e2, e3, e4, e6⟩) rfl
  cases e with
  | normal => exact key h2
  | ret => exact key h2
  | _ => cases h2
theorem acalls_of_run {cut : List Nat} {f : FuncId} {fn : Func} {c : Code} {args : List AV} {h : List AObj} {st : Nat → Bool} {Post : AV → List AObj → Prop} {rs : List ResultVar} {n : Nat} (hm : P.follows .mixedOrders = true) (hf : P.funcs[f]? = some fn) (hb : fn.body = some c) (hn : fn.ntmps = n) (hrs : fn.results.toList = rs)
    (H : ∀ E, E.ln0 = lens h → E.st = st → E.ho = noHo → runC cut P E c ⟨args ++ anyS (n - args.length), h⟩ (retK P st rs Post)) : ACalls P f args h st Post :=
  acalls_of_runM hm hf hb hn hrs fun E h1 h2 h3 _ => H E h1 h2 h3
/-- nothing is told of blocks -/
theorem Clean.drop (h : List AObj) {r : AV} (hr : ∀ (G : Gh) (ln : List Nat) (F : Nat → Prop) (w : World) (x : Value), RepV G ln F w r x → RepV G [] F w r x) (st : Nat → Bool) (hst : ∀ k, k < h.length → st k = false) : Clean st h r [] r := by
  intro E G F w x hE hf hrep
  exact ⟨G, F, ⟨⟨fun k x hk => by simp at hk, fun j k x y hj => by simp at hj⟩, hf.mod, fun k x hk => by simp at hk, hf.fsup, hf.f0, hf.fc⟩, hr _ _ _ _ _ hrep, fun k m hk hm => by
    have hlt : k < h.length := by
      have := (List.getElem?_eq_some_iff.1 hm).1
      simpa [lens] using this
    rw [hst k hlt] at hk; cases hk⟩
theorem Clean.refl (st : Nat → Bool) (h : List AObj) (r : AV) : Clean st h r h r := fun E G F w x _ hf hr => ⟨G, F, hf, hr, fun k m _ hm => .inl ⟨hm, rfl, rfl, rfl⟩⟩
end
end Go.Proofs.Ytmgpiminicgbiaa
