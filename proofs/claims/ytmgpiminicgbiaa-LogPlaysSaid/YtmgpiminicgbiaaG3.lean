import Derived.Test.YtmgpiminicgbiaaG2
import Derived.Orders
import Derived.RangeFuncLeaves
import Derived.RangeFuncRecord
import Derived.Deep.LoopGhost
import Derived.OrdersHeld
namespace Go.Proofs.Ytmgpiminicgbiaa
set_option linter.unusedVariables false
set_option linter.unusedSimpArgs false
open Go.RowKit

/-! ## Code -/
def panE : Exit → Bool
  | .panic _ => true
  | .outgrown => true
  | _ => false
def PostC (E : Env) (Q : Exit → AS → Prop) (e : Exit) (a : Act) (w : World) : Prop := panE e = false ∧ ∃ s', Sat E s' a w ∧ Q e s'
def EW (P : Program) (E : Env) (c : Code) (s : AS) (Q : Exit → AS → Prop) : Prop := ∀ a w, Sat E s a w → c.wp P (PostC E Q) a w
def LoopG (P : Program) (E : Env) (b : Code) (s : AS) (Q : Exit → AS → Prop) : Prop := EW P E (.loop b) s Q
def RangeFG (P : Program) (E : Env) (c : Code) (s : AS) (Q : Exit → AS → Prop) : Prop := EW P E c s Q
/-- operations in whatever order they may come, by what each comes to wherever it stands -/
def wpOpB (P : Program) (ops : Array Oper) (i : Nat) (K : Act → World → Prop) (a : Act) (w : World) : Prop :=
  match ops[i]? with
  | none => K a w
  | some o => if Region.wanted o (yielded ops a.tmps) then o.wpB P a w K else K (a.put o.dst undef) w
def wpAnyB (P : Program) (ops : Array Oper) (N : Act → World → Prop) : Nat → Array Bool → Act → World → Prop
  | 0, listed, a, w => Region.ready .any ops listed = [] ∧ N a w
  | fuel + 1, listed, a, w => (Region.ready .any ops listed = [] → N a w) ∧ ∀ i ∈ Region.ready .any ops listed, wpOpB P ops i (wpAnyB P ops N fuel (listed.setIfInBounds i true)) a w
theorem upB_mono {P : Program} {o : Oper} {a : Act} {n n' : Act → World → Prop} (h : ∀ a w, n a w → n' a w) {r : Result Next} (hr : upB P o a n r) : upB P o a n' r := by
  unfold upB at hr ⊢
  split at hr
  · exact h _ _ hr
  · exact h _ _ hr
  · exact hr.mono fun e w' ⟨v, he, hn⟩ => ⟨v, he, h _ _ hn⟩
  · cases hr
theorem wpOpB_mono {P : Program} {ops : Array Oper} {i : Nat} {a : Act} {w : World} {n n' : Act → World → Prop} (h : ∀ a w, n a w → n' a w) (hr : wpOpB P ops i n a w) : wpOpB P ops i n' a w := by
  unfold wpOpB at hr ⊢
  split
  · rename_i e; rw [e] at hr; exact h _ _ hr
  · rename_i o e
    rw [e] at hr
    simp only at hr
    split
    · rename_i hw; rw [if_pos hw] at hr; exact ⟨hr.1, upB_mono h hr.2⟩
    · rename_i hw; rw [if_neg hw] at hr; exact h _ _ hr
theorem wpAnyB_wp {P : Program} {ops : Array Oper} {Q : Exit → Act → World → Prop} : ∀ (fuel : Nat) (listed : Array Bool) (a : Act) (w : World), wpAnyB P ops (Q .normal) fuel listed a w → wpAny P .any ops Q fuel listed a w := by
  intro fuel
  induction fuel with
  | zero => intro listed a w h; exact h
  | succ fuel ih =>
    intro listed a w h
    refine ⟨h.1, fun i hi => ?_⟩
    have h2 := wpOpB_mono (ih _) (h.2 i hi)
    unfold wpOpB at h2
    unfold wpOp
    split
    · rename_i e; rw [e] at h2; exact h2
    · rename_i o e
      rw [e] at h2
      simp only at h2
      split
      · rename_i hw; rw [if_pos hw] at h2; exact .inl (wpB_wp h2)
      · rename_i hw; rw [if_neg hw] at h2; exact h2
def DrawG (P : Program) (E : Env) (ops : Array Oper) (s : AS) (K : AS → Prop) : Prop :=
  ∀ a w, Sat E s a w → ∀ N : Act → World → Prop, (∀ s' a' w', Sat E s' a' w' → K s' → N a' w') → wpAnyB P ops N ops.size (Array.replicate ops.size false) a w
def seqK (n : AS → Prop) (Q : Exit → AS → Prop) : Exit → AS → Prop
  | .normal, s => n s
  | e, s => Q e s
def blockK (id : Nat) (Q : Exit → AS → Prop) : Exit → AS → Prop
  | .exit id', s => if id' = id then Q .normal s else Q (.exit id') s
  | e, s => Q e s
def condP (A : Prop) (B : Prop) : AV → Prop
  | .c (.bool v) => if v = true then A else B
  | _ => False
/-- is the code's first region one of these? (there a walk may be cut: what lies behind is walked once, from states of one form) -/
def isCut (l : List Nat) : Code → Bool
  | .region id _ _ => l.contains id
  | .seq x _ => isCut l x
  | .block _ b => isCut l b
  | .loop b => isCut l b
  | _ => false
theorem isCut_nil : ∀ c : Code, isCut [] c = false := by
  intro c
  induction c with
  | region id ops d => rfl
  | seq x y ihx _ => exact ihx
  | block id b ih => exact ih
  | loop b ih => exact ih
  | _ => rfl
def runC (cut : List Nat) (P : Program) (E : Env) : Code → AS → (Exit → AS → Prop) → Prop
  | .skip, s, Q => Q .normal s
  | .region _ ops false, s, Q => runL P E ops ops.toList s (Q .normal)
  | .region _ ops true, s, Q => DrawG P E ops s (Q .normal)
  | .seq x y, s, Q => if isCut cut y = true then EW P E (.seq x y) s Q else runC cut P E x s (seqK (swapK (runC cut P E y) Q) Q)
  | .cond c x y, s, Q => (s.ev c).gc ∧ condP (runC cut P E x s Q) (runC cut P E y s Q) (s.ev c).ung
  | .block id b, s, Q => runC cut P E b s (blockK id Q)
  | .loop b, s, Q => LoopG P E b s Q
  | .exit id, s, Q => Q (.exit id) s
  | .label _, s, Q => Q .normal s
  | .goto l, s, Q => Q (.goto l) s
  | .ret, s, Q => Q .ret s
  | .rangeFunc f ps x b, s, Q => RangeFG P E (.rangeFunc f ps x b) s Q
  | .scope _, _, _ => False
  | .refuse _, _, _ => False
theorem Sat.drew {E : Env} {s : AS} {a : Act} {w : World} (h : Sat E s a w) : Sat E s a w.drew := let ⟨G, F, hr⟩ := h; ⟨G, F, hr.drew⟩
theorem runC_sound {cut : List Nat} {P : Program} {E : Env} (hm : P.follows .mixedOrders = true) : ∀ (c : Code) (s : AS) (Q : Exit → AS → Prop), runC cut P E c s Q → EW P E c s Q := by
  intro c
  induction c with
  | skip => intro s Q h a w hs; exact wp_skip ⟨rfl, s, hs, h⟩
  | region id ops draw =>
    intro s Q h a w hs
    cases draw with
    | false => exact wp_region_list (runL_sound (Q := PostC E Q) (fun s' a' w' h1 h2 => ⟨rfl, s', h1, h2⟩) _ s a w hs h)
    | true => exact wp_region_any hm (wpAnyB_wp _ _ _ _ (h a _ (Sat.drew hs) (PostC E Q .normal) fun s' a' w' h1 h2 => ⟨rfl, s', h1, h2⟩))
  | seq x y ihx ihy =>
    intro s Q h a w hs
    simp only [runC] at h
    split at h
    · exact h a w hs
    refine wp_seq (Code.wp_mono (fun e a' w' ⟨h0, s', h1, h2⟩ => ?_) (ihx s _ h a w hs))
    cases e with
    | normal => exact ihy s' Q h2 a' w' h1
    | _ => exact ⟨h0, s', h1, h2⟩
  | cond c x y ihx ihy =>
    intro s Q h a w hs
    obtain ⟨g1, h⟩ := h
    obtain ⟨G, F, hr⟩ := hs
    have hc := (hr.ev c).ung g1
    unfold condP at h
    split at h
    · rename_i v e1
      rw [e1] at hc
      refine wp_cond_split hc.c_inv (fun hv => ihx s Q (by rw [if_pos hv] at h; exact h) a w ⟨G, F, hr⟩) fun hv => ihy s Q (by rw [if_neg (by rw [hv]; decide)] at h; exact h) a w ⟨G, F, hr⟩
    · cases h
  | block id b ih =>
    intro s Q h a w hs
    refine wp_block (Code.wp_mono (fun e a' w' ⟨h0, s', h1, h2⟩ => ?_) (ih s _ h a w hs))
    cases e with
    | exit id' =>
      simp only [blockK] at h2
      simp only [Exit.inBlock]
      split
      · rename_i e; rw [if_pos e] at h2; exact ⟨rfl, s', h1, h2⟩
      · rename_i e; rw [if_neg e] at h2; exact ⟨rfl, s', h1, h2⟩
    | _ => exact ⟨h0, s', h1, h2⟩
  | loop b ih => intro s Q h; exact h
  | exit id => intro s Q h a w hs; exact wp_exit ⟨rfl, s, hs, h⟩
  | label l => intro s Q h a w hs; exact wp_label ⟨rfl, s, hs, h⟩
  | goto l => intro s Q h a w hs; exact wp_goto ⟨rfl, s, hs, h⟩
  | ret => intro s Q h a w hs; exact wp_ret ⟨rfl, s, hs, h⟩
  | rangeFunc f ps x b _ _ => intro s Q h; exact h
  | scope b _ => intro s Q h; cases h
  | refuse y => intro s Q h; cases h

/-! ## What a call comes to -/
structure Fin (E : Env) (G : Gh) (F : Nat → Prop) (h : List AObj) (w : World) : Prop where
  heap : HRel G F h w
  mod : Mod E.L E.w0 w
  sup : ∀ (k : Nat) (x : AObj), h[k]? = some x → G.vir k = false → fzO x = false → E.ho k = false → E.L (G.σ k) ∨ E.w0.heap.size ≤ G.σ k
  fsup : ∀ b, F b → E.F0 b ∨ E.L b ∨ E.w0.heap.size ≤ b
  f0 : ∀ b, E.F0 b → F b
  fc : FC F w
theorem Fin.flt {E : Env} {G : Gh} {F : Nat → Prop} {h : List AObj} {w : World} (hf : Fin E G F h w) : ∀ b, F b → b < w.heap.size := hf.fc.lt
theorem Rel.fin {E : Env} {G : Gh} {F : Nat → Prop} {s : AS} {a : Act} {w : World} (h : Rel E G F s a w) : Fin E G F s.h w := ⟨h.heap, h.mod, h.sup, h.fsup, h.f0, h.fc⟩
theorem Rel.mk' {E : Env} {G : Gh} {F : Nat → Prop} {s : AS} {a : Act} {w : World} (h : Fin E G F s.h w) (h1 : a.tmps.size = s.t.length) (h2 : a.defers = []) (h3 : ∀ (i : Nat) (av : AV) (v : Value), s.t[i]? = some av → a.tmps[i]? = some v → RepV G (lens s.h) F w av v)
    (h4 : Same E.st E.G0 G E.ln0 (lens s.h)) : Rel E G F s a w :=
  ⟨h1, .nil h2, h3, h.heap, h.mod, h.sup, h.fsup, h.f0, h.fc, h4⟩
def noHo : Nat → Bool := fun _ => false
/-- the blocks that were lent -/
def lentB (G : Gh) (h : List AObj) (b : Nat) : Prop := ∃ k x, h[k]? = some x ∧ G.vir k = false ∧ fzO x = false ∧ b = G.σ k
def RepL (G : Gh) (ln : List Nat) (F : Nat → Prop) (w : World) (l : List AV) (vs : Array Value) : Prop := l.length = vs.size ∧ ∀ (j : Nat) (u : AV) (x : Value), l[j]? = some u → vs[j]? = some x → RepV G ln F w u x
/-- **The contract of a function**: called with these, in whatever world, it returns, and what it returns and what has become of what was lent is as Post says. -/
def ACalls (P : Program) (f : FuncId) (args : List AV) (h : List AObj) (st : Nat → Bool) (Post : AV → List AObj → Prop) : Prop :=
  ∀ (G : Gh) (F : Nat → Prop) (w : World) (vs : Array Value), HRel G F h w → FC F w → RepL G (lens h) F w args vs →
    Calls P f vs w fun e w' => ∃ (x : Value) (r : AV) (h' : List AObj) (G' : Gh) (F' : Nat → Prop), e = .returned x ∧ Fin ⟨w, lentB G h, F, G, lens h, st, noHo, fun D => w.heap.size ≤ D⟩ G' F' h' w' ∧ RepV G' (lens h') F' w' r x ∧ Same st G G' (lens h) (lens h') ∧ Post r h'
/-- what is left may be told otherwise -/
def Clean (st : Nat → Bool) (h : List AObj) (r : AV) (h' : List AObj) (r' : AV) : Prop :=
  ∀ (E : Env) (G : Gh) (F : Nat → Prop) (w : World) (x : Value), E.ho = noHo → Fin E G F h w → RepV G (lens h) F w r x → ∃ G' F', Fin E G' F' h' w ∧ RepV G' (lens h') F' w r' x ∧ Same st G G' (lens h) (lens h')
def resV (P : Program) (s : AS) : List ResultVar → Option (Prop × List AV)
  | [] => some (True, [])
  | .tmp t :: r => (resV P s r).map fun p => ((s.ev (.tmp t)).gc ∧ p.1, (s.ev (.tmp t)).ung :: p.2)
  | .cell t ty :: r => match loadAV P anyRo s.h ty (s.ev (.tmp t)).ung, resV P s r with
    | some q, some p => some ((s.ev (.tmp t)).gc ∧ q.1 ∧ p.1, q.2 :: p.2)
    | _, _ => none
def oneV : List AV → AV
  | [v] => v
  | l => .tup l
def RetP (P : Program) (st : Nat → Bool) (rs : List ResultVar) (Post : AV → List AObj → Prop) (s : AS) : Prop :=
  match resV P s rs with
  | some q => q.1 ∧ ∃ h' r', Clean st s.h (oneV q.2) h' r' ∧ Post r' h'
  | none => False
def retK (P : Program) (st : Nat → Bool) (rs : List ResultVar) (Post : AV → List AObj → Prop) : Exit → AS → Prop
  | .normal, s => RetP P st rs Post s
  | .ret, s => RetP P st rs Post s
  | _, _ => False
def resOne (tmps : Array Value) : ResultVar → Sem Value
  | .tmp t => pure (tmps.getD t undef)
  | .cell x t => do loadVar t (← asAddr (tmps.getD x undef))
section
variable {P : Program} {G : Gh} {F : Nat → Prop} {w : World} {E : Env} {s : AS} {a : Act}
theorem mapM_run {α β : Type} {f : α → Sem β} {x : α} {l : List α} {y : β} {ys : List β} {w : World} (h1 : (f x).run P w = .ok y w) (h2 : (l.mapM f).run P w = .ok ys w) : ((x :: l).mapM f).run P w = .ok (y :: ys) w := by
  rw [List.mapM_cons, Sem.run_bind, h1, Result.andThen_ok, Sem.run_bind, h2, Result.andThen_ok, Sem.run_pure]
theorem resV_sound (hr : Rel E G F s a w) : ∀ (rs : List ResultVar) (q : Prop × List AV), resV P s rs = some q → q.1 →
    ∃ vs : List Value, (rs.mapM (resOne a.tmps)).run P w = .ok vs w ∧ q.2.length = vs.length ∧ ∀ (j : Nat) (u : AV) (x : Value), q.2[j]? = some u → vs[j]? = some x → RepV G (lens s.h) F w u x := by
  intro rs
  induction rs with
  | nil => intro q hq hs; injection hq with hq; subst hq; exact ⟨[], by simp, rfl, fun j u x h => by simp at h⟩
  | cons r rs ih =>
    intro q hq hs
    cases r with
    | tmp t =>
      simp only [resV] at hq
      rw [Option.map_eq_some_iff] at hq
      obtain ⟨p, hp, rfl⟩ := hq
      obtain ⟨vs, h1, h2, h3⟩ := ih p hp hs.2
      refine ⟨a.tmps.getD t undef :: vs, mapM_run rfl h1, by simp [h2], fun j u x hu hx => ?_⟩
      cases j with
      | zero =>
        simp only [List.getElem?_cons_zero, Option.some.injEq] at hu hx
        subst hu hx
        exact (hr.ev (.tmp t)).ung hs.1
      | succ j => exact h3 j u x (by simpa using hu) (by simpa using hx)
    | cell t ty =>
      simp only [resV] at hq
      split at hq
      · rename_i q' p hq' hp
        injection hq with hq; subst hq
        obtain ⟨g1, g2, g3⟩ := hs
        obtain ⟨vs, h1, h2, h3⟩ := ih p hp g3
        have hx0 := (hr.ev (.tmp t)).ung g1
        obtain ⟨y, e1, e2⟩ := loadAV_sound (P := P) hr.heap hq' g2 hx0
        have e1 := e1 w (SameOn.refl _ _ _ _ _)
        have hptr : ∃ b, a.eval (.tmp t) = .pointer (some b) := by
          generalize a.eval (.tmp t) = z at *
          cases z with
          | pointer p => cases p with
            | none => simp [Instr.loadAt, Instr.sureAddr, stuck] at e1
            | some b => exact ⟨b, rfl⟩
          | _ => simp [Instr.loadAt, Instr.sureAddr, stuck] at e1
        obtain ⟨b, hb⟩ := hptr
        have e3 : (loadVar ty b).run P w = .ok y w := by
          rw [hb] at e1
          simpa [Instr.loadAt, Instr.sureAddr] using e1
        have hb' : a.tmps.getD t undef = .pointer (some b) := hb
        refine ⟨y :: vs, mapM_run (by simp only [resOne, hb', asAddr]; simpa using e3) h1, by simp [h2], fun j u x hu hx => ?_⟩
        cases j with
        | zero =>
          simp only [List.getElem?_cons_zero, Option.some.injEq] at hu hx
          subst hu hx
          exact e2
        | succ j => exact h3 j u x (by simpa using hu) (by simpa using hx)
      · cases hq
def oneX : List Value → Value
  | [v] => v
  | l => .tuple l.toArray
theorem results_run {fn : Func} {tmps : Array Value} {vs : List Value} (h : (fn.results.toList.mapM (resOne tmps)).run P w = .ok vs w) : (results fn tmps).run P w = .ok (oneX vs) w := by
  have e : results fn tmps = (do let vs ← fn.results.mapM (resOne tmps); pure (if h : vs.size = 1 then vs[0] else .tuple vs)) := rfl
  rw [e, Array.mapM_eq_mapM_toList, Sem.run_bind, Sem.run_map, h]
  simp only [Result.andThen_ok]
  rw [Sem.run_pure]
  congr 1
  split
  · rename_i h1
    match vs, h1 with
    | [v], _ => rfl
  · rename_i h1
    match vs, h1 with
    | [], _ => rfl
    | [v], h => exact absurd rfl h
    | v :: u :: l, _ => rfl
theorem RetP_sound {fn : Func} {rs : List ResultVar} (hrs : fn.results.toList = rs) {Post : AV → List AObj → Prop} {st : Nat → Bool} (hE : E.ho = noHo) (hr : Rel E G F s a w) (h : RetP P st rs Post s) :
    ∃ (x : Value) (r : AV) (h' : List AObj) (G' : Gh) (F' : Nat → Prop), (results fn a.tmps).run P w = .ok x w ∧ Fin E G' F' h' w ∧ RepV G' (lens h') F' w r x ∧ Same st G G' (lens s.h) (lens h') ∧ Post r h' := by
  unfold RetP at h
  split at h
  · rename_i q hq
    obtain ⟨hs, h', r', hc, hp⟩ := h
    obtain ⟨vs, h1, h2, h3⟩ := resV_sound hr rs q hq hs
    rw [← hrs] at h1
    have hrun := results_run (fn := fn) h1
    have hrep : RepV G (lens s.h) F w (oneV q.2) (oneX vs) := by
      obtain ⟨_, l⟩ := q
      simp only at h2 h3 ⊢
      match l, vs, h2 with
      | [], [], _ => exact .tup [] #[] rfl fun j u x hu => by simp at hu
      | [u], [v], _ => exact h3 0 u v rfl rfl
      | u :: u2 :: l, v :: v2 :: vs, h2 => exact .tup _ _ (by simpa using h2) fun j y z hy hz => h3 j y z hy (by simpa using hz)
    obtain ⟨G', F', f1, f2, f3⟩ := hc E G F w _ hE hr.fin hrep
    exact ⟨_, r', h', G', F', hrun, f1, f2, f3, hp⟩
  · cases h
/-- a mark is taken off -/
theorem Rel.pop {d : Deferred} {ds : List Deferred} {tmps : Array Value} (hm : ∀ D, E.mks D → E.w0.heap.size ≤ D) (hr : Rel E G F s ⟨tmps, d :: ds⟩ w) : ∃ D, d.target = .collected D ∧ w.heap[D]? = some (.deferred (some [])) ∧ Rel E G F s ⟨tmps, ds⟩ (w.putObj D (.deferred none)) := by
  obtain ⟨D, rfl, e2, e3, e4⟩ := hr.def0.mem d (by simp)
  have hne : ∀ {b : Nat}, b ≠ D → (w.putObj D (.deferred none)).heap[b]? = w.heap[b]? := fun h => World.putObj_heap_other h
  have hw : ∀ b, F b → (w.putObj D (.deferred none)).heap[b]? = w.heap[b]? := fun b hb => hne fun e => e3 (e ▸ hb)
  have hs : (w.putObj D (.deferred none)).heap.size = w.heap.size := by simp [World.putObj]
  refine ⟨D, rfl, e4, hr.len, ⟨(List.nodup_cons.1 hr.def0.nod).2, fun d' hd' => ?_⟩, fun i av v h1 h2 => (hr.slot i av v h1 h2).keep (Later.refl _ _) (fun _ h => h) hw, ⟨fun k y hk => ?_, hr.heap.inj⟩, ⟨hr.mod.os, hr.mod.tape, hr.mod.output, by rw [hs]; exact hr.mod.size, fun k h1 h2 => (hne (by have := hm D e2; omega)).trans (hr.mod.block k h1 h2)⟩, hr.sup, hr.fsup, hr.f0, hr.fc.keep hw, hr.lat⟩
  · obtain ⟨D', rfl, f2, f3, f4⟩ := hr.def0.mem d' (List.mem_cons_of_mem _ hd')
    refine ⟨D', rfl, f2, f3, (hne fun e => ?_).trans f4⟩
    subst e
    exact (List.nodup_cons.1 hr.def0.nod).1 hd'
  · exact (hr.heap.obj k y hk).keep (Later.refl _ _) (fun _ h => h) hw ⟨rfl, rfl, rfl⟩ (fun hv => hne fun e => hr.heap.notDef hk hv (by rw [e]; exact e4)) fun hv hf => hr.heap.nfz hk hv hf
theorem leaves_marks {fn : Func} {rs : List ResultVar} {tmps : Array Value} (hrs : fn.results.toList = rs) {Post : AV → List AObj → Prop} {st : Nat → Bool} {R : Ending → World → Prop} (hE : E.ho = noHo) (hm : ∀ D, E.mks D → E.w0.heap.size ≤ D) (hp : RetP P st rs Post s) :
    ∀ (ds : List Deferred) (w : World) (G : Gh) (F : Nat → Prop), Rel E G F s ⟨tmps, ds⟩ w →
      (∀ (w' : World) (G' : Gh) (F' : Nat → Prop) (x : Value) (r : AV) (h' : List AObj), Fin E G' F' h' w' → RepV G' (lens h') F' w' r x → Same st E.G0 G' E.ln0 (lens h') → Post r h' → R (.returned x) w') → E.st = st → LeavesInM Fence.wide 0 P fn tmps R ds .returning w := by
  intro ds
  induction ds with
  | nil =>
    intro w G F hr hR hst
    obtain ⟨x, r, h', G', F', e1, e2, e3, e4, e6⟩ := RetP_sound hrs hE hr hp
    exact ⟨x, e1, hR w G' F' x r h' e2 e3 (Same.trans (hst ▸ hr.lat) e4) e6⟩
  | cons d ds ih =>
    intro w G F hr hR hst
    obtain ⟨D, e1, e2, e3⟩ := hr.pop hm
    exact ⟨by simp, .inl ⟨D, _, e1, run_takeDeferred e2, ih _ G F e3 hR hst⟩⟩
def anyS : Nat → List AV
  | 0 => []
  | n + 1 => .any :: anyS n
theorem anyS_eq (n : Nat) : anyS n = List.replicate n .any := by
  induction n with
  | zero => rfl
  | succ n ih => rw [anyS, ih, List.replicate_succ]
/-- A body is walked once. -/
theorem acalls_of_EW {f : FuncId} {fn : Func} {c : Code} {args : List AV} {h : List AObj} {st : Nat → Bool} {Post : AV → List AObj → Prop} {rs : List ResultVar} {n : Nat} (hm : P.follows .mixedOrders = true) (hf : P.funcs[f]? = some fn) (hb : fn.body = some c) (hn : fn.ntmps = n) (hrs : fn.results.toList = rs)
    (H : ∀ E, E.ln0 = lens h → E.st = st → E.ho = noHo → (∀ D, E.w0.heap.size ≤ D → E.mks D) → EW P E c ⟨args ++ anyS (n - args.length), h⟩ (retK P st rs Post)) : ACalls P f args h st Post := by
  subst hn
  simp only [anyS_eq] at H
  intro G F w vs hh hflt hrep
  refine (callsIn_wide (n := 0)).1 (callsIn_of_wp_marks hf hb trivial (wpIn_wide.2 ?_))
  have hr : Rel ⟨w, lentB G h, F, G, lens h, st, noHo, fun D => w.heap.size ≤ D⟩ G F ⟨args ++ List.replicate (fn.ntmps - args.length) .any, h⟩ { tmps := vs ++ Array.replicate (fn.ntmps - vs.size) undef, defers := [] } w := by
    refine Rel.mk' ⟨hh, Mod.refl _ _, fun k x hk hv hf _ => .inl ⟨k, x, hk, hv, hf, rfl⟩, fun b hb => .inl hb, fun b hb => hb, hflt⟩ (by simp [hrep.1]) rfl (fun i av v h1 h2 => ?_) ((Later.refl _ _).same _)
    by_cases hi : i < args.length
    · rw [List.getElem?_append_left hi] at h1
      rw [Array.getElem?_append_left (by rw [← hrep.1]; exact hi)] at h2
      exact hrep.2 i av v h1 h2
    · rw [List.getElem?_append_right (by omega)] at h1
      have : av = .any := by
        rw [List.getElem?_replicate] at h1
        split at h1
        · injection h1 with h1; exact h1.symm
        · cases h1
      rw [this]
      exact .any _
  refine Code.wp_mono (fun e a' w' ⟨_, s', ⟨G', F', hr'⟩, h2⟩ => ?_) (H _ rfl rfl rfl (fun _ h => h) _ w ⟨G, F, hr⟩)
  have key : RetP P st rs Post s' → LeavesInM Fence.wide 0 P fn a'.tmps (fun e w' => ∃ (x : Value) (r : AV) (h' : List AObj) (G' : Gh) (F' : Nat → Prop), e = .returned x ∧ Fin ⟨w, lentB G h, F, G, lens h, st, noHo, fun D => w.heap.size ≤ D⟩ G' F' h' w' ∧ RepV G' (lens h') F' w' r x ∧ Same st G G' (lens h) (lens h') ∧ Post r h') a'.defers .returning w' := fun hp =>
    leaves_marks hrs rfl (fun D h => h) (E := ⟨w, lentB G h, F, G, lens h, st, noHo, fun D => w.heap.size ≤ D⟩) hp a'.defers w' G' F' hr' (fun w'' G'' F'' x r h' e2 e3 e4 e6 => ⟨x, r, h', _, _, rfl, e2, e3, e4, e6⟩) rfl
  cases e with
  | normal => exact key h2
  | ret => exact key h2
  | _ => cases h2
theorem acalls_of_runM {cut : List Nat} {f : FuncId} {fn : Func} {c : Code} {args : List AV} {h : List AObj} {st : Nat → Bool} {Post : AV → List AObj → Prop} {rs : List ResultVar} {n : Nat} (hm : P.follows .mixedOrders = true) (hf : P.funcs[f]? = some fn) (hb : fn.body = some c) (hn : fn.ntmps = n) (hrs : fn.results.toList = rs)
    (H : ∀ E, E.ln0 = lens h → E.st = st → E.ho = noHo → (∀ D, E.w0.heap.size ≤ D → E.mks D) → runC cut P E c ⟨args ++ anyS (n - args.length), h⟩ (retK P st rs Post)) : ACalls P f args h st Post :=
  acalls_of_EW hm hf hb hn hrs fun E h1 h2 h3 h4 => runC_sound hm c _ _ (H E h1 h2 h3 h4)
theorem acalls_of_run {cut : List Nat} {f : FuncId} {fn : Func} {c : Code} {args : List AV} {h : List AObj} {st : Nat → Bool} {Post : AV → List AObj → Prop} {rs : List ResultVar} {n : Nat} (hm : P.follows .mixedOrders = true) (hf : P.funcs[f]? = some fn) (hb : fn.body = some c) (hn : fn.ntmps = n) (hrs : fn.results.toList = rs)
    (H : ∀ E, E.ln0 = lens h → E.st = st → E.ho = noHo → runC cut P E c ⟨args ++ anyS (n - args.length), h⟩ (retK P st rs Post)) : ACalls P f args h st Post :=
  acalls_of_runM hm hf hb hn hrs fun E h1 h2 h3 _ => H E h1 h2 h3
/-- nothing is told of blocks -/
theorem Clean.drop (h : List AObj) {r : AV} (hr : ∀ (G : Gh) (ln : List Nat) (F : Nat → Prop) (w : World) (x : Value), RepV G ln F w r x → RepV G [] F w r x) (st : Nat → Bool) (hst : ∀ k, k < h.length → st k = false) : Clean st h r [] r := by
  intro E G F w x hE hf hrep
  exact ⟨G, F, ⟨⟨fun k x hk => by simp at hk, fun j k x y hj => by simp at hj⟩, hf.mod, fun k x hk => by simp at hk, hf.fsup, hf.f0, hf.fc⟩, hr _ _ _ _ _ hrep, fun k m hk hm => by
    have hlt : k < h.length := by
      have := (List.getElem?_eq_some_iff.1 hm).1
      simpa [lens] using this
    rw [hst k hlt] at hk; cases hk⟩
theorem Clean.refl (st : Nat → Bool) (h : List AObj) (r : AV) : Clean st h r h r := fun E G F w x _ hf hr => ⟨G, F, hf, hr, fun k m _ hm => .inl ⟨hm, rfl, rfl, rfl⟩⟩
end
end Go.Proofs.Ytmgpiminicgbiaa
namespace Go.Proofs.Ytmgpiminicgbiaa
set_option linter.unusedVariables false
set_option linter.unusedSimpArgs false
open Go.RowKit

/-! ## A call by a contract -/
def idx : List Nat → Nat → Option Nat
  | [], _ => none
  | x :: l, k => if x = k then some 0 else (idx l k).map (· + 1)
theorem idx_spec : ∀ (l : List Nat) (k i : Nat), idx l k = some i → l[i]? = some k := by
  intro l
  induction l with
  | nil => intro k i h; cases h
  | cons x l ih =>
    intro k i h
    simp only [idx] at h
    split at h
    · rename_i e; injection h with h; subst h; simp [e]
    · rw [Option.map_eq_some_iff] at h
      obtain ⟨j, hj, rfl⟩ := h
      simpa using ih k j hj
theorem idx_none : ∀ (l : List Nat) (k : Nat), idx l k = none → k ∉ l := by
  intro l
  induction l with
  | nil => intro k _; simp
  | cons x l ih =>
    intro k h
    simp only [idx] at h
    split at h
    · cases h
    · rename_i e
      rw [Option.map_eq_none_iff] at h
      simp only [List.mem_cons, not_or]
      exact ⟨fun e' => e e'.symm, ih k h⟩
theorem idx_of_get : ∀ (l : List Nat) (k i : Nat), l.Nodup → l[i]? = some k → idx l k = some i := by
  intro l
  induction l with
  | nil => intro k i _ h; simp at h
  | cons x l ih =>
    intro k i hn h
    simp only [List.nodup_cons] at hn
    cases i with
    | zero => simp at h; simp [idx, h]
    | succ i =>
      simp at h
      have hk : x ≠ k := fun e => hn.1 (e ▸ List.mem_of_getElem? h)
      simp [idx, hk, ih k i hn.2 h]
mutual
def AV.conv (ρ : List Nat) (ok : Nat → Bool) (h : List AObj) : AV → Option (Prop × AV)
  | .any => some (True, .any)
  | .c v => some (True, .c v)
  | .fs sz n l => some (True, .fs sz n l)
  | .fp l => some (True, .fp l)
  | .ptr k off m => (idx ρ k).map fun i => (True, .ptr i off m)
  | .mref k => (idx ρ k).map fun i => (True, .mref i)
  | .sl k sz off n m => match idx ρ k with
    | some i => some (True, .sl i sz off n m)
    | none => if ok k then (cellsH h k).map fun cs => (cs.length = m ∧ off + n * sz ≤ m ∧ n ≤ maxLen ∧ ((cs.drop off).take (n * sz)).all isD = true, .fs sz n ((cs.drop off).take (n * sz))) else none
  | .agg l => (AV.convL ρ ok h l).map fun p => (p.1, .agg p.2)
  | .tup l => (AV.convL ρ ok h l).map fun p => (p.1, .tup p.2)
  | .clo f l k => match AV.convL ρ ok h l, AV.convL ρ ok h k with
    | some p, some q => some (p.1 ∧ q.1, .clo f p.2 q.2)
    | _, _ => none
  | .g .. => none
  | .slc .. => none
def AV.convL (ρ : List Nat) (ok : Nat → Bool) (h : List AObj) : List AV → Option (Prop × List AV)
  | [] => some (True, [])
  | v :: l => match AV.conv ρ ok h v, AV.convL ρ ok h l with
    | some p, some q => some (p.1 ∧ q.1, p.2 :: q.2)
    | _, _ => none
end
def convO (ρ : List Nat) (ok : Nat → Bool) (h : List AObj) : AObj → Option (Prop × AObj)
  | .o .box cs => (AV.convL ρ ok h cs).map fun p => (p.1, .o .box p.2)
  | .o (.row e sz) cs => some (cs.all isD = true, .o (.row e sz) cs)
  | _ => none
def convOs (ρ : List Nat) (ok : Nat → Bool) (h : List AObj) : List Nat → Option (Prop × List AObj)
  | [] => some (True, [])
  | k :: l => match (h[k]?).bind (convO ρ ok h), convOs ρ ok h l with
    | some p, some q => some (p.1 ∧ q.1, p.2 :: q.2)
    | _, _ => none
mutual
def AV.reb (β : Nat → Nat) : AV → AV
  | .ptr k off m => .ptr (β k) off m
  | .mref k => .mref (β k)
  | .sl k sz off n m => .sl (β k) sz off n m
  | .slc k sz off n m => .slc (β k) sz off n m
  | .agg l => .agg (AV.rebL β l)
  | .tup l => .tup (AV.rebL β l)
  | .clo f l k => .clo f (AV.rebL β l) (AV.rebL β k)
  | .g b w v => .g b w (AV.reb β v)
  | v => v
def AV.rebL (β : Nat → Nat) : List AV → List AV
  | [] => []
  | v :: l => AV.reb β v :: AV.rebL β l
end
mutual
/-- no handle that is dead is named -/
def AV.liv (dead : List Nat) : AV → Bool
  | .ptr k _ _ => !dead.contains k
  | .mref k => !dead.contains k
  | .sl k _ _ _ _ => !dead.contains k
  | .slc k _ _ _ _ => !dead.contains k
  | .agg l => AV.livL dead l
  | .tup l => AV.livL dead l
  | .clo _ l k => AV.livL dead l && AV.livL dead k
  | .g _ _ v => AV.liv dead v
  | _ => true
def AV.livL (dead : List Nat) : List AV → Bool
  | [] => true
  | v :: l => AV.liv dead v && AV.livL dead l
end
theorem convL_at {ρ : List Nat} {ok : Nat → Bool} {h : List AObj} : ∀ {l : List AV} {p : Prop × List AV}, AV.convL ρ ok h l = some p → p.1 → p.2.length = l.length ∧ ∀ (j : Nat) (u' : AV), p.2[j]? = some u' → ∃ u q, l[j]? = some u ∧ AV.conv ρ ok h u = some (q, u') ∧ q := by
  intro l
  induction l with
  | nil => intro p hp _; simp only [AV.convL] at hp; injection hp with hp; subst hp; exact ⟨rfl, fun j u' h => by simp at h⟩
  | cons v l ih =>
    intro p hp hs
    simp only [AV.convL] at hp
    split at hp
    · rename_i p1 q1 e1 e2
      injection hp with hp; subst hp
      obtain ⟨i1, i2⟩ := ih e2 hs.2
      refine ⟨by simp [i1], fun j u' hj => ?_⟩
      cases j with
      | zero => simp at hj; subst hj; exact ⟨v, p1.1, rfl, e1, hs.1⟩
      | succ j => simpa using i2 j u' (by simpa using hj)
    · cases hp
theorem rebL_at {β : Nat → Nat} : ∀ {l : List AV}, (AV.rebL β l).length = l.length ∧ ∀ (j : Nat) (u' : AV), (AV.rebL β l)[j]? = some u' → ∃ u, l[j]? = some u ∧ u' = u.reb β := by
  intro l
  induction l with
  | nil => exact ⟨rfl, fun j u' h => by simp [AV.rebL] at h⟩
  | cons v l ih =>
    refine ⟨by simp [AV.rebL, ih.1], fun j u' hj => ?_⟩
    simp only [AV.rebL] at hj
    cases j with
    | zero => simp at hj; exact ⟨v, rfl, hj.symm⟩
    | succ j => simpa using ih.2 j u' (by simpa using hj)
theorem livL_at {dead : List Nat} : ∀ {l : List AV}, AV.livL dead l = true → ∀ (j : Nat) (u : AV), l[j]? = some u → u.liv dead = true := by
  intro l
  induction l with
  | nil => intro _ j u h; simp at h
  | cons v l ih =>
    intro hl j u hj
    simp only [AV.livL, Bool.and_eq_true] at hl
    cases j with
    | zero => simp at hj; subst hj; exact hl.1
    | succ j => exact ih hl.2 j u (by simpa using hj)
section
variable {P : Program} {G : Gh} {F : Nat → Prop} {w : World} {E : Env} {s : AS} {a : Act}
theorem RepV.keepL {G G' : Gh} {ln ln' : List Nat} {F F' : Nat → Prop} {w w' : World} {dead : List Nat} (hl : ∀ (k m : Nat), k ∉ dead → ln[k]? = some m → (ln'[k]? = some m ∧ G'.σ k = G.σ k ∧ G'.bs k = G.bs k ∧ G'.vir k = G.vir k) ∨ ∃ m', ln'[k]? = some m' ∧ m < m')
    (hF : ∀ b, F b → F' b) (hw : ∀ b, F b → w'.heap[b]? = w.heap[b]?) : ∀ {av v}, RepV G ln F w av v → av.liv dead = true → RepV G' ln' F' w' av v := by
  intro av v h
  induction h with
  | any v => intro _; exact .any v
  | d av v h => intro _; exact .d _ _ (h.keep hF hw)
  | ptr h off m h1 h2 =>
    intro hv
    simp [AV.liv] at hv
    rcases hl _ _ hv h1 with ⟨e1, e2, e3, e4⟩ | ⟨m', e1, e2⟩
    · rw [← e2]; exact .ptr h off m e1 (e4.trans h2)
    · exact .ptrOld h off m m' _ e1 e2
  | ptrOld h off m m' p h1 h2 =>
    intro hv
    simp [AV.liv] at hv
    rcases hl _ _ hv h1 with ⟨e1, _⟩ | ⟨m'', e1, e2⟩
    · exact .ptrOld h off m m' p e1 h2
    · exact .ptrOld h off m m'' p e1 (Nat.lt_trans h2 e2)
  | mref h h1 h2 =>
    intro hv
    simp [AV.liv] at hv
    rcases hl _ _ hv h1 with ⟨e1, e2, e3, e4⟩ | ⟨m', e1, e2⟩
    · rw [← e2]; exact .mref h e1 (e4.trans h2)
    · exact .mrefOld h m' _ e1 e2
  | mrefOld h m' v h1 h2 =>
    intro hv
    simp [AV.liv] at hv
    rcases hl _ _ hv h1 with ⟨e1, _⟩ | ⟨m'', e1, e2⟩
    · exact .mrefOld h m' v e1 h2
    · exact .mrefOld h m'' v e1 (Nat.lt_trans h2 e2)
  | sl h sz off n m c h1 h2 h3 h4 h5 =>
    intro hv
    simp [AV.liv] at hv
    rcases hl _ _ hv h1 with ⟨e1, e2, e3, e4⟩ | ⟨m', e1, e2⟩
    · rw [← e2]; exact .sl h sz off n m c e1 (e4.trans h2) h3 h4 (e3.symm ▸ h5)
    · exact .slOld h sz off n m m' _ _ _ e1 e2
  | slNil h sz h1 h2 =>
    intro hv
    simp [AV.liv] at hv
    rcases hl _ _ hv h1 with ⟨e1, e2, e3, e4⟩ | ⟨m', e1, e2⟩
    · exact .slNil h sz e1 (e4.trans h2)
    · exact .slOld h sz 0 0 0 m' _ _ _ e1 e2
  | slOld h sz off n m m' A l c h1 h2 =>
    intro hv
    simp [AV.liv] at hv
    rcases hl _ _ hv h1 with ⟨e1, _⟩ | ⟨m'', e1, e2⟩
    · exact .slOld h sz off n m m' A l c e1 h2
    · exact .slOld h sz off n m m'' A l c e1 (Nat.lt_trans h2 e2)
  | slc h sz off n m A l c h1 h2 ih =>
    intro hv
    simp [AV.liv] at hv
    exact .slc h sz off n m A l c (ih (by simpa [AV.liv] using hv)) fun e => h2 (slc_keep h1.sl_ln (fun m' em => (hl _ _ hv em).imp (fun x => x.1) id) e)
  | fp l b o f h1 h2 h3 => intro _; exact .fp l b o f (hF b h1) (fun j hj => by rw [World.cell?_of_block (a := ⟨b, o + j, none⟩) (hw b h1)]; exact h2 j hj) fun j u hu => (h3 j u hu).keep hF hw
  | agg l cs h1 _ ih => intro hv; exact .agg l cs h1 fun j u x hu hx => ih j u x hu hx (livL_at (by simpa [AV.liv] using hv) j u hu)
  | tup l cs h1 _ ih => intro hv; exact .tup l cs h1 fun j u x hu hx => ih j u x hu hx (livL_at (by simpa [AV.liv] using hv) j u hu)
  | clo f l k cs ds h1 h2 _ _ ih1 ih2 =>
    intro hv
    simp only [AV.liv, Bool.and_eq_true] at hv
    exact .clo f l k cs ds h1 h2 (fun j u x hu hx => ih1 j u x hu hx (livL_at hv.1 j u hu)) fun j u x hu hx => ih2 j u x hu hx (livL_at hv.2 j u hu)
  | g b want u v _ h ih => intro hv; exact .g b want u v (fun e => ih e (by simpa [AV.liv] using hv)) h
/-- in the callee's words -/
theorem RepV.conv {lent : List Nat} {ok : Nat → Bool} {h : List AObj} {Gc : Gh} {lnc : List Nat} {Fc : Nat → Prop} (hh : HRel G F h w) (hG : ∀ (i k : Nat), lent[i]? = some k → Gc.σ i = G.σ k ∧ Gc.bs i = G.bs k ∧ Gc.vir i = G.vir k ∧ lnc[i]? = (lens h)[k]?)
    (hF : ∀ b, F b → Fc b) (hok : ∀ k kd cs, h[k]? = some (.o kd cs) → ok k = true → G.vir k = false → Fc (G.σ k)) : ∀ {av v}, RepV G (lens h) F w av v → ∀ {q : Prop} {av' : AV}, AV.conv lent ok h av = some (q, av') → q → RepV Gc lnc Fc w av' v := by
  intro av v hr
  induction hr with
  | any v => intro q av' hq _; simp only [AV.conv] at hq; injection hq with hq; injection hq with _ hq; subst hq; exact .any v
  | d av v hd =>
    intro q av' hq _
    have hd' := hd.keep hF (w' := w) fun _ _ => rfl
    cases hd with
    | c v => simp only [AV.conv] at hq; injection hq with hq; injection hq with _ hq; subst hq; exact .d _ _ hd'
    | fs0 sz A c h => simp only [AV.conv] at hq; injection hq with hq; injection hq with _ hq; subst hq; exact .d _ _ hd'
    | fs sz n b o c l f h1 h2 h3 h4 h5 h6 => simp only [AV.conv] at hq; injection hq with hq; injection hq with _ hq; subst hq; exact .d _ _ hd'
  | ptr k off m h1 h2 =>
    intro q av' hq _
    simp only [AV.conv] at hq
    rw [Option.map_eq_some_iff] at hq
    obtain ⟨i, hi, hq⟩ := hq
    injection hq with _ hq; subst hq
    obtain ⟨e1, e2, e3, e4⟩ := hG i k (idx_spec _ _ _ hi)
    rw [← e1]
    exact .ptr i off m (e4.trans h1) (e3.trans h2)
  | ptrOld k off m m' p h1 h2 =>
    intro q av' hq _
    simp only [AV.conv] at hq
    rw [Option.map_eq_some_iff] at hq
    obtain ⟨i, hi, hq⟩ := hq
    injection hq with _ hq; subst hq
    obtain ⟨e1, e2, e3, e4⟩ := hG i k (idx_spec _ _ _ hi)
    exact .ptrOld i off m m' p (e4.trans h1) h2
  | mref k h1 h2 =>
    intro q av' hq _
    simp only [AV.conv] at hq
    rw [Option.map_eq_some_iff] at hq
    obtain ⟨i, hi, hq⟩ := hq
    injection hq with _ hq; subst hq
    obtain ⟨e1, e2, e3, e4⟩ := hG i k (idx_spec _ _ _ hi)
    rw [← e1]
    exact .mref i (e4.trans h1) (e3.trans h2)
  | mrefOld k m' v h1 h2 =>
    intro q av' hq _
    simp only [AV.conv] at hq
    rw [Option.map_eq_some_iff] at hq
    obtain ⟨i, hi, hq⟩ := hq
    injection hq with _ hq; subst hq
    obtain ⟨e1, e2, e3, e4⟩ := hG i k (idx_spec _ _ _ hi)
    exact .mrefOld i m' v (e4.trans h1) h2
  | sl k sz off n m c h1 h2 h3 h4 h5 =>
    intro q av' hq hs
    simp only [AV.conv] at hq
    split at hq
    · rename_i i hi
      injection hq with hq; injection hq with _ hq; subst hq
      obtain ⟨e1, e2, e3, e4⟩ := hG i k (idx_spec _ _ _ hi)
      rw [← e1]
      exact .sl i sz off n m c (e4.trans h1) (e3.trans h2) h3 h4 (e2.symm ▸ h5)
    · split at hq
      · rename_i hk
        rw [Option.map_eq_some_iff] at hq
        obtain ⟨cs, hcs, hq⟩ := hq
        injection hq with hq1 hq; subst hq1 hq
        obtain ⟨s1, s2, s2', s3⟩ := hs
        obtain ⟨kd, hkd, _⟩ := cellsH_at hcs
        obtain ⟨cur, ty, fr, hb, hsz, hcr⟩ := hh.cells hkd h2
        refine .d _ _ ?_
        rcases Nat.eq_zero_or_pos n with h0 | h0
        · subst h0
          simp only [Nat.zero_mul, List.take_zero]
          exact .fs0 sz _ c h4
        · refine .fs sz n (G.σ k) off c _ (fun j => cur.getD (off + j) undef) h0 h3 h4 (by simp; omega) (hok k _ _ hkd hk h2) (fun j hj => ?_) fun j u hu => ?_
          · rw [cell_cells hb]
            have : off + j < cur.size := by simp at hj; omega
            simp [Array.getD, this]
          · have hd := List.all_eq_true.1 s3 u (List.mem_of_getElem? hu)
            rw [List.getElem?_take] at hu
            split at hu
            · rw [drop_at] at hu
              obtain ⟨y, hy, hry⟩ := hcr _ _ hu
              have : cur.getD (off + j) undef = y := by rw [Array.getD_eq_getD_getElem?, hy]; rfl
              rw [this]
              exact (isD_rep hd hry).keep hF fun _ _ => rfl
            · cases hu
      · cases hq
  | slNil k sz h1 h2 =>
    intro q av' hq hs
    simp only [AV.conv] at hq
    split at hq
    · rename_i i hi
      injection hq with hq; injection hq with _ hq; subst hq
      obtain ⟨e1, e2, e3, e4⟩ := hG i k (idx_spec _ _ _ hi)
      exact .slNil i sz (e4.trans h1) (e3.trans h2)
    · split at hq
      · rw [Option.map_eq_some_iff] at hq
        obtain ⟨cs, hcs, hq⟩ := hq
        injection hq with hq1 hq; subst hq1 hq
        simp only [Nat.zero_mul, List.take_zero]
        exact .d _ _ (.fs0 sz none 0 (Nat.zero_le _))
      · cases hq
  | slOld k sz off n m m' A l c h1 h2 =>
    intro q av' hq hs
    simp only [AV.conv] at hq
    split at hq
    · rename_i i hi
      injection hq with hq; injection hq with _ hq; subst hq
      obtain ⟨e1, e2, e3, e4⟩ := hG i k (idx_spec _ _ _ hi)
      exact .slOld i sz off n m m' A l c (e4.trans h1) h2
    · split at hq
      · rw [Option.map_eq_some_iff] at hq
        obtain ⟨cs, hcs, hq⟩ := hq
        injection hq with hq1 hq; subst hq1 hq
        obtain ⟨kd, hkd, hln⟩ := cellsH_at hcs
        rw [h1] at hln; injection hln with hln
        have := hs.1
        omega
      · cases hq
  | slc k sz off n m A l c h1 h2 ih => intro q av' hq _; simp only [AV.conv] at hq; cases hq
  | fp l b o f h1 h2 h3 =>
    intro q av' hq _
    simp only [AV.conv] at hq; injection hq with hq; injection hq with _ hq; subst hq
    exact .fp l b o f (hF b h1) h2 fun j u hu => (h3 j u hu).keep hF fun _ _ => rfl
  | agg l cs h1 _ ih =>
    intro q av' hq hs
    simp only [AV.conv] at hq
    rw [Option.map_eq_some_iff] at hq
    obtain ⟨p, hp, hq⟩ := hq
    injection hq with hq1 hq; subst hq1 hq
    obtain ⟨c1, c2⟩ := convL_at hp hs
    exact .agg _ cs (c1.trans h1) fun j u' x hu hx => let ⟨u, q, e1, e2, e3⟩ := c2 j u' hu; ih j u x e1 hx e2 e3
  | tup l cs h1 _ ih =>
    intro q av' hq hs
    simp only [AV.conv] at hq
    rw [Option.map_eq_some_iff] at hq
    obtain ⟨p, hp, hq⟩ := hq
    injection hq with hq1 hq; subst hq1 hq
    obtain ⟨c1, c2⟩ := convL_at hp hs
    exact .tup _ cs (c1.trans h1) fun j u' x hu hx => let ⟨u, q, e1, e2, e3⟩ := c2 j u' hu; ih j u x e1 hx e2 e3
  | clo f l k cs ds h1 h2 _ _ ih1 ih2 =>
    intro q av' hq hs
    simp only [AV.conv] at hq
    split at hq
    · rename_i p1 p2 e1 e2
      injection hq with hq; injection hq with hq1 hq; subst hq1 hq
      obtain ⟨c1, c2⟩ := convL_at e1 hs.1
      obtain ⟨d1, d2⟩ := convL_at e2 hs.2
      exact .clo f _ _ cs ds (c1.trans h1) (d1.trans h2) (fun j u' x hu hx => let ⟨u, q, e1, e2, e3⟩ := c2 j u' hu; ih1 j u x e1 hx e2 e3) fun j u' x hu hx => let ⟨u, q, e1, e2, e3⟩ := d2 j u' hu; ih2 j u x e1 hx e2 e3
    · cases hq
  | g b want u v _ h ih => intro q av' hq _; simp only [AV.conv] at hq; cases hq
/-- back in the caller's words -/
theorem RepV.reb {β : Nat → Nat} {G' : Gh} {ln' : List Nat} {ln : List Nat} (hG : ∀ (i m : Nat), ln'[i]? = some m → G.σ (β i) = G'.σ i ∧ G.bs (β i) = G'.bs i ∧ G.vir (β i) = G'.vir i ∧ ln[β i]? = some m) : ∀ {av v}, RepV G' ln' F w av v → RepV G ln F w (av.reb β) v := by
  intro av v hr
  induction hr with
  | any v => simp only [AV.reb]; exact .any v
  | d av v hd =>
    have hd0 := hd
    cases hd with
    | c v => simp only [AV.reb]; exact .d _ _ hd0
    | fs0 sz A c h => simp only [AV.reb]; exact .d _ _ hd0
    | fs sz n b o c l f h1 h2 h3 h4 h5 h6 => simp only [AV.reb]; exact .d _ _ hd0
  | ptr k off m h1 h2 =>
    obtain ⟨e1, e2, e3, e4⟩ := hG k m h1
    simp only [AV.reb]; rw [← e1]; exact .ptr _ off m e4 (e3.trans h2)
  | ptrOld k off m m' p h1 h2 =>
    obtain ⟨e1, e2, e3, e4⟩ := hG k m' h1
    simp only [AV.reb]; exact .ptrOld _ off m m' p e4 h2
  | mref k h1 h2 =>
    obtain ⟨e1, e2, e3, e4⟩ := hG k 0 h1
    simp only [AV.reb]; rw [← e1]; exact .mref _ e4 (e3.trans h2)
  | mrefOld k m' v h1 h2 =>
    obtain ⟨e1, e2, e3, e4⟩ := hG k m' h1
    simp only [AV.reb]; exact .mrefOld _ m' v e4 h2
  | sl k sz off n m c h1 h2 h3 h4 h5 =>
    obtain ⟨e1, e2, e3, e4⟩ := hG k m h1
    simp only [AV.reb]; rw [← e1]; exact .sl _ sz off n m c e4 (e3.trans h2) h3 h4 (e2.symm ▸ h5)
  | slNil k sz h1 h2 =>
    obtain ⟨e1, e2, e3, e4⟩ := hG k 0 h1
    simp only [AV.reb]; exact .slNil _ sz e4 (e3.trans h2)
  | slOld k sz off n m m' A l c h1 h2 =>
    obtain ⟨e1, e2, e3, e4⟩ := hG k m' h1
    simp only [AV.reb]; exact .slOld _ sz off n m m' A l c e4 h2
  | slc k sz off n m A l c h1 h2 ih =>
    obtain ⟨m', e1, e2⟩ := h1.sl_ln
    obtain ⟨_, _, _, e4⟩ := hG k m' e1
    simp only [AV.reb] at ih ⊢
    refine .slc _ sz off n m A l c ih fun e => h2 ?_
    rw [e4] at e; injection e with e; subst e; exact e1
  | fp l b o f h1 h2 h3 => simp only [AV.reb]; exact .fp l b o f h1 h2 h3
  | agg l cs h1 _ ih =>
    simp only [AV.reb]
    exact .agg _ cs (rebL_at.1.trans h1) fun j u' x hu hx => by obtain ⟨u, e1, rfl⟩ := rebL_at.2 j u' hu; exact ih j u x e1 hx
  | tup l cs h1 _ ih =>
    simp only [AV.reb]
    exact .tup _ cs (rebL_at.1.trans h1) fun j u' x hu hx => by obtain ⟨u, e1, rfl⟩ := rebL_at.2 j u' hu; exact ih j u x e1 hx
  | clo f l k cs ds h1 h2 _ _ ih1 ih2 =>
    simp only [AV.reb]
    exact .clo f _ _ cs ds (rebL_at.1.trans h1) (rebL_at.1.trans h2) (fun j u' x hu hx => by obtain ⟨u, e1, rfl⟩ := rebL_at.2 j u' hu; exact ih1 j u x e1 hx) fun j u' x hu hx => by obtain ⟨u, e1, rfl⟩ := rebL_at.2 j u' hu; exact ih2 j u x e1 hx
  | g b want u v _ h ih => simp only [AV.reb]; exact .g b want _ v ih h
theorem rebL_isD {β : Nat → Nat} : ∀ {l : List AV}, l.all isD = true → AV.rebL β l = l := by
  intro l
  induction l with
  | nil => intro _; rfl
  | cons v l ih =>
    intro h
    simp only [List.all_cons, Bool.and_eq_true] at h
    simp only [AV.rebL, ih h.2]
    congr 1
    cases v <;> first | rfl | cases h.1
end
def rebO (β : Nat → Nat) : AObj → AObj
  | .o (.row e sz) cs => if cs.all isD then .o (.row e sz) cs else .o (.row e sz) (AV.rebL β cs)
  | .o k cs => .o k (AV.rebL β cs)
  | .raw x => .raw x
theorem rebO_eq (β : Nat → Nat) (k : AKind) (cs : List AV) : rebO β (.o k cs) = .o k (AV.rebL β cs) := by
  cases k with
  | row e sz =>
    simp only [rebO]
    split
    · rename_i h; rw [rebL_isD h]
    · rfl
  | _ => rfl
theorem rebO_ln (β : Nat → Nat) (x : AObj) : lnO (rebO β x) = lnO x := by
  cases x with
  | raw s => rfl
  | o k cs => rw [rebO_eq]; exact rebL_at.1
theorem rebO_fz (β : Nat → Nat) (x : AObj) : fzO (rebO β x) = fzO x := by
  cases x with
  | raw s => rfl
  | o k cs => rw [rebO_eq]; cases k <;> rfl
def putBack : List AObj → List Nat → List AObj → List AObj
  | h, k :: ks, x :: xs => putBack (h.set k x) ks xs
  | h, _, _ => h
def frzO : AObj → AObj
  | .o _ cs => .o .fz cs
  | x => x
def frzFrom (ok : Nat → Bool) : Nat → List AObj → List AObj
  | _, [] => []
  | i, x :: l => (if ok i then frzO x else x) :: frzFrom ok (i + 1) l
theorem frz_at (ok : Nat → Bool) : ∀ (l : List AObj) (i k : Nat), (frzFrom ok i l)[k]? = (l[k]?).map fun x => if ok (i + k) then frzO x else x := by
  intro l
  induction l with
  | nil => intro i k; simp [frzFrom]
  | cons x l ih =>
    intro i k
    cases k with
    | zero => simp [frzFrom]
    | succ k => simp only [frzFrom, List.getElem?_cons_succ, ih]; rw [show i + 1 + k = i + (k + 1) by omega]
theorem frz_len (ok : Nat → Bool) : ∀ (l : List AObj) (i : Nat), (frzFrom ok i l).length = l.length := by
  intro l
  induction l with
  | nil => intro i; rfl
  | cons x l ih => intro i; simp [frzFrom, ih]
theorem putBack_at : ∀ (lent : List Nat) (xs : List AObj) (h : List AObj), lent.Nodup → (∀ k ∈ lent, k < h.length) → lent.length ≤ xs.length → (putBack h lent xs).length = h.length ∧
    (∀ (i k : Nat), lent[i]? = some k → (putBack h lent xs)[k]? = xs[i]?) ∧ ∀ (k : Nat), k ∉ lent → (putBack h lent xs)[k]? = h[k]? := by
  intro lent
  induction lent with
  | nil => intro xs h _ _ _; exact ⟨by simp [putBack], fun i k hk => by simp at hk, fun k _ => by simp [putBack]⟩
  | cons k0 ks ih =>
    intro xs h hn hl hx
    cases xs with
    | nil => simp at hx
    | cons x xs =>
      simp only [List.nodup_cons] at hn
      obtain ⟨i1, i2, i3⟩ := ih xs (h.set k0 x) hn.2 (fun k hk => by simpa using hl k (by simp [hk])) (by simpa using hx)
      simp only [putBack]
      refine ⟨by simpa using i1, fun i k hk => ?_, fun k hk => ?_⟩
      · cases i with
        | zero =>
          simp at hk; subst hk
          rw [i3 k0 hn.1, List.getElem?_set, if_pos rfl, if_pos (hl k0 (by simp))]
          rfl
        | succ i => simpa using i2 i k (by simpa using hk)
      · simp only [List.mem_cons, not_or] at hk
        rw [i3 k hk.2, List.getElem?_set, if_neg (fun e => hk.1 e.symm)]
/-- where the callee's handles lie in the caller's list -/
def backIx (lent : List Nat) (N i : Nat) : Nat := match lent[i]? with | some k => k | none => N + (i - lent.length)
def afterH (lent : List Nat) (ok : Nat → Bool) (h h' : List AObj) : List AObj := putBack (frzFrom ok 0 h) lent (h'.map (rebO (backIx lent h.length))) ++ (h'.drop lent.length).map (rebO (backIx lent h.length))
def livO (dead : List Nat) : AObj → Bool
  | .o (.row _ _) cs => cs.all isD || AV.livL dead cs
  | .o _ cs => AV.livL dead cs
  | _ => true
def livH (dead lent : List Nat) : Nat → List AObj → Bool
  | _, [] => true
  | i, x :: l => (lent.contains i || livO dead x) && livH dead lent (i + 1) l
theorem livH_at {dead lent : List Nat} : ∀ {l : List AObj} {i : Nat}, livH dead lent i l = true → ∀ k x, l[k]? = some x → i + k ∉ lent → livO dead x = true := by
  intro l
  induction l with
  | nil => intro i _ k x h; simp at h
  | cons y l ih =>
    intro i hl k x hk hn
    simp only [livH, Bool.and_eq_true, Bool.or_eq_true] at hl
    cases k with
    | zero =>
      simp at hk; subst hk
      rcases hl.1 with h | h
      · exact absurd (by simpa using h) hn
      · exact h
    | succ k => exact ih hl.2 k x (by simpa using hk) (by rw [show i + 1 + k = i + (k + 1) by omega]; exact hn)
theorem isD_liv {dead : List Nat} {l : List AV} (h : l.all isD = true) (j : Nat) (u : AV) (hu : l[j]? = some u) : u.liv dead = true := by
  have := List.all_eq_true.1 h u (List.mem_of_getElem? hu)
  cases u <;> first | rfl | cases this
theorem livO_at {dead : List Nat} {kd : AKind} {cs : List AV} (h : livO dead (.o kd cs) = true) (j : Nat) (u : AV) (hu : cs[j]? = some u) : u.liv dead = true := by
  cases kd with
  | row e sz =>
    simp only [livO, Bool.or_eq_true] at h
    rcases h with h | h
    · exact isD_liv h j u hu
    · exact livL_at h j u hu
  | _ => exact livL_at h j u hu
theorem convOs_at {ρ : List Nat} {ok : Nat → Bool} {h : List AObj} : ∀ {l : List Nat} {p : Prop × List AObj}, convOs ρ ok h l = some p → p.1 → p.2.length = l.length ∧ ∀ (i k : Nat), l[i]? = some k → ∃ x q y, h[k]? = some x ∧ convO ρ ok h x = some (q, y) ∧ q ∧ p.2[i]? = some y := by
  intro l
  induction l with
  | nil => intro p hp _; simp only [convOs] at hp; injection hp with hp; subst hp; exact ⟨rfl, fun i k h => by simp at h⟩
  | cons k0 l ih =>
    intro p hp hs
    simp only [convOs] at hp
    split at hp
    · rename_i p1 q1 e1 e2
      injection hp with hp; subst hp
      rw [Option.bind_eq_some_iff] at e1
      obtain ⟨x, hx, hcx⟩ := e1
      obtain ⟨i1, i2⟩ := ih e2 hs.2
      refine ⟨by simp [i1], fun i k hk => ?_⟩
      cases i with
      | zero => simp at hk; subst hk; exact ⟨x, p1.1, p1.2, hx, hcx, hs.1, rfl⟩
      | succ i => simpa using i2 i k (by simpa using hk)
    · cases hp
theorem convO_kind {ρ : List Nat} {ok : Nat → Bool} {h : List AObj} {x y : AObj} {q : Prop} (hc : convO ρ ok h x = some (q, y)) (hq : q) : lnO y = lnO x ∧ fzO x = false ∧ fzO y = false := by
  cases x with
  | raw s => cases hc
  | o kd cs =>
    cases kd with
    | box =>
      simp only [convO] at hc
      rw [Option.map_eq_some_iff] at hc
      obtain ⟨p, hp, hc⟩ := hc
      injection hc with h1 h2; subst h1 h2
      exact ⟨(convL_at hp hq).1, rfl, rfl⟩
    | row e sz => simp only [convO] at hc; injection hc with hc; injection hc with h1 h2; subst h1 h2; exact ⟨rfl, rfl, rfl⟩
    | fz => cases hc
def Gn (G G' : Gh) (lent : List Nat) (N : Nat) : Gh :=
  ⟨fun k => match idx lent k with | some i => G'.σ i | none => if k < N then G.σ k else G'.σ (k - N + lent.length),
   fun k => match idx lent k with | some i => G'.bs i | none => if k < N then G.bs k else G'.bs (k - N + lent.length),
   fun k => match idx lent k with | some i => G'.vir i | none => if k < N then G.vir k else G'.vir (k - N + lent.length)⟩
theorem Gn_old (G G' : Gh) {lent : List Nat} {N k : Nat} (h : k ∉ lent) (hk : k < N) : (Gn G G' lent N).σ k = G.σ k ∧ (Gn G G' lent N).bs k = G.bs k ∧ (Gn G G' lent N).vir k = G.vir k := by
  have : idx lent k = none := by
    cases e : idx lent k with
    | none => rfl
    | some i => exact absurd (List.mem_of_getElem? (idx_spec _ _ _ e)) h
  simp [Gn, this, hk]
theorem Gn_back (G G' : Gh) {lent : List Nat} {N : Nat} (hn : lent.Nodup) (hl : ∀ k ∈ lent, k < N) (i : Nat) : (Gn G G' lent N).σ (backIx lent N i) = G'.σ i ∧ (Gn G G' lent N).bs (backIx lent N i) = G'.bs i ∧ (Gn G G' lent N).vir (backIx lent N i) = G'.vir i := by
  unfold backIx
  cases e : lent[i]? with
  | some k => simp [Gn, idx_of_get _ _ _ hn e]
  | none =>
    have hi : lent.length ≤ i := by
      rcases Nat.lt_or_ge i lent.length with h | h
      · rw [List.getElem?_eq_getElem h] at e; cases e
      · exact h
    have hx : idx lent (N + (i - lent.length)) = none := by
      cases e' : idx lent (N + (i - lent.length)) with
      | none => rfl
      | some j => have := hl _ (List.mem_of_getElem? (idx_spec _ _ _ e')); omega
    have h1 : ¬ N + (i - lent.length) < N := by omega
    have h2 : N + (i - lent.length) - N + lent.length = i := by omega
    have h3 : i - lent.length + lent.length = i := by omega
    simp [Gn, hx, h1, h3]
section
variable {P : Program} {E : Env} {s : AS}
theorem after_back {lent : List Nat} {ok : Nat → Bool} {h h' : List AObj} (hn : lent.Nodup) (hl : ∀ k ∈ lent, k < h.length) (hh : lent.length ≤ h'.length) (i : Nat) : (afterH lent ok h h')[backIx lent h.length i]? = (h'[i]?).map (rebO (backIx lent h.length)) := by
  obtain ⟨p1, p2, p3⟩ := putBack_at lent (h'.map (rebO (backIx lent h.length))) (frzFrom ok 0 h) hn (fun k hk => by rw [frz_len]; exact hl k hk) (by simpa using hh)
  rw [frz_len] at p1
  unfold afterH
  cases e : lent[i]? with
  | some k =>
    have hb : backIx lent h.length i = k := by simp [backIx, e]
    rw [hb, List.getElem?_append_left (by rw [p1]; exact hl k (List.mem_of_getElem? e)), p2 i k e, List.getElem?_map]
  | none =>
    have hi : lent.length ≤ i := by
      rcases Nat.lt_or_ge i lent.length with h | h
      · rw [List.getElem?_eq_getElem h] at e; cases e
      · exact h
    have hb : backIx lent h.length i = h.length + (i - lent.length) := by simp [backIx, e]
    have h0 : (putBack (frzFrom ok 0 h) lent (h'.map (rebO (backIx lent h.length))))[backIx lent h.length i]? = none := List.getElem?_eq_none (by rw [p1, hb]; omega)
    rw [List.getElem?_append_right (by rw [p1, hb]; omega), p1, List.getElem?_map, List.getElem?_drop]
    congr 2
    omega
theorem after_old {lent : List Nat} {ok : Nat → Bool} {h h' : List AObj} (hn : lent.Nodup) (hl : ∀ k ∈ lent, k < h.length) (hh : lent.length ≤ h'.length) {k : Nat} (hk : k ∉ lent) (hlt : k < h.length) : (afterH lent ok h h')[k]? = (h[k]?).map fun x => if ok k then frzO x else x := by
  obtain ⟨p1, p2, p3⟩ := putBack_at lent (h'.map (rebO (backIx lent h.length))) (frzFrom ok 0 h) hn (fun k hk => by rw [frz_len]; exact hl k hk) (by simpa using hh)
  rw [frz_len] at p1
  unfold afterH
  rw [List.getElem?_append_left (by rw [p1]; exact hlt), p3 k hk, frz_at, Nat.zero_add]
theorem after_cases {lent : List Nat} {ok : Nat → Bool} {h h' : List AObj} (hn : lent.Nodup) (hl : ∀ k ∈ lent, k < h.length) (hh : lent.length ≤ h'.length) {k : Nat} {x : AObj} (hx : (afterH lent ok h h')[k]? = some x) :
    (∃ i y, k = backIx lent h.length i ∧ h'[i]? = some y ∧ x = rebO (backIx lent h.length) y) ∨ (k ∉ lent ∧ k < h.length ∧ ∃ y, h[k]? = some y ∧ x = if ok k then frzO y else y) := by
  by_cases hlt : k < h.length
  · by_cases hk : k ∈ lent
    · obtain ⟨i, hi, e⟩ := List.mem_iff_getElem.1 hk
      have e' : lent[i]? = some k := by rw [List.getElem?_eq_getElem hi, e]
      have hb : backIx lent h.length i = k := by simp [backIx, e']
      have := after_back (ok := ok) hn hl hh i
      rw [hb, hx] at this
      cases hy : h'[i]? with
      | none => rw [hy] at this; cases this
      | some y => rw [hy] at this; injection this with this; exact .inl ⟨i, y, hb.symm, hy, this⟩
    · rw [after_old hn hl hh hk hlt] at hx
      rw [Option.map_eq_some_iff] at hx
      obtain ⟨y, hy, e⟩ := hx
      exact .inr ⟨hk, hlt, y, hy, e.symm⟩
  · have hb : backIx lent h.length (k - h.length + lent.length) = k := by
      have : lent[k - h.length + lent.length]? = none := List.getElem?_eq_none (by omega)
      simp only [backIx, this]; omega
    have := after_back (ok := ok) hn hl hh (k - h.length + lent.length)
    rw [hb, hx] at this
    cases hy : h'[k - h.length + lent.length]? with
    | none => rw [hy] at this; cases this
    | some y => rw [hy] at this; injection this with this; exact .inl ⟨_, y, hb.symm, hy, this⟩
/-- **A call by its contract.** lent: the handles that the callee gets, in its order; ok: the rows that it gets as data (they stay as they are from then on); dead: rows of lent objects that may be laid anew. -/
theorem call_of {g : FuncId} {args : List AV} {K : AV → AS → Prop} (lent : List Nat) (ok : Nat → Bool) (dead : List Nat) {cargs : List AV} {ch : List AObj} {st : Nat → Bool} {Post : AV → List AObj → Prop} (hc : ACalls P g cargs ch st Post)
    {pa po : Prop} (ha : AV.convL lent ok s.h args = some (pa, cargs)) (hpa : pa) (ho : convOs lent ok s.h lent = some (po, ch)) (hpo : po) (hn : lent.Nodup) (hok : ∀ k ∈ lent, ok k = false)
    (hst : ∀ (i k : Nat), lent[i]? = some k → st i = true ∨ k ∈ dead) (hdt : AV.livL dead s.t = true) (hdo : livH dead lent 0 s.h = true) (hde : ∀ k ∈ dead, E.st k = false ∨ E.ln0.length ≤ k) (hho : ∀ k ∈ lent, E.ho k = false) (hoo : ∀ k, ok k = true → E.ho k = false)
    (hK : ∀ r h', Post r h' → lent.length ≤ h'.length ∧ K (r.reb (backIx lent s.h.length)) ⟨s.t, afterH lent ok s.h h'⟩) : CallG P E g args s K := by
  intro G F a w vs hr hl hrep
  obtain ⟨o1, o2⟩ := convOs_at ho hpo
  have hlt : ∀ k ∈ lent, k < s.h.length := fun k hk => by
    obtain ⟨i, hi, e⟩ := List.mem_iff_getElem.1 hk
    obtain ⟨x, q, y, hx, _⟩ := o2 i k (by rw [List.getElem?_eq_getElem hi, e])
    exact (List.getElem?_eq_some_iff.1 hx).1
  have gd : ∀ {i k : Nat}, lent[i]? = some k → lent.getD i 0 = k := fun {i k} e => by simp [List.getD, e]
  let Gc : Gh := ⟨fun i => G.σ (lent.getD i 0), fun i => G.bs (lent.getD i 0), fun i => G.vir (lent.getD i 0)⟩
  let Fc : Nat → Prop := fun b => F b ∨ ∃ k kd cs, s.h[k]? = some (.o kd cs) ∧ ok k = true ∧ G.vir k = false ∧ b = G.σ k
  have hG : ∀ (i k : Nat), lent[i]? = some k → Gc.σ i = G.σ k ∧ Gc.bs i = G.bs k ∧ Gc.vir i = G.vir k ∧ (lens ch)[i]? = (lens s.h)[k]? := fun i k e => by
    obtain ⟨x, q, y, hx, hcx, hq, hy⟩ := o2 i k e
    refine ⟨by simp [Gc, e], by simp [Gc, e], by simp [Gc, e], ?_⟩
    simp only [lens, List.getElem?_map]
    rw [hx]
    simp only at hy
    rw [hy]
    simp [(convO_kind hcx hq).1]
  have hFF : ∀ b, F b → Fc b := fun b hb => .inl hb
  have hFok : ∀ k kd cs, s.h[k]? = some (.o kd cs) → ok k = true → G.vir k = false → Fc (G.σ k) := fun k kd cs h1 h2 h3 => .inr ⟨k, kd, cs, h1, h2, h3, rfl⟩
  have nFc : ∀ {k : Nat} {x : AObj}, s.h[k]? = some x → ok k = false → G.vir k = false → fzO x = false → ¬ Fc (G.σ k) := fun {k x} hk hok' hv hf hF => by
    rcases hF with h1 | ⟨k', kd, cs, h1, h2, h3, h4⟩
    · exact hr.heap.nfz hk hv hf h1
    · by_cases hz : fzO (.o kd cs) = false
      · have := hr.heap.inj k k' x _ hk h1 hv h3 hf hz h4
        rw [this] at hok'; rw [h2] at hok'; cases hok'
      · have hob := hr.heap.obj k' _ h1
        cases kd with
        | box => exact hz rfl
        | row e sz => exact hz rfl
        | fz =>
          rcases hob with ⟨e1, _⟩ | ⟨_, e1, _⟩
          · rw [h3] at e1; cases e1
          · exact hr.heap.nfz hk hv hf (h4 ▸ e1)
  have chG : ∀ {i : Nat} {y : AObj}, ch[i]? = some y → ∃ k x q, lent[i]? = some k ∧ s.h[k]? = some x ∧ convO lent ok s.h x = some (q, y) ∧ q := fun {i y} hy => by
    have hi : i < lent.length := by
      have h1 := (List.getElem?_eq_some_iff.1 hy).1
      simp only at o1
      omega
    obtain ⟨x, q, y', hx, hcx, hq, hy'⟩ := o2 i lent[i] (List.getElem?_eq_getElem hi)
    simp only at hy'
    rw [hy] at hy'; injection hy' with hy'; subst hy'
    exact ⟨lent[i], x, q, List.getElem?_eq_getElem hi, hx, hcx, hq⟩
  have conv1 : ∀ {av : AV} {v : Value}, RepV G (lens s.h) F w av v → ∀ {q : Prop} {av' : AV}, AV.conv lent ok s.h av = some (q, av') → q → RepV Gc (lens ch) Fc w av' v := fun h => RepV.conv hr.heap hG hFF hFok h
  have hHc : HRel Gc Fc ch w := by
    refine ⟨fun i y hy => ?_, fun i j y z hy hz vi vj _ _ he => ?_⟩
    · obtain ⟨k, x, q, hk, hx, hcx, hq⟩ := chG hy
      obtain ⟨e1, e2, e3, e4⟩ := hG i k hk
      have hokk := hok k (List.mem_of_getElem? hk)
      have hob := hr.heap.obj k x hx
      cases x with
      | raw s => cases hcx
      | o kd cs =>
        cases kd with
        | fz => cases hcx
        | box =>
          simp only [convO] at hcx
          rw [Option.map_eq_some_iff] at hcx
          obtain ⟨p, hp, hcx⟩ := hcx
          injection hcx with h1 h2; subst h1 h2
          obtain ⟨c1, c2⟩ := convL_at hp hq
          obtain ⟨a1, a2, cur, ty, a3, a4, a5, a6⟩ := hob
          refine ⟨e3.trans a1, by rw [e1]; exact nFc hx hokk a1 rfl, cur, ty, by rw [e1]; exact a3, by rw [e2]; exact a4, by rw [e2, c1]; exact a5, fun j u' hu => ?_⟩
          obtain ⟨u, q', f1, f2, f3⟩ := c2 j u' hu
          obtain ⟨v, f4, f5⟩ := a6 j u f1
          exact ⟨v, f4, conv1 f5 f2 f3⟩
        | row e sz =>
          simp only [convO] at hcx
          injection hcx with hcx; injection hcx with h1 h2; subst h1 h2
          rcases hob with ⟨a1, a2⟩ | ⟨a1, a2, cur, c, a3, a4, a5, a6, a7, a8⟩
          · exact .inl ⟨e3.trans a1, a2⟩
          · refine .inr ⟨e3.trans a1, by rw [e1]; exact nFc hx hokk a1 rfl, cur, c, by rw [e1]; exact a3, by rw [e2]; exact a4, by rw [e2]; exact a5, a6, by rw [e2]; exact a7, fun j u hu => ?_⟩
            obtain ⟨v, f4, f5⟩ := a8 j u hu
            exact ⟨v, f4, .d _ _ ((isD_rep (List.all_eq_true.1 hq u (List.mem_of_getElem? hu)) f5).keep hFF fun _ _ => rfl)⟩
    · obtain ⟨k, x, q, hk, hx, hcx, hq⟩ := chG hy
      obtain ⟨k', x', q', hk', hx', hcx', hq'⟩ := chG hz
      obtain ⟨e1, _, e3, _⟩ := hG i k hk
      obtain ⟨e1', _, e3', _⟩ := hG j k' hk'
      have := hr.heap.inj k k' x x' hx hx' (e3 ▸ vi) (e3' ▸ vj) (convO_kind hcx hq).2.1 (convO_kind hcx' hq').2.1 (by rw [← e1, ← e1']; exact he)
      subst this
      have h1 := idx_of_get _ _ _ hn hk
      have h2 := idx_of_get _ _ _ hn hk'
      rw [h1] at h2; injection h2
  have hFlt : FC Fc w := hr.fc.more (fun _ h => .inl h) (fun _ _ => rfl) fun b hb => by
    rcases hb with h1 | ⟨k, kd, cs, h1, _, h3, rfl⟩
    · exact hr.fc b h1
    · exact hr.heap.isCells h1 h3
  obtain ⟨ca1, ca2⟩ := convL_at ha hpa
  refine (hc Gc Fc w vs hHc hFlt ⟨ca1.trans hl, fun j u' x hu hx => ?_⟩).mono fun e w' ⟨x, r, h', G', F', he, hf, hrr, hsame, hpost⟩ => ?_
  · obtain ⟨u, q, f1, f2, f3⟩ := ca2 j u' hu
    exact conv1 (hrep j u x f1 hx) f2 f3
  obtain ⟨hlen, hKK⟩ := hK r h' hpost
  -- lent blocks
  have hLc : ∀ b, lentB Gc ch b → ∃ k x, k ∈ lent ∧ s.h[k]? = some x ∧ G.vir k = false ∧ fzO x = false ∧ b = G.σ k := fun b ⟨i, y, hy, hv, hfz, hb⟩ => by
    obtain ⟨k, x, q, hk, hx, hcx, hq⟩ := chG hy
    obtain ⟨e1, _, e3, _⟩ := hG i k hk
    exact ⟨k, x, List.mem_of_getElem? hk, hx, e3 ▸ hv, (convO_kind hcx hq).2.1, by rw [hb, e1]⟩
  have hLF : ∀ b, Fc b → ¬ lentB Gc ch b := fun b hb hL => by
    obtain ⟨k, x, hk, hx, hv, hfz, rfl⟩ := hLc b hL
    exact nFc hx (hok k hk) hv hfz hb
  have keepB : ∀ b, b < w.heap.size → ¬ lentB Gc ch b → w'.heap[b]? = w.heap[b]? := fun b hb hn => hf.mod.block b hb hn
  have keepF : ∀ b, F b → w'.heap[b]? = w.heap[b]? := fun b hb => keepB b (hr.flt b hb) (hLF b (.inl hb))
  have hF' : ∀ b, F b → F' b := fun b hb => hf.f0 b (.inl hb)
  have hback : ∀ (i m : Nat), (lens h')[i]? = some m → (Gn G G' lent s.h.length).σ (backIx lent s.h.length i) = G'.σ i ∧ (Gn G G' lent s.h.length).bs (backIx lent s.h.length i) = G'.bs i ∧ (Gn G G' lent s.h.length).vir (backIx lent s.h.length i) = G'.vir i ∧
      (lens (afterH lent ok s.h h'))[backIx lent s.h.length i]? = some m := fun i m hm => by
    obtain ⟨g1, g2, g3⟩ := Gn_back G G' hn hlt i
    refine ⟨g1, g2, g3, ?_⟩
    simp only [lens, List.getElem?_map] at hm ⊢
    rw [after_back hn hlt hlen, Option.map_map]
    rw [Option.map_eq_some_iff] at hm ⊢
    obtain ⟨y, hy, rfl⟩ := hm
    exact ⟨y, hy, rebO_ln _ _⟩
  have hlater : ∀ (k m : Nat), k ∉ dead → (lens s.h)[k]? = some m → ((lens (afterH lent ok s.h h'))[k]? = some m ∧ (Gn G G' lent s.h.length).σ k = G.σ k ∧ (Gn G G' lent s.h.length).bs k = G.bs k ∧ (Gn G G' lent s.h.length).vir k = G.vir k) ∨ ∃ m', (lens (afterH lent ok s.h h'))[k]? = some m' ∧ m < m' := fun k m hd hm => by
    have hkl : k < s.h.length := by
      have := (List.getElem?_eq_some_iff.1 hm).1
      simpa [lens] using this
    by_cases hk : k ∈ lent
    · obtain ⟨i, hi, e⟩ := List.mem_iff_getElem.1 hk
      have e' : lent[i]? = some k := by rw [List.getElem?_eq_getElem hi, e]
      obtain ⟨c1, c2, c3, c4⟩ := hG i k e'
      have hb : backIx lent s.h.length i = k := by simp [backIx, e']
      rcases hsame i m ((hst i k e').resolve_right hd) (c4.trans hm) with ⟨f1, f2, f3, f4⟩ | ⟨m', f1, f2⟩
      · obtain ⟨b1, b2, b3, b4⟩ := hback i m f1
        rw [hb] at b1 b2 b3 b4
        exact .inl ⟨b4, b1.trans (f2.trans c1), b2.trans (f3.trans c2), b3.trans (f4.trans c3)⟩
      · obtain ⟨b1, b2, b3, b4⟩ := hback i m' f1
        rw [hb] at b4
        exact .inr ⟨m', b4, f2⟩
    · obtain ⟨g1, g2, g3⟩ := Gn_old G G' hk hkl
      refine .inl ⟨?_, g1, g2, g3⟩
      simp only [lens, List.getElem?_map] at hm ⊢
      rw [after_old hn hlt hlen hk hkl, Option.map_map]
      rw [Option.map_eq_some_iff] at hm ⊢
      obtain ⟨y, hy, rfl⟩ := hm
      refine ⟨y, hy, ?_⟩
      simp only [Function.comp]
      split
      · cases y <;> rfl
      · rfl
  have keepV : ∀ {av : AV} {v : Value}, RepV G (lens s.h) F w av v → av.liv dead = true → RepV (Gn G G' lent s.h.length) (lens (afterH lent ok s.h h')) F' w' av v := fun h hv => RepV.keepL hlater hF' keepF h hv
  have rebV : ∀ {av : AV} {v : Value}, RepV G' (lens h') F' w' av v → RepV (Gn G G' lent s.h.length) (lens (afterH lent ok s.h h')) F' w' (av.reb (backIx lent s.h.length)) v := fun h => RepV.reb hback h
  have nF' : ∀ {k : Nat} {x : AObj}, s.h[k]? = some x → k ∉ lent → ok k = false → G.vir k = false → fzO x = false → ¬ F' (G.σ k) ∧ ¬ lentB Gc ch (G.σ k) := fun {k x} hk hkl hok' hv hfz => by
    have hnL : ¬ lentB Gc ch (G.σ k) := fun hL => by
      obtain ⟨k', x', hk', hx', hv', hfz', he'⟩ := hLc _ hL
      have := hr.heap.inj k k' x x' hk hx' hv hv' hfz hfz' he'
      exact hkl (this ▸ hk')
    refine ⟨fun hF1 => ?_, hnL⟩
    rcases hf.fsup _ hF1 with h1 | h1 | h1
    · exact nFc hk hok' hv hfz h1
    · exact hnL h1
    · have h2 := hr.heap.lt hk hv
      have h3 : w.heap.size ≤ G.σ k := h1
      omega
  have crel : ∀ {cs : List AV} {cur : Array Value}, CRel G (lens s.h) F w cs cur → (∀ (j : Nat) (u : AV), cs[j]? = some u → u.liv dead = true) → CRel (Gn G G' lent s.h.length) (lens (afterH lent ok s.h h')) F' w' cs cur := fun h1 h2 j u hu => let ⟨v, f1, f2⟩ := h1 j u hu; ⟨v, f1, keepV f2 (h2 j u hu)⟩
  have crelB : ∀ {cs : List AV} {cur : Array Value}, CRel G' (lens h') F' w' cs cur → CRel (Gn G G' lent s.h.length) (lens (afterH lent ok s.h h')) F' w' (AV.rebL (backIx lent s.h.length) cs) cur := fun h1 j u' hu => by
    obtain ⟨u, e1, rfl⟩ := rebL_at.2 j u' hu
    obtain ⟨v, f1, f2⟩ := h1 j u e1
    exact ⟨v, f1, rebV f2⟩
  have hHn : HRel (Gn G G' lent s.h.length) F' (afterH lent ok s.h h') w' := by
    refine ⟨fun k x hx => ?_, fun j k x y hj hk vj vk fj fk hes => ?_⟩
    · rcases after_cases hn hlt hlen hx with ⟨i, y, rfl, hy, rfl⟩ | ⟨hkl, hkn, y, hy, rfl⟩
      · obtain ⟨g1, g2, g3⟩ := Gn_back G G' hn hlt i
        have hob := hf.heap.obj i y hy
        cases y with
        | raw sx => exact ⟨g3.trans hob.1, by rw [g1]; exact hob.2.1, by rw [g1]; exact hob.2.2⟩
        | o kd cs =>
          rw [rebO_eq]
          have hrl : (AV.rebL (backIx lent s.h.length) cs).length = cs.length := rebL_at.1
          cases kd with
          | box =>
            obtain ⟨a1, a2, cur, ty, a3, a4, a5, a6⟩ := hob
            exact ⟨g3.trans a1, by rw [g1]; exact a2, cur, ty, by rw [g1]; exact a3, by rw [g2]; exact a4, by rw [g2, hrl]; exact a5, crelB a6⟩
          | row e sz =>
            rcases hob with ⟨a1, a2⟩ | ⟨a1, a2, cur, c, a3, a4, a5, a6, a7, a8⟩
            · exact .inl ⟨g3.trans a1, by rw [a2]; rfl⟩
            · exact .inr ⟨g3.trans a1, by rw [g1]; exact a2, cur, c, by rw [g1]; exact a3, by rw [g2]; exact a4, by rw [g2]; exact a5, a6, by rw [g2, hrl]; exact a7, crelB a8⟩
          | fz =>
            rcases hob with ⟨a1, a2⟩ | ⟨a1, a2, cur, ty, fr, a3, a4, a5, a6⟩
            · exact .inl ⟨g3.trans a1, by rw [a2]; rfl⟩
            · exact .inr ⟨g3.trans a1, by rw [g1]; exact a2, cur, ty, fr, by rw [g1]; exact a3, by rw [g2]; exact a4, by rw [hrl]; exact a5, crelB a6⟩
      · obtain ⟨g1, g2, g3⟩ := Gn_old G G' hkl hkn
        have hlv := livH_at hdo k y hy (by simpa using hkl)
        have hob := hr.heap.obj k y hy
        have sameB : G.vir k = false → fzO y = false → w'.heap[G.σ k]? = w.heap[G.σ k]? := fun hv hfz => keepB _ (hr.heap.lt hy hv) fun hL => by
          obtain ⟨k', x', hk', hx', hv', hfz', he'⟩ := hLc _ hL
          have := hr.heap.inj k k' y x' hy hx' hv hv' hfz hfz' he'
          exact hkl (this ▸ hk')
        cases y with
        | raw sx =>
          have : (if ok k then frzO (.raw sx) else .raw sx) = AObj.raw sx := by split <;> rfl
          rw [this]
          refine ⟨g3.trans hob.1, ?_, by rw [g1, sameB hob.1 rfl]; exact hob.2.2⟩
          rw [g1]
          intro hF1
          rcases hf.fsup _ hF1 with h1 | h1 | h1
          · rcases h1 with h1 | ⟨k', kd, cs, h1, h2, h3, h4⟩
            · exact hob.2.1 h1
            · have hz := hr.heap.lt h1 h3
              by_cases hzf : fzO (.o kd cs) = false
              · have := hr.heap.inj k k' _ _ hy h1 hob.1 h3 rfl hzf h4
                subst this
                rw [hy] at h1; cases h1
              · have hob' := hr.heap.obj k' _ h1
                cases kd with
                | box => exact hzf rfl
                | row e sz => exact hzf rfl
                | fz =>
                  rcases hob' with ⟨e1, _⟩ | ⟨_, e1, _⟩
                  · rw [h3] at e1; cases e1
                  · exact hob.2.1 (h4 ▸ e1)
          · obtain ⟨k', x', hk', hx', hv', hfz', he'⟩ := hLc _ h1
            have := hr.heap.inj k k' _ x' hy hx' hob.1 hv' rfl hfz' he'
            exact hkl (this ▸ hk')
          · have h2 := hr.heap.lt hy hob.1
            have h3 : w.heap.size ≤ G.σ k := h1
            omega
        | o kd cs =>
          have hlc := livO_at hlv
          cases hokk : ok k with
          | true =>
            simp only [if_true, frzO]
            by_cases hv : G.vir k = true
            · have hcs : cs = [] := by
                cases kd with
                | box => rw [hob.1] at hv; cases hv
                | row e sz => rcases hob with ⟨_, e1⟩ | ⟨e1, _⟩; exact e1; rw [e1] at hv; cases hv
                | fz => rcases hob with ⟨_, e1⟩ | ⟨e1, _⟩; exact e1; rw [e1] at hv; cases hv
              exact .inl ⟨g3.trans hv, hcs⟩
            · have hv : G.vir k = false := by simpa using hv
              obtain ⟨cur, ty, fr, b1, b2, b3⟩ := hr.heap.cells hy hv
              have hbs : cur.size = G.bs k := by
                cases kd with
                | box => obtain ⟨_, _, cur', ty', q1, q2, _⟩ := hob; unfold Blk at q1; rw [b1] at q1; injection q1 with q1; injection q1 with q1 _ _; rw [q1]; exact q2
                | row e sz =>
                  rcases hob with ⟨e1, _⟩ | ⟨_, _, cur', c, q1, q2, _⟩
                  · rw [hv] at e1; cases e1
                  · unfold Blk at q1; rw [b1] at q1; injection q1 with q1; injection q1 with q1 _ _; rw [q1]; exact q2
                | fz =>
                  rcases hob with ⟨e1, _⟩ | ⟨_, _, cur', ty', fr', q1, q2, _⟩
                  · rw [hv] at e1; cases e1
                  · rw [b1] at q1; injection q1 with q1; injection q1 with q1 _ _; rw [q1]; exact q2
              have hFk : Fc (G.σ k) := hFok k kd cs hy hokk hv
              exact .inr ⟨g3.trans hv, by rw [g1]; exact hf.f0 _ hFk, cur, ty, fr, by rw [g1, keepB _ (hr.heap.lt hy hv) (hLF _ hFk)]; exact b1, by rw [g2]; exact hbs, b2, crel b3 hlc⟩
          | false =>
            simp only [Bool.false_eq_true, if_false]
            cases kd with
            | box =>
              obtain ⟨a1, a2, cur, ty, a3, a4, a5, a6⟩ := hob
              exact ⟨g3.trans a1, by rw [g1]; exact (nF' hy hkl hokk a1 rfl).1, cur, ty, by rw [g1]; exact (sameB a1 rfl).trans a3, by rw [g2]; exact a4, by rw [g2]; exact a5, crel a6 hlc⟩
            | row e sz =>
              rcases hob with ⟨a1, a2⟩ | ⟨a1, a2, cur, c, a3, a4, a5, a6, a7, a8⟩
              · exact .inl ⟨g3.trans a1, a2⟩
              · exact .inr ⟨g3.trans a1, by rw [g1]; exact (nF' hy hkl hokk a1 rfl).1, cur, c, by rw [g1]; exact (sameB a1 rfl).trans a3, by rw [g2]; exact a4, by rw [g2]; exact a5, a6, by rw [g2]; exact a7, crel a8 hlc⟩
            | fz =>
              rcases hob with ⟨a1, a2⟩ | ⟨a1, a2, cur, ty, fr, a3, a4, a5, a6⟩
              · exact .inl ⟨g3.trans a1, a2⟩
              · exact .inr ⟨g3.trans a1, by rw [g1]; exact hF' _ a2, cur, ty, fr, by rw [g1]; exact (keepF _ a2).trans a3, by rw [g2]; exact a4, a5, crel a6 hlc⟩
    · rcases after_cases hn hlt hlen hj with ⟨i, z, hji, hz, hzx⟩ | ⟨hjl, hjn, z, hz, hzx⟩ <;> rcases after_cases hn hlt hlen hk with ⟨i', z', hki, hz', hzx'⟩ | ⟨hkl, hkn, z', hz', hzx'⟩
      · subst hji hki hzx hzx'
        obtain ⟨g1, _, g3⟩ := Gn_back G G' hn hlt i
        obtain ⟨g1', _, g3'⟩ := Gn_back G G' hn hlt i'
        have := hf.heap.inj i i' z z' hz hz' (g3 ▸ vj) (g3' ▸ vk) (by rw [rebO_fz] at fj; exact fj) (by rw [rebO_fz] at fk; exact fk) (by rw [← g1, ← g1']; exact hes)
        rw [this]
      · exfalso
        subst hji hzx
        obtain ⟨g1, _, g3⟩ := Gn_back G G' hn hlt i
        obtain ⟨g1', _, g3'⟩ := Gn_old G G' hkl hkn
        have hvk := g3' ▸ vk
        have hfz : fzO z' = false := by
          rw [hzx'] at fk
          split at fk
          · cases z' with
            | raw _ => rfl
            | o _ _ => cases fk
          · exact fk
        have hlk := hr.heap.lt hz' hvk
        rw [g1, g1'] at hes
        rcases hf.sup i z hz (g3 ▸ vj) (by rw [rebO_fz] at fj; exact fj) rfl with h1 | h1
        · obtain ⟨k', x', hk', hx', hv', hfz', he'⟩ := hLc _ h1
          have := hr.heap.inj k k' z' x' hz' hx' hvk hv' hfz hfz' (by rw [← hes]; exact he')
          exact hkl (this ▸ hk')
        · have h2 : w.heap.size ≤ G'.σ i := h1
          omega
      · exfalso
        subst hki hzx'
        obtain ⟨g1, _, g3⟩ := Gn_back G G' hn hlt i'
        obtain ⟨g1', _, g3'⟩ := Gn_old G G' hjl hjn
        have hvk := g3' ▸ vj
        have hfz : fzO z = false := by
          rw [hzx] at fj
          split at fj
          · cases z with
            | raw _ => rfl
            | o _ _ => cases fj
          · exact fj
        have hlk := hr.heap.lt hz hvk
        rw [g1, g1'] at hes
        rcases hf.sup i' z' hz' (g3 ▸ vk) (by rw [rebO_fz] at fk; exact fk) rfl with h1 | h1
        · obtain ⟨k', x', hk', hx', hv', hfz', he'⟩ := hLc _ h1
          have := hr.heap.inj j k' z x' hz hx' hvk hv' hfz hfz' (by rw [hes]; exact he')
          exact hjl (this ▸ hk')
        · have h2 : w.heap.size ≤ G'.σ i' := h1
          omega
      · obtain ⟨g1, _, g3⟩ := Gn_old G G' hjl hjn
        obtain ⟨g1', _, g3'⟩ := Gn_old G G' hkl hkn
        have fz : ∀ {z : AObj} {b : Bool} {x : AObj}, x = (if b then frzO z else z) → fzO x = false → fzO z = false := fun {z b x} e hx => by
          subst e
          split at hx
          · cases z with
            | raw _ => rfl
            | o _ _ => cases hx
          · exact hx
        exact hr.heap.inj j k z z' hz hz' (g3 ▸ vj) (g3' ▸ vk) (fz hzx fj) (fz hzx' fk) (by rw [← g1, ← g1']; exact hes)
  have hLE : ∀ b, lentB Gc ch b → E.L b ∨ E.w0.heap.size ≤ b := fun b hL => by
    obtain ⟨k', x', hk', hx', hv', hfz', rfl⟩ := hLc _ hL
    exact hr.sup k' x' hx' hv' hfz' (hho k' hk')
  have hws : E.w0.heap.size ≤ w.heap.size := hr.mod.size
  refine ⟨x, _, ⟨s.t, afterH lent ok s.h h'⟩, Gn G G' lent s.h.length, F', he, ?_, rebV hrr, hKK⟩
  have hmk : ∀ D, ¬ F D → w.heap[D]? = some (.deferred (some [])) → ¬ F' D ∧ w'.heap[D]? = w.heap[D]? := fun D h1 h2 => by
    have hD := lt_of_heap h2
    have nL : ¬ lentB Gc ch D := fun hL => by
      obtain ⟨k', x', _, hx', hv', _, he'⟩ := hLc _ hL
      exact hr.heap.notDef hx' hv' (by rw [← he']; exact h2)
    refine ⟨fun h3 => ?_, hf.mod.block D hD nL⟩
    rcases hf.fsup D h3 with h4 | h4 | h4
    · rcases h4 with h4 | ⟨k, kd, cs, h5, h6, h7, h8⟩
      · exact h1 h4
      · exact hr.heap.notDef h5 h7 (by rw [← h8]; exact h2)
    · exact nL h4
    · have h5 : w.heap.size ≤ D := h4
      omega
  refine ⟨hr.len, hr.def0.keep hmk, fun i av v h1 h2 => keepV (hr.slot i av v h1 h2) (livL_at hdt i av h1), hHn, hr.mod.mod hf.mod fun i hi hL => (hLE i hL).resolve_right (by omega), fun k y hk hv hfz hhk => ?_, fun b hb => ?_, fun b hb => hF' b (hr.f0 b hb), hf.fc, fun k m hsk hm => ?_⟩
  · rcases after_cases hn hlt hlen hk with ⟨i, z, rfl, hz, rfl⟩ | ⟨hkl, hkn, z, hz, rfl⟩
    · obtain ⟨g1, _, g3⟩ := Gn_back G G' hn hlt i
      rw [g1]
      rcases hf.sup i z hz (g3 ▸ hv) (by rw [rebO_fz] at hfz; exact hfz) rfl with h1 | h1
      · exact hLE _ h1
      · have h2 : w.heap.size ≤ G'.σ i := h1
        exact .inr (by omega)
    · obtain ⟨g1, _, g3⟩ := Gn_old G G' hkl hkn
      rw [g1]
      refine hr.sup k z hz (g3 ▸ hv) ?_ hhk
      split at hfz
      · cases z with
        | raw _ => rfl
        | o _ _ => cases hfz
      · exact hfz
  · rcases hf.fsup b hb with h1 | h1 | h1
    · rcases h1 with h1 | ⟨k, kd, cs, h1, h2, h3, rfl⟩
      · exact hr.fsup b h1
      · by_cases hz : fzO (.o kd cs) = false
        · rcases hr.sup k _ h1 h3 hz (hoo k h2) with h4 | h4
          · exact .inr (.inl h4)
          · exact .inr (.inr h4)
        · have hob' := hr.heap.obj k _ h1
          cases kd with
          | box => exact absurd rfl hz
          | row e sz => exact absurd rfl hz
          | fz =>
            rcases hob' with ⟨e1, _⟩ | ⟨_, e1, _⟩
            · rw [h3] at e1; cases e1
            · exact hr.fsup _ e1
    · rcases hLE b h1 with h2 | h2
      · exact .inr (.inl h2)
      · exact .inr (.inr h2)
    · have h2 : w.heap.size ≤ b := h1
      exact .inr (.inr (by omega))
  · have hnd : k ∉ dead := fun hd => by
      have hlt0 := (List.getElem?_eq_some_iff.1 hm).1
      rcases hde k hd with h1 | h1
      · rw [hsk] at h1; cases h1
      · omega
    rcases hr.lat k m hsk hm with ⟨e1, e2, e3, e4⟩ | ⟨m', e1, e2⟩
    · rcases hlater k m hnd e1 with ⟨f1, f2, f3, f4⟩ | ⟨m', f1, f2⟩
      · exact .inl ⟨f1, f2.trans e2, f3.trans e3, f4.trans e4⟩
      · exact .inr ⟨m', f1, f2⟩
    · rcases hlater k m' hnd e1 with ⟨f1, _⟩ | ⟨m'', f1, f2⟩
      · exact .inr ⟨m', f1, e2⟩
      · exact .inr ⟨m'', f1, Nat.lt_trans e2 f2⟩
end
end Go.Proofs.Ytmgpiminicgbiaa
namespace Go.Proofs.Ytmgpiminicgbiaa
set_option linter.unusedVariables false
set_option linter.unusedSimpArgs false
open Go.RowKit

section
variable {P : Program} {E : Env} {s : AS}
/-! ## A call that answers plainly -/
def plainV : AV → Bool
  | .c _ => true
  | .tup l => l.all fun v => match v with | .c _ => true | _ => false
  | .agg l => l.all fun v => match v with | .c _ => true | _ => false
  | _ => false
theorem plain_rep {G G' : Gh} {ln ln' : List Nat} {F F' : Nat → Prop} {w w' : World} {r : AV} {x : Value} (hp : plainV r = true) (hr : RepV G ln F w r x) : RepV G' ln' F' w' r x := by
  have all : ∀ {l : List AV} {cs : Array Value}, (l.all fun v => match v with | .c _ => true | _ => false) = true → (∀ (j : Nat) (u : AV) (x : Value), l[j]? = some u → cs[j]? = some x → RepV G ln F w u x) → ∀ (j : Nat) (u : AV) (x : Value), l[j]? = some u → cs[j]? = some x → RepV G' ln' F' w' u x := by
    intro l cs h1 h2 j u x hu hx
    have := List.all_eq_true.1 h1 u (List.mem_of_getElem? hu)
    cases u with
    | c v => rw [(h2 j _ x hu hx).c_inv]; exact .cc v
    | _ => cases this
  cases r with
  | c v => rw [hr.c_inv]; exact .cc v
  | tup l => obtain ⟨cs, rfl, h1, h2⟩ := tup_inv hr; exact .tup l cs h1 (all hp h2)
  | agg l => obtain ⟨cs, rfl, h1, h2⟩ := agg_inv hr; exact .agg l cs h1 (all hp h2)
  | _ => cases hp
theorem call_plain {g : FuncId} {args : List AV} {K : AV → AS → Prop} (ok : Nat → Bool) {cargs : List AV} {st : Nat → Bool} {Post : AV → List AObj → Prop} (hc : ACalls P g cargs [] st Post) {pa : Prop} (ha : AV.convL [] ok s.h args = some (pa, cargs)) (hpa : pa)
    (hK : ∀ r h', Post r h' → plainV r = true ∧ K r s) : CallG P E g args s K := by
  intro G F a w vs hr hl hrep
  let Fc : Nat → Prop := fun b => F b ∨ ∃ k kd cs, s.h[k]? = some (.o kd cs) ∧ ok k = true ∧ G.vir k = false ∧ b = G.σ k
  have hFok : ∀ k kd cs, s.h[k]? = some (.o kd cs) → ok k = true → G.vir k = false → Fc (G.σ k) := fun k kd cs h1 h2 h3 => .inr ⟨k, kd, cs, h1, h2, h3, rfl⟩
  have hFlt : FC Fc w := hr.fc.more (fun _ h => .inl h) (fun _ _ => rfl) fun b hb => by
    rcases hb with h1 | ⟨k, kd, cs, h1, _, h3, rfl⟩
    · exact hr.fc b h1
    · exact hr.heap.isCells h1 h3
  obtain ⟨ca1, ca2⟩ := convL_at ha hpa
  refine (hc G Fc w vs ⟨fun k x hk => by simp at hk, fun j k x y hj => by simp at hj⟩ hFlt ⟨ca1.trans hl, fun j u' x hu hx => ?_⟩).mono fun e w' ⟨x, r, h', G', F', he, hf, hrr, _, hpost⟩ => ?_
  · obtain ⟨u, q, f1, f2, f3⟩ := ca2 j u' hu
    exact RepV.conv hr.heap (fun i k h => by simp at h) (fun b hb => .inl hb) hFok (hrep j u x f1 hx) f2 f3
  obtain ⟨hpl, hk⟩ := hK r h' hpost
  have keep : ∀ b, b < w.heap.size → w'.heap[b]? = w.heap[b]? := fun b hb => hf.mod.block b hb fun ⟨k, x, hk, _⟩ => by simp at hk
  have keepF : ∀ b, F b → w'.heap[b]? = w.heap[b]? := fun b hb => keep b (hr.flt b hb)
  have hl := Later.refl G (lens s.h)
  refine ⟨x, r, s, G, F, he, ⟨hr.len, hr.def0.keep (fun D h1 h2 => ⟨h1, keep D (lt_of_heap h2)⟩), fun i av v h1 h2 => (hr.slot i av v h1 h2).keep hl (fun _ h => h) keepF, ⟨fun k y hy => ?_, hr.heap.inj⟩, hr.mod.mod hf.mod (fun i _ ⟨k, x, hk, _⟩ => by simp at hk), hr.sup, hr.fsup, hr.f0, hr.fc.keep keepF, hr.lat⟩, plain_rep hpl hrr, hk⟩
  exact (hr.heap.obj k y hy).keep hl (fun _ h => h) keepF ⟨rfl, rfl, rfl⟩ (fun hv => keep _ (hr.heap.lt hy hv)) fun hv hfz => hr.heap.nfz hy hv hfz

/-! ## Loops -/
def Wk (E : Env) (s s' : AS) : Prop := ∀ a w, Sat E s a w → Sat E s' a w
theorem Wk.refl (E : Env) (s : AS) : Wk E s s := fun _ _ h => h
theorem Wk.trans {s' s'' : AS} (h : Wk E s s') (k : Wk E s' s'') : Wk E s s'' := fun a w x => k a w (h a w x)
def wkV (dead : List Nat) (a : AV) : AV → Prop
  | .any => True
  | b => a = b ∧ b.liv dead = true
def wkL (dead : List Nat) : List AV → List AV → Prop
  | [], [] => True
  | a :: l, b :: k => wkV dead a b ∧ wkL dead l k
  | _, _ => False
theorem wkV_at {dead : List Nat} {a b : AV} (h : wkV dead a b) : b = .any ∨ (a = b ∧ b.liv dead = true) := by
  cases b <;> first | exact .inl rfl | exact .inr h
theorem wkL_at {dead : List Nat} : ∀ {l k : List AV}, wkL dead l k → l.length = k.length ∧ ∀ (j : Nat) (b : AV), k[j]? = some b → ∃ a, l[j]? = some a ∧ wkV dead a b := by
  intro l
  induction l with
  | nil => intro k h; cases k with
    | nil => exact ⟨rfl, fun j b h => by simp at h⟩
    | cons b k => cases h
  | cons a l ih => intro k h; cases k with
    | nil => cases h
    | cons b k =>
      obtain ⟨i1, i2⟩ := ih h.2
      refine ⟨by simp [i1], fun j c hc => ?_⟩
      cases j with
      | zero => simp at hc; subst hc; exact ⟨a, rfl, h.1⟩
      | succ j => simpa using i2 j c (by simpa using hc)
/-- less is told: the first n blocks alone, and of the slots what is named -/
theorem wk_of {s' : AS} (n m : Nat) (hlen : s.h.length = n + m) (hn : E.ln0.length ≤ n) (hh : s.h.take n = s'.h) (ho : livH (List.range' n m) [] 0 s'.h = true) (ht : wkL (List.range' n m) s.t s'.t) : Wk E s s' := by
  intro a w ⟨G, F, hr⟩
  obtain ⟨t1, t2⟩ := wkL_at ht
  have hl' : s'.h.length = n := by rw [← hh]; simp; omega
  have hget : ∀ {k : Nat} {x : AObj}, s'.h[k]? = some x → k < n ∧ s.h[k]? = some x := fun {k x} hk => by
    have hkn : k < n := by rw [← hl']; exact (List.getElem?_eq_some_iff.1 hk).1
    rw [← hh, List.getElem?_take, if_pos hkn] at hk
    exact ⟨hkn, hk⟩
  have hlater : ∀ (k m' : Nat), k ∉ List.range' n m → (lens s.h)[k]? = some m' → ((lens s'.h)[k]? = some m' ∧ G.σ k = G.σ k ∧ G.bs k = G.bs k ∧ G.vir k = G.vir k) ∨ ∃ m'', (lens s'.h)[k]? = some m'' ∧ m' < m'' := fun k m' hk hm => by
    have hkl : k < s.h.length := by
      have := (List.getElem?_eq_some_iff.1 hm).1
      simpa [lens] using this
    have hkn : k < n := by
      rcases Nat.lt_or_ge k n with h | h
      · exact h
      · exact absurd (by rw [List.mem_range'_1]; omega) hk
    refine .inl ⟨?_, rfl, rfl, rfl⟩
    simp only [lens, List.getElem?_map] at hm ⊢
    rw [← hh, List.getElem?_take, if_pos hkn]
    exact hm
  have keepV : ∀ {av : AV} {v : Value}, RepV G (lens s.h) F w av v → av.liv (List.range' n m) = true → RepV G (lens s'.h) F w av v := fun h hv => RepV.keepL hlater (fun _ h => h) (fun _ _ => rfl) h hv
  refine ⟨G, F, by rw [← t1]; exact hr.len, hr.def0, fun i b v hb hv => ?_, ⟨fun k x hk => ?_, fun j k x y hj hk vj vk fj fk he => ?_⟩, hr.mod, fun k x hk hv hf hho => hr.sup k x (hget hk).2 hv hf hho, hr.fsup, hr.f0, hr.fc, fun k m' hs hm => ?_⟩
  · obtain ⟨c, hc, hw⟩ := t2 i b hb
    rcases wkV_at hw with rfl | ⟨rfl, hlv⟩
    · exact .any v
    · exact keepV (hr.slot i c v hc hv) hlv
  · obtain ⟨hkn, hk0⟩ := hget hk
    have hob := hr.heap.obj k x hk0
    have hlv := livH_at ho k x hk (by simp)
    have crel : ∀ {cs : List AV} {cur : Array Value}, CRel G (lens s.h) F w cs cur → (∀ (j : Nat) (u : AV), cs[j]? = some u → u.liv (List.range' n m) = true) → CRel G (lens s'.h) F w cs cur := fun h1 h2 j u hu => let ⟨v, f1, f2⟩ := h1 j u hu; ⟨v, f1, keepV f2 (h2 j u hu)⟩
    cases x with
    | raw sx => exact hob
    | o kd cs =>
      have hlc := livO_at hlv
      cases kd with
      | box => obtain ⟨a1, a2, cur, ty, a3, a4, a5, a6⟩ := hob; exact ⟨a1, a2, cur, ty, a3, a4, a5, crel a6 hlc⟩
      | row e sz =>
        rcases hob with ⟨a1, a2⟩ | ⟨a1, a2, cur, c, a3, a4, a5, a6, a7, a8⟩
        · exact .inl ⟨a1, a2⟩
        · exact .inr ⟨a1, a2, cur, c, a3, a4, a5, a6, a7, crel a8 hlc⟩
      | fz =>
        rcases hob with ⟨a1, a2⟩ | ⟨a1, a2, cur, ty, fr, a3, a4, a5, a6⟩
        · exact .inl ⟨a1, a2⟩
        · exact .inr ⟨a1, a2, cur, ty, fr, a3, a4, a5, crel a6 hlc⟩
  · exact hr.heap.inj j k x y (hget hj).2 (hget hk).2 vj vk fj fk he
  · have hkn : k < n := Nat.lt_of_lt_of_le (List.getElem?_eq_some_iff.1 hm).1 hn
    rcases hr.lat k m' hs hm with ⟨e1, e2, e3, e4⟩ | ⟨m'', e1, e2⟩
    · rcases hlater k m' (by rw [List.mem_range'_1]; omega) e1 with ⟨f1, _⟩ | ⟨m'', f1, f2⟩
      · exact .inl ⟨f1, e2, e3, e4⟩
      · exact .inr ⟨m'', f1, f2⟩
    · rcases hlater k m'' (by rw [List.mem_range'_1]; omega) e1 with ⟨f1, _⟩ | ⟨m3, f1, f2⟩
      · exact .inr ⟨m'', f1, e2⟩
      · exact .inr ⟨m3, f1, Nat.lt_trans e2 f2⟩
/-- a nil slice in a slot, as an empty row of its own -/
theorem wk_virt (i e sz : Nat) (hi : s.t[i]? = some (.c (.slice none 0 0))) : Wk E s ⟨s.t.set i (.sl s.h.length sz 0 0 0), s.h ++ [.o (.row e sz) []]⟩ := by
  intro a w ⟨G, F, hr⟩
  have hv := hr.virt e sz
  refine ⟨_, F, hv.1 |> fun h => by simpa using h, hv.def0, fun j av v h1 h2 => ?_, hv.heap, hv.mod, hv.sup, hv.fsup, hv.f0, hv.fc, hv.lat⟩
  simp only at h1
  rw [List.getElem?_set] at h1
  by_cases e : i = j
  · subst e
    rw [if_pos rfl] at h1
    split at h1
    · injection h1 with h1; subst h1
      rw [(hr.slot i _ v hi h2).c_inv]
      exact .slNil _ sz (by simp [lens_push, lnO]) (upd_same G s.h.length 0 0 true).2.2
    · cases h1
  · rw [if_neg e] at h1
    exact hv.slot j av v h1 h2
/-- a nil slice in a cell of a box, as an empty row of its own -/
theorem wk_virtC (k i e sz : Nat) {cs : List AV} (hk : s.h[k]? = some (.o .box cs)) (hi : cs[i]? = some (.c (.slice none 0 0))) : Wk E s ⟨s.t, s.h.set k (.o .box (cs.set i (.sl s.h.length sz 0 0 0))) ++ [.o (.row e sz) []]⟩ := by
  intro a w ⟨G, F, hr⟩
  have hv := hr.virt e sz
  have hklt : k < s.h.length := (List.getElem?_eq_some_iff.1 hk).1
  have hlen : lens (s.h.set k (.o .box (cs.set i (.sl s.h.length sz 0 0 0))) ++ [.o (.row e sz) []]) = lens (s.h ++ [.o (.row e sz) []]) := by
    apply List.ext_getElem?
    intro j
    simp only [lens, List.map_append, List.getElem?_append, List.length_map, List.length_set, List.getElem?_map, List.getElem?_set]
    by_cases ej : k = j
    · subst ej
      have hk2 : s.h[k] = .o .box cs := (List.getElem?_eq_some_iff.1 hk).2
      simp [hklt, hk2, lnO]
    · rw [if_neg ej]
  have hget : ∀ {j : Nat} {x : AObj}, (s.h.set k (.o .box (cs.set i (.sl s.h.length sz 0 0 0))) ++ [.o (.row e sz) []])[j]? = some x → (j = k ∧ x = .o .box (cs.set i (.sl s.h.length sz 0 0 0))) ∨ (j ≠ k ∧ (s.h ++ [.o (.row e sz) []])[j]? = some x) := fun {j x} hj => by
    by_cases ej : k = j
    · subst ej
      rw [List.getElem?_append_left (by simpa using hklt), List.getElem?_set, if_pos rfl, if_pos hklt] at hj
      injection hj with hj; exact .inl ⟨rfl, hj.symm⟩
    · refine .inr ⟨fun e' => ej e'.symm, ?_⟩
      rw [List.getElem?_append] at hj ⊢
      simp only [List.length_set, List.getElem?_set, if_neg ej] at hj
      exact hj
  have hk' : (s.h ++ [AObj.o (.row e sz) []])[k]? = some (.o .box cs) := by rw [List.getElem?_append_left hklt]; exact hk
  refine ⟨_, F, hv.len, hv.def0, fun j av v h1 h2 => by rw [hlen]; exact hv.slot j av v h1 h2, ⟨fun j x hj => ?_, fun j j' x y hj hj' vj vk fj fk he => ?_⟩, hv.mod, fun j x hj hvj hf hho => ?_, hv.fsup, hv.f0, hv.fc, by rw [hlen]; exact hv.lat⟩
  · rw [hlen]
    rcases hget hj with ⟨rfl, rfl⟩ | ⟨hne, hj⟩
    · obtain ⟨a1, a2, cur, ty, a3, a4, a5, a6⟩ := hv.heap.obj j _ hk'
      refine ⟨a1, a2, cur, ty, a3, a4, by simpa using a5, fun i' u hu => ?_⟩
      rw [List.getElem?_set] at hu
      by_cases ei : i = i'
      · subst ei
        rw [if_pos rfl] at hu
        split at hu
        · injection hu with hu; subst hu
          obtain ⟨y, hy, hry⟩ := a6 i _ hi
          refine ⟨y, hy, ?_⟩
          rw [hry.c_inv]
          exact .slNil _ sz (by simp [lens_push, lnO]) (upd_same G s.h.length 0 0 true).2.2
        · cases hu
      · rw [if_neg ei] at hu
        exact a6 i' u hu
    · exact hv.heap.obj j x hj
  · have key : ∀ {j : Nat} {x : AObj}, (s.h.set k (.o .box (cs.set i (.sl s.h.length sz 0 0 0))) ++ [.o (.row e sz) []])[j]? = some x → fzO x = false → ∃ x', (s.h ++ [.o (.row e sz) []])[j]? = some x' ∧ fzO x' = false := fun {j x} hj hf => by
      rcases hget hj with ⟨rfl, rfl⟩ | ⟨_, h⟩
      · exact ⟨_, hk', rfl⟩
      · exact ⟨x, h, hf⟩
    obtain ⟨x1, h1, h2⟩ := key hj fj
    obtain ⟨x2, h3, h4⟩ := key hj' fk
    exact hv.heap.inj j j' x1 x2 h1 h3 vj vk h2 h4 he
  · rcases hget hj with ⟨rfl, rfl⟩ | ⟨_, hj⟩
    · exact hv.sup j _ hk' hvj rfl hho
    · exact hv.sup j x hj hvj hf hho
theorem EW.weak {c : Code} {s' : AS} {Q : Exit → AS → Prop} (h : EW P E c s' Q) (hw : Wk E s s') : EW P E c s Q := fun a w hs => h a w (hw a w hs)
theorem LoopG.weak {c : Code} {s' : AS} {Q : Exit → AS → Prop} (h : LoopG P E c s' Q) (hw : Wk E s s') : LoopG P E c s Q := fun a w hs => h a w (hw a w hs)
theorem CallG.weak {g : FuncId} {args : List AV} {s' : AS} {K : AV → AS → Prop} (hw : ∀ (G : Gh) (F : Nat → Prop) (a : Act) (w : World), Rel E G F s a w → ∀ (vs : Array Value), (∀ (j : Nat) (u : AV) (x : Value), args[j]? = some u → vs[j]? = some x → RepV G (lens s.h) F w u x) → ∃ G' F', Rel E G' F' s' a w ∧ ∀ (j : Nat) (u : AV) (x : Value), args[j]? = some u → vs[j]? = some x → RepV G' (lens s'.h) F' w u x)
    (h : CallG P E g args s' K) : CallG P E g args s K := fun G F a w vs hr hl hrep => let ⟨G', F', h1, h2⟩ := hw G F a w hr vs hrep; h G' F' a w vs h1 hl h2
def roundK (E : Env) {X : Type} (st : X → AS) (μ : X → Nat) (Inv : X → Prop) (x : X) (Q : Exit → AS → Prop) : Exit → AS → Prop
  | .normal, s' => ∃ x', Inv x' ∧ μ x' < μ x ∧ Wk E s' (st x')
  | e, s' => Q e s'
/-- A loop: its states are of one form, told by x. -/
theorem loop_of {cut : List Nat} (hm : P.follows .mixedOrders = true) {X : Type} {b : Code} {Q : Exit → AS → Prop} (st : X → AS) (μ : X → Nat) (Inv : X → Prop) (x0 : X) (h0 : Inv x0) (hw : Wk E s (st x0)) (round : ∀ x, Inv x → runC cut P E b (st x) (roundK E st μ Inv x Q)) : LoopG P E b s Q := by
  intro a w hs
  refine wp_loop_ghost (fun n a w => ∃ x, Inv x ∧ μ x = n ∧ Sat E (st x) a w) (μ x0) ⟨x0, h0, rfl, hw a w hs⟩ fun n a w ⟨x, hx, hn, hsx⟩ => ?_
  refine Code.wp_mono (fun e a' w' ⟨hp, s', h1, h2⟩ => ?_) (runC_sound hm b _ _ (round x hx) a w hsx)
  cases e with
  | normal =>
    obtain ⟨x', h3, h4, h5⟩ := h2
    exact ⟨μ x', by omega, x', h3, rfl, h5 a' w' h1⟩
  | _ => exact ⟨hp, s', h1, h2⟩
theorem HRel.conv {G : Gh} {F : Nat → Prop} {h ch : List AObj} {w : World} {lent : List Nat} {ok : Nat → Bool} {po : Prop} (hh : HRel G F h w) (ho : convOs lent ok h lent = some (po, ch)) (hpo : po) (hn : lent.Nodup) (hok : ∀ k ∈ lent, ok k = false) :
    let Gc : Gh := ⟨fun i => G.σ (lent.getD i 0), fun i => G.bs (lent.getD i 0), fun i => G.vir (lent.getD i 0)⟩
    let Fc : Nat → Prop := fun b => F b ∨ ∃ k kd cs, h[k]? = some (.o kd cs) ∧ ok k = true ∧ G.vir k = false ∧ b = G.σ k
    HRel Gc Fc ch w ∧ (∀ (i k : Nat), lent[i]? = some k → Gc.σ i = G.σ k ∧ Gc.bs i = G.bs k ∧ Gc.vir i = G.vir k ∧ (lens ch)[i]? = (lens h)[k]?) ∧
    (∀ {i : Nat} {y : AObj}, ch[i]? = some y → ∃ k x, lent[i]? = some k ∧ h[k]? = some x ∧ fzO x = false ∧ fzO y = false) := by
  intro Gc Fc
  obtain ⟨o1, o2⟩ := convOs_at ho hpo
  have hG : ∀ (i k : Nat), lent[i]? = some k → Gc.σ i = G.σ k ∧ Gc.bs i = G.bs k ∧ Gc.vir i = G.vir k ∧ (lens ch)[i]? = (lens h)[k]? := fun i k e => by
    obtain ⟨x, q, y, hx, hcx, hq, hy⟩ := o2 i k e
    refine ⟨by simp [Gc, e], by simp [Gc, e], by simp [Gc, e], ?_⟩
    simp only [lens, List.getElem?_map]
    rw [hx]
    simp only at hy
    rw [hy]
    simp [(convO_kind hcx hq).1]
  have hFF : ∀ b, F b → Fc b := fun b hb => .inl hb
  have hFok : ∀ k kd cs, h[k]? = some (.o kd cs) → ok k = true → G.vir k = false → Fc (G.σ k) := fun k kd cs h1 h2 h3 => .inr ⟨k, kd, cs, h1, h2, h3, rfl⟩
  have nFc : ∀ {k : Nat} {x : AObj}, h[k]? = some x → ok k = false → G.vir k = false → fzO x = false → ¬ Fc (G.σ k) := fun {k x} hk hok' hv hf hF => by
    rcases hF with h1 | ⟨k', kd, cs, h1, h2, h3, h4⟩
    · exact hh.nfz hk hv hf h1
    · by_cases hz : fzO (.o kd cs) = false
      · have := hh.inj k k' x _ hk h1 hv h3 hf hz h4
        rw [this] at hok'; rw [h2] at hok'; cases hok'
      · have hob := hh.obj k' _ h1
        cases kd with
        | box => exact hz rfl
        | row e sz => exact hz rfl
        | fz =>
          rcases hob with ⟨e1, _⟩ | ⟨_, e1, _⟩
          · rw [h3] at e1; cases e1
          · exact hh.nfz hk hv hf (h4 ▸ e1)
  have chG : ∀ {i : Nat} {y : AObj}, ch[i]? = some y → ∃ k x q, lent[i]? = some k ∧ h[k]? = some x ∧ convO lent ok h x = some (q, y) ∧ q := fun {i y} hy => by
    have hi : i < lent.length := by
      have h1 := (List.getElem?_eq_some_iff.1 hy).1
      simp only at o1
      omega
    obtain ⟨x, q, y', hx, hcx, hq, hy'⟩ := o2 i lent[i] (List.getElem?_eq_getElem hi)
    simp only at hy'
    rw [hy] at hy'; injection hy' with hy'; subst hy'
    exact ⟨lent[i], x, q, List.getElem?_eq_getElem hi, hx, hcx, hq⟩
  have conv1 : ∀ {av : AV} {v : Value}, RepV G (lens h) F w av v → ∀ {q : Prop} {av' : AV}, AV.conv lent ok h av = some (q, av') → q → RepV Gc (lens ch) Fc w av' v := fun h => RepV.conv hh hG hFF hFok h
  refine ⟨⟨fun i y hy => ?_, fun i j y z hy hz vi vj _ _ he => ?_⟩, hG, fun {i y} hy => ?_⟩
  · obtain ⟨k, x, q, hk, hx, hcx, hq⟩ := chG hy
    obtain ⟨e1, e2, e3, e4⟩ := hG i k hk
    have hokk := hok k (List.mem_of_getElem? hk)
    have hob := hh.obj k x hx
    cases x with
    | raw s => cases hcx
    | o kd cs =>
      cases kd with
      | fz => cases hcx
      | box =>
        simp only [convO] at hcx
        rw [Option.map_eq_some_iff] at hcx
        obtain ⟨p, hp, hcx⟩ := hcx
        injection hcx with h1 h2; subst h1 h2
        obtain ⟨c1, c2⟩ := convL_at hp hq
        obtain ⟨a1, a2, cur, ty, a3, a4, a5, a6⟩ := hob
        refine ⟨e3.trans a1, by rw [e1]; exact nFc hx hokk a1 rfl, cur, ty, by rw [e1]; exact a3, by rw [e2]; exact a4, by rw [e2, c1]; exact a5, fun j u' hu => ?_⟩
        obtain ⟨u, q', f1, f2, f3⟩ := c2 j u' hu
        obtain ⟨v, f4, f5⟩ := a6 j u f1
        exact ⟨v, f4, conv1 f5 f2 f3⟩
      | row e sz =>
        simp only [convO] at hcx
        injection hcx with hcx; injection hcx with h1 h2; subst h1 h2
        rcases hob with ⟨a1, a2⟩ | ⟨a1, a2, cur, c, a3, a4, a5, a6, a7, a8⟩
        · exact .inl ⟨e3.trans a1, a2⟩
        · refine .inr ⟨e3.trans a1, by rw [e1]; exact nFc hx hokk a1 rfl, cur, c, by rw [e1]; exact a3, by rw [e2]; exact a4, by rw [e2]; exact a5, a6, by rw [e2]; exact a7, fun j u hu => ?_⟩
          obtain ⟨v, f4, f5⟩ := a8 j u hu
          exact ⟨v, f4, .d _ _ ((isD_rep (List.all_eq_true.1 hq u (List.mem_of_getElem? hu)) f5).keep hFF fun _ _ => rfl)⟩
  · obtain ⟨k, x, q, hk, hx, hcx, hq⟩ := chG hy
    obtain ⟨k', x', q', hk', hx', hcx', hq'⟩ := chG hz
    obtain ⟨e1, _, e3, _⟩ := hG i k hk
    obtain ⟨e1', _, e3', _⟩ := hG j k' hk'
    have := hh.inj k k' x x' hx hx' (e3 ▸ vi) (e3' ▸ vj) (convO_kind hcx hq).2.1 (convO_kind hcx' hq').2.1 (by rw [← e1, ← e1']; exact he)
    subst this
    have h1 := idx_of_get _ _ _ hn hk
    have h2 := idx_of_get _ _ _ hn hk'
    rw [h1] at h2; injection h2
  · obtain ⟨k, x, q, hk, hx, hcx, hq⟩ := chG hy
    exact ⟨k, x, hk, hx, (convO_kind hcx hq).2.1, (convO_kind hcx hq).2.2⟩
/-- these blocks are told, in this order; the other rows may be told as data -/
theorem Clean.sel {h h' : List AObj} {r r' : AV} (keep : List Nat) (ok : Nat → Bool) {po pa : Prop} (ho : convOs keep ok h keep = some (po, h')) (ha : AV.conv keep ok h r = some (pa, r')) (hpo : po) (hpa : pa) (hn : keep.Nodup) (hok : ∀ k ∈ keep, ok k = false) {st : Nat → Bool} (hst : ∀ i, i < h.length → st i = true → keep[i]? = some i) :
    Clean st h r h' r' := by
  intro E G F w x hE hf hrep
  obtain ⟨c1, c2, c3⟩ := hf.heap.conv ho hpo hn hok
  refine ⟨_, _, ⟨c1, hf.mod, fun i y hy hv hfz hho => ?_, fun b hb => ?_, fun b hb => .inl (hf.f0 b hb), hf.fc.more (fun _ h => .inl h) (fun _ _ => rfl) fun b hb => ?_⟩, RepV.conv hf.heap c2 (fun b hb => .inl hb) (fun k kd cs h1 h2 h3 => .inr ⟨k, kd, cs, h1, h2, h3, rfl⟩) hrep ha hpa, fun k m hs hm => ?_⟩
  · obtain ⟨k, z, e1, e2, e3, _⟩ := c3 hy
    obtain ⟨g1, _, g3, _⟩ := c2 i k e1
    rw [g1]
    exact hf.sup k z e2 (g3 ▸ hv) e3 (by rw [hE]; rfl)
  · rcases hb with h1 | ⟨k, kd, cs, h1, h2, h3, rfl⟩
    · exact hf.fsup b h1
    · by_cases hz : fzO (.o kd cs) = false
      · rcases hf.sup k _ h1 h3 hz (by rw [hE]; rfl) with h4 | h4
        · exact .inr (.inl h4)
        · exact .inr (.inr h4)
      · have hob' := hf.heap.obj k _ h1
        cases kd with
        | box => exact absurd rfl hz
        | row e sz => exact absurd rfl hz
        | fz =>
          rcases hob' with ⟨e1, _⟩ | ⟨_, e1, _⟩
          · rw [h3] at e1; cases e1
          · exact hf.fsup _ e1
  · rcases hb with h1 | ⟨k, kd, cs, h1, h2, h3, rfl⟩
    · exact hf.fc b h1
    · exact hf.heap.isCells h1 h3
  · have hlt : k < h.length := by
      have := (List.getElem?_eq_some_iff.1 hm).1
      simpa [lens] using this
    obtain ⟨g1, g2, g3, g4⟩ := c2 k k (hst k hlt hs)
    exact .inl ⟨g4.trans hm, g1, g2, g3⟩
end
end Go.Proofs.Ytmgpiminicgbiaa
namespace Go.Proofs.Ytmgpiminicgbiaa
set_option linter.unusedVariables false
set_option linter.unusedSimpArgs false
open Go.RowKit

/-! ## A region that draws its order -/
section
variable {P : Program} {ops : Array Oper} {N : Act → World → Prop}
def wpAnyG (P : Program) (ops : Array Oper) (N : Act → World → Prop) (H : Nat → Nat → Prop) : Nat → Array Bool → (Nat → Prop) → Act → World → Prop
  | 0, listed, _, a, w => Region.ready .any ops listed = [] ∧ N a w
  | fuel + 1, listed, Z, a, w => (Region.ready .any ops listed = [] → N a w) ∧
    ∀ i ∈ Region.ready .any ops listed, wpOpB P ops i (fun a' w' => ∃ Z' : Nat → Prop, (∀ b, Z b → Z' b ∧ w'.heap[b]? = w.heap[b]?) ∧ (∀ b, H i b → w'.heap[b]? = w.heap[b]?) ∧ wpAnyG P ops N H fuel (listed.setIfInBounds i true) Z' a' w') a w
theorem wpAny_of_G {H : Nat → Nat → Prop} : ∀ (fuel : Nat) (listed : Array Bool) (Z : Nat → Prop) (a : Act) (w : World), wpAnyG P ops N H fuel listed Z a w → wpAnyB P ops N fuel listed a w
  | 0, _, _, _, _, h => h
  | fuel + 1, _, _, _, _, h => ⟨h.1, fun i hi => wpOpB_mono (fun a' w' ⟨Z', _, _, h'⟩ => wpAny_of_G fuel _ Z' a' w' h') (h.2 i hi)⟩
def noDefer (ops : Array Oper) : Bool := ops.toList.all fun o => match o.op with | .defer _ => false | _ => true
theorem noDefer_at {ops : Array Oper} (h : noDefer ops = true) {i : Nat} {o : Oper} (hi : ops[i]? = some o) : ∀ c, o.op ≠ .defer c := by
  intro c hc
  have := List.all_eq_true.1 h o (by obtain ⟨hl, e⟩ := Array.getElem?_eq_some_iff.1 hi; rw [← e]; simp)
  rw [hc] at this; cases this
theorem _root_.Go.YieldsIf.opB {S : World → Prop} {i : Nat} {o : Oper} {v : Value} {a : Act} (hd : ∀ c, o.op ≠ .defer c) (hi : ops[i]? = some o) (hy : YieldsIf P ops S o v a) {K : Act → World → Prop} {w : World} (hS : S w) (h : K (a.put o.dst v) w) : wpOpB P ops i K a w := by
  unfold wpOpB
  simp only [hi]
  rcases hy with ⟨hw, hv⟩ | ⟨hw, rfl⟩
  · rw [if_pos hw]
    refine ⟨hd, ?_⟩
    rw [hv w hS]
    exact h
  · rw [if_neg (by rw [hw]; decide)]; exact h
theorem wpOpB_putIf {S : World → Prop} {j : Nat} {oi oj : Oper} {v : Value} (hj : ops[j]? = some oj) (hap : oi.apart ops oj = true)
    (hsi : ∀ cs b, oi.op ≠ .select cs b) (hsj : ∀ cs b, oj.op ≠ .select cs b) {K : Act → World → Prop} {a : Act} {w : World}
    (hy : YieldsIf P ops S oi v a) (h : wpOpB P ops j K (a.put oi.dst v) w) :
    wpOpB P ops j (fun a' w' => YieldsIf P ops S oi v a' ∧ K (a'.put oi.dst v) w') a w := by
  obtain ⟨h1, h2, h3⟩ := Oper.apart_spec hap
  have keep : ∀ (a : Act), YieldsIf P ops S oi v a → ∀ u, YieldsIf P ops S oi v (a.put oj.dst u) := fun a hy u =>
    hy.of_same (execOp_put oi hsi a oj.dst u h3) (wanted_put oi a oj.dst u h3)
  unfold wpOpB at *
  simp only [hj] at *
  rw [wanted_put oj a oi.dst v h1] at h
  split
  · rename_i hw
    rw [if_pos hw] at h
    obtain ⟨hd, h⟩ := h
    refine ⟨hd, ?_⟩
    rw [execOp_put oj hsj a oi.dst v h1] at h
    generalize (execOp a.eval oj).run P w = r at *
    unfold upB at *
    split at h
    · exact ⟨keep a hy _, by rw [← Act.put_comm a v _ h2]; exact h⟩
    · exact ⟨keep a hy _, by rw [← Act.put_comm a v undef h2]; exact h⟩
    · exact h.mono fun e w' ⟨u, he, hn⟩ => ⟨u, he, keep a hy u, by rw [← Act.put_comm a v u h2]; exact hn⟩
    · cases h
  · rename_i hw
    rw [if_neg hw] at h
    exact ⟨keep a hy _, by rw [← Act.put_comm a v undef h2]; exact h⟩
def SameZ (Z : Nat → Prop) (w w' : World) : Prop := ∀ b, Z b → w'.heap[b]? = w.heap[b]?
theorem wpAnyG_first {H : Nat → Nat → Prop} {R : Nat → Prop} {i : Nat} {oi : Oper} {v : Value} (hi : ops[i]? = some oi) (hsel : ∀ (j : Nat) (o : Oper) cs b, ops[j]? = some o → o.op ≠ .select cs b) (hd : ∀ c, oi.op ≠ .defer c)
    (hR : ∀ j oj, ops[j]? = some oj → j ≠ i → (∀ e ∈ oj.after, Region.binds .any e = true → e.on ≠ i) → ∀ b, R b → H j b) :
    ∀ (fuel : Nat) (listed : Array Bool) (Z : Nat → Prop) (a : Act) (w : World),
      (∀ j oj, ops[j]? = some oj → j ≠ i → listed.getD j true = false → (∀ e ∈ oj.after, Region.binds .any e = true → e.on ≠ i) → oi.apart ops oj = true) →
      i ∈ Region.ready .any ops listed → YieldsIf P ops (SameZ (fun b => Z b ∨ R b) w) oi v a →
      wpAnyG P ops N H fuel (listed.setIfInBounds i true) Z (a.put oi.dst v) w → wpAnyG P ops N H (fuel + 1) listed Z a w := by
  intro fuel
  induction fuel with
  | zero =>
    intro listed Z a w _ hr hy hG
    refine ⟨fun h => (by rw [h] at hr; cases hr), fun j hj => ?_⟩
    by_cases hji : j = i
    · subst hji; exact hy.opB hd hi (fun _ _ => rfl) ⟨Z, fun b hb => ⟨hb, rfl⟩, fun _ _ => rfl, hG⟩
    · have := ready_mono hj hji
      rw [hG.1] at this
      cases this
  | succ fuel ih =>
    intro listed Z a w hfree hr hy hG
    refine ⟨fun h => (by rw [h] at hr; cases hr), fun j hj => ?_⟩
    by_cases hji : j = i
    · subst hji; exact hy.opB hd hi (fun _ _ => rfl) ⟨Z, fun b hb => ⟨hb, rfl⟩, fun _ _ => rfl, hG⟩
    · have h1 := hG.2 j (ready_mono hj hji)
      obtain ⟨hjun, oj, hoj, hall⟩ := mem_ready.1 hj
      have hnot : ∀ e ∈ oj.after, Region.binds .any e = true → e.on ≠ i := fun e he hb heq => by
        have h1 := hall e he hb
        have h0 := (mem_ready.1 hr).1
        rw [heq] at h1
        rcases Nat.lt_or_ge i listed.size with h' | h'
        · simp [h'] at h0 h1; rw [h0] at h1; cases h1
        · simp [Array.getElem?_eq_none h'] at h1
      have h2 := wpOpB_putIf hoj (hfree j oj hoj hji hjun hnot) (fun cs b => hsel i oi cs b hi) (fun cs b => hsel j oj cs b hoj) hy h1
      have hfree' : ∀ k ok, ops[k]? = some ok → k ≠ i → (listed.setIfInBounds j true).getD k true = false →
          (∀ e ∈ ok.after, Region.binds .any e = true → e.on ≠ i) → oi.apart ops ok = true := fun k ok hk hki hun hno => by
        refine hfree k ok hk hki ?_ hno
        by_cases hjk : j = k
        · subst hjk; exact hjun
        · rw [getD_set_ne true hjk] at hun; exact hun
      refine wpOpB_mono (fun a' w' ⟨h3, Z', h4, h4', h5⟩ => ⟨Z', h4, h4', ih (listed.setIfInBounds j true) Z' a' w' hfree' (ready_mono hr (Ne.symm hji)) ?_ ?_⟩) h2
      · refine h3.imp (fun ⟨g1, g2⟩ => ⟨g1, fun w'' hw => g2 w'' fun b hb => ?_⟩) id
        rcases hb with hb | hb
        · exact (hw b (.inl (h4 b hb).1)).trans (h4 b hb).2
        · exact (hw b (.inr hb)).trans (h4' b (hR j oj hoj hji hnot b hb))
      · rw [Array.setIfInBounds_comm _ _ hji]
        exact h5
end
inductive Plan where
  | done
  | take (i : Nat) (p : Plan)
  | alt (i : Nat) (p q : Plan)
  | nil
def altIx : Plan → List Nat
  | .alt i _ q => i :: altIx q
  | _ => []
def planOk (ops : Array Oper) : Bool → Plan → Array Bool → Bool
  | _, .done, l => (Region.ready .any ops l).isEmpty
  | _, .take i p, l => Region.free .any ops l i && (Region.ready .any ops l).contains i && planOk ops true p (l.setIfInBounds i true)
  | hd, .alt i p q, l => (!hd || Region.ready .any ops l == i :: altIx q) && planOk ops true p (l.setIfInBounds i true) && (match q with | .nil => true | _ => planOk ops false q l)
  | hd, .nil, _ => !hd
/-- a choice whose condition is known, whatever it chooses between -/
def takeQ (o : Oper) (s : AS) (K : AS → Prop) : Prop := match o.op with
  | .pick c a b => (s.ev c).gc ∧ pickP s o.dst K (s.ev a) (s.ev b) (s.ev c).ung
  | _ => False
def takeP (P : Program) (ro : List Nat) (ops : Array Oper) (o : Oper) (s : AS) (K : AS → Prop) : Prop :=
  match pureV P (fun k => ro.contains k) s o.op with
  | some q => match o.guard with
    | none => q.1 ∧ K (s.put o.dst q.2)
    | some (j, want) => match guardV ops s j want with
      | some c => (c = true → q.1) ∧ K (s.put o.dst (mkG c q.2))
      | none => False
  | none => match o.guard with
    | none => takeQ o s K
    | some (j, want) => match guardV ops s j want with
      | some c => (c = true → takeQ o s K) ∧ (c = false → K (s.put o.dst (.c undef)))
      | none => False
def allSt : Nat → Bool := fun _ => true
def heldOk (ro : List Nat) (s s' : AS) : Prop := ∀ k ∈ ro, (lens s'.h)[k]? = (lens s.h)[k]?
/-- what operation j may turn -/
def wrOf (wr : List (Nat × List Nat)) (j : Nat) : List Nat := wr.flatMap fun p => if p.1 = j then p.2 else []
def holdOf (U : List Nat) (wr : List (Nat × List Nat)) (j : Nat) : List Nat := U.filter fun k => !(wrOf wr j).contains k
/-- what operation i may read ahead of its turn -/
def roOf (ops : Array Oper) (U : List Nat) (wr : List (Nat × List Nat)) (i : Nat) : List Nat :=
  U.filter fun k => wr.all fun p => !p.2.contains k || p.1 == i || (match ops[p.1]? with | some o => o.after.any fun e => Region.binds .any e && e.on == i | none => true)
def altK (U : List Nat) (s : AS) (K : AS → Prop) (s' : AS) : Prop := heldOk U s s' ∧ K s'
def runD (P : Program) (ops : Array Oper) (U : List Nat) (wr : List (Nat × List Nat)) (ho0 : Nat → Bool) : Plan → AS → (AS → Prop) → Prop
  | .done, s, K => K s
  | .take i p, s, K => match ops[i]? with
    | some o => takeP P (roOf ops U wr i) ops o s (swapK (runD P ops U wr ho0 p) K)
    | none => False
  | .alt i p q, s, K => (match ops[i]? with
    | some o => ∀ E : Env, stepP P ⟨E.w0, E.L, E.F0, E.G0, lens s.h, allSt, fun k => (holdOf U wr i).contains k || ho0 k, E.mks⟩ ops o s (altK U s (swapK (runD P ops U wr ho0 p) K))
    | none => False) ∧ runD P ops U wr ho0 q s K
  | .nil, _, _ => True
section
variable {P : Program} {E : Env} {s : AS} {ops : Array Oper}
def liveB (G : Gh) (h : List AObj) (ro : List Nat) (b : Nat) : Prop := ∃ k x, h[k]? = some x ∧ G.vir k = false ∧ fzO x = false ∧ k ∉ ro ∧ b = G.σ k
def reE (mks : Nat → Prop) (G : Gh) (F : Nat → Prop) (s : AS) (w : World) (ro : List Nat) : Env := ⟨w, liveB G s.h ro, F, G, lens s.h, allSt, fun k => ro.contains k, mks⟩
theorem rebase {G : Gh} {F : Nat → Prop} {a : Act} {w : World} (hr : Rel E G F s a w) (ro : List Nat) : Rel (reE E.mks G F s w ro) G F s a w :=
  ⟨hr.len, hr.def0, hr.slot, hr.heap, Mod.refl _ _, fun k x hk hv hf hh => .inl ⟨k, x, hk, hv, hf, by simpa [reE] using hh, rfl⟩, fun b hb => .inl hb, fun b hb => hb, hr.fc, (Later.refl _ _).same _⟩
theorem unbase (hE : E.ho = noHo) {G G' : Gh} {F F' : Nat → Prop} {a a' : Act} {w w' : World} {s' : AS} {ro : List Nat} (hro : ∀ k ∈ ro, k < s.h.length) (hr : Rel E G F s a w) (h : Rel (reE E.mks G F s w ro) G' F' s' a' w') (hh : heldOk ro s s') : Rel E G' F' s' a' w' := by
  have hL : ∀ b, liveB G s.h ro b → E.L b ∨ E.w0.heap.size ≤ b := fun b ⟨k, x, hk, hv, hf, _, hb⟩ => by rw [hb]; exact hr.sup k x hk hv hf (by rw [hE]; rfl)
  have hws : E.w0.heap.size ≤ w.heap.size := hr.mod.size
  refine ⟨h.len, h.def0, h.slot, h.heap, hr.mod.mod h.mod fun i hi hl => (hL i hl).resolve_right (by omega), fun k x hk hv hf _ => ?_, fun b hb => ?_, fun b hb => h.f0 b (hr.f0 b hb), h.fc, hr.lat.trans fun k m _ hm => h.lat k m rfl hm⟩
  · by_cases hkr : k ∈ ro
    · have hkl := hro k hkr
      have hm : (lens s.h)[k]? = some (lnO s.h[k]) := by simp [lens, hkl]
      obtain ⟨y, hy⟩ : ∃ y, s.h[k]? = some y := ⟨_, List.getElem?_eq_getElem hkl⟩
      rcases h.lat k _ rfl hm with ⟨e1, e2, e3, e4⟩ | ⟨m', e1, e2⟩
      · rw [e2]
        by_cases hfy : fzO y = false
        · exact hr.sup k y hy (e4 ▸ hv) hfy (by rw [hE]; rfl)
        · -- a frozen one stays so
          have hob := hr.heap.obj k y hy
          cases y with
          | raw s => exact absurd rfl hfy
          | o kd cs =>
            cases kd with
            | box => exact absurd rfl hfy
            | row e sz => exact absurd rfl hfy
            | fz =>
              rcases hob with ⟨g1, _⟩ | ⟨_, g1, _⟩
              · have : G.vir k = false := e4 ▸ hv
                rw [this] at g1; cases g1
              · exact absurd (h.f0 _ g1) (by have := h.heap.nfz hk hv hf; rw [e2] at this; exact this)
      · have := (hh k hkr).symm.trans e1
        rw [hm] at this; injection this with this; omega
    · rcases h.sup k x hk hv hf (by simpa [reE] using hkr) with h1 | h1
      · exact hL _ h1
      · have h2 : w.heap.size ≤ G'.σ k := h1
        exact .inr (by omega)
  · rcases h.fsup b hb with h1 | h1 | h1
    · exact hr.fsup b h1
    · rcases hL b h1 with h2 | h2
      · exact .inr (.inl h2)
      · exact .inr (.inr h2)
    · have h2 : w.heap.size ≤ b := h1
      exact .inr (.inr (by omega))
def liveH (G : Gh) (h : List AObj) (ro : List Nat) (ho0 : Nat → Bool) (b : Nat) : Prop := ∃ k x, h[k]? = some x ∧ G.vir k = false ∧ fzO x = false ∧ (ro.contains k || ho0 k) = false ∧ b = G.σ k
def reH (mks : Nat → Prop) (G : Gh) (F : Nat → Prop) (s : AS) (w : World) (ro : List Nat) (ho0 : Nat → Bool) : Env := ⟨w, liveH G s.h ro ho0, F, G, lens s.h, allSt, fun k => ro.contains k || ho0 k, mks⟩
theorem rebaseH {G : Gh} {F : Nat → Prop} {a : Act} {w : World} (hr : Rel E G F s a w) (ro : List Nat) (ho0 : Nat → Bool) : Rel (reH E.mks G F s w ro ho0) G F s a w :=
  ⟨hr.len, hr.def0, hr.slot, hr.heap, Mod.refl _ _, fun k x hk hv hf hh => .inl ⟨k, x, hk, hv, hf, hh, rfl⟩, fun b hb => .inl hb, fun b hb => hb, hr.fc, (Later.refl _ _).same _⟩
theorem unbaseH {G G' : Gh} {F F' : Nat → Prop} {a a' : Act} {w w' : World} {s' : AS} {ro : List Nat} (hro : ∀ k ∈ ro, k < s.h.length) (hr : Rel E G F s a w) (h : Rel (reH E.mks G F s w ro E.ho) G' F' s' a' w') (hh : heldOk ro s s') : Rel E G' F' s' a' w' := by
  have hL : ∀ b, liveH G s.h ro E.ho b → E.L b ∨ E.w0.heap.size ≤ b := fun b ⟨k, x, hk, hv, hf, hn, hb⟩ => by rw [hb]; exact hr.sup k x hk hv hf (by simp only [Bool.or_eq_false_iff] at hn; exact hn.2)
  have hws : E.w0.heap.size ≤ w.heap.size := hr.mod.size
  refine ⟨h.len, h.def0, h.slot, h.heap, hr.mod.mod h.mod fun i hi hl => (hL i hl).resolve_right (by omega), fun k x hk hv hf hnh => ?_, fun b hb => ?_, fun b hb => h.f0 b (hr.f0 b hb), h.fc, hr.lat.trans fun k m _ hm => h.lat k m rfl hm⟩
  · by_cases hkr : k ∈ ro
    · have hkl := hro k hkr
      have hm : (lens s.h)[k]? = some (lnO s.h[k]) := by simp [lens, hkl]
      obtain ⟨y, hy⟩ : ∃ y, s.h[k]? = some y := ⟨_, List.getElem?_eq_getElem hkl⟩
      rcases h.lat k _ rfl hm with ⟨e1, e2, e3, e4⟩ | ⟨m', e1, e2⟩
      · rw [e2]
        by_cases hfy : fzO y = false
        · exact hr.sup k y hy (e4 ▸ hv) hfy hnh
        · -- a frozen one stays so
          have hob := hr.heap.obj k y hy
          cases y with
          | raw s => exact absurd rfl hfy
          | o kd cs =>
            cases kd with
            | box => exact absurd rfl hfy
            | row e sz => exact absurd rfl hfy
            | fz =>
              rcases hob with ⟨g1, _⟩ | ⟨_, g1, _⟩
              · have : G.vir k = false := e4 ▸ hv
                rw [this] at g1; cases g1
              · exact absurd (h.f0 _ g1) (by have := h.heap.nfz hk hv hf; rw [e2] at this; exact this)
      · have := (hh k hkr).symm.trans e1
        rw [hm] at this; injection this with this; omega
    · rcases h.sup k x hk hv hf (by simp only [reH, Bool.or_eq_false_iff]; exact ⟨by simpa using hkr, hnh⟩) with h1 | h1
      · exact hL _ h1
      · have h2 : w.heap.size ≤ G'.σ k := h1
        exact .inr (by omega)
  · rcases h.fsup b hb with h1 | h1 | h1
    · exact hr.fsup b h1
    · rcases hL b h1 with h2 | h2
      · exact .inr (.inl h2)
      · exact .inr (.inr h2)
    · have h2 : w.heap.size ≤ b := h1
      exact .inr (.inr (by omega))
/-- the blocks that an operation holds: as they lay when the region began -/
def Hs (G : Gh) (h : List AObj) (l : List Nat) (b : Nat) : Prop := ∃ k x, h[k]? = some x ∧ k ∈ l ∧ G.vir k = false ∧ b = G.σ k
/-- these handles lie where they lay -/
def StayU (U : List Nat) (G0 G : Gh) (h0 h : List AObj) : Prop := ∀ k ∈ U, (lens h)[k]? = (lens h0)[k]? ∧ G.σ k = G0.σ k ∧ G.vir k = G0.vir k
def depth : Plan → Nat
  | .take _ p => depth p + 1
  | .alt _ p q => max (depth p + 1) (depth q)
  | _ => 0
/-- a plan of takes alone -/
def noAlt : Plan → Bool
  | .done => true
  | .take _ p => noAlt p
  | _ => false
theorem contains_iff (ro : List Nat) (k : Nat) : ro.contains k = true ↔ k ∈ ro := by simp
theorem runD_sound (hsel : Region.noSelect ops = true) (hdf : noDefer ops = true) {K : AS → Prop} {N : Act → World → Prop} (hQ : ∀ s' a' w', Sat E s' a' w' → K s' → N a' w') (U : List Nat) (wr : List (Nat × List Nat)) (ho0 : Nat → Bool) (G0 : Gh) (h0 : List AObj) (hU : ∀ k ∈ U, k < h0.length) :
    ∀ (p : Plan), (E.ho = ho0 ∨ noAlt p = true) →
      (∀ (fuel : Nat) (listed : Array Bool) (t : AS) (a : Act) (w : World) (G : Gh) (F : Nat → Prop), depth p ≤ fuel → planOk ops true p listed = true → Rel E G F t a w → StayU U G0 G h0 t.h → runD P ops U wr ho0 p t K →
        wpAnyG P ops N (fun j => Hs G0 h0 (holdOf U wr j)) fuel listed F a w) ∧
      (∀ (fuel : Nat) (listed : Array Bool) (t : AS) (a : Act) (w : World) (G : Gh) (F : Nat → Prop) (hd : Bool), depth p ≤ fuel + 1 → planOk ops hd p listed = true → Rel E G F t a w → StayU U G0 G h0 t.h → runD P ops U wr ho0 p t K →
        ∀ j ∈ altIx p, wpOpB P ops j (fun a' w' => ∃ Z' : Nat → Prop, (∀ b, F b → Z' b ∧ w'.heap[b]? = w.heap[b]?) ∧ (∀ b, Hs G0 h0 (holdOf U wr j) b → w'.heap[b]? = w.heap[b]?) ∧ wpAnyG P ops N (fun j => Hs G0 h0 (holdOf U wr j)) fuel (listed.setIfInBounds j true) Z' a' w') a w) := by
  intro p
  induction p with
  | done =>
    intro hE
    refine ⟨fun fuel listed t a w G F _ hok hr _ hrun => ?_, fun _ _ _ _ _ _ _ _ _ _ _ _ _ j hj => by simp [altIx] at hj⟩
    have hq := hQ t a w ⟨G, F, hr⟩ hrun
    simp only [planOk, List.isEmpty_iff] at hok
    cases fuel with
    | zero => exact ⟨hok, hq⟩
    | succ n => exact ⟨fun _ => hq, fun i hi => by rw [hok] at hi; cases hi⟩
  | nil => intro hE; exact ⟨fun _ _ _ _ _ _ _ _ hok => by simp [planOk] at hok, fun _ _ _ _ _ _ _ _ _ _ _ _ _ j hj => by simp [altIx] at hj⟩
  | take i p ih =>
    intro hE
    have ih := ih hE
    refine ⟨fun fuel listed t a w G F hdep hok hr hst hrun => ?_, fun _ _ _ _ _ _ _ _ _ _ _ _ _ j hj => by simp [altIx] at hj⟩
    simp only [depth] at hdep
    simp only [planOk, Bool.and_eq_true] at hok
    obtain ⟨⟨hf, hc⟩, hok⟩ := hok
    simp only [runD] at hrun
    split at hrun
    · rename_i o ho
      obtain ⟨n, rfl⟩ : ∃ n, fuel = n + 1 := ⟨fuel - 1, by omega⟩
      have hR : ∀ j oj, ops[j]? = some oj → j ≠ i → (∀ e ∈ oj.after, Region.binds .any e = true → e.on ≠ i) → ∀ b, Hs G0 h0 (roOf ops U wr i) b → Hs G0 h0 (holdOf U wr j) b := fun j oj hj hji hno b ⟨k, x, hk, hkr, hv, hb⟩ => by
        refine ⟨k, x, hk, ?_, hv, hb⟩
        simp only [roOf, List.mem_filter, List.all_eq_true] at hkr
        simp only [holdOf, List.mem_filter, Bool.not_eq_true', List.contains_eq_mem, decide_eq_false_iff_not, wrOf, List.mem_flatMap, not_exists, not_and]
        refine ⟨hkr.1, fun pr hpr hmem => ?_⟩
        split at hmem
        · rename_i e
          have := hkr.2 pr hpr
          rw [e, hj] at this
          simp only [Bool.or_eq_true, Bool.not_eq_true', List.contains_eq_mem, decide_eq_false_iff_not, beq_iff_eq, Array.any_eq_true', Bool.and_eq_true] at this
          rcases this with (h1 | h1) | ⟨ed, h1, h2, h3⟩
          · exact h1 hmem
          · exact hji h1
          · exact hno ed h1 h2 h3
        · cases hmem
      have hsame : ∀ w', SameZ (fun b => F b ∨ Hs G0 h0 (roOf ops U wr i) b) w w' → SameOn (fun k => (roOf ops U wr i).contains k) G F t.h w w' := fun w' hw b hb => by
        rcases hb with hb | ⟨k, x, hk, hkr, hv, rfl⟩
        · exact hw b (.inl hb)
        · have hkr' : k ∈ roOf ops U wr i := by simpa using hkr
          have hkU : k ∈ U := (List.mem_filter.1 hkr').1
          obtain ⟨s1, s2, s3⟩ := hst k hkU
          exact hw _ (.inr ⟨k, h0[k]'(hU k hkU), List.getElem?_eq_getElem _, hkr', s3 ▸ hv, s2⟩)
      have main : ∀ (v : Value) (av : AV), YieldsIf P ops (SameZ (fun b => F b ∨ Hs G0 h0 (roOf ops U wr i) b) w) o v a → RepV G (lens t.h) F w av v → runD P ops U wr ho0 p (t.put o.dst av) K → wpAnyG P ops N (fun j => Hs G0 h0 (holdOf U wr j)) (n + 1) listed F a w := fun v av hy hrv hk => by
        refine wpAnyG_first ho (Region.noSelect_spec hsel) (noDefer_at hdf ho) hR n listed _ a w (Region.free_spec ho hf) (by simpa using hc) hy ?_
        exact ih.1 n (listed.setIfInBounds i true) (t.put o.dst av) (a.put o.dst v) w G F (by omega) hok (hr.put hrv o.dst) (by rw [AS.put_h]; exact hst) hk
      have hQ2 : Region.wanted o (yielded ops a.tmps) = true → takeQ o t (swapK (runD P ops U wr ho0 p) K) → wpAnyG P ops N (fun j => Hs G0 h0 (holdOf U wr j)) (n + 1) listed F a w := fun hw h => by
        unfold takeQ at h
        split at h
        · rename_i c x y hop
          obtain ⟨g1, h⟩ := h
          have hc := (hr.ev c).ung g1
          unfold pickP at h
          split at h
          · rename_i v e1
            rw [e1] at hc
            have hex : ∀ w', (execOp a.eval o).run P w' = .ok (.value (if v then a.eval x else a.eval y)) w' := fun w' => by
              simp [execOp, hop, hc.c_inv, asBool]
            cases v
            · exact main (a.eval y) _ (.inl ⟨hw, fun w' _ => hex w'⟩) (hr.ev y) (by simpa [swapK] using h)
            · exact main (a.eval x) _ (.inl ⟨hw, fun w' _ => hex w'⟩) (hr.ev x) (by simpa [swapK] using h)
          · cases h
        · cases h
      unfold takeP at hrun
      split at hrun
      · rename_i q hq
        split at hrun
        · rename_i hg
          obtain ⟨x, h1, h2⟩ := pureV_sound hr o hq hrun.1
          exact main x q.2 (.inl ⟨by simp [Region.wanted, hg], fun w' hw => h1 w' (hsame w' hw)⟩) h2 hrun.2
        · rename_i j want hg
          split at hrun
          · rename_i c hcg
            have hw := guard_sound hr hg hcg
            cases c
            · exact main undef _ (.inr ⟨hw, rfl⟩) (mkG_rep (fun h => by cases h) (fun _ => rfl)) hrun.2
            · obtain ⟨x, h1, h2⟩ := pureV_sound hr o hq (hrun.1 rfl)
              exact main x _ (.inl ⟨hw, fun w' hw => h1 w' (hsame w' hw)⟩) (mkG_rep (fun _ => h2) (fun h => absurd rfl h)) hrun.2
          · cases hrun
      · split at hrun
        · rename_i hg
          exact hQ2 (by simp [Region.wanted, hg]) hrun
        · rename_i j want hg
          split at hrun
          · rename_i c hcg
            have hw := guard_sound hr hg hcg
            cases c
            · exact main undef _ (.inr ⟨hw, rfl⟩) (.d _ _ (.c _)) (hrun.2 rfl)
            · exact hQ2 hw (hrun.1 rfl)
          · cases hrun
    · cases hrun
  | alt i p q ihp ihq =>
    intro hE0
    have hE : E.ho = ho0 := hE0.resolve_right (by simp [noAlt])
    clear hE0
    subst hE
    have ihp := ihp (.inl rfl)
    have ihq := ihq (.inl rfl)
    have B : ∀ (fuel : Nat) (listed : Array Bool) (t : AS) (a : Act) (w : World) (G : Gh) (F : Nat → Prop) (hd : Bool), depth (.alt i p q) ≤ fuel + 1 → planOk ops hd (.alt i p q) listed = true → Rel E G F t a w → StayU U G0 G h0 t.h → runD P ops U wr E.ho (.alt i p q) t K →
        ∀ j ∈ altIx (.alt i p q), wpOpB P ops j (fun a' w' => ∃ Z' : Nat → Prop, (∀ b, F b → Z' b ∧ w'.heap[b]? = w.heap[b]?) ∧ (∀ b, Hs G0 h0 (holdOf U wr j) b → w'.heap[b]? = w.heap[b]?) ∧ wpAnyG P ops N (fun j => Hs G0 h0 (holdOf U wr j)) fuel (listed.setIfInBounds j true) Z' a' w') a w := by
      intro fuel listed t a w G F hd hdep hok hr hst hrun j hj
      simp only [depth] at hdep
      simp only [planOk, Bool.and_eq_true] at hok
      obtain ⟨⟨_, hokp⟩, hokq⟩ := hok
      obtain ⟨hrun1, hrun2⟩ := hrun
      simp only [altIx, List.mem_cons] at hj
      rcases hj with rfl | hj
      · split at hrun1
        · rename_i o ho
          have hUt : ∀ k ∈ U, k < t.h.length := fun k hk => by
            have h2 := (hst k hk).1
            have h3 : (lens h0)[k]? = some (lnO (h0[k]'(hU k hk))) := by simp [lens, hU k hk]
            rw [h3] at h2
            simpa [lens] using (List.getElem?_eq_some_iff.1 h2).1
          have hHU : ∀ k ∈ holdOf U wr j, k ∈ U := fun k hk => (List.mem_filter.1 hk).1
          have hr' := rebaseH hr (holdOf U wr j) E.ho
          have hstep := stepP_soundB hr' ops o (hrun1 (reH E.mks G F t w (holdOf U wr j) E.ho)) (next := fun a' w' => ∃ Z' : Nat → Prop, (∀ b, F b → Z' b ∧ w'.heap[b]? = w.heap[b]?) ∧ (∀ b, Hs G0 h0 (holdOf U wr j) b → w'.heap[b]? = w.heap[b]?) ∧ wpAnyG P ops N (fun j => Hs G0 h0 (holdOf U wr j)) fuel (listed.setIfInBounds j true) Z' a' w') fun t' a' w' ⟨G', F', h1⟩ ⟨hh, hk⟩ => by
            have hu := unbaseH (fun k hk => hUt k (hHU k hk)) hr h1 fun k hk => hh k (hHU k hk)
            have stay : StayU U G0 G' h0 t'.h := fun k hk => by
              obtain ⟨s1, s2, s3⟩ := hst k hk
              have h2 := hh k hk
              have hm : (lens t.h)[k]? = some (lnO (t.h[k]'(hUt k hk))) := by simp [lens, hUt k hk]
              rcases h1.lat k _ rfl hm with ⟨_, e2, _, e4⟩ | ⟨m', e1, e2⟩
              · exact ⟨h2.trans s1, e2.trans s2, e4.trans s3⟩
              · have := h2.symm.trans e1
                rw [hm] at this; injection this with this; omega
            have keep : ∀ b, b < w.heap.size → ¬ liveH G t.h (holdOf U wr j) E.ho b → w'.heap[b]? = w.heap[b]? := fun b h2 h3 => h1.mod.block b h2 h3
            have nL : ∀ b, F b → ¬ liveH G t.h (holdOf U wr j) E.ho b := fun b hb ⟨k, x, hk, hv, hf, _, he⟩ => hr.heap.nfz hk hv hf (he ▸ hb)
            refine ⟨F', fun b hb => ⟨h1.f0 b hb, keep b (hr.flt b hb) (nL b hb)⟩, fun b ⟨k, x0, hk0, hkr, hv0, hb⟩ => ?_, ihp.1 fuel _ t' a' w' G' F' (by omega) hokp hu stay hk⟩
            have hkU := hHU k hkr
            obtain ⟨s1, s2, s3⟩ := hst k hkU
            obtain ⟨x, hkx⟩ : ∃ x, t.h[k]? = some x := ⟨_, List.getElem?_eq_getElem (hUt k hkU)⟩
            have hv : G.vir k = false := s3.trans hv0
            have hbk : b = G.σ k := hb.trans s2.symm
            subst hbk
            refine keep _ (hr.heap.lt hkx hv) fun ⟨k', x', hk', hv', hf', hn', he'⟩ => ?_
            by_cases hfx : fzO x = false
            · have := hr.heap.inj k k' x x' hkx hk' hv hv' hfx hf' he'
              rw [← this] at hn'; simp only [Bool.or_eq_false_iff] at hn'; rw [(contains_iff _ _).2 hkr] at hn'; cases hn'.1
            · have hob := hr.heap.obj k x hkx
              cases x with
              | raw s => exact hfx rfl
              | o kd cs =>
                cases kd with
                | box => exact hfx rfl
                | row e sz => exact hfx rfl
                | fz =>
                  rcases hob with ⟨g1, _⟩ | ⟨_, g1, _⟩
                  · rw [hv] at g1; cases g1
                  · exact hr.heap.nfz hk' hv' hf' (he' ▸ g1)
          unfold wpOpB
          split
          · rename_i h; rw [ho] at h; cases h
          · rename_i o' h
            rw [ho] at h; injection h with h; subst h
            split
            · rename_i hw; rw [if_pos hw] at hstep; exact hstep
            · rename_i hw; rw [if_neg hw] at hstep; exact hstep
        · cases hrun1
      · have hq' : planOk ops false q listed = true := by
          cases q with
          | nil => simp [altIx] at hj
          | _ => exact hokq
        exact ihq.2 fuel listed t a w G F false (by omega) hq' hr hst hrun2 j hj
    refine ⟨fun fuel listed t a w G F hdep hok hr hst hrun => ?_, B⟩
    have hready : Region.ready .any ops listed = i :: altIx q := by
      simp only [planOk, Bool.and_eq_true, Bool.or_eq_true, Bool.not_true, Bool.false_eq_true, false_or] at hok
      simpa using hok.1.1
    obtain ⟨n, rfl⟩ : ∃ n, fuel = n + 1 := ⟨fuel - 1, by simp only [depth] at hdep; omega⟩
    exact ⟨fun h => (by rw [hready] at h; cases h), fun j hj => B n listed t a w G F true hdep hok hr hst hrun j (by rw [hready] at hj; exact hj)⟩
/-- **A region that draws**: by a plan of its orders. U: blocks that are read in it; wr: which of them an operation turns. -/
theorem draw_of {ho0 : Nat → Bool} (hE : E.ho = ho0) {K : AS → Prop} (p : Plan) (U : List Nat) (wr : List (Nat × List Nat)) (hok : (Region.noSelect ops && noDefer ops && planOk ops true p (Array.replicate ops.size false) && decide (depth p ≤ ops.size)) = true) (hU : ∀ k ∈ U, k < s.h.length) (h : runD P ops U wr ho0 p s K) : DrawG P E ops s K := by
  simp only [Bool.and_eq_true, decide_eq_true_eq] at hok
  intro a w ⟨G, F, hr⟩ N hQ
  exact wpAny_of_G _ _ _ _ _ ((runD_sound hok.1.1.1 hok.1.1.2 hQ U wr ho0 G s.h hU p (.inl hE)).1 ops.size _ s a w G F hok.2 hok.1.2 hr (fun k _ => ⟨rfl, rfl, rfl⟩) h)
/-- .. of takes alone: whatever is held -/
theorem draw_take {ho0 : Nat → Bool} {K : AS → Prop} (p : Plan) (hna : noAlt p = true) (U : List Nat) (wr : List (Nat × List Nat)) (hok : (Region.noSelect ops && noDefer ops && planOk ops true p (Array.replicate ops.size false) && decide (depth p ≤ ops.size)) = true) (hU : ∀ k ∈ U, k < s.h.length) (h : runD P ops U wr ho0 p s K) : DrawG P E ops s K := by
  simp only [Bool.and_eq_true, decide_eq_true_eq] at hok
  intro a w ⟨G, F, hr⟩ N hQ
  exact wpAny_of_G _ _ _ _ _ ((runD_sound hok.1.1.1 hok.1.1.2 hQ U wr ho0 G s.h hU p (.inr hna)).1 ops.size _ s a w G F hok.2 hok.1.2 hr (fun k _ => ⟨rfl, rfl, rfl⟩) h)
/-- first less is told, or more -/
theorem Clean.wk {st : Nat → Bool} {h h2 h' : List AObj} {r r2 r' : AV} (hw : ∀ E : Env, E.ln0 = lens h → Wk E ⟨[r], h⟩ ⟨[r2], h2⟩) (hc : Clean st h2 r2 h' r') : Clean st h r h' r' := by
  intro E G F w x hE hf hrep
  have hr : Rel ⟨E.w0, E.L, E.F0, G, lens h, allSt, E.ho, E.mks⟩ G F ⟨[r], h⟩ ⟨#[x], []⟩ w := Rel.mk' ⟨hf.heap, hf.mod, hf.sup, hf.fsup, hf.f0, hf.fc⟩ rfl rfl (fun i av v h1 h2 => by
    cases i with
    | zero => simp at h1 h2; subst h1 h2; exact hrep
    | succ i => simp at h1) ((Later.refl _ _).same _)
  obtain ⟨G2, F2, hr2⟩ := hw _ rfl _ w ⟨G, F, hr⟩
  have hrep2 := hr2.slot 0 r2 x rfl rfl
  obtain ⟨G', F', c1, c2, c3⟩ := hc E G2 F2 w x hE ⟨hr2.heap, hr2.mod, hr2.sup, hr2.fsup, hr2.f0, hr2.fc⟩ hrep2
  exact ⟨G', F', c1, c2, fun k m hs hm => by
    rcases hr2.lat k m rfl hm with ⟨e1, e2, e3, e4⟩ | ⟨m', e1, e2⟩
    · rcases c3 k m hs e1 with ⟨f1, f2, f3, f4⟩ | ⟨m', f1, f2⟩
      · exact .inl ⟨f1, f2.trans e2, f3.trans e3, f4.trans e4⟩
      · exact .inr ⟨m', f1, f2⟩
    · rcases c3 k m' hs e1 with ⟨f1, _⟩ | ⟨m'', f1, f2⟩
      · exact .inr ⟨m', f1, e2⟩
      · exact .inr ⟨m'', f1, Nat.lt_trans e2 f2⟩⟩
theorem ret_same {st : Nat → Bool} {h : List AObj} {r : AV} {Post : AV → List AObj → Prop} (hp : Post r h) : ∃ h' r', Clean st h r h' r' ∧ Post r' h' := ⟨h, r, Clean.refl _ _ _, hp⟩
theorem ret_drop {h : List AObj} {r : AV} {Post : AV → List AObj → Prop} (hpl : plainV r = true) (hp : Post r []) : ∃ h' r', Clean (fun _ => false) h r h' r' ∧ Post r' h' := ⟨[], r, Clean.drop h (fun _ _ _ _ _ hr => plain_rep hpl hr) _ (fun _ _ => rfl), hp⟩
theorem ret_sel {h h' : List AObj} {r r' : AV} {st : Nat → Bool} {Post : AV → List AObj → Prop} (keep : List Nat) (ok : Nat → Bool) {po pa : Prop} (ho : convOs keep ok h keep = some (po, h')) (ha : AV.conv keep ok h r = some (pa, r')) (hpo : po) (hpa : pa) (hn : keep.Nodup) (hok : ∀ k ∈ keep, ok k = false)
    (hst : ∀ i, i < h.length → st i = true → keep[i]? = some i) (hp : Post r' h') : ∃ h' r', Clean st h r h' r' ∧ Post r' h' := ⟨h', r', Clean.sel keep ok ho ha hpo hpa hn hok hst, hp⟩
end
end Go.Proofs.Ytmgpiminicgbiaa
namespace Go.Proofs.Ytmgpiminicgbiaa
set_option linter.unusedVariables false
set_option linter.unusedSimpArgs false
open Go.RowKit

/-! ## How simp steps: what comes later is not looked at before its time -/
section
variable {P : Program} {E : Env}
inductive Fr where
  | seq (y : Code)
  | block (id : Nat)
def stkQ (P : Program) (E : Env) (cut : List Nat) (fin : Exit → AS → Prop) : List Fr → Exit → AS → Prop
  | [] => fin
  | .seq y :: r => seqK (swapK (runC cut P E y) (stkQ P E cut fin r)) (stkQ P E cut fin r)
  | .block id :: r => blockK id (stkQ P E cut fin r)
def contK (P : Program) (E : Env) (cut : List Nat) (stk : List Fr) (fin : Exit → AS → Prop) (e : Exit) (s : AS) : Prop := stkQ P E cut fin stk e s
def runK (P : Program) (E : Env) (cut : List Nat) (c : Code) (stk : List Fr) (fin : Exit → AS → Prop) (s : AS) : Prop := runC cut P E c s (contK P E cut stk fin)
def runO (P : Program) (E : Env) (cut : List Nat) (ops : Array Oper) (l : List Oper) (stk : List Fr) (fin : Exit → AS → Prop) (s : AS) : Prop := runL P E ops l s (contK P E cut stk fin .normal)
variable {cut : List Nat} {stk : List Fr} {fin : Exit → AS → Prop} {s : AS}
theorem runK_skip : runK P E cut .skip stk fin s = contK P E cut stk fin .normal s := congrArg _root_.id rfl
theorem runK_region {id : Nat} {ops : Array Oper} : runK P E cut (.region id ops false) stk fin s = runO P E cut ops ops.toList stk fin s := congrArg _root_.id rfl
theorem runK_draw {id : Nat} {ops : Array Oper} : runK P E cut (.region id ops true) stk fin s = DrawG P E ops s (contK P E cut stk fin .normal) := congrArg _root_.id rfl
theorem runK_seq {x y : Code} (h : isCut cut y = false) : runK P E cut (.seq x y) stk fin s = runK P E cut x (.seq y :: stk) fin s := by
  show runC cut P E (.seq x y) s _ = _
  simp only [runC]
  rw [if_neg (by rw [h]; decide)]
  rfl
/-- here the walk is cut -/
def SeqG (P : Program) (E : Env) (cut : List Nat) (x y : Code) (stk : List Fr) (fin : Exit → AS → Prop) (s : AS) : Prop := EW P E (.seq x y) s (contK P E cut stk fin)
theorem runK_cut {x y : Code} (h : isCut cut y = true) : runK P E cut (.seq x y) stk fin s = SeqG P E cut x y stk fin s := by
  show runC cut P E (.seq x y) s _ = _
  simp only [runC]
  rw [if_pos h]
  rfl
theorem isCut_region {l : List Nat} {id : Nat} {ops : Array Oper} {d : Bool} : isCut l (.region id ops d) = l.contains id := congrArg _root_.id rfl
theorem isCut_seq {l : List Nat} {x y : Code} : isCut l (.seq x y) = isCut l x := congrArg _root_.id rfl
theorem isCut_block {l : List Nat} {id : Nat} {x : Code} : isCut l (.block id x) = isCut l x := congrArg _root_.id rfl
theorem isCut_loop {l : List Nat} {x : Code} : isCut l (.loop x) = isCut l x := congrArg _root_.id rfl
theorem isCut_cond {l : List Nat} {c : Operand} {x y : Code} : isCut l (.cond c x y) = false := congrArg _root_.id rfl
theorem isCut_skip {l : List Nat} : isCut l .skip = false := congrArg _root_.id rfl
theorem isCut_exit {l : List Nat} {i : Nat} : isCut l (.exit i) = false := congrArg _root_.id rfl
theorem isCut_ret {l : List Nat} : isCut l .ret = false := congrArg _root_.id rfl
theorem isCut_range {l : List Nat} {f : Operand} {ps : Array Nat} {x b : Code} : isCut l (.rangeFunc f ps x b) = false := congrArg _root_.id rfl
/-- how code ends that is cut off: in states of one form -/
def cutK (E : Env) {Y : Type} (fs : Y → AS) (FI : Y → Prop) (Q : Exit → AS → Prop) : Exit → AS → Prop
  | .normal, s => ∃ y, FI y ∧ Wk E s (fs y)
  | e, s => Q e s
theorem cut_to {Y : Type} {fs : Y → AS} {FI : Y → Prop} {Q : Exit → AS → Prop} (y : Y) (h1 : FI y) (h2 : Wk E s (fs y)) : cutK E fs FI Q .normal s := ⟨y, h1, h2⟩
theorem cutK_ret {Y : Type} {fs : Y → AS} {FI : Y → Prop} {Q : Exit → AS → Prop} : cutK E fs FI Q .ret s = Q .ret s := congrArg _root_.id rfl
theorem cutK_exit {Y : Type} {fs : Y → AS} {FI : Y → Prop} {Q : Exit → AS → Prop} {i : Nat} : cutK E fs FI Q (.exit i) s = Q (.exit i) s := congrArg _root_.id rfl
theorem seq_cut (hm : P.follows .mixedOrders = true) {x y : Code} {Y : Type} (cut' : List Nat) (fs : Y → AS) (FI : Y → Prop) (tail : ∀ v, FI v → runK P E cut y stk fin (fs v)) (body : runK P E cut' x [] (cutK E fs FI (contK P E cut stk fin)) s) : SeqG P E cut x y stk fin s := by
  intro a w hs
  have hb : EW P E x s (cutK E fs FI (contK P E cut stk fin)) := runC_sound (cut := cut') hm x s _ body
  refine wp_seq (Code.wp_mono (fun e a' w' ⟨h0, s', h1, h2⟩ => ?_) (hb a w hs))
  cases e with
  | normal =>
    obtain ⟨v, hv, hw⟩ := h2
    exact runC_sound hm y (fs v) _ (tail v hv) a' w' (hw a' w' h1)
  | _ => exact ⟨h0, s', h1, h2⟩
/-! equations, for where a thing is known (never the definitions themselves: simp would look into what is not come to) -/
section
variable {o : Oper} {K : AS → Prop} {ho : Nat → Bool} {d : Option Nat} {ops : Array Oper}
theorem onPure_some {q : Prop × AV} : onPure P E o s K (some q) = (q.1 ∧ K (s.put o.dst q.2)) := congrArg _root_.id rfl
theorem onPure_none : onPure P E o s K none = onImpl P E o s K (implO P E.ho s o.op) := congrArg _root_.id rfl
theorem onImpl_some {q : Prop × AS × AV} : onImpl P E o s K (some q) = (q.1 ∧ K (q.2.1.put o.dst q.2.2)) := congrArg _root_.id rfl
theorem onImpl_none : onImpl P E o s K none = stepC P E o s K := congrArg _root_.id rfl
theorem onGP_some {c : Bool} {q : Prop × AV} : onGP P E o s K c (some q) = ((c = true → q.1) ∧ K (s.put o.dst (mkG c q.2))) := congrArg _root_.id rfl
theorem onGP_none {c : Bool} : onGP P E o s K c none = condG P E o s K c := congrArg _root_.id rfl
theorem onGV_some {c : Bool} : onGV P E o s K (some c) = onGP P E o s K c (pureV P anyRo s o.op) := congrArg _root_.id rfl
theorem onIt_it {k : Nat} {b : ByteArray} {pos : Nat} : onIt ho s d K k (some (.raw (.it b pos))) = (ho k = false ∧ (pos < b.size → K ((s.setO k (.raw (.it b (pos + (Utf8.decode b pos).2)))).put d (.tup [.c (.bool true), .c (.int .i64 pos), .c (.int .i32 (Utf8.decode b pos).1)]))) ∧ (¬ pos < b.size → K (s.put d (.tup [.c (.bool false)])))) := congrArg _root_.id rfl
theorem nextP_ptr {k : Nat} : nextP ho s d K (.ptr k 0 0) = onIt ho s d K k s.h[k]? := congrArg _root_.id rfl
theorem pickP_bool {a b : AV} {v : Bool} : pickP s d K a b (.c (.bool v)) = if v = true then K (s.put d a) else K (s.put d b) := congrArg _root_.id rfl
theorem callP_clo {K : AS → Prop} {args : List Operand} {g : FuncId} {first caps : List AV} : callP P E s d K args (.clo (.func g) first caps) = (callable P g = true ∧ gcsL s args ∧ CallG P E g (first ++ evL s args ++ caps) s (putK d K)) := congrArg _root_.id rfl
theorem nilEq_sl {op : BinOp} {t : TypeId} {k z o n m : Nat} {lit : Bool} : nilEq P s d K op t lit (.sl k z o n m) (.c (.slice none 0 0)) = ((slT P t).isSome = true ∧ (lens s.h)[k]? = some m ∧ nilOp s d K op (m = 0)) := congrArg _root_.id rfl
theorem nilEq_fs {op : BinOp} {t : TypeId} {z n : Nat} {l : List AV} {lit : Bool} : nilEq P s d K op t lit (.fs z n l) (.c (.slice none 0 0)) = ((slT P t).isSome = true ∧ nilOp s d K op (n = 0)) := congrArg _root_.id rfl
theorem nilEq_ifn {op : BinOp} {t : TypeId} {lit : Bool} : nilEq P s d K op t lit (.c .nilIface) (.c .nilIface) = (ifT P t = true ∧ lit = true ∧ ifOp s d K op true) := congrArg _root_.id rfl
theorem nilEq_ifh {op : BinOp} {t u : TypeId} {x : Value} {lit : Bool} : nilEq P s d K op t lit (.c (.iface u x)) (.c .nilIface) = (ifT P t = true ∧ ifOp s d K op false) := congrArg _root_.id rfl
theorem ifOp_eql {b : Bool} : ifOp s d K .eql b = K (s.put d (.c (.bool b))) := congrArg _root_.id rfl
theorem ifOp_neq {b : Bool} : ifOp s d K .neq b = K (s.put d (.c (.bool (!b)))) := congrArg _root_.id rfl
theorem nilOp_eql {z : Prop} : nilOp s d K .eql z = (K (s.put d (.c (.bool false))) ∧ (z → K (s.put d (.c (.bool true))))) := congrArg _root_.id rfl
theorem nilOp_neq {z : Prop} : nilOp s d K .neq z = (K (s.put d (.c (.bool true))) ∧ (z → K (s.put d (.c (.bool false))))) := congrArg _root_.id rfl
end
def condK (P : Program) (E : Env) (cut : List Nat) (x y : Code) (stk : List Fr) (fin : Exit → AS → Prop) (s : AS) (v : AV) : Prop := condP (runK P E cut x stk fin s) (runK P E cut y stk fin s) v
theorem condK_bool {x y : Code} {b : Bool} : condK P E cut x y stk fin s (.c (.bool b)) = if b = true then runK P E cut x stk fin s else runK P E cut y stk fin s := congrArg _root_.id rfl
theorem runK_cond {c : Operand} {x y : Code} : runK P E cut (.cond c x y) stk fin s = ((s.ev c).gc ∧ condK P E cut x y stk fin s (s.ev c).ung) := congrArg _root_.id rfl
theorem runK_block {id : Nat} {b : Code} : runK P E cut (.block id b) stk fin s = runK P E cut b (.block id :: stk) fin s := congrArg _root_.id rfl
theorem runK_loop {b : Code} : runK P E cut (.loop b) stk fin s = LoopG P E b s (contK P E cut stk fin) := congrArg _root_.id rfl
theorem runK_exit {id : Nat} : runK P E cut (.exit id) stk fin s = contK P E cut stk fin (.exit id) s := congrArg _root_.id rfl
theorem runK_label {l : Nat} : runK P E cut (.label l) stk fin s = contK P E cut stk fin .normal s := congrArg _root_.id rfl
theorem runK_goto {l : Nat} : runK P E cut (.goto l) stk fin s = contK P E cut stk fin (.goto l) s := congrArg _root_.id rfl
theorem runK_ret : runK P E cut .ret stk fin s = contK P E cut stk fin .ret s := congrArg _root_.id rfl
theorem runK_range {f : Operand} {ps : Array Nat} {x b : Code} : runK P E cut (.rangeFunc f ps x b) stk fin s = RangeFG P E (.rangeFunc f ps x b) s (contK P E cut stk fin) := congrArg _root_.id rfl
theorem contK_nil {e : Exit} : contK P E cut [] fin e s = fin e s := congrArg _root_.id rfl
theorem contK_seq {y : Code} : contK P E cut (.seq y :: stk) fin .normal s = runK P E cut y stk fin s := congrArg _root_.id rfl
theorem contK_seq_ret {y : Code} : contK P E cut (.seq y :: stk) fin .ret s = contK P E cut stk fin .ret s := congrArg _root_.id rfl
theorem contK_seq_exit {y : Code} {i : Nat} : contK P E cut (.seq y :: stk) fin (.exit i) s = contK P E cut stk fin (.exit i) s := congrArg _root_.id rfl
theorem contK_seq_goto {y : Code} {i : Nat} : contK P E cut (.seq y :: stk) fin (.goto i) s = contK P E cut stk fin (.goto i) s := congrArg _root_.id rfl
theorem contK_block {id : Nat} : contK P E cut (.block id :: stk) fin .normal s = contK P E cut stk fin .normal s := congrArg _root_.id rfl
theorem contK_block_ret {id : Nat} : contK P E cut (.block id :: stk) fin .ret s = contK P E cut stk fin .ret s := congrArg _root_.id rfl
theorem contK_block_goto {id i : Nat} : contK P E cut (.block id :: stk) fin (.goto i) s = contK P E cut stk fin (.goto i) s := congrArg _root_.id rfl
theorem contK_block_exit {id i : Nat} : contK P E cut (.block id :: stk) fin (.exit i) s = if i = id then contK P E cut stk fin .normal s else contK P E cut stk fin (.exit i) s := congrArg _root_.id rfl
theorem runO_nil {ops : Array Oper} : runO P E cut ops [] stk fin s = contK P E cut stk fin .normal s := congrArg _root_.id rfl
theorem runO_cons {ops : Array Oper} {o : Oper} {l : List Oper} : runO P E cut ops (o :: l) stk fin s = stepP P E ops o s (runO P E cut ops l stk fin) := congrArg _root_.id rfl
def runE (P : Program) (ops : Array Oper) (U : List Nat) (wr : List (Nat × List Nat)) (ho0 : Nat → Bool) (p : Plan) (K : AS → Prop) (s : AS) : Prop := runD P ops U wr ho0 p s K
theorem runE_done {ho0 : Nat → Bool} {ops : Array Oper} {U : List Nat} {wr : List (Nat × List Nat)} {K : AS → Prop} : runE P ops U wr ho0 .done K s = K s := congrArg _root_.id rfl
theorem runE_nil {ho0 : Nat → Bool} {ops : Array Oper} {U : List Nat} {wr : List (Nat × List Nat)} {K : AS → Prop} : runE P ops U wr ho0 .nil K s = True := congrArg _root_.id rfl
def takeG (ops : Array Oper) (o : Oper) (s : AS) (K : AS → Prop) (q : Prop × AV) : Option Bool → Prop
  | some c => (c = true → q.1) ∧ K (s.put o.dst (mkG c q.2))
  | none => False
def takeN (ops : Array Oper) (o : Oper) (s : AS) (K : AS → Prop) (q : Prop × AV) : Option (Nat × Bool) → Prop
  | none => q.1 ∧ K (s.put o.dst q.2)
  | some g => takeG ops o s K q (guardV ops s g.1 g.2)
def takeW (o : Oper) (s : AS) (K : AS → Prop) : Option Bool → Prop
  | some c => (c = true → takeQ o s K) ∧ (c = false → K (s.put o.dst (.c undef)))
  | none => False
def takeU (ops : Array Oper) (o : Oper) (s : AS) (K : AS → Prop) : Option (Nat × Bool) → Prop
  | some g => takeW o s K (guardV ops s g.1 g.2)
  | none => takeQ o s K
def takeV (ops : Array Oper) (o : Oper) (s : AS) (K : AS → Prop) : Option (Prop × AV) → Prop
  | some q => takeN ops o s K q o.guard
  | none => takeU ops o s K o.guard
theorem takeW_some {o : Oper} {K : AS → Prop} {c : Bool} : takeW o s K (some c) = ((c = true → takeQ o s K) ∧ (c = false → K (s.put o.dst (.c undef)))) := congrArg _root_.id rfl
theorem takeU_some {ops : Array Oper} {o : Oper} {K : AS → Prop} {g : Nat × Bool} : takeU ops o s K (some g) = takeW o s K (guardV ops s g.1 g.2) := congrArg _root_.id rfl
theorem takeU_none {ops : Array Oper} {o : Oper} {K : AS → Prop} : takeU ops o s K none = takeQ o s K := congrArg _root_.id rfl
theorem takeV_none {ops : Array Oper} {o : Oper} {K : AS → Prop} : takeV ops o s K none = takeU ops o s K o.guard := congrArg _root_.id rfl
theorem takeG_some {ops : Array Oper} {o : Oper} {K : AS → Prop} {q : Prop × AV} {c : Bool} : takeG ops o s K q (some c) = ((c = true → q.1) ∧ K (s.put o.dst (mkG c q.2))) := congrArg _root_.id rfl
theorem takeN_none {ops : Array Oper} {o : Oper} {K : AS → Prop} {q : Prop × AV} : takeN ops o s K q none = (q.1 ∧ K (s.put o.dst q.2)) := congrArg _root_.id rfl
theorem takeN_some {ops : Array Oper} {o : Oper} {K : AS → Prop} {q : Prop × AV} {g : Nat × Bool} : takeN ops o s K q (some g) = takeG ops o s K q (guardV ops s g.1 g.2) := congrArg _root_.id rfl
theorem takeV_some {ops : Array Oper} {o : Oper} {K : AS → Prop} {q : Prop × AV} : takeV ops o s K (some q) = takeN ops o s K q o.guard := congrArg _root_.id rfl
theorem takeP_eq {ro : List Nat} {ops : Array Oper} {o : Oper} {K : AS → Prop} : takeP P ro ops o s K = takeV ops o s K (pureV P (fun k => ro.contains k) s o.op) := by
  unfold takeP
  cases hq : pureV P (fun k => ro.contains k) s o.op with
  | none =>
    simp only [takeV]
    cases hg : o.guard with
    | none => rfl
    | some g =>
      obtain ⟨j, want⟩ := g
      simp only [takeU]
      cases guardV ops s j want <;> rfl
  | some q =>
    simp only [takeV]
    cases hg : o.guard with
    | none => rfl
    | some g =>
      obtain ⟨j, want⟩ := g
      simp only [takeN]
      cases guardV ops s j want <;> rfl
def takeO (P : Program) (ro : List Nat) (ops : Array Oper) (s : AS) (K : AS → Prop) : Option Oper → Prop
  | some o => takeP P ro ops o s K
  | none => False
def altO (P : Program) (U : List Nat) (ho : Nat → Bool) (ops : Array Oper) (s : AS) (K : AS → Prop) : Option Oper → Prop
  | some o => ∀ E : Env, stepP P ⟨E.w0, E.L, E.F0, E.G0, lens s.h, allSt, ho, E.mks⟩ ops o s (altK U s K)
  | none => False
theorem takeO_some {ro : List Nat} {ops : Array Oper} {o : Oper} {K : AS → Prop} : takeO P ro ops s K (some o) = takeP P ro ops o s K := congrArg _root_.id rfl
theorem altO_some {U : List Nat} {ho : Nat → Bool} {ops : Array Oper} {o : Oper} {K : AS → Prop} : altO P U ho ops s K (some o) = (∀ E : Env, stepP P ⟨E.w0, E.L, E.F0, E.G0, lens s.h, allSt, ho, E.mks⟩ ops o s (altK U s K)) := congrArg _root_.id rfl
theorem runE_take {ho0 : Nat → Bool} {ops : Array Oper} {U : List Nat} {wr : List (Nat × List Nat)} {K : AS → Prop} {i : Nat} {p : Plan} : runE P ops U wr ho0 (.take i p) K s = takeO P (roOf ops U wr i) ops s (runE P ops U wr ho0 p K) ops[i]? := by
  show runD P ops U wr ho0 (.take i p) s K = _
  unfold runD takeO
  rfl
theorem runE_alt {ho0 : Nat → Bool} {ops : Array Oper} {U : List Nat} {wr : List (Nat × List Nat)} {K : AS → Prop} {i : Nat} {p q : Plan} : runE P ops U wr ho0 (.alt i p q) K s = (altO P U (fun k => (holdOf U wr i).contains k || ho0 k) ops s (runE P ops U wr ho0 p K) ops[i]? ∧ runE P ops U wr ho0 q K s) := by
  show runD P ops U wr ho0 (.alt i p q) s K = _
  unfold runD altO
  rfl
theorem draw_k {ops : Array Oper} (hE : E.ho = noHo) {K : AS → Prop} (p : Plan) (U : List Nat) (wr : List (Nat × List Nat)) (hok : (Region.noSelect ops && noDefer ops && planOk ops true p (Array.replicate ops.size false) && decide (depth p ≤ ops.size)) = true) (hU : ∀ k ∈ U, k < s.h.length) (h : runE P ops U wr noHo p K s) : DrawG P E ops s K := draw_of hE p U wr hok hU h
/-- .. where blocks are held -/
theorem draw_h {ops : Array Oper} (ho0 : Nat → Bool) (hE : E.ho = ho0) {K : AS → Prop} (p : Plan) (U : List Nat) (wr : List (Nat × List Nat)) (hok : (Region.noSelect ops && noDefer ops && planOk ops true p (Array.replicate ops.size false) && decide (depth p ≤ ops.size)) = true) (hU : ∀ k ∈ U, k < s.h.length) (h : runE P ops U wr ho0 p K s) : DrawG P E ops s K := draw_of hE p U wr hok hU h
theorem isCell_c (v : Value) : isCell (.c v) = v.oneCell' := rfl
theorem isCell_ptr (h o m : Nat) : isCell (.ptr h o m) = true := rfl
theorem isCell_sl (h z o n m : Nat) : isCell (.sl h z o n m) = true := rfl
theorem isCell_fs (z n : Nat) (l : List AV) : isCell (.fs z n l) = true := rfl
theorem isCell_fp (l : List AV) : isCell (.fp l) = true := rfl
theorem isCell_clo (f : Fn) (l k : List AV) : isCell (.clo f l k) = true := rfl
@[simp] theorem isD_c (v : Value) : isD (.c v) = true := rfl
theorem st_lt (n k : Nat) : ∀ i, i < k → decide (i < n) = true → (List.range n)[i]? = some i := by
  intro i _ h
  rw [List.getElem?_range (by simpa using h)]
theorem roundK_exit {X : Type} {st : X → AS} {μ : X → Nat} {Inv : X → Prop} {x : X} {Q : Exit → AS → Prop} {i : Nat} : roundK E st μ Inv x Q (.exit i) s = Q (.exit i) s := congrArg _root_.id rfl
theorem roundK_ret {X : Type} {st : X → AS} {μ : X → Nat} {Inv : X → Prop} {x : X} {Q : Exit → AS → Prop} : roundK E st μ Inv x Q .ret s = Q .ret s := congrArg _root_.id rfl
theorem roundK_goto {X : Type} {st : X → AS} {μ : X → Nat} {Inv : X → Prop} {x : X} {Q : Exit → AS → Prop} {i : Nat} : roundK E st μ Inv x Q (.goto i) s = Q (.goto i) s := congrArg _root_.id rfl
theorem round_next {X : Type} {st : X → AS} {μ : X → Nat} {Inv : X → Prop} {x : X} {Q : Exit → AS → Prop} (x' : X) (h1 : Inv x') (h2 : μ x' < μ x) (h3 : Wk E s (st x')) : roundK E st μ Inv x Q .normal s := ⟨x', h1, h2, h3⟩
theorem st_pre (n : Nat) (l : List Nat) (k : Nat) : ∀ i, i < k → decide (i < n) = true → (List.range n ++ l)[i]? = some i := by
  intro i _ h
  have h : i < n := by simpa using h
  rw [List.getElem?_append_left (by simpa using h), List.getElem?_range h]
def slotsOf (n : Nat) (l : List (Nat × AV)) : List AV := l.foldl (fun t p => t.set p.1 p.2) (anyS n)
theorem rowZ_zero (z : List Value) : rowZ 0 z = [] := by simp [rowZ]
theorem rowZ_succ (n : Nat) (z : List Value) : rowZ (n + 1) z = z.map AV.c ++ rowZ n z := by simp [rowZ, List.replicate_succ]
theorem rowZ_one (z : List Value) : rowZ 1 z = z.map .c := by simp [rowZ]
theorem rowZ_2 (z : List Value) : rowZ 2 z = z.map AV.c ++ rowZ 1 z := rowZ_succ 1 z
theorem rowZ_3 (z : List Value) : rowZ 3 z = z.map AV.c ++ rowZ 2 z := rowZ_succ 2 z
theorem rowZ_4 (z : List Value) : rowZ 4 z = z.map AV.c ++ rowZ 3 z := rowZ_succ 3 z
theorem rowZ_5 (z : List Value) : rowZ 5 z = z.map AV.c ++ rowZ 4 z := rowZ_succ 4 z
theorem rowZ_6 (z : List Value) : rowZ 6 z = z.map AV.c ++ rowZ 5 z := rowZ_succ 5 z
theorem rowZ_7 (z : List Value) : rowZ 7 z = z.map AV.c ++ rowZ 6 z := rowZ_succ 6 z
theorem rowZ_8 (z : List Value) : rowZ 8 z = z.map AV.c ++ rowZ 7 z := rowZ_succ 7 z
theorem rowZ_9 (z : List Value) : rowZ 9 z = z.map AV.c ++ rowZ 8 z := rowZ_succ 8 z
theorem rowZ_10 (z : List Value) : rowZ 10 z = z.map AV.c ++ rowZ 9 z := rowZ_succ 9 z
theorem rowZ_11 (z : List Value) : rowZ 11 z = z.map AV.c ++ rowZ 10 z := rowZ_succ 10 z
theorem rowZ_12 (z : List Value) : rowZ 12 z = z.map AV.c ++ rowZ 11 z := rowZ_succ 11 z
def Ret (st : Nat → Bool) (Post : AV → List AObj → Prop) (h : List AObj) (r : AV) : Prop := ∃ h' r', Clean st h r h' r' ∧ Post r' h'
theorem RetP_eq {st : Nat → Bool} {rs : List ResultVar} {Post : AV → List AObj → Prop} : RetP P st rs Post s = (match resV P s rs with | some q => q.1 ∧ Ret st Post s.h (oneV q.2) | none => False) := rfl
theorem acallsC (cut : List Nat) {f : FuncId} {fn : Func} {c : Code} {args : List AV} {h : List AObj} {st : Nat → Bool} {Post : AV → List AObj → Prop} {rs : List ResultVar} {n : Nat} (hm : P.follows .mixedOrders = true) (hf : P.funcs[f]? = some fn) (hb : fn.body = some c) (hn : fn.ntmps = n) (hrs : fn.results.toList = rs)
    (H : ∀ E, E.ln0 = lens h → E.st = st → E.ho = noHo → runK P E cut c [] (retK P st rs Post) ⟨args ++ anyS (n - args.length), h⟩) : ACalls P f args h st Post := acalls_of_run hm hf hb hn hrs H
theorem acalls {f : FuncId} {fn : Func} {c : Code} {args : List AV} {h : List AObj} {st : Nat → Bool} {Post : AV → List AObj → Prop} {rs : List ResultVar} {n : Nat} (hm : P.follows .mixedOrders = true) (hf : P.funcs[f]? = some fn) (hb : fn.body = some c) (hn : fn.ntmps = n) (hrs : fn.results.toList = rs)
    (H : ∀ E, E.ln0 = lens h → E.st = st → E.ho = noHo → runK P E [] c [] (retK P st rs Post) ⟨args ++ anyS (n - args.length), h⟩) : ACalls P f args h st Post := acallsC [] hm hf hb hn hrs H
theorem acallsMC (cut : List Nat) {f : FuncId} {fn : Func} {c : Code} {args : List AV} {h : List AObj} {st : Nat → Bool} {Post : AV → List AObj → Prop} {rs : List ResultVar} {n : Nat} (hm : P.follows .mixedOrders = true) (hf : P.funcs[f]? = some fn) (hb : fn.body = some c) (hn : fn.ntmps = n) (hrs : fn.results.toList = rs)
    (H : ∀ E, E.ln0 = lens h → E.st = st → E.ho = noHo → (∀ D, E.w0.heap.size ≤ D → E.mks D) → runK P E cut c [] (retK P st rs Post) ⟨args ++ anyS (n - args.length), h⟩) : ACalls P f args h st Post := acalls_of_runM hm hf hb hn hrs H
theorem acallsM {f : FuncId} {fn : Func} {c : Code} {args : List AV} {h : List AObj} {st : Nat → Bool} {Post : AV → List AObj → Prop} {rs : List ResultVar} {n : Nat} (hm : P.follows .mixedOrders = true) (hf : P.funcs[f]? = some fn) (hb : fn.body = some c) (hn : fn.ntmps = n) (hrs : fn.results.toList = rs)
    (H : ∀ E, E.ln0 = lens h → E.st = st → E.ho = noHo → (∀ D, E.w0.heap.size ≤ D → E.mks D) → runK P E [] c [] (retK P st rs Post) ⟨args ++ anyS (n - args.length), h⟩) : ACalls P f args h st Post := acallsMC [] hm hf hb hn hrs H
theorem loop_kc (cut : List Nat) (hm : P.follows .mixedOrders = true) {X : Type} {b : Code} {Q : Exit → AS → Prop} (st : X → AS) (μ : X → Nat) (Inv : X → Prop) (x0 : X) (h0 : Inv x0) (hw : Wk E s (st x0)) (round : ∀ x, Inv x → runK P E cut b [] (roundK E st μ Inv x Q) (st x)) : LoopG P E b s Q := loop_of hm st μ Inv x0 h0 hw round
theorem loop_k (hm : P.follows .mixedOrders = true) {X : Type} {b : Code} {Q : Exit → AS → Prop} (st : X → AS) (μ : X → Nat) (Inv : X → Prop) (x0 : X) (h0 : Inv x0) (hw : Wk E s (st x0)) (round : ∀ x, Inv x → runK P E [] b [] (roundK E st μ Inv x Q) (st x)) : LoopG P E b s Q := loop_kc [] hm st μ Inv x0 h0 hw round
/-- how a loop is left by its own exit: in states of one form, told by y -/
def exitK (E : Env) {Y : Type} (fs : Y → AS) (FI : Y → Prop) (ex : Nat) (Q : Exit → AS → Prop) : Exit → AS → Prop
  | .exit i, s => if i = ex then ∃ y, FI y ∧ Wk E s (fs y) else Q (.exit i) s
  | e, s => Q e s
theorem exit_to {Y : Type} {fs : Y → AS} {FI : Y → Prop} {ex : Nat} {Q : Exit → AS → Prop} (y : Y) (h1 : FI y) (h2 : Wk E s (fs y)) : exitK E fs FI ex Q (.exit ex) s := by
  show (if ex = ex then ∃ y, FI y ∧ Wk E s (fs y) else Q (.exit ex) s)
  rw [if_pos rfl]; exact ⟨y, h1, h2⟩
theorem exitK_ret {Y : Type} {fs : Y → AS} {FI : Y → Prop} {ex : Nat} {Q : Exit → AS → Prop} : exitK E fs FI ex Q .ret s = Q .ret s := congrArg _root_.id rfl
theorem LoopG_cut {b : Code} {Q : Exit → AS → Prop} {Y : Type} {fs : Y → AS} {FI : Y → Prop} {ex : Nat} (tail : ∀ y, FI y → Q (.exit ex) (fs y)) (h : LoopG P E b s (exitK E fs FI ex Q)) : LoopG P E b s Q := by
  intro a w hs
  refine Code.wp_mono (fun e a' w' ⟨hp, s', h1, h2⟩ => ?_) (h a w hs)
  refine ⟨hp, ?_⟩
  cases e with
  | exit i =>
    unfold exitK at h2
    simp only at h2
    split at h2
    · rename_i hi
      obtain ⟨y, hy, hw⟩ := h2
      subst hi
      exact ⟨fs y, hw a' w' h1, tail y hy⟩
    · exact ⟨s', h1, h2⟩
  | _ => exact ⟨s', h1, h2⟩
theorem loop_k2c (cut : List Nat) (hm : P.follows .mixedOrders = true) {X Y : Type} {b : Code} {Q : Exit → AS → Prop} (st : X → AS) (μ : X → Nat) (Inv : X → Prop) (x0 : X) (fs : Y → AS) (FI : Y → Prop) (ex : Nat) (h0 : Inv x0) (hw : Wk E s (st x0)) (tail : ∀ y, FI y → Q (.exit ex) (fs y)) (round : ∀ x, Inv x → runK P E cut b [] (roundK E st μ Inv x (exitK E fs FI ex Q)) (st x)) : LoopG P E b s Q :=
  LoopG_cut tail (loop_kc cut hm st μ Inv x0 h0 hw round)
theorem loop_k2 (hm : P.follows .mixedOrders = true) {X Y : Type} {b : Code} {Q : Exit → AS → Prop} (st : X → AS) (μ : X → Nat) (Inv : X → Prop) (x0 : X) (fs : Y → AS) (FI : Y → Prop) (ex : Nat) (h0 : Inv x0) (hw : Wk E s (st x0)) (tail : ∀ y, FI y → Q (.exit ex) (fs y)) (round : ∀ x, Inv x → runK P E [] b [] (roundK E st μ Inv x (exitK E fs FI ex Q)) (st x)) : LoopG P E b s Q := loop_k2c [] hm st μ Inv x0 fs FI ex h0 hw tail round
/-- a call that borrows these blocks and whose answer is known -/
theorem call_x {g : FuncId} {args : List AV} {K : AV → AS → Prop} (lent : List Nat) {cargs : List AV} {ch : List AObj} {st : Nat → Bool} {r : AV} {h' : List AObj} {pa po : Prop} {cargs' : List AV} {ch' : List AObj} (hc : ACalls P g cargs' ch' st (fun a b => a = r ∧ b = h'))
    (ha : AV.convL lent (fun _ => false) s.h args = some (pa, cargs)) (ho : convOs lent (fun _ => false) s.h lent = some (po, ch)) (hx : cargs = cargs' ∧ ch = ch') (hE : E.ho = noHo) (hst : ∀ i, i < lent.length → st i = true) (hn : lent.Nodup) (hp : pa ∧ po) (hl : lent.length ≤ h'.length)
    (hK : K (r.reb (backIx lent s.h.length)) ⟨s.t, afterH lent (fun _ => false) s.h h'⟩) : CallG P E g args s K := by
  obtain ⟨rfl, rfl⟩ := hx
  have hd1 : ∀ v : AV, v.liv [] = true := by
    intro v
    refine AV.rec (motive_1 := fun v => v.liv [] = true) (motive_2 := fun l => AV.livL [] l = true) ?_ ?_ ?_ ?_ ?_ ?_ ?_ ?_ ?_ ?_ ?_ ?_ ?_ ?_ v <;> simp_all [AV.liv, AV.livL]
  have hd2 : ∀ l : List AV, AV.livL [] l = true := by
    intro l
    induction l with
    | nil => simp [AV.livL]
    | cons v l ih => simp [AV.livL, hd1 v, ih]
  have hd3 : ∀ (h : List AObj) (n : Nat), livH [] lent n h = true := by
    intro h
    induction h with
    | nil => intro n; simp [livH]
    | cons o h ih =>
      intro n
      simp only [livH, ih, Bool.and_true, Bool.or_eq_true]
      right
      cases o with
      | raw _ => rfl
      | o k cs => cases k <;> simp [livO, hd2]
  exact call_of lent (fun _ => false) [] hc ha hp.1 ho hp.2 hn (fun _ _ => rfl) (fun i k h => .inl (hst i (List.getElem?_eq_some_iff.1 h).1)) (hd2 _) (hd3 _ _) (fun k h => by cases h) (fun k _ => by rw [hE]; rfl) (fun k h => by cases h) fun a b ⟨e1, e2⟩ => by subst e1 e2; exact ⟨hl, hK⟩
/-- .. and to which other blocks (ok) are handed as data, that stay so -/
theorem call_f {g : FuncId} {args : List AV} {K : AV → AS → Prop} (lent : List Nat) (ok : Nat → Bool) {cargs : List AV} {ch : List AObj} {st : Nat → Bool} {r : AV} {h' : List AObj} {pa po : Prop} {cargs' : List AV} {ch' : List AObj} (hc : ACalls P g cargs' ch' st (fun a b => a = r ∧ b = h'))
    (ha : AV.convL lent ok s.h args = some (pa, cargs)) (ho : convOs lent ok s.h lent = some (po, ch)) (hx : cargs = cargs' ∧ ch = ch') (hE : E.ho = noHo) (hst : ∀ i, i < lent.length → st i = true) (hn : lent.Nodup) (hok : ∀ k ∈ lent, ok k = false) (hp : pa ∧ po) (hl : lent.length ≤ h'.length)
    (hK : K (r.reb (backIx lent s.h.length)) ⟨s.t, afterH lent ok s.h h'⟩) : CallG P E g args s K := by
  obtain ⟨rfl, rfl⟩ := hx
  have hd1 : ∀ v : AV, v.liv [] = true := by
    intro v
    refine AV.rec (motive_1 := fun v => v.liv [] = true) (motive_2 := fun l => AV.livL [] l = true) ?_ ?_ ?_ ?_ ?_ ?_ ?_ ?_ ?_ ?_ ?_ ?_ ?_ ?_ v <;> simp_all [AV.liv, AV.livL]
  have hd2 : ∀ l : List AV, AV.livL [] l = true := by
    intro l
    induction l with
    | nil => simp [AV.livL]
    | cons v l ih => simp [AV.livL, hd1 v, ih]
  have hd3 : ∀ (h : List AObj) (n : Nat), livH [] lent n h = true := by
    intro h
    induction h with
    | nil => intro n; simp [livH]
    | cons o h ih =>
      intro n
      simp only [livH, ih, Bool.and_true, Bool.or_eq_true]
      right
      cases o with
      | raw _ => rfl
      | o k cs => cases k <;> simp [livO, hd2]
  exact call_of lent ok [] hc ha hp.1 ho hp.2 hn hok (fun i k h => .inl (hst i (List.getElem?_eq_some_iff.1 h).1)) (hd2 _) (hd3 _ _) (fun k h => by cases h) (fun k _ => by rw [hE]; rfl) (fun k _ => by rw [hE]; rfl) fun a b ⟨e1, e2⟩ => by subst e1 e2; exact ⟨hl, hK⟩
/-- .. after which some of the handles (dead) are no more what they were: no slot and no other block names them -/
theorem call_d {g : FuncId} {args : List AV} {K : AV → AS → Prop} (lent : List Nat) (ok : Nat → Bool) (dead : List Nat) {cargs : List AV} {ch : List AObj} {st : Nat → Bool} {r : AV} {h' : List AObj} {pa po : Prop} {cargs' : List AV} {ch' : List AObj} (hc : ACalls P g cargs' ch' st (fun a b => a = r ∧ b = h'))
    (ha : AV.convL lent ok s.h args = some (pa, cargs)) (ho : convOs lent ok s.h lent = some (po, ch)) (hx : cargs = cargs' ∧ ch = ch') (hE : E.ho = noHo) (hst : ∀ (i k : Nat), lent[i]? = some k → st i = true ∨ k ∈ dead) (hdt : AV.livL dead s.t = true) (hdo : livH dead lent 0 s.h = true) (hde : ∀ k ∈ dead, E.st k = false ∨ E.ln0.length ≤ k)
    (hn : lent.Nodup) (hok : ∀ k ∈ lent, ok k = false) (hp : pa ∧ po) (hl : lent.length ≤ h'.length) (hK : K (r.reb (backIx lent s.h.length)) ⟨s.t, afterH lent ok s.h h'⟩) : CallG P E g args s K := by
  obtain ⟨rfl, rfl⟩ := hx
  exact call_of lent ok dead hc ha hp.1 ho hp.2 hn hok hst hdt hdo hde (fun k _ => by rw [hE]; rfl) (fun k _ => by rw [hE]; rfl) fun a b ⟨e1, e2⟩ => by subst e1 e2; exact ⟨hl, hK⟩
/-- as call_x, where blocks are held -/
theorem call_h {g : FuncId} {args : List AV} {K : AV → AS → Prop} (lent : List Nat) {cargs : List AV} {ch : List AObj} {st : Nat → Bool} {r : AV} {h' : List AObj} {pa po : Prop} {cargs' : List AV} {ch' : List AObj} (hc : ACalls P g cargs' ch' st (fun a b => a = r ∧ b = h'))
    (ha : AV.convL lent (fun _ => false) s.h args = some (pa, cargs)) (ho : convOs lent (fun _ => false) s.h lent = some (po, ch)) (hx : cargs = cargs' ∧ ch = ch') (hE : ∀ k ∈ lent, E.ho k = false) (hst : ∀ i, i < lent.length → st i = true) (hn : lent.Nodup) (hp : pa ∧ po) (hl : lent.length ≤ h'.length)
    (hK : K (r.reb (backIx lent s.h.length)) ⟨s.t, afterH lent (fun _ => false) s.h h'⟩) : CallG P E g args s K := by
  obtain ⟨rfl, rfl⟩ := hx
  have hd1 : ∀ v : AV, v.liv [] = true := by
    intro v
    refine AV.rec (motive_1 := fun v => v.liv [] = true) (motive_2 := fun l => AV.livL [] l = true) ?_ ?_ ?_ ?_ ?_ ?_ ?_ ?_ ?_ ?_ ?_ ?_ ?_ ?_ v <;> simp_all [AV.liv, AV.livL]
  have hd2 : ∀ l : List AV, AV.livL [] l = true := by
    intro l
    induction l with
    | nil => simp [AV.livL]
    | cons v l ih => simp [AV.livL, hd1 v, ih]
  have hd3 : ∀ (h : List AObj) (n : Nat), livH [] lent n h = true := by
    intro h
    induction h with
    | nil => intro n; simp [livH]
    | cons o h ih =>
      intro n
      simp only [livH, ih, Bool.and_true, Bool.or_eq_true]
      right
      cases o with
      | raw _ => rfl
      | o k cs => cases k <;> simp [livO, hd2]
  exact call_of lent (fun _ => false) [] hc ha hp.1 ho hp.2 hn (fun _ _ => rfl) (fun i k h => .inl (hst i (List.getElem?_eq_some_iff.1 h).1)) (hd2 _) (hd3 _ _) (fun k h => by cases h) hE (fun k h => by cases h) fun a b ⟨e1, e2⟩ => by subst e1 e2; exact ⟨hl, hK⟩
theorem Ret.same {st : Nat → Bool} {h : List AObj} {r : AV} {Post : AV → List AObj → Prop} (hp : Post r h) : Ret st Post h r := ret_same hp
theorem Ret.drop {h : List AObj} {r : AV} {Post : AV → List AObj → Prop} (hpl : plainV r = true) (hp : Post r []) : Ret (fun _ => false) Post h r := ret_drop hpl hp
theorem call_0 {g : FuncId} {args : List AV} {K : AV → AS → Prop} {cargs : List AV} {st : Nat → Bool} {r : AV} {h' : List AObj} {pa : Prop} {cargs' : List AV} (hc : ACalls P g cargs' [] st (fun a b => a = r ∧ b = h'))
    (ha : AV.convL [] (fun _ => false) s.h args = some (pa, cargs)) (hx : cargs = cargs') (hE : E.ho = noHo) (hp : pa) (hK : K (r.reb (backIx [] s.h.length)) ⟨s.t, afterH [] (fun _ => false) s.h h'⟩) : CallG P E g args s K :=
  call_x [] hc ha rfl ⟨hx, rfl⟩ hE (fun i h => by simp at h) List.nodup_nil ⟨hp, trivial⟩ (Nat.zero_le _) hK
theorem Ret.wk {st : Nat → Bool} {h h2 : List AObj} {r r2 : AV} {Post : AV → List AObj → Prop} (hw : ∀ E : Env, E.ln0 = lens h → Wk E ⟨[r], h⟩ ⟨[r2], h2⟩) (hr : Ret st Post h2 r2) : Ret st Post h r := let ⟨h', r', hc, hp⟩ := hr; ⟨h', r', hc.wk hw, hp⟩
theorem Ret.sel {h h' : List AObj} {r r' : AV} {st : Nat → Bool} {Post : AV → List AObj → Prop} (keep : List Nat) (ok : Nat → Bool) {po pa : Prop} (ho : convOs keep ok h keep = some (po, h')) (ha : AV.conv keep ok h r = some (pa, r')) (hpo : po) (hpa : pa) (hn : keep.Nodup) (hok : ∀ k ∈ keep, ok k = false)
    (hst : ∀ i, i < h.length → st i = true → keep[i]? = some i) (hp : Post r' h') : Ret st Post h r := ret_sel keep ok ho ha hpo hpa hn hok hst hp
end
end Go.Proofs.Ytmgpiminicgbiaa
