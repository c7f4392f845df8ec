import Derived.Test.YtmgpiminicgbiaaMem2
namespace Go.Proofs.Ytmgpiminicgbiaa
set_option linter.unusedVariables false
set_option linter.unusedSimpArgs false
open Go.RowKit

/-! ## An abstract walker: states whose slots and blocks are described, not computed -/
/-- What a slot or a cell holds, as far as it is known. -/
inductive AV where
  | any
  | c (v : Value)
  | ptr (h off m : Nat)
  | sl (h sz off n m : Nat)
  | fs (sz n : Nat) (l : List AV)
  | fp (l : List AV)
  | agg (l : List AV)
  | tup (l : List AV)
  | clo (f : Fn) (first caps : List AV)
  | g (b want : Bool) (v : AV)
instance : Inhabited AV := ⟨.any⟩
inductive AKind where
  | box
  | row (e sz : Nat)
  | fz
/-- A block of the call's own (or one that was lent to it). -/
inductive AObj where
  | o (k : AKind) (cells : List AV)
  | it (s : ByteArray) (pos : Nat)
structure Gh where
  σ : Nat → Nat
  bs : Nat → Nat
  vir : Nat → Bool
structure AS where
  t : List AV
  h : List AObj
def lnO : AObj → Nat
  | .o _ cs => cs.length
  | .it _ _ => 0
def lens (h : List AObj) : List Nat := h.map lnO

/-- Data that stays: readable in blocks of F alone. -/
inductive RepD (F : Nat → Prop) (w : World) : AV → Value → Prop
  | c (v : Value) : RepD F w (.c v) v
  | fs0 (sz : Nat) (A : Option Addr) (c : Nat) : c ≤ maxLen → RepD F w (.fs sz 0 []) (.slice A 0 c)
  | fs (sz n b o c : Nat) (l : List AV) (f : Nat → Value) : 0 < n → n ≤ c → c ≤ maxLen → l.length = n * sz → F b →
      (∀ j, j < l.length → w.cell? ⟨b, o + j, none⟩ = some (f j)) → (∀ (j : Nat) (u : AV), l[j]? = some u → RepD F w u (f j)) → RepD F w (.fs sz n l) (.slice (some ⟨b, o, none⟩) n c)

inductive RepV (G : Gh) (ln : List Nat) (F : Nat → Prop) (w : World) : AV → Value → Prop
  | any (v : Value) : RepV G ln F w .any v
  | d (av : AV) (v : Value) : RepD F w av v → RepV G ln F w av v
  | ptr (h off m : Nat) : ln[h]? = some m → G.vir h = false → RepV G ln F w (.ptr h off m) (.pointer (some ⟨G.σ h, off, none⟩))
  | ptrOld (h off m m' : Nat) (p : Option Addr) : ln[h]? = some m' → m < m' → RepV G ln F w (.ptr h off m) (.pointer p)
  | sl (h sz off n m c : Nat) : ln[h]? = some m → G.vir h = false → n ≤ c → c ≤ maxLen → off + c * sz ≤ G.bs h → RepV G ln F w (.sl h sz off n m) (.slice (some ⟨G.σ h, off, none⟩) n c)
  | slNil (h sz : Nat) : ln[h]? = some 0 → G.vir h = true → RepV G ln F w (.sl h sz 0 0 0) (.slice none 0 0)
  | slOld (h sz off n m m' : Nat) (A : Option Addr) (l c : Nat) : ln[h]? = some m' → m < m' → RepV G ln F w (.sl h sz off n m) (.slice A l c)
  | fp (l : List AV) (b o : Nat) (f : Nat → Value) : F b → (∀ j, j < l.length → w.cell? ⟨b, o + j, none⟩ = some (f j)) → (∀ (j : Nat) (u : AV), l[j]? = some u → RepD F w u (f j)) → RepV G ln F w (.fp l) (.pointer (some ⟨b, o, none⟩))
  | agg (l : List AV) (cs : Array Value) : l.length = cs.size → (∀ (j : Nat) (u : AV) (x : Value), l[j]? = some u → cs[j]? = some x → RepV G ln F w u x) → RepV G ln F w (.agg l) (.agg cs)
  | tup (l : List AV) (cs : Array Value) : l.length = cs.size → (∀ (j : Nat) (u : AV) (x : Value), l[j]? = some u → cs[j]? = some x → RepV G ln F w u x) → RepV G ln F w (.tup l) (.tuple cs)
  | clo (f : Fn) (l k : List AV) (cs ds : Array Value) : l.length = cs.size → k.length = ds.size → (∀ (j : Nat) (u : AV) (x : Value), l[j]? = some u → cs[j]? = some x → RepV G ln F w u x) →
      (∀ (j : Nat) (u : AV) (x : Value), k[j]? = some u → ds[j]? = some x → RepV G ln F w u x) → RepV G ln F w (.clo f l k) (.func f cs ds)
  | g (b want : Bool) (u : AV) (v : Value) : (b = want → RepV G ln F w u v) → (b ≠ want → v = undef) → RepV G ln F w (.g b want u) v

theorem RepD.keep {F F' : Nat → Prop} {w w' : World} (hF : ∀ b, F b → F' b) (hw : ∀ b, F b → w'.heap[b]? = w.heap[b]?) : ∀ {av v}, RepD F w av v → RepD F' w' av v := by
  intro av v h
  induction h with
  | c v => exact .c v
  | fs0 sz A c h => exact .fs0 sz A c h
  | fs sz n b o c l f h1 h2 h3 h4 h5 h6 _ ih => exact .fs sz n b o c l f h1 h2 h3 h4 (hF b h5) (fun j hj => by rw [World.cell?_of_block (a := ⟨b, o + j, none⟩) (hw b h5)]; exact h6 j hj) ih

/-- How the handles may have turned from one state to the next. -/
def Later (G G' : Gh) (ln ln' : List Nat) : Prop :=
  ∀ (k m : Nat), ln[k]? = some m → (ln'[k]? = some m ∧ G'.σ k = G.σ k ∧ G'.bs k = G.bs k ∧ G'.vir k = G.vir k) ∨ ∃ m', ln'[k]? = some m' ∧ m < m'
theorem Later.refl (G : Gh) (ln : List Nat) : Later G G ln ln := fun _ _ h => .inl ⟨h, rfl, rfl, rfl⟩
theorem Later.trans {G G' G'' : Gh} {l l' l'' : List Nat} (h : Later G G' l l') (k : Later G' G'' l' l'') : Later G G'' l l'' := by
  intro j m hj
  rcases h j m hj with ⟨e1, e2, e3, e4⟩ | ⟨m', e1, e2⟩
  · rcases k j m e1 with ⟨f1, f2, f3, f4⟩ | ⟨m', f1, f2⟩
    · exact .inl ⟨f1, f2.trans e2, f3.trans e3, f4.trans e4⟩
    · exact .inr ⟨m', f1, f2⟩
  · rcases k j m' e1 with ⟨f1, _⟩ | ⟨m'', f1, f2⟩
    · exact .inr ⟨m', f1, e2⟩
    · exact .inr ⟨m'', f1, Nat.lt_trans e2 f2⟩
/-- these handles are where they were, or their rows have grown -/
def Same (st : Nat → Bool) (G G' : Gh) (ln ln' : List Nat) : Prop := ∀ (k m : Nat), st k = true → ln[k]? = some m → (ln'[k]? = some m ∧ G'.σ k = G.σ k ∧ G'.bs k = G.bs k ∧ G'.vir k = G.vir k) ∨ ∃ m', ln'[k]? = some m' ∧ m < m'
theorem Same.trans {st : Nat → Bool} {G G' G'' : Gh} {l l' l'' : List Nat} (h : Same st G G' l l') (k : Same st G' G'' l' l'') : Same st G G'' l l'' := by
  intro j m hs hj
  rcases h j m hs hj with ⟨e1, e2, e3, e4⟩ | ⟨m', e1, e2⟩
  · rcases k j m hs e1 with ⟨f1, f2, f3, f4⟩ | ⟨m', f1, f2⟩
    · exact .inl ⟨f1, f2.trans e2, f3.trans e3, f4.trans e4⟩
    · exact .inr ⟨m', f1, f2⟩
  · rcases k j m' hs e1 with ⟨f1, _⟩ | ⟨m'', f1, f2⟩
    · exact .inr ⟨m', f1, e2⟩
    · exact .inr ⟨m'', f1, Nat.lt_trans e2 f2⟩
theorem Later.same {G G' : Gh} {l l' : List Nat} (h : Later G G' l l') (st : Nat → Bool) : Same st G G' l l' := fun k m _ hm => h k m hm
theorem RepV.keep {G G' : Gh} {ln ln' : List Nat} {F F' : Nat → Prop} {w w' : World} (hl : Later G G' ln ln') (hF : ∀ b, F b → F' b) (hw : ∀ b, F b → w'.heap[b]? = w.heap[b]?) :
    ∀ {av v}, RepV G ln F w av v → RepV G' ln' F' w' av v := by
  intro av v h
  induction h with
  | any v => exact .any v
  | d av v h => exact .d _ _ (h.keep hF hw)
  | ptr h off m h1 h2 =>
    rcases hl _ _ h1 with ⟨e1, e2, e3, e4⟩ | ⟨m', e1, e2⟩
    · rw [← e2]; exact .ptr h off m e1 (e4.trans h2)
    · exact .ptrOld h off m m' _ e1 e2
  | ptrOld h off m m' p h1 h2 =>
    rcases hl _ _ h1 with ⟨e1, _⟩ | ⟨m'', e1, e2⟩
    · exact .ptrOld h off m m' p e1 h2
    · exact .ptrOld h off m m'' p e1 (Nat.lt_trans h2 e2)
  | sl h sz off n m c h1 h2 h3 h4 h5 =>
    rcases hl _ _ h1 with ⟨e1, e2, e3, e4⟩ | ⟨m', e1, e2⟩
    · rw [← e2]; exact .sl h sz off n m c e1 (e4.trans h2) h3 h4 (e3.symm ▸ h5)
    · exact .slOld h sz off n m m' _ _ _ e1 e2
  | slNil h sz h1 h2 =>
    rcases hl _ _ h1 with ⟨e1, e2, e3, e4⟩ | ⟨m', e1, e2⟩
    · exact .slNil h sz e1 (e4.trans h2)
    · exact .slOld h sz 0 0 0 m' _ _ _ e1 e2
  | slOld h sz off n m m' A l c h1 h2 =>
    rcases hl _ _ h1 with ⟨e1, _⟩ | ⟨m'', e1, e2⟩
    · exact .slOld h sz off n m m' A l c e1 h2
    · exact .slOld h sz off n m m'' A l c e1 (Nat.lt_trans h2 e2)
  | fp l b o f h1 h2 h3 => exact .fp l b o f (hF b h1) (fun j hj => by rw [World.cell?_of_block (a := ⟨b, o + j, none⟩) (hw b h1)]; exact h2 j hj) fun j u hu => (h3 j u hu).keep hF hw
  | agg l cs h1 _ ih => exact .agg l cs h1 ih
  | tup l cs h1 _ ih => exact .tup l cs h1 ih
  | clo f l k cs ds h1 h2 _ _ ih1 ih2 => exact .clo f l k cs ds h1 h2 ih1 ih2
  | g b want u v _ h ih => exact .g b want u v ih h

def CRel (G : Gh) (ln : List Nat) (F : Nat → Prop) (w : World) (cs : List AV) (cur : Array Value) : Prop :=
  ∀ (j : Nat) (av : AV), cs[j]? = some av → ∃ x, cur[j]? = some x ∧ RepV G ln F w av x
theorem CRel.keep {G G' : Gh} {ln ln' : List Nat} {F F' : Nat → Prop} {w w' : World} {cs : List AV} {cur : Array Value} (h : CRel G ln F w cs cur) (hl : Later G G' ln ln') (hF : ∀ b, F b → F' b) (hw : ∀ b, F b → w'.heap[b]? = w.heap[b]?) :
    CRel G' ln' F' w' cs cur := fun j av hj => let ⟨x, h1, h2⟩ := h j av hj; ⟨x, h1, h2.keep hl hF hw⟩
def ORel (G : Gh) (ln : List Nat) (F : Nat → Prop) (w : World) (k : Nat) : AObj → Prop
  | .o .box cs => G.vir k = false ∧ ¬ F (G.σ k) ∧ ∃ cur ty, Blk w (G.σ k) ty cur ∧ cur.size = G.bs k ∧ cs.length = G.bs k ∧ CRel G ln F w cs cur
  | .o (.row e sz) cs => (G.vir k = true ∧ cs = []) ∨ (G.vir k = false ∧ ¬ F (G.σ k) ∧ ∃ cur c, Blk w (G.σ k) e cur ∧ cur.size = G.bs k ∧ G.bs k = c * sz ∧ c ≤ maxLen ∧ cs.length ≤ G.bs k ∧ CRel G ln F w cs cur)
  | .o .fz cs => (G.vir k = true ∧ cs = []) ∨ (G.vir k = false ∧ F (G.σ k) ∧ ∃ cur ty fr, w.heap[G.σ k]? = some (.cells cur ty fr) ∧ cur.size = G.bs k ∧ cs.length ≤ cur.size ∧ CRel G ln F w cs cur)
  | .it s pos => G.vir k = false ∧ ¬ F (G.σ k) ∧ w.heap[G.σ k]? = some (.stringIter s pos)
/-- Both are blocks that lie there. -/
def Solid (G : Gh) (h : List AObj) (k : Nat) : Prop := k < h.length ∧ G.vir k = false
def fzO : AObj → Bool
  | .o .fz _ => true
  | _ => false
structure HRel (G : Gh) (F : Nat → Prop) (h : List AObj) (w : World) : Prop where
  obj : ∀ (k : Nat) (x : AObj), h[k]? = some x → ORel G (lens h) F w k x
  inj : ∀ (j k : Nat) (x y : AObj), h[j]? = some x → h[k]? = some y → G.vir j = false → G.vir k = false → fzO x = false → fzO y = false → G.σ j = G.σ k → j = k
structure Env where
  w0 : World
  L : Nat → Prop
  F0 : Nat → Prop
  G0 : Gh
  ln0 : List Nat
  st : Nat → Bool
  ho : Nat → Bool
  mks : Nat → Prop
/-- the marks that ranges over functions have left among the deferred calls -/
structure Marked (mk : Nat → Prop) (F : Nat → Prop) (w : World) (ds : List Deferred) : Prop where
  nod : ds.Nodup
  mem : ∀ d ∈ ds, ∃ D : Nat, d = { target := .collected D, args := #[] } ∧ mk D ∧ ¬ F D ∧ w.heap[D]? = some (.deferred (some []))
theorem Marked.nil {mk : Nat → Prop} {F : Nat → Prop} {w : World} {ds : List Deferred} (h : ds = []) : Marked mk F w ds := by subst h; exact ⟨List.nodup_nil, fun d h => by cases h⟩
theorem Marked.keep {mk : Nat → Prop} {F F' : Nat → Prop} {w w' : World} {ds : List Deferred} (h : Marked mk F w ds) (hk : ∀ D, ¬ F D → w.heap[D]? = some (.deferred (some [])) → ¬ F' D ∧ w'.heap[D]? = w.heap[D]?) : Marked mk F' w' ds :=
  ⟨h.nod, fun d hd => let ⟨D, e1, e2, e3, e4⟩ := h.mem d hd; let ⟨k1, k2⟩ := hk D e3 e4; ⟨D, e1, e2, k1, k2.trans e4⟩⟩
/-- what stays lies in cells -/
def FC (F : Nat → Prop) (w : World) : Prop := ∀ b, F b → ∃ cs ty fr, w.heap[b]? = some (.cells cs ty fr)
theorem FC.lt {F : Nat → Prop} {w : World} (h : FC F w) (b : Nat) (hb : F b) : b < w.heap.size := let ⟨_, _, _, e⟩ := h b hb; (Array.getElem?_eq_some_iff.1 e).1
theorem FC.keep {F : Nat → Prop} {w w' : World} (h : FC F w) (hw : ∀ b, F b → w'.heap[b]? = w.heap[b]?) : FC F w' := fun b hb => let ⟨c, t, f, e⟩ := h b hb; ⟨c, t, f, (hw b hb).trans e⟩
structure Rel (E : Env) (G : Gh) (F : Nat → Prop) (s : AS) (a : Act) (w : World) : Prop where
  len : a.tmps.size = s.t.length
  def0 : Marked E.mks F w a.defers
  slot : ∀ (i : Nat) (av : AV) (v : Value), s.t[i]? = some av → a.tmps[i]? = some v → RepV G (lens s.h) F w av v
  heap : HRel G F s.h w
  mod : Mod E.L E.w0 w
  sup : ∀ (k : Nat) (x : AObj), s.h[k]? = some x → G.vir k = false → fzO x = false → E.ho k = false → E.L (G.σ k) ∨ E.w0.heap.size ≤ G.σ k
  fsup : ∀ b, F b → E.F0 b ∨ E.L b ∨ E.w0.heap.size ≤ b
  f0 : ∀ b, E.F0 b → F b
  fc : FC F w
  lat : Same E.st E.G0 G E.ln0 (lens s.h)
theorem Rel.flt {E : Env} {G : Gh} {F : Nat → Prop} {s : AS} {a : Act} {w : World} (h : Rel E G F s a w) : ∀ b, F b → b < w.heap.size := h.fc.lt
def Sat (E : Env) (s : AS) (a : Act) (w : World) : Prop := ∃ G F, Rel E G F s a w

def AS.put (s : AS) (d : Option Nat) (v : AV) : AS := match d with | some i => { s with t := s.t.set i v } | none => s
theorem AS.put_h (s : AS) (d : Option Nat) (v : AV) : (s.put d v).h = s.h := by cases d <;> rfl
theorem Rel.put {E : Env} {G : Gh} {F : Nat → Prop} {s : AS} {a : Act} {w : World} (h : Rel E G F s a w) {av : AV} {v : Value} (hr : RepV G (lens s.h) F w av v) (d : Option Nat) : Rel E G F (s.put d av) (a.put d v) w := by
  cases d with
  | none => exact h
  | some d =>
    refine ⟨by simp [Act.put, AS.put, h.len], h.def0, fun i u x hi hx => ?_, h.heap, h.mod, h.sup, h.fsup, h.f0, h.fc, h.lat⟩
    simp only [AS.put, Act.put] at hi hx ⊢
    rw [List.getElem?_set] at hi
    rw [Array.getElem?_setIfInBounds] at hx
    by_cases hd : d = i
    · subst hd
      rw [if_pos rfl] at hi hx
      split at hi
      · injection hi with hi
        split at hx
        · injection hx with hx
          subst hi hx
          exact hr
        · cases hx
      · cases hi
    · rw [if_neg hd] at hi hx
      exact h.slot i u x hi hx
/-- an operand as it is known -/
def AS.ev (s : AS) : Operand → AV
  | .tmp t => (s.t[t]?).getD .any
  | .const v => .c v
  | .global _ => .any
  | .func f => .clo (.func f) [] []
theorem Rel.ev {E : Env} {G : Gh} {F : Nat → Prop} {s : AS} {a : Act} {w : World} (h : Rel E G F s a w) (x : Operand) : RepV G (lens s.h) F w (s.ev x) (a.eval x) := by
  cases x with
  | tmp t =>
    simp only [AS.ev, Act.eval, Array.getD_eq_getD_getElem?]
    cases ht : s.t[t]? with
    | none => exact .any _
    | some av =>
      have hlt : t < a.tmps.size := by rw [h.len]; exact (List.getElem?_eq_some_iff.1 ht).1
      simp only [Option.getD_some]
      rw [Array.getElem?_eq_getElem hlt, Option.getD_some]
      exact h.slot t av _ ht (Array.getElem?_eq_getElem hlt)
  | const v => exact .d _ _ (.c v)
  | global g => exact .any _
  | func f => exact .clo (.func f) [] [] #[] #[] rfl rfl (by simp) (by simp)
end Go.Proofs.Ytmgpiminicgbiaa
