import Derived.Test.YtmgpiminicgbiaaEi
namespace Go.Proofs.Ytmgpiminicgbiaa
set_option linter.unusedVariables false
set_option linter.unusedSimpArgs false
open Go.RowKit

section
variable {P : Program} {G : Gh} {F : Nat → Prop} {w : World} {E : Env} {s : AS} {a : Act}
/-- a new block that stays as it is -/
theorem Rel.newF (hr : Rel E G F s a w) (o : Obj) (ho : ∃ c t f, o = .cells c t f) : Rel E G (fun b => F b ∨ b = w.heap.size) s a (w.alloc o) := by
  have hl := Later.refl G (lens s.h)
  have hw : ∀ b, F b → (w.alloc o).heap[b]? = w.heap[b]? := fun b hb => heap_alloc_lt w o (hr.flt b hb)
  have hF : ∀ b, F b → F b ∨ b = w.heap.size := fun _ h => .inl h
  refine ⟨hr.len, hr.def0.keep (fun D h1 h2 => ⟨fun h3 => h3.elim h1 fun e => by have := lt_of_heap h2; omega, heap_alloc_lt w o (lt_of_heap h2)⟩), fun i av v h1 h2 => (hr.slot i av v h1 h2).keep hl hF hw, ⟨fun k y hk => ?_, hr.heap.inj⟩, hr.mod.alloc o, hr.sup, fun b hb => ?_, fun b hb => .inl (hr.f0 b hb), fun b hb => ?_, hr.lat⟩
  · refine (hr.heap.obj k y hk).keep hl hF hw ⟨rfl, rfl, rfl⟩ (fun hv => heap_alloc_lt w o (hr.heap.lt hk hv)) (fun hv hf => ?_)
    rintro (h | h)
    · exact hr.heap.nfz hk hv hf h
    · have := hr.heap.lt hk hv; omega
  · rcases hb with hb | rfl
    · exact hr.fsup b hb
    · exact .inr (.inr hr.mod.size)
  · rcases hb with hb | rfl
    · obtain ⟨c, t, f, e⟩ := hr.fc b hb; exact ⟨c, t, f, (hw b hb).trans e⟩
    · obtain ⟨c, t, f, rfl⟩ := ho; exact ⟨c, t, f, heap_alloc_new w _⟩
theorem bytes_sound (hr : Rel E G F s a w) {src dst : TypeId} {x : Operand} {b : ByteArray} {e by_ : Nat} (h1 : slT P dst = some (e, 1, by_)) (h2 : isStrT P src = true) (h3 : intT P e = some .u8) (hx : a.eval x = .string b) (hb : b.size ≤ 9223372036854775807) (o : Oper) (ho : o.op = .convert src dst x) :
    Steps1 P E a w (execOp a.eval o) (s, .fs 1 b.size (u8av b.data.toList)) := by
  obtain ⟨ti, i1, i2, i3, i4⟩ := slT_inv h1
  have hrun := run_bytes_of_string (P := P) w src dst e b (isStrT_inv h2) i1 (intT_inv h3)
  have hge := grownCap_ge w b.size 0 e
  have hcm := grownCap_le_maxLen w b.size 0 e (by unfold maxLen; omega)
  refine ⟨_, _, G, _, .inl (by simp [execOp, ho, hx]; rw [hrun]; rfl), hr.drew.newF _ ⟨_, _, _, rfl⟩, .d _ _ ?_⟩
  have hlen : (u8av b.data.toList).length = b.size := by simp [u8av]
  rcases Nat.eq_zero_or_pos b.size with h0 | h0
  · have : u8av b.data.toList = [] := List.eq_nil_of_length_eq_zero (by rw [hlen, h0])
    rw [this, h0]
    exact .fs0 1 _ _ (by rw [h0] at hcm; exact hcm)
  · refine .fs 1 b.size w.heap.size 0 _ _ (fun j => (bytesRow b (grownCap w b.size 0 e)).getD j undef) h0 hge hcm (by rw [hlen]; omega) (.inr rfl) (fun j hj => ?_) fun j u hu => ?_
    · refine (cell_cells (i := 0 + j) (heap_alloc_new w.drew _)).trans ?_
      rw [Nat.zero_add]
      have : j < (bytesRow b (grownCap w b.size 0 e)).size := by rw [hlen] at hj; simp [bytesRow]; omega
      simp [Array.getD, this]
    · simp only [u8av, List.getElem?_map, Option.map_eq_some_iff] at hu
      obtain ⟨c, hc, rfl⟩ := hu
      have hj : j < b.size := by simpa using (List.getElem?_eq_some_iff.1 hc).1
      have : (bytesRow b (grownCap w b.size 0 e)).getD j undef = u8 c := by
        rw [Array.getD_eq_getD_getElem?, bytesRow, Array.getElem?_append_left (by simpa using hj), Array.getElem?_map]
        rw [Array.getElem?_toList] at hc
        rw [hc]; rfl
      rw [this]
      exact .c _
theorem range_sound (hr : Rel E G F s a w) {t : TypeId} {x : Operand} {b : ByteArray} (h1 : isStrT P t = true) (hx : a.eval x = .string b) (o : Oper) (ho : o.op = .range t x) : Steps1 P E a w (execOp a.eval o) (s.push (.it b 0), .ptr s.h.length 0 0) := by
  obtain ⟨u1, u2, u3⟩ := upd_same G s.h.length w.heap.size 0 false
  have hrun : (execOp a.eval o).run P w = .ok (.value (.pointer (some ⟨w.heap.size, 0, none⟩))) (w.alloc (.stringIter b 0)) := by
    simp [execOp, ho, hx, Instr.range, run_underlying (isStrT_inv h1)]
  refine ⟨_, _, _, F, .inl hrun, hr.new (.stringIter b 0) (.it b 0) 0 rfl ⟨u3, by rw [u1]; exact fresh_nF hr, by rw [u1]; exact heap_alloc_new w _⟩, ?_⟩
  have := RepV.ptr (G := G.upd s.h.length w.heap.size 0 false) (F := F) (w := w.alloc (.stringIter b 0)) (ln := lens (s.h ++ [.it b 0])) s.h.length 0 0 (lens_push _ _) u3
  rw [u1] at this
  exact this
theorem mark_sound (hr : Rel E G F s a w) {t : TypeId} {x : Operand} {e by_ k n m : Nat} {e' : Nat} {cs : List AV} (h1 : slT P t = some (e, 1, by_)) (h3 : intT P e = some .u8) (hx : RepV G (lens s.h) F w (.sl k 1 0 n m) (a.eval x)) (hk : s.h[k]? = some (.o (.row e' 1) cs)) (hho : E.ho k = false) (hm : cs.length = m) (hn : n = m) (h0 : 0 < n) (hd : cs.all isD = true)
    (o : Oper) (ho : o.op = .convert t t x) : Steps1 P E a w (execOp a.eval o) (s.setO k (.o .fz cs), .fs 1 n cs) := by
  obtain ⟨ti, i1, i2, i3, i4⟩ := slT_inv h1
  have hln : (lens s.h)[k]? = some m := by simp [lens, List.getElem?_map, hk, lnO, hm]
  rcases sl_inv hx hln with ⟨hv, q1, q2, q3, q4⟩ | ⟨hv, cap, hxe, g3, g4, g5⟩
  · omega
  have hob := hr.heap.obj k _ hk
  rcases hob with ⟨q, _⟩ | ⟨_, _, cur, c, hb, b2, b3, b4, b5, b6⟩
  · rw [hv] at q; cases q
  have hb : w.heap[G.σ k]? = some (.cells cur e' (0, 0)) := hb
  have hfr : (w.freeze ⟨G.σ k, cur.size, none⟩ 1).heap[G.σ k]? = some (.cells cur e' (cur.size, cur.size + 1)) := by
    unfold World.freeze
    rw [if_neg (by decide)]
    simp only [Array.getElem?_modify, if_true, hb]
    rfl
  have hoth : ∀ c, c ≠ G.σ k → (w.freeze ⟨G.σ k, cur.size, none⟩ 1).heap[c]? = w.heap[c]? := fun c hc => by
    unfold World.freeze
    rw [if_neg (by decide)]
    simp only [Array.getElem?_modify]
    rw [if_neg (fun h => hc h.symm)]
  have hrun : (execOp a.eval o).run P w = .ok (.value (.slice (some ⟨G.σ k, 0, none⟩) n cap)) (w.freeze ⟨G.σ k, cur.size, none⟩ 1) := by
    have hsh : w.shape? (G.σ k) = some (e', cur.size) := by unfold World.shape?; rw [hb]
    simp [execOp, ho, hxe, convert, run_underlying i1, run_underlying (intT_inv h3), markStringish, hsh]
  have hR := hr.frz hk hho hv hb hfr hoth ⟨by simp [World.freeze], by simp [World.freeze], by simp [World.freeze], by simp [World.freeze]⟩
  refine ⟨_, _, _, _, .inl hrun, hR, .d _ _ ?_⟩
  have hcell : ∀ j, j < cs.length → ∃ v, cur[j]? = some v ∧ ∀ u, cs[j]? = some u → RepD F w u v := fun j hj => by
    obtain ⟨v, e1, e2⟩ := b6 j cs[j] (List.getElem?_eq_getElem hj)
    refine ⟨v, e1, fun u hu => ?_⟩
    rw [List.getElem?_eq_getElem hj] at hu
    injection hu with hu; subst hu
    exact isD_rep (List.all_eq_true.1 hd _ (List.getElem_mem hj)) e2
  refine .fs 1 n (G.σ k) 0 cap cs (fun j => (cur[j]?).getD undef) h0 g3 g4 (by omega) (.inr rfl) (fun j hj => ?_) fun j u hu => ?_
  · obtain ⟨v, e1, _⟩ := hcell j hj
    rw [e1, Option.getD_some]
    refine (cell_cells (i := 0 + j) hfr).trans ?_
    rw [Nat.zero_add]; exact e1
  · obtain ⟨v, e1, e2⟩ := hcell j (List.getElem?_eq_some_iff.1 hu).1
    rw [e1, Option.getD_some]
    have hnF : ∀ b, F b → b ≠ G.σ k := fun b hb e => hr.heap.nfz hk hv rfl (e ▸ hb)
    exact (e2 u hu).keep (fun b h => .inl h) fun b hb => hoth b (hnF b hb)
theorem implO_sound (hr : Rel E G F s a w) (o : Oper) {q : Prop × AS × AV} (hq : implO P E.ho s o.op = some q) (hs : q.1) : Steps1 P E a w (execOp a.eval o) q.2 := by
  obtain ⟨dst, op, ty, pos, aft, gd⟩ := o
  simp only at hq
  unfold implO at hq
  split at hq
  · rw [Option.map_eq_some_iff] at hq
    obtain ⟨z, hz, rfl⟩ := hq
    exact alloc_sound hr hz _ rfl
  · split at hq
    · rename_i hok
      injection hq with hq; subst hq
      exact newbox_sound hr hok hs _ rfl
    · cases hq
  · split at hq
    · rename_i e sz by_ e1
      split at hq
      · rename_i z l e2 e3
        rw [Option.map_eq_some_iff] at hq
        obtain ⟨cs, hcs, rfl⟩ := hq
        exact buildSlice_sound hr e1 e2 e3 hcs hs _ rfl
      · cases hq
    · cases hq
  · split at hq
    · rename_i e sz by_ k1 n k2 m e1 e2 e3
      rw [Option.map_eq_some_iff] at hq
      obtain ⟨z, hz, rfl⟩ := hq
      obtain ⟨g1, g2, g3⟩ := hs
      have hx := (hr.ev _).ung g1
      have hy := (hr.ev _).ung g2
      rw [e2] at hx
      rw [e3] at hy
      exact makeSlice_sound hr e1 hz hx.c_inv hy.c_inv g3 _ rfl
    · cases hq
  · rw [Option.map_eq_some_iff] at hq
    obtain ⟨p, hp, rfl⟩ := hq
    exact store_sound hr hp hs.1 hs.2.1 hs.2.2 _ rfl
  · rename_i c
    obtain ⟨cal, args, ats⟩ := c
    obtain ⟨args⟩ := args
    obtain ⟨ats⟩ := ats
    simp only at hq
    split at hq
    · rename_i x y t tx
      rw [Option.map_eq_some_iff] at hq
      obtain ⟨p, hp, rfl⟩ := hq
      exact app_sound (ty := ty) hr hp hs.2.2 ((hr.ev x).ung hs.1) ((hr.ev y).ung hs.2.1) _ (by simp [execOp, resolve, invoke, builtin])
    · rename_i x y t tx
      split at hq
      · rename_i ht
        rw [Option.map_eq_some_iff] at hq
        obtain ⟨p, hp, rfl⟩ := hq
        exact copy_sound (ty := ty) hr hp hs.2.2 ht ((hr.ev x).ung hs.1) ((hr.ev y).ung hs.2.1) _ (by simp [execOp, resolve, invoke, builtin])
      · cases hq
    · cases hq
  · rename_i src dst' x
    split at hq
    · rename_i b e1
      split at hq
      · rename_i e by_ e2
        split at hq
        · rename_i hc
          injection hq with hq; subst hq
          simp only [Bool.and_eq_true, beq_iff_eq] at hc
          have hx := (hr.ev x).ung hs.1
          rw [e1] at hx
          exact bytes_sound hr e2 hc.1 hc.2 hx.c_inv hs.2 _ rfl
        · cases hq
      · cases hq
    · rename_i k n m e1
      split at hq
      · rename_i e by_ e' cs e2 e3
        split at hq
        · rename_i hc
          injection hq with hq; subst hq
          obtain ⟨rfl, c2, c3⟩ := hc
          obtain ⟨g1, g2, g3, g4, g5⟩ := hs
          have hx := (hr.ev x).ung g1
          rw [e1] at hx
          exact mark_sound hr e2 c2 hx e3 c3 g2 g3 g4 g5 _ rfl
        · cases hq
      · cases hq
    · cases hq
  · rename_i t x
    split at hq
    · rename_i b e1
      split at hq
      · rename_i hc
        injection hq with hq; subst hq
        have hx := (hr.ev x).ung hs
        rw [e1] at hx
        exact range_sound hr hc hx.c_inv _ rfl
      · cases hq
    · cases hq
  · cases hq
end

/-! ## A step, a list of steps -/
def callable (P : Program) (g : FuncId) : Bool := match P.funcs[g]? with | some fn => fn.name != "runtime.NumGoroutine" && fn.body.isSome | none => false
/-- a call of function g, from here on -/
def CallG (P : Program) (E : Env) (g : FuncId) (args : List AV) (s : AS) (K : AV → AS → Prop) : Prop :=
  ∀ (G : Gh) (F : Nat → Prop) (a : Act) (w : World) (vs : Array Value), Rel E G F s a w → args.length = vs.size → (∀ (j : Nat) (u : AV) (x : Value), args[j]? = some u → vs[j]? = some x → RepV G (lens s.h) F w u x) →
    Calls P g vs w fun e w' => ∃ (x : Value) (r : AV) (s' : AS) (G' : Gh) (F' : Nat → Prop), e = .returned x ∧ Rel E G' F' s' a w' ∧ RepV G' (lens s'.h) F' w' r x ∧ K r s'
/-- what comes later is named, not written out: so simp does not look at it before its time -/
def swapK {κ : Type} (f : AS → κ → Prop) (k : κ) (s : AS) : Prop := f s k
def putK (d : Option Nat) (K : AS → Prop) (r : AV) (s : AS) : Prop := K (s.put d r)
def gcsL (s : AS) : List Operand → Prop
  | [] => True
  | x :: r => (s.ev x).gc ∧ gcsL s r
def evL (s : AS) (l : List Operand) : List AV := l.map fun x => (s.ev x).ung
def callP (P : Program) (E : Env) (s : AS) (d : Option Nat) (K : AS → Prop) (args : List Operand) : AV → Prop
  | .clo (.func g) first caps => callable P g = true ∧ gcsL s args ∧ CallG P E g (first ++ evL s args ++ caps) s (putK d K)
  | _ => False
def onIt (ho : Nat → Bool) (s : AS) (d : Option Nat) (K : AS → Prop) (k : Nat) : Option AObj → Prop
  | some (.it b pos) => ho k = false ∧ (pos < b.size → K ((s.setO k (.it b (pos + (Utf8.decode b pos).2))).put d (.tup [.c (.bool true), .c (.int .i64 pos), .c (.int .i32 (Utf8.decode b pos).1)]))) ∧ (¬ pos < b.size → K (s.put d (.tup [.c (.bool false)])))
  | _ => False
def nextP (ho : Nat → Bool) (s : AS) (d : Option Nat) (K : AS → Prop) : AV → Prop
  | .ptr k 0 0 => onIt ho s d K k s.h[k]?
  | _ => False
def pickP (s : AS) (d : Option Nat) (K : AS → Prop) (a b : AV) : AV → Prop
  | .c (.bool v) => if v = true then K (s.put d a) else K (s.put d b)
  | _ => False
/-- is a slice nil? If it is empty (z) it may be so, or not. -/
def nilOp (s : AS) (d : Option Nat) (K : AS → Prop) (op : BinOp) (z : Prop) : Prop := match op with
  | .eql => K (s.put d (.c (.bool false))) ∧ (z → K (s.put d (.c (.bool true))))
  | .neq => K (s.put d (.c (.bool true))) ∧ (z → K (s.put d (.c (.bool false))))
  | _ => False
def nilEq (P : Program) (s : AS) (d : Option Nat) (K : AS → Prop) (op : BinOp) (t : TypeId) : AV → AV → Prop
  | .sl h _ _ _ m, .c (.slice none 0 0) => (slT P t).isSome = true ∧ (lens s.h)[h]? = some m ∧ nilOp s d K op (m = 0)
  | .fs _ n _, .c (.slice none 0 0) => (slT P t).isSome = true ∧ nilOp s d K op (n = 0)
  | _, _ => False
def stepC (P : Program) (E : Env) (o : Oper) (s : AS) (K : AS → Prop) : Prop :=
  match o.op with
  | .pick c a b => (s.ev c).gc ∧ pickP s o.dst K (s.ev a) (s.ev b) (s.ev c).ung
  | .binOp op t x y _ => (s.ev x).gc ∧ (s.ev y).gc ∧ nilEq P s o.dst K op t (s.ev x).ung (s.ev y).ung
  | .next it true => (s.ev it).gc ∧ nextP E.ho s o.dst K (s.ev it).ung
  | .call c => match c.callee with
    | .value f => (s.ev f).gc ∧ callP P E s o.dst K c.args.toList (s.ev f).ung
    | _ => False
  | _ => False
def onImpl (P : Program) (E : Env) (o : Oper) (s : AS) (K : AS → Prop) : Option (Prop × AS × AV) → Prop
  | some q => q.1 ∧ K (q.2.1.put o.dst q.2.2)
  | none => stepC P E o s K
def onPure (P : Program) (E : Env) (o : Oper) (s : AS) (K : AS → Prop) : Option (Prop × AV) → Prop
  | some q => q.1 ∧ K (s.put o.dst q.2)
  | none => onImpl P E o s K (implO P E.ho s o.op)
def stepO (P : Program) (E : Env) (o : Oper) (s : AS) (K : AS → Prop) : Prop := onPure P E o s K (pureV P anyRo s o.op)
/-- whether a guarded operation is carried out -/
def gV : AV → Bool → Option Bool
  | .c (.bool b), want => some (b == want)
  | .g b w (.c (.bool x)), want => some (b == w && x == want)
  | _, _ => none
def guardV (ops : Array Oper) (s : AS) (j : Nat) (want : Bool) : Option Bool := match (ops[j]?).bind (·.dst) with
  | some d => gV (s.ev (.tmp d)) want
  | none => none
/-- an operation whose guard is known, or not -/
def condG (P : Program) (E : Env) (o : Oper) (s : AS) (K : AS → Prop) (c : Bool) : Prop := (c = true → stepO P E o s K) ∧ (c = false → K (s.put o.dst (.c undef)))
/-- what is known if c is true; of what is known if b is -/
def mkG (c : Bool) : AV → AV
  | .g b want v => .g (c && (b == want)) true v
  | .any => .any
  | .c v => .g c true (.c v)
  | .ptr h o m => .g c true (.ptr h o m)
  | .sl h z o n m => .g c true (.sl h z o n m)
  | .fs z n l => .g c true (.fs z n l)
  | .fp l => .g c true (.fp l)
  | .agg l => .g c true (.agg l)
  | .tup l => .g c true (.tup l)
  | .clo f l k => .g c true (.clo f l k)
theorem mkG_rep {G : Gh} {ln : List Nat} {F : Nat → Prop} {w : World} {c : Bool} {u : AV} {x : Value} (h1 : c = true → RepV G ln F w u x) (h2 : c ≠ true → x = undef) : RepV G ln F w (mkG c u) x := by
  cases u with
  | g b want v =>
    refine .g _ true v x (fun h => ?_) fun h => ?_
    · simp only [Bool.and_eq_true, beq_iff_eq] at h
      have := h1 h.1
      cases this with
      | d _ _ hd => cases hd
      | g _ _ _ _ g1 g2 => exact g1 h.2
    · by_cases hc : c = true
      · have := h1 hc
        cases this with
        | d _ _ hd => cases hd
        | g _ _ _ _ g1 g2 =>
          refine g2 fun hb => h ?_
          rw [hc, hb]; simp
      · exact h2 hc
  | any => exact .any x
  | _ => exact .g c true _ x h1 h2
def onGP (P : Program) (E : Env) (o : Oper) (s : AS) (K : AS → Prop) (c : Bool) : Option (Prop × AV) → Prop
  | some q => (c = true → q.1) ∧ K (s.put o.dst (mkG c q.2))
  | none => condG P E o s K c
def onGV (P : Program) (E : Env) (o : Oper) (s : AS) (K : AS → Prop) : Option Bool → Prop
  | some c => onGP P E o s K c (pureV P anyRo s o.op)
  | none => False
def stepP (P : Program) (E : Env) (ops : Array Oper) (o : Oper) (s : AS) (K : AS → Prop) : Prop :=
  match o.guard with
  | none => stepO P E o s K
  | some (j, want) => onGV P E o s K (guardV ops s j want)
theorem condG_true {P : Program} {E : Env} {o : Oper} {s : AS} {K : AS → Prop} : condG P E o s K true = stepO P E o s K := by simp [condG]
theorem condG_false {P : Program} {E : Env} {o : Oper} {s : AS} {K : AS → Prop} : condG P E o s K false = K (s.put o.dst (.c undef)) := by simp [condG]
def runL (P : Program) (E : Env) (ops : Array Oper) : List Oper → AS → (AS → Prop) → Prop
  | [], s, K => K s
  | o :: l, s, K => stepP P E ops o s (swapK (runL P E ops l) K)

section
variable {P : Program} {E : Env} {s : AS} {a : Act} {w : World}
theorem Sat.put {d : Option Nat} {v : AV} {x : Value} {G : Gh} {F : Nat → Prop} (hr : Rel E G F s a w) (hv : RepV G (lens s.h) F w v x) : Sat E (s.put d v) (a.put d x) w := ⟨G, F, hr.put hv d⟩
theorem callable_inv {g : FuncId} (h : callable P g = true) (args : Array Value) (w : World) : (callFunc g args).run P w = .ok (.enter g args) w := by
  unfold callable at h
  split at h
  · rename_i fn hfn
    simp only [Bool.and_eq_true, bne_iff_ne, ne_eq] at h
    obtain ⟨b, hb⟩ := Option.isSome_iff_exists.1 h.2
    simp [callFunc, hfn, h.1, hb]
  · cases h
theorem clo_inv {G : Gh} {F : Nat → Prop} {ln : List Nat} {f : Fn} {l k : List AV} {x : Value} (hr : RepV G ln F w (.clo f l k) x) : ∃ cs ds : Array Value, x = .func f cs ds ∧ l.length = cs.size ∧ k.length = ds.size ∧ (∀ (j : Nat) (u : AV) (x : Value), l[j]? = some u → cs[j]? = some x → RepV G ln F w u x) ∧
    ∀ (j : Nat) (u : AV) (x : Value), k[j]? = some u → ds[j]? = some x → RepV G ln F w u x := by
  cases hr with
  | d _ _ h => cases h
  | clo _ _ _ cs ds h1 h2 h3 h4 => exact ⟨cs, ds, rfl, h1, h2, h3, h4⟩
theorem rep_app {G : Gh} {F : Nat → Prop} {ln : List Nat} {l k : List AV} {cs ds : Array Value} (hl : l.length = cs.size) (h1 : ∀ (j : Nat) (u : AV) (x : Value), l[j]? = some u → cs[j]? = some x → RepV G ln F w u x)
    (h2 : ∀ (j : Nat) (u : AV) (x : Value), k[j]? = some u → ds[j]? = some x → RepV G ln F w u x) : ∀ (j : Nat) (u : AV) (x : Value), (l ++ k)[j]? = some u → (cs ++ ds)[j]? = some x → RepV G ln F w u x := by
  intro j u x hu hx
  by_cases hj : j < l.length
  · rw [List.getElem?_append_left hj] at hu
    rw [Array.getElem?_append_left (by omega)] at hx
    exact h1 j u x hu hx
  · rw [List.getElem?_append_right (by omega)] at hu
    rw [Array.getElem?_append_right (by omega), ← hl] at hx
    exact h2 _ u x hu hx
theorem evL_rep {G : Gh} {F : Nat → Prop} (hr : Rel E G F s a w) : ∀ (l : List Operand), gcsL s l → (evL s l).length = (l.map a.eval).length ∧ ∀ (j : Nat) (u : AV) (x : Value), (evL s l)[j]? = some u → (l.map a.eval)[j]? = some x → RepV G (lens s.h) F w u x := by
  intro l
  induction l with
  | nil => intro _; exact ⟨rfl, fun j u x h => by simp [evL] at h⟩
  | cons y r ih =>
    intro hg
    obtain ⟨i1, i2⟩ := ih hg.2
    refine ⟨by simp [evL], fun j u x hu hx => ?_⟩
    cases j with
    | zero => simp [evL] at hu hx; subst hu hx; exact (hr.ev y).ung hg.1
    | succ j => exact i2 j u x (by simpa [evL] using hu) (by simpa using hx)
def upB (P : Program) (o : Oper) (a : Act) (next : Act → World → Prop) : Result Next → Prop
  | .ok (.value v) w' => next (a.put o.dst v) w'
  | .ok .skip w' => next (a.put o.dst undef) w'
  | .ok (.enter f args) w' => Calls P f args w' fun e w'' => ∃ v, e = .returned v ∧ next (a.put o.dst v) w''
  | _ => False
/-- what an operation comes to, wherever it stands: in a round too -/
def _root_.Go.Oper.wpB (P : Program) (o : Oper) (a : Act) (w : World) (next : Act → World → Prop) : Prop := (∀ c, o.op ≠ .defer c) ∧ upB P o a next ((execOp a.eval o).run P w)
theorem wpB_wp {o : Oper} {next : Act → World → Prop} {Q : Exit → Act → World → Prop} (h : o.wpB P a w next) : o.wp P a w next Q := by
  obtain ⟨_, h⟩ := h
  unfold Oper.wp
  generalize (execOp a.eval o).run P w = r at *
  unfold upB at h
  split at h
  · exact h
  · exact h
  · exact h.mono fun e w' ⟨v, he, hn⟩ => by subst he; exact hn
  · cases h
theorem run_nilEq (op : BinOp) (t e : TypeId) (x y : Operand) (A : Option Addr) (n c : Nat) (he : P.underlying t = some (.slice e)) (w' : World) : (do eqGuard op t x y (.slice A n c) (.slice none 0 0); binOp op t (.slice A n c) (.slice none 0 0)).run P w' = (binOp op t (.slice A n c) (.slice none 0 0)).run P w' := by
  rw [Sem.run_bind, run_eqGuard_none _ _ _ _ _ _ _ (by simp) (by simp)]; rfl
theorem nilEq_sound {G : Gh} {F : Nat → Prop} {ln : List Nat} (hln : ln = lens s.h) {d : Option Nat} {K : AS → Prop} {op : BinOp} {t : TypeId} {u v : AV} (h : nilEq P s d K op t u v) {x y : Value} (hx : RepV G ln F w u x) (hy : RepV G ln F w v y) (ox oy : Operand) :
    ∃ b : Bool, (∀ w', (do eqGuard op t ox oy x y; binOp op t x y).run P w' = .ok (.bool b) w') ∧ K (s.put d (.c (.bool b))) := by
  subst hln
  have key : ∀ (A : Option Addr) (n c : Nat) (z : Prop), (slT P t).isSome = true → (A = none → z) → nilOp s d K op z → ∃ b : Bool, (∀ w', (do eqGuard op t ox oy (.slice A n c) (.slice none 0 0); binOp op t (.slice A n c) (.slice none 0 0)).run P w' = .ok (.bool b) w') ∧ K (s.put d (.c (.bool b))) := by
    intro A n c z h1 h2 h3
    obtain ⟨e, he⟩ := slT_some h1
    unfold nilOp at h3
    split at h3
    · cases A with
      | none => exact ⟨true, fun w' => by rw [run_nilEq _ _ _ _ _ _ _ _ he]; simp [binOp, run_equal_slice_nil _ _ _ _ _ _ he], h3.2 (h2 rfl)⟩
      | some b => exact ⟨false, fun w' => by rw [run_nilEq _ _ _ _ _ _ _ _ he]; simp [binOp, run_equal_slice_nil _ _ _ _ _ _ he], h3.1⟩
    · cases A with
      | none => exact ⟨false, fun w' => by rw [run_nilEq _ _ _ _ _ _ _ _ he]; simp [binOp, run_equal_slice_nil _ _ _ _ _ _ he], h3.2 (h2 rfl)⟩
      | some b => exact ⟨true, fun w' => by rw [run_nilEq _ _ _ _ _ _ _ _ he]; simp [binOp, run_equal_slice_nil _ _ _ _ _ _ he], h3.1⟩
    · cases h3
  unfold nilEq at h
  split at h
  · rename_i k _ _ _ m
    have e2 := hy.c_inv
    subst e2
    obtain ⟨h1, h2, h3⟩ := h
    cases hx with
    | d _ _ hx => cases hx
    | sl _ _ _ _ _ c => exact key _ _ _ _ h1 (fun h => by cases h) h3
    | slNil _ _ e1 => exact key _ _ _ _ h1 (fun _ => rfl) h3
    | slOld _ _ _ _ _ m' A l c e1 e2 => rw [h2] at e1; injection e1 with e1; omega
  · have e2 := hy.c_inv
    subst e2
    obtain ⟨h1, h3⟩ := h
    cases hx with
    | d _ _ hx =>
      cases hx with
      | fs0 _ A c => exact key _ _ _ _ h1 (fun _ => rfl) h3
      | fs _ n b o c l f => exact key _ _ _ _ h1 (fun h => by cases h) h3
  · cases h
theorem stepO_soundB {G : Gh} {F : Nat → Prop} (hr : Rel E G F s a w) (o : Oper) {K : AS → Prop} (h : stepO P E o s K) {next : Act → World → Prop} (hn : ∀ s' a' w', Sat E s' a' w' → K s' → next a' w') : o.wpB P a w next := by
  have hnd : ∀ c, o.op ≠ .defer c := fun c hc => by simp [stepO, onPure, onImpl, stepC, pureV, implO, hc] at h
  refine ⟨hnd, ?_⟩
  unfold stepO onPure at h
  split at h
  · rename_i q hq
    obtain ⟨x, h1, h2⟩ := pureV_sound hr o hq h.1
    unfold upB
    rw [h1 w (SameOn.refl _ _ _ _ _)]
    exact hn _ _ _ (Sat.put hr h2) h.2
  · unfold onImpl at h
    split at h
    · rename_i q hq
      obtain ⟨x, w', G', F', h1, h2, h3⟩ := implO_sound hr o hq h.1
      unfold upB
      rcases h1 with h1 | ⟨h1, rfl⟩
      · rw [h1]; exact hn _ _ _ (Sat.put h2 h3) h.2
      · rw [h1]; exact hn _ _ _ (Sat.put h2 h3) h.2
    · unfold stepC at h
      split at h
      · rename_i c x y ho
        obtain ⟨g1, h⟩ := h
        have hc := (hr.ev c).ung g1
        unfold pickP at h
        split at h
        · rename_i v e1
          rw [e1] at hc
          have hrun : (execOp a.eval o).run P w = .ok (.value (if v then a.eval x else a.eval y)) w := by
            simp [execOp, ho, hc.c_inv, asBool]
          unfold upB
          rw [hrun]
          cases v
          · exact hn _ _ _ (Sat.put hr (hr.ev y)) (by simpa using h)
          · exact hn _ _ _ (Sat.put hr (hr.ev x)) (by simpa using h)
        · cases h
      · rename_i op t x y mx ho
        obtain ⟨g1, g2, h⟩ := h
        obtain ⟨b, hb, hk⟩ := nilEq_sound rfl h ((hr.ev x).ung g1) ((hr.ev y).ung g2) x y
        have hrun : (execOp a.eval o).run P w = .ok (.value (.bool b)) w := by
          have := runv (hb w)
          simpa [execOp, ho] using this
        unfold upB
        rw [hrun]
        exact hn _ _ _ (Sat.put hr (.cc _)) hk
      · rename_i it ho
        obtain ⟨g1, h⟩ := h
        have hc := (hr.ev it).ung g1
        unfold nextP at h
        split at h
        · rename_i k e1
          rw [e1] at hc
          unfold onIt at h
          split at h
          · rename_i b pos hk
            have hln : (lens s.h)[k]? = some 0 := by simp [lens, List.getElem?_map, hk, lnO]
            obtain ⟨hv, hx⟩ := ptr_inv hc hln
            obtain ⟨_, hnF, hb⟩ := hr.heap.obj k _ hk
            obtain ⟨hho, h⟩ := h
            by_cases hp : pos < b.size
            · have hrun : (execOp a.eval o).run P w = .ok (.value (.tuple #[.bool true, goInt pos, .int .i32 (Utf8.decode b pos).1])) { w with heap := w.heap.setIfInBounds (G.σ k) (.stringIter b (pos + (Utf8.decode b pos).2)) } := by
                simp [execOp, ho, hx, Instr.next, getObj, setObj, Sem.run, hb, hp]
              unfold upB
              rw [hrun]
              have hlt : G.σ k < w.heap.size := hr.heap.lt hk hv
              obtain ⟨u1, u2, u3⟩ := upd_same G k (G.σ k) (G.bs k) false
              have hT := hr.turn hk hho rfl (y := .it b (pos + (Utf8.decode b pos).2)) rfl (Later.set (y := .it b (pos + (Utf8.decode b pos).2)) G hk (G.σ k) (G.bs k) (.inl ⟨rfl, rfl, rfl, hv⟩))
                (w' := { w with heap := w.heap.setIfInBounds (G.σ k) (.stringIter b (pos + (Utf8.decode b pos).2)) }) (fun c hc hne => by simp [Array.getElem?_setIfInBounds, Ne.symm hne]) ⟨rfl, rfl, rfl, by simp⟩ (.inl ⟨rfl, hv⟩)
                (fun _ hnF => ⟨u3, by rw [u1]; exact hnF, by rw [u1]; simp [hlt]⟩)
              refine hn _ _ _ (Sat.put hT (.tup _ _ rfl fun j u x hu hx => ?_)) (h.1 hp)
              match j, hu, hx with
              | 0, hu, hx => simp at hu hx; subst hu hx; exact .cc _
              | 1, hu, hx => simp [goInt] at hu hx; subst hu hx; exact .cc _
              | 2, hu, hx => simp at hu hx; subst hu hx; exact .cc _
              | j + 3, hu, hx => simp at hu
            · have hrun : (execOp a.eval o).run P w = .ok (.value (.tuple #[.bool false])) w := by
                simp [execOp, ho, hx, Instr.next, getObj, Sem.run, hb, hp]
              unfold upB
              rw [hrun]
              refine hn _ _ _ (Sat.put hr (.tup _ _ rfl fun j u x hu hx => ?_)) (h.2 hp)
              match j, hu, hx with
              | 0, hu, hx => simp at hu hx; subst hu hx; exact .cc _
              | j + 1, hu, hx => simp at hu
          · cases h
        · cases h
      · rename_i c ho
        split at h
        · rename_i f hf
          obtain ⟨g1, h⟩ := h
          have hc := (hr.ev f).ung g1
          unfold callP at h
          split at h
          · rename_i g first caps e1
            obtain ⟨g2, g3, h⟩ := h
            rw [e1] at hc
            obtain ⟨cs, ds, e2, l1, l2, l3, l4⟩ := clo_inv hc
            obtain ⟨m1, m2⟩ := evL_rep hr c.args.toList g3
            have hrun : (execOp a.eval o).run P w = .ok (.enter g (cs ++ c.args.map a.eval ++ ds)) w := by
              have hcf := fun args => callable_inv (P := P) g2 args w
              unfold execOp
              simp [ho, resolve, hf, e2, Deferred.ofValue, invoke, hcf]
            unfold upB
            rw [hrun]
            have hl1 : (first ++ evL s c.args.toList).length = (cs ++ c.args.map a.eval).size := by simp [l1, m1]
            have hrep1 := rep_app (G := G) (ln := lens s.h) (F := F) (w := w) (cs := cs) (ds := c.args.map a.eval) l1 l3 fun j u x hu hx => m2 j u x hu (by simpa using hx)
            refine (h G F a w (cs ++ c.args.map a.eval ++ ds) hr (by simp [l1, l2, m1]) (rep_app hl1 hrep1 l4)).mono fun e w' ⟨x, r, s', G', F', he, hR, hV, hK⟩ => ?_
            exact ⟨x, he, hn _ _ _ (Sat.put hR hV) hK⟩
          · cases h
        · cases h
      · cases h
theorem stepO_sound {G : Gh} {F : Nat → Prop} (hr : Rel E G F s a w) (o : Oper) {K : AS → Prop} (h : stepO P E o s K) {Q : Exit → Act → World → Prop} {next : Act → World → Prop} (hn : ∀ s' a' w', Sat E s' a' w' → K s' → next a' w') : o.wp P a w next Q := wpB_wp (stepO_soundB hr o h hn)
theorem gV_sound {G : Gh} {F : Nat → Prop} {ln : List Nat} {u : AV} {want c : Bool} {x : Value} (hq : gV u want = some c) (hr : RepV G ln F w u x) : (match some x with | some (.bool b) => some b | _ => none) == some want ↔ c = true := by
  unfold gV at hq
  split at hq
  · injection hq with hq; subst hq
    rw [hr.c_inv]
    simp
  · injection hq with hq; subst hq
    cases hr with
    | d _ _ h => cases h
    | g _ _ _ _ h1 h2 =>
      rename_i b wt y _
      by_cases hb : wt = y
      · have := (h1 hb).c_inv
        subst this
        simp [hb]
      · have := h2 hb
        subst this
        simp [hb, undef]
  · cases hq
theorem guard_sound {G : Gh} {F : Nat → Prop} (hr : Rel E G F s a w) {ops : Array Oper} {o : Oper} {j : Nat} {want c : Bool} (ho : o.guard = some (j, want)) (hq : guardV ops s j want = some c) : Region.wanted o (yielded ops a.tmps) = c := by
  unfold guardV at hq
  split at hq
  · rename_i d hd
    have hev := hr.ev (.tmp d)
    have key := gV_sound hq hev
    simp only [Region.wanted, ho, yielded, hd, Option.bind_some]
    have hsz : a.tmps[d]? = some (a.eval (.tmp d)) ∨ (a.tmps[d]? = none ∧ a.eval (.tmp d) = undef) := by
      simp only [Act.eval, Array.getD_eq_getD_getElem?]
      cases h : a.tmps[d]? with
      | none => exact .inr ⟨rfl, rfl⟩
      | some v => exact .inl rfl
    rcases hsz with h | ⟨h, h'⟩
    · rw [h]
      rw [Bool.eq_iff_iff]
      exact key
    · rw [h]
      rw [h'] at key
      rw [Bool.eq_iff_iff]
      simpa [undef] using key
  · cases hq
theorem undef_cc {G : Gh} {F : Nat → Prop} {ln : List Nat} : RepV G ln F w (.c undef) undef := .cc _
theorem stepP_soundB {G : Gh} {F : Nat → Prop} (hr : Rel E G F s a w) (ops : Array Oper) (o : Oper) {K : AS → Prop} (h : stepP P E ops o s K) {next : Act → World → Prop} (hn : ∀ s' a' w', Sat E s' a' w' → K s' → next a' w') :
    if Region.wanted o (yielded ops a.tmps) then o.wpB P a w next else next (a.put o.dst undef) w := by
  unfold stepP at h
  split at h
  · rename_i ho
    rw [if_pos (by simp [Region.wanted, ho])]
    exact stepO_soundB hr o h hn
  · rename_i j want ho
    unfold onGV at h
    split at h
    · rename_i c hc
      rw [guard_sound hr ho hc]
      unfold onGP at h
      split at h
      · rename_i q hq
        obtain ⟨h1, h2⟩ := h
        cases c
        · exact hn _ _ _ (Sat.put hr (mkG_rep (fun h => by cases h) (fun _ => rfl))) h2
        · obtain ⟨x, e1, e2⟩ := pureV_sound hr o hq (h1 rfl)
          rw [if_pos rfl]
          refine ⟨fun c hc => by simp [pureV, hc] at hq, ?_⟩
          unfold upB
          rw [e1 w (SameOn.refl _ _ _ _ _)]
          exact hn _ _ _ (Sat.put hr (mkG_rep (fun _ => e2) (fun h => absurd rfl h))) h2
      · obtain ⟨h1, h2⟩ := h
        cases c
        · exact hn _ _ _ (Sat.put hr undef_cc) (h2 rfl)
        · rw [if_pos rfl]
          exact stepO_soundB hr o (h1 rfl) hn
    · cases h
theorem stepP_sound {G : Gh} {F : Nat → Prop} (hr : Rel E G F s a w) (ops : Array Oper) (o : Oper) {K : AS → Prop} (h : stepP P E ops o s K) {Q : Exit → Act → World → Prop} {next : Act → World → Prop} (hn : ∀ s' a' w', Sat E s' a' w' → K s' → next a' w') :
    if Region.wanted o (yielded ops a.tmps) then o.wp P a w next Q else next (a.put o.dst undef) w := by
  have hB := stepP_soundB hr ops o h hn
  split at hB
  · rename_i hw; rw [if_pos hw]; exact wpB_wp hB
  · rename_i hw; rw [if_neg hw]; exact hB
theorem runL_sound {ops : Array Oper} {Q : Exit → Act → World → Prop} {K : AS → Prop} (hQ : ∀ s' a' w', Sat E s' a' w' → K s' → Q .normal a' w') : ∀ (l : List Oper) (s : AS) (a : Act) (w : World), Sat E s a w → runL P E ops l s K → wpList P ops Q l a w := by
  intro l
  induction l with
  | nil => intro s a w hs h; exact hQ s a w hs h
  | cons o l ih =>
    intro s a w ⟨G, F, hr⟩ h
    refine wpList_step fun K' hK' => ?_
    exact stepP_sound hr ops o h fun s' a' w' hs hk => hK' _ _ (ih s' a' w' hs hk)
end
end Go.Proofs.Ytmgpiminicgbiaa
