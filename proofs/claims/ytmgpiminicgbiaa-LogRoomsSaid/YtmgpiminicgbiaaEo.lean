import Derived.Test.YtmgpiminicgbiaaEn
namespace Go.Proofs.Ytmgpiminicgbiaa
set_option linter.unusedVariables false
set_option linter.unusedSimpArgs false
open Go.RowKit

/-! ## How simp steps: what comes later is not looked at before its time -/
section
variable {P : Program} {E : Env}
inductive Fr where
  | seq (y : Code)
  | block (id : Nat)
def stkQ (P : Program) (E : Env) (cut : List Nat) (fin : Exit → AS → Prop) : List Fr → Exit → AS → Prop
  | [] => fin
  | .seq y :: r => seqK (swapK (runC cut P E y) (stkQ P E cut fin r)) (stkQ P E cut fin r)
  | .block id :: r => blockK id (stkQ P E cut fin r)
def contK (P : Program) (E : Env) (cut : List Nat) (stk : List Fr) (fin : Exit → AS → Prop) (e : Exit) (s : AS) : Prop := stkQ P E cut fin stk e s
def runK (P : Program) (E : Env) (cut : List Nat) (c : Code) (stk : List Fr) (fin : Exit → AS → Prop) (s : AS) : Prop := runC cut P E c s (contK P E cut stk fin)
def runO (P : Program) (E : Env) (cut : List Nat) (ops : Array Oper) (l : List Oper) (stk : List Fr) (fin : Exit → AS → Prop) (s : AS) : Prop := runL P E ops l s (contK P E cut stk fin .normal)
variable {cut : List Nat} {stk : List Fr} {fin : Exit → AS → Prop} {s : AS}
theorem runK_skip : runK P E cut .skip stk fin s = contK P E cut stk fin .normal s := congrArg _root_.id rfl
theorem runK_region {id : Nat} {ops : Array Oper} : runK P E cut (.region id ops false) stk fin s = runO P E cut ops ops.toList stk fin s := congrArg _root_.id rfl
theorem runK_draw {id : Nat} {ops : Array Oper} : runK P E cut (.region id ops true) stk fin s = DrawG P E ops s (contK P E cut stk fin .normal) := congrArg _root_.id rfl
theorem runK_seq {x y : Code} (h : isCut cut y = false) : runK P E cut (.seq x y) stk fin s = runK P E cut x (.seq y :: stk) fin s := by
  show runC cut P E (.seq x y) s _ = _
  simp only [runC]
  rw [if_neg (by rw [h]; decide)]
  rfl
/-- here the walk is cut -/
def SeqG (P : Program) (E : Env) (cut : List Nat) (x y : Code) (stk : List Fr) (fin : Exit → AS → Prop) (s : AS) : Prop := EW P E (.seq x y) s (contK P E cut stk fin)
theorem runK_cut {x y : Code} (h : isCut cut y = true) : runK P E cut (.seq x y) stk fin s = SeqG P E cut x y stk fin s := by
  show runC cut P E (.seq x y) s _ = _
  simp only [runC]
  rw [if_pos h]
  rfl
theorem isCut_region {l : List Nat} {id : Nat} {ops : Array Oper} {d : Bool} : isCut l (.region id ops d) = l.contains id := congrArg _root_.id rfl
theorem isCut_seq {l : List Nat} {x y : Code} : isCut l (.seq x y) = isCut l x := congrArg _root_.id rfl
theorem isCut_block {l : List Nat} {id : Nat} {x : Code} : isCut l (.block id x) = isCut l x := congrArg _root_.id rfl
theorem isCut_loop {l : List Nat} {x : Code} : isCut l (.loop x) = isCut l x := congrArg _root_.id rfl
theorem isCut_cond {l : List Nat} {c : Operand} {x y : Code} : isCut l (.cond c x y) = false := congrArg _root_.id rfl
theorem isCut_skip {l : List Nat} : isCut l .skip = false := congrArg _root_.id rfl
theorem isCut_exit {l : List Nat} {i : Nat} : isCut l (.exit i) = false := congrArg _root_.id rfl
theorem isCut_ret {l : List Nat} : isCut l .ret = false := congrArg _root_.id rfl
theorem isCut_range {l : List Nat} {f : Operand} {ps : Array Nat} {x b : Code} : isCut l (.rangeFunc f ps x b) = false := congrArg _root_.id rfl
/-- how code ends that is cut off: in states of one form -/
def cutK (E : Env) {Y : Type} (fs : Y → AS) (FI : Y → Prop) (Q : Exit → AS → Prop) : Exit → AS → Prop
  | .normal, s => ∃ y, FI y ∧ Wk E s (fs y)
  | e, s => Q e s
theorem cut_to {Y : Type} {fs : Y → AS} {FI : Y → Prop} {Q : Exit → AS → Prop} (y : Y) (h1 : FI y) (h2 : Wk E s (fs y)) : cutK E fs FI Q .normal s := ⟨y, h1, h2⟩
theorem cutK_ret {Y : Type} {fs : Y → AS} {FI : Y → Prop} {Q : Exit → AS → Prop} : cutK E fs FI Q .ret s = Q .ret s := congrArg _root_.id rfl
theorem cutK_exit {Y : Type} {fs : Y → AS} {FI : Y → Prop} {Q : Exit → AS → Prop} {i : Nat} : cutK E fs FI Q (.exit i) s = Q (.exit i) s := congrArg _root_.id rfl
theorem seq_cut (hm : P.follows .mixedOrders = true) {x y : Code} {Y : Type} (cut' : List Nat) (fs : Y → AS) (FI : Y → Prop) (tail : ∀ v, FI v → runK P E cut y stk fin (fs v)) (body : runK P E cut' x [] (cutK E fs FI (contK P E cut stk fin)) s) : SeqG P E cut x y stk fin s := by
  intro a w hs
  have hb : EW P E x s (cutK E fs FI (contK P E cut stk fin)) := runC_sound (cut := cut') hm x s _ body
  refine wp_seq (Code.wp_mono (fun e a' w' ⟨h0, s', h1, h2⟩ => ?_) (hb a w hs))
  cases e with
  | normal =>
    obtain ⟨v, hv, hw⟩ := h2
    exact runC_sound hm y (fs v) _ (tail v hv) a' w' (hw a' w' h1)
  | _ => exact ⟨h0, s', h1, h2⟩
/-! equations, for where a thing is known (never the definitions themselves: simp would look into what is not come to) -/
section
variable {o : Oper} {K : AS → Prop} {ho : Nat → Bool} {d : Option Nat} {ops : Array Oper}
theorem onPure_some {q : Prop × AV} : onPure P E o s K (some q) = (q.1 ∧ K (s.put o.dst q.2)) := congrArg _root_.id rfl
theorem onPure_none : onPure P E o s K none = onImpl P E o s K (implO P E.ho s o.op) := congrArg _root_.id rfl
theorem onImpl_some {q : Prop × AS × AV} : onImpl P E o s K (some q) = (q.1 ∧ K (q.2.1.put o.dst q.2.2)) := congrArg _root_.id rfl
theorem onImpl_none : onImpl P E o s K none = stepC P E o s K := congrArg _root_.id rfl
theorem onGP_some {c : Bool} {q : Prop × AV} : onGP P E o s K c (some q) = ((c = true → q.1) ∧ K (s.put o.dst (mkG c q.2))) := congrArg _root_.id rfl
theorem onGP_none {c : Bool} : onGP P E o s K c none = condG P E o s K c := congrArg _root_.id rfl
theorem onGV_some {c : Bool} : onGV P E o s K (some c) = onGP P E o s K c (pureV P anyRo s o.op) := congrArg _root_.id rfl
theorem onIt_it {k : Nat} {b : ByteArray} {pos : Nat} : onIt ho s d K k (some (.it b pos)) = (ho k = false ∧ (pos < b.size → K ((s.setO k (.it b (pos + (Utf8.decode b pos).2))).put d (.tup [.c (.bool true), .c (.int .i64 pos), .c (.int .i32 (Utf8.decode b pos).1)]))) ∧ (¬ pos < b.size → K (s.put d (.tup [.c (.bool false)])))) := congrArg _root_.id rfl
theorem nextP_ptr {k : Nat} : nextP ho s d K (.ptr k 0 0) = onIt ho s d K k s.h[k]? := congrArg _root_.id rfl
theorem pickP_bool {a b : AV} {v : Bool} : pickP s d K a b (.c (.bool v)) = if v = true then K (s.put d a) else K (s.put d b) := congrArg _root_.id rfl
theorem callP_clo {K : AS → Prop} {args : List Operand} {g : FuncId} {first caps : List AV} : callP P E s d K args (.clo (.func g) first caps) = (callable P g = true ∧ gcsL s args ∧ CallG P E g (first ++ evL s args ++ caps) s (putK d K)) := congrArg _root_.id rfl
theorem nilEq_sl {op : BinOp} {t : TypeId} {k z o n m : Nat} : nilEq P s d K op t (.sl k z o n m) (.c (.slice none 0 0)) = ((slT P t).isSome = true ∧ (lens s.h)[k]? = some m ∧ nilOp s d K op (m = 0)) := congrArg _root_.id rfl
theorem nilEq_fs {op : BinOp} {t : TypeId} {z n : Nat} {l : List AV} : nilEq P s d K op t (.fs z n l) (.c (.slice none 0 0)) = ((slT P t).isSome = true ∧ nilOp s d K op (n = 0)) := congrArg _root_.id rfl
theorem nilOp_eql {z : Prop} : nilOp s d K .eql z = (K (s.put d (.c (.bool false))) ∧ (z → K (s.put d (.c (.bool true))))) := congrArg _root_.id rfl
theorem nilOp_neq {z : Prop} : nilOp s d K .neq z = (K (s.put d (.c (.bool true))) ∧ (z → K (s.put d (.c (.bool false))))) := congrArg _root_.id rfl
end
def condK (P : Program) (E : Env) (cut : List Nat) (x y : Code) (stk : List Fr) (fin : Exit → AS → Prop) (s : AS) (v : AV) : Prop := condP (runK P E cut x stk fin s) (runK P E cut y stk fin s) v
theorem condK_bool {x y : Code} {b : Bool} : condK P E cut x y stk fin s (.c (.bool b)) = if b = true then runK P E cut x stk fin s else runK P E cut y stk fin s := congrArg _root_.id rfl
theorem runK_cond {c : Operand} {x y : Code} : runK P E cut (.cond c x y) stk fin s = ((s.ev c).gc ∧ condK P E cut x y stk fin s (s.ev c).ung) := congrArg _root_.id rfl
theorem runK_block {id : Nat} {b : Code} : runK P E cut (.block id b) stk fin s = runK P E cut b (.block id :: stk) fin s := congrArg _root_.id rfl
theorem runK_loop {b : Code} : runK P E cut (.loop b) stk fin s = LoopG P E b s (contK P E cut stk fin) := congrArg _root_.id rfl
theorem runK_exit {id : Nat} : runK P E cut (.exit id) stk fin s = contK P E cut stk fin (.exit id) s := congrArg _root_.id rfl
theorem runK_label {l : Nat} : runK P E cut (.label l) stk fin s = contK P E cut stk fin .normal s := congrArg _root_.id rfl
theorem runK_goto {l : Nat} : runK P E cut (.goto l) stk fin s = contK P E cut stk fin (.goto l) s := congrArg _root_.id rfl
theorem runK_ret : runK P E cut .ret stk fin s = contK P E cut stk fin .ret s := congrArg _root_.id rfl
theorem runK_range {f : Operand} {ps : Array Nat} {x b : Code} : runK P E cut (.rangeFunc f ps x b) stk fin s = RangeFG P E (.rangeFunc f ps x b) s (contK P E cut stk fin) := congrArg _root_.id rfl
theorem contK_nil {e : Exit} : contK P E cut [] fin e s = fin e s := congrArg _root_.id rfl
theorem contK_seq {y : Code} : contK P E cut (.seq y :: stk) fin .normal s = runK P E cut y stk fin s := congrArg _root_.id rfl
theorem contK_seq_ret {y : Code} : contK P E cut (.seq y :: stk) fin .ret s = contK P E cut stk fin .ret s := congrArg _root_.id rfl
theorem contK_seq_exit {y : Code} {i : Nat} : contK P E cut (.seq y :: stk) fin (.exit i) s = contK P E cut stk fin (.exit i) s := congrArg _root_.id rfl
theorem contK_seq_goto {y : Code} {i : Nat} : contK P E cut (.seq y :: stk) fin (.goto i) s = contK P E cut stk fin (.goto i) s := congrArg _root_.id rfl
theorem contK_block {id : Nat} : contK P E cut (.block id :: stk) fin .normal s = contK P E cut stk fin .normal s := congrArg _root_.id rfl
theorem contK_block_ret {id : Nat} : contK P E cut (.block id :: stk) fin .ret s = contK P E cut stk fin .ret s := congrArg _root_.id rfl
theorem contK_block_goto {id i : Nat} : contK P E cut (.block id :: stk) fin (.goto i) s = contK P E cut stk fin (.goto i) s := congrArg _root_.id rfl
theorem contK_block_exit {id i : Nat} : contK P E cut (.block id :: stk) fin (.exit i) s = if i = id then contK P E cut stk fin .normal s else contK P E cut stk fin (.exit i) s := congrArg _root_.id rfl
theorem runO_nil {ops : Array Oper} : runO P E cut ops [] stk fin s = contK P E cut stk fin .normal s := congrArg _root_.id rfl
theorem runO_cons {ops : Array Oper} {o : Oper} {l : List Oper} : runO P E cut ops (o :: l) stk fin s = stepP P E ops o s (runO P E cut ops l stk fin) := congrArg _root_.id rfl
def runE (P : Program) (ops : Array Oper) (U : List Nat) (wr : List (Nat × List Nat)) (ho0 : Nat → Bool) (p : Plan) (K : AS → Prop) (s : AS) : Prop := runD P ops U wr ho0 p s K
theorem runE_done {ho0 : Nat → Bool} {ops : Array Oper} {U : List Nat} {wr : List (Nat × List Nat)} {K : AS → Prop} : runE P ops U wr ho0 .done K s = K s := congrArg _root_.id rfl
theorem runE_nil {ho0 : Nat → Bool} {ops : Array Oper} {U : List Nat} {wr : List (Nat × List Nat)} {K : AS → Prop} : runE P ops U wr ho0 .nil K s = True := congrArg _root_.id rfl
def takeG (ops : Array Oper) (o : Oper) (s : AS) (K : AS → Prop) (q : Prop × AV) : Option Bool → Prop
  | some c => (c = true → q.1) ∧ K (s.put o.dst (mkG c q.2))
  | none => False
def takeN (ops : Array Oper) (o : Oper) (s : AS) (K : AS → Prop) (q : Prop × AV) : Option (Nat × Bool) → Prop
  | none => q.1 ∧ K (s.put o.dst q.2)
  | some g => takeG ops o s K q (guardV ops s g.1 g.2)
def takeV (ops : Array Oper) (o : Oper) (s : AS) (K : AS → Prop) : Option (Prop × AV) → Prop
  | some q => takeN ops o s K q o.guard
  | none => False
theorem takeG_some {ops : Array Oper} {o : Oper} {K : AS → Prop} {q : Prop × AV} {c : Bool} : takeG ops o s K q (some c) = ((c = true → q.1) ∧ K (s.put o.dst (mkG c q.2))) := congrArg _root_.id rfl
theorem takeN_none {ops : Array Oper} {o : Oper} {K : AS → Prop} {q : Prop × AV} : takeN ops o s K q none = (q.1 ∧ K (s.put o.dst q.2)) := congrArg _root_.id rfl
theorem takeN_some {ops : Array Oper} {o : Oper} {K : AS → Prop} {q : Prop × AV} {g : Nat × Bool} : takeN ops o s K q (some g) = takeG ops o s K q (guardV ops s g.1 g.2) := congrArg _root_.id rfl
theorem takeV_some {ops : Array Oper} {o : Oper} {K : AS → Prop} {q : Prop × AV} : takeV ops o s K (some q) = takeN ops o s K q o.guard := congrArg _root_.id rfl
theorem takeP_eq {ro : List Nat} {ops : Array Oper} {o : Oper} {K : AS → Prop} : takeP P ro ops o s K = takeV ops o s K (pureV P (fun k => ro.contains k) s o.op) := by
  unfold takeP
  cases hq : pureV P (fun k => ro.contains k) s o.op with
  | none => rfl
  | some q =>
    simp only [takeV]
    cases hg : o.guard with
    | none => rfl
    | some g =>
      obtain ⟨j, want⟩ := g
      simp only [takeN]
      cases guardV ops s j want <;> rfl
def takeO (P : Program) (ro : List Nat) (ops : Array Oper) (s : AS) (K : AS → Prop) : Option Oper → Prop
  | some o => takeP P ro ops o s K
  | none => False
def altO (P : Program) (U : List Nat) (ho : Nat → Bool) (ops : Array Oper) (s : AS) (K : AS → Prop) : Option Oper → Prop
  | some o => ∀ E : Env, stepP P ⟨E.w0, E.L, E.F0, E.G0, lens s.h, allSt, ho, E.mks⟩ ops o s (altK U s K)
  | none => False
theorem takeO_some {ro : List Nat} {ops : Array Oper} {o : Oper} {K : AS → Prop} : takeO P ro ops s K (some o) = takeP P ro ops o s K := congrArg _root_.id rfl
theorem altO_some {U : List Nat} {ho : Nat → Bool} {ops : Array Oper} {o : Oper} {K : AS → Prop} : altO P U ho ops s K (some o) = (∀ E : Env, stepP P ⟨E.w0, E.L, E.F0, E.G0, lens s.h, allSt, ho, E.mks⟩ ops o s (altK U s K)) := congrArg _root_.id rfl
theorem runE_take {ho0 : Nat → Bool} {ops : Array Oper} {U : List Nat} {wr : List (Nat × List Nat)} {K : AS → Prop} {i : Nat} {p : Plan} : runE P ops U wr ho0 (.take i p) K s = takeO P (roOf ops U wr i) ops s (runE P ops U wr ho0 p K) ops[i]? := by
  show runD P ops U wr ho0 (.take i p) s K = _
  unfold runD takeO
  rfl
theorem runE_alt {ho0 : Nat → Bool} {ops : Array Oper} {U : List Nat} {wr : List (Nat × List Nat)} {K : AS → Prop} {i : Nat} {p q : Plan} : runE P ops U wr ho0 (.alt i p q) K s = (altO P U (fun k => (holdOf U wr i).contains k || ho0 k) ops s (runE P ops U wr ho0 p K) ops[i]? ∧ runE P ops U wr ho0 q K s) := by
  show runD P ops U wr ho0 (.alt i p q) s K = _
  unfold runD altO
  rfl
theorem draw_k {ops : Array Oper} (hE : E.ho = noHo) {K : AS → Prop} (p : Plan) (U : List Nat) (wr : List (Nat × List Nat)) (hok : (Region.noSelect ops && noDefer ops && planOk ops true p (Array.replicate ops.size false) && decide (depth p ≤ ops.size)) = true) (hU : ∀ k ∈ U, k < s.h.length) (h : runE P ops U wr noHo p K s) : DrawG P E ops s K := draw_of hE p U wr hok hU h
/-- .. where blocks are held -/
theorem draw_h {ops : Array Oper} (ho0 : Nat → Bool) (hE : E.ho = ho0) {K : AS → Prop} (p : Plan) (U : List Nat) (wr : List (Nat × List Nat)) (hok : (Region.noSelect ops && noDefer ops && planOk ops true p (Array.replicate ops.size false) && decide (depth p ≤ ops.size)) = true) (hU : ∀ k ∈ U, k < s.h.length) (h : runE P ops U wr ho0 p K s) : DrawG P E ops s K := draw_of hE p U wr hok hU h
theorem isCell_c (v : Value) : isCell (.c v) = v.oneCell' := rfl
theorem isCell_ptr (h o m : Nat) : isCell (.ptr h o m) = true := rfl
theorem isCell_sl (h z o n m : Nat) : isCell (.sl h z o n m) = true := rfl
theorem isCell_fs (z n : Nat) (l : List AV) : isCell (.fs z n l) = true := rfl
theorem isCell_fp (l : List AV) : isCell (.fp l) = true := rfl
theorem isCell_clo (f : Fn) (l k : List AV) : isCell (.clo f l k) = true := rfl
@[simp] theorem isD_c (v : Value) : isD (.c v) = true := rfl
theorem st_lt (n k : Nat) : ∀ i, i < k → decide (i < n) = true → (List.range n)[i]? = some i := by
  intro i _ h
  rw [List.getElem?_range (by simpa using h)]
theorem roundK_exit {X : Type} {st : X → AS} {μ : X → Nat} {Inv : X → Prop} {x : X} {Q : Exit → AS → Prop} {i : Nat} : roundK E st μ Inv x Q (.exit i) s = Q (.exit i) s := congrArg _root_.id rfl
theorem roundK_ret {X : Type} {st : X → AS} {μ : X → Nat} {Inv : X → Prop} {x : X} {Q : Exit → AS → Prop} : roundK E st μ Inv x Q .ret s = Q .ret s := congrArg _root_.id rfl
theorem roundK_goto {X : Type} {st : X → AS} {μ : X → Nat} {Inv : X → Prop} {x : X} {Q : Exit → AS → Prop} {i : Nat} : roundK E st μ Inv x Q (.goto i) s = Q (.goto i) s := congrArg _root_.id rfl
theorem round_next {X : Type} {st : X → AS} {μ : X → Nat} {Inv : X → Prop} {x : X} {Q : Exit → AS → Prop} (x' : X) (h1 : Inv x') (h2 : μ x' < μ x) (h3 : Wk E s (st x')) : roundK E st μ Inv x Q .normal s := ⟨x', h1, h2, h3⟩
theorem st_pre (n : Nat) (l : List Nat) (k : Nat) : ∀ i, i < k → decide (i < n) = true → (List.range n ++ l)[i]? = some i := by
  intro i _ h
  have h : i < n := by simpa using h
  rw [List.getElem?_append_left (by simpa using h), List.getElem?_range h]
def slotsOf (n : Nat) (l : List (Nat × AV)) : List AV := l.foldl (fun t p => t.set p.1 p.2) (anyS n)
theorem rowZ_zero (z : List Value) : rowZ 0 z = [] := by simp [rowZ]
theorem rowZ_succ (n : Nat) (z : List Value) : rowZ (n + 1) z = z.map AV.c ++ rowZ n z := by simp [rowZ, List.replicate_succ]
theorem rowZ_one (z : List Value) : rowZ 1 z = z.map .c := by simp [rowZ]
theorem rowZ_2 (z : List Value) : rowZ 2 z = z.map AV.c ++ rowZ 1 z := rowZ_succ 1 z
theorem rowZ_3 (z : List Value) : rowZ 3 z = z.map AV.c ++ rowZ 2 z := rowZ_succ 2 z
theorem rowZ_4 (z : List Value) : rowZ 4 z = z.map AV.c ++ rowZ 3 z := rowZ_succ 3 z
theorem rowZ_5 (z : List Value) : rowZ 5 z = z.map AV.c ++ rowZ 4 z := rowZ_succ 4 z
theorem rowZ_6 (z : List Value) : rowZ 6 z = z.map AV.c ++ rowZ 5 z := rowZ_succ 5 z
theorem rowZ_7 (z : List Value) : rowZ 7 z = z.map AV.c ++ rowZ 6 z := rowZ_succ 6 z
theorem rowZ_8 (z : List Value) : rowZ 8 z = z.map AV.c ++ rowZ 7 z := rowZ_succ 7 z
theorem rowZ_9 (z : List Value) : rowZ 9 z = z.map AV.c ++ rowZ 8 z := rowZ_succ 8 z
theorem rowZ_10 (z : List Value) : rowZ 10 z = z.map AV.c ++ rowZ 9 z := rowZ_succ 9 z
theorem rowZ_11 (z : List Value) : rowZ 11 z = z.map AV.c ++ rowZ 10 z := rowZ_succ 10 z
theorem rowZ_12 (z : List Value) : rowZ 12 z = z.map AV.c ++ rowZ 11 z := rowZ_succ 11 z
def Ret (st : Nat → Bool) (Post : AV → List AObj → Prop) (h : List AObj) (r : AV) : Prop := ∃ h' r', Clean st h r h' r' ∧ Post r' h'
theorem RetP_eq {st : Nat → Bool} {rs : List ResultVar} {Post : AV → List AObj → Prop} : RetP P st rs Post s = (match resV P s rs with | some q => q.1 ∧ Ret st Post s.h (oneV q.2) | none => False) := rfl
theorem acallsC (cut : List Nat) {f : FuncId} {fn : Func} {c : Code} {args : List AV} {h : List AObj} {st : Nat → Bool} {Post : AV → List AObj → Prop} {rs : List ResultVar} {n : Nat} (hm : P.follows .mixedOrders = true) (hf : P.funcs[f]? = some fn) (hb : fn.body = some c) (hn : fn.ntmps = n) (hrs : fn.results.toList = rs)
    (H : ∀ E, E.ln0 = lens h → E.st = st → E.ho = noHo → runK P E cut c [] (retK P st rs Post) ⟨args ++ anyS (n - args.length), h⟩) : ACalls P f args h st Post := acalls_of_run hm hf hb hn hrs H
theorem acalls {f : FuncId} {fn : Func} {c : Code} {args : List AV} {h : List AObj} {st : Nat → Bool} {Post : AV → List AObj → Prop} {rs : List ResultVar} {n : Nat} (hm : P.follows .mixedOrders = true) (hf : P.funcs[f]? = some fn) (hb : fn.body = some c) (hn : fn.ntmps = n) (hrs : fn.results.toList = rs)
    (H : ∀ E, E.ln0 = lens h → E.st = st → E.ho = noHo → runK P E [] c [] (retK P st rs Post) ⟨args ++ anyS (n - args.length), h⟩) : ACalls P f args h st Post := acallsC [] hm hf hb hn hrs H
theorem acallsMC (cut : List Nat) {f : FuncId} {fn : Func} {c : Code} {args : List AV} {h : List AObj} {st : Nat → Bool} {Post : AV → List AObj → Prop} {rs : List ResultVar} {n : Nat} (hm : P.follows .mixedOrders = true) (hf : P.funcs[f]? = some fn) (hb : fn.body = some c) (hn : fn.ntmps = n) (hrs : fn.results.toList = rs)
    (H : ∀ E, E.ln0 = lens h → E.st = st → E.ho = noHo → (∀ D, E.w0.heap.size ≤ D → E.mks D) → runK P E cut c [] (retK P st rs Post) ⟨args ++ anyS (n - args.length), h⟩) : ACalls P f args h st Post := acalls_of_runM hm hf hb hn hrs H
theorem acallsM {f : FuncId} {fn : Func} {c : Code} {args : List AV} {h : List AObj} {st : Nat → Bool} {Post : AV → List AObj → Prop} {rs : List ResultVar} {n : Nat} (hm : P.follows .mixedOrders = true) (hf : P.funcs[f]? = some fn) (hb : fn.body = some c) (hn : fn.ntmps = n) (hrs : fn.results.toList = rs)
    (H : ∀ E, E.ln0 = lens h → E.st = st → E.ho = noHo → (∀ D, E.w0.heap.size ≤ D → E.mks D) → runK P E [] c [] (retK P st rs Post) ⟨args ++ anyS (n - args.length), h⟩) : ACalls P f args h st Post := acallsMC [] hm hf hb hn hrs H
theorem loop_kc (cut : List Nat) (hm : P.follows .mixedOrders = true) {X : Type} {b : Code} {Q : Exit → AS → Prop} (st : X → AS) (μ : X → Nat) (Inv : X → Prop) (x0 : X) (h0 : Inv x0) (hw : Wk E s (st x0)) (round : ∀ x, Inv x → runK P E cut b [] (roundK E st μ Inv x Q) (st x)) : LoopG P E b s Q := loop_of hm st μ Inv x0 h0 hw round
theorem loop_k (hm : P.follows .mixedOrders = true) {X : Type} {b : Code} {Q : Exit → AS → Prop} (st : X → AS) (μ : X → Nat) (Inv : X → Prop) (x0 : X) (h0 : Inv x0) (hw : Wk E s (st x0)) (round : ∀ x, Inv x → runK P E [] b [] (roundK E st μ Inv x Q) (st x)) : LoopG P E b s Q := loop_kc [] hm st μ Inv x0 h0 hw round
/-- how a loop is left by its own exit: in states of one form, told by y -/
def exitK (E : Env) {Y : Type} (fs : Y → AS) (FI : Y → Prop) (ex : Nat) (Q : Exit → AS → Prop) : Exit → AS → Prop
  | .exit i, s => if i = ex then ∃ y, FI y ∧ Wk E s (fs y) else Q (.exit i) s
  | e, s => Q e s
theorem exit_to {Y : Type} {fs : Y → AS} {FI : Y → Prop} {ex : Nat} {Q : Exit → AS → Prop} (y : Y) (h1 : FI y) (h2 : Wk E s (fs y)) : exitK E fs FI ex Q (.exit ex) s := by
  show (if ex = ex then ∃ y, FI y ∧ Wk E s (fs y) else Q (.exit ex) s)
  rw [if_pos rfl]; exact ⟨y, h1, h2⟩
theorem exitK_ret {Y : Type} {fs : Y → AS} {FI : Y → Prop} {ex : Nat} {Q : Exit → AS → Prop} : exitK E fs FI ex Q .ret s = Q .ret s := congrArg _root_.id rfl
theorem LoopG_cut {b : Code} {Q : Exit → AS → Prop} {Y : Type} {fs : Y → AS} {FI : Y → Prop} {ex : Nat} (tail : ∀ y, FI y → Q (.exit ex) (fs y)) (h : LoopG P E b s (exitK E fs FI ex Q)) : LoopG P E b s Q := by
  intro a w hs
  refine Code.wp_mono (fun e a' w' ⟨hp, s', h1, h2⟩ => ?_) (h a w hs)
  refine ⟨hp, ?_⟩
  cases e with
  | exit i =>
    unfold exitK at h2
    simp only at h2
    split at h2
    · rename_i hi
      obtain ⟨y, hy, hw⟩ := h2
      subst hi
      exact ⟨fs y, hw a' w' h1, tail y hy⟩
    · exact ⟨s', h1, h2⟩
  | _ => exact ⟨s', h1, h2⟩
theorem loop_k2c (cut : List Nat) (hm : P.follows .mixedOrders = true) {X Y : Type} {b : Code} {Q : Exit → AS → Prop} (st : X → AS) (μ : X → Nat) (Inv : X → Prop) (x0 : X) (fs : Y → AS) (FI : Y → Prop) (ex : Nat) (h0 : Inv x0) (hw : Wk E s (st x0)) (tail : ∀ y, FI y → Q (.exit ex) (fs y)) (round : ∀ x, Inv x → runK P E cut b [] (roundK E st μ Inv x (exitK E fs FI ex Q)) (st x)) : LoopG P E b s Q :=
  LoopG_cut tail (loop_kc cut hm st μ Inv x0 h0 hw round)
theorem loop_k2 (hm : P.follows .mixedOrders = true) {X Y : Type} {b : Code} {Q : Exit → AS → Prop} (st : X → AS) (μ : X → Nat) (Inv : X → Prop) (x0 : X) (fs : Y → AS) (FI : Y → Prop) (ex : Nat) (h0 : Inv x0) (hw : Wk E s (st x0)) (tail : ∀ y, FI y → Q (.exit ex) (fs y)) (round : ∀ x, Inv x → runK P E [] b [] (roundK E st μ Inv x (exitK E fs FI ex Q)) (st x)) : LoopG P E b s Q := loop_k2c [] hm st μ Inv x0 fs FI ex h0 hw tail round
/-- a call that borrows these blocks and whose answer is known -/
theorem call_x {g : FuncId} {args : List AV} {K : AV → AS → Prop} (lent : List Nat) {cargs : List AV} {ch : List AObj} {st : Nat → Bool} {r : AV} {h' : List AObj} {pa po : Prop} {cargs' : List AV} {ch' : List AObj} (hc : ACalls P g cargs' ch' st (fun a b => a = r ∧ b = h'))
    (ha : AV.convL lent (fun _ => false) s.h args = some (pa, cargs)) (ho : convOs lent (fun _ => false) s.h lent = some (po, ch)) (hx : cargs = cargs' ∧ ch = ch') (hE : E.ho = noHo) (hst : ∀ i, i < lent.length → st i = true) (hn : lent.Nodup) (hp : pa ∧ po) (hl : lent.length ≤ h'.length)
    (hK : K (r.reb (backIx lent s.h.length)) ⟨s.t, afterH lent (fun _ => false) s.h h'⟩) : CallG P E g args s K := by
  obtain ⟨rfl, rfl⟩ := hx
  have hd1 : ∀ v : AV, v.liv [] = true := by
    intro v
    refine AV.rec (motive_1 := fun v => v.liv [] = true) (motive_2 := fun l => AV.livL [] l = true) ?_ ?_ ?_ ?_ ?_ ?_ ?_ ?_ ?_ ?_ ?_ ?_ v <;> simp_all [AV.liv, AV.livL]
  have hd2 : ∀ l : List AV, AV.livL [] l = true := by
    intro l
    induction l with
    | nil => simp [AV.livL]
    | cons v l ih => simp [AV.livL, hd1 v, ih]
  have hd3 : ∀ (h : List AObj) (n : Nat), livH [] lent n h = true := by
    intro h
    induction h with
    | nil => intro n; simp [livH]
    | cons o h ih =>
      intro n
      simp only [livH, ih, Bool.and_true, Bool.or_eq_true]
      right
      cases o with
      | it _ _ => rfl
      | o k cs => cases k <;> simp [livO, hd2]
  exact call_of lent (fun _ => false) [] hc ha hp.1 ho hp.2 hn (fun _ _ => rfl) (fun i k h => .inl (hst i (List.getElem?_eq_some_iff.1 h).1)) (hd2 _) (hd3 _ _) (fun k h => by cases h) (fun k _ => by rw [hE]; rfl) (fun k h => by cases h) fun a b ⟨e1, e2⟩ => by subst e1 e2; exact ⟨hl, hK⟩
/-- .. and to which other blocks (ok) are handed as data, that stay so -/
theorem call_f {g : FuncId} {args : List AV} {K : AV → AS → Prop} (lent : List Nat) (ok : Nat → Bool) {cargs : List AV} {ch : List AObj} {st : Nat → Bool} {r : AV} {h' : List AObj} {pa po : Prop} {cargs' : List AV} {ch' : List AObj} (hc : ACalls P g cargs' ch' st (fun a b => a = r ∧ b = h'))
    (ha : AV.convL lent ok s.h args = some (pa, cargs)) (ho : convOs lent ok s.h lent = some (po, ch)) (hx : cargs = cargs' ∧ ch = ch') (hE : E.ho = noHo) (hst : ∀ i, i < lent.length → st i = true) (hn : lent.Nodup) (hok : ∀ k ∈ lent, ok k = false) (hp : pa ∧ po) (hl : lent.length ≤ h'.length)
    (hK : K (r.reb (backIx lent s.h.length)) ⟨s.t, afterH lent ok s.h h'⟩) : CallG P E g args s K := by
  obtain ⟨rfl, rfl⟩ := hx
  have hd1 : ∀ v : AV, v.liv [] = true := by
    intro v
    refine AV.rec (motive_1 := fun v => v.liv [] = true) (motive_2 := fun l => AV.livL [] l = true) ?_ ?_ ?_ ?_ ?_ ?_ ?_ ?_ ?_ ?_ ?_ ?_ v <;> simp_all [AV.liv, AV.livL]
  have hd2 : ∀ l : List AV, AV.livL [] l = true := by
    intro l
    induction l with
    | nil => simp [AV.livL]
    | cons v l ih => simp [AV.livL, hd1 v, ih]
  have hd3 : ∀ (h : List AObj) (n : Nat), livH [] lent n h = true := by
    intro h
    induction h with
    | nil => intro n; simp [livH]
    | cons o h ih =>
      intro n
      simp only [livH, ih, Bool.and_true, Bool.or_eq_true]
      right
      cases o with
      | it _ _ => rfl
      | o k cs => cases k <;> simp [livO, hd2]
  exact call_of lent ok [] hc ha hp.1 ho hp.2 hn hok (fun i k h => .inl (hst i (List.getElem?_eq_some_iff.1 h).1)) (hd2 _) (hd3 _ _) (fun k h => by cases h) (fun k _ => by rw [hE]; rfl) (fun k _ => by rw [hE]; rfl) fun a b ⟨e1, e2⟩ => by subst e1 e2; exact ⟨hl, hK⟩
/-- .. after which some of the handles (dead) are no more what they were: no slot and no other block names them -/
theorem call_d {g : FuncId} {args : List AV} {K : AV → AS → Prop} (lent : List Nat) (ok : Nat → Bool) (dead : List Nat) {cargs : List AV} {ch : List AObj} {st : Nat → Bool} {r : AV} {h' : List AObj} {pa po : Prop} {cargs' : List AV} {ch' : List AObj} (hc : ACalls P g cargs' ch' st (fun a b => a = r ∧ b = h'))
    (ha : AV.convL lent ok s.h args = some (pa, cargs)) (ho : convOs lent ok s.h lent = some (po, ch)) (hx : cargs = cargs' ∧ ch = ch') (hE : E.ho = noHo) (hst : ∀ (i k : Nat), lent[i]? = some k → st i = true ∨ k ∈ dead) (hdt : AV.livL dead s.t = true) (hdo : livH dead lent 0 s.h = true) (hde : ∀ k ∈ dead, E.st k = false ∨ E.ln0.length ≤ k)
    (hn : lent.Nodup) (hok : ∀ k ∈ lent, ok k = false) (hp : pa ∧ po) (hl : lent.length ≤ h'.length) (hK : K (r.reb (backIx lent s.h.length)) ⟨s.t, afterH lent ok s.h h'⟩) : CallG P E g args s K := by
  obtain ⟨rfl, rfl⟩ := hx
  exact call_of lent ok dead hc ha hp.1 ho hp.2 hn hok hst hdt hdo hde (fun k _ => by rw [hE]; rfl) (fun k _ => by rw [hE]; rfl) fun a b ⟨e1, e2⟩ => by subst e1 e2; exact ⟨hl, hK⟩
/-- as call_x, where blocks are held -/
theorem call_h {g : FuncId} {args : List AV} {K : AV → AS → Prop} (lent : List Nat) {cargs : List AV} {ch : List AObj} {st : Nat → Bool} {r : AV} {h' : List AObj} {pa po : Prop} {cargs' : List AV} {ch' : List AObj} (hc : ACalls P g cargs' ch' st (fun a b => a = r ∧ b = h'))
    (ha : AV.convL lent (fun _ => false) s.h args = some (pa, cargs)) (ho : convOs lent (fun _ => false) s.h lent = some (po, ch)) (hx : cargs = cargs' ∧ ch = ch') (hE : ∀ k ∈ lent, E.ho k = false) (hst : ∀ i, i < lent.length → st i = true) (hn : lent.Nodup) (hp : pa ∧ po) (hl : lent.length ≤ h'.length)
    (hK : K (r.reb (backIx lent s.h.length)) ⟨s.t, afterH lent (fun _ => false) s.h h'⟩) : CallG P E g args s K := by
  obtain ⟨rfl, rfl⟩ := hx
  have hd1 : ∀ v : AV, v.liv [] = true := by
    intro v
    refine AV.rec (motive_1 := fun v => v.liv [] = true) (motive_2 := fun l => AV.livL [] l = true) ?_ ?_ ?_ ?_ ?_ ?_ ?_ ?_ ?_ ?_ ?_ ?_ v <;> simp_all [AV.liv, AV.livL]
  have hd2 : ∀ l : List AV, AV.livL [] l = true := by
    intro l
    induction l with
    | nil => simp [AV.livL]
    | cons v l ih => simp [AV.livL, hd1 v, ih]
  have hd3 : ∀ (h : List AObj) (n : Nat), livH [] lent n h = true := by
    intro h
    induction h with
    | nil => intro n; simp [livH]
    | cons o h ih =>
      intro n
      simp only [livH, ih, Bool.and_true, Bool.or_eq_true]
      right
      cases o with
      | it _ _ => rfl
      | o k cs => cases k <;> simp [livO, hd2]
  exact call_of lent (fun _ => false) [] hc ha hp.1 ho hp.2 hn (fun _ _ => rfl) (fun i k h => .inl (hst i (List.getElem?_eq_some_iff.1 h).1)) (hd2 _) (hd3 _ _) (fun k h => by cases h) hE (fun k h => by cases h) fun a b ⟨e1, e2⟩ => by subst e1 e2; exact ⟨hl, hK⟩
theorem Ret.same {st : Nat → Bool} {h : List AObj} {r : AV} {Post : AV → List AObj → Prop} (hp : Post r h) : Ret st Post h r := ret_same hp
theorem Ret.drop {h : List AObj} {r : AV} {Post : AV → List AObj → Prop} (hpl : plainV r = true) (hp : Post r []) : Ret (fun _ => false) Post h r := ret_drop hpl hp
theorem Ret.wk {st : Nat → Bool} {h h2 : List AObj} {r r2 : AV} {Post : AV → List AObj → Prop} (hw : ∀ E : Env, E.ln0 = lens h → Wk E ⟨[r], h⟩ ⟨[r2], h2⟩) (hr : Ret st Post h2 r2) : Ret st Post h r := let ⟨h', r', hc, hp⟩ := hr; ⟨h', r', hc.wk hw, hp⟩
theorem Ret.sel {h h' : List AObj} {r r' : AV} {st : Nat → Bool} {Post : AV → List AObj → Prop} (keep : List Nat) (ok : Nat → Bool) {po pa : Prop} (ho : convOs keep ok h keep = some (po, h')) (ha : AV.conv keep ok h r = some (pa, r')) (hpo : po) (hpa : pa) (hn : keep.Nodup) (hok : ∀ k ∈ keep, ok k = false)
    (hst : ∀ i, i < h.length → st i = true → keep[i]? = some i) (hp : Post r' h') : Ret st Post h r := ret_sel keep ok ho ha hpo hpa hn hok hst hp
end
end Go.Proofs.Ytmgpiminicgbiaa
