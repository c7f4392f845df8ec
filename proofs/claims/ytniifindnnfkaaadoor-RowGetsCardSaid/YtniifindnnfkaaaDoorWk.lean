import Derived.Test.YtniifindnnfkaaaDoorG4
namespace Go.Proofs.YtniifindnnfkaaaDoor
set_option linter.unusedVariables false
set_option linter.unusedSimpArgs false
open Go.RowKit
/-! ## More ways to tell a state (for seats without a device) -/
section
variable {P : Program} {E : Env} {s s' : AS}
theorem livL_nil (l : List AV) : AV.livL [] l = true := by
  have hd1 : ∀ v : AV, v.liv [] = true := by
    intro v
    refine AV.rec (motive_1 := fun v => v.liv [] = true) (motive_2 := fun l => AV.livL [] l = true) ?_ ?_ ?_ ?_ ?_ ?_ ?_ ?_ ?_ ?_ ?_ ?_ ?_ ?_ v <;> simp_all [AV.liv, AV.livL]
  induction l with
  | nil => simp [AV.livL]
  | cons v l ih => simp [AV.livL, hd1 v, ih]
theorem livH_nil (lent : List Nat) (h : List AObj) : ∀ n, livH [] lent n h = true := by
  induction h with
  | nil => intro n; simp [livH]
  | cons o h ih =>
    intro n
    simp only [livH, ih, Bool.and_true, Bool.or_eq_true]
    right
    cases o with
    | raw _ => rfl
    | o k cs => cases k <;> simp [livO, livL_nil]
/-- told otherwise, no block less -/
theorem wk_eq (hn : E.ln0.length ≤ s.h.length) (hh : s.h = s'.h) (ht : wkL [] s.t s'.t) : Wk E s s' :=
  wk_of s.h.length 0 rfl hn (by rw [List.take_length, hh]) (by simpa using livH_nil _ _ _) (by simpa using ht)
/-- how a region that draws ends: in states of one form -/
def dcutK (E : Env) {Y : Type} (fs : Y → AS) (FI : Y → Prop) (s : AS) : Prop := ∃ y, FI y ∧ Wk E s (fs y)
theorem draw_cut {ops : Array Oper} {K : AS → Prop} {Y : Type} (fs : Y → AS) (FI : Y → Prop) (tail : ∀ y, FI y → K (fs y)) (h : DrawG P E ops s (dcutK E fs FI)) : DrawG P E ops s K := fun a w hs N hN => h a w hs N fun s' a' w' h1 ⟨y, h2, h3⟩ => hN _ a' w' (h3 a' w' h1) (tail y h2)
theorem dcut_to {Y : Type} {fs : Y → AS} {FI : Y → Prop} (y : Y) (h1 : FI y) (h2 : Wk E s (fs y)) : dcutK E fs FI s := ⟨y, h1, h2⟩
theorem rangeFG_w {c : Code} {Q : Exit → AS → Prop} (hw : Wk E s s') (h : RangeFG P E c s' Q) : RangeFG P E c s Q := fun a w hs => h a w (hw a w hs)
theorem callG_args {g : FuncId} {args args' : List AV} {K : AV → AS → Prop} (hl : args'.length = args.length)
    (hw : ∀ (G : Gh) (F : Nat → Prop) (w : World) (j : Nat) (u u' : AV) (x : Value), args[j]? = some u → args'[j]? = some u' → RepV G (lens s.h) F w u x → RepV G (lens s.h) F w u' x)
    (h : CallG P E g args' s K) : CallG P E g args s K := by
  intro G F a w vs hr hn hv
  refine h G F a w vs hr (hl.trans hn) fun j u x h1 h2 => ?_
  have hj : j < args.length := by rw [← hl]; exact (List.getElem?_eq_some_iff.mp h1).1
  exact hw G F w j args[j] u x (List.getElem?_eq_getElem hj) h1 (hv j _ x (List.getElem?_eq_getElem hj) h2)
/-- argument i, which is nil, is an empty slice -/
theorem callG_nilAt {g : FuncId} {args : List AV} (i sz : Nat) {K : AV → AS → Prop} (hi : args[i]? = some (.c (.slice none 0 0))) (h : CallG P E g (args.set i (.fs sz 0 [])) s K) : CallG P E g args s K := by
  refine callG_args (args' := args.set i (.fs sz 0 [])) (by simp) ?_ h
  intro G F w j u u' x h1 h2 h3
  rw [List.getElem?_set] at h2
  split at h2
  · rename_i e; subst e
    rw [hi] at h1; injection h1 with h1; subst h1
    split at h2
    · injection h2 with h2; subst h2; exact nil_fs0 sz h3
    · cases h2
  · rw [h1] at h2; injection h2 with h2; subst h2; exact h3
end
end Go.Proofs.YtniifindnnfkaaaDoor
