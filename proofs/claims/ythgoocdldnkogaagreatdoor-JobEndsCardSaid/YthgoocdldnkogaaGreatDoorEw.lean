import Derived.Test.YthgoocdldnkogaaGreatDoorHW
namespace Go.Proofs.YthgoocdldnkogaaGreatDoor
set_option linter.unusedVariables false
set_option linter.unusedSimpArgs false
open Go.RowKit
def splitC : Nat → Code → Option (Code × Code)
 | 1, .seq x y => some (x, y)
 | n + 2, .seq x y => match splitC (n + 1) y with
  | some (a, b) => some (.seq x a, b)
  | none => none
 | _, _ => none
def dropC : Nat → Code → Option Code
 | 0, c => some c
 | n + 1, .seq _ y => dropC n y
 | _, _ => none
def takeC (i n : Nat) (o : Option Code) : Option Code := match o with
 | some c => match dropC i c with
  | some d => match splitC n d with
   | some p => some p.1
   | none => none
  | none => none
 | none => none
def OnC (R : Code → Prop) (o : Option Code) : Prop := ∃ c, o = some c ∧ R c
theorem OnC.mk {R : Code → Prop} {o : Option Code} {c : Code} (h : o = some c) (hr : R c) : OnC R o := ⟨c, h, hr⟩
theorem OnC.out {R : Code → Prop} {o : Option Code} {c : Code} (h : OnC R o) (e : o = some c) : R c := by
 obtain ⟨d, h1, h2⟩ := h
 rw [e] at h1; injection h1 with h1; subst h1; exact h2
section
variable {P : Program} {E : Env} {s : AS} {Q : Exit → AS → Prop}
theorem ew_split (hm : P.follows .mixedOrders = true) : ∀ (n : Nat) {c x y : Code} (_ : splitC n c = some (x, y)) {s : AS} {Q' : Exit → AS → Prop} (_ : ∀ s', Q' .normal s' → EW P E y s' Q) (_ : ∀ e s', e ≠ .normal → Q' e s' → Q e s'), runC [] P E x s Q' → EW P E c s Q := by
 intro n
 induction n with
 | zero => intro c x y h; simp [splitC] at h
 | succ n ih =>
  intro c x y h s Q' hn he hx
  cases c with
  | seq u v =>
   cases n with
   | zero =>
    simp only [splitC, Option.some.injEq, Prod.mk.injEq] at h
    obtain ⟨rfl, rfl⟩ := h
    intro a w hs
    refine wp_seq (Code.wp_mono (fun e a' w' ⟨h0, s', h1, h2⟩ => ?_) (runC_sound (cut := []) hm u s _ hx a w hs))
    cases e with
    | normal => exact hn s' h2 a' w' h1
    | _ => exact ⟨h0, s', h1, he _ s' (by simp) h2⟩
   | succ n =>
    simp only [splitC] at h
    split at h
    ·rename_i p q hp
     injection h with h; injection h with h1 h2; subst h1 h2
     simp only [runC] at hx
     rw [if_neg (by rw [isCut_nil]; decide)] at hx
     intro a w hs
     refine wp_seq (Code.wp_mono (fun e a' w' ⟨h0, s', h1, h2⟩ => ?_) (runC_sound (cut := []) hm u s _ hx a w hs))
     cases e with
     | normal => exact ih hp hn he h2 a' w' h1
     | _ => exact ⟨h0, s', h1, he _ s' (by simp) h2⟩
    ·cases h
  | _ => simp [splitC] at h
theorem ew_cut (hm : P.follows .mixedOrders = true) (n : Nat) {c x y : Code} {Y : Type} (fs : Y → AS) (FI : Y → Prop) (hc : splitC n c = some (x, y)) (tail : ∀ v, FI v → EW P E y (fs v) Q) (body : runK P E [] x [] (cutK E fs FI Q) s) : EW P E c s Q := by
 refine ew_split hm n hc (Q' := contK P E [] [] (cutK E fs FI Q)) (fun s' h => ?_) (fun e s' hne h => ?_) body
 ·rw [contK_nil] at h
  obtain ⟨v, hv, hw⟩ := h
  exact fun a w hs => tail v hv a w (hw a w hs)
 ·rw [contK_nil] at h
  cases e with
  | normal => exact absurd rfl hne
  | _ => exact h
theorem ew_run (hm : P.follows .mixedOrders = true) (cut : List Nat) {c : Code} (h : runK P E cut c [] Q s) : EW P E c s Q := by
 have := runC_sound (cut := cut) hm c s _ h
 intro a w hs
 refine Code.wp_mono (fun e a' w' h => ?_) (this a w hs)
 obtain ⟨h0, s', h1, h2⟩ := h
 rw [contK_nil] at h2
 exact ⟨h0, s', h1, h2⟩
theorem acallsE {f : FuncId} {fn : Func} {c : Code} {args : List AV} {h : List AObj} {st : Nat → Bool} {Post : AV → List AObj → Prop} {rs : List ResultVar} {n : Nat} (hm : P.follows .mixedOrders = true) (hf : P.funcs[f]? = some fn) (hb : fn.body = some c) (hn : fn.ntmps = n) (hrs : fn.results.toList = rs)
  (H : ∀ E, E.ln0 = lens h → E.st = st → E.ho = noHo → EW P E c ⟨args ++ anyS (n - args.length), h⟩ (retK P st rs Post)) : ACalls P f args h st Post :=
 acalls_of_EW hm hf hb hn hrs fun E h1 h2 h3 _ => H E h1 h2 h3
end
end Go.Proofs.YthgoocdldnkogaaGreatDoor
