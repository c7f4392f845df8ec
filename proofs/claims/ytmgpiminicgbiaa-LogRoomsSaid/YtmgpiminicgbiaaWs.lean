import Derived.Test.YtmgpiminicgbiaaOpn
namespace Go.Proofs.Ytmgpiminicgbiaa
set_option linter.unusedVariables false
set_option linter.unusedSimpArgs false
open Go.RowKit
section
variable {P : Program} {E : Env} {s : AS}
/-- what is known is told with fewer blocks, in another order -/
theorem wk_sel {s' : AS} (keep : List Nat) (t1 : List AV) {t' : List AV} {h' : List AObj} {po pa : Prop} (hE : E.ho = noHo) (ht : wkL [] s.t t1) (ho : convOs keep (fun _ => false) s.h keep = some (po, h')) (ha : AV.convL keep (fun _ => false) s.h t1 = some (pa, t')) (hpo : po) (hpa : pa) (hn : keep.Nodup)
    (hst : ∀ i, i < s.h.length → E.st i = true → keep[i]? = some i) (hl : E.ln0.length ≤ s.h.length) (e1 : t' = s'.t) (e2 : h' = s'.h) : Wk E s s' := by
  refine Wk.trans (s' := ⟨t1, s.h⟩) (wk_of s.h.length 0 rfl hl (List.take_length ..) ?_ (by simpa using ht)) ?_
  · have hd1 : ∀ v : AV, v.liv [] = true := by
      intro v
      refine AV.rec (motive_1 := fun v => v.liv [] = true) (motive_2 := fun l => AV.livL [] l = true) ?_ ?_ ?_ ?_ ?_ ?_ ?_ ?_ ?_ ?_ ?_ ?_ v <;> simp_all [AV.liv, AV.livL]
    have hd2 : ∀ l : List AV, AV.livL [] l = true := by
      intro l
      induction l with
      | nil => simp [AV.livL]
      | cons v l ih => simp [AV.livL, hd1 v, ih]
    have hd3 : ∀ (h : List AObj) (n : Nat), livH [] [] n h = true := by
      intro h
      induction h with
      | nil => intro n; simp [livH]
      | cons o h ih =>
        intro n
        simp only [livH, ih, Bool.and_true, Bool.or_eq_true]
        right
        cases o with
        | it _ _ => rfl
        | o k cs => cases k <;> simp [livO, hd2]
    simpa using hd3 s.h 0
  · intro a w ⟨G, F, hr⟩
    have hrep : RepV G (lens s.h) F w (.tup t1) (.tuple a.tmps) := .tup _ _ hr.len.symm (fun j u x hu hx => hr.slot j u x hu hx)
    obtain ⟨G', F', hf, hv, hs⟩ := Clean.sel keep (fun _ => false) ho (r := .tup t1) (r' := .tup t') (pa := pa) (by simp [AV.conv, ha]) hpo hpa hn (fun _ _ => rfl) hst E G F w _ hE hr.fin hrep
    obtain ⟨cs, e, g1, g2⟩ := tup_inv hv
    injection e with e; subst e
    obtain ⟨t2, h2⟩ := s'
    simp only at e1 e2
    subst e1 e2
    exact ⟨G', F', ⟨g1.symm, hr.def0.keep fun D _ hD => ⟨fun hF => by obtain ⟨c, t, f, e⟩ := hf.fc D hF; rw [hD] at e; simp at e, rfl⟩, fun i u v hu hv => g2 i u v hu hv, hf.heap, hf.mod, hf.sup, hf.fsup, hf.f0, hf.fc, hr.lat.trans hs⟩⟩
end
end Go.Proofs.Ytmgpiminicgbiaa
