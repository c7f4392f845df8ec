import Derived.Test.YtjgdlocgoiinbaaGreatDoorHV
namespace Go.Proofs.YtjgdlocgoiinbaaGreatDoor
set_option linter.unusedVariables false
set_option linter.unusedSimpArgs false
open Go.RowKit Go.Shelf
theorem acalls_post {P : Program} {f : FuncId} {args : List Value} (st : Nat → Bool) {Q : AV → Prop} (h : ∀ w, TabW w → Calls P f args.toArray w fun e w' => ∃ v r, e = .returned v ∧ Q r ∧ (∀ G F, RepV G [] F w' r v) ∧ Below w.heap.size w w') : ACalls P f (args.map AV.c) [] st (fun r h' => Q r ∧ h' = []) := by
  intro G F w vs hr hfc hl
  have hvs : vs = args.toArray := by
    apply Array.ext'
    simp only [List.toList_toArray]
    apply List.ext_getElem?
    intro j
    obtain ⟨h1, h2⟩ := hl
    by_cases hj : j < args.length
    · have hj2 : j < vs.size := by rw [← h1]; simpa using hj
      have := (h2 j (.c args[j]) vs[j] (by simp [hj]) (by simp [hj2])).c_inv
      simp [hj, hj2, this]
    · have hj2 : ¬ j < vs.size := by rw [← h1]; simpa using hj
      simp [hj, hj2]
  subst hvs
  refine (h w hfc.tabW).mono fun e w' ⟨v, r, he, hq, hrep, hb⟩ => ?_
  have hk : ∀ b, F b → w'.heap[b]? = w.heap[b]? := fun b hb' => hb.block b (hfc.lt b hb')
  exact ⟨v, r, [], G, F, he, ⟨⟨fun k x hk => by simp at hk, fun j k x y hj => by simp at hj⟩, Mod.of_below hb |>.mono fun k h1 h2 => absurd h1 (by omega), fun k x hk => by simp at hk, fun b hb' => .inl hb', fun b hb' => hb', hfc.keep hk⟩, hrep G F, fun k m _ hk => by simp [lens] at hk, hq, rfl⟩
theorem rep_tup (G : Gh) (F : Nat → Prop) (w : World) (vs : List Value) : RepV G [] F w (.tup (vs.map AV.c)) (.tuple vs.toArray) := by
  refine .tup _ _ (by simp) fun j u x hu hx => ?_
  simp only [List.getElem?_map] at hu
  simp only [List.getElem?_toArray] at hx
  rw [hx] at hu
  injection hu with hu
  subst hu
  exact .d _ _ (.c x)
theorem acalls_tup {P : Program} {f : FuncId} {args vs : List Value} (st : Nat → Bool) (h : ∀ w, TabW w → Calls P f args.toArray w fun e w' => e = .returned (.tuple vs.toArray) ∧ Below w.heap.size w w') : ACalls P f (args.map AV.c) [] st (fun r h' => r = .tup (vs.map AV.c) ∧ h' = []) :=
  acalls_post st fun w hT => (h w hT).mono fun e w' ⟨he, hb⟩ => ⟨_, _, he, rfl, fun G F => rep_tup G F w' vs, hb⟩
theorem acalls_tupE {P : Program} {f : FuncId} {args : List Value} {Q : List Value → Prop} (st : Nat → Bool) (h : ∀ w, TabW w → Calls P f args.toArray w fun e w' => ∃ vs, Q vs ∧ e = .returned (.tuple vs.toArray) ∧ Below w.heap.size w w') : ACalls P f (args.map AV.c) [] st (fun r h' => (∃ vs, Q vs ∧ r = .tup (vs.map AV.c)) ∧ h' = []) :=
  acalls_post st fun w hT => (h w hT).mono fun e w' ⟨vs, hq, he, hb⟩ => ⟨_, _, he, ⟨vs, hq, rfl⟩, fun G F => rep_tup G F w' vs, hb⟩
end Go.Proofs.YtjgdlocgoiinbaaGreatDoor
