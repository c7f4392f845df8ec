import Derived.Test.YthgoocdldnkogaaGreatDoorHW
namespace Go.Proofs.YthgoocdldnkogaaGreatDoor
set_option linter.unusedVariables false
set_option linter.unusedSimpArgs false
open Go.RowKit
theorem conv_isD : ∀ {cs : List AV}, cs.all isD = true → ∃ p : Prop, p ∧ ∀ ρ ok h, AV.convL ρ ok h cs = some (p, cs)
 | [], _ => ⟨True, trivial, fun _ _ _ => rfl⟩
 | v :: cs, hd => by
  simp only [List.all_cons, Bool.and_eq_true] at hd
  obtain ⟨p, hp, h⟩ := conv_isD hd.2
  refine ⟨True ∧ p, ⟨trivial, hp⟩, fun ρ ok H => ?_⟩
  have e := h ρ ok H
  cases v <;> simp [isD] at hd <;> simp [AV.convL, AV.conv, e]
theorem convOs_box {h : List AObj} {i : Nat} {cs : List AV} {p : Prop} (hi : h[i]? = some (.o .box cs)) (hc : ∀ ρ ok h, AV.convL ρ ok h cs = some (p, cs)) : convOs [i] (fun _ => false) h [i] = some (p ∧ True, [.o .box cs]) := by
 simp [convOs, convO, hi, hc]
end Go.Proofs.YthgoocdldnkogaaGreatDoor
