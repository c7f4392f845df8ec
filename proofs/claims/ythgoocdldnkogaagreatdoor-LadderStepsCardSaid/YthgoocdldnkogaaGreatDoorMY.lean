import Derived.Test.YthgoocdldnkogaaGreatDoorHMp
namespace Go.Proofs.YthgoocdldnkogaaGreatDoor
set_option linter.unusedVariables false
set_option linter.unusedSimpArgs false
open Go.RowKit Go.ChangeShapes Go.WideShapes Go.ChangeAt
def opnMov : Opn Tryz.prog 55 MovS :=
 (opnStruct Tryz.underlying55 rfl (opnCons 1 opnI (by kernel_rfl) rfl (opnCons 1 opnBo (by kernel_rfl) rfl (opnCons 1 opnI (by kernel_rfl) rfl (opnCons 1 opnColState (by kernel_rfl) rfl (opnNil 4))))) (by kernel_rfl)).map
  (fun x : Int × Bool × Int × Int × Unit => (⟨x.1, x.2.1, x.2.2.1, x.2.2.2.1⟩ : MovS)) movA MovOk (fun _ => rfl) (fun x h => ⟨bounds_i64 h.1, bounds_i64 h.2.2.1, bounds_i64 h.2.2.2.1⟩) fun _ => by kernel_rfl
def opnMovs : Opn Tryz.prog 53 (List MovS) := (opnSlice opnMov 4 Tryz.underlying53 (by kernel_rfl) (by kernel_rfl) (by decide)).map id (fun l => [.fs 4 l.length (movsA l)]) (fun l => ∀ m ∈ l, MovOk m) (fun _ => rfl) (fun _ h => h.2) fun _ => by kernel_rfl
end Go.Proofs.YthgoocdldnkogaaGreatDoor
