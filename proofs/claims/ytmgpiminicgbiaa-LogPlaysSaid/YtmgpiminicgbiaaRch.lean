import Derived.Test.YtmgpiminicgbiaaHW
import Derived.SizedLaws
namespace Go.Proofs.Ytmgpiminicgbiaa
set_option linter.unusedVariables false
set_option linter.unusedSimpArgs false
open Go.ChangeShapes Go.WideShapes Go.ChangeAt Go.RowKit
/-! ## What the reach says of a list that comes in -/
theorem repD_len {F : Nat → Prop} {w : World} {sz k n c : Nat} {l : List AV} {A : Option Addr} (h : RepD F w (.fs sz k l) (.slice A n c)) : k = n := by
  cases h <;> rfl
theorem reach_len {P : Program} {H : Type} {enc : TypeId × Value → H} {w : World} {t e : TypeId} {v : Value} {d : DataW H} {ps : List MemPlace} {sz k : Nat} {l : List AV} {ts : List TypeId} {ds : List (DataW H)} {j : Nat} (hu : P.underlying t = some (.slice e)) (hv : v.cells = #[v]) (h : DataW.Trod enc P w 0 (fun _ => true) true t v d ps) (hr : RepC w [.fs sz k l] [v])
    (hsz : (DataW.weightsEach P ts ds).all (· ≤ reachBytes) = true) (ht : ts[j]? = some t) (hd : ds[j]? = some d) : k * P.bytesOf e ≤ reachBytes := by
  obtain ⟨fuel, hf⟩ := h
  have h0 := hr 0 _ v rfl rfl
  rw [hv] at hf
  rcases DataW.trod_slice hu hf with ⟨e1, _⟩ | ⟨a, len, cap, elems, rest, n, _, e1, e2, _, _, _, hlen, _⟩
  · simp at e1
    subst e1
    rw [repD_len h0]; simp
  · simp at e1
    subst e1
    injection e2 with e2 _
    rw [e2] at hd
    have := sized_slice hsz ht hd hu
    simp only [List.length_map] at this
    rw [repD_len h0, ← hlen]
    exact Nat.le_trans (Nat.mul_le_mul_right _ (Nat.le_add_right _ _)) this
end Go.Proofs.Ytmgpiminicgbiaa
