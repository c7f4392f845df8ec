import Derived.Test.YtmgpiminicgbiaaP7h
import Derived.Test.YtmgpiminicgbiaaRch
namespace Go.Proofs.Ytmgpiminicgbiaa
set_option linter.unusedVariables false
set_option linter.unusedSimpArgs false
open Go.ChangeShapes Go.WideShapes Go.ChangeAt Go.RowKit
/-! ## How long the bytes of an act may be -/
theorem weights_all {H : Type} {P : Program} {e : TypeId} : ∀ {ds : List (DataW H)} {j : Nat} {d : DataW H}, ds[j]? = some d → ∀ n ∈ d.weights P e, n ∈ DataW.weightsAll P e ds
  | d0 :: ds, 0, d, hd, n, hn => by
    simp only [List.getElem?_cons_zero, Option.some.injEq] at hd
    subst hd
    simp only [DataW.weightsAll, List.mem_append]
    exact .inl hn
  | d0 :: ds, j + 1, d, hd, n, hn => by
    simp only [List.getElem?_cons_succ] at hd
    simp only [DataW.weightsAll, List.mem_append]
    exact .inr (weights_all hd n hn)
  | [], _, _, hd, _, _ => by simp at hd
theorem addr_add (a : Addr) (i j : Nat) : (a.add i).add j = a.add (i + j) := by
  unfold Addr.add
  by_cases h1 : i = 0
  · by_cases h2 : j = 0
    · simp [h1, h2]
    · simp [h1, h2]
  · by_cases h2 : j = 0
    · simp [h1, h2]
    · simp [h1, h2, Nat.add_assoc]
theorem repD_cell {F : Nat → Prop} {w : World} {sz n n' c : Nat} {l : List AV} {a : Addr} (h : RepD F w (.fs sz n l) (.slice (some a) n' c)) {j : Nat} {u : AV} (hu : l[j]? = some u) : ∃ v, w.cell? (a.add j) = some v ∧ RepD F w u v := by
  cases h with
  | fs0 => simp at hu
  | fs _ _ b o _ _ f h1 h2 h3 h4 h5 h6 h7 =>
    refine ⟨f j, ?_, h7 j u hu⟩
    have := h6 j (List.getElem?_eq_some_iff.1 hu).1
    unfold Addr.add
    by_cases h0 : j = 0
    · subst h0; rw [if_pos rfl]; exact this
    · rw [if_neg h0]; exact this
theorem script_len {H : Type} {enc : TypeId × Value → H} {w : World} {v : Value} {d : DataW H} {ps : List MemPlace} {sc : List Op7} {ts : List TypeId} {ds : List (DataW H)} {j : Nat} (h : DataW.Trod enc Try.prog w 0 (fun _ => true) true 22 v d ps) (hv : v.cells = #[v]) (hr : RepC w [.fs 4 sc.length (scriptA sc)] [v])
    (hsz : (DataW.weightsEach Try.prog ts ds).all (· ≤ reachBytes) = true) (ht : ts[j]? = some 22) (hd : ds[j]? = some d) : ∀ o ∈ sc, o.b.length ≤ 140737488355328 := by
  obtain ⟨fuel, hf⟩ := h
  have h0 := hr 0 _ v rfl rfl
  rw [hv] at hf
  have hw : ∀ n ∈ d.weights Try.prog 22, n ≤ reachBytes := fun n hn => by
    have := List.all_eq_true.1 hsz _ (DataW.weights_mem_each ht hd n hn)
    simpa using this
  intro o ho
  obtain ⟨i, hi, rfl⟩ := List.mem_iff_getElem.1 ho
  rcases DataW.trod_slice Try.underlying22 hf with ⟨e1, _⟩ | ⟨a, len, cap, elems, rest, n, _, e1, e2, _, _, _, hlen, hel, _⟩
  · simp at e1
    subst e1
    have := repD_len h0
    omega
  · simp at e1
    subst e1
    have hk := repD_len h0
    have hel := hel i (by omega)
    have h4 : Try.prog.cellsOf 35 = 4 := by kernel_rfl
    rw [h4] at hel
    obtain ⟨x, hx⟩ : ∃ x, elems[i]? = some x := ⟨_, List.getElem?_eq_getElem (by omega)⟩
    rw [hx, Option.bind_eq_some_iff] at hel
    obtain ⟨cs, hcs, htr⟩ := hel
    obtain ⟨xs, m, _, ex, hcl, hxl, hfd⟩ := DataW.trod_struct Try.underlying35 htr
    have hf2 := hfd 2 _ rfl
    have hxl4 : xs.length = 4 := hxl
    obtain ⟨y, hy⟩ : ∃ y, xs[2]? = some y := ⟨_, List.getElem?_eq_getElem (by omega)⟩
    rw [hy] at hf2
    have hc1 : Try.prog.cellsOf 33 = 1 := by kernel_rfl
    have hf3 : DataW.trod enc Try.prog w 0 (fun _ => true) true m 33 ((cs.drop 2).take 1) = some y := by rw [← hc1]; exact hf2
    obtain ⟨_, hcl4, hcell⟩ := World.cells?_some hcs
    have hcat : List.take 1 (List.drop 2 cs) = [cs[2]'(by omega)] := by
      rw [List.drop_eq_getElem_cons (by omega)]; rfl
    rw [hcat] at hf3
    have hb2 : w.cell? ((a.add (i * 4)).add 2) = some (cs[2]'(by omega)) := by
      rw [hcell 2 (by omega), List.getElem?_eq_getElem (by omega)]
    have hsa : (scriptA sc)[i * 4 + 2]? = some (.fs 1 (sc[i]).b.length (u8av (sc[i]).b)) := by
      have hat : List.take 4 (List.drop (i * 4) (scriptA sc)) = op7A sc[i] := flat_at op7A 4 (by simp) sc i hi
      have := congrArg (fun l => l[2]?) hat
      simp only [List.getElem?_take, List.getElem?_drop] at this
      exact this
    obtain ⟨v2, hv2, hrep⟩ := repD_cell h0 hsa
    have hea : (a.add (i * 4)).add 2 = a.add (i * 4 + 2) := addr_add a _ _
    rw [hea, hv2] at hb2
    injection hb2 with hb2
    subst hb2
    have hwe : ∀ n ∈ x.1.weights Try.prog 35, n ≤ reachBytes := fun n hn => by
      refine hw n ?_
      rw [show d = _ from congrArg Prod.fst e2]
      simp only [DataW.weights, Try.underlying22, List.mem_cons, List.mem_append]
      exact .inr (.inl (weights_all (by rw [List.getElem?_map, hx]; rfl) n hn))
    have hwy : ∀ n ∈ y.1.weights Try.prog 33, n ≤ reachBytes := fun n hn => by
      refine hwe n ?_
      rw [ex]
      simp only [DataW.weights, Try.underlying35]
      exact DataW.weights_mem_each (j := 2) rfl (by rw [List.getElem?_map, hy]; rfl) n hn
    rcases DataW.trod_slice Try.underlying33 hf3 with ⟨e3, _⟩ | ⟨a', len', cap', elems', rest', n', _, e3, e4, _, _, _, hlen', _⟩
    · simp at e3
      rw [e3] at hrep
      have := repD_len hrep
      omega
    · simp at e3
      rw [e3] at hrep
      have hk' := repD_len hrep
      have hby : Try.prog.bytesOf 5 = 1 := by kernel_rfl
      have := hwy ((elems'.length + rest'.length) * Try.prog.bytesOf 5) (by rw [e4]; simp [DataW.weights, Try.underlying33])
      rw [hby] at this
      have hrb := reachBytes_lt
      have e47 : (2 : Nat) ^ 47 = 140737488355328 := by decide
      omega
end Go.Proofs.Ytmgpiminicgbiaa
