import Derived.Test.YtcjncgfhkgcbnaaDoorJa
namespace Go.Proofs.YtcjncgfhkgcbnaaDoor
set_option linter.unusedVariables false
set_option linter.unusedSimpArgs false
open Go.RowKit Go.ChangeShapes Go.WideShapes Go.ChangeAt
theorem bd_val {m : Nat} {α R : Type} {ok : α → Prop} {f : PSt → α × PSt} {g : Bs → Option (α × Bs)} {k : α → Bs → Option R} {b : Bs} {J : R} (a : Sim (pSys m) ok f g) (hb : b.length ≤ m) (e : bd g k b = some J) : ∃ x r, ok x ∧ r.length ≤ m ∧ k x r = some J := by
  obtain ⟨p, e1, e2⟩ := Option.bind_eq_some_iff.1 e
  have hs : (pSys m).small ((pSys m).live b) := fun l h => by injection h with h; subst h; exact hb
  have h1 := a.good b p.1 p.2 hs e1
  have h2 := a.val _ hs
  have h3 := a.small _ hs
  rw [h1] at h2 h3
  exact ⟨p.1, p.2, h2, h3 p.2 rfl, e2⟩
theorem sN_val {m : Nat} {α : Type} {ok : α → Prop} {f : PSt → α × PSt} {g : Bs → Option (α × Bs)} (a : Sim (pSys m) ok f g) : ∀ (n : Nat) (b : Bs) (l : List α) (r : Bs), b.length ≤ m → sN g n b = some (l, r) → (∀ x ∈ l, ok x) ∧ r.length ≤ m ∧ l.length = n
  | 0, b, l, r, hb, e => by
    simp only [sN, rt, Option.some.injEq, Prod.mk.injEq] at e
    obtain ⟨rfl, rfl⟩ := e
    exact ⟨fun x h => (by cases h), hb, rfl⟩
  | n + 1, b, l, r, hb, e => by
    obtain ⟨x, r1, h1, h2, e⟩ := bd_val a hb e
    obtain ⟨p, e1, e2⟩ := Option.bind_eq_some_iff.1 e
    obtain ⟨h3, h4, h5⟩ := sN_val a n r1 p.1 p.2 h2 e1
    simp only [rt, Option.some.injEq, Prod.mk.injEq] at e2
    obtain ⟨rfl, rfl⟩ := e2
    refine ⟨fun y hy => ?_, h4, by simp [h5]⟩
    rcases List.mem_cons.1 hy with rfl | hy
    · exact h1
    · exact h3 y hy
theorem many_val {m : Nat} {α R : Type} {ok : α → Prop} {f : PSt → α × PSt} {g : Bs → Option (α × Bs)} {k : List α → Bs → Option R} {b : Bs} {J : R} (M : Int) (hM : 0 ≤ M) (a : Sim (pSys m) ok f g) (hb : b.length ≤ m) (e : bd (sMany M g) k b = some J) : ∃ l r, (∀ x ∈ l, ok x) ∧ (l.length : Int) ≤ M ∧ r.length ≤ m ∧ k l r = some J := by
  rw [sMany, bd_assoc] at e
  obtain ⟨n, r, h1, h2, e⟩ := bd_val (pCnt_sim m M hM) hb e
  obtain ⟨p, e1, e2⟩ := Option.bind_eq_some_iff.1 e
  obtain ⟨h3, h4, h5⟩ := sN_val a n.toNat r p.1 p.2 h2 e1
  exact ⟨p.1, p.2, h3, by omega, h4, e2⟩
def ValI (v : ValS) : Prop := I64 v.k ∧ I64 v.n ∧ I64 v.s
theorem I64_0 : I64 0 := ⟨by decide, by decide⟩
theorem I64_1 : I64 1 := ⟨by decide, by decide⟩
theorem I64_2 : I64 2 := ⟨by decide, by decide⟩
theorem I64_3 : I64 3 := ⟨by decide, by decide⟩
theorem vZ_i : ValI vZ := ⟨I64_0, I64_0, I64_0⟩
theorem getVS_i (s : Option Bs) : ValI (getVS s).1 := by
  unfold getVS
  split
  · refine ⟨I64_1, ?_, I64_0⟩
    simp only
    split
    · exact I64_1
    · exact I64_0
  · split
    · exact ⟨I64_2, rnumS_le _, I64_0⟩
    · split
      · exact ⟨I64_3, rnumS_le _, rnumS_le _⟩
      · exact ⟨rnumS_le _, I64_0, I64_0⟩
theorem rdC_i (s : Option Bs) : ∀ (n : Nat), ∀ c ∈ (rdC s n).1, ValI c.v
  | 0, c, h => by cases h
  | n + 1, c, h => by
    simp only [rdC] at h
    rcases List.mem_append.1 h with h | h
    · exact rdC_i s n c h
    · rw [List.mem_singleton.1 h]
      exact getVS_i _
theorem cellsOf_i (b : Bs) : ∀ c ∈ cellsOf b, ValI c.v := by
  unfold cellsOf parseS
  split
  · exact rdC_i _ _
  · intro c h; cases h
theorem getR_i {l : List CellS} (h : ∀ c ∈ l, ValI c.v) (k : Int) : ValI (getR l k) := by
  unfold getR
  split
  · rename_i c hc
    exact h _ (List.mem_of_find?_eq_some hc)
  · exact vZ_i
theorem pDft_simI (m : Nat) : Sim (pSys m) (fun v => v.t.size ≤ m ∧ ValI v) pDft sDft :=
  ⟨(pDft_sim m).good, (pDft_sim m).bad, (pDft_sim m).stay, (pDft_sim m).small, fun t h => ⟨(pDft_sim m).val t h, getR_i (cellsOf_i _) 0⟩⟩
def ColI (m : Nat) (c : ColS) : Prop := c.id = 0 ∧ c.st = 0 ∧ c.name.size ≤ m ∧ I64 c.ty.k ∧ I64 c.ty.s ∧ c.dft.t.size ≤ m ∧ ValI c.dft
theorem pJC_simI (m : Nat) : Sim (pSys m) (ColI m) pJC sJC := (pText_sim m).bind fun name h1 => (pNum_sim m).bind fun k h3 => (pNum_sim m).bind fun sc h4 => (pFlag_sim m).bind fun nn _ => (pDft_simI m).bind fun d h2 => Sim.pure _ ⟨rfl, rfl, h1, h3, h4, h2.1, h2.2⟩
theorem i64v_of {n : Int} (h : I64 n) : i64v n := ⟨by have := h.1; omega, by have := h.2; omega⟩
theorem ColI.ok {m : Nat} {c : ColS} (hm : m ≤ 100000) (h : ColI m c) : c.Ok := by
  obtain ⟨h1, h2, h3, h4, h5, h6, h7⟩ := h
  refine ⟨by rw [h1]; exact i64v_of I64_0, by unfold maxLen; omega, ⟨i64v_of h4, i64v_of h5⟩, ⟨i64v_of h7.1, i64v_of h7.2.1, i64v_of h7.2.2, by unfold maxLen; omega⟩, by rw [h2]; exact i64v_of I64_0⟩
theorem parJob_ok {b : Bs} {j : JobS} (hb : b.length ≤ 100000) (e : parJob b = some j) : jobOk j = true ∧ j.Ok ∧ j.name.size ≤ 100000 := by
  obtain ⟨id, r, o1, hr, e⟩ := bd_val (pNum_sim 100000) hb e
  obtain ⟨kind, r, o2, hr, e⟩ := bd_val (pNum_sim 100000) hr e
  obtain ⟨table, r, o3, hr, e⟩ := bd_val (pNum_sim 100000) hr e
  obtain ⟨name, r, o4, hr, e⟩ := bd_val (pText_sim 100000) hr e
  obtain ⟨cols, r, o5, n5, hr, e⟩ := many_val 12 (by decide) (pJC_simI 100000) hr e
  obtain ⟨iname, r, o6, hr, e⟩ := bd_val (pText_sim 100000) hr e
  obtain ⟨icols, r, o7, n7, hr, e⟩ := many_val 4 (by decide) (pNum_sim 100000) hr e
  obtain ⟨u, r, o8, hr, e⟩ := bd_val (pFlag_sim 100000) hr e
  obtain ⟨item, r, o9, hr, e⟩ := bd_val (pNum_sim 100000) hr e
  obtain ⟨other, r, o10, hr, e⟩ := bd_val (pNum_sim 100000) hr e
  obtain ⟨mark, r, o11, hr, e⟩ := bd_val (pText_sim 100000) hr e
  obtain ⟨full, r, o12, hr, e⟩ := bd_val (pFlag_sim 100000) hr e
  obtain ⟨fence, r, o13, hr, e⟩ := bd_val (pFlag_sim 100000) hr e
  obtain ⟨back, r, o14, hr, e⟩ := bd_val (pFlag_sim 100000) hr e
  obtain ⟨err, r, o15, hr, e⟩ := bd_val (pNum_sim 100000) hr e
  obtain ⟨fin, r, o16, hr, e⟩ := bd_val (pFlag_sim 100000) hr e
  unfold finJ at e
  split at e
  · rename_i h
    injection e with e
    subst e
    refine ⟨h.2, ⟨i64v_of o1, i64v_of o2, i64v_of o3, by unfold maxLen; simp only; omega, fun c hc => (o5 c hc).ok (Nat.le_refl _), ⟨i64v_of I64_0, by unfold maxLen; simp only; omega, fun k hk => i64v_of (o7 k hk), i64v_of I64_0⟩, i64v_of o9, i64v_of o10, by unfold maxLen; simp only; omega, i64v_of o15⟩, o4⟩
  · cases e
end Go.Proofs.YtcjncgfhkgcbnaaDoor
