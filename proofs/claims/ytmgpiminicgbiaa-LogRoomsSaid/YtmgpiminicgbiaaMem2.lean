import Derived.Test.YtmgpiminicgbiaaMem
namespace Go.Proofs.Ytmgpiminicgbiaa
set_option linter.unusedVariables false
set_option linter.unusedSimpArgs false
open Go.RowKit

/-! ### values of many cells: loaded, stored, copied as one list -/
/-- a part of a block's cells written over -/
def spl (cur : Array Value) (off : Nat) (xs : List Value) : Array Value := (cur.toList.take off ++ xs ++ cur.toList.drop (off + xs.length)).toArray
theorem spl_size (cur : Array Value) (off : Nat) (xs : List Value) (h : off + xs.length ≤ cur.size) : (spl cur off xs).size = cur.size := by
  simp [spl]; omega
theorem spl_at (cur : Array Value) (off : Nat) (xs : List Value) (h : off + xs.length ≤ cur.size) (i : Nat) : (spl cur off xs)[i]? = if i < off then cur[i]? else if i < off + xs.length then xs[i - off]? else cur[i]? := by
  simp only [spl, List.getElem?_toArray]
  by_cases h1 : i < off
  · rw [if_pos h1, List.append_assoc, List.getElem?_append_left (by simp; omega), List.getElem?_take, if_pos h1]; simp
  · rw [if_neg h1]
    by_cases h2 : i < off + xs.length
    · rw [if_pos h2, List.append_assoc, List.getElem?_append_right (by simp; omega), List.getElem?_append_left (by simp; omega)]
      congr 1; simp; omega
    · rw [if_neg h2, List.getElem?_append_right (by simp; omega), List.getElem?_drop]
      simp
      congr 1; omega

section
variable {P : Program}
def isAggD : TypeDesc → Bool | .struct _ | .array _ _ => true | _ => false
theorem run_loadN (w : World) (ty : TypeId) (d : TypeDesc) (i : TypeInfo) (hu : P.underlying ty = some d) (hd : isAggD d = true) (hi : P.info? ty = some i) (ad : Addr) (xs : List Value) (hl : xs.length = i.size)
    (hc : ∀ j u, xs[j]? = some u → w.cell? (ad.add j) = some u) : (loadVar ty ad).run P w = .ok (.agg xs.toArray) w := by
  have hl2 := run_loadCells_list (P := P) w ad xs hc
  have hagg : (isAgg ty).run P w = .ok true w := by
    unfold isAgg
    rw [Sem.run_bind, run_underlying hu w]
    cases d <;> simp_all [isAggD]
  rw [hl] at hl2
  simp [loadVar, Sem.run_bind, hagg, sizeOf, typeInfo, hi, hl2]
theorem run_storeN (w : World) (ty : TypeId) (i : TypeInfo) (hi : P.info? ty = some i) (g off : Nat) (e : TypeId) (cur : Array Value) (hb : Blk w g e cur) (v : Value) (hl : v.cells.size = i.size) (h1 : ∀ u ∈ v.cells.toList, u.oneCell' = true) (hf : off + i.size ≤ cur.size) :
    (storeVar ty ⟨g, off, none⟩ v).run P w = .ok () (w.setRow g (spl cur off v.cells.toList)) := by
  have h := run_storeCells_at P g off e v.cells.toList 0 cur w hb (by simp; omega) h1
  simp only [Nat.add_zero] at h
  simp [storeVar, Sem.run_bind, sizeOf, typeInfo, hi, hl, h, spl]
theorem Mod.setRow (w : World) (g : Nat) (cs : Array Value) : Mod (fun k => k = g) w (w.setRow g cs) := ⟨rfl, rfl, rfl, by simp, fun k _ hk => setRow_other w g k _ (fun e => hk e)⟩

theorem wp_loadN {o : Oper} {a : Act} {w : World} {K : Act → World → Prop} {Q : Exit → Act → World → Prop} (ty : TypeId) (x : Operand) (ho : o.op = .load ty x)
    (d : TypeDesc) (i : TypeInfo) (hu : P.underlying ty = some d) (hd : isAggD d = true) (hi : P.info? ty = some i) (ad : Addr) (hx : a.eval x = .pointer (some ad)) (xs : List Value) (hl : xs.length = i.size)
    (hc : ∀ j u, xs[j]? = some u → w.cell? (ad.add j) = some u) (h : K (a.put o.dst (.agg xs.toArray)) w) : o.wp P a w K Q := by
  unfold Oper.wp execOp
  simp only [ho, hx, Instr.loadAt, Instr.sureAddr, Sem.run_bind, Sem.run_pure, Result.andThen_ok, run_loadN w ty d i hu hd hi ad xs hl hc]
  exact h
theorem wpList_loadN {ops : Array Oper} {rest : List Oper} {o : Oper} {a : Act} {w : World} {Q : Exit → Act → World → Prop} (hgd : o.guard = none) (ty : TypeId) (x : Operand) (ho : o.op = .load ty x)
    (d : TypeDesc) (i : TypeInfo) (hu : P.underlying ty = some d) (hd : isAggD d = true) (hi : P.info? ty = some i) (ad : Addr) (hx : a.eval x = .pointer (some ad)) (xs : List Value) (hl : xs.length = i.size)
    (hc : ∀ j u, xs[j]? = some u → w.cell? (ad.add j) = some u) (h : wpList P ops Q rest (a.put o.dst (.agg xs.toArray)) w) : wpList P ops Q (o :: rest) a w :=
  wpList_plain hgd fun _ hK => wp_loadN ty x ho d i hu hd hi ad hx xs hl hc (hK _ _ h)
theorem step_loadN {ops : Array Oper} {o : Oper} {a : Act} {w : World} {K : Act → World → Prop} {Q : Exit → Act → World → Prop} {E : Prop} (hgd : o.guard = none) (ty : TypeId) (x : Operand) (ho : o.op = .load ty x)
    (d : TypeDesc) (i : TypeInfo) (hu : P.underlying ty = some d) (hd : isAggD d = true) (hi : P.info? ty = some i) (ad : Addr) (hx : a.eval x = .pointer (some ad)) (xs : List Value) (hl : xs.length = i.size)
    (hc : ∀ j u, xs[j]? = some u → w.cell? (ad.add j) = some u) (h : K (a.put o.dst (.agg xs.toArray)) w) :
    if Region.wanted o (yielded ops a.tmps) = true then Oper.wp P o a w K Q else E := by
  have hw : Region.wanted o (yielded ops a.tmps) = true := by simp [Region.wanted, hgd]
  rw [if_pos hw]
  exact wp_loadN ty x ho d i hu hd hi ad hx xs hl hc h

theorem wp_storeN {o : Oper} {a : Act} {w : World} {K : Act → World → Prop} {Q : Exit → Act → World → Prop} (ty : TypeId) (x y : Operand) (ho : o.op = .store ty x y)
    (i : TypeInfo) (hi : P.info? ty = some i) (g off : Nat) (hx : a.eval x = .pointer (some ⟨g, off, none⟩)) (v : Value) (hy : a.eval y = v) (e : TypeId) (cur : Array Value) (hb : Blk w g e cur)
    (hl : v.cells.size = i.size) (h1 : ∀ u ∈ v.cells.toList, u.oneCell' = true) (hf : off + i.size ≤ cur.size)
    (h : ∀ w', Blk w' g e (spl cur off v.cells.toList) → Mod (fun k => k = g) w w' → K (a.put o.dst undef) w') : o.wp P a w K Q := by
  have hr := run_storeN (P := P) w ty i hi g off e cur hb v hl h1 hf
  unfold Oper.wp execOp
  simp only [ho, hx, hy, Instr.storeAt, Instr.sureAddr, Sem.run_bind, Sem.run_pure, Result.andThen_ok, hr]
  exact h _ (setRow_heap w g cur _ e _ hb) (Mod.setRow w g _)
theorem wpList_storeN {ops : Array Oper} {rest : List Oper} {o : Oper} {a : Act} {w : World} {Q : Exit → Act → World → Prop} (hgd : o.guard = none) (ty : TypeId) (x y : Operand) (ho : o.op = .store ty x y)
    (i : TypeInfo) (hi : P.info? ty = some i) (g off : Nat) (hx : a.eval x = .pointer (some ⟨g, off, none⟩)) (v : Value) (hy : a.eval y = v) (e : TypeId) (cur : Array Value) (hb : Blk w g e cur)
    (hl : v.cells.size = i.size) (h1 : ∀ u ∈ v.cells.toList, u.oneCell' = true) (hf : off + i.size ≤ cur.size)
    (h : ∀ w', Blk w' g e (spl cur off v.cells.toList) → Mod (fun k => k = g) w w' → wpList P ops Q rest (a.put o.dst undef) w') : wpList P ops Q (o :: rest) a w :=
  wpList_plain hgd fun _ hK => wp_storeN ty x y ho i hi g off hx v hy e cur hb hl h1 hf fun w' h2 h3 => hK _ _ (h w' h2 h3)
theorem step_storeN {ops : Array Oper} {o : Oper} {a : Act} {w : World} {K : Act → World → Prop} {Q : Exit → Act → World → Prop} {E : Prop} (hgd : o.guard = none) (ty : TypeId) (x y : Operand) (ho : o.op = .store ty x y)
    (i : TypeInfo) (hi : P.info? ty = some i) (g off : Nat) (hx : a.eval x = .pointer (some ⟨g, off, none⟩)) (v : Value) (hy : a.eval y = v) (e : TypeId) (cur : Array Value) (hb : Blk w g e cur)
    (hl : v.cells.size = i.size) (h1 : ∀ u ∈ v.cells.toList, u.oneCell' = true) (hf : off + i.size ≤ cur.size)
    (h : ∀ w', Blk w' g e (spl cur off v.cells.toList) → Mod (fun k => k = g) w w' → K (a.put o.dst undef) w') :
    if Region.wanted o (yielded ops a.tmps) = true then Oper.wp P o a w K Q else E := by
  have hw : Region.wanted o (yielded ops a.tmps) = true := by simp [Region.wanted, hgd]
  rw [if_pos hw]
  exact wp_storeN ty x y ho i hi g off hx v hy e cur hb hl h1 hf h

/-- copy into a part of a known block, from any source of one-cell elements. -/
theorem run_copyN (w : World) (dT sT ty e : TypeId) (i : TypeInfo) (hu : P.underlying dT = some (.slice e)) (hi : P.info? e = some i) (hs : i.size = 1) (g off dLen dCap : Nat) (t : TypeId) (cur : Array Value) (hb : Blk w g t cur) (hf : off + dLen ≤ cur.size)
    (A : Option Addr) (n c : Nat) (xs : List Value) (hr : Rd w 1 A n xs) (h1 : ∀ u ∈ xs, u.oneCell' = true) :
    (Builtin.copy_ #[dT, sT] ty #[.slice (some ⟨g, off, none⟩) dLen dCap, .slice A n c]).run P w = .ok (goInt (Nat.min n dLen)) (w.setRow g (spl cur off (xs.take dLen))) := by
  have hxl : xs.length = n := by simpa using hr.1
  have hmin : Nat.min n dLen = (xs.take dLen).length := by rw [List.length_take, hxl]; exact Nat.min_comm _ _
  have hst := run_storeCells_at P g off t (xs.take dLen) 0 cur w hb (by rw [List.length_take]; omega) fun u hu => h1 u (List.mem_of_mem_take hu)
  simp only [Nat.add_zero] at hst
  have hfc : (Builtin.firstCells 1 (Nat.min n dLen) (.slice A n c)).run P w = .ok (xs.take dLen).toArray w := by
    rcases Nat.eq_zero_or_pos n with h0 | h0
    · subst h0
      have : xs = [] := List.eq_nil_of_length_eq_zero hxl
      subst this
      cases A <;> simp [Builtin.firstCells, loadCells, loadCellsFrom]
    · obtain ⟨ad, rfl, hc⟩ := hr.2 h0
      rw [hmin]
      have := run_firstCells_some (P := P) w 1 (xs.take dLen).length ad n c (xs.take dLen) (by simp) (fun j v hv => hc j v (by
        rw [List.getElem?_take] at hv
        split at hv
        · exact hv
        · cases hv))
      exact this
  simp [Builtin.copy_, run_underlying hu, Builtin.lenOf, sizeOf, typeInfo, hi, hs, hfc, hst, spl]
theorem wp_copyN {o : Oper} {a : Act} {w : World} {K : Act → World → Prop} {Q : Exit → Act → World → Prop} (d s : Operand) (dT sT : TypeId)
    (ho : o.op = .call { callee := .builtin .copy, args := #[d, s], argTypes := #[dT, sT] }) (e : TypeId) (i : TypeInfo) (hu : P.underlying dT = some (.slice e)) (hi : P.info? e = some i) (hs : i.size = 1)
    (g off dLen dCap : Nat) (hd : a.eval d = .slice (some ⟨g, off, none⟩) dLen dCap) (t : TypeId) (cur : Array Value) (hb : Blk w g t cur) (hf : off + dLen ≤ cur.size)
    (A : Option Addr) (n c : Nat) (hx : a.eval s = .slice A n c) (xs : List Value) (hr : Rd w 1 A n xs) (h1 : ∀ u ∈ xs, u.oneCell' = true)
    (h : ∀ w', Blk w' g t (spl cur off (xs.take dLen)) → Mod (fun k => k = g) w w' → K (a.put o.dst (goInt (Nat.min n dLen))) w') : o.wp P a w K Q := by
  have hrun := run_copyN (P := P) w dT sT o.type e i hu hi hs g off dLen dCap t cur hb hf A n c xs hr h1
  unfold Oper.wp execOp
  simp only [ho, resolve, invoke, builtin, Sem.run_bind, Sem.run_pure, Result.andThen_ok, List.map_toArray, List.map_cons, List.map_nil, hd, hx, hrun]
  exact h _ (setRow_heap w g cur _ t _ hb) (Mod.setRow w g _)
theorem wpList_copyN {ops : Array Oper} {rest : List Oper} {o : Oper} {a : Act} {w : World} {Q : Exit → Act → World → Prop} (hgd : o.guard = none) (d s : Operand) (dT sT : TypeId)
    (ho : o.op = .call { callee := .builtin .copy, args := #[d, s], argTypes := #[dT, sT] }) (e : TypeId) (i : TypeInfo) (hu : P.underlying dT = some (.slice e)) (hi : P.info? e = some i) (hs : i.size = 1)
    (g off dLen dCap : Nat) (hd : a.eval d = .slice (some ⟨g, off, none⟩) dLen dCap) (t : TypeId) (cur : Array Value) (hb : Blk w g t cur) (hf : off + dLen ≤ cur.size)
    (A : Option Addr) (n c : Nat) (hx : a.eval s = .slice A n c) (xs : List Value) (hr : Rd w 1 A n xs) (h1 : ∀ u ∈ xs, u.oneCell' = true)
    (h : ∀ w', Blk w' g t (spl cur off (xs.take dLen)) → Mod (fun k => k = g) w w' → wpList P ops Q rest (a.put o.dst (goInt (Nat.min n dLen))) w') : wpList P ops Q (o :: rest) a w :=
  wpList_plain hgd fun _ hK => wp_copyN d s dT sT ho e i hu hi hs g off dLen dCap hd t cur hb hf A n c hx xs hr h1 fun w' h2 h3 => hK _ _ (h w' h2 h3)
theorem step_copyN {ops : Array Oper} {o : Oper} {a : Act} {w : World} {K : Act → World → Prop} {Q : Exit → Act → World → Prop} {E : Prop} (hgd : o.guard = none) (d s : Operand) (dT sT : TypeId)
    (ho : o.op = .call { callee := .builtin .copy, args := #[d, s], argTypes := #[dT, sT] }) (e : TypeId) (i : TypeInfo) (hu : P.underlying dT = some (.slice e)) (hi : P.info? e = some i) (hs : i.size = 1)
    (g off dLen dCap : Nat) (hd : a.eval d = .slice (some ⟨g, off, none⟩) dLen dCap) (t : TypeId) (cur : Array Value) (hb : Blk w g t cur) (hf : off + dLen ≤ cur.size)
    (A : Option Addr) (n c : Nat) (hx : a.eval s = .slice A n c) (xs : List Value) (hr : Rd w 1 A n xs) (h1 : ∀ u ∈ xs, u.oneCell' = true)
    (h : ∀ w', Blk w' g t (spl cur off (xs.take dLen)) → Mod (fun k => k = g) w w' → K (a.put o.dst (goInt (Nat.min n dLen))) w') :
    if Region.wanted o (yielded ops a.tmps) = true then Oper.wp P o a w K Q else E := by
  have hw : Region.wanted o (yielded ops a.tmps) = true := by simp [Region.wanted, hgd]
  rw [if_pos hw]
  exact wp_copyN d s dT sT ho e i hu hi hs g off dLen dCap hd t cur hb hf A n c hx xs hr h1 h
/-- AN OPERATION WHOSE RUN IS KNOWN (chosen by its slot: '(o := ⟨some 17, _, _, _, _, _⟩)'). -/
theorem wpList_run {ops : Array Oper} {rest : List Oper} {o : Oper} {a : Act} {w w' : World} {Q : Exit → Act → World → Prop} (hgd : o.guard = none) (v : Value) (hr : (execOp a.eval o).run P w = .ok (.value v) w')
    (h : wpList P ops Q rest (a.put o.dst v) w') : wpList P ops Q (o :: rest) a w :=
  wpList_plain hgd fun _ hK => by
    unfold Oper.wp
    rw [hr]
    exact hK _ _ h
end
end Go.Proofs.Ytmgpiminicgbiaa
