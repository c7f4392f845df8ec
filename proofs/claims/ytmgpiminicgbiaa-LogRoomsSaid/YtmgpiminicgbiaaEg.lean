import Derived.Test.YtmgpiminicgbiaaEf
namespace Go.Proofs.Ytmgpiminicgbiaa
set_option linter.unusedVariables false
set_option linter.unusedSimpArgs false
open Go.RowKit

section
variable {P : Program} {G : Gh} {F : Nat → Prop} {w : World} {ro : Nat → Bool} {h : List AObj}
theorem run_bounds (b : Bool) (len cap : Nat) (lo hi : Option Value) (l k : Int) (hlo : (lo = none ∧ l = 0) ∨ ∃ kd, lo = some (.int kd l)) (hhi : (hi = none ∧ k = len) ∨ ∃ kd, hi = some (.int kd k))
    (h0 : 0 ≤ l) (h1 : l ≤ k) (h2 : k ≤ cap) (w' : World) : (Instr.sliceBounds b len cap lo hi none).run P w' = .ok (l.toNat, k.toNat, cap) w' := by
  have h3 : 0 ≤ k := by omega
  have hcast : ((k.toNat : Nat) : Int) = k := by omega
  rcases hlo with ⟨rfl, rfl⟩ | ⟨kd, rfl⟩ <;> rcases hhi with ⟨rfl, rfl⟩ | ⟨kd', rfl⟩ <;>
    simp [Instr.sliceBounds, Instr.sliceBound, asIntOf, h0, h1, h2, h3]
  all_goals (try omega)
  all_goals (simp_all)
theorem lo_inv {x : Option AV} {v : Option Value} {l : Int} (hq : loIx x = some l) (hx : ∀ u, x = some u → ∃ y, v = some y ∧ RepV G (lens h) F w u y) (hn : x = none → v = none) : (v = none ∧ l = 0) ∨ ∃ kd, v = some (.int kd l) := by
  unfold loIx at hq
  split at hq
  · injection hq with hq; exact .inl ⟨hn rfl, hq.symm⟩
  · injection hq with hq; subst hq
    obtain ⟨y, h1, h2⟩ := hx _ rfl
    exact .inr ⟨_, by rw [h1, h2.c_inv]⟩
  · cases hq
theorem hi_inv {x : Option AV} {v : Option Value} {l d : Int} (hq : hiIx d x = some l) (hx : ∀ u, x = some u → ∃ y, v = some y ∧ RepV G (lens h) F w u y) (hn : x = none → v = none) : (v = none ∧ l = d) ∨ ∃ kd, v = some (.int kd l) := by
  unfold hiIx at hq
  split at hq
  · injection hq with hq; exact .inl ⟨hn rfl, hq.symm⟩
  · injection hq with hq; subst hq
    obtain ⟨y, h1, h2⟩ := hx _ rfl
    exact .inr ⟨_, by rw [h1, h2.c_inv]⟩
  · cases hq
theorem sliceV_sound {t : TypeId} {u : AV} {lo hi : Option AV} {q : Prop × AV} {x : Value} {vlo vhi : Option Value} (hh : HRel G F h w) (hq : sliceV P h t u lo hi = some q) (hs : q.1) (hx : RepV G (lens h) F w u x)
    (hlo : ∀ u, lo = some u → ∃ y, vlo = some y ∧ RepV G (lens h) F w u y) (hlo0 : lo = none → vlo = none) (hhi : ∀ u, hi = some u → ∃ y, vhi = some y ∧ RepV G (lens h) F w u y) (hhi0 : hi = none → vhi = none) :
    Yv P ro G F h w q.2 (Instr.sliceAt t x vlo vhi none) := by
  unfold sliceV at hq
  split at hq
  · rename_i s
    have e := hx.c_inv
    subst e
    split at hq
    · rename_i ht
      split at hq
      · rename_i l k hl hk
        injection hq with hq; subst hq
        obtain ⟨e1, e2, e3⟩ := hs
        exact ⟨_, fun w' _ => by simp [Instr.sliceAt, Instr.slice, run_underlying (isStrT_inv ht), run_bounds false s.size s.size vlo vhi l k (lo_inv hl hlo hlo0) (hi_inv hk hhi hhi0) e1 e2 e3], .cc _⟩
      · cases hq
    · cases hq
  · rename_i sz n c
    split at hq
    · rename_i e sz' by_ l k hsl hl hk
      injection hq with hq; subst hq
      obtain ⟨e0, e1, e2, e3⟩ := hs
      obtain ⟨A, cap, rfl, h1, h2, h3, h4⟩ := fsD_inv (fs_inv hx)
      obtain ⟨ti, g1, g2, g3, g4⟩ := slT_inv hsl
      simp only at g1 g2 g3 g4
      have hb := fun w' => run_bounds (P := P) true n cap vlo vhi l k (lo_inv hl hlo hlo0) (hi_inv hk hhi hhi0) e1 e2 (by omega) w'
      refine ⟨.slice (if cap = l.toNat then A else A.map (·.add (l.toNat * sz))) (k.toNat - l.toNat) (cap - l.toNat), fun w' _ => by simp [Instr.sliceAt, Instr.slice, run_underlying g1, hb w', sizeOf, typeInfo, g2, g3, e0], .d _ _ ?_⟩
      rcases Nat.eq_zero_or_pos (k.toNat - l.toNat) with hz | hz
      · have : (c.drop (l.toNat * sz)).take ((k.toNat - l.toNat) * sz) = [] := by rw [hz]; simp
        rw [this, hz]
        exact .fs0 _ _ _ (by omega)
      · obtain ⟨b, o, f, rfl, hF, hc, hr⟩ := h4 (by omega)
        rw [if_neg (by omega)]
        simp only [Option.map_some, addE]
        have hin : l.toNat * sz + (k.toNat - l.toNat) * sz ≤ n * sz := by rw [← Nat.add_mul]; exact Nat.mul_le_mul_right _ (by omega)
        refine .fs _ _ _ _ _ _ (fun j => f (l.toNat * sz + j)) hz (by omega) (by omega) (by simp; omega) hF (fun j hj => ?_) fun j u hu => ?_
        · rw [Nat.add_assoc]; exact hc _ (by simp at hj; omega)
        · rw [List.getElem?_take] at hu
          split at hu
          · rw [drop_at] at hu; exact hr _ u hu
          · cases hu
    · cases hq
  · rename_i g sz off n m
    split at hq
    · rename_i e sz' by_ l k hsl hl hk
      injection hq with hq; subst hq
      obtain ⟨e0, em, e1, e2, e3, e4⟩ := hs
      obtain ⟨ti, g1, g2, g3, g4⟩ := slT_inv hsl
      simp only at g1 g2 g3 g4
      rcases sl_inv hx em with ⟨hv, rfl, rfl, rfl, rfl⟩ | ⟨hv, cap, rfl, h3, h4, h5⟩
      · have hl0 : l = 0 := by omega
        have hk0 : k = 0 := by omega
        subst hl0 hk0
        have hb := fun w' => run_bounds (P := P) true 0 0 vlo vhi 0 0 (lo_inv hl hlo hlo0) (hi_inv hk hhi hhi0) e1 e2 (by omega) w'
        refine ⟨.slice none 0 0, fun w' _ => by simpa [Instr.sliceAt, Instr.slice, run_underlying g1, sizeOf, typeInfo, g2] using by rw [hb w']; simp, ?_⟩
        simpa using RepV.slNil g sz em hv
      · have hb := fun w' => run_bounds (P := P) true n cap vlo vhi l k (lo_inv hl hlo hlo0) (hi_inv hk hhi hhi0) e1 e2 (by omega) w'
        refine ⟨.slice (some ⟨G.σ g, off + l.toNat * sz, none⟩) (k.toNat - l.toNat) (cap - l.toNat), fun w' _ => ?_, ?_⟩
        · rcases e4 with rfl | e4
          · simp [Instr.sliceAt, Instr.slice, run_underlying g1, hb w', sizeOf, typeInfo, g2, g3, e0, addE]
          · have hne : ¬ cap = l.toNat := by omega
            simp [Instr.sliceAt, Instr.slice, run_underlying g1, hb w', sizeOf, typeInfo, g2, g3, e0, addE, hne]
        · refine .sl g sz _ _ m _ em hv (by omega) (by omega) ?_
          have : off + l.toNat * sz + (cap - l.toNat) * sz = off + cap * sz := by
            rw [Nat.add_assoc, ← Nat.add_mul]
            congr 2
            omega
          omega
    · cases hq
  · rename_i g off m
    split at hq
    · rename_i n sz l k har hl hk
      injection hq with hq; subst hq
      obtain ⟨em, en, e1, e2, e3, e4, e5⟩ := hs
      obtain ⟨e, ti, g1, g2, g3⟩ := arT_inv har
      simp only at g1 g3
      obtain ⟨hv, rfl⟩ := ptr_inv hx em
      obtain ⟨y, hy, hym⟩ := lens_at em
      have hel : (arT P t).elim (0 : Int) (fun p => (p.1 : Int)) = n := by rw [har]; rfl
      have hk' : hiIx n hi = some k := by rw [← hk]; congr 1; rw [har]; rfl
      have hb := fun w' => run_bounds (P := P) false n n vlo vhi l k (lo_inv hl hlo hlo0) (hi_inv hk' hhi hhi0) e1 e2 (by omega) w'
      refine ⟨.slice (some ⟨G.σ g, off + l.toNat * sz, none⟩) (k.toNat - l.toNat) (n - l.toNat), fun w' _ => ?_, ?_⟩
      · have hne : ¬ n = l.toNat := by omega
        simp [Instr.sliceAt, run_underlying g1, Instr.sureAddr, hb w', sizeOf, typeInfo, g2, g3, addE, hne]
      · refine .sl g sz _ _ m _ em hv (by omega) (by omega) ?_
        have : off + l.toNat * sz + (n - l.toNat) * sz = off + n * sz := by
          rw [Nat.add_assoc, ← Nat.add_mul]
          congr 2
          omega
        have : m ≤ G.bs g := hym ▸ hh.bs hy
        omega
    · cases hq
  · cases hq
theorem run_bounds3 (len cap : Nat) (lo : Option Value) (l k m : Int) (kd kd' : IntKind) (hlo : (lo = none ∧ l = 0) ∨ ∃ kd, lo = some (.int kd l)) (h0 : 0 ≤ l) (h1 : l ≤ k) (h2 : k ≤ m) (h3 : m ≤ cap) (w' : World) :
    (Instr.sliceBounds true len cap lo (some (.int kd k)) (some (.int kd' m))).run P w' = .ok (l.toNat, k.toNat, m.toNat) w' := by
  have h4 : 0 ≤ k := by omega
  have h5 : 0 ≤ m := by omega
  have hc1 : ((k.toNat : Nat) : Int) = k := by omega
  have hc2 : ((m.toNat : Nat) : Int) = m := by omega
  rcases hlo with ⟨rfl, rfl⟩ | ⟨kd, rfl⟩ <;>
    simp [Instr.sliceBounds, Instr.sliceBound, asIntOf, h0, h1, h2, h3, h4, h5, Int.max_eq_left h4, Int.max_eq_left h5]
  all_goals (try omega)
theorem slice3V_sound {t : TypeId} {u ahi amx : AV} {lo : Option AV} {q : Prop × AV} {x vhi vmx : Value} {vlo : Option Value} (hh : HRel G F h w) (hq : slice3V P h t u lo ahi amx = some q) (hs : q.1) (hx : RepV G (lens h) F w u x)
    (hlo : ∀ u, lo = some u → ∃ y, vlo = some y ∧ RepV G (lens h) F w u y) (hlo0 : lo = none → vlo = none) (hhi : RepV G (lens h) F w ahi vhi) (hmx : RepV G (lens h) F w amx vmx) :
    Yv P ro G F h w q.2 (Instr.sliceAt t x vlo (some vhi) (some vmx)) := by
  unfold slice3V at hq
  split at hq
  · rename_i sz n c kd k kd' m'
    rw [hhi.c_inv, hmx.c_inv]
    split at hq
    · rename_i e sz' by_ l hsl hl
      injection hq with hq; subst hq
      obtain ⟨e0, e1, e2, e3, e4⟩ := hs
      obtain ⟨A, cap, rfl, h1, h2, h3, h4⟩ := fsD_inv (fs_inv hx)
      obtain ⟨ti, g1, g2, g3, g4⟩ := slT_inv hsl
      simp only at g1 g2 g3 g4
      have hb := fun w' => run_bounds3 (P := P) n cap vlo l k m' kd kd' (lo_inv hl hlo hlo0) e1 e2 e3 (by omega) w'
      refine ⟨.slice (if m'.toNat = l.toNat then A else A.map (·.add (l.toNat * sz))) (k.toNat - l.toNat) (m'.toNat - l.toNat), fun w' _ => by simp [Instr.sliceAt, Instr.slice, run_underlying g1, hb w', sizeOf, typeInfo, g2, g3, e0], .d _ _ ?_⟩
      rcases Nat.eq_zero_or_pos (k.toNat - l.toNat) with hz | hz
      · have : (c.drop (l.toNat * sz)).take ((k.toNat - l.toNat) * sz) = [] := by rw [hz]; simp
        rw [this, hz]
        exact .fs0 _ _ _ (by omega)
      · obtain ⟨b, o, f, rfl, hF, hc, hr⟩ := h4 (by omega)
        rw [if_neg (by omega)]
        simp only [Option.map_some, addE]
        have hin : l.toNat * sz + (k.toNat - l.toNat) * sz ≤ n * sz := by rw [← Nat.add_mul]; exact Nat.mul_le_mul_right _ (by omega)
        refine .fs _ _ _ _ _ _ (fun j => f (l.toNat * sz + j)) hz (by omega) (by omega) (by simp; omega) hF (fun j hj => ?_) fun j u hu => ?_
        · rw [Nat.add_assoc]; exact hc _ (by simp at hj; omega)
        · rw [List.getElem?_take] at hu
          split at hu
          · rw [drop_at] at hu; exact hr _ u hu
          · cases hu
    · cases hq
  · rename_i g sz off n m kd k kd' m'
    rw [hhi.c_inv, hmx.c_inv]
    split at hq
    · rename_i e sz' by_ l hsl hl
      injection hq with hq; subst hq
      obtain ⟨e0, em, e1, e2, e3, e4, e5⟩ := hs
      obtain ⟨ti, g1, g2, g3, g4⟩ := slT_inv hsl
      simp only at g1 g2 g3 g4
      rcases sl_inv hx em with ⟨hv, rfl, rfl, rfl, rfl⟩ | ⟨hv, cap, rfl, h3, h4, h5⟩
      · have hl0 : l = 0 := by omega
        have hk0 : k = 0 := by omega
        have hm0 : m' = 0 := by omega
        subst hl0 hk0 hm0
        have hb := fun w' => run_bounds3 (P := P) 0 0 vlo 0 0 0 kd kd' (lo_inv hl hlo hlo0) e1 e2 e3 (by omega) w'
        refine ⟨.slice none 0 0, fun w' _ => by simpa [Instr.sliceAt, Instr.slice, run_underlying g1, sizeOf, typeInfo, g2] using by rw [hb w']; simp, ?_⟩
        simpa using RepV.slNil g sz em hv
      · have hb := fun w' => run_bounds3 (P := P) n cap vlo l k m' kd kd' (lo_inv hl hlo hlo0) e1 e2 e3 (by omega) w'
        refine ⟨.slice (some ⟨G.σ g, off + l.toNat * sz, none⟩) (k.toNat - l.toNat) (m'.toNat - l.toNat), fun w' _ => ?_, ?_⟩
        · rcases e5 with rfl | e5
          · simp [Instr.sliceAt, Instr.slice, run_underlying g1, hb w', sizeOf, typeInfo, g2, g3, e0, addE]
          · have hne : ¬ m'.toNat = l.toNat := by omega
            simp [Instr.sliceAt, Instr.slice, run_underlying g1, hb w', sizeOf, typeInfo, g2, g3, e0, addE, hne]
        · refine .sl g sz _ _ m _ em hv (by omega) (by omega) ?_
          have : off + l.toNat * sz + (m'.toNat - l.toNat) * sz = off + m'.toNat * sz := by
            rw [Nat.add_assoc, ← Nat.add_mul]
            congr 2
            omega
          have : m'.toNat * sz ≤ cap * sz := Nat.mul_le_mul_right _ (by omega)
          omega
    · cases hq
  · cases hq
theorem rho_none {s : AS} {a : Act} {x : Option Operand} {ln : List Nat} (hev : ∀ x, RepV G ln F w (s.ev x) (a.eval x)) : (∀ u, x.map s.ev = some u → ∃ y, x.map a.eval = some y ∧ RepV G ln F w u y) ∧ (x.map s.ev = none → x.map a.eval = none) := by
  cases x with
  | none => exact ⟨fun u hu => (by cases hu), fun _ => rfl⟩
  | some x => exact ⟨fun u hu => by injection hu with hu; subst hu; exact ⟨_, rfl, hev x⟩, fun h => by cases h⟩
theorem part_sound {t off sz : Nat} {ag : Bool} {l : List AV} {cs : Array Value} {ln : List Nat} {i : TypeInfo} {d : TypeDesc} (h1 : P.info? t = some i) (h2 : P.underlying t = some d) (h3 : i.size = sz) (h4 : aggD d = ag) (h0 : sz ≠ 0) (hl : off + sz ≤ l.length)
    (hsz : l.length = cs.size) (hr : ∀ (j : Nat) (u : AV) (x : Value), l[j]? = some u → cs[j]? = some x → RepV G ln F w u x) :
    ∃ x, (∀ w', (part t cs off).run P w' = .ok x w') ∧ RepV G ln F w (fldCut off sz ag l) x := by
  cases ag with
  | true =>
    have hag : (w'' : World) → (isAgg t).run P w'' = .ok true w'' := fun w'' => by
      unfold isAgg
      rw [Sem.run_bind, run_underlying h2 w'']
      cases d <;> simp_all [aggD]
    refine ⟨.agg (cs.extract off (off + sz)), fun w' => by simp [part, Sem.run_bind, hag, sizeOf, typeInfo, h1, h3], ?_⟩
    simp only [fldCut, if_true]
    refine .agg _ _ (by simp; omega) fun j u x hu hx => ?_
    rw [List.getElem?_take] at hu
    split at hu
    · rename_i hj
      rw [drop_at] at hu
      rw [Array.getElem?_extract] at hx
      rw [if_pos (by omega)] at hx
      exact hr _ u x hu hx
    · cases hu
  | false =>
    have hag : (w'' : World) → (isAgg t).run P w'' = .ok false w'' := fun w'' => by
      unfold isAgg
      rw [Sem.run_bind, run_underlying h2 w'']
      cases d <;> simp_all [aggD]
    have hlt : off < cs.size := by omega
    have hlt' : off < l.length := by omega
    refine ⟨cs[off], fun w' => by simp [part, Sem.run_bind, hag, Array.getElem?_eq_getElem hlt], ?_⟩
    simp only [fldCut, Bool.false_eq_true, if_false]
    rw [List.getElem?_eq_getElem hlt', Option.getD_some]
    exact hr off _ _ (List.getElem?_eq_getElem hlt') (Array.getElem?_eq_getElem hlt)
theorem agg_inv {l : List AV} {x : Value} {ln : List Nat} (hr : RepV G ln F w (.agg l) x) : ∃ cs : Array Value, x = .agg cs ∧ l.length = cs.size ∧ ∀ (j : Nat) (u : AV) (x : Value), l[j]? = some u → cs[j]? = some x → RepV G ln F w u x := by
  cases hr with
  | d _ _ h => cases h
  | agg _ cs h1 h2 => exact ⟨cs, rfl, h1, h2⟩
theorem tup_inv {l : List AV} {x : Value} {ln : List Nat} (hr : RepV G ln F w (.tup l) x) : ∃ cs : Array Value, x = .tuple cs ∧ l.length = cs.size ∧ ∀ (j : Nat) (u : AV) (x : Value), l[j]? = some u → cs[j]? = some x → RepV G ln F w u x := by
  cases hr with
  | d _ _ h => cases h
  | tup _ cs h1 h2 => exact ⟨cs, rfl, h1, h2⟩
theorem runv {s : Sem Value} {x : Value} {w' : World} (hs : s.run P w' = .ok x w') : (do pure (Next.value (← s)) : Sem Next).run P w' = .ok (.value x) w' := by
  simp [Sem.run_bind, hs]
theorem isCell_one {u : AV} {x : Value} {ln : List Nat} (hc : isCell u = true) (hr : RepV G ln F w u x) : x.oneCell' = true := by
  cases u with
  | c v => rw [hr.c_inv]; exact hc
  | any => cases hc
  | agg l => cases hc
  | tup l => cases hc
  | g b w v => cases hc
  | ptr k off m => cases hr with
    | d _ _ h => cases h
    | ptr _ _ _ _ _ => rfl
    | ptrOld _ _ _ _ _ _ _ => rfl
  | sl k sz off n m => cases hr with
    | d _ _ h => cases h
    | sl _ _ _ _ _ _ _ _ _ _ _ => rfl
    | slNil _ _ _ _ => rfl
    | slOld _ _ _ _ _ _ _ _ _ _ _ => rfl
  | fs sz n l => obtain ⟨A, c, rfl, _⟩ := fsD_inv (fs_inv hr); rfl
  | fp l => obtain ⟨b, o, f, rfl, _⟩ := fp_inv hr; rfl
  | clo f l k => cases hr with
    | d _ _ h => cases h
    | clo _ _ _ _ _ _ _ _ _ => rfl
theorem oneCell_cells {x : Value} (h : x.oneCell' = true) : x.cells = #[x] := by
  cases x <;> first | rfl | cases h
theorem okV_cells {u : AV} {x : Value} {ln : List Nat} (hc : okV u = true) (hr : RepV G ln F w u x) : u.cells.length = x.cells.size ∧ ∀ (j : Nat) (v : AV) (y : Value), u.cells[j]? = some v → x.cells[j]? = some y → RepV G ln F w v y := by
  by_cases hu : ∃ l, u = .agg l
  · obtain ⟨l, rfl⟩ := hu
    obtain ⟨cs, rfl, h1, h2⟩ := agg_inv hr
    exact ⟨h1, h2⟩
  · have h1 : isCell u = true := by cases u <;> first | exact hc | exact absurd ⟨_, rfl⟩ hu
    have h2 : u.cells = [u] := by cases u <;> first | rfl | exact absurd ⟨_, rfl⟩ hu
    rw [h2, oneCell_cells (isCell_one h1 hr)]
    refine ⟨rfl, fun j v y hv hy => ?_⟩
    cases j with
    | zero => simp at hv hy; subst hv hy; exact hr
    | succ j => simp at hv
theorem foldl_set (vs : List Value) : ∀ (k off : Nat) (cells : Array Value), off + k + vs.length ≤ cells.size →
    ((vs.zipIdx k).foldl (fun cs (c, j) => cs.setIfInBounds (off + j) c) cells).size = cells.size ∧
    ∀ j, ((vs.zipIdx k).foldl (fun cs (c, j) => cs.setIfInBounds (off + j) c) cells)[j]? = if off + k ≤ j ∧ j < off + k + vs.length then vs[j - (off + k)]? else cells[j]? := by
  induction vs with
  | nil => intro k off cells _; exact ⟨rfl, fun j => by simp; omega⟩
  | cons v vs ih =>
    intro k off cells hle
    simp only [List.length_cons] at hle
    obtain ⟨h1, h2⟩ := ih (k + 1) off (cells.setIfInBounds (off + k) v) (by simp; omega)
    simp only [List.zipIdx_cons, List.foldl_cons]
    refine ⟨by rw [h1]; simp, fun j => ?_⟩
    rw [h2 j, List.length_cons]
    by_cases e1 : off + (k + 1) ≤ j ∧ j < off + (k + 1) + vs.length
    · rw [if_pos e1, if_pos (by omega)]
      have : j - (off + k) = (j - (off + (k + 1))) + 1 := by omega
      rw [this, List.getElem?_cons_succ]
    · rw [if_neg e1, Array.getElem?_setIfInBounds]
      by_cases e2 : off + k = j
      · subst e2
        rw [if_pos rfl, if_pos (by omega), if_pos (by omega)]
        simp
      · rw [if_neg e2, if_neg (by omega)]
theorem fill_sound {ln : List Nat} (pl : Nat → Option (Nat × Nat)) (ev : Operand → Value) {s : AS} (hev : ∀ x, RepV G ln F w (s.ev x) (ev x)) : ∀ (parts : List (Nat × Operand)) (l : List (Nat × Nat × AV)) (Z Z' : List AV) (cells : Array Value),
    partsV s pl parts = some l → gcsV s parts → fillV Z l = some Z' → Z.length = cells.size → (∀ (j : Nat) (v : AV) (y : Value), Z[j]? = some v → cells[j]? = some y → RepV G ln F w v y) →
    ∃ cells', Instr.fill pl cells (parts.map fun p => (p.1, ev p.2)) = some cells' ∧ Z'.length = cells'.size ∧ ∀ (j : Nat) (v : AV) (y : Value), Z'[j]? = some v → cells'[j]? = some y → RepV G ln F w v y := by
  intro parts
  induction parts with
  | nil =>
    intro l Z Z' cells h1 _ h2 h3 h4
    simp only [partsV] at h1
    injection h1 with h1; subst h1
    simp only [fillV] at h2
    injection h2 with h2; subst h2
    exact ⟨cells, rfl, h3, h4⟩
  | cons p r ih =>
    obtain ⟨i, x⟩ := p
    intro l Z Z' cells h1 hg h2 h3 h4
    simp only [partsV] at h1
    split at h1
    · rename_i off sz l' e1 e2 e3
      injection h1 with h1; subst h1
      simp only [fillV] at h2
      split at h2
      · rename_i hc
        obtain ⟨c1, c2⟩ := hc
        obtain ⟨q1, q2⟩ := okV_cells e2 ((hev x).ung hg.1)
        obtain ⟨f1, f2⟩ := foldl_set (ev x).cells.toList 0 off cells (by simp; omega)
        have hsz : (ev x).cells.size = sz := by omega
        have key := ih l' _ Z' ((ev x).cells.zipIdx.foldl (fun cs (c, j) => cs.setIfInBounds (off + j) c) cells) e3 hg.2 h2
        have eA : ((ev x).cells.zipIdx.foldl (fun cs (c, j) => cs.setIfInBounds (off + j) c) cells) = (((ev x).cells.toList.zipIdx 0).foldl (fun cs (c, j) => cs.setIfInBounds (off + j) c) cells) := by
          rw [← Array.foldl_toList, Array.toList_zipIdx]
        rw [eA] at key
        obtain ⟨cells', g1, g2, g3⟩ := key (by rw [f1]; simp; omega) (fun j v y hv hy => by
          rw [f2 j] at hy
          simp only [Nat.add_zero, Array.length_toList] at hy
          by_cases k1 : j < off
          · rw [if_neg (by omega)] at hy
            rw [List.append_assoc, List.getElem?_append_left (by simp; omega), List.getElem?_take, if_pos k1] at hv
            exact h4 j v y hv hy
          · by_cases k2 : j < off + sz
            · rw [if_pos (by omega)] at hy
              rw [List.append_assoc, List.getElem?_append_right (by simp; omega), List.getElem?_append_left (by simp; omega)] at hv
              have : j - (Z.take off).length = j - off := by simp; omega
              rw [this] at hv
              exact q2 _ v y hv (by simpa using hy)
            · rw [if_neg (by omega)] at hy
              rw [List.getElem?_append_right (by simp; omega), List.getElem?_drop] at hv
              have : off + sz + (j - (Z.take off ++ (s.ev x).ung.cells).length) = j := by simp; omega
              rw [this] at hv
              exact h4 j v y hv hy)
        refine ⟨cells', ?_, g2, g3⟩
        simp only [List.map_cons, Instr.fill, e1]
        rw [if_neg (by simp [hsz]; omega), eA]
        exact g1
      · cases h2
    · cases h1
theorem zero_crel {z : Array Value} {ln : List Nat} (j : Nat) (v : AV) (y : Value) (hv : (z.toList.map AV.c)[j]? = some v) (hy : z[j]? = some y) : RepV G ln F w v y := by
  rw [List.getElem?_map, Option.map_eq_some_iff] at hv
  obtain ⟨u, hu, rfl⟩ := hv
  rw [Array.getElem?_toList] at hu
  rw [hu] at hy; injection hy with hy; subst hy
  exact .cc _
theorem buildV_sound {E : Env} {s : AS} {a : Act} (hr : Rel E G F s a w) {t : TypeId} {parts : Array (Nat × Operand)} {dst : Option Tmp} {ty : TypeId} {pos : String} {aft : Array Edge} {gd : Option (Nat × Bool)} {q : Prop × AV} (hq : buildV P s t parts.toList = some q) (hs : q.1) :
    ∃ x, (∀ w', SameOn ro G F s.h w w' → (execOp a.eval ⟨dst, .build t parts, ty, pos, aft, gd⟩).run P w' = .ok (.value x) w') ∧ RepV G (lens s.h) F w q.2 x := by
  unfold buildV at hq
  split at hq
  · rename_i z pl hz hpl
    rw [Option.bind_eq_some_iff] at hq
    obtain ⟨l, hl, hq⟩ := hq
    rw [Option.map_eq_some_iff] at hq
    obtain ⟨cs, hcs, rfl⟩ := hq
    simp only at hs
    unfold zeroT at hz
    rw [Option.bind_eq_some_iff] at hz
    obtain ⟨it, hit, hz⟩ := hz
    rw [Option.map_eq_some_iff] at hz
    obtain ⟨zv, hzv, rfl⟩ := hz
    obtain ⟨cells', f1, f2, f3⟩ := fill_sound pl a.eval hr.ev parts.toList l _ cs zv.cells hl hs hcs (by simp) zero_crel
    have hb : P.built t ((parts.map fun p => (p.1, a.eval p.2)).toList) = some cells' := by
      unfold plT at hpl
      unfold Program.built
      split at hpl
      · rename_i fs hfs
        rw [Option.map_eq_some_iff] at hpl
        obtain ⟨pls, hp1, rfl⟩ := hpl
        simp only [hit, hfs, hzv, hp1]
        simpa using f1
      · rename_i n e he
        rw [Option.map_eq_some_iff] at hpl
        obtain ⟨ie, hie, rfl⟩ := hpl
        simp only [hit, he, hzv, hie]
        simpa using f1
      · cases hpl
    exact ⟨.agg cells', fun w' _ => runv (run_build w' t _ cells' hb), .agg _ _ f2 f3⟩
  · cases hq
theorem callV_sound {E : Env} {s : AS} {a : Act} (hr : Rel E G F s a w) {c : Call} {dst : Option Tmp} {ty : TypeId} {pos : String} {aft : Array Edge} {gd : Option (Nat × Bool)} {q : Prop × AV} (hq : callV P s c = some q) (hs : q.1) :
    ∃ x, (∀ w', SameOn ro G F s.h w w' → (execOp a.eval ⟨dst, .call c, ty, pos, aft, gd⟩).run P w' = .ok (.value x) w') ∧ RepV G (lens s.h) F w q.2 x := by
  obtain ⟨cal, args, ats⟩ := c
  obtain ⟨args⟩ := args
  obtain ⟨ats⟩ := ats
  have hev := hr.ev
  unfold callV at hq
  simp only at hq
  split at hq
  · rename_i x t
    rw [Option.map_eq_some_iff] at hq
    obtain ⟨p, hp, rfl⟩ := hq
    obtain ⟨z, h1, h2⟩ := lenV_sound (ro := ro) (ty := ty) hp hs.2 ((hev x).ung hs.1)
    exact ⟨z, fun w' hw => by simpa [execOp, resolve, invoke, builtin] using runv (P := P) (h1 w' hw), h2⟩
  · rename_i x y
    rw [Option.map_eq_some_iff] at hq
    obtain ⟨p, hp, rfl⟩ := hq
    obtain ⟨z, h1, h2⟩ := max2_sound (P := P) (ro := ro) hp ((hev x).ung hs.1) ((hev y).ung hs.2)
    exact ⟨z, fun w' hw => by simpa [execOp, resolve, invoke, builtin] using runv (P := P) (h1 w' hw), h2⟩
  · rename_i x y
    rw [Option.map_eq_some_iff] at hq
    obtain ⟨p, hp, rfl⟩ := hq
    obtain ⟨z, h1, h2⟩ := min2_sound (P := P) (ro := ro) hp ((hev x).ung hs.1) ((hev y).ung hs.2)
    exact ⟨z, fun w' hw => by simpa [execOp, resolve, invoke, builtin] using runv (P := P) (h1 w' hw), h2⟩
  · cases hq
theorem pureV_sound {E : Env} {s : AS} {a : Act} (hr : Rel E G F s a w) (o : Oper) {q : Prop × AV} (hq : pureV P ro s o.op = some q) (hs : q.1) :
    ∃ x, (∀ w', SameOn ro G F s.h w w' → (execOp a.eval o).run P w' = .ok (.value x) w') ∧ RepV G (lens s.h) F w q.2 x := by
  obtain ⟨dst, op, ty, pos, aft, gd⟩ := o
  simp only at hq
  have hev := hr.ev
  unfold pureV at hq
  split at hq
  · injection hq with hq; subst hq
    exact ⟨_, fun w' _ => rfl, hev _⟩
  · injection hq with hq; subst hq
    exact ⟨_, fun w' _ => rfl, hev _⟩
  · rename_i c x y
    split at hq
    · rename_i v b1 b2 e1 e2 e3
      injection hq with hq; subst hq
      obtain ⟨g1, g2, g3⟩ := hs
      have hc := (hev c).ung g1
      rw [e1] at hc
      have hc' := hc.c_inv
      cases v
      · have hy := (hev y).ung (g3 rfl)
        rw [e3] at hy
        exact ⟨_, fun w' _ => by simp [execOp, hc', asBool]; rfl, by rw [hy.c_inv]; exact .cc _⟩
      · have hx := (hev x).ung (g2 rfl)
        rw [e2] at hx
        exact ⟨_, fun w' _ => by simp [execOp, hc', asBool]; rfl, by rw [hx.c_inv]; exact .cc _⟩
    · cases hq
  · rename_i x
    rw [Option.map_eq_some_iff] at hq
    obtain ⟨p, hp, rfl⟩ := hq
    obtain ⟨g1, g2⟩ := hs
    have hx := (hev x).ung g1
    refine ⟨a.eval x, fun w' _ => ?_, by simp only; rw [nilV_same hp]; exact hx⟩
    rcases nilV_sound (q := p) (op := pure .skip) hr.heap hp g2 hx with ⟨b, e⟩ | ⟨f, l, k, e⟩ <;> simp [execOp, e]
  · rename_i op t x y _
    rw [Option.map_eq_some_iff] at hq
    obtain ⟨p, hp, rfl⟩ := hq
    obtain ⟨g1, g2, g3⟩ := hs
    obtain ⟨z, h1, h2⟩ := binV_sound hp g3 ((hev x).ung g1) ((hev y).ung g2) x y
    exact ⟨z, fun w' _ => runv (h1 w'), h2⟩
  · rename_i op t x
    rw [Option.map_eq_some_iff] at hq
    obtain ⟨p, hp, rfl⟩ := hq
    obtain ⟨z, h1, h2⟩ := unV_sound (ro := ro) hp ((hev x).ung hs)
    exact ⟨z, fun w' hw => runv (h1 w' hw), h2⟩
  · rename_i src dst x
    rw [Option.map_eq_some_iff] at hq
    obtain ⟨p, hp, rfl⟩ := hq
    obtain ⟨z, h1, h2⟩ := convV_sound hr.heap hp hs.2 ((hev x).ung hs.1)
    exact ⟨z, fun w' hw => runv (h1 w' hw), h2⟩
  · rename_i t x lo hi
    rw [Option.map_eq_some_iff] at hq
    obtain ⟨p, hp, rfl⟩ := hq
    obtain ⟨z, h1, h2⟩ := sliceV_sound (ro := ro) hr.heap hp hs.2 ((hev x).ung hs.1) (rho_none (x := lo) hev).1 (rho_none (x := lo) hev).2 (rho_none (x := hi) hev).1 (rho_none (x := hi) hev).2
    exact ⟨z, fun w' hw => runv (h1 w' hw), h2⟩
  · rename_i t x lo hi mx
    rw [Option.map_eq_some_iff] at hq
    obtain ⟨p, hp, rfl⟩ := hq
    obtain ⟨z, h1, h2⟩ := slice3V_sound (ro := ro) hr.heap hp hs.2 ((hev x).ung hs.1) (rho_none (x := lo) hev).1 (rho_none (x := lo) hev).2 (hev hi) (hev mx)
    exact ⟨z, fun w' hw => runv (h1 w' hw), h2⟩
  · rename_i t x f
    rw [Option.map_eq_some_iff] at hq
    obtain ⟨p, hp, rfl⟩ := hq
    obtain ⟨z, h1, h2⟩ := fldV_sound (ro := ro) hp hs.2 ((hev x).ung hs.1)
    exact ⟨z, fun w' hw => runv (h1 w' hw), h2⟩
  · rename_i t x f
    split at hq
    · rename_i l off sz ag e1 e2
      injection hq with hq; subst hq
      obtain ⟨g1, g2⟩ := hs
      have hx := (hev x).ung g1
      rw [e1] at hx
      obtain ⟨cs, e3, e4, e5⟩ := agg_inv hx
      obtain ⟨fs, y, i, d, h1, h2, h3, h4, h5, h6, h7, h8⟩ := fldT_inv e2
      simp only at h5 h6 h7 h8
      obtain ⟨z, r1, r2⟩ := part_sound (P := P) h3 h4 h6 h8 h7 g2 e4 e5
      exact ⟨z, fun w' _ => runv (by simp [Instr.field, run_underlying h1, h2, e3, asAgg, h5, r1 w']), r2⟩
    · cases hq
  · rename_i t x i
    split at hq
    · rename_i k n e1
      rw [Option.map_eq_some_iff] at hq
      obtain ⟨p, hp, rfl⟩ := hq
      obtain ⟨g1, g2, g3⟩ := hs
      have hi := (hev i).ung g2
      rw [e1] at hi
      obtain ⟨z, h1, h2⟩ := ixV_sound (ro := ro) (k := k) hp g3 ((hev x).ung g1)
      exact ⟨z, fun w' hw => runv (by rw [hi.c_inv]; exact h1 w' hw), h2⟩
    · cases hq
  · rename_i t x i
    split at hq
    · rename_i b k n e1 e2
      split at hq
      · rename_i ht
        injection hq with hq; subst hq
        obtain ⟨g1, g2, g3, g4⟩ := hs
        have hx := (hev x).ung g1
        have hi := (hev i).ung g2
        rw [e1] at hx
        rw [e2] at hi
        have hlt : n.toNat < b.size := by omega
        have hlt' : n.toNat < b.data.toList.length := by simpa using hlt
        refine ⟨_, fun w' _ => runv (by rw [hx.c_inv, hi.c_inv]; simp [Instr.index, asIntOf, run_underlying (isStrT_inv ht), g3, hlt]; rfl), ?_⟩
        rw [List.getElem?_eq_getElem hlt', Option.getD_some]
        exact .cc _
      · cases hq
    · cases hq
  · rename_i x i
    split at hq
    · rename_i l e1
      injection hq with hq; subst hq
      obtain ⟨g1, g2⟩ := hs
      have hx := (hev x).ung g1
      rw [e1] at hx
      obtain ⟨cs, e3, e4, e5⟩ := tup_inv hx
      have hlt : i < cs.size := by omega
      exact ⟨cs[i], fun w' _ => runv (by rw [e3]; simp [Instr.extract, hlt]), by simp only; rw [List.getElem?_eq_getElem g2, Option.getD_some]; exact e5 i _ _ (List.getElem?_eq_getElem g2) (Array.getElem?_eq_getElem hlt)⟩
    · cases hq
  · rename_i f l k
    injection hq with hq; subst hq
    refine ⟨_, fun w' _ => runv rfl, .clo f _ _ _ _ (by simp) (by simp) (fun j u x hu hx => ?_) fun j u x hu hx => ?_⟩
    · rw [List.getElem?_map, Option.map_eq_some_iff] at hu
      rw [Array.getElem?_map, Option.map_eq_some_iff] at hx
      obtain ⟨y, hy, rfl⟩ := hu
      obtain ⟨y', hy', rfl⟩ := hx
      rw [Array.getElem?_toList] at hy
      rw [hy] at hy'; injection hy' with hy'; subst hy'
      exact hev y
    · rw [List.getElem?_map, Option.map_eq_some_iff] at hu
      rw [Array.getElem?_map, Option.map_eq_some_iff] at hx
      obtain ⟨y, hy, rfl⟩ := hu
      obtain ⟨y', hy', rfl⟩ := hx
      rw [Array.getElem?_toList] at hy
      rw [hy] at hy'; injection hy' with hy'; subst hy'
      exact hev y
  · rename_i t x
    rw [Option.map_eq_some_iff] at hq
    obtain ⟨p, hp, rfl⟩ := hq
    obtain ⟨z, h1, h2⟩ := loadAV_sound hr.heap hp hs.2 ((hev x).ung hs.1)
    exact ⟨z, fun w' hw => runv (h1 w' hw), h2⟩
  · exact buildV_sound hr hq hs
  · exact callV_sound hr hq hs
  · cases hq
end
end Go.Proofs.Ytmgpiminicgbiaa
