import Derived.Test.YtjkllofkdhjlaaaS17
namespace Go.Proofs.Ytjkllofkdhjlaaa
set_option linter.unusedVariables false
set_option linter.unusedSimpArgs false
open Go.RowKit
attribute [local simp] isCut_nil isCut_region isCut_seq isCut_block isCut_loop isCut_cond isCut_skip isCut_exit isCut_ret isCut_range swapK putK altK condK_bool pickP_bool stepP stepO onPure_some onPure_none onImpl_some onImpl_none stepC onGP_some onGP_none onGV_some condG onIt_it nextP_ptr takeP_eq takeV_some takeN_none takeN_some takeG_some takeO_some altO_some pureV binV intBin strBin isSh shV fldV ixV sliceV loadAV nilV lenV callV unV convV viewS cellsH loadV fldCut AV.ung AV.gc AV.cells AS.ev AS.put anyS gcsV lens lnO gV guardV retK RetP_eq resV oneV anyRo loIx hiIx implO callP_clo evL gcsL storeAV AS.push AS.setO appV copyV buildV partsV fillV srcV fzO okV isCell_c isCell_ptr isCell_sl isCell_fs isCell_fp isCell_clo rowZ_one rowZ_zero rowZ_2 rowZ_3 rowZ_4 rowZ_5 rowZ_6 rowZ_7 rowZ_8 rowZ_9 rowZ_10 rowZ_11 rowZ_12 noHo Value.oneCell' max2V min2V afterH putBack frzFrom frzO rebO backIx nilEq_sl nilEq_fs nilOp_eql nilOp_neq AV.reb AV.rebL
attribute [local simp ↓] runK_skip runK_region runK_draw runK_seq runK_cut runK_cond runK_block runK_loop runK_exit runK_label runK_goto runK_ret runK_range contK_nil contK_seq contK_seq_ret contK_seq_exit contK_seq_goto contK_block contK_block_ret contK_block_goto contK_block_exit runO_nil runO_cons roundK_exit roundK_ret roundK_goto exitK_ret cutK_ret cutK_exit runE_done runE_nil runE_take runE_alt condG_true condG_false
set_option maxRecDepth 10000
/-! ## A box of 64 slices, each with a row of its own -/
def updM {α : Type} (f : Nat → α) (k : Nat) (v : α) : Nat → α := fun i => if i = k then v else f i
@[simp] theorem updM_self {α : Type} (f : Nat → α) (k : Nat) (v : α) : updM f k v k = v := if_pos rfl
theorem updM_ne {α : Type} (f : Nat → α) {i k : Nat} (v : α) (h : i ≠ k) : updM f k v i = f i := if_neg h
def boxM (g : Nat → Nat) (m : Nat → List UInt8) : List AV := (List.range 64).map fun i => .sl (g i + 4) 1 0 (m i).length (m i).length
@[simp] theorem boxM_length (g : Nat → Nat) (m : Nat → List UInt8) : (boxM g m).length = 64 := by simp [boxM]
theorem boxM_at (g : Nat → Nat) (m : Nat → List UInt8) (k : Nat) (hk : k < 64) : (List.drop k (boxM g m))[0]? = some (.sl (g k + 4) 1 0 (m k).length (m k).length) := by
  rw [List.getElem?_drop, Nat.add_zero]; simp [boxM, hk]
theorem boxM_set (g : Nat → Nat) (m : Nat → List UInt8) (k : Nat) (hk : k < 64) (g' : Nat) (l : List UInt8) (n : Nat) (hn : n = l.length) : List.take k (boxM g m) ++ .sl (g' + 4) 1 0 n n :: List.drop (k + 1) (boxM g m) = boxM (updM g k g') (updM m k l) := by
  subst hn
  have : (boxM g m).set k (.sl (g' + 4) 1 0 l.length l.length) = boxM (updM g k g') (updM m k l) := by
    apply List.ext_getElem?
    intro i
    by_cases hi : i = k
    · subst hi
      rw [List.getElem?_set_self (by simpa using hk)]; simp [boxM, hk]
    · rw [List.getElem?_set_ne (Ne.symm hi)]
      by_cases h64 : i < 64
      · simp [boxM, h64, updM_ne _ _ hi]
      · rw [List.getElem?_eq_none (by simp; omega), List.getElem?_eq_none (by simp; omega)]
  rw [← this, List.set_eq_take_append_cons_drop, if_pos (by simpa using hk)]
def rowU (l : List UInt8) : AObj := .o (.row 5 1) (u8av l)
/-- what lies about -/
def JOk (x : AObj) : Prop := (∃ l, x = rowU l) ∨ ∃ o, x = .o .box (op6A o)
theorem JOk.row (l : List UInt8) : JOk (rowU l) := .inl ⟨l, rfl⟩
theorem JOk.op (o : Op6) : JOk (.o .box (op6A o)) := .inr ⟨o, rfl⟩
structure MayOk (T : List AObj) (g : Nat → Nat) (m : Nat → List UInt8) : Prop where
  at_ : ∀ i, i < 64 → T[g i]? = some (rowU (m i))
  inj : ∀ i k, i < 64 → k < 64 → g i = g k → i = k
  rows : ∀ x ∈ T, JOk x
theorem MayOk.lt {T : List AObj} {g : Nat → Nat} {m : Nat → List UInt8} (h : MayOk T g m) (i : Nat) (hi : i < 64) : g i < T.length := (List.getElem?_eq_some_iff.1 (h.at_ i hi)).1
theorem MayOk.push {T : List AObj} {g : Nat → Nat} {m : Nat → List UInt8} (h : MayOk T g m) {y : AObj} (hy : JOk y) : MayOk (T ++ [y]) g m :=
  ⟨fun i hi => by rw [List.getElem?_append_left (h.lt i hi)]; exact h.at_ i hi, h.inj, fun x hx => by
    simp only [List.mem_append, List.mem_singleton] at hx
    rcases hx with hx | rfl
    · exact h.rows x hx
    · exact hy⟩
theorem MayOk.grow {T : List AObj} {g : Nat → Nat} {m : Nat → List UInt8} (h : MayOk T g m) (k : Nat) (hk : k < 64) (l : List UInt8) : MayOk (T.set (g k) (rowU l)) g (updM m k l) :=
  ⟨fun i hi => by
    by_cases hik : i = k
    · subst hik; rw [List.getElem?_set_self (h.lt i hi), updM_self]
    · rw [List.getElem?_set_ne (fun e => hik (h.inj _ _ hi hk e.symm)), updM_ne _ _ hik]; exact h.at_ i hi, h.inj, fun x hx => by
    rcases List.mem_or_eq_of_mem_set hx with hx | rfl
    · exact h.rows x hx
    · exact .row l⟩
theorem MayOk.fresh {T : List AObj} {g : Nat → Nat} {m : Nat → List UInt8} (h : MayOk T g m) (k : Nat) (l : List UInt8) : MayOk (T ++ [rowU l]) (updM g k T.length) (updM m k l) := by
  refine ⟨fun i hi => ?_, fun i j hi hj e => ?_, (h.push (.row l)).rows⟩
  · by_cases hik : i = k
    · subst hik; simp
    · rw [updM_ne _ _ hik, updM_ne _ _ hik]; exact (h.push (.row l)).at_ i hi
  · by_cases hik : i = k
    · by_cases hjk : j = k
      · omega
      · rw [hik, updM_self, updM_ne _ _ hjk] at e
        have := h.lt j hj; omega
    · by_cases hjk : j = k
      · rw [hjk, updM_self, updM_ne _ _ hik] at e
        have := h.lt i hi; omega
      · rw [updM_ne _ _ hik, updM_ne _ _ hjk] at e; exact h.inj i j hi hj e
@[simp] theorem frzFrom_none (i : Nat) (l : List AObj) : frzFrom (fun _ => false) i l = l := by
  induction l generalizing i with
  | nil => rfl
  | cons x l ih => simp [frzFrom, ih]
theorem livH_rows (dead lent : List Nat) {T : List AObj} (h : ∀ x ∈ T, JOk x) : ∀ i, livH dead lent i T = true := by
  induction T with
  | nil => intro i; rfl
  | cons x T ih =>
    intro i
    have hx := h x (by simp)
    simp only [livH, ih (fun y hy => h y (List.mem_cons_of_mem _ hy)), Bool.and_true, Bool.or_eq_true]
    right
    rcases hx with ⟨l, rfl⟩ | ⟨o, rfl⟩
    · simp [rowU, livO]
    · simp [op6A, livO, AV.livL, AV.liv]
theorem livL_none (l : List AV) : AV.livL [] l = true := by
  have hd1 : ∀ v : AV, v.liv [] = true := by
    intro v
    refine AV.rec (motive_1 := fun v => v.liv [] = true) (motive_2 := fun l => AV.livL [] l = true) ?_ ?_ ?_ ?_ ?_ ?_ ?_ ?_ ?_ ?_ ?_ ?_ v <;> simp_all [AV.liv, AV.livL]
  induction l with
  | nil => simp [AV.livL]
  | cons v l ih => simp [AV.livL, hd1 v, ih]
theorem livH_none (lent : List Nat) (h : List AObj) : ∀ n, livH [] lent n h = true := by
  induction h with
  | nil => intro n; simp [livH]
  | cons o h ih =>
    intro n
    simp only [livH, ih, Bool.and_true, Bool.or_eq_true]
    right
    cases o with
    | it _ _ => rfl
    | o k cs => cases k <;> simp [livO, livL_none]
/-- told otherwise, no block less -/
theorem wk_all {E : Env} {s s' : AS} (hn : E.ln0.length ≤ s.h.length) (hh : s.h = s'.h) (ht : wkL [] s.t s'.t) : Wk E s s' :=
  wk_of s.h.length 0 rfl hn (by rw [List.take_length, hh]) (by simpa using livH_none _ _ _) (by simpa using ht)
theorem boxM_liv (dead : List Nat) (hd : ∀ d ∈ dead, d < 4) (g : Nat → Nat) (m : Nat → List UInt8) : AV.livL dead (boxM g m) = true := by
  have : ∀ l : List Nat, AV.livL dead (l.map fun i => .sl (g i + 4) 1 0 (m i).length (m i).length) = true := by
    intro l
    induction l with
    | nil => rfl
    | cons i l ih =>
      simp only [List.map_cons, AV.livL, AV.liv, ih, Bool.and_true, Bool.not_eq_true', List.contains_eq_mem, decide_eq_false_iff_not]
      intro h; have := hd _ h; omega
  exact this _
theorem may_init {E : Env} {t : List AV} {a b c : AObj} : ∀ j, j ≤ 64 → Wk E ⟨t, [a, b, c, .o .box (List.replicate 64 (.c (.slice none 0 0)))]⟩
    ⟨t, [a, b, c, .o .box (((List.range j).map fun i => .sl (i + 4) 1 0 0 0) ++ List.replicate (64 - j) (.c (.slice none 0 0)))] ++ List.replicate j (rowU [])⟩ := by
  intro j
  induction j with
  | zero => intro _; exact Wk.refl _ _
  | succ j ih =>
    intro hj
    refine Wk.trans (ih (by omega)) ?_
    have e1 : 64 - j = (64 - (j + 1)) + 1 := by omega
    have := wk_virtC (E := E) (s := ⟨t, [a, b, c, .o .box (((List.range j).map fun i => AV.sl (i + 4) 1 0 0 0) ++ List.replicate (64 - j) (.c (.slice none 0 0)))] ++ List.replicate j (rowU [])⟩) 3 j 5 1 (cs := ((List.range j).map fun i => AV.sl (i + 4) 1 0 0 0) ++ List.replicate (64 - j) (.c (.slice none 0 0))) rfl (by
      rw [List.getElem?_append_right (by simp), e1, List.replicate_succ]; simp)
    refine cast ?_ this
    congr 1
    simp only [List.cons_append, List.nil_append, List.set_cons_succ, List.set_cons_zero, List.length_cons, List.length_replicate, List.cons.injEq, true_and, AS.mk.injEq]
    refine ⟨?_, ?_⟩
    · congr 1
      rw [List.set_append_right _ _ (by simp), e1, List.replicate_succ]
      simp [List.range_succ]
    · rw [List.replicate_succ']; rfl
theorem may_start : MayOk (List.replicate 64 (rowU [])) (fun i => i) (fun _ => []) :=
  ⟨fun i hi => by simp [hi, -List.reduceReplicate], fun i k _ _ h => h, fun x hx => .inl ⟨[], (List.mem_replicate.1 hx).2⟩⟩
structure TS where
  D : DevS
  T : List AObj
  g : Nat → Nat
  m : Nat → List UInt8
  c : Nat
structure TS.Ok (b : List UInt8) (x : TS) : Prop where
  d : TrOk b x.c x.D
  s : SeenP x.D x.m
  m : MayOk x.T x.g x.m
  l : ∀ k, k < 64 → (x.m k).length ≤ x.c
def TS.h (x : TS) : List AObj := devAt 0 x.D ++ .o .box (boxM x.g x.m) :: x.T
set_option maxHeartbeats 4000000 in
theorem tears_walk (b : List UInt8) (hb : b.length ≤ maxLen) (sc : List Op6) (hs : sc.length ≤ maxLen ∧ ∀ o ∈ sc, o.Ok) (ts : List Int) (hts : ts.length ≤ maxLen ∧ ∀ x ∈ ts, i64ok x) : ACalls Try.prog 5 [.fs 1 b.length (u8av b), .fs 4 sc.length (scriptA sc), .fs 1 ts.length (intAV ts)] [] (fun _ => false) (fun r h' => r = .c (.bool true)) := by
  refine acalls mixed Try.func5 rfl Try.ntmps5 rfl fun E hE hst hho => ?_
  simp (maxSteps := 1000000) [hho, -List.reduceReplicate]
  refine call_plain (fun _ => false) first_sec (ha := by rfl) (by simp) ?_
  rintro r h' ⟨rfl, rfl⟩
  refine ⟨rfl, ?_⟩
  by_cases hbt : ¬ (b.length ≤ 64 ∧ ts.length ≤ 200)
  · by_cases h64 : b.length ≤ 64
    · have h64i : ¬ (64 : Int) < b.length := by omega
      have h200 : 200 < ts.length := by omega
      have h200i : (200 : Int) < ts.length := by omega
      simp (maxSteps := 1000000) [hho, h64, h64i, h200, h200i, -List.reduceReplicate]
      exact Ret.drop (by decide) rfl
    · have h64i : (64 : Int) < b.length := by omega
      have h64 : 64 < b.length := by omega
      simp (maxSteps := 1000000) [hho, h64, h64i, -List.reduceReplicate]
      exact Ret.drop (by decide) rfl
  obtain ⟨h64, h200⟩ := Classical.not_not.1 hbt
  have h64i : ¬ (64 : Int) < b.length := by omega
  have h200i : ¬ (200 : Int) < ts.length := by omega
  simp (maxSteps := 1000000) [hho, h64, h64i, h200, h200i, -List.reduceReplicate]
  obtain ⟨s1, s2, s3, s4⟩ := start_ok b h64
  refine call_x [] (new_ok 4 (by decide) (by decide)) rfl rfl ⟨rfl, rfl⟩ hho (by simp) (by decide) (by simp) (by simp) ?_
  rw [show (4 : Int).toNat = 4 from rfl]
  simp (maxSteps := 1000000) [hho, devO, -List.reduceReplicate]
  refine call_x [0, 1, 2] (write_fs (newS 4) (newS_ok 4 (by decide) (by decide)) 3 b) rfl rfl ⟨rfl, rfl⟩ hho (by simp) (by decide) (by simp) (by simp [devO]) ?_
  rw [s2]
  simp (maxSteps := 1000000) [hho, devO, -List.reduceReplicate]
  have st12 : ∀ (c : Nat) (i q : Nat), ([c, c + 1, c + 2] : List Nat)[i]? = some q → decide (i < 2) = true ∨ q ∈ [c + 2] := by
    intro c i q h
    match i, h with
    | 0, _ => exact .inl rfl
    | 1, _ => exact .inl rfl
    | 2, h => simp at h; exact .inr (by simp [h])
    | i + 3, h => simp at h
  refine call_d [0, 1, 2] (fun _ => false) [2] (flush_dev (writeS (newS 4) 3 b) s4) rfl rfl ⟨rfl, rfl⟩ hho (st12 0) (by simp [livH, livO, AV.livL, AV.liv, wkL, wkV, List.range']) (by simp [livH, livO, AV.livL, AV.liv, wkL, wkV, List.range']) (by simp [hE, lens]) (by decide) (by decide) (by simp) (by simp [devO]) ?_
  obtain ⟨d0, h0⟩ : ∃ d0, d0 = flushS (writeS (newS 4) 3 b) := ⟨_, rfl⟩
  have hsn : SeenP d0 (fun _ => []) := by rw [h0]; exact seen_start b h64 _
  rw [s3, ← h0]
  rw [← h0] at s1
  simp (maxSteps := 1000000) [hho, devO, -List.reduceReplicate]
  refine loop_k2 mixed (fun x : Nat × TS => ⟨slotsOf 186 [(0, .fs 1 b.length (u8av b)), (2, .fs 1 ts.length (intAV ts)), (7, .ptr 0 0 5), (9, .ptr 3 0 64), (50, .fs 4 sc.length (scriptA sc)), (51, .c (.int .i64 sc.length)), (52, .c (.int .i64 (x.1 : Int)))], x.2.h⟩) (fun x => sc.length - x.1) (fun x => x.1 ≤ sc.length ∧ x.2.c ≤ x.1 ∧ x.2.Ok b) (0, ⟨d0, List.replicate 64 (rowU []), fun i => i, fun _ => [], 0⟩)
    (fun x : TS => ⟨slotsOf 186 [(0, .fs 1 b.length (u8av b)), (2, .fs 1 ts.length (intAV ts)), (7, .ptr 0 0 5), (9, .ptr 3 0 64)], x.h⟩) (fun x => x.Ok b) 0 ⟨Nat.zero_le _, Nat.le_refl _, s1, hsn, may_start, fun _ _ => Nat.le_refl _⟩ ?_ ?_ ?_
  · refine Wk.trans (may_init 64 (Nat.le_refl _)) ?_
    simp (maxSteps := 1000000) [devAt, TS.h, slotsOf, boxM, -List.reduceReplicate]
    exact wk_all (by simp [hE, lens]) (by simp [-List.reduceReplicate]) (by simp [livH, livO, AV.livL, AV.liv, wkL, wkV, List.range'])
  · rintro ⟨D, T, g, m, c⟩ ⟨hD, hS, hM, hL⟩
    simp only at hD hS hM hL
    simp (maxSteps := 1000000) [devAt, TS.h, slotsOf, hho, -List.reduceReplicate]
    refine call_d [0, 1, 2] (fun _ => false) [2] (crash_dev D hD.ok ts) rfl rfl ⟨rfl, rfl⟩ hho (st12 0) (by simp [livH, livO, AV.livL, AV.liv, wkL, wkV, List.range', intAV_liv]) (by simpa [livH, livO, AV.livL, AV.liv, wkL, wkV, List.range', boxM_liv] using livH_rows [2] [0, 1, 2] hM.rows 4) (by simp [hE, lens]) (by decide) (by decide) (by simp) (by simp [devO]) ?_
    have hC := hD.crash_ok ts
    have hC0 := hD.crash_chk ts 0 (by decide)
    have hC3 := hD.crash_chk ts 3 (by decide)
    have hY := hD.crash3 ts
    have hX := fun k hk => seen_crash hS ts k hk
    obtain ⟨D2, e2⟩ : ∃ D2, D2 = crashS ts D := ⟨_, rfl⟩
    rw [← e2] at hC hC0 hC3 hY hX ⊢
    simp (maxSteps := 1000000) [hho, devO, -List.reduceReplicate]
    refine call_x [0, 1, 2] (read_ok D2 hC 0 hC0) rfl rfl ⟨rfl, rfl⟩ hho (by simp) (by decide) (by simp) (by simp [devO]) ?_
    simp (maxSteps := 1000000) [hho, devO, -List.reduceReplicate]
    refine call_x [0, 1, 2] (read_ok D2 hC 3 hC3) rfl rfl ⟨rfl, rfl⟩ hho (by simp) (by decide) (by simp) (by simp [devO]) ?_
    rw [show (3 : Int).toNat = 3 from rfl, hY]
    obtain ⟨xB, hxB⟩ : ∃ xB, xB = curS D2 0 := ⟨_, rfl⟩
    rw [← hxB] at hX
    simp (maxSteps := 1000000) [hho, devO, ← hxB, -List.reduceReplicate]
    obtain ⟨sb, hsb⟩ : ∃ sb, sb = bytesOf (u8av b) := ⟨_, rfl⟩
    have hxs : bytesOf (u8av (padB b).1) = fullB sb (64 - sb.size) := by rw [hsb]; exact full_of b h64
    have hsz : sb.size ≤ 1000000 := by rw [hsb, bytesOf_u8]; simp [ByteArray.size]; omega
    have hM2 := (hM.push (.row xB.1)).push (.row (padB b).1)
    have hT4 : (T ++ [rowU xB.1] ++ [rowU (padB b).1]) = T ++ [AObj.o (.row 5 1) (u8av xB.1), AObj.o (.row 5 1) (u8av (padB b).1)] := by simp [rowU]
    rw [hT4] at hM2
    have hTx : (T ++ [AObj.o (.row 5 1) (u8av xB.1), AObj.o (.row 5 1) (u8av (padB b).1)])[T.length]? = some (.o (.row 5 1) (u8av xB.1)) := by simp
    have hTy : (T ++ [AObj.o (.row 5 1) (u8av xB.1), AObj.o (.row 5 1) (u8av (padB b).1)])[T.length + 1]? = some (.o (.row 5 1) (u8av (padB b).1)) := by simp
    obtain ⟨T4, eT4⟩ : ∃ T4, T4 = T ++ [AObj.o (.row 5 1) (u8av xB.1), AObj.o (.row 5 1) (u8av (padB b).1)] := ⟨_, rfl⟩
    have hTl : T4.length = T.length + 2 := by rw [eT4]; simp
    rw [← eT4] at hTx hTy hM2 ⊢
    refine draw_k hho (.take 0 (.take 1 (.take 2 (.take 3 (.take 4 (.take 5 (.take 6 (.take 7 (.take 8 (.take 9 (.take 10 (.alt 11 (.take 12 (.take 13 (.done))) (.nil)))))))))))))  [T.length + 5] [] (by decide +kernel) (by simp; omega) ?_
    simp (maxSteps := 1000000) [roOf, holdOf, wrOf, altK, heldOk, Region.binds, hTy, hxs, ← hsb, -List.reduceReplicate]
    refine ⟨isU8_all _, isU8_all _, fun _ => ?_⟩
    refine call_plain (fun _ => false) (full_ref sb hsz) (ha := by rfl) (by simp) ?_
    rintro r h' ⟨rfl, rfl⟩
    refine ⟨rfl, ?_⟩
    simp (maxSteps := 1000000) [roOf, holdOf, wrOf, altK, heldOk, Region.binds, hxs, -List.reduceReplicate]
    have hxl : xB.1.length = 64 := xB.2
    refine ⟨⟨_, hTx, by simp⟩, ?_⟩
    refine loop_k mixed (fun k : Nat => ⟨slotsOf 186 [(9, .ptr 3 0 64), (159, .sl (T.length + 4) 1 0 64 64), (160, .c (.int .i64 64)), (161, .c (.int .i64 (k : Int)))], devAt 0 D2 ++ .o .box (boxM g m) :: T4⟩) (fun k => 64 - k) (fun k => k ≤ 64) 0 (Nat.zero_le _) ?_ ?_
    · exact wk_all (by simp [hE, lens]) (by simp [devAt]) (by simp [livH, livO, AV.livL, AV.liv, wkL, wkV, List.range', slotsOf])
    · intro k hk
      by_cases hk64 : k < 64
      · have hki : (k : Int) < 64 := by omega
        have hk1 : k + 1 ≤ 64 := by omega
        have ewk : IntKind.i64.wrap ((k : Int) + 1) = (k + 1 : Nat) := by rw [IntWalk.i64_in _ (by omega)]; rfl
        have hbk : byteAt xB k = xB.1[k]'(by omega) := by unfold byteAt; rw [List.getElem?_eq_getElem (by omega)]; rfl
        have hXk := hX k hk64
        rw [hbk] at hXk
        have hgk : T4[g k]? = some (.o (.row 5 1) (u8av (m k))) := hM2.at_ k hk64
        have hlk := hL k hk64
        have hc5 := hD.c5
        simp (maxSteps := 1000000) [devAt, slotsOf, hho, hki, hk64, hk1, hTx, hgk, u8av_drop0 xB.1 k (by omega), boxM_at _ _ k hk64, -List.reduceReplicate]
        have hxk : k < xB.1.length := by omega
        have h0n : ∀ c : UInt8, c = 0 ↔ c.toNat = 0 := fun c => by
          constructor
          · rintro rfl; rfl
          · intro h; exact UInt8.toNat_inj.1 h
        refine loop_k mixed (fun y : Nat × Bool => ⟨slotsOf 186 [(9, .ptr 3 0 64), (159, .sl (T.length + 4) 1 0 64 64), (160, .c (.int .i64 64)), (161, .c (.int .i64 (k : Int))), (23, .c (.int .u8 (xB.1[k].toNat))), (24, .c (.bool y.2)), (170, .sl (g k + 4) 1 0 (m k).length (m k).length), (171, .c (.int .i64 (m k).length)), (172, .c (.int .i64 (y.1 : Int)))], devAt 0 D2 ++ .o .box (boxM g m) :: T4⟩) (fun y => (m k).length - y.1)
          (fun y => y.1 ≤ (m k).length ∧ (xB.1[k] = 0 → y.2 = true) ∧ ∀ p, p < y.1 → (m k)[p]? = some xB.1[k] → y.2 = true) (0, decide (xB.1[k].toNat = 0)) ⟨Nat.zero_le _, fun h => by simpa using (h0n _).1 h, fun p hp => by simp at hp⟩ ?_ ?_
        · exact wk_all (by simp [hE, lens]) (by simp [devAt]) (by simp [livH, livO, AV.livL, AV.liv, wkL, wkV, List.range', slotsOf])
        · rintro ⟨q, v⟩ ⟨hq, hv0, hvp⟩
          simp only at hq hv0 hvp
          by_cases hql : q < (m k).length
          · have hqi : (q : Int) < (m k).length := by omega
            have hq1 : q + 1 ≤ (m k).length := by omega
            have ewq : IntKind.i64.wrap ((q : Int) + 1) = (q + 1 : Nat) := by rw [IntWalk.i64_in _ (by omega)]; rfl
            cases v
            · simp (maxSteps := 1000000) [devAt, slotsOf, hho, hqi, hql, hq1, hgk, ewq, u8av_drop0 (m k) q hql, -List.reduceReplicate]
              refine round_next (q + 1, decide ((m k)[q].toNat = xB.1[k].toNat)) ⟨by simp only; omega, fun h => absurd (hv0 h) (by decide), fun p hp hpe => ?_⟩ (by simp only; omega) ?_
              · simp only at hp ⊢
                rcases Nat.lt_or_ge p q with h | h
                · exact absurd (hvp p h hpe) (by decide)
                · obtain rfl : q = p := by omega
                  rw [List.getElem?_eq_getElem hql] at hpe
                  injection hpe with hpe
                  rw [hpe]; simp
              · exact wk_all (by simp [hE, lens]) (by simp [devAt]) (by simp [livH, livO, AV.livL, AV.liv, wkL, wkV, List.range']; omega)
            · simp (maxSteps := 1000000) [devAt, slotsOf, hho, hqi, hql, hq1, hgk, ewq, u8av_drop0 (m k) q hql, -List.reduceReplicate]
              refine round_next (q + 1, true) ⟨by simp only; omega, fun _ => rfl, fun _ _ _ => rfl⟩ (by simp only; omega) ?_
              exact wk_all (by simp [hE, lens]) (by simp [devAt]) (by simp [livH, livO, AV.livL, AV.liv, wkL, wkV, List.range'])
          · obtain rfl : q = (m k).length := by omega
            have hv : v = true := by
              rcases hXk with h | h
              · exact hv0 h
              · obtain ⟨p, hp, hpe⟩ := List.mem_iff_getElem.1 h
                exact hvp p hp (by rw [List.getElem?_eq_getElem hp, hpe])
            subst hv
            simp (maxSteps := 1000000) [devAt, slotsOf, hho, ewk, -List.reduceReplicate]
            refine round_next (k + 1) hk1 (by omega) ?_
            exact wk_all (by simp [hE, lens]) (by simp [devAt]) (by simp [livH, livO, AV.livL, AV.liv, wkL, wkV, List.range'])
      · obtain rfl : k = 64 := by omega
        simp (maxSteps := 1000000) [devAt, slotsOf, hho, -List.reduceReplicate]
        exact Ret.drop (by decide) rfl
  · rintro ⟨j, D, T, g, m, c⟩ ⟨hj, hcj, hD, hS, hM, hL⟩
    simp only at hj hcj hD hS hM hL
    by_cases hlt : j < sc.length
    · obtain ⟨o, ho⟩ : ∃ o, o = sc[j] := ⟨_, rfl⟩
      have hoo : o.Ok := by rw [ho]; exact hs.2 _ (List.getElem_mem hlt)
      have hat : List.take 4 (List.drop (j * 4) (scriptA sc)) = op6A o := by rw [ho]; exact flat_at op6A 4 (by simp) sc j hlt
      have ewj : IntKind.i64.wrap ((j : Int) + 1) = (j + 1 : Nat) := by rw [IntWalk.i64_in _ (by have := hs.1; unfold maxLen at this; omega)]; rfl
      obtain ⟨kk, hkk⟩ : ∃ kk, (IntKind.u64.wrap o.kind).tmod 5 = kk := ⟨_, rfl⟩
      by_cases h50 : j < 50
      · have h50i : ¬ (50 : Int) ≤ j := by omega
        by_cases hB : o.b.length ≤ 64
        · have hBi : ¬ (64 : Int) < o.b.length := by omega
          by_cases k3 : kk = 3
          · simp (maxSteps := 1000000) [devAt, TS.h, slotsOf, hho, hlt, hat, op6A, h50, h50i, hB, hBi, hkk, k3, ewj, -List.reduceReplicate]
            exact round_next (j + 1, ⟨D, T ++ [.o .box (op6A o)], g, m, c⟩) ⟨hlt, by simp only; omega, hD, hS, hM.push (.op o), hL⟩ (by simp only; omega) (wk_all (by simp [hE, lens]) (by simp [devAt, TS.h, op6A]) (by simp [livH, livO, AV.livL, AV.liv, wkL, wkV, List.range']))
          by_cases k4 : kk = 4
          · simp (maxSteps := 1000000) [devAt, TS.h, slotsOf, hho, hlt, hat, op6A, h50, h50i, hB, hBi, hkk, k4, ewj, -List.reduceReplicate]
            exact round_next (j + 1, ⟨D, T ++ [.o .box (op6A o)], g, m, c⟩) ⟨hlt, by simp only; omega, hD, hS, hM.push (.op o), hL⟩ (by simp only; omega) (wk_all (by simp [hE, lens]) (by simp [devAt, TS.h, op6A]) (by simp [livH, livO, AV.livL, AV.liv, wkL, wkV, List.range']))
          by_cases k2 : kk = 2
          · simp (maxSteps := 1000000) [devAt, TS.h, slotsOf, hho, hlt, hat, op6A, h50, h50i, hB, hBi, hkk, k2, ewj, -List.reduceReplicate]
            have hM1 := hM.push (.op o)
            refine call_d [0, 1, 2] (fun _ => false) [2] (flush_dev D hD.ok) rfl rfl ⟨rfl, rfl⟩ hho (st12 0) (by simp [livH, livO, AV.livL, AV.liv, wkL, wkV, List.range']) (by simpa [livH, livO, AV.livL, AV.liv, wkL, wkV, List.range', boxM_liv, op6A] using livH_rows [2] [0, 1, 2] hM1.rows 4) (by simp [hE, lens]) (by decide) (by decide) (by simp) (by simp [devO]) ?_
            have hD2 := hD.flush (by omega)
            obtain ⟨D2, e2⟩ : ∃ D2, D2 = flushS D := ⟨_, rfl⟩
            obtain ⟨T1, eT1⟩ : ∃ T1, T1 = T ++ [.o .box (op6A o)] := ⟨_, rfl⟩
            have eT1' := eT1
            simp only [op6A] at eT1'
            rw [← eT1'] 
            rw [← eT1] at hM1
            rw [← e2] at hD2 ⊢
            simp (maxSteps := 1000000) [hho, devO, -List.reduceReplicate]
            refine call_x [0, 1, 2] (read_ok D2 hD2.ok 0 (hD2.chk 0 (by decide) 0 (by decide))) rfl rfl ⟨rfl, rfl⟩ hho (by simp) (by decide) (by simp) (by simp [devO]) ?_
            simp (maxSteps := 1000000) [hho, devO, -List.reduceReplicate]
            obtain ⟨xB, hxB⟩ : ∃ xB, xB = curS D2 0 := ⟨_, rfl⟩
            rw [← hxB]
            have hxl : xB.1.length = 64 := xB.2
            refine loop_k mixed (fun y : Nat × List AObj × (Nat → Nat) × (Nat → List UInt8) => ⟨slotsOf 186 [(0, .fs 1 b.length (u8av b)), (2, .fs 1 ts.length (intAV ts)), (7, .ptr 0 0 5), (9, .ptr 3 0 64), (12, .sl (T1.length + 4) 1 0 64 64), (50, .fs 4 sc.length (scriptA sc)), (51, .c (.int .i64 sc.length)), (52, .c (.int .i64 (j : Int))), (91, .c (.int .i64 (y.1 : Int)))], devAt 0 D2 ++ .o .box (boxM y.2.2.1 y.2.2.2) :: y.2.1⟩) (fun y => 64 - y.1)
              (fun y => y.1 ≤ 64 ∧ MayOk y.2.1 y.2.2.1 y.2.2.2 ∧ y.2.1[T1.length]? = some (rowU xB.1) ∧ ∀ i, i < y.1 → y.2.2.2 i = [byteAt xB i]) (0, T1 ++ [rowU xB.1], g, m) ⟨Nat.zero_le _, hM1.push (.row _), by simp, fun i hi => by simp at hi⟩ ?_ ?_
            · exact wk_all (by simp [hE, lens]) (by simp [devAt, rowU]) (by simp [livH, livO, AV.livL, AV.liv, wkL, wkV, List.range', slotsOf])
            · rintro ⟨k, T2, g2, m2⟩ ⟨hk, hM2, hx2, hI⟩
              simp only at hk hM2 hx2 hI
              have hx3 : T2[T1.length]? = some (.o (.row 5 1) (u8av xB.1)) := hx2
              by_cases hk64 : k < 64
              · have hki : (k : Int) < 64 := by omega
                have hk1 : k + 1 ≤ 64 := by omega
                have ewk : IntKind.i64.wrap ((k : Int) + 1) = (k + 1 : Nat) := by rw [IntWalk.i64_in _ (by omega)]; rfl
                have hbk : byteAt xB k = xB.1[k]'(by omega) := by unfold byteAt; rw [List.getElem?_eq_getElem (by omega)]; rfl
                simp (maxSteps := 1000000) [devAt, slotsOf, hho, hki, hk64, hk1, hx3, ewk, u8av_drop0 xB.1 k (by omega), boxM_at _ _ k hk64, -List.reduceReplicate]
                have hbs := boxM_set g2 m2 k hk64 T2.length [xB.1[k]'(by omega)] 1 rfl
                refine round_next (k + 1, T2 ++ [rowU [xB.1[k]'(by omega)]], updM g2 k T2.length, updM m2 k [xB.1[k]'(by omega)]) ⟨by simp only; omega, hM2.fresh k _, ?_, fun i hi => ?_⟩ (by simp only; omega) ?_
                · rw [List.getElem?_append_left (List.getElem?_eq_some_iff.1 hx2).1]; exact hx2
                · by_cases hik : i = k
                  · subst hik; simp only [updM_self]; rw [hbk]
                  · simp only; rw [updM_ne _ _ hik]; exact hI i (by simp only at hi; omega)
                · exact wk_all (by simp [hE, lens]) (by simp [devAt, rowU, u8av, u8, ← hbs]) (by simp [livH, livO, AV.livL, AV.liv, wkL, wkV, List.range'])
              · obtain rfl : k = 64 := by omega
                simp (maxSteps := 1000000) [devAt, slotsOf, hho, ewj, -List.reduceReplicate]
                exact round_next (j + 1, ⟨D2, T2, g2, m2, c + 1⟩) ⟨hlt, by simp only; omega, hD2, by rw [e2]; exact seen_flush hD m2 (fun k hk => by rw [hI k hk, hxB, e2]), hM2, fun k hk => by simp only; rw [hI k hk]; simp⟩ (by simp only; omega) (wk_all (by simp [hE, lens]) (by simp [devAt, TS.h]) (by simp [livH, livO, AV.livL, AV.liv, wkL, wkV, List.range']))
          · simp (maxSteps := 1000000) [devAt, TS.h, slotsOf, hho, hlt, hat, op6A, h50, h50i, hB, hBi, hkk, k2, k3, k4, ewj, -List.reduceReplicate]
            have hM1 := hM.push (.op o)
            obtain ⟨T1, eT1⟩ : ∃ T1, T1 = T ++ [.o .box (op6A o)] := ⟨_, rfl⟩
            have eT1' := eT1
            simp only [op6A] at eT1'
            rw [← eT1'] 
            rw [← eT1] at hM1
            have hix := ixU_range 3 (by decide) (by decide) o.i
            have hD2 := hD.write (by omega) (ixU 3 o.i) hix o.b hB
            have hc2 := hD.chk (ixU 3 o.i) ⟨hix.1, by omega⟩ _ hB
            refine call_x [0, 1, 2] (write_fs D hD.ok (ixU 3 o.i) o.b) rfl rfl ⟨rfl, rfl⟩ hho (by simp) (by decide) (by simp) (by simp [devO]) ?_
            have hS2 := fun m' => seen_write hD (ixU 3 o.i) hix o.b hB m m' hS
            obtain ⟨D2, e2⟩ : ∃ D2, D2 = writeS D (ixU 3 o.i) o.b := ⟨_, rfl⟩
            rw [← e2] at hD2 hS2 ⊢
            simp (maxSteps := 1000000) [hho, devO, hc2, -List.reduceReplicate]
            refine call_x [0, 1, 2] (read_ok D2 hD2.ok 0 (hD2.chk 0 (by decide) 0 (by decide))) rfl rfl ⟨rfl, rfl⟩ hho (by simp) (by decide) (by simp) (by simp [devO]) ?_
            simp (maxSteps := 1000000) [hho, devO, -List.reduceReplicate]
            obtain ⟨xB, hxB⟩ : ∃ xB, xB = curS D2 0 := ⟨_, rfl⟩
            rw [← hxB] at hS2 ⊢
            have hxl : xB.1.length = 64 := xB.2
            have hgl := hM1.lt
            refine loop_k mixed (fun y : Nat × List AObj × (Nat → List UInt8) => ⟨slotsOf 186 [(0, .fs 1 b.length (u8av b)), (2, .fs 1 ts.length (intAV ts)), (7, .ptr 0 0 5), (9, .ptr 3 0 64), (15, .sl (T1.length + 4) 1 0 64 64), (50, .fs 4 sc.length (scriptA sc)), (51, .c (.int .i64 sc.length)), (52, .c (.int .i64 (j : Int))), (116, .c (.int .i64 (y.1 : Int)))], devAt 0 D2 ++ .o .box (boxM g y.2.2) :: y.2.1⟩) (fun y => 64 - y.1)
              (fun y => y.1 ≤ 64 ∧ MayOk y.2.1 g y.2.2 ∧ y.2.1[T1.length]? = some (rowU xB.1) ∧ (∀ i, i < y.1 → y.2.2 i = m i ++ [byteAt xB i]) ∧ (∀ i, y.1 ≤ i → y.2.2 i = m i)) (0, T1 ++ [rowU xB.1], m) ⟨Nat.zero_le _, hM1.push (.row _), by simp, fun i hi => by simp at hi, fun i _ => rfl⟩ ?_ ?_
            · exact wk_all (by simp [hE, lens]) (by simp [devAt, rowU]) (by simp [livH, livO, AV.livL, AV.liv, wkL, wkV, List.range', slotsOf])
            · rintro ⟨k, T2, m2⟩ ⟨hk, hM2, hx2, hI, hJ⟩
              simp only at hk hM2 hx2 hI hJ
              have hx3 : T2[T1.length]? = some (.o (.row 5 1) (u8av xB.1)) := hx2
              by_cases hk64 : k < 64
              · have hki : (k : Int) < 64 := by omega
                have hk1 : k + 1 ≤ 64 := by omega
                have ewk : IntKind.i64.wrap ((k : Int) + 1) = (k + 1 : Nat) := by rw [IntWalk.i64_in _ (by omega)]; rfl
                have hbk : byteAt xB k = xB.1[k]'(by omega) := by unfold byteAt; rw [List.getElem?_eq_getElem (by omega)]; rfl
                have hgk : T2[g k]? = some (.o (.row 5 1) (u8av (m2 k))) := hM2.at_ k hk64
                have hne : g k ≠ T1.length := by have := hgl k hk64; omega
                have hTl : T1.length < T2.length := (List.getElem?_eq_some_iff.1 hx2).1
                have hgl2 : g k < T2.length := hM2.lt k hk64
                have hgk2 : ∀ y, (T2 ++ [y])[g k]? = some (.o (.row 5 1) (u8av (m2 k))) := fun y => by rw [List.getElem?_append_left hgl2]; exact hgk
                have hset : ∀ y z, (T2 ++ [y]).set (g k) z = T2.set (g k) z ++ [y] := fun y z => List.set_append_left _ _ hgl2
                have hln : ∀ y, (List.map lnO T2 ++ [y])[T1.length]? = some 64 := fun y => by rw [List.getElem?_append_left (by simpa using hTl), List.getElem?_map, hx2]; simp [rowU, lnO, hxl]
                have hln2 : ∀ y z, (List.map lnO (T2.set (g k) z) ++ [y])[T1.length]? = some 64 := fun y z => by rw [List.getElem?_append_left (by simpa using hTl), List.getElem?_map, List.getElem?_set_ne hne, hx2]; simp [rowU, lnO, hxl]
                have hln3 : ∀ y z, ((List.map lnO T2).set (g k) z ++ [y])[T1.length]? = some 64 := fun y z => by rw [List.getElem?_append_left (by simpa using hTl), List.getElem?_set_ne hne, List.getElem?_map, hx2]; simp [rowU, lnO, hxl]
                simp (maxSteps := 1000000) [devAt, slotsOf, hho, hki, hk64, hk1, -List.reduceReplicate]
                refine draw_k hho (.take 0 (.take 1 (.take 2 (.take 3 (.take 4 (.take 5 (.take 6 (.take 7 (.alt 8 (.alt 9 (.take 10 (.alt 11 (.done) (.nil))) (.nil)) (.nil)))))))))) [3, T1.length + 4] [(11, [3])] (by decide +kernel) (by simp; omega) ?_
                simp (maxSteps := 1000000) [roOf, holdOf, wrOf, altK, heldOk, Region.binds, hk64, hx3, hgk, hne, hgk2, hset, hln, hln2, hln3, ewk, u8av_drop0 xB.1 k (by omega), boxM_at _ _ k hk64, -List.reduceReplicate]
                have hmk : m2 k = m k := hJ k (Nat.le_refl _)
                have hlk := hL k hk64
                have hc5 := hD2.c5
                refine ⟨by omega, by omega, by omega, fun _ _ => ⟨by rw [hmk]; omega, fun _ => ⟨by omega, by omega, ?_⟩⟩⟩
                have hxk : k < xB.1.length := by omega
                have hbs := boxM_set g m2 k hk64 (g k) (m2 k ++ [xB.1[k]]) ((m2 k).length + 1) (by simp)
                have hgg : updM g k (g k) = g := by funext i; unfold updM; split <;> simp_all
                rw [hgg] at hbs
                refine round_next (k + 1, T2.set (g k) (rowU (m2 k ++ [xB.1[k]])) ++ [rowU [xB.1[k]]], updM m2 k (m2 k ++ [xB.1[k]])) ⟨by simp only; omega, (hM2.grow k hk64 _).push (.row _), ?_, fun i hi => ?_, fun i hi => ?_⟩ (by simp only; omega) ?_
                · rw [List.getElem?_append_left (by simpa using hTl), List.getElem?_set_ne hne]; exact hx2
                · by_cases hik : i = k
                  · subst hik; simp only [updM_self]; rw [hbk, hmk]
                  · simp only; rw [updM_ne _ _ hik]; exact hI i (by simp only at hi; omega)
                · simp only at hi ⊢; rw [updM_ne _ _ (by omega)]; exact hJ i (by omega)
                · exact wk_all (by simp [hE, lens]) (by simp [devAt, rowU, u8av, u8, ← hbs]) (by simp [livH, livO, AV.livL, AV.liv, wkL, wkV, List.range'])
              · obtain rfl : k = 64 := by omega
                simp (maxSteps := 1000000) [devAt, slotsOf, hho, ewj, -List.reduceReplicate]
                exact round_next (j + 1, ⟨D2, T2, g, m2, c + 1⟩) ⟨hlt, by simp only; omega, hD2, hS2 m2 hI, hM2, fun k hk => by simp only; rw [hI k hk]; have := hL k hk; simp; omega⟩ (by simp only; omega) (wk_all (by simp [hE, lens]) (by simp [devAt, TS.h]) (by simp [livH, livO, AV.livL, AV.liv, wkL, wkV, List.range']))
        · have hBi : (64 : Int) < o.b.length := by omega
          have hB : 64 < o.b.length := by omega
          simp (maxSteps := 1000000) [devAt, TS.h, slotsOf, hho, hlt, hat, op6A, h50, h50i, hB, hBi, ewj, -List.reduceReplicate]
          exact round_next (j + 1, ⟨D, T ++ [.o .box (op6A o)], g, m, c⟩) ⟨hlt, by simp only; omega, hD, hS, hM.push (.op o), hL⟩ (by simp only; omega) (wk_all (by simp [hE, lens]) (by simp [devAt, TS.h, op6A]) (by simp [livH, livO, AV.livL, AV.liv, wkL, wkV, List.range']))
      · have h50i : (50 : Int) ≤ j := by omega
        have h50 : 50 ≤ j := by omega
        simp (maxSteps := 1000000) [devAt, TS.h, slotsOf, hho, hlt, hat, op6A, h50, h50i, ewj, -List.reduceReplicate]
        exact round_next (j + 1, ⟨D, T ++ [.o .box (op6A o)], g, m, c⟩) ⟨hlt, by simp only; omega, hD, hS, hM.push (.op o), hL⟩ (by simp only; omega) (wk_all (by simp [hE, lens]) (by simp [devAt, TS.h, op6A]) (by simp [livH, livO, AV.livL, AV.liv, wkL, wkV, List.range']))
    · simp (maxSteps := 1000000) [devAt, TS.h, slotsOf, hho, hlt, -List.reduceReplicate]
      exact exit_to ⟨D, T, g, m, c⟩ ⟨hD, hS, hM, hL⟩ (wk_all (by simp [hE, lens]) (by simp [devAt, TS.h]) (by simp [livH, livO, AV.livL, AV.liv, wkL, wkV, List.range']))
end Go.Proofs.Ytjkllofkdhjlaaa
