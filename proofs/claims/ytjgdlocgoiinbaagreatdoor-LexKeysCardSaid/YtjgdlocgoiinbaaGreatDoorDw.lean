import Derived.Test.YtjgdlocgoiinbaaGreatDoorRows
import Derived.Test.YtjgdlocgoiinbaaGreatDoorHV
import Derived.Lib.LaidU8T
import Derived.PinnedBridge
import Derived.MakeChecks
import Derived.Lib.LaidTab
import Derived.Shelf.Vars
import Derived.Handed
import Derived.Test.YtjgdlocgoiinbaaGreatDoorLs
namespace Go.Proofs.YtjgdlocgoiinbaaGreatDoor
set_option linter.unusedVariables false
set_option linter.unusedSimpArgs false
open Go.Lib
theorem heap_of_var {P : Program} {w : World} {n : String} {g : Nat} {cs : Array Value} (hg : P.globalNamed n = some g) (h : w.var? P n = some cs) : ∃ ty fr, w.heap[g]? = some (.cells cs ty fr) := by
  simp only [World.var?, hg, Option.bind_some] at h
  split at h
  · rename_i cs' ty fr he
    injection h with h; subst h; exact ⟨ty, fr, he⟩
  · cases h
theorem acc_at : ∀ j, j < 32 → accTab[j]? = some (if j % 2 = 0 then Value.int .u8 (Lib.accLo (j / 2) : Nat) else Value.int .u8 (Lib.accHi (j / 2) : Nat)) := by
  intro j hj
  have h : j = 0 ∨ j = 1 ∨ j = 2 ∨ j = 3 ∨ j = 4 ∨ j = 5 ∨ j = 6 ∨ j = 7 ∨ j = 8 ∨ j = 9 ∨ j = 10 ∨ j = 11 ∨ j = 12 ∨ j = 13 ∨ j = 14 ∨ j = 15 ∨ j = 16 ∨ j = 17 ∨ j = 18 ∨ j = 19 ∨ j = 20 ∨ j = 21 ∨ j = 22 ∨ j = 23 ∨ j = 24 ∨ j = 25 ∨ j = 26 ∨ j = 27 ∨ j = 28 ∨ j = 29 ∨ j = 30 ∨ j = 31 := by omega
  rcases h with rfl | rfl | rfl | rfl | rfl | rfl | rfl | rfl | rfl | rfl | rfl | rfl | rfl | rfl | rfl | rfl | rfl | rfl | rfl | rfl | rfl | rfl | rfl | rfl | rfl | rfl | rfl | rfl | rfl | rfl | rfl | rfl <;> rfl
theorem door_extra : U8Extra Tryz.prog valid_ren := ⟨by kernel_rfl, by kernel_rfl, by kernel_rfl, by kernel_rfl, by kernel_rfl, by kernel_rfl, by kernel_rfl⟩
theorem handed_shaped {H : Type} {enc : TypeId × Value → H} {a : Assume} {C : Checked} {os : Os} {f : FuncId} {fn : Func} {s : ChangeSpec} {apart fresh handsOn again : Bool} {conds : List PathCond} {X : World → Array Value → Prop}
    (hX : ∀ (w w' : World) (args : Array Value), w.heap = w'.heap → X w args → X w' args) (own : ownKnob C.prog.godebug = none) (started : os.Started) (noInit : C.prog.inits.idxOf? f = none) (hfn : C.prog.funcs[f]? = some fn)
    (witness : ∃ (w : World) (tape : Tape) (i : Input), w.os = os ∧ (w.forCall tape i).Shaped C.prog ∧ i.vars = [] ∧ Input.okWide C.prog (w.forCall tape i) .any w.heap.size f i ∧
      ((s.pre enc C.prog fn conds apart (w.forCall tape i).memory i.args ∧ X (w.forCall tape i).memory i.args) ∧ sizedMet enc C.prog fn (OpenSpec.ofChange s) apart (w.forCall tape i).memory i.args) ∧ a.holds C.prog (lone (Frame.enter C.prog f i.args .normal) [] (w.forCall tape i)))
    (contract : ∀ (W : World) (base : Nat) (args : Array Value) (ds gs : List (DataW H)) (before : List MemPlace),
      (∀ (j : Nat) t v, fn.params[j]? = some t → args[j]? = some v → Value.okWide C.prog W .any base t v) →
      DataW.Whole enc C.prog fn.params.toList s.vars apart W args.toList ds gs before →
      conds.all (PathCond.test C.prog ⟨fn.params.toList, ds, s.plain.varTypes C.prog, gs⟩) = true →
      (DataW.weightsEach C.prog (fn.params.toList ++ s.plain.varTypes C.prog) (ds ++ gs)).all (· ≤ reachBytes) = true → X W args ∧ W.ShapedOpen C.prog →
      a.holds C.prog (lone (Frame.enter C.prog f args .normal) [] W) →
      Calls C.prog f args W fun e W' => ∃ v, e = .returned v ∧ s.post enc C.prog fn apart fresh handsOn again W args v W') :
    ReturnsInHanded a C os f .any (fun w args => (s.pre enc C.prog fn conds apart w args ∧ X w args) ∧ sizedMet enc C.prog fn (OpenSpec.ofChange s) apart w args) (s.post enc C.prog fn apart fresh handsOn again) := by
  refine returnsInHanded_of_calls own started noInit witness fun w tape i _ hsh _ hok hpre hholds => ?_
  obtain ⟨_, _, _, fn', hfn', _, _, _, _, hval⟩ := hok
  obtain rfl : fn' = fn := Option.some.inj (hfn'.symm.trans hfn)
  obtain ⟨⟨⟨ds, gs, before, hw, hc⟩, hx⟩, hz⟩ := hpre
  refine (contract (w.forCall tape i) w.heap.size i.args ds gs before hval (DataW.Whole.of_heap (w' := w.forCall tape i) (by rfl) hw) hc (hz.weights hw) ⟨hX _ _ _ (by rfl) hx, hsh⟩ hholds).mono fun e W' ⟨v, he, hp⟩ => ?_
  subst he
  exact ChangeSpec.post_blind hp
theorem maxLen_at {W : World} (h : W.ShapedOpen Tryz.prog) : TabAt W (4, isInt1 .i64) := by
  obtain ⟨m, hm⟩ := cell_of_shapedOpen_int (P := Tryz.prog) (g := 4) (t := 3) (zero := #[.int .i64 0]) h (of_decide_eq_true (by kernel_rfl)) (by kernel_rfl) rfl (by kernel_rfl) (by kernel_rfl) Tryz.underlying3
  obtain ⟨cs, hh, hs, _⟩ := h.1 4 #[.int .i64 0] 3 (of_decide_eq_true (by kernel_rfl)) (by kernel_rfl)
  refine ⟨cs, _, _, ⟨m, ?_⟩, hh⟩
  have hs : cs.size = 1 := hs
  have hc : cs[0]? = some (.int .i64 m) := by simpa [World.cell?, hh] using hm
  refine Array.ext (by rw [hs]; rfl) fun j j1 j2 => ?_
  have j0 : j = 0 := by omega
  subst j0
  rw [Array.getElem?_eq_getElem (by omega)] at hc
  exact Option.some.inj hc
theorem var_at {W : World} {n : String} {g : Nat} {d : DataW Unit} {cs : Array Value} (hg : Tryz.prog.globalNamed n = some g) (h : W.var? Tryz.prog n = some cs) {p : Array Value → Prop} (hp : p cs) : TabAt W (g, p) := by
  obtain ⟨ty, fr, hh⟩ := heap_of_var hg h
  exact ⟨cs, ty, fr, hp, hh⟩
theorem pow10_at {W : World} (h : VarReads Tryz.prog W "internal/strconv.uint64pow10" Rows.laid_internal_strconv_uint64pow10) : TabAt W (5, isTab pow10T) := by
  obtain ⟨g, t, cs, f, p, hg, hy, hv, hd⟩ := h
  obtain rfl := Option.some.inj ((show Tryz.prog.globalNamed "internal/strconv.uint64pow10" = some 5 by kernel_rfl).symm.trans hg)
  obtain rfl := Option.some.inj ((show (Tryz.prog.globals[5]?).map (·.type) = some 170 by kernel_rfl).symm.trans hy)
  have e : (Rows.laid_internal_strconv_uint64pow10 : DataW Unit) = tabData .u64 pow10Tab := by kernel_rfl
  rw [e] at hd
  have hc := cells_of_tab Tryz.underlying170 Tryz.underlying105 (by kernel_rfl) (by kernel_rfl) hd
  refine var_at (d := .nil) hg hv (?_ : cs = pow10T)
  unfold pow10T
  exact Array.toList_inj.1 (by simpa using hc)
theorem errRange_at {W : World} (h : VarReads Tryz.prog W "strconv.ErrRange" Rows.laid_strconv_ErrRange) : TabAt W (7, isIf1) := by
  obtain ⟨g, t, cs, f, p, hg, hy, hv, hd⟩ := h
  obtain rfl := Option.some.inj ((show Tryz.prog.globalNamed "strconv.ErrRange" = some 7 by kernel_rfl).symm.trans hg)
  obtain rfl := Option.some.inj ((show (Tryz.prog.globals[7]?).map (·.type) = some 116 by kernel_rfl).symm.trans hy)
  have hu := Tryz.underlying116
  refine var_at (d := .nil) hg hv (?_ : isIf1 cs)
  cases f with
  | zero => simp [DataW.trod] at hd
  | succ f =>
    obtain ⟨l⟩ := cs
    simp only [DataW.trod, hu] at hd
    split at hd
    all_goals first
      | exact ⟨_, rfl, .inl rfl⟩
      | exact ⟨_, rfl, .inr ⟨_, _, rfl⟩⟩
      | (exfalso; rename_i h0; cases h0; done)
      | (exfalso; rename_i h0 _; cases h0; done)
      | (exfalso; rename_i h0 _ _; cases h0; done)
      | (exfalso; cases hd; done)
theorem space_at {W : World} (h : VarReads Tryz.prog W "strings.asciiSpace" Rows.laid_strings_asciiSpace) : TabAt W (2, isTab spaceT) := by
  obtain ⟨g, t, cs, f, p, hg, hy, hv, hd⟩ := h
  obtain rfl := Option.some.inj ((show Tryz.prog.globalNamed "strings.asciiSpace" = some 2 by kernel_rfl).symm.trans hg)
  obtain rfl := Option.some.inj ((show (Tryz.prog.globals[2]?).map (·.type) = some 95 by kernel_rfl).symm.trans hy)
  have e : (Rows.laid_strings_asciiSpace : DataW Unit) = tabData .u8 asciiSpaceTab := by kernel_rfl
  rw [e] at hd
  have hc := cells_of_tab Tryz.underlying95 Tryz.underlying5 (by kernel_rfl) (by kernel_rfl) hd
  refine var_at (d := .nil) hg hv (?_ : cs = spaceT)
  unfold spaceT
  exact Array.toList_inj.1 (by simpa using hc)
theorem tabs_of {W : World} {l : List (String × DataW Unit)} (h : laidMetH Tryz.prog l W) (hp : (l.all fun x => x.2.handleName?.isNone) = true) (hsh : W.ShapedOpen Tryz.prog) (h1 : ("unicode/utf8.first", Rows.laid_unicode_utf8_first) ∈ l) (h2 : ("unicode/utf8.acceptRanges", Rows.laid_unicode_utf8_acceptRanges) ∈ l) (h3 : ("internal/strconv.uint64pow10", Rows.laid_internal_strconv_uint64pow10) ∈ l) (h4 : ("strconv.ErrRange", Rows.laid_strconv_ErrRange) ∈ l) (h5 : ("strings.asciiSpace", Rows.laid_strings_asciiSpace) ∈ l) : ∀ p ∈ tabB, TabAt W p := by
  rw [MakeChecks.laidMetH_plain _ _ _ hp] at h
  have e1 : Rows.laid_unicode_utf8_first = firstData := Pinned.utf8First_eq
  have e2 : (Rows.laid_unicode_utf8_acceptRanges : DataW Unit) = acceptData := by kernel_rfl
  have r1 := laidMet.reads h h1
  have r2 := laidMet.reads h h2
  have z3 := pow10_at (laidMet.reads h h3)
  have z4 := errRange_at (laidMet.reads h h4)
  have z5 := maxLen_at hsh
  have z6 := space_at (laidMet.reads h h5)
  rw [e1] at r1
  rw [e2] at r2
  have X := door_extra
  have L := U8Types.of196 valid_lays
  have T := utf8Tabs_of_readsT L X r1 r2
  obtain ⟨g1, t1, cs1, f1, p1, hg1, hy1, hv1, hd1⟩ := r1
  obtain ⟨g2, t2, cs2, f2, p2, hg2, hy2, hv2, hd2⟩ := r2
  obtain rfl := Option.some.inj (X.n3.symm.trans hg1)
  obtain rfl := Option.some.inj (X.n4.symm.trans hg2)
  obtain rfl := Option.some.inj (X.y3.symm.trans hy1)
  obtain rfl := Option.some.inj (X.y4.symm.trans hy2)
  obtain ⟨xs1, m1, _, _, hl1, _⟩ := DataW.trod_array L.t119 hd1
  obtain ⟨xs2, m2, _, _, hl2, _⟩ := DataW.trod_array L.t139 hd2
  have k1 : Tryz.prog.cellsOf (valid_ren.t 119) = 256 := by kernel_rfl
  have k2 : Tryz.prog.cellsOf (valid_ren.t 139) = 32 := by kernel_rfl
  rw [k1] at hl1
  rw [k2] at hl2
  have s1 : cs1.size = 256 := by simpa using hl1
  have s2 : cs2.size = 32 := by simpa using hl2
  obtain ⟨ty1, fr1, hh1⟩ := heap_of_var hg1 hv1
  obtain ⟨ty2, fr2, hh2⟩ := heap_of_var hg2 hv2
  have q1 : cs1 = firstTab := by
    have z : firstTab.size = 256 := by simp [firstTab]
    refine Array.ext (by rw [s1, z]) fun j j1 j2 => ?_
    have := T.1 j (by omega)
    rw [World.var?_cell hg1 hv1 j, Array.getElem?_eq_getElem j1] at this
    rw [Option.some.inj this]
    simp [firstTab]
  have q2 : cs2 = accTab := by
    have z : accTab.size = 32 := by kernel_rfl
    refine Array.ext (by rw [s2, z]) fun j j1 j2 => ?_
    have t := T.2 (j / 2) (by omega)
    have a := acc_at j (by omega)
    rw [Array.getElem?_eq_getElem j2] at a
    rw [Option.some.inj a]
    rw [World.var?_cell hg2 hv2, World.var?_cell hg2 hv2] at t
    by_cases hj : j % 2 = 0
    · rw [if_pos hj]
      have e := t.1
      rw [show 2 * (j / 2) = j by omega, Array.getElem?_eq_getElem j1] at e
      exact Option.some.inj e
    · rw [if_neg hj]
      have e := t.2
      rw [show 2 * (j / 2) + 1 = j by omega, Array.getElem?_eq_getElem j1] at e
      exact Option.some.inj e
  intro p hp
  simp only [tabB, List.mem_cons, List.mem_nil_iff, or_false] at hp
  rcases hp with rfl | rfl | rfl | rfl | rfl | rfl
  · exact ⟨_, ty1, fr1, rfl, by rw [← q1]; exact hh1⟩
  · exact ⟨_, ty2, fr2, rfl, by rw [← q2]; exact hh2⟩
  · exact z3
  · exact z5
  · exact z4
  · exact z6
end Go.Proofs.YtjgdlocgoiinbaaGreatDoor
