import Derived.Test.YthgoocdldnkogaaGreatDoorRows
import Derived.Test.YthgoocdldnkogaaGreatDoorHV
import Derived.Lib.LaidU8T
import Derived.PinnedBridge
import Derived.MakeChecks
namespace Go.Proofs.YthgoocdldnkogaaGreatDoor
set_option linter.unusedVariables false
set_option linter.unusedSimpArgs false
open Go.Lib
theorem heap_of_var {P : Program} {w : World} {n : String} {g : Nat} {cs : Array Value} (hg : P.globalNamed n = some g) (h : w.var? P n = some cs) : ∃ ty fr, w.heap[g]? = some (.cells cs ty fr) := by
 simp only [World.var?, hg, Option.bind_some] at h
 split at h
 ·rename_i cs' ty fr he
  injection h with h; subst h; exact ⟨ty, fr, he⟩
 ·cases h
theorem acc_at : ∀ j, j < 32 → accTab[j]? = some (if j % 2 = 0 then Value.int .u8 (Lib.accLo (j / 2) : Nat) else Value.int .u8 (Lib.accHi (j / 2) : Nat)) := by
 intro j hj
 have h : j = 0 ∨ j = 1 ∨ j = 2 ∨ j = 3 ∨ j = 4 ∨ j = 5 ∨ j = 6 ∨ j = 7 ∨ j = 8 ∨ j = 9 ∨ j = 10 ∨ j = 11 ∨ j = 12 ∨ j = 13 ∨ j = 14 ∨ j = 15 ∨ j = 16 ∨ j = 17 ∨ j = 18 ∨ j = 19 ∨ j = 20 ∨ j = 21 ∨ j = 22 ∨ j = 23 ∨ j = 24 ∨ j = 25 ∨ j = 26 ∨ j = 27 ∨ j = 28 ∨ j = 29 ∨ j = 30 ∨ j = 31 := by omega
 rcases h with rfl | rfl | rfl | rfl | rfl | rfl | rfl | rfl | rfl | rfl | rfl | rfl | rfl | rfl | rfl | rfl | rfl | rfl | rfl | rfl | rfl | rfl | rfl | rfl | rfl | rfl | rfl | rfl | rfl | rfl | rfl | rfl <;> rfl
theorem door_extra : U8Extra Tryz.prog valid_ren := ⟨by kernel_rfl, by kernel_rfl, by kernel_rfl, by kernel_rfl, by kernel_rfl, by kernel_rfl, by kernel_rfl⟩
theorem tabs_of {W : World} {l : List (String × DataW Unit)} (h : laidMetH Tryz.prog l W) (hp : (l.all fun x => x.2.handleName?.isNone) = true) (h1 : ("unicode/utf8.first", Rows.laid_unicode_utf8_first) ∈ l) (h2 : ("unicode/utf8.acceptRanges", Rows.laid_unicode_utf8_acceptRanges) ∈ l) : ∀ p ∈ tabB, TabAt W p := by
 rw [MakeChecks.laidMetH_plain _ _ _ hp] at h
 have e1 : Rows.laid_unicode_utf8_first = firstData := Pinned.utf8First_eq
 have e2 : (Rows.laid_unicode_utf8_acceptRanges : DataW Unit) = acceptData := by kernel_rfl
 have r1 := laidMet.reads h h1
 have r2 := laidMet.reads h h2
 rw [e1] at r1
 rw [e2] at r2
 have X := door_extra
 have L := U8Types.of196 valid_lays
 have T := utf8Tabs_of_readsT L X r1 r2
 obtain ⟨g1, t1, cs1, f1, p1, hg1, hy1, hv1, hd1⟩ := r1
 obtain ⟨g2, t2, cs2, f2, p2, hg2, hy2, hv2, hd2⟩ := r2
 obtain rfl := Option.some.inj (X.n3.symm.trans hg1)
 obtain rfl := Option.some.inj (X.n4.symm.trans hg2)
 obtain rfl := Option.some.inj (X.y3.symm.trans hy1)
 obtain rfl := Option.some.inj (X.y4.symm.trans hy2)
 obtain ⟨xs1, m1, _, _, hl1, _⟩ := DataW.trod_array L.t119 hd1
 obtain ⟨xs2, m2, _, _, hl2, _⟩ := DataW.trod_array L.t139 hd2
 have k1 : Tryz.prog.cellsOf (valid_ren.t 119) = 256 := by kernel_rfl
 have k2 : Tryz.prog.cellsOf (valid_ren.t 139) = 32 := by kernel_rfl
 rw [k1] at hl1
 rw [k2] at hl2
 have s1 : cs1.size = 256 := by simpa using hl1
 have s2 : cs2.size = 32 := by simpa using hl2
 obtain ⟨ty1, fr1, hh1⟩ := heap_of_var hg1 hv1
 obtain ⟨ty2, fr2, hh2⟩ := heap_of_var hg2 hv2
 have q1 : cs1 = firstTab := by
  have z : firstTab.size = 256 := by simp [firstTab]
  refine Array.ext (by rw [s1, z]) fun j j1 j2 => ?_
  have := T.1 j (by omega)
  rw [World.var?_cell hg1 hv1 j, Array.getElem?_eq_getElem j1] at this
  rw [Option.some.inj this]
  simp [firstTab]
 have q2 : cs2 = accTab := by
  have z : accTab.size = 32 := by kernel_rfl
  refine Array.ext (by rw [s2, z]) fun j j1 j2 => ?_
  have t := T.2 (j / 2) (by omega)
  have a := acc_at j (by omega)
  rw [Array.getElem?_eq_getElem j2] at a
  rw [Option.some.inj a]
  rw [World.var?_cell hg2 hv2, World.var?_cell hg2 hv2] at t
  by_cases hj : j % 2 = 0
  ·rw [if_pos hj]
   have e := t.1
   rw [show 2 * (j / 2) = j by omega, Array.getElem?_eq_getElem j1] at e
   exact Option.some.inj e
  ·rw [if_neg hj]
   have e := t.2
   rw [show 2 * (j / 2) + 1 = j by omega, Array.getElem?_eq_getElem j1] at e
   exact Option.some.inj e
 intro p hp
 simp only [tabB, List.mem_cons, List.mem_nil_iff, or_false] at hp
 rcases hp with rfl | rfl
 ·exact ⟨_, ty1, fr1, rfl, by rw [← q1]; exact hh1⟩
 ·exact ⟨_, ty2, fr2, rfl, by rw [← q2]; exact hh2⟩
end Go.Proofs.YthgoocdldnkogaaGreatDoor
