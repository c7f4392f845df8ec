import Derived.Test.YthgoocdldnkogaaGreatDoorMXp
namespace Go.Proofs.YthgoocdldnkogaaGreatDoor
set_option linter.unusedVariables false
set_option linter.unusedSimpArgs false
open Go.RowKit
theorem ok_apT {t : TabS} (h : t.Ok) {l : List MovS} (hm : ∀ m ∈ l, MovOk m) : (apT l t).Ok := by
 have hn : ∀ (tid : Int) (ix : Bool) (id st : Int), i64v st → i64v (newSt l tid ix id st) := fun tid ix id st hst => by
  rcases newSt_mem (p := l) (tid := tid) (ix := ix) (id := id) (st := st) with e | ⟨m, hm2, _, _, _, e4⟩
  ·rw [e]; exact hst
  ·rw [← e4]; exact (hm m hm2).2.2
 refine ⟨h.1, h.2.1, fun c hc => ?_, fun x hx => ?_⟩
 ·obtain ⟨c0, h0, he⟩ := List.mem_filterMap.1 hc
  have hc0 := h.2.2.1 c0 h0
  unfold apC at he
  split at he
  ·cases he
  ·injection he with he; subst he; exact ⟨hc0.1, hc0.2.1, hc0.2.2.1, hc0.2.2.2.1, hn _ _ _ _ hc0.2.2.2.2⟩
 ·obtain ⟨c0, h0, he⟩ := List.mem_filterMap.1 hx
  have hc0 := h.2.2.2 c0 h0
  unfold apX at he
  split at he
  ·cases he
  ·injection he with he; subst he; exact ⟨hc0.1, hc0.2.1, hc0.2.2.1, hn _ _ _ _ hc0.2.2.2⟩
theorem step_SB {s : SchS} {l : List MovS} (hb : SB s) (hm : ∀ m ∈ l, MovOk m) (hv : s.ver ≤ 2 ^ 62) (h : (stepS s l).2 = 0) : SB (stepS s l).1 := by
 rw [step_is h]
 refine ⟨by simpa using hb.len, fun t ht => ?_, ?_, hb.ok.2.1, fun t ht => ?_⟩
 ·obtain ⟨t0, h0, rfl⟩ := List.mem_map.1 ht
  exact big_apT (hb.big t0 h0) l
 ·have := hb.ok.1; unfold i64v at this ⊢; simp only; omega
 ·obtain ⟨t0, h0, rfl⟩ := List.mem_map.1 ht
  exact ok_apT (hb.tok h0) hm
section
variable {P : Program} {E : Env} {s : AS}
end
end Go.Proofs.YthgoocdldnkogaaGreatDoor
