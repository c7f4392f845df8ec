import Derived.Test.YthgoocdldnkogaaDoorMXp
namespace Go.Proofs.YthgoocdldnkogaaDoor
set_option linter.unusedVariables false
set_option linter.unusedSimpArgs false
open Go.RowKit
theorem ok_apT {t : TabS} (h : t.Ok) {l : List MovS} (hm : ∀ m ∈ l, MovOk m) : (apT l t).Ok := by
  have hn : ∀ (tid : Int) (ix : Bool) (id st : Int), i64v st → i64v (newSt l tid ix id st) := fun tid ix id st hst => by
    rcases newSt_mem (p := l) (tid := tid) (ix := ix) (id := id) (st := st) with e | ⟨m, hm2, _, _, _, e4⟩
    · rw [e]; exact hst
    · rw [← e4]; exact (hm m hm2).2.2
  refine ⟨h.1, h.2.1, fun c hc => ?_, fun x hx => ?_⟩
  · obtain ⟨c0, h0, he⟩ := List.mem_filterMap.1 hc
    have hc0 := h.2.2.1 c0 h0
    unfold apC at he
    split at he
    · cases he
    · injection he with he; subst he; exact ⟨hc0.1, hc0.2.1, hc0.2.2.1, hc0.2.2.2.1, hn _ _ _ _ hc0.2.2.2.2⟩
  · obtain ⟨c0, h0, he⟩ := List.mem_filterMap.1 hx
    have hc0 := h.2.2.2 c0 h0
    unfold apX at he
    split at he
    · cases he
    · injection he with he; subst he; exact ⟨hc0.1, hc0.2.1, hc0.2.2.1, hn _ _ _ _ hc0.2.2.2⟩
theorem step_SB {s : SchS} {l : List MovS} (hb : SB s) (hm : ∀ m ∈ l, MovOk m) (hv : s.ver ≤ 2 ^ 62) (h : (stepS s l).2 = 0) : SB (stepS s l).1 := by
  rw [step_is h]
  refine ⟨by simpa using hb.len, fun t ht => ?_, ?_, hb.ok.2.1, fun t ht => ?_⟩
  · obtain ⟨t0, h0, rfl⟩ := List.mem_map.1 ht
    exact big_apT (hb.big t0 h0) l
  · have := hb.ok.1; unfold i64v at this ⊢; simp only; omega
  · obtain ⟨t0, h0, rfl⟩ := List.mem_map.1 ht
    exact ok_apT (hb.tok h0) hm
def f5n : ByteArray := ⟨#[102, 114, 101, 115, 104]⟩
theorem create_SB {s : SchS} (hb : SB s) (hv : s.ver ≤ 2 ^ 62) (hnx : s.next ≤ 2 ^ 61) (h : (createS s f5n [f4c]).2 = 0) : SB (createS s f5n [f4c]).1 := by
  obtain ⟨k1, k2, k3, k4⟩ := create_ok h
  rw [k1]
  have hok := hb.ok
  have e5 : f5n.size ≤ 50 := by decide
  have ec : colSm f4c = true := by decide +kernel
  simp only [colSm, Bool.and_eq_true, decide_eq_true_eq] at ec
  obtain ⟨⟨⟨⟨⟨⟨⟨⟨q1, q2⟩, q3⟩, q4⟩, q5⟩, q6⟩, q7⟩, q8⟩, q9⟩ := ec
  have hn1 : i64v s.next := hok.2.1
  have hn2 : i64v (s.next + 1) := by unfold i64v at hn1 ⊢; omega
  refine ⟨by simp; omega, fun t ht => ?_, ?_, ?_, fun t ht => ?_⟩
  · rcases List.mem_append.1 ht with ht | ht
    · exact hb.big t ht
    · rw [List.mem_singleton] at ht; subst ht
      refine ⟨by simp [newCols], by simp, by simp only; omega, fun c hc => ?_, fun x hx => by cases hx⟩
      simp only [newCols, List.mem_singleton] at hc
      subst hc
      exact ⟨by simp only; omega, by simp only; omega⟩
  · have := hok.1; unfold i64v at this ⊢; simp only; omega
  · have := hok.2.1; unfold i64v at this ⊢; simp only [List.length_singleton]; omega
  · rcases List.mem_append.1 ht with ht | ht
    · exact hb.tok ht
    · rw [List.mem_singleton] at ht; subst ht
      refine ⟨hn1, by simp only; unfold maxLen; omega, fun c hc => ?_, fun x hx => by cases hx⟩
      simp only [newCols, List.mem_singleton] at hc
      subst hc
      exact ⟨hn2, by simp only; unfold maxLen; omega, ⟨sm_i q3, sm_i q4⟩, ⟨sm_i q5, sm_i q6, sm_i q7, by simp only; unfold maxLen; omega⟩, by simp only; exact ⟨by decide, by decide⟩⟩
theorem growX_SB {s : SchS} (hb : SB s) (hv : s.ver ≤ 2 ^ 62) (hnx : s.next ≤ 2 ^ 61) {id k : Int} (hk : i64v k) (h : (growX s id ⟨0, f5n, [k], false, 0⟩).2 = 0) : SB (growX s id ⟨0, f5n, [k], false, 0⟩).1 := by
  obtain ⟨i, t, k1, k2, k3, k4⟩ := growX_ok h
  rw [k3]
  have htm := List.mem_of_getElem? k1
  have hok := hb.ok
  have hn1 : i64v s.next := hok.2.1
  have e5 : f5n.size ≤ 50 := by decide
  have hbt := hb.big t htm
  have hot := hb.tok htm
  have hlx : t.idxs.length ≤ 8 := by
    have hs : schOk s = true := by
      cases e : schOk s with
      | true => rfl
      | false => unfold growX atTab at h; simp [e] at h
    exact (((schOk_iff s).1 hs).tabs t htm).lx
  refine ⟨by simpa using hb.len, fun u hu => ?_, ?_, ?_, fun u hu => ?_⟩
  · rcases List.mem_or_eq_of_mem_set hu with hu | hu
    · exact hb.big u hu
    · subst hu
      refine ⟨hbt.cl, by simp; omega, hbt.nm, hbt.cn, fun x hx => ?_⟩
      rcases List.mem_append.1 hx with hx | hx
      · exact hbt.xn x hx
      · rw [List.mem_singleton] at hx; subst hx
        exact ⟨by simp only; omega, by simp⟩
  · have := hok.1; unfold i64v at this ⊢; simp only; omega
  · have := hok.2.1; unfold i64v at this ⊢; simp only; omega
  · rcases List.mem_or_eq_of_mem_set hu with hu | hu
    · exact hb.tok hu
    · subst hu
      refine ⟨hot.1, hot.2.1, hot.2.2.1, fun x hx => ?_⟩
      rcases List.mem_append.1 hx with hx | hx
      · exact hot.2.2.2 x hx
      · rw [List.mem_singleton] at hx; subst hx
        exact ⟨hn1, by simp only; unfold maxLen; omega, fun z hz => by rw [List.mem_singleton.1 hz]; exact hk, by simp only; exact ⟨by decide, by decide⟩⟩
section
variable {P : Program} {E : Env} {s : AS}
theorem call_hd {g : FuncId} {args : List AV} {K : AV → AS → Prop} (lent : List Nat) (ok : Nat → Bool) {cargs : List AV} {ch : List AObj} {st : Nat → Bool} {r : AV} {h' : List AObj} {pa po : Prop} {cargs' : List AV} {ch' : List AObj} (hc : ACalls P g cargs' ch' st (fun a b => a = r ∧ b = h'))
    (ha : AV.convL lent ok s.h args = some (pa, cargs)) (ho : convOs lent ok s.h lent = some (po, ch)) (hx : cargs = cargs' ∧ ch = ch') (hE : ∀ k ∈ lent, E.ho k = false) (hE2 : ∀ k, ok k = true → E.ho k = false) (hst : ∀ i, i < lent.length → st i = true) (hn : lent.Nodup) (hok : ∀ k ∈ lent, ok k = false) (hp : pa ∧ po) (hl : lent.length ≤ h'.length)
    (hK : K (r.reb (backIx lent s.h.length)) ⟨s.t, afterH lent ok s.h h'⟩) : CallG P E g args s K := by
  obtain ⟨rfl, rfl⟩ := hx
  exact call_of lent ok [] hc ha hp.1 ho hp.2 hn hok (fun i k h => .inl (hst i (List.getElem?_eq_some_iff.1 h).1)) (livL_nil _) (livH_nil _ _ _) (fun k h => by cases h) hE hE2 fun a b ⟨e1, e2⟩ => by subst e1 e2; exact ⟨hl, hK⟩
end
end Go.Proofs.YthgoocdldnkogaaDoor
