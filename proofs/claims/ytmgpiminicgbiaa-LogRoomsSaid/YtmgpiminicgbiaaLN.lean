import Derived.Test.YtmgpiminicgbiaaLM
namespace Go.Proofs.Ytmgpiminicgbiaa
set_option linter.unusedVariables false
set_option linter.unusedSimpArgs false
open Go.RowKit
/-! ## A device without a bound -/
structure Free (n c : Nat) (D : DevS) : Prop where
  ok : D.Ok
  bd : D.bound = false
  kn : D.kept.length = n + 2
  cc : D.calls ≤ c
  wl : D.wait.length ≤ c
theorem Free.chk {n c : Nat} {D : DevS} (h : Free n c D) (i : Int) (hi : 0 ≤ i ∧ i < n + 2) (m : Nat) (hm : m ≤ 64) : checkS D i m = 0 := by
  unfold checkS
  rw [if_neg (by rw [h.kn]; omega), if_neg (by rw [h.bd]; simp)]
theorem Free.write {n c : Nat} {D : DevS} (h : Free n c D) (hc : c ≤ 50000) (i : Int) (hi : 0 ≤ i ∧ i < n + 2) (l : List UInt8) (hl : l.length ≤ 64) : Free n (c + 1) (writeS D i l) := by
  have h1 := h.cc; have h2 := h.wl
  have hch := h.chk i hi _ hl
  refine ⟨write_Ok h.ok (by omega) (by omega), ?_, by rw [writeS_kept]; exact h.kn, ?_, ?_⟩
  · unfold writeS; rw [if_pos hch]; exact h.bd
  · unfold writeS; rw [if_pos hch]; simp only [countS]; omega
  · unfold writeS; rw [if_pos hch]; simp [countS]; omega
theorem Free.flush {n c : Nat} {D : DevS} (h : Free n c D) (hc : c ≤ 50000) : Free n (c + 1) (flushS D) := by
  have h1 := h.cc; have h2 := h.wl; have h0 := h.ok.c1
  have hch := h.chk 0 (by omega) 0 (by decide)
  unfold flushS; rw [if_pos hch]
  have hk := h.kn; have hk2 := h.ok.k2; have hb := h.bd
  exact ⟨⟨by simp [countS], by simp [countS, hk], by simp [countS]; omega, by simp only [countS, hb]; exact h.ok.l1, by simp only [countS, hb]; exact h.ok.l2, by simp only [countS]; omega, by simp only [countS]; omega, by simp [countS]⟩, h.bd, by simp [countS, hk], by simp only [countS]; omega, by simp [countS]⟩
theorem Free.lay {n : Nat} : ∀ (fs : List FrameS) (c : Nat) (D : DevS), Free n c D → c + fs.length ≤ 40000 → (∀ f ∈ fs, 0 ≤ f.k ∧ f.k < n) → (layS D fs).1 = 0 ∧ Free n (c + fs.length + 1) (layS D fs).2 := by
  intro fs
  induction fs with
  | nil =>
    intro c D h hc _
    have := h.chk 0 (by omega) 0 (by decide)
    exact ⟨this, h.flush (by simp at hc; omega)⟩
  | cons f r ih =>
    intro c D h hc hf
    obtain ⟨f1, f2⟩ := hf f (by simp)
    simp only [List.length_cons] at hc
    simp only [layS]
    rw [if_neg (by rw [h.chk (2 + f.k) (by omega) 64 (by decide)]; decide)]
    have hw := h.write (by omega) (2 + f.k) (by omega) (frameL f) (by rw [frameL_length]; decide)
    obtain ⟨a, b⟩ := ih (c + 1) _ hw (by omega) fun g hg => hf g (List.mem_cons_of_mem _ hg)
    refine ⟨a, ?_⟩
    have e : c + (f :: r).length + 1 = c + 1 + r.length + 1 := by simp; omega
    rw [e]; exact b
/-- what is known of the log in LogRooms -/
structure RmOk (n c : Nat) (D : DevS) (L : LogS) : Prop where
  d : Free n c D
  fr : L.frames = n
  a0 : 0 ≤ L.at_
  a1 : L.at_ ≤ n
  dn : L.down = false
  bl : L.bs.length ≤ c
  bb : ∀ b ∈ L.bs, b.length ≤ 700
  h1 : L.h.n = 1
  h2 : L.h.epoch = 1
def need (k : Nat) : Nat := max 1 ((k + 45) / 46)
theorem need_len (L : LogS) (b : List UInt8) : (framesOf L b).length = need b.length := by
  unfold framesOf need
  split
  · rename_i h; rw [h]; rfl
  · simp [chunkN]; omega
theorem RmOk.app {n c : Nat} {D : DevS} {L : LogS} (h : RmOk n c D L) (hn : n ≤ 60) (hc : c ≤ 10000) (b : List UInt8) (hb : b.length < 700) :
    (need b.length ≤ n - L.at_ → (appS D L b).1 = 0 ∧ (appS D L b).2.2.at_ = L.at_ + need b.length ∧ (appS D L b).2.2.bs.length = L.bs.length + 1 ∧ RmOk n (c + 20) (appS D L b).2.1 (appS D L b).2.2) ∧ (¬ (need b.length : Int) ≤ n - L.at_ → appS D L b = (70, D, L)) := by
  have hdn : ¬ L.down = true := by rw [h.dn]; decide
  have hrm : roomL L = n - L.at_ := by unfold roomL; rw [if_neg hdn, h.fr]
  have hnl := need_len L b
  have hnb : need b.length ≤ 16 := by unfold need; omega
  have hn1 : 1 ≤ need b.length := by unfold need; omega
  have ha0 := h.a0; have ha1 := h.a1
  constructor
  · intro hr
    have hks : ∀ f ∈ markL (framesOf L b), 0 ≤ f.k ∧ f.k < n := by
      intro f hf
      obtain ⟨g, hg, e1, _⟩ := markL_mem _ f hf
      rw [e1]
      unfold framesOf at hg hnl
      split at hg
      · rename_i h0
        rw [if_pos h0] at hnl
        simp only [List.mem_singleton] at hg; subst hg
        simp only [List.length_singleton] at hnl
        exact ⟨ha0, by simp only; omega⟩
      · rename_i h0
        rw [if_neg h0] at hnl
        rw [chunkF_length] at hnl
        simp only [chunkF, List.mem_map, List.mem_range] at hg
        obtain ⟨j, hj, rfl⟩ := hg
        exact ⟨by simp only; omega, by simp only; omega⟩
    obtain ⟨l1, l2⟩ := Free.lay (markL (framesOf L b)) c D h.d (by rw [markL_length, hnl]; omega) hks
    have hA : appS D L b = (0, (layS D (markL (framesOf L b))).2, { L with at_ := L.at_ + (framesOf L b).length, bs := L.bs ++ [b] }) := by
      unfold appS; rw [if_neg hdn, if_neg (by omega), if_neg (by rw [hrm, hnl]; omega), if_neg (by rw [l1]; decide)]
    rw [hA]
    rw [markL_length, hnl] at l2
    refine ⟨rfl, by simp only; rw [hnl], by simp, ⟨⟨l2.ok, l2.bd, l2.kn, by have := l2.cc; simp only; omega, by have := l2.wl; simp only; omega⟩, h.fr, by simp only; omega, by simp only; rw [hnl]; omega, h.dn, by have := h.bl; simp; omega, ?_, h.h1, h.h2⟩⟩
    intro x hx
    simp only [List.mem_append, List.mem_singleton] at hx
    rcases hx with hx | rfl
    · exact h.bb x hx
    · omega
  · intro hr
    unfold appS; rw [if_neg hdn, if_neg (by omega), if_pos (by rw [hrm, hnl]; omega)]
def roomsB (n : Nat) : Bool := let W := openS (newS (n + 2)) n
  decide (W.1 = 0) && okB W.2.1 && !W.2.1.bound && decide (W.2.1.kept.length = n + 2) && decide (W.2.1.calls ≤ 10) && decide (W.2.1.wait.length ≤ 10) && decide (W.2.2.frames = n) && decide (W.2.2.at_ = 0) && !W.2.2.down && W.2.2.bs.isEmpty && decide (W.2.2.h.n = 1) && decide (W.2.2.h.epoch = 1)
theorem roomsB_all : ∀ n : _root_.Fin 60, roomsB (n.1 + 1) = true := by decide +kernel
theorem rooms_start (n : Nat) (h1 : 1 ≤ n) (h2 : n ≤ 60) : (openS (newS (n + 2)) n).1 = 0 ∧ RmOk n 10 (openS (newS (n + 2)) n).2.1 (openS (newS (n + 2)) n).2.2 ∧ (openS (newS (n + 2)) n).2.2.at_ = 0 ∧ (openS (newS (n + 2)) n).2.2.bs.length = 0 := by
  have h := roomsB_all ⟨n - 1, by omega⟩
  simp only at h
  rw [Nat.sub_add_cancel h1] at h
  simp only [roomsB, Bool.and_eq_true, decide_eq_true_eq, Bool.not_eq_true', List.isEmpty_iff] at h
  obtain ⟨⟨⟨⟨⟨⟨⟨⟨⟨⟨⟨a, b⟩, c⟩, d⟩, e⟩, f⟩, g⟩, i⟩, j⟩, k⟩, l⟩, m⟩ := h
  obtain ⟨b1, _, _⟩ := okB_ok b
  exact ⟨a, ⟨⟨b1, c, d, by omega, f⟩, g, by omega, by omega, j, by rw [k]; simp, by rw [k]; simp, l, m⟩, i, by rw [k]; rfl⟩
end Go.Proofs.Ytmgpiminicgbiaa
