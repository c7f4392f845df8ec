import Derived.Test.YtmgpiminicgbiaaP7g
namespace Go.Proofs.Ytmgpiminicgbiaa
set_option linter.unusedVariables false
set_option linter.unusedSimpArgs false
open Go.RowKit
attribute [local simp] isCut_nil isCut_region isCut_seq isCut_block isCut_loop isCut_cond isCut_skip isCut_exit isCut_ret isCut_range swapK putK altK condK_bool pickP_bool stepP stepO onPure_some onPure_none onImpl_some onImpl_none stepC onGP_some onGP_none onGV_some condG mkG onIt_it nextP_ptr takeP_eq takeV_some takeV_none takeU_some takeU_none takeQ takeW_some takeN_none takeN_some takeG_some takeO_some altO_some pureV binV2 eqF eqOp ovlV ovl2 rowAt capV binV intBin strBin isSh shV fldV ixV sliceV slice3V loadAV nilV lenV callV unV convV viewS cellsH loadV fldCut AV.ung AV.ungs AV.gc AV.cells AS.ev AS.put anyS gcsV gcO lens lnO gV guardV retK RetP_eq resV oneV anyRo loIx hiIx implO callP_clo evL gcsL clearV storeAV AS.push AS.setO appV appZ shortS copyV buildV partsV fillV srcV fzO okV isCell_c isCell_ptr isCell_sl isCell_fs isCell_fp isCell_clo rowZ_one rowZ_zero rowZ_2 rowZ_3 rowZ_4 rowZ_5 rowZ_6 rowZ_7 rowZ_8 rowZ_9 rowZ_10 rowZ_11 rowZ_12 noHo Value.oneCell' max2V min2V lookV updV updK updW cvals mkAt basV lenM msAt afterH putBack frzFrom frzO rebO backIx nilEq_sl nilEq_fs nilEq_ifn nilEq_ifh ifOp_eql ifOp_neq isLit nilOp_eql nilOp_neq AV.reb AV.rebL
attribute [local simp ↓] runK_skip runK_region runK_draw runK_seq runK_cut runK_cond runK_block runK_loop runK_exit runK_label runK_goto runK_ret runK_range contK_nil contK_seq contK_seq_ret contK_seq_exit contK_seq_goto contK_block contK_block_ret contK_block_goto contK_block_exit runO_nil runO_cons roundK_exit roundK_ret roundK_goto exitK_ret cutK_ret cutK_exit runE_done runE_nil runE_take runE_alt condG_true condG_false
set_option maxRecDepth 10000
/-! ## What is known of a device and of a log in LogPlays -/
structure PlD (n c : Nat) (D : DevS) : Prop where
  ok : D.Ok
  kn : D.kept.length = n
  cc : D.calls ≤ c
  wl : D.wait.length ≤ c
theorem PlD.up {n c d : Nat} {D : DevS} (h : PlD n c D) (hd : c ≤ d) : PlD n d D := ⟨h.ok, h.kn, by have := h.cc; omega, by have := h.wl; omega⟩
theorem PlD.write {n c : Nat} {D : DevS} (h : PlD n c D) (hc : c ≤ 40000) (i : Int) (l : List UInt8) : PlD n (c + 1) (writeS D i l) := by
  have h1 := h.cc; have h2 := h.wl
  refine ⟨write_Ok h.ok (by omega) (by omega), ?_, ?_, ?_⟩ <;> unfold writeS <;> split <;> (try simp [countS]) <;> (try exact h.kn) <;> omega
theorem PlD.flush {n c : Nat} {D : DevS} (h : PlD n c D) (hc : c ≤ 40000) : PlD n (c + 1) (flushS D) := by
  have h1 := h.cc; have h2 := h.wl; have h3 := h.ok; have hk := h.kn
  unfold flushS
  split
  · rename_i hch
    obtain ⟨k1, k2, k3, k4⟩ := check_ok hch
    refine ⟨⟨by simp [countS], by simp [countS]; omega, by simp [countS]; have := h3.k2; omega, ?_, ?_, ?_, ?_, by simp [countS]⟩, by simp [countS, hk], by simp [countS]; omega, by simp [countS]⟩
    · have := h3.l1; simp only [countS]; split
      · have := k4 (by assumption); omega
      · exact h3.l1
    · have := h3.l2; simp only [countS]; split <;> omega
    · have := h3.c1; simp only [countS]; omega
    · simp only [countS]; omega
  · exact h.up (by omega)
theorem PlD.limit {n c : Nat} {D : DevS} (h : PlD n c D) (i : Int) (hi : i64ok i) : PlD n c { D with bound := true, left := max i 0 } := by
  obtain ⟨⟨w1, k1, k2, l1, l2, c1, c2, wl⟩, kn, cj, wj⟩ := h
  unfold i64ok at hi
  exact ⟨⟨w1, k1, k2, by simp only; omega, by simp only; omega, c1, c2, wl⟩, kn, by simp only; omega, by simp only; omega⟩
theorem PlD.crash {n c : Nat} {D : DevS} (h : PlD n c D) (t : List Int) : PlD n c (crashS t D) := by
  obtain ⟨⟨w1, k1, k2, l1, l2, c1, c2, wl⟩, kn, cj, wj⟩ := h
  exact ⟨⟨by simp [crashS], by simp [crashS]; omega, by simp [crashS]; omega, l1, l2, c1, c2, by simp [crashS]⟩, by simp [crashS, kn], by simp only [crashS]; omega, by simp [crashS]⟩
theorem PlD.new (n : Nat) (h1 : 1 ≤ n) (h8 : n ≤ 100) : PlD n 0 (newS n) := ⟨newS_ok n h1 (by omega), by simp [newS], by simp [newS], by simp [newS]⟩
theorem PlD.lay {n : Nat} : ∀ (fs : List FrameS) (c : Nat) (D : DevS), PlD n c D → c + fs.length ≤ 30000 → PlD n (c + fs.length + 1) (layS D fs).2 := by
  intro fs
  induction fs with
  | nil => intro c D h hc; exact h.flush (by simp at hc; omega)
  | cons f fs ih =>
    intro c D h hc
    simp only [List.length_cons] at hc ⊢
    unfold layS
    split
    · exact h.up (by omega)
    · exact (ih (c + 1) _ (h.write (by omega) _ _) (by omega)).up (by omega)
theorem PlD.wh {n c : Nat} {D : DevS} (h : PlD n c D) (hc : c ≤ 30000) (L : LogS) (g : HeadS) : PlD n (c + 2) (whS D L g).2.1 := by
  unfold whS
  split
  · exact h.up (by omega)
  · split
    · exact h.up (by omega)
    · have := h.write (by omega) ((nextH L g).n.tmod 2) (headL (nextH L g))
      split
      · exact PlD.up this (by omega)
      · exact PlD.flush this (by omega)
theorem PlD.app {n c : Nat} {D : DevS} (h : PlD n c D) (hc : c ≤ 20000) (L : LogS) (hf : L.frames ≤ 100 ∧ 0 ≤ L.at_) (b : List UInt8) : PlD n (c + 102) (appS D L b).2.1 := by
  unfold appS
  split
  · exact h.up (by omega)
  · rename_i hd
    split
    · exact h.up (by omega)
    · split
      · exact h.up (by omega)
      · rename_i hr
        have hl : (framesOf L b).length ≤ 100 := by
          unfold roomL at hr; rw [if_neg hd] at hr; omega
        have := PlD.lay (markL (framesOf L b)) c D h (by rw [markL_length]; omega)
        rw [markL_length] at this
        split <;> exact PlD.up this (by omega)
theorem PlD.res {n c : Nat} {D : DevS} (h : PlD n c D) (hc : c ≤ 30000) (L : LogS) (b : List UInt8) : PlD n (c + 2) (resS D L b).2.1 := by
  unfold resS
  split
  · exact h.up (by omega)
  · split
    · exact h.up (by omega)
    · split <;> exact h.wh hc L _
theorem PlD.opn {n c : Nat} {D : DevS} (h : PlD n c D) (hc : c ≤ 30000) (m : Nat) : PlD n (c + 2) (openS D m).2.1 := by
  unfold openS
  split
  · exact h.up (by omega)
  · exact h.wh hc _ _
structure PlL (F j : Nat) (L : LogS) : Prop where
  fr : L.frames = F
  at0 : 0 ≤ L.at_
  at1 : L.at_ ≤ F
  bl : (L.bs.length : Int) ≤ L.at_
  bb : ∀ b ∈ L.bs, b.length ≤ 65536
  n0 : 0 ≤ L.h.n
  n1 : L.h.n ≤ 4611686018427387904 + j
  e0 : 0 ≤ L.h.epoch
  e1 : L.h.epoch ≤ 4294967295
  hb : L.h.body.length ≤ 32
theorem PlL.up {F j k : Nat} {L : LogS} (h : PlL F j L) (hk : j ≤ k) : PlL F k L := ⟨h.fr, h.at0, h.at1, h.bl, h.bb, h.n0, by have := h.n1; omega, h.e0, h.e1, h.hb⟩
theorem PlL.app {F j : Nat} {L : LogS} (h : PlL F j L) (D : DevS) (b : List UInt8) : PlL F j (appS D L b).2.2 := by
  obtain ⟨fr, a0, a1, bl, bb, n0, n1, e0, e1, hb⟩ := h
  unfold appS
  split
  · exact ⟨fr, a0, a1, bl, bb, n0, n1, e0, e1, hb⟩
  · rename_i hd
    split
    · exact ⟨fr, a0, a1, bl, bb, n0, n1, e0, e1, hb⟩
    · rename_i hbig
      split
      · exact ⟨fr, a0, a1, bl, bb, n0, n1, e0, e1, hb⟩
      · rename_i hr
        split
        · exact ⟨fr, a0, a1, bl, bb, n0, n1, e0, e1, hb⟩
        · have hf := (framesOf_len L b).1
          unfold roomL at hr; rw [if_neg hd] at hr
          refine ⟨fr, by simp only; omega, by simp only; omega, by simp; omega, ?_, n0, n1, e0, e1, hb⟩
          intro x hx
          simp only [List.mem_append, List.mem_singleton] at hx
          rcases hx with hx | rfl
          · exact bb x hx
          · omega
theorem PlL.wh {F j : Nat} {L : LogS} (h : PlL F j L) (D : DevS) (g : HeadS) (hg : g.body.length ≤ 32) : PlL F (j + 1) (whS D L g).2.2 := by
  have h0 := h.up (Nat.le_succ j)
  obtain ⟨fr, a0, a1, bl, bb, n0, n1, e0, e1, hb⟩ := h
  unfold whS
  split
  · exact h0
  · split
    · exact h0
    · split
      · exact h0
      · exact ⟨fr, a0, a1, bl, bb, by simp only [nextH]; omega, by simp only [nextH]; omega, by simp only [nextH]; omega, by simp only [nextH]; omega, hg⟩
theorem PlL.res {F j : Nat} {L : LogS} (h : PlL F j L) (D : DevS) (b : List UInt8) : PlL F (j + 1) (resS D L b).2.2 := by
  unfold resS
  split
  · exact h.up (by omega)
  · split
    · exact h.up (by omega)
    · rename_i hb
      obtain ⟨fr, a0, a1, bl, bb, n0, n1, e0, e1, hb'⟩ := h.wh D ⟨0, 0, -1, b⟩ (by simp only; omega)
      split
      · exact ⟨fr, a0, a1, bl, bb, n0, n1, e0, e1, hb'⟩
      · exact ⟨fr, by simp, by simp only; omega, by simp, by simp, n0, n1, e0, e1, hb'⟩
theorem frames_pl (D : DevS) (e : Int) : ∀ (m k : Nat) (x : FSt), 0 ≤ x.at_ → x.at_ ≤ k → (x.bs.length : Int) ≤ x.at_ → x.batch.length ≤ 46 * k → (∀ b ∈ x.bs, b.length ≤ 46 * (k + m)) →
    0 ≤ (framesTo D e x k m).at_ ∧ (framesTo D e x k m).at_ ≤ k + m ∧ ((framesTo D e x k m).bs.length : Int) ≤ (framesTo D e x k m).at_ ∧ ∀ b ∈ (framesTo D e x k m).bs, b.length ≤ 46 * (k + m) := by
  intro m
  induction m with
  | zero => intro k x a b c _ d; exact ⟨a, by simp only [framesTo]; omega, c, d⟩
  | succ m ih =>
    intro k x a b c d f
    unfold framesTo
    cases hs : frameStep D e x k with
    | none => exact ⟨a, by simp only; omega, c, f⟩
    | some y =>
      simp only
      unfold frameStep at hs
      split at hs
      · rename_i g hg
        have hgb := unframe_body hg
        split at hs
        · cases hs
        · split at hs
          · injection hs with hs; subst hs
            have := ih (k + 1) ⟨g.epoch, false, [], x.bs ++ [x.batch ++ g.body], k + 1⟩ (by simp only; omega) (by simp only; omega) (by simp; omega) (by simp) (by
              intro b hb
              simp only [List.mem_append, List.mem_singleton] at hb
              rcases hb with hb | rfl
              · have := f b hb; omega
              · simp; omega)
            rw [show k + 1 + m = k + (m + 1) by omega] at this
            obtain ⟨p, q, r, s⟩ := this
            exact ⟨p, by omega, r, s⟩
          · injection hs with hs; subst hs
            have := ih (k + 1) ⟨g.epoch, true, x.batch ++ g.body, x.bs, x.at_⟩ a (by simp only; omega) c (by simp; omega) (by intro b hb; have := f b hb; omega)
            rw [show k + 1 + m = k + (m + 1) by omega] at this
            obtain ⟨p, q, r, s⟩ := this
            exact ⟨p, by omega, r, s⟩
      · cases hs
theorem PlL.opn (D : DevS) (F j : Nat) (hF : F ≤ 100) (h0 : (openS D F).1 = 0) : PlL F j (openS D F).2.2 := by
  unfold openS at h0 ⊢
  split
  · rename_i hc; rw [if_pos hc] at h0; exact absurd h0 hc
  · rename_i hc
    rw [if_neg hc] at h0
    have hR := read0_ok D
    obtain ⟨p, q, r, s⟩ := frames_pl D (headsTo D ⟨0, 0, 0, []⟩ 2).epoch F 0 ⟨(headsTo D ⟨0, 0, 0, []⟩ 2).base, false, [], [], 0⟩ (by simp) (by simp) (by simp) (by simp) (by simp)
    have hL : PlL F 0 (readL D F) := ⟨rfl, p, by have : (readL D F).at_ = _ := rfl; simp only [readL, withF]; omega, r, fun b hb => by have := s b hb; omega, hR.n0, by have := hR.n1; simp only [readL, withF, log0]; omega, hR.e0, hR.e1, hR.b⟩
    have hR1 := hR.n1
    unfold whS at h0 ⊢
    split
    · rename_i h; rw [if_pos h] at h0; cases h0
    · rename_i h
      rw [if_neg h] at h0
      split
      · rename_i h2; rw [if_pos h2] at h0; exact absurd h0 h2
      · rename_i h2
        rw [if_neg h2] at h0
        split
        · rename_i h3; rw [if_pos h3] at h0; exact absurd h0 h3
        · obtain ⟨fr, a0, a1, bl, bb, n0, n1, e0, e1, hb⟩ := hL
          have hn : (readL D F).h.n < 4611686018427387904 := hR1
          exact ⟨fr, a0, a1, bl, bb, by simp only [nextH]; omega, by simp only [nextH]; omega, by simp only [nextH]; omega, by simp only [nextH]; omega, hb⟩
/-! ## Two numbers that come in -/
def opnPair {P : Program} {t e : TypeId} {α : Type} (o : Opn P e α) (ht : P.underlying t = some (.array 2 e)) (he : P.cellsOf e = 1) (hc : P.cellsOf t = 2) : Opn P t (α × α) where
  av x := o.av x.1 ++ o.av x.2
  wf x := o.wf x.1 ∧ o.wf x.2
  len x := by rw [List.length_append, o.len, o.len, he, hc]
  opn enc w fuel cs y h := by
    obtain ⟨xs, m, _, _, hl, hx, hi⟩ := DataW.trod_array ht h
    obtain ⟨y0, hy0⟩ : ∃ y0, xs[0]? = some y0 := ⟨_, List.getElem?_eq_getElem (by omega)⟩
    obtain ⟨y1, hy1⟩ : ∃ y1, xs[1]? = some y1 := ⟨_, List.getElem?_eq_getElem (by omega)⟩
    have i0 := hi 0 (by omega)
    have i1 := hi 1 (by omega)
    rw [hy0] at i0; rw [hy1] at i1
    obtain ⟨x0, a1, a2, a3⟩ := o.opn enc w m _ y0 i0
    obtain ⟨x1, b1, b2, b3⟩ := o.opn enc w m _ y1 i1
    rw [he] at a3 b3
    refine ⟨(x0, x1), ⟨a1, b1⟩, hl, fun j u v hu0 hv => ?_⟩
    have hu : (o.av x0 ++ o.av x1)[j]? = some u := hu0
    have l0 := o.len x0; have l1 := o.len x1
    rw [he] at l0 l1
    rw [hc] at hl
    rcases j with _ | _ | j
    · refine a3 0 u v ?_ ?_
      · rw [List.getElem?_append_left (by omega)] at hu; exact hu
      · rw [List.getElem?_take, if_pos (by omega), List.getElem?_drop]; exact hv
    · refine b3 0 u v ?_ ?_
      · rw [List.getElem?_append_right (by omega), l0] at hu; exact hu
      · rw [List.getElem?_take, if_pos (by omega), List.getElem?_drop]; exact hv
    · have : (o.av x0 ++ o.av x1).length ≤ j + 1 + 1 := by rw [List.length_append]; omega
      rw [List.getElem?_eq_none this] at hu; cases hu
theorem okWide_array {P : Program} {w : World} {r : Reach} {base : Nat} {t : TypeId} {v : Value} {n : Nat} {e : TypeId} (ht : P.underlying t = some (.array n e)) (h : Value.okWide P w r base t v) : ∃ cs, v = .agg cs ∧ cs.size = P.cellsOf t := by
  simp only [Value.okWide, ht] at h
  obtain ⟨cs, h1, h2, _⟩ := h
  exact ⟨cs, h1, h2⟩
end Go.Proofs.Ytmgpiminicgbiaa
