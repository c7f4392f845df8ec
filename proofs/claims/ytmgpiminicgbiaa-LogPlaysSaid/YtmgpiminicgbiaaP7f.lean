import Derived.Test.YtmgpiminicgbiaaP7e
namespace Go.Proofs.Ytmgpiminicgbiaa
set_option linter.unusedVariables false
set_option linter.unusedSimpArgs false
open Go.RowKit
attribute [local simp] isCut_nil isCut_region isCut_seq isCut_block isCut_loop isCut_cond isCut_skip isCut_exit isCut_ret isCut_range swapK putK altK condK_bool pickP_bool stepP stepO onPure_some onPure_none onImpl_some onImpl_none stepC onGP_some onGP_none onGV_some condG mkG onIt_it nextP_ptr takeP_eq takeV_some takeV_none takeU_some takeU_none takeQ takeW_some takeN_none takeN_some takeG_some takeO_some altO_some pureV binV2 eqF eqOp ovlV ovl2 rowAt capV binV intBin strBin isSh shV fldV ixV sliceV slice3V loadAV nilV lenV callV unV convV viewS cellsH loadV fldCut AV.ung AV.ungs AV.gc AV.cells AS.ev AS.put anyS gcsV gcO lens lnO gV guardV retK RetP_eq resV oneV anyRo loIx hiIx implO callP_clo evL gcsL clearV storeAV AS.push AS.setO appV appZ shortS copyV buildV partsV fillV srcV fzO okV isCell_c isCell_ptr isCell_sl isCell_fs isCell_fp isCell_clo rowZ_one rowZ_zero rowZ_2 rowZ_3 rowZ_4 rowZ_5 rowZ_6 rowZ_7 rowZ_8 rowZ_9 rowZ_10 rowZ_11 rowZ_12 noHo Value.oneCell' max2V min2V lookV updV updK updW cvals mkAt basV lenM msAt afterH putBack frzFrom frzO rebO backIx nilEq_sl nilEq_fs nilEq_ifn nilEq_ifh ifOp_eql ifOp_neq isLit nilOp_eql nilOp_neq AV.reb AV.rebL
attribute [local simp ↓] runK_skip runK_region runK_draw runK_seq runK_cut runK_cond runK_block runK_loop runK_exit runK_label runK_goto runK_ret runK_range contK_nil contK_seq contK_seq_ret contK_seq_exit contK_seq_goto contK_block contK_block_ret contK_block_goto contK_block_exit runO_nil runO_cons roundK_exit roundK_ret roundK_goto exitK_ret cutK_ret cutK_exit runE_done runE_nil runE_take runE_alt condG_true condG_false
set_option maxRecDepth 10000
/-! ## The reference's Open -/
/-- a head was written -/
def wroteS (D : DevS) (L : LogS) (h : HeadS) : Prop := L.h.epoch + 1 ≤ 4294967295 ∧ checkS D ((nextH L h).n.tmod 2) 64 = 0
/-- the blocks behind `next`, where all that was there stays -/
def rlogV (D D' : DevS) (L' : LogS) : List AObj :=
  [rlogB L' 1 4, .o .box [.sl 2 1 0 D'.kept.length D'.kept.length, .sl 5 2 0 D'.wait.length (D'.wait.length * 2), .c (.int .i64 (leftR D')), .c (.int .i64 D'.calls)], .o (.row 9 1) (refK D'.kept), .o (.row 101 2) (refW D.wait), rstR L'.bs, .o (.row 101 2) (refW D'.wait)]
theorem whS_not {D : DevS} {L : LogS} {h : HeadS} (hn : ¬ wroteS D L h) : (whS D L h).1 ≠ 0 ∧ (whS D L h).2.1 = D := by
  unfold wroteS at hn
  unfold whS
  split
  · exact ⟨by show (70 : Int) ≠ 0; decide, rfl⟩
  · rename_i h1
    split
    · rename_i h2; exact ⟨h2, rfl⟩
    · rename_i h2; exact absurd ⟨by omega, by simpa using h2⟩ hn
set_option maxHeartbeats 8000000 in
theorem next7h (D : DevS) (hD : D.Ok) (hcl : D.calls ≤ 100000) (hwl : D.wait.length ≤ 100000) (L : LogS) (h : HeadS) (hb : h.body.length ≤ 32) (h1 : 0 ≤ L.h.n ∧ L.h.n < 9000000000000000000) (h2 : 0 ≤ L.h.epoch ∧ L.h.epoch ≤ 4294967296) (h3 : h.base < 9000000000000000000) (Post : AV → List AObj → Prop)
    (hP : (¬ wroteS D L h → Post (.c (.int .i64 (whS D L h).1)) (rlogO D L)) ∧ (wroteS D L h → Post (.c (.int .i64 (whS D L h).1)) (rlogV D (whS D L h).2.1 (whS D L h).2.2))) :
    ACalls Try.prog 43 [.ptr 0 0 9, .c (.int .i64 h.base), .c (.string (str h.body))] (rlogO D L) (fun k => decide (k < 5)) Post := by
  obtain ⟨hP1, hP2⟩ := hP
  refine acallsC [4] mixed Try.func43 rfl Try.ntmps43 rfl fun E hE hst hho => ?_
  have en : IntKind.i64.wrap (L.h.n + 1) = L.h.n + 1 := IntWalk.i64_in _ (by omega)
  have ee : IntKind.i64.wrap (L.h.epoch + 1) = L.h.epoch + 1 := IntWalk.i64_in _ (by omega)
  simp (maxSteps := 1000000) [hho, noHo, rlogO, rlogB, rstR, refAt, -List.reduceReplicate]
  refine draw_k hho (.take 0 (.take 1 (.take 2 (.take 3 (.take 4 (.take 5 (.take 6 (.take 7 (.take 8 (.take 9 (.take 10 (.take 11 (.take 12 (.take 13 (.take 14 (.alt 15 (.alt 16 (.done) (.nil)) (.nil))))))))))))))))) [0] [] (by decide +kernel) (by simp) ?_
  simp (maxSteps := 1000000) [hho, noHo, en, ee, roOf, holdOf, wrOf, altK, heldOk, Region.binds, -List.reduceReplicate]
  intro _ _
  refine seq_cut mixed [] (fun _ : Unit => ⟨slotsOf 56 [(0, .ptr 0 0 9), (7, .ptr 5 0 4)], rlogO D L ++ [.o .box (head7 (nextH L h))]⟩) (fun _ => True) ?_ ?_
  · rintro _ _
    obtain ⟨g, hg⟩ : ∃ g, g = nextH L h := ⟨_, rfl⟩
    have hge : g.epoch = L.h.epoch + 1 := by rw [hg]; rfl
    have hgn : g.n = L.h.n + 1 := by rw [hg]; rfl
    have hgb : g.body = h.body := by rw [hg]; rfl
    have hgs : 0 ≤ g.base ∧ g.base < 9223372036854775807 := by
      rw [hg]; unfold nextH; simp only; split <;> omega
    rw [← hg]
    by_cases hfull : 4294967295 < g.epoch
    · have hw : whS D L h = (70, D, L) := by unfold whS; rw [← hge, if_pos hfull]
      have hP := hP1 fun h => by have := h.1; rw [hge] at hfull; omega
      rw [hw] at hP
      simp (maxSteps := 1000000) [hho, noHo, rlogO, rlogB, rstR, refAt, head7, slotsOf, hfull, -List.reduceReplicate]
      refine Ret.sel [0, 1, 2, 3, 4] (fun _ => false) (ho := by rfl) (ha := by rfl) ?_ ?_ (by decide) (by simp) (st_lt 5 _) hP
      · simp
      · simp
    · have hgN : g.Nat := ⟨by omega, by omega, hgs, by rw [hgb]; exact hb⟩
      have hgl := headL_length g
      simp (maxSteps := 1000000) [hho, noHo, rlogO, rlogB, rstR, refAt, head7, slotsOf, hfull, -List.reduceReplicate]
      refine draw_k hho (.take 0 (.take 1 (.take 2 (.take 3 (.take 4 (.take 5 (.take 6 (.take 7 (.alt 8 (.alt 9 (.take 10 (.done)) (.nil)) (.nil)))))))))) [0, 5] [] (by decide +kernel) (by simp) ?_
      simp (maxSteps := 1000000) [hho, noHo, roOf, holdOf, wrOf, altK, heldOk, Region.binds, -List.reduceReplicate]
      intro E1
      refine call_h [] (headSector7 g hgN) rfl rfl ⟨rfl, rfl⟩ (by simp) (by simp) (by decide) (by simp) (by simp) ?_
      simp (maxSteps := 1000000) [hho, noHo, roOf, holdOf, wrOf, altK, heldOk, Region.binds, -List.reduceReplicate]
      intro E2
      by_cases hc : checkS D (g.n.tmod 2) 64 = 0
      · have hwr : wroteS D L h := ⟨by rw [hge] at hfull; omega, by rw [← hg]; exact hc⟩
        have hws := wr7 D hD (g.n.tmod 2) (headL g) (by omega) (by rw [hgl]; exact hc)
        have hD1 : (wrH D g).Ok := write_Ok hD hcl hwl
        have hDk : (wrH D g).kept = D.kept := writeS_kept _ _ _
        obtain ⟨D1, e1⟩ : ∃ D1, D1 = wrH D g := ⟨_, rfl⟩
        have e1' : writeS D (g.n.tmod 2) (headL g) = D1 := e1.symm
        rw [e1'] at hws
        rw [← e1] at hD1 hDk
        refine call_h [1, 2, 3] hws rfl rfl ⟨rfl, rfl⟩ (by simp) (by intro i h; simp at h ⊢; omega) (by decide) (by simp) (by simp [refV]) ?_
        simp (maxSteps := 1000000) [hho, noHo, refV, roOf, holdOf, wrOf, altK, heldOk, Region.binds, -List.reduceReplicate]
        have hfl := r6flush_ref D1 hD1
        unfold refO at hfl
        rw [hDk] at hfl
        refine call_d [1, 2, 6] (fun _ => false) [6] hfl rfl rfl ⟨rfl, rfl⟩ hho (st_dev2 1 2 6) (by simp [livH, livO, AV.livL, AV.liv, wkL, wkV, List.range']) (by simp [livH, livO, AV.livL, AV.liv, wkL, wkV, List.range', strA_liv, refK_liv, refW_liv]) (by simp [hst]) (by decide) (by decide) (by simp) (by simp) ?_
        by_cases hc2 : checkS D1 0 0 = 0
        · have hw : whS D L h = (0, flushS D1, { L with h := g }) := by unfold whS; rw [← hge, if_neg hfull, ← hg, if_neg (by rw [hc]; decide), ← e1, if_neg (by rw [hc2]; decide)]
          have hP := hP2 hwr
          rw [hw] at hP
          simp (maxSteps := 1000000) [hho, noHo, hc2, -List.reduceReplicate]
          refine Ret.sel [0, 1, 2, 3, 4, 6] (fun _ => false) (ho := by rfl) (ha := by rfl) ?_ ?_ (by decide) (by simp) (st_pre 5 [6] _) hP
          · simp
          · simp
        · have hw : whS D L h = (checkS D1 0 0, D1, L) := by unfold whS; rw [← hge, if_neg hfull, ← hg, if_neg (by rw [hc]; decide), ← e1, if_pos hc2]
          have ef : flushS D1 = D1 := by unfold flushS; rw [if_neg hc2]
          have hP := hP2 hwr
          rw [hw] at hP
          simp only [rlogV, hDk] at hP
          rw [ef]
          simp (maxSteps := 1000000) [hho, noHo, hc2, hDk, -List.reduceReplicate]
          refine Ret.sel [0, 1, 2, 3, 4, 6] (fun _ => false) (ho := by rfl) (ha := by rfl) ?_ ?_ (by decide) (by simp) (st_pre 5 [6] _) hP
          · simp
          · simp
      · have hws := wr7e D hD (g.n.tmod 2) (headL g) (by rw [hgl]; exact hc)
        rw [hgl] at hws
        have hw : whS D L h = (checkS D (g.n.tmod 2) 64, D, L) := by unfold whS; rw [← hge, if_neg hfull, ← hg, if_pos hc]
        refine call_h [1, 2, 3] hws rfl rfl ⟨rfl, rfl⟩ (by simp) (by simp) (by decide) (by simp) (by simp [refO]) ?_
        have hP := hP1 fun h => hc (by have := h.2; rw [← hg] at this; exact this)
        rw [hw] at hP
        simp (maxSteps := 1000000) [hho, noHo, refO, hc, roOf, holdOf, wrOf, altK, heldOk, Region.binds, -List.reduceReplicate]
        refine Ret.sel [0, 1, 2, 3, 4] (fun _ => false) (ho := by rfl) (ha := by rfl) ?_ ?_ (by decide) (by simp) (st_lt 5 _) hP
        · simp
        · simp
  · by_cases hbs : h.base < 0
    · have hg : nextH L h = ⟨L.h.n + 1, L.h.epoch + 1, L.h.epoch + 1, h.body⟩ := by unfold nextH; rw [if_pos hbs]
      simp (maxSteps := 1000000) [hho, noHo, hbs, -List.reduceReplicate]
      refine cut_to () trivial ?_
      exact wk_all (by simp [hE, rlogO, refAt, lens]) (by simp [rlogO, rlogB, rstR, refAt, head7, hg]) (by simp [livH, livO, AV.livL, AV.liv, wkL, wkV, List.range', slotsOf])
    · have hg : nextH L h = ⟨L.h.n + 1, L.h.epoch + 1, h.base, h.body⟩ := by unfold nextH; rw [if_neg hbs]
      simp (maxSteps := 1000000) [hho, noHo, hbs, -List.reduceReplicate]
      refine cut_to () trivial ?_
      exact wk_all (by simp [hE, rlogO, refAt, lens]) (by simp [rlogO, rlogB, rstR, refAt, head7, hg]) (by simp [livH, livO, AV.livL, AV.liv, wkL, wkV, List.range', slotsOf])
end Go.Proofs.Ytmgpiminicgbiaa
