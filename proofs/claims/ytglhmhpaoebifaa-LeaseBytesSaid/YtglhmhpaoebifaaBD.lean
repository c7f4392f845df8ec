import Derived.Test.YtglhmhpaoebifaaBC
namespace Go.Proofs.Ytglhmhpaoebifaa
set_option linter.unusedVariables false
set_option linter.unusedSimpArgs false
open Go.RowKit
attribute [local simp] isCut_nil isCut_region isCut_seq isCut_block isCut_loop isCut_cond isCut_skip isCut_exit isCut_ret isCut_range swapK putK altK condK_bool pickP_bool stepP stepO onPure_some onPure_none onImpl_some onImpl_none stepC onGP_some onGP_none onGV_some condG mkG onIt_it nextP_ptr takeP_eq takeV_some takeN_none takeN_some takeG_some takeO_some altO_some pureV binV2 eqF eqOp ovlV ovl2 rowAt capV binV intBin strBin isSh shV fldV ixV sliceV slice3V loadAV nilV lenV callV unV convV viewS cellsH loadV fldCut AV.ung AV.ungs AV.gc AV.cells AS.ev AS.put anyS gcsV lens lnO gV guardV retK RetP_eq resV oneV anyRo loIx hiIx implO callP_clo evL gcsL clearV storeAV AS.push AS.setO appV appZ shortS copyV buildV partsV fillV srcV fzO okV isCell_c isCell_ptr isCell_sl isCell_fs isCell_fp isCell_clo rowZ_one rowZ_zero rowZ_2 rowZ_3 rowZ_4 rowZ_5 rowZ_6 rowZ_7 rowZ_8 rowZ_9 rowZ_10 rowZ_11 rowZ_12 noHo Value.oneCell' max2V min2V afterH putBack frzFrom frzO rebO backIx nilEq_sl nilEq_fs nilOp_eql nilOp_neq AV.reb AV.rebL
attribute [local simp ↓] runK_skip runK_region runK_draw runK_seq runK_cut runK_cond runK_block runK_loop runK_exit runK_label runK_goto runK_ret runK_range contK_nil contK_seq contK_seq_ret contK_seq_exit contK_seq_goto contK_block contK_block_ret contK_block_goto contK_block_exit runO_nil runO_cons roundK_exit roundK_ret roundK_goto exitK_ret cutK_ret cutK_exit runE_done runE_nil runE_take runE_alt condG_true condG_false
set_option maxRecDepth 10000
set_option maxHeartbeats 4000000 in
theorem stable_lease (d : List LeaseS) (n : Nat) (hn : n = d.length) (hd : n ≤ 4000000000000000) :
    ACalls Try.prog 68 [.sl 0 3 0 n (n * 3), .c (.int .i64 n), cloBy] [rowL d] (fun k => decide (k < 1)) (fun r h' => r = .tup [] ∧ h' = [rowL (stabS ltL d)]) := by
  refine acalls mixed Try.func68 rfl Try.ntmps68 rfl fun E hE hst hho => ?_
  obtain ⟨d0, hd0⟩ : ∃ d0, d0 = blkF ltL d 20 n 0 n := ⟨_, rfl⟩
  have hT : stabS ltL d = lvlF ltL d0 n 20 n := by rw [stabS, hd0, hn]
  have hl0 : d0.length = n := by rw [hd0]; simp [hn]
  rw [hT]
  simp [rowL, cloBy, hho, -List.reduceReplicate]
  refine loop_k2 mixed (fun x : Nat × Nat × List LeaseS => ⟨slotsOf 63 [(0, .sl 0 3 0 n (n * 3)), (1, .c (.int .i64 n)), (2, cloBy), (6, .c (.int .i64 20)), (7, .c (.int .i64 (x.1 : Int))), (8, .c (.int .i64 ((x.1 + 20 : Nat) : Int)))], [rowL x.2.2]⟩) (fun x => n - x.1) (fun x => x.1 ≤ n ∧ n ≤ x.1 + x.2.1 ∧ x.2.2.length = n ∧ blkF ltL x.2.2 20 n x.1 x.2.1 = d0) (0, n, d)
    (fun x : Nat × List LeaseS => ⟨slotsOf 63 [(0, .sl 0 3 0 n (n * 3)), (1, .c (.int .i64 n)), (2, cloBy), (6, .c (.int .i64 20)), (7, .c (.int .i64 (x.1 : Int)))], [rowL x.2]⟩) (fun x => x.1 ≤ n ∧ x.2.length = n ∧ insS ltL x.2 x.1 n = d0) 0 ⟨Nat.zero_le _, by simp only; omega, hn.symm, hd0.symm⟩ ?_ ?_ ?_
  · exact wk_eq (by simp [hE, rowL, lens]) (by simp [rowL]) (by simp [livH, livO, AV.livL, AV.liv, wkL, wkV, List.range', slotsOf, cloBy])
  · rintro ⟨a, d1⟩ ⟨h1, h2, h3⟩
    simp only at h1 h2 h3
    simp [rowL, cloBy, slotsOf, hho, -List.reduceReplicate]
    refine call_x [0] (insSort_lease d1 n h2.symm (by omega) a n h1 (Nat.le_refl _)) rfl rfl ⟨rfl, rfl⟩ hho (by simp) (by decide) (by simp) (by simp) ?_
    rw [h3]
    simp [rowL, hho, -List.reduceReplicate]
    refine loop_k mixed (fun x : Nat × Nat × List LeaseS => ⟨slotsOf 63 [(0, .sl 0 3 0 n (n * 3)), (1, .c (.int .i64 n)), (2, cloBy), (6, .c (.int .i64 (x.1 : Int)))], [rowL x.2.2]⟩) (fun x => n - x.1) (fun x => 20 ≤ x.1 ∧ x.1 ≤ 8000000000000000 ∧ n ≤ x.1 + x.2.1 ∧ x.2.2.length = n ∧ lvlF ltL x.2.2 n x.1 x.2.1 = lvlF ltL d0 n 20 n) (20, n, d0) ⟨Nat.le_refl _, by simp only; omega, by simp only; omega, hl0, rfl⟩ ?_ ?_
    · exact wk_eq (by simp [hE, rowL, lens]) (by simp [rowL]) (by simp [livH, livO, AV.livL, AV.liv, wkL, wkV, List.range', slotsOf, cloBy])
    · rintro ⟨bs, f, d2⟩ ⟨g1, g2, g3, g4, g5⟩
      simp only at g1 g2 g3 g4 g5
      by_cases hb : bs < n
      · obtain ⟨f', rfl⟩ : ∃ f', f = f' + 1 := ⟨f - 1, by omega⟩
        rw [lvlF, if_pos hb] at g5
        obtain ⟨d3, hd3⟩ : ∃ d3, d3 = mrgF ltL d2 bs n 0 n := ⟨_, rfl⟩
        rw [← hd3] at g5
        have ew2 : IntKind.i64.wrap (2 * (bs : Int)) = (2 * bs : Nat) := by rw [IntWalk.i64_in _ (by omega)]; omega
        have ew2' : IntKind.i64.wrap ((bs : Int) * 2) = (bs * 2 : Nat) := by rw [IntWalk.i64_in _ (by omega)]; omega
        simp [rowL, cloBy, slotsOf, hho, hb, ew2, -List.reduceReplicate]
        refine loop_k2 mixed (fun x : Nat × Nat × List LeaseS => ⟨slotsOf 63 [(0, .sl 0 3 0 n (n * 3)), (1, .c (.int .i64 n)), (2, cloBy), (6, .c (.int .i64 (bs : Int))), (7, .c (.int .i64 (x.1 : Int))), (8, .c (.int .i64 ((x.1 + 2 * bs : Nat) : Int)))], [rowL x.2.2]⟩) (fun x => n - x.1) (fun x => x.1 ≤ n ∧ n ≤ x.1 + x.2.1 ∧ x.2.2.length = n ∧ mrgF ltL x.2.2 bs n x.1 x.2.1 = d3) (0, n, d2)
          (fun x : Nat × List LeaseS => ⟨slotsOf 63 [(0, .sl 0 3 0 n (n * 3)), (1, .c (.int .i64 n)), (2, cloBy), (6, .c (.int .i64 (bs : Int))), (7, .c (.int .i64 (x.1 : Int)))], [rowL x.2]⟩) (fun x => x.1 ≤ n ∧ x.2.length = n ∧ (if x.1 + bs < n then symS ltL x.2 x.1 (x.1 + bs) n else x.2) = d3) 4 ⟨Nat.zero_le _, by simp only; omega, g4, hd3.symm⟩ ?_ ?_ ?_
        · exact wk_eq (by simp [hE, rowL, lens]) (by simp [rowL]) (by simp [livH, livO, AV.livL, AV.liv, wkL, wkV, List.range', slotsOf, cloBy])
        · rintro ⟨a, d4⟩ ⟨k1, k2, k3⟩
          simp only at k1 k2 k3
          have ewm : IntKind.i64.wrap ((a : Int) + bs) = (a + bs : Nat) := by rw [IntWalk.i64_in _ (by omega)]; rfl
          by_cases hm : a + bs < n
          · rw [if_pos hm] at k3
            have hmi : (a : Int) + bs < n := by omega
            have ewm' : IntKind.i64.wrap ((a : Int) + bs) = (a : Int) + bs := by rw [IntWalk.i64_in _ (by omega)]
            simp [rowL, cloBy, slotsOf, hho, hmi, ewm', -List.reduceReplicate]
            have hc := symMerge_lease n hd (n - a) d4 a (a + bs) n k2.symm (by omega) hm (Nat.le_refl _) (Nat.le_refl _)
            rw [show symF ltL (n - a) d4 a (a + bs) n = d3 from k3] at hc
            refine call_x [0] hc rfl rfl ⟨rfl, rfl⟩ hho (by simp) (by decide) (by simp) (by simp) ?_
            simp [rowL, hho, ew2', -List.reduceReplicate]
            refine round_next (bs * 2, f', d3) ⟨by simp only; omega, by simp only; omega, by simp only; omega, by simp only; rw [hd3]; simp [g4], g5⟩ (by simp only; omega) ?_
            exact wk_eq (by simp [hE, rowL, lens]) (by simp [rowL]) (by simp [livH, livO, AV.livL, AV.liv, wkL, wkV, List.range', slotsOf, cloBy])
          · rw [if_neg hm] at k3
            have hmi : ¬ (a : Int) + bs < n := by omega
            have ewm' : IntKind.i64.wrap ((a : Int) + bs) = (a : Int) + bs := by rw [IntWalk.i64_in _ (by omega)]
            simp [rowL, cloBy, slotsOf, hho, hmi, ewm', ew2', -List.reduceReplicate]
            refine round_next (bs * 2, f', d3) ⟨by simp only; omega, by simp only; omega, by simp only; omega, by simp only; rw [hd3]; simp [g4], g5⟩ (by simp only; omega) ?_
            exact wk_eq (by simp [hE, rowL, lens]) (by simp [rowL, k3]) (by simp [livH, livO, AV.livL, AV.liv, wkL, wkV, List.range', slotsOf, cloBy])
        · rintro ⟨a, g, d4⟩ ⟨k1, k2, k3, k4⟩
          simp only at k1 k2 k3 k4
          have ew3 : IntKind.i64.wrap ((a : Int) + bs) = (a : Int) + bs := by rw [IntWalk.i64_in _ (by omega)]
          have ew4 : IntKind.i64.wrap ((a : Int) + 2 * bs + 2 * bs) = ((a + 2 * bs + 2 * bs : Nat) : Int) := by rw [IntWalk.i64_in _ (by omega)]; omega
          by_cases hm : a + 2 * bs ≤ n
          · obtain ⟨g', rfl⟩ : ∃ g', g = g' + 1 := ⟨g - 1, by omega⟩
            rw [mrgF, if_pos hm] at k4
            have hmi : (a : Int) + 2 * bs ≤ n := by omega
            simp [rowL, cloBy, slotsOf, hho, hmi, ew2, ew3, -List.reduceReplicate]
            have hc := symMerge_lease n hd (a + 2 * bs - a) d4 a (a + bs) (a + 2 * bs) k3.symm (by omega) (by omega) hm (Nat.le_refl _)
            obtain ⟨d5, hd5⟩ : ∃ d5, d5 = symS ltL d4 a (a + bs) (a + 2 * bs) := ⟨_, rfl⟩
            rw [show symF ltL (a + 2 * bs - a) d4 a (a + bs) (a + 2 * bs) = d5 from hd5.symm] at hc
            rw [← hd5] at k4
            refine call_x [0] hc rfl rfl ⟨rfl, rfl⟩ hho (by simp) (by decide) (by simp) (by simp) ?_
            simp [rowL, hho, ew2, ew4, -List.reduceReplicate]
            refine round_next (a + 2 * bs, g', d5) ⟨hm, by simp only; omega, by simp only; rw [hd5]; simp [k3], k4⟩ (by simp only; omega) ?_
            exact wk_eq (by simp [hE, rowL, lens]) (by simp [rowL]) (by simp [livH, livO, AV.livL, AV.liv, wkL, wkV, List.range', slotsOf, cloBy])
          · have hmi : ¬ (a : Int) + 2 * bs ≤ n := by omega
            simp [rowL, cloBy, slotsOf, hho, hmi, -List.reduceReplicate]
            refine exit_to (a, d4) ⟨k1, k3, ?_⟩ ?_
            · rw [← k4]
              cases g with
              | zero => simp only [mrgF]; rw [if_neg (by omega)]
              | succ g => rw [mrgF, if_neg hm]
            · exact wk_eq (by simp [hE, rowL, lens]) (by simp [rowL]) (by simp [livH, livO, AV.livL, AV.liv, wkL, wkV, List.range', slotsOf, cloBy])
      · simp [rowL, cloBy, slotsOf, hho, hb, -List.reduceReplicate]
        refine Ret.same ⟨rfl, ?_⟩
        rw [← g5]
        cases f with
        | zero => rfl
        | succ f => rw [lvlF, if_neg hb]
  · rintro ⟨a, f, d1⟩ ⟨h1, h2, h3, h4⟩
    simp only at h1 h2 h3 h4
    have ew3 : IntKind.i64.wrap ((a : Int) + 20 + 20) = ((a + 20 + 20 : Nat) : Int) := by rw [IntWalk.i64_in _ (by omega)]; omega
    by_cases hm : a + 20 ≤ n
    · obtain ⟨g', rfl⟩ : ∃ g', f = g' + 1 := ⟨f - 1, by omega⟩
      rw [blkF, if_pos hm] at h4
      have hmi : (a : Int) + 20 ≤ n := by omega
      simp [rowL, cloBy, slotsOf, hho, hmi, -List.reduceReplicate]
      refine call_x [0] (insSort_lease d1 n h3.symm (by omega) a (a + 20) h1 hm) rfl rfl ⟨rfl, rfl⟩ hho (by simp) (by decide) (by simp) (by simp) ?_
      simp [rowL, hho, ew3, -List.reduceReplicate]
      refine round_next (a + 20, g', insS ltL d1 a (a + 20)) ⟨hm, by simp only; omega, by simp [h3], h4⟩ (by simp only; omega) ?_
      exact wk_eq (by simp [hE, rowL, lens]) (by simp [rowL]) (by simp [livH, livO, AV.livL, AV.liv, wkL, wkV, List.range', slotsOf, cloBy])
    · have hmi : ¬ (a : Int) + 20 ≤ n := by omega
      simp [rowL, cloBy, slotsOf, hho, hmi, -List.reduceReplicate]
      refine exit_to (a, d1) ⟨h1, h3, ?_⟩ ?_
      · rw [← h4]
        cases f with
        | zero => rfl
        | succ g => rw [blkF, if_neg hm]
      · exact wk_eq (by simp [hE, rowL, lens]) (by simp [rowL]) (by simp [livH, livO, AV.livL, AV.liv, wkL, wkV, List.range', slotsOf, cloBy])
theorem sortStable_lease (d : List LeaseS) (n : Nat) (hn : n = d.length) (hd : n ≤ 4000000000000000) :
    ACalls Try.prog 55 [.sl 0 3 0 n (n * 3), cloBy] [rowL d] (fun k => decide (k < 1)) (fun r h' => r = .tup [] ∧ h' = [rowL (stabS ltL d)]) := by
  refine acalls mixed Try.func55 rfl Try.ntmps55 rfl fun E hE hst hho => ?_
  simp [rowL, cloBy, hho, ← hn, -List.reduceReplicate]
  refine call_x [0] (stable_lease d n hn hd) rfl rfl ⟨rfl, rfl⟩ hho (by simp) (by decide) (by simp) (by simp) ?_
  simp [rowL, hho, -List.reduceReplicate]
  exact Ret.same ⟨rfl, rfl⟩
end Go.Proofs.Ytglhmhpaoebifaa
