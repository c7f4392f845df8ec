import Derived.Test.YtmgpiminicgbiaaLE
namespace Go.Proofs.Ytmgpiminicgbiaa
set_option linter.unusedVariables false
set_option linter.unusedSimpArgs false
open Go.RowKit
attribute [local simp] isCut_nil isCut_region isCut_seq isCut_block isCut_loop isCut_cond isCut_skip isCut_exit isCut_ret isCut_range swapK putK altK condK_bool pickP_bool stepP stepO onPure_some onPure_none onImpl_some onImpl_none stepC onGP_some onGP_none onGV_some condG mkG onIt_it nextP_ptr takeP_eq takeV_some takeN_none takeN_some takeG_some takeO_some altO_some pureV binV intBin strBin isSh shV fldV ixV sliceV loadAV nilV lenV callV unV convV viewS cellsH loadV fldCut AV.ung AV.gc AV.cells AS.ev AS.put anyS gcsV lens lnO gV guardV retK RetP_eq resV oneV anyRo loIx hiIx implO callP_clo evL gcsL storeAV AS.push AS.setO appV copyV buildV partsV fillV srcV fzO okV isCell_c isCell_ptr isCell_sl isCell_fs isCell_fp isCell_clo rowZ_one rowZ_zero rowZ_2 rowZ_3 rowZ_4 rowZ_5 rowZ_6 rowZ_7 rowZ_8 rowZ_9 rowZ_10 rowZ_11 rowZ_12 noHo Value.oneCell' max2V min2V afterH putBack frzFrom frzO rebO backIx nilEq_sl nilEq_fs nilOp_eql nilOp_neq AV.reb AV.rebL
attribute [local simp ↓] runK_skip runK_region runK_draw runK_seq runK_cut runK_cond runK_block runK_loop runK_exit runK_label runK_goto runK_ret runK_range contK_nil contK_seq contK_seq_ret contK_seq_exit contK_seq_goto contK_block contK_block_ret contK_block_goto contK_block_exit runO_nil runO_cons roundK_exit roundK_ret roundK_goto exitK_ret cutK_ret cutK_exit runE_done runE_nil runE_take runE_alt condG_true condG_false
set_option maxRecDepth 10000
theorem unframe_body {l : List UInt8} {k : Int} {f : FrameS} (hp : unframeF l k = some f) : f.body.length ≤ 46 := by
  unfold unframeF at hp
  split at hp
  · cases hp
  · injection hp with hp; subst hp
    simp only [List.length_take]; omega
def withF (L : LogS) (x : FSt) : LogS := { L with bs := x.bs, at_ := x.at_ }
set_option maxHeartbeats 4000000 in
theorem readFrames_ok (D : DevS) (hD : D.Ok) (L : LogS) (n : Nat) (hn : L.frames = n) (hn2 : n ≤ 1000000) (hbs : L.bs = []) (hat : L.at_ = 0) (hc : ∀ k : Nat, k < n → checkS D (2 + k : Nat) 0 = 0) : ACalls Try.prog 34 [.ptr 0 0 9] (logO D L) (fun k => decide (k < 4)) (fun r h' => r = .c (.int .i64 0) ∧ h' = logO D (withF L (framesTo D L.h.epoch ⟨L.h.base, false, [], [], 0⟩ 0 n))) := by
  refine acallsC [16] mixed Try.func34 rfl Try.ntmps34 rfl fun E hE hst hho => ?_
  simp [logO, logB, batR, devAt, hho, noHo, -List.reduceReplicate]
  refine loop_kc [16] mixed (fun y : Nat × FSt => ⟨slotsOf 96 [(0, .ptr 0 0 9), (3, .c (.int .i64 y.2.least)), (4, .c (.bool y.2.within)), (5, .sl 5 1 0 y.2.batch.length y.2.batch.length), (19, .c (.int .i64 n)), (20, .c (.int .i64 (y.1 : Int)))], logO D (withF L y.2) ++ [.o (.row 5 1) (u8av y.2.batch)]⟩) (fun y => n - y.1)
    (fun y => y.1 ≤ n ∧ framesTo D L.h.epoch y.2 y.1 (n - y.1) = framesTo D L.h.epoch ⟨L.h.base, false, [], [], 0⟩ 0 n ∧ y.2.batch.length ≤ 46 * y.1 ∧ y.2.bs.length ≤ y.1 ∧ 0 ≤ y.2.at_ ∧ y.2.at_ ≤ y.1) (0, ⟨L.h.base, false, [], [], 0⟩) ⟨Nat.zero_le _, rfl, by simp, by simp, by simp, by simp⟩ ?_ ?_
  · refine Wk.trans (wk_virt 5 5 1 rfl) ?_
    exact wk_all (by simp [hE, logO, devAt, lens]) (by simp [logO, logB, batR, devAt, withF, hbs, hat]) (by simp [livH, livO, AV.livL, AV.liv, wkL, wkV, List.range', slotsOf, hn])
  · rintro ⟨k, x⟩ ⟨hk, hI, hb, hl, ha0, ha⟩
    simp only at hk hI hb hl ha0 ha
    by_cases hkn : k < n
    · have e2k : IntKind.i64.wrap (2 + (k : Int)) = ((2 + k : Nat) : Int) := by rw [IntWalk.i64_in _ (by omega)]; rfl
      have ew : IntKind.i64.wrap ((k : Int) + 1) = (k + 1 : Nat) := by rw [IntWalk.i64_in _ (by omega)]; rfl
      have en : n - k = (n - (k + 1)) + 1 := by omega
      rw [en, framesTo] at hI
      simp (maxSteps := 1000000) [logO, logB, batR, devAt, withF, slotsOf, hho, hkn, -List.reduceReplicate]
      refine seq_cut mixed [] (fun y : FSt => ⟨slotsOf 96 [(0, .ptr 0 0 9), (3, .c (.int .i64 y.least)), (4, .c (.bool y.within)), (5, .sl 5 1 0 y.batch.length y.batch.length), (19, .c (.int .i64 n)), (20, .c (.int .i64 (k : Int)))], logO D (withF L y) ++ [.o (.row 5 1) (u8av y.batch)]⟩) (fun y => framesTo D L.h.epoch y (k + 1) (n - (k + 1)) = framesTo D L.h.epoch ⟨L.h.base, false, [], [], 0⟩ 0 n ∧ y.batch.length ≤ 46 * (k + 1) ∧ y.bs.length ≤ k + 1 ∧ 0 ≤ y.at_ ∧ y.at_ ≤ k + 1) ?_ ?_
      · rintro y ⟨y1, y2, y3, y4, y5⟩
        simp (maxSteps := 1000000) [logO, logB, batR, devAt, withF, slotsOf, hho, ew, -List.reduceReplicate]
        refine round_next (k + 1, y) ⟨by simp only; omega, y1, y2, y3, y4, by simp only; omega⟩ (by simp only; omega) ?_
        exact wk_all (by simp [hE, logO, devAt, lens]) (by simp [logO, logB, batR, devAt, withF]) (by simp [livH, livO, AV.livL, AV.liv, wkL, wkV, List.range', slotsOf])
      · simp (maxSteps := 1000000) [logO, logB, batR, devAt, withF, slotsOf, hho, e2k, -List.reduceReplicate]
        refine call_x [1, 2, 3] (read_ok D hD (2 + k : Nat) (hc k hkn)) rfl rfl ⟨rfl, rfl⟩ hho (by simp) (by decide) (by simp) (by simp [devO]) ?_
        have es : u8av (curS D ((2 + k : Nat) : Int).toNat).1 = u8av (secL D (2 + k)) := by rw [Int.toNat_natCast]; rfl
        rw [es]
        simp (maxSteps := 1000000) [hho, devO, -List.reduceReplicate]
        refine call_d [6] (fun _ => false) [] (unframe_row (secL D (2 + k)) (secL_length D _) k 5) rfl rfl ⟨rfl, rfl⟩ hho (by intro a b h; cases a with | zero => exact .inl rfl | succ a => simp at h) (livL_none _) (livH_none _ _ _) (by simp) (by decide) (by decide) (by simp) (by simp) ?_
        cases hP : unframeF (secL D (2 + k)) k with
        | none =>
          have hF : frameStep D L.h.epoch x k = none := by simp only [frameStep, hP]
          rw [hF] at hI
          simp only at hI
          simp (maxSteps := 1000000) [hho, unframeR, frame0, -List.reduceReplicate]
          refine draw_k hho (.take 0 (.take 1 (.take 2 (.take 3 (.take 4 (.take 5 (.take 6 (.take 7 (.take 8 (.take 9 (.take 10 (.take 11 (.take 12 (.take 13 (.take 14 (.take 15 (.take 16 (.take 17 (.take 18 (.take 19 (.take 20 (.take 21 (.take 22 (.take 23 (.take 24 (.take 25 (.take 26 (.done)))))))))))))))))))))))))))) [0, 7] [] (by decide +kernel) (by simp) ?_
          simp (maxSteps := 1000000) [hho, roOf, holdOf, wrOf, altK, heldOk, Region.binds, -List.reduceReplicate]
          refine Ret.sel [0, 1, 2, 3, 4] (fun _ => false) (ho := by rfl) (ha := by rfl) ?_ ?_ (by decide) (by simp) (st_pre 4 [4] _) ⟨rfl, ?_⟩
          · simp
          · simp
          · rw [← hI]
        | some f =>
          simp (maxSteps := 1000000) [hho, unframeR, frameA, -List.reduceReplicate]
          refine draw_k hho (.take 0 (.take 1 (.take 2 (.take 3 (.take 4 (.take 5 (.take 6 (.take 7 (.take 8 (.take 9 (.take 10 (.take 11 (.take 12 (.take 13 (.take 14 (.take 15 (.take 16 (.take 17 (.take 18 (.take 19 (.take 20 (.take 21 (.take 22 (.take 23 (.take 24 (.take 25 (.take 26 (.done)))))))))))))))))))))))))))) [0, 7] [] (by decide +kernel) (by simp) ?_
          simp (maxSteps := 1000000) [hho, roOf, holdOf, wrOf, altK, heldOk, Region.binds, -List.reduceReplicate]
          refine ⟨fun a b => ⟨⟨a, b⟩, fun c => ⟨⟨a, b⟩, c⟩⟩, ?_⟩
          by_cases hcn : (f.epoch < x.least ∨ L.h.epoch < f.epoch) ∨ x.within = true ∧ ¬ f.epoch = x.least
          · rw [if_pos hcn]
            have hF : frameStep D L.h.epoch x k = none := by simp only [frameStep, hP]; rw [if_pos (by rcases hcn with (h | h) | h; exact .inl h; exact .inr (.inl h); exact .inr (.inr h))]
            rw [hF] at hI
            simp only at hI
            refine Ret.sel [0, 1, 2, 3, 4] (fun _ => false) (ho := by rfl) (ha := by rfl) ?_ ?_ (by decide) (by simp) (st_pre 4 [4] _) ⟨rfl, ?_⟩
            · simp
            · simp
            · rw [← hI]
          · rw [if_neg hcn]
            have hfb := unframe_body hP
            refine draw_k hho (.take 0 (.take 1 (.take 2 (.take 3 (.take 4 (.take 5 (.take 6 (.done)))))))) [7] [] (by decide +kernel) (by simp) ?_
            have hF : frameStep D L.h.epoch x k = if f.last = true then some ⟨f.epoch, false, [], x.bs ++ [x.batch ++ f.body], k + 1⟩ else some ⟨f.epoch, true, x.batch ++ f.body, x.bs, x.at_⟩ := by simp only [frameStep, hP]; rw [if_neg (by rintro (h | h | h); exact hcn (.inl (.inl h)); exact hcn (.inl (.inr h)); exact hcn (.inr h))]
            cases hfl : f.last
            · rw [hfl, if_neg (by decide)] at hF
              rw [hF] at hI
              simp only at hI
              simp (maxSteps := 1000000) [hho, hfl, roOf, holdOf, wrOf, altK, heldOk, Region.binds, -List.reduceReplicate]
              refine ⟨by omega, cut_to ⟨f.epoch, true, x.batch ++ f.body, x.bs, x.at_⟩ ⟨hI, by simp; omega, by simp only; omega, ha0, by simp only; omega⟩ ?_⟩
              exact wk_of 6 2 (by simp) (by simp [hE, logO, devAt, lens]) (by simp [logO, logB, batR, devAt, withF, u8av_app]) (by simp [livH, livO, AV.livL, AV.liv, wkL, wkV, List.range', logO, logB, batR, devAt, batchA_liv, withF]) (by simp [livH, livO, AV.livL, AV.liv, wkL, wkV, List.range', slotsOf])
            · rw [hfl, if_pos rfl] at hF
              rw [hF] at hI
              simp only at hI
              simp (maxSteps := 1000000) [hho, hfl, ew, roOf, holdOf, wrOf, altK, heldOk, Region.binds, -List.reduceReplicate]
              obtain ⟨bt, hbt⟩ : ∃ bt, bt = x.batch ++ f.body := ⟨_, rfl⟩
              have hbl : bt.length = x.batch.length + f.body.length := by rw [hbt]; simp
              obtain ⟨y, hy⟩ : ∃ y : FSt, y = ⟨f.epoch, false, [], x.bs ++ [bt], k + 1⟩ := ⟨_, rfl⟩
              refine ⟨by omega, by omega, cut_to y ⟨by rw [hy, hbt]; exact hI, by rw [hy]; simp, by rw [hy]; simp; omega, by rw [hy]; simp only; omega, by rw [hy]; simp only; omega⟩ ?_⟩
              obtain ⟨tt, htt⟩ : ∃ tt, tt = slotsOf 96 [(0, .ptr 0 0 9), (3, .c (.int .i64 f.epoch)), (4, .c (.bool false)), (5, .c (.slice none 0 0)), (19, .c (.int .i64 n)), (20, .c (.int .i64 (k : Int)))] := ⟨_, rfl⟩
              obtain ⟨hb0, hhb0⟩ : ∃ hb0, hb0 = logB (withF L y) 1 4 :: devAt 1 D := ⟨_, rfl⟩
              have hl0 : hb0.length = 4 := by rw [hhb0]; simp [devAt]
              refine Wk.trans (s' := ⟨tt, hb0 ++ [.o (.row 33 1) (batchA x.bs ++ [.sl 5 1 0 bt.length bt.length]), .o (.row 5 1) (u8av bt)]⟩) (wk_of 6 3 (by simp) (by simp [hE, logO, devAt, lens]) (by simp [hhb0, hy, logO, logB, batR, devAt, withF, hbt, u8av_app]) (by simp [livH, livO, AV.livL, AV.liv, wkL, wkV, List.range', hhb0, logO, logB, batR, devAt, batchA_liv, livL_app]) (by simp [livH, livO, AV.livL, AV.liv, wkL, wkV, List.range', slotsOf, htt])) ?_
              refine Wk.trans (wk_data 4 x.bs.length 5 (kd := .row 33 1) (cs := batchA x.bs ++ [.sl 5 1 0 bt.length bt.length]) (l := u8av bt) (e := 5) (sz := 1) (n := bt.length) (m := bt.length) (by rw [hho]; rfl) (by decide) (by rw [List.getElem?_append_right (by omega), hl0]; rfl) (by rw [List.getElem?_append_right (by simp)]; simp) (by rw [List.getElem?_append_right (by omega), hl0]; rfl) (by simp) (by simp) (by simp [maxLen]; omega) (by simp)) ?_
              have est : (batchA x.bs ++ [AV.sl 5 1 0 bt.length bt.length]).set x.bs.length (.fs 1 bt.length (u8av bt)) = batchA (x.bs ++ [bt]) := by
                have hlj : (batchA x.bs).length = x.bs.length := by simp
                rw [List.set_append_right _ _ (by omega), hlj, Nat.sub_self, batchA_snoc]; rfl
              refine Wk.trans (s' := ⟨tt, hb0 ++ [.o (.row 33 1) (batchA (x.bs ++ [bt]))]⟩) (wk_of 5 1 (by simp [hl0]) (by simp [hE, logO, devAt, lens]) (by simp only [est, hhb0]; simp [devAt]) (by simp [livH, livO, AV.livL, AV.liv, wkL, wkV, List.range', hhb0, logO, logB, batR, devAt, batchA_liv]) (by simp [livH, livO, AV.livL, AV.liv, wkL, wkV, List.range', slotsOf, htt])) ?_
              refine Wk.trans (wk_virt 5 5 1 (by rw [htt]; rfl)) ?_
              exact wk_all (by simp [hE, logO, devAt, lens, hl0]) (by simp [hhb0, hy, logO, logB, batR, devAt, withF, batchA_snoc]) (by simp [livH, livO, AV.livL, AV.liv, wkL, wkV, List.range', slotsOf, htt, hl0, hy])
    · obtain rfl : k = n := by omega
      rw [Nat.sub_self] at hI
      simp (maxSteps := 1000000) [logO, logB, batR, devAt, withF, slotsOf, hho, -List.reduceReplicate]
      rw [framesTo] at hI
      refine Ret.sel [0, 1, 2, 3, 4] (fun _ => false) (ho := by rfl) (ha := by rfl) ?_ ?_ (by decide) (by simp) (st_pre 4 [4] _) ⟨rfl, ?_⟩
      · simp
      · simp
      · rw [← hI]
end Go.Proofs.Ytmgpiminicgbiaa
