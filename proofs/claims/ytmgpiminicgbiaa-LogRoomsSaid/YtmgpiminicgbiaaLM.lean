import Derived.Test.YtmgpiminicgbiaaLK
namespace Go.Proofs.Ytmgpiminicgbiaa
set_option linter.unusedVariables false
set_option linter.unusedSimpArgs false
open Go.RowKit
attribute [local simp] isCut_nil isCut_region isCut_seq isCut_block isCut_loop isCut_cond isCut_skip isCut_exit isCut_ret isCut_range swapK putK altK condK_bool pickP_bool stepP stepO onPure_some onPure_none onImpl_some onImpl_none stepC onGP_some onGP_none onGV_some condG mkG onIt_it nextP_ptr takeP_eq takeV_some takeN_none takeN_some takeG_some takeO_some altO_some pureV binV intBin strBin isSh shV fldV ixV sliceV loadAV nilV lenV callV unV convV viewS cellsH loadV fldCut AV.ung AV.gc AV.cells AS.ev AS.put anyS gcsV lens lnO gV guardV retK RetP_eq resV oneV anyRo loIx hiIx implO callP_clo evL gcsL storeAV AS.push AS.setO appV copyV buildV partsV fillV srcV fzO okV isCell_c isCell_ptr isCell_sl isCell_fs isCell_fp isCell_clo rowZ_one rowZ_zero rowZ_2 rowZ_3 rowZ_4 rowZ_5 rowZ_6 rowZ_7 rowZ_8 rowZ_9 rowZ_10 rowZ_11 rowZ_12 noHo Value.oneCell' max2V min2V afterH putBack frzFrom frzO rebO backIx nilEq_sl nilEq_fs nilOp_eql nilOp_neq AV.reb AV.rebL
attribute [local simp ↓] runK_skip runK_region runK_draw runK_seq runK_cut runK_cond runK_block runK_loop runK_exit runK_label runK_goto runK_ret runK_range contK_nil contK_seq contK_seq_ret contK_seq_exit contK_seq_goto contK_block contK_block_ret contK_block_goto contK_block_exit runO_nil runO_cons roundK_exit roundK_ret roundK_goto exitK_ret cutK_ret cutK_exit runE_done runE_nil runE_take runE_alt condG_true condG_false
set_option maxRecDepth 10000
theorem open_is (D : DevS) (hD : D.Ok) (hcl : D.calls ≤ 100000) (hwl : D.wait.length ≤ 100000) (n : Nat) (h1 : 1 ≤ n) (h2 : (n : Int) ≤ D.kept.length - 2) (W : Int × DevS × LogS) (hW : openS D n = W) (h0 : W.1 = 0) :
    ACalls Try.prog 9 [.ptr 0 0 5, .c (.int .i64 n)] (devO D) (fun k => decide (k < 2)) (fun r h' => r = .tup [.ptr 3 0 9, .c (.int .i64 0)] ∧ h' = dlO W.2.1 W.2.2) := by
  refine open_dev D hD hcl hwl n h1 h2 _ ⟨fun _ => ⟨rfl, by rw [hW]⟩, fun h => ?_⟩
  rw [hW] at h
  exact absurd h0 h
theorem st_log3 : ∀ (a b c d e : Nat) (i q : Nat), ([a, b, c, d, e] : List Nat)[i]? = some q → decide (i < 3) = true ∨ q ∈ [d, e] := by
  intro a b c d e i q h
  match i, h with
  | 0, _ => exact .inl rfl
  | 1, _ => exact .inl rfl
  | 2, _ => exact .inl rfl
  | 3, h => simp at h; exact .inr (by simp [h])
  | 4, h => simp at h; exact .inr (by simp [h])
  | i + 5, h => simp at h
theorem st_dev2 : ∀ (a b c : Nat) (i q : Nat), ([a, b, c] : List Nat)[i]? = some q → decide (i < 2) = true ∨ q ∈ [c] := by
  intro a b c i q h
  match i, h with
  | 0, _ => exact .inl rfl
  | 1, _ => exact .inl rfl
  | 2, h => simp at h; exact .inr (by simp [h])
  | i + 3, h => simp at h
set_option maxHeartbeats 8000000 in
theorem first_log : ACalls Try.prog 7 [] [] (fun _ => false) (fun r h' => r = .c (.bool true) ∧ h' = []) := by
  obtain ⟨a1, a2, a3, a4, a5⟩ := f1
  obtain ⟨b1, b2, b3, b4, b5, b6⟩ := f2
  have c1 := f3
  obtain ⟨d1, d2⟩ := f4
  have e1 := f5
  obtain ⟨g1, g2, g3, g4, g5⟩ := f6
  obtain ⟨k1, k2, k3, k4, k5, k6, k7, k8⟩ := f7
  obtain ⟨a2, a2', a2''⟩ := okB_ok a2
  obtain ⟨b2, b2', b2''⟩ := okB_ok b2
  obtain ⟨c1, c1', c1''⟩ := okB_ok c1
  obtain ⟨d2, d2', d2''⟩ := okB_ok d2
  obtain ⟨e1, e1', e1''⟩ := okB_ok e1
  obtain ⟨g2, g2', g2''⟩ := okB_ok g2
  obtain ⟨k2, k2', k2''⟩ := okB_ok k2
  refine acalls mixed Try.func7 rfl Try.ntmps7 rfl fun E hE hst hho => ?_
  simp (maxSteps := 1000000) [hho, -List.reduceReplicate]
  refine call_x [] (new_ok 12 (by decide) (by decide)) rfl rfl ⟨rfl, rfl⟩ hho (by simp) (by decide) (by simp) (by simp) ?_
  rw [show (12 : Int).toNat = 12 from rfl]
  simp (maxSteps := 1000000) [hho, devO, -List.reduceReplicate]
  refine call_d [0, 1, 2] (fun _ => false) [2] (open_is (newS 12) (newS_ok 12 (by decide) (by decide)) (by decide) (by decide) 10 (by decide) (by decide) fW1 rfl a1) rfl rfl ⟨rfl, rfl⟩ hho (st_dev2 0 1 2) (by simp [livH, livO, AV.livL, AV.liv, wkL, wkV, List.range']) (by simp [livH, livO, AV.livL, AV.liv, wkL, wkV, List.range']) (by simp [hst]) (by decide) (by decide) (by simp) (by simp [dlO, devO]) ?_
  simp (maxSteps := 1000000) [hho, dlO, devO, logB, batR, -List.reduceReplicate]
  have wh := fun (l : List Nat) (q : Prop) => q
  refine call_d [3, 0, 1, 2, 4] (fun _ => false) [2, 4] (append_fs fW1.2.1 a2 (by omega) (by omega) fW1.2.2 [97] (by decide) (by omega) (by omega) (by rw [a5]; decide)) rfl rfl ⟨rfl, rfl⟩ hho (st_log3 3 0 1 2 4) (by simp [livH, livO, AV.livL, AV.liv, wkL, wkV, List.range']) (by simp [livH, livO, AV.livL, AV.liv, wkL, wkV, List.range']) (by simp [hst]) (by decide) (by decide) (by simp) (by simp [logO, devAt]) ?_
  have eW2 : appS fW1.2.1 fW1.2.2 [97] = fW2 := rfl
  rw [eW2, b1]
  simp (maxSteps := 1000000) [hho, logO, devAt, logB, batR, -List.reduceReplicate]
  refine call_x [3, 0, 1, 2, 4] (room_log fW2.2.1 fW2.2.2 (by omega) (by omega)) rfl rfl ⟨rfl, rfl⟩ hho (by simp) (by decide) (by simp) (by simp [logO, devAt]) ?_
  rw [b3]
  simp (maxSteps := 1000000) [hho, logO, devAt, logB, batR, -List.reduceReplicate]
  refine call_x [0, 1, 2] (limit_dev fW2.2.1 3) rfl rfl ⟨rfl, rfl⟩ hho (by simp) (by decide) (by simp) (by simp [devO]) ?_
  have eD3 : ({ fW2.2.1 with bound := true, left := max 3 0 } : DevS) = fD3 := rfl
  rw [eD3]
  simp (maxSteps := 1000000) [hho, devO, -List.reduceReplicate]
  have hz : rowZ 100 [Value.int IntKind.u8 0] = u8av (List.replicate 100 0) := rfl
  rw [hz]
  refine call_d [3, 0, 1, 2, 4] (fun k => k == 6) [2, 4] (append_fs fD3 c1 (by omega) (by omega) fW2.2.2 (List.replicate 100 0) (by decide) (by omega) (by omega) (by omega)) rfl rfl ⟨rfl, rfl⟩ hho (st_log3 3 0 1 2 4) (by simp [livH, livO, AV.livL, AV.liv, wkL, wkV, List.range', -List.reduceReplicate]) (by simp [livH, livO, AV.livL, AV.liv, wkL, wkV, List.range', -List.reduceReplicate]) (by simp [hst]) (by decide) (by decide) (by simp [maxLen, -List.reduceReplicate]) (by simp [logO, devAt]) ?_
  have eW4 : appS fD3 fW2.2.2 (List.replicate 100 0) = fW4 := rfl
  rw [eW4, d1]
  simp (maxSteps := 1000000) [hho, logO, devAt, logB, batR, -List.reduceReplicate]
  refine call_d [0, 1, 2] (fun k => k == 7) [2] (crash_dev fW4.2.1 d2 [64, 0, 64]) rfl rfl ⟨rfl, rfl⟩ hho (st_dev2 0 1 2) (by simp [livH, livO, AV.livL, AV.liv, wkL, wkV, List.range']) (by simp [livH, livO, AV.livL, AV.liv, wkL, wkV, List.range', batchA_liv]) (by simp [hst]) (by decide) (by decide) (by simp [isD_c, maxLen]) (by simp [devO]) ?_
  have hk5 : fD5.kept.length = 12 := by decide +kernel
  have eD5 : crashS [64, 0, 64] fW4.2.1 = fD5 := rfl
  rw [eD5]
  simp (maxSteps := 1000000) [hho, devO, -List.reduceReplicate]
  refine call_d [0, 1, 2] (fun _ => false) [2] (open_is fD5 e1 (by omega) (by omega) 10 (by decide) (by rw [hk5]; decide) fW6 rfl g1) rfl rfl ⟨rfl, rfl⟩ hho (st_dev2 0 1 2) (by simp [livH, livO, AV.livL, AV.liv, wkL, wkV, List.range']) (by simp [livH, livO, AV.livL, AV.liv, wkL, wkV, List.range', batchA_liv]) (by simp [hst]) (by decide) (by decide) (by simp) (by simp [dlO, devO]) ?_
  simp (maxSteps := 1000000) [hho, dlO, devO, logB, batR, -List.reduceReplicate]
  refine call_x [8, 0, 1, 2, 9] (batches_log fW6.2.1 fW6.2.2 (by rw [g3]; decide) (by rw [g3]; decide)) rfl rfl ⟨rfl, rfl⟩ hho (by simp) (by decide) (by simp) (by simp [logO, devAt]) ?_
  rw [g3]
  simp (maxSteps := 1000000) [hho, logO, devAt, logB, batR, -List.reduceReplicate]
  have hgn : 0 ≤ fW6.2.2.h.n ∧ fW6.2.2.h.n < 4611686018427387904 := by rw [g4]; decide
  have hge : 0 ≤ fW6.2.2.h.epoch ∧ fW6.2.2.h.epoch ≤ 4294967296 := by rw [g5]; decide
  refine call_d [8, 0, 1, 2, 9] (fun _ => false) [2, 9] (reset_fs fW6.2.1 g2 (by omega) (by omega) fW6.2.2 [104, 101, 97, 100] (by decide) hgn hge) rfl rfl ⟨rfl, rfl⟩ hho (st_log3 8 0 1 2 9) (by simp [livH, livO, AV.livL, AV.liv, wkL, wkV, List.range']) (by simp [livH, livO, AV.livL, AV.liv, wkL, wkV, List.range', batchA_liv, -List.reduceReplicate]) (by simp [hst]) (by decide) (by decide) (by simp) (by simp [logO, devAt]) ?_
  have eW7 : resS fW6.2.1 fW6.2.2 [104, 101, 97, 100] = fW7 := rfl
  rw [eW7, k1]
  have eba : batchA [[97]] = [.fs 1 1 (u8av [97])] := rfl
  have ey1 : bytesOf (u8av [97]) = ⟨#[97]⟩ := by rw [bytesOf_u8]
  have ey2 : bytesOf (u8av [104, 101, 97, 100]) = ⟨#[104, 101, 97, 100]⟩ := by rw [bytesOf_u8]
  have hu1 : ∀ x ∈ u8av [97], isU8 x = true := isU8_all _
  have hu2 : ∀ x ∈ u8av [104, 101, 97, 100], isU8 x = true := isU8_all _
  simp (maxSteps := 1000000) [hho, logO, devAt, logB, batR, eba, ey1, -List.reduceReplicate]
  refine ⟨hu1, ?_⟩
  refine call_x [8, 0, 1, 2, 9] (head_log fW7.2.1 fW7.2.2 (by rw [k4]; decide)) rfl rfl ⟨rfl, rfl⟩ hho (by simp) (by decide) (by simp) (by simp [logO, devAt]) ?_
  rw [k4]
  simp (maxSteps := 1000000) [hho, logO, devAt, logB, batR, ey2, -List.reduceReplicate]
  refine ⟨hu2, ?_⟩
  refine call_x [8, 0, 1, 2, 9] (batches_log fW7.2.1 fW7.2.2 (by rw [k3]; simp) (by rw [k3]; decide)) rfl rfl ⟨rfl, rfl⟩ hho (by simp) (by decide) (by simp) (by simp [logO, devAt]) ?_
  rw [k3]
  simp (maxSteps := 1000000) [hho, logO, devAt, logB, batR, -List.reduceReplicate]
  refine call_x [8, 0, 1, 2, 9] (room_log fW7.2.1 fW7.2.2 (by omega) (by omega)) rfl rfl ⟨rfl, rfl⟩ hho (by simp) (by decide) (by simp) (by simp [logO, devAt]) ?_
  rw [k5]
  simp (maxSteps := 1000000) [hho, logO, devAt, logB, batR, -List.reduceReplicate]
  refine call_x [8, 0, 1, 2, 9] (epoch_log fW7.2.1 fW7.2.2) rfl rfl ⟨rfl, rfl⟩ hho (by simp) (by decide) (by simp) (by simp [logO, devAt]) ?_
  rw [k6]
  simp (maxSteps := 1000000) [hho, logO, devAt, logB, batR, -List.reduceReplicate]
  exact Ret.drop (by decide) ⟨rfl, rfl⟩
end Go.Proofs.Ytmgpiminicgbiaa
