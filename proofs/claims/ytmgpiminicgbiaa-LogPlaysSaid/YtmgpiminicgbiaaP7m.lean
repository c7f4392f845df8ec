import Derived.Test.YtmgpiminicgbiaaP7l
namespace Go.Proofs.Ytmgpiminicgbiaa
set_option linter.unusedVariables false
set_option linter.unusedSimpArgs false
open Go.RowKit
attribute [local simp] isCut_nil isCut_region isCut_seq isCut_block isCut_loop isCut_cond isCut_skip isCut_exit isCut_ret isCut_range swapK putK altK condK_bool pickP_bool stepP stepO onPure_some onPure_none onImpl_some onImpl_none stepC onGP_some onGP_none onGV_some condG mkG onIt_it nextP_ptr takeP_eq takeV_some takeV_none takeU_some takeU_none takeQ takeW_some takeN_none takeN_some takeG_some takeO_some altO_some pureV binV2 eqF eqOp ovlV ovl2 rowAt capV binV intBin strBin isSh shV fldV ixV sliceV slice3V loadAV nilV lenV callV unV convV viewS cellsH loadV fldCut AV.ung AV.ungs AV.gc AV.cells AS.ev AS.put anyS gcsV gcO lens lnO gV guardV retK RetP_eq resV oneV anyRo loIx hiIx implO callP_clo evL gcsL clearV storeAV AS.push AS.setO appV appZ shortS copyV buildV partsV fillV srcV fzO okV isCell_c isCell_ptr isCell_sl isCell_fs isCell_fp isCell_clo rowZ_one rowZ_zero rowZ_2 rowZ_3 rowZ_4 rowZ_5 rowZ_6 rowZ_7 rowZ_8 rowZ_9 rowZ_10 rowZ_11 rowZ_12 noHo Value.oneCell' max2V min2V lookV updV updK updW cvals mkAt basV lenM msAt afterH putBack frzFrom frzO rebO backIx nilEq_sl nilEq_fs nilEq_ifn nilEq_ifh ifOp_eql ifOp_neq isLit nilOp_eql nilOp_neq AV.reb AV.rebL
attribute [local simp ↓] runK_skip runK_region runK_draw runK_seq runK_cut runK_cond runK_block runK_loop runK_exit runK_label runK_goto runK_ret runK_range contK_nil contK_seq contK_seq_ret contK_seq_exit contK_seq_goto contK_block contK_block_ret contK_block_goto contK_block_exit runO_nil runO_cons roundK_exit roundK_ret roundK_goto exitK_ret cutK_ret cutK_exit runE_done runE_nil runE_take runE_alt condG_true condG_false
set_option maxRecDepth 10000
/-! ## Resetting by a row that lives -/
theorem callG_sl0 {P : Program} {E : Env} {s : AS} {g : FuncId} {k sz off n m : Nat} {l : List AV} {K : AV → AS → Prop} (hk : (lens s.h)[k]? = some m) (hn : n = 0) (hl0 : l = []) (h : CallG P E g [.fs sz n l] s K) : CallG P E g [.sl k sz off n m] s K := by
  subst hn hl0
  intro G F a w vs hr hl hrep
  refine h G F a w vs hr hl fun j u x hu hx => ?_
  cases j with
  | zero =>
    simp only [List.getElem?_cons_zero, Option.some.injEq] at hu
    subst hu
    exact sl0_fs hk (hrep 0 _ x rfl hx)
  | succ j => simp at hu
set_option maxHeartbeats 8000000 in
theorem reset_sl (D : DevS) (hD : D.Ok) (hcl : D.calls ≤ 50000) (hwl : D.wait.length ≤ 50000) (L : LogS) (b : List UInt8) (hb : b.length ≤ maxLen) (h1 : 0 ≤ L.h.n ∧ L.h.n < 9000000000000000000) (h2 : 0 ≤ L.h.epoch ∧ L.h.epoch ≤ 4294967296) (e0 : TypeId) :
    ACalls Try.prog 12 [.ptr 0 0 9, .sl 5 1 0 b.length b.length] (logO D L ++ [ownR e0 b]) (fun k => [0, 1, 2, 5].contains k) (fun r h' => r = .c (.int .i64 (resS D L b).1) ∧ h' = logO (resS D L b).2.1 (resS D L b).2.2 ++ [ownR e0 b]) := by
  refine acalls mixed Try.func12 rfl Try.ntmps12 rfl fun E hE hst hho => ?_
  simp (maxSteps := 1000000) [logO, logB, batR, devAt, ownR, hho, -List.reduceReplicate]
  refine call_x [0, 1, 2, 3, 4] (up_log D L) rfl rfl ⟨rfl, rfl⟩ hho (by simp) (by decide) (by simp) (by simp [logO, devAt]) ?_
  by_cases hdn : L.down = true
  · have hA : resS D L b = (60, D, L) := by unfold resS; rw [if_pos hdn]
    rw [hA]
    simp (maxSteps := 1000000) [hho, hdn, logO, logB, batR, devAt, ownR, -List.reduceReplicate]
    refine Ret.sel [0, 1, 2, 3, 4, 5] (fun _ => false) (ho := by rfl) (ha := by rfl) ?_ ?_ (by decide) (by simp) (by intro i _ h; simp at h; rcases h with rfl | rfl | rfl | rfl <;> rfl) ⟨rfl, ?_⟩
    · simp
    · simp
    · simp [hdn]
  have hdn' : L.down = false := by simpa using hdn
  by_cases hbig : 32 < b.length
  · have hA : resS D L b = (2, D, L) := by unfold resS; rw [if_neg hdn, if_pos hbig]
    have hbi : (32 : Int) < b.length := by omega
    rw [hA]
    simp (maxSteps := 1000000) [hho, hdn', hbig, hbi, logO, logB, batR, devAt, ownR, -List.reduceReplicate]
    refine Ret.sel [0, 1, 2, 3, 4, 5] (fun _ => false) (ho := by rfl) (ha := by rfl) ?_ ?_ (by decide) (by simp) (by intro i _ h; simp at h; rcases h with rfl | rfl | rfl | rfl <;> rfl) ⟨rfl, ?_⟩
    · simp
    · simp
    · simp [hdn']
  have hbi : ¬ (32 : Int) < b.length := by omega
  have hL1 : ∀ (D : DevS) (L : LogS), logO D L = [logB L 1 4, .o .box [.sl 2 64 0 D.kept.length (D.kept.length * 64), .sl 3 65 0 D.wait.length (D.wait.length * 65), .c (.bool D.bound), .c (.int .i64 D.left), .c (.int .i64 D.calls)], .o (.row 93 64) (keptA D.kept), .o (.row 95 65) (waitA D.wait), batR L.bs] := fun _ _ => rfl
  simp (maxSteps := 1000000) [hho, hdn', hbig, hbi, hL1, logB, batR, ownR, -List.reduceReplicate]
  by_cases hb0 : b.length = 0
  · have hbn : b = [] := List.eq_nil_of_length_eq_zero hb0
    refine callG_sl0 (l := u8av b) (by simp [lens, lnO]) hb0 (by rw [hbn]; rfl) ?_
    refine call_x [] (clone8_fs b.length (u8av b) (by simp) (by omega) (by simp)) rfl rfl ⟨rfl, rfl⟩ hho (by simp) (by decide) (by simp) (by simp) ?_
    simp (maxSteps := 1000000) [hho, ownR, -List.reduceReplicate]
    have hwh := writeHead_ok D hD (by omega) (by omega) L ⟨0, 0, -1, b⟩ (by simp only; omega) h1 h2
    obtain ⟨W, hW⟩ : ∃ W, W = whS D L ⟨0, 0, -1, b⟩ := ⟨_, rfl⟩
    rw [← hW] at hwh
    have hk := whS_bs D L ⟨0, 0, -1, b⟩
    rw [← hW] at hk
    obtain ⟨hk1, hk2, hk3, hk4⟩ := hk
    refine call_d [0, 1, 2, 3, 4] (fun k => k == 6) [3, 4] hwh rfl rfl ⟨?_, ?_⟩ hho ?_ (by simp [livH, livO, AV.livL, AV.liv, wkL, wkV, List.range']) (by simp [livH, livO, AV.livL, AV.liv, wkL, wkV, List.range', batchA_liv]) (by simp [hst]) (by decide) (by decide) ?_ (by simp [logO, devAt]) ?_
    · simp [headA]
    · simp [hL1, logB, batR, hdn']
    · intro i q h
      match i, h with
      | 0, _ => exact .inl rfl
      | 1, _ => exact .inl rfl
      | 2, _ => exact .inl rfl
      | 3, h => simp at h; exact .inr (by simp [h])
      | 4, h => simp at h; exact .inr (by simp [h])
      | i + 5, h => simp at h
    · simp [maxLen]; omega
    by_cases hw0 : W.1 = 0
    · have hA : resS D L b = (0, W.2.1, { W.2.2 with at_ := 0, bs := [] }) := by unfold resS; rw [if_neg hdn, if_neg hbig, ← hW, if_neg (by rw [hw0]; decide)]
      rw [hA, hw0]
      simp (maxSteps := 1000000) [hho, hL1, logB, batR, ownR, -List.reduceReplicate]
      refine Ret.wk (fun E hE => wk_virtC 0 7 33 1 rfl rfl) ?_
      refine Ret.sel [0, 1, 2, 3, 7, 5] (fun _ => false) (ho := by rfl) (ha := by rfl) ?_ ?_ (by decide) (by simp) (by intro i _ h; simp at h; rcases h with rfl | rfl | rfl | rfl <;> rfl) ⟨rfl, ?_⟩
      · simp
      · simp
      · simp [batchA]
    · have hA : resS D L b = (W.1, W.2.1, { W.2.2 with down := decide (W.1 ≠ 70) }) := by unfold resS; rw [if_neg hdn, if_neg hbig, ← hW, if_pos hw0]
      rw [hA]
      simp (maxSteps := 1000000) [hho, hw0, hL1, logB, batR, ownR, hk2, hdn', -List.reduceReplicate]
      refine Ret.sel [0, 1, 2, 3, 4, 5] (fun _ => false) (ho := by rfl) (ha := by rfl) ?_ ?_ (by decide) (by simp) (by intro i _ h; simp at h; rcases h with rfl | rfl | rfl | rfl <;> rfl) ⟨rfl, ?_⟩
      · simp
      · simp
      · simp
  · refine call_x [5] (clone8_sl b 0 b.length b.length e0 rfl (by omega) (by omega) (by omega)) rfl rfl ⟨rfl, rfl⟩ hho (by simp) (by decide) (by simp) (by simp) ?_
    rw [List.drop_zero, List.take_length]
    simp (maxSteps := 1000000) [hho, ownR, -List.reduceReplicate]
    have hwh := writeHead_ok D hD (by omega) (by omega) L ⟨0, 0, -1, b⟩ (by simp only; omega) h1 h2
    obtain ⟨W, hW⟩ : ∃ W, W = whS D L ⟨0, 0, -1, b⟩ := ⟨_, rfl⟩
    rw [← hW] at hwh
    have hk := whS_bs D L ⟨0, 0, -1, b⟩
    rw [← hW] at hk
    obtain ⟨hk1, hk2, hk3, hk4⟩ := hk
    refine call_d [0, 1, 2, 3, 4] (fun k => k == 6) [3, 4] hwh rfl rfl ⟨?_, ?_⟩ hho ?_ (by simp [livH, livO, AV.livL, AV.liv, wkL, wkV, List.range']) (by simp [livH, livO, AV.livL, AV.liv, wkL, wkV, List.range', batchA_liv]) (by simp [hst]) (by decide) (by decide) ?_ (by simp [logO, devAt]) ?_
    · simp [headA]
    · simp [hL1, logB, batR, hdn']
    · intro i q h
      match i, h with
      | 0, _ => exact .inl rfl
      | 1, _ => exact .inl rfl
      | 2, _ => exact .inl rfl
      | 3, h => simp at h; exact .inr (by simp [h])
      | 4, h => simp at h; exact .inr (by simp [h])
      | i + 5, h => simp at h
    · simp [maxLen]; omega
    by_cases hw0 : W.1 = 0
    · have hA : resS D L b = (0, W.2.1, { W.2.2 with at_ := 0, bs := [] }) := by unfold resS; rw [if_neg hdn, if_neg hbig, ← hW, if_neg (by rw [hw0]; decide)]
      rw [hA, hw0]
      simp (maxSteps := 1000000) [hho, hL1, logB, batR, ownR, -List.reduceReplicate]
      refine Ret.wk (fun E hE => wk_virtC 0 7 33 1 rfl rfl) ?_
      refine Ret.sel [0, 1, 2, 3, 7, 5] (fun _ => false) (ho := by rfl) (ha := by rfl) ?_ ?_ (by decide) (by simp) (by intro i _ h; simp at h; rcases h with rfl | rfl | rfl | rfl <;> rfl) ⟨rfl, ?_⟩
      · simp
      · simp
      · simp [batchA]
    · have hA : resS D L b = (W.1, W.2.1, { W.2.2 with down := decide (W.1 ≠ 70) }) := by unfold resS; rw [if_neg hdn, if_neg hbig, ← hW, if_pos hw0]
      rw [hA]
      simp (maxSteps := 1000000) [hho, hw0, hL1, logB, batR, ownR, hk2, hdn', -List.reduceReplicate]
      refine Ret.sel [0, 1, 2, 3, 4, 5] (fun _ => false) (ho := by rfl) (ha := by rfl) ?_ ?_ (by decide) (by simp) (by intro i _ h; simp at h; rcases h with rfl | rfl | rfl | rfl <;> rfl) ⟨rfl, ?_⟩
      · simp
      · simp
      · simp
end Go.Proofs.Ytmgpiminicgbiaa
