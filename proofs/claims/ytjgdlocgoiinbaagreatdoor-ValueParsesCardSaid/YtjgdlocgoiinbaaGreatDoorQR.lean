import Derived.Test.YtjgdlocgoiinbaaGreatDoorQQ
namespace Go.Proofs.YtjgdlocgoiinbaaGreatDoor
set_option linter.unusedVariables false
set_option linter.unusedSimpArgs false
open Go.RowKit Go.Lib
attribute [local simp] isCut_nil isCut_region isCut_seq isCut_block isCut_loop isCut_cond isCut_skip isCut_exit isCut_ret isCut_range swapK putK altK condK_bool pickP_bool stepP stepO onPure_some onPure_none onImpl_some onImpl_none stepC onGP_some onGP_none onGV_some condG mkG onIt_it nextP_ptr takeP_eq takeV_some takeV_none takeU_some takeU_none takeQ takeW_some takeN_none takeN_some takeG_some takeO_some altO_some pureV binV2 eqF eqOp ovlV ovl2 rowAt capV binV intBin strBin isSh shV fldV ixV sliceV slice3V loadAV nilV lenV callV unV convV viewS cellsH loadV fldCut AV.ung AV.ungs AV.gc AV.cells AS.ev AS.put anyS gcsV gcO lens lnO gV guardV retK RetP_eq resV oneV anyRo loIx hiIx implO callP_clo evL gcsL clearV storeAV AS.push AS.setO appV appZ shortS copyV buildV partsV fillV srcV fzO okV isCell_c isCell_ptr isCell_sl isCell_fs isCell_fp isCell_clo rowZ_one rowZ_zero rowZ_2 rowZ_3 rowZ_4 rowZ_5 rowZ_6 rowZ_7 rowZ_8 rowZ_9 rowZ_10 rowZ_11 rowZ_12 noHo Value.oneCell' max2V min2V lookV updV lenM msAt afterH putBack frzFrom frzO rebO backIx nilEq_sl nilEq_fs nilEq_ifn nilEq_ifh ifOp_eql ifOp_neq isLit nilOp_eql nilOp_neq AV.reb AV.rebL
attribute [local simp ↓] runK_skip runK_region runK_draw runK_seq runK_cut runK_cond runK_block runK_loop runK_exit runK_label runK_goto runK_ret runK_range contK_nil contK_seq contK_seq_ret contK_seq_exit contK_seq_goto contK_block contK_block_ret contK_block_goto contK_block_exit runO_nil runO_cons roundK_exit roundK_ret roundK_goto exitK_ret cutK_ret cutK_exit runE_done runE_nil runE_take runE_alt condG_true condG_false
set_option maxRecDepth 10000
/-! ## The document's Print of a decimal -/
set_option maxHeartbeats 4000000 in
theorem r2Print_w (n k : Int) (hn : -9223372036854775808 ≤ n ∧ n ≤ 9223372036854775807) (hk : scaleOk k = true) : ACalls Tryz.prog 59 [.c (.int .i64 n), .c (.int .i64 k)] [] (fun _ => false) (fun r h' => r = .c (.string (baL (printD n k.toNat))) ∧ h' = []) := by
  refine acalls mixed Tryz.func59 rfl Tryz.ntmps59 rfl fun E hE hst hho => ?_
  have c1 := scale_ref k
  rw [hk] at c1
  have c2 := r2Digits_w n hn
  have kb := scale_le hk
  obtain ⟨q, rfl⟩ : ∃ q : Nat, k = (q : Int) := ⟨k.toNat, by omega⟩
  rw [Int.toNat_natCast]
  obtain ⟨R, hR⟩ : ∃ R, R = baL (printD n q) := ⟨_, rfl⟩
  rw [← hR]
  obtain ⟨D, hD⟩ : ∃ D, D = decDigits n.natAbs := ⟨_, rfl⟩
  have hDl : D.length ≤ 20 := by rw [hD]; exact Nat.le_trans (decDigits_len (k := 19) (by omega)) (by omega)
  have hD1 : 1 ≤ D.length := by
    have := decDigits_ne n.natAbs
    rw [← hD] at this
    exact List.length_pos_iff.2 this
  rw [← hD] at c2
  simp (maxSteps := 1000000) [hho, noHo, -List.reduceReplicate]
  refine call_x [] (c1) rfl rfl ⟨rfl, rfl⟩ hho (by simp) (by decide) (by simp) (by simp) ?_
  simp (maxSteps := 1000000) [hho, noHo, undef, onGP_none, condG_false, -List.reduceReplicate]
  refine call_x [] (c2) rfl rfl ⟨rfl, rfl⟩ hho (by simp) (by decide) (by simp) (by simp) ?_
  simp (maxSteps := 1000000) [hho, noHo, -List.reduceReplicate]
  refine loop_k mixed (fun j : Nat => ⟨slotsOf 38 [(0, .c (.int .i64 n)), (1, .c (.int .i64 (q : Nat))), (5, .c (.string (baL (List.replicate j 48 ++ D))))], []⟩) (fun j => q + 1 - (j + D.length)) (fun j => j ≤ q + 1 - D.length) 0 (Nat.zero_le _) ?_ ?_
  · exact wk_eq (by simp [hE, lens]) rfl (by simp [livH, livO, AV.livL, AV.liv, wkL, wkV, List.range', slotsOf])
  rintro j hj
  have hlen : (baL (List.replicate j 48 ++ D)).size = j + D.length := by rw [ba_size]; simp
  by_cases h1 : j + D.length ≤ q
  · have h1i : (j : Int) + D.length ≤ q := by omega
    have hs : (⟨#[48]⟩ : ByteArray) ++ baL (List.replicate j 48 ++ D) = baL (List.replicate (j + 1) 48 ++ D) := by rw [ba_app1]; rfl
    simp (maxSteps := 1000000) [hho, noHo, slotsOf, hlen, h1, h1i, hs, undef, onGP_none, condG_false, -List.reduceReplicate]
    refine ⟨by omega, ?_⟩
    refine round_next (j + 1) (show j + 1 ≤ q + 1 - D.length by omega) (by show q + 1 - (j + 1 + D.length) < q + 1 - (j + D.length); omega) ?_
    exact wk_of 0 0 (by simp) (by simp [hE, lens]) rfl (by simp [livH, livO, AV.livL, AV.liv, wkL, wkV, List.range']) (by simp [livH, livO, AV.livL, AV.liv, wkL, wkV, List.range', slotsOf])
  have h1i : ¬ (j : Int) + D.length ≤ q := by omega
  have hjj : j = q + 1 - D.length := by omega
  have hpad : List.replicate j 48 ++ D = padD n.natAbs q := by
    unfold padD
    rw [← hD, hjj]
  obtain ⟨P, hP⟩ : ∃ P, P = List.replicate j 48 ++ D := ⟨_, rfl⟩
  rw [← hP] at hpad hlen
  have hPl : P.length = j + D.length := by rw [hP]; simp
  rw [← hPl] at h1 hlen
  have h1i : ¬ (P.length : Int) ≤ q := by omega
  have hPs : (baL P).size = P.length := ba_size P
  have key : ∀ M : List UInt8, printM n.natAbs q = M → R = if n < 0 then baL (45 :: M) else baL M := by
    intro M hM
    rw [hR]
    unfold printD
    rw [hM]
    by_cases h : n < 0
    · simp [h]
    · simp [h]
  have hs1 : ∀ M : List UInt8, (⟨#[45]⟩ : ByteArray) ++ baL M = baL (45 :: M) := fun M => ba_app1 45 M
  by_cases h0 : 0 < q
  · have h0i : (0 : Int) < q := by omega
    have hM : printM n.natAbs q = P.take (P.length - q) ++ 46 :: P.drop (P.length - q) := by
      unfold printM
      rw [if_neg (by omega), ← hpad]
    have ew : IntKind.i64.wrap ((P.length : Int) - q) = ((P.length - q : Nat) : Int) := by rw [IntWalk.i64_in _ (by omega)]; omega
    have x1 : (baL P).extract 0 (P.length - q) = baL (P.take (P.length - q)) := by rw [ba_ext]; simp
    have x2 : (baL P).extract (P.length - q) P.length = baL (P.drop (P.length - q)) := by
      rw [ba_ext, List.take_of_length_le (by simp)]
    have x3 : baL (P.take (P.length - q)) ++ (⟨#[46]⟩ : ByteArray) ++ baL (P.drop (P.length - q)) = baL (printM n.natAbs q) := by
      rw [ba_app2, ba_app, hM]; simp
    rw [key _ rfl]
    by_cases hneg : n < 0
    · simp (maxSteps := 1000000) [hho, noHo, slotsOf, hlen, h1, h1i, ← hP, h0, h0i, -List.reduceReplicate]
      refine draw_k hho (.take 0 (.take 1 (.take 2 (.take 3 (.take 4 (.take 5 (.take 6 (.take 7 (.take 8 (.take 9 (.take 10 (.take 11 (.take 12 (.take 13 (.take 14 (.done)))))))))))))))) [] [] (by decide +kernel) (by simp) ?_
      simp (maxSteps := 1000000) [hho, noHo, hlen, ew, x1, x2, x3, hneg, roOf, holdOf, wrOf, altK, heldOk, Region.binds, -List.reduceReplicate]
      rw [ba_size, ba_size]
      have hT2 : (P.take (P.length - q)).length ≤ P.length := by simp
      have hT3 : (P.drop (P.length - q)).length ≤ P.length := by simp
      rw [hs1, ba_size, hM, List.length_append, List.length_cons]
      exact ⟨by omega, by omega, by omega, Ret.drop (by rfl) ⟨rfl, rfl⟩⟩
    · simp (maxSteps := 1000000) [hho, noHo, slotsOf, hlen, h1, h1i, ← hP, h0, h0i, -List.reduceReplicate]
      refine draw_k hho (.take 0 (.take 1 (.take 2 (.take 3 (.take 4 (.take 5 (.take 6 (.take 7 (.take 8 (.take 9 (.take 10 (.take 11 (.take 12 (.take 13 (.take 14 (.done)))))))))))))))) [] [] (by decide +kernel) (by simp) ?_
      simp (maxSteps := 1000000) [hho, noHo, hlen, ew, x1, x2, x3, hneg, roOf, holdOf, wrOf, altK, heldOk, Region.binds, -List.reduceReplicate]
      rw [ba_size, ba_size]
      have hT2 : (P.take (P.length - q)).length ≤ P.length := by simp
      have hT3 : (P.drop (P.length - q)).length ≤ P.length := by simp
      exact ⟨by omega, by omega, Ret.drop (by rfl) ⟨rfl, rfl⟩⟩
  · have h0i : ¬ (0 : Int) < q := by omega
    have hM : printM n.natAbs q = P := by
      unfold printM
      rw [if_pos (by omega), hpad, show q = 0 by omega]
    rw [key P hM]
    by_cases hneg : n < 0
    · simp (maxSteps := 1000000) [hho, noHo, slotsOf, hlen, h1, h1i, ← hP, h0, h0i, hs1, hneg, undef, onGP_none, condG_false, -List.reduceReplicate]
      exact ⟨by omega, Ret.drop (by rfl) ⟨rfl, rfl⟩⟩
    · simp (maxSteps := 1000000) [hho, noHo, slotsOf, hlen, h1, h1i, ← hP, h0, h0i, hs1, hneg, undef, onGP_none, condG_false, -List.reduceReplicate]
      exact Ret.drop (by rfl) ⟨rfl, rfl⟩
end Go.Proofs.YtjgdlocgoiinbaaGreatDoor
