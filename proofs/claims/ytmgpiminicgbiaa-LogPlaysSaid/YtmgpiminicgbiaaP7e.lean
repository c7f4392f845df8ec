import Derived.Test.YtmgpiminicgbiaaP7d
namespace Go.Proofs.Ytmgpiminicgbiaa
set_option linter.unusedVariables false
set_option linter.unusedSimpArgs false
open Go.RowKit
attribute [local simp] isCut_nil isCut_region isCut_seq isCut_block isCut_loop isCut_cond isCut_skip isCut_exit isCut_ret isCut_range swapK putK altK condK_bool pickP_bool stepP stepO onPure_some onPure_none onImpl_some onImpl_none stepC onGP_some onGP_none onGV_some condG mkG onIt_it nextP_ptr takeP_eq takeV_some takeV_none takeU_some takeU_none takeQ takeW_some takeN_none takeN_some takeG_some takeO_some altO_some pureV binV2 eqF eqOp ovlV ovl2 rowAt capV binV intBin strBin isSh shV fldV ixV sliceV slice3V loadAV nilV lenV callV unV convV viewS cellsH loadV fldCut AV.ung AV.ungs AV.gc AV.cells AS.ev AS.put anyS gcsV gcO lens lnO gV guardV retK RetP_eq resV oneV anyRo loIx hiIx implO callP_clo evL gcsL clearV storeAV AS.push AS.setO appV appZ shortS copyV buildV partsV fillV srcV fzO okV isCell_c isCell_ptr isCell_sl isCell_fs isCell_fp isCell_clo rowZ_one rowZ_zero rowZ_2 rowZ_3 rowZ_4 rowZ_5 rowZ_6 rowZ_7 rowZ_8 rowZ_9 rowZ_10 rowZ_11 rowZ_12 noHo Value.oneCell' max2V min2V lookV updV updK updW cvals mkAt basV lenM msAt afterH putBack frzFrom frzO rebO backIx nilEq_sl nilEq_fs nilEq_ifn nilEq_ifh ifOp_eql ifOp_neq isLit nilOp_eql nilOp_neq AV.reb AV.rebL
attribute [local simp ↓] runK_skip runK_region runK_draw runK_seq runK_cut runK_cond runK_block runK_loop runK_exit runK_label runK_goto runK_ret runK_range contK_nil contK_seq contK_seq_ret contK_seq_exit contK_seq_goto contK_block contK_block_ret contK_block_goto contK_block_exit runO_nil runO_cons roundK_exit roundK_ret roundK_goto exitK_ret cutK_ret cutK_exit runE_done runE_nil runE_take runE_alt condG_true condG_false
set_option maxRecDepth 10000
/-! ## The reference's Reset and Append -/
set_option maxHeartbeats 8000000 in
theorem reset7 (D : DevS) (hD : D.Ok) (hcl : D.calls ≤ 50000) (hwl : D.wait.length ≤ 50000) (L : LogS) (b : List UInt8) (h1 : 0 ≤ L.h.n ∧ L.h.n < 9000000000000000000) (h2 : 0 ≤ L.h.epoch ∧ L.h.epoch ≤ 4294967296) :
    ACalls Try.prog 24 [.ptr 0 0 9, .c (.string (str b))] (rlogO D L) (fun k => decide (k < 3)) (fun r h' => r = .c (.int .i64 (resS D L b).1) ∧ h' = rlogO (resS D L b).2.1 (resS D L b).2.2) := by
  refine acalls mixed Try.func24 rfl Try.ntmps24 rfl fun E hE hst hho => ?_
  by_cases hdn : L.down = true
  · have hA : resS D L b = (60, D, L) := by unfold resS; rw [if_pos hdn]
    rw [hA]
    simp (maxSteps := 1000000) [hho, noHo, hdn, rlogO, rlogB, rstR, refAt, -List.reduceReplicate]
    refine Ret.sel [0, 1, 2, 3, 4] (fun _ => false) (ho := by rfl) (ha := by rfl) ?_ ?_ (by decide) (by simp) (st_pre 3 [3, 4] _) ⟨rfl, ?_⟩
    · simp
    · simp
    · simp [hdn]
  have hdn' : L.down = false := by simpa using hdn
  by_cases hbig : 32 < b.length
  · have hA : resS D L b = (2, D, L) := by unfold resS; rw [if_neg hdn, if_pos hbig]
    have hbi : (32 : Int) < b.length := by omega
    rw [hA]
    simp (maxSteps := 1000000) [hho, noHo, hdn', hbig, hbi, rlogO, rlogB, rstR, refAt, -List.reduceReplicate]
    refine Ret.sel [0, 1, 2, 3, 4] (fun _ => false) (ho := by rfl) (ha := by rfl) ?_ ?_ (by decide) (by simp) (st_pre 3 [3, 4] _) ⟨rfl, ?_⟩
    · simp
    · simp
    · simp [hdn']
  have hbi : ¬ (32 : Int) < b.length := by omega
  have hwh := next7 D hD (by omega) (by omega) L ⟨0, 0, -1, b⟩ (by simp only; omega) h1 h2 (by simp only; omega)
  obtain ⟨W, hW⟩ : ∃ W, W = whS D L ⟨0, 0, -1, b⟩ := ⟨_, rfl⟩
  rw [← hW] at hwh
  have hk := whS_bs D L ⟨0, 0, -1, b⟩
  rw [← hW] at hk
  obtain ⟨hk1, hk2, hk3, hk4⟩ := hk
  simp (maxSteps := 1000000) [hho, noHo, hdn', hbig, hbi, rlogO, rlogB, rstR, refAt, -List.reduceReplicate]
  refine call_d [0, 1, 2, 3, 4] (fun _ => false) [3, 4] hwh rfl rfl ⟨?_, ?_⟩ hho (st_log3 0 1 2 3 4) (by simp [livH, livO, AV.livL, AV.liv, wkL, wkV, List.range']) (by simp [livH, livO, AV.livL, AV.liv, wkL, wkV, List.range', strA_liv, refK_liv, refW_liv]) (by simp [hst]) (by decide) (by decide) (by simp) (by simp [rlogO, refAt]) ?_
  · rfl
  · simp [rlogO, rlogB, rstR, refAt, hdn']
  by_cases hw0 : W.1 = 0
  · have hA : resS D L b = (0, W.2.1, { W.2.2 with at_ := 0, bs := [] }) := by unfold resS; rw [if_neg hdn, if_neg hbig, ← hW, if_neg (by rw [hw0]; decide)]
    rw [hA, hw0]
    simp (maxSteps := 1000000) [hho, noHo, rlogO, rlogB, rstR, refAt, -List.reduceReplicate]
    refine Ret.wk (fun E hE => wk_virtC 0 6 9 1 rfl rfl) ?_
    refine Ret.sel [0, 1, 2, 3, 5] (fun _ => false) (ho := by rfl) (ha := by rfl) ?_ ?_ (by decide) (by simp) (st_pre 3 [3, 5] _) ⟨rfl, ?_⟩
    · simp
    · simp
    · simp [strA]
  · have hA : resS D L b = (W.1, W.2.1, { W.2.2 with down := decide (W.1 ≠ 70) }) := by unfold resS; rw [if_neg hdn, if_neg hbig, ← hW, if_pos hw0]
    rw [hA]
    simp (maxSteps := 1000000) [hho, noHo, hw0, rlogO, rlogB, rstR, refAt, -List.reduceReplicate]
    refine Ret.sel [0, 1, 2, 3, 4] (fun _ => false) (ho := by rfl) (ha := by rfl) ?_ ?_ (by decide) (by simp) (st_pre 3 [3, 4] _) ⟨rfl, ?_⟩
    · simp
    · simp
    · simp
/-! ### Appending -/
def mN (b : List UInt8) : Nat := if b.length = 0 then 1 else chunkN b
def fsR (L : LogS) (b : List UInt8) (m : Nat) : List FrameS := (List.range m).map fun (j : Nat) => ⟨L.h.epoch, L.at_ + (j : Int), decide (j + 1 = m), chunkB b j⟩
theorem mN_pos (b : List UInt8) : 1 ≤ mN b := by unfold mN chunkN; split <;> omega
theorem mN_of (b : List UInt8) (j : Nat) (h1 : b.length ≤ 46 * j + 46) (h2 : j = 0 ∨ 46 * j < b.length) : mN b = j + 1 := by unfold mN chunkN; split <;> omega
theorem framesOf_chunkF (L : LogS) (b : List UInt8) : framesOf L b = chunkF L b (mN b) := by
  unfold framesOf mN
  split
  · rename_i h
    have := List.length_eq_zero_iff.1 h
    subst this
    simp [chunkF, chunkB]
  · rfl
theorem mark_fsR (L : LogS) (b : List UInt8) : markL (framesOf L b) = fsR L b (mN b) ∧ (framesOf L b).length = mN b := by
  rw [framesOf_chunkF]
  have := mN_pos b
  obtain ⟨m, hm⟩ : ∃ m, mN b = m + 1 := ⟨mN b - 1, by omega⟩
  rw [hm]
  refine ⟨?_, by simp⟩
  have e : chunkF L b (m + 1) = chunkF L b m ++ [⟨L.h.epoch, L.at_ + (m : Int), false, chunkB b m⟩] := by simp [chunkF, List.range_succ]
  rw [e]
  unfold markL fsR
  rw [List.getLast?_concat]
  simp only [List.dropLast_concat, List.range_succ, List.map_append, List.map_cons, List.map_nil, decide_true]
  congr 1
  unfold chunkF
  apply List.map_congr_left
  intro j hj
  have hj := List.mem_range.1 hj
  have : decide (j + 1 = m + 1) = false := decide_eq_false (by omega)
  rw [this]
def partsR (b : List UInt8) (n : Nat) : List (List UInt8) := (List.range n).map (chunkB b)
@[simp] theorem partsR_length (b : List UInt8) (n : Nat) : (partsR b n).length = n := by simp [partsR]
theorem partsR_succ (b : List UInt8) (n : Nat) : strA (partsR b (n + 1)) = strA (partsR b n) ++ [.c (.string (str (chunkB b n)))] := by
  rw [← strA_snoc]; simp [partsR, List.range_succ]
set_option maxHeartbeats 8000000 in
theorem append7 (D : DevS) (hD : D.Ok) (hcl : D.calls ≤ 50000) (hwl : D.wait.length ≤ 50000) (L : LogS) (b : List UInt8) (hb : b.length ≤ maxLen) (he : 0 ≤ L.h.epoch ∧ L.h.epoch ≤ 4294967296) (hfr : 0 ≤ L.frames ∧ L.frames ≤ 100000) (hat : 0 ≤ L.at_ ∧ L.at_ ≤ L.frames) (hbl : L.bs.length ≤ 100000) :
    ACalls Try.prog 23 [.ptr 0 0 9, .c (.string (str b))] (rlogO D L) (fun k => decide (k < 3)) (fun r h' => r = .c (.int .i64 (appS D L b).1) ∧ h' = rlogO (appS D L b).2.1 (appS D L b).2.2) := by
  refine acalls mixed Try.func23 rfl Try.ntmps23 rfl fun E hE hst hho => ?_
  by_cases hdn : L.down = true
  · have hA : appS D L b = (60, D, L) := by unfold appS; rw [if_pos hdn]
    rw [hA]
    simp (maxSteps := 1000000) [hho, noHo, hdn, rlogO, rlogB, rstR, refAt, -List.reduceReplicate]
    refine Ret.sel [0, 1, 2, 3, 4] (fun _ => false) (ho := by rfl) (ha := by rfl) ?_ ?_ (by decide) (by simp) (st_pre 3 [3, 4] _) ⟨rfl, ?_⟩
    · simp
    · simp
    · simp [hdn]
  have hdn' : L.down = false := by simpa using hdn
  by_cases hbig : 65536 < b.length
  · have hA : appS D L b = (2, D, L) := by unfold appS; rw [if_neg hdn, if_pos hbig]
    have hbi : (65536 : Int) < b.length := by omega
    rw [hA]
    simp (maxSteps := 1000000) [hho, noHo, hdn', hbig, hbi, rlogO, rlogB, rstR, refAt, -List.reduceReplicate]
    refine Ret.sel [0, 1, 2, 3, 4] (fun _ => false) (ho := by rfl) (ha := by rfl) ?_ ?_ (by decide) (by simp) (st_pre 3 [3, 4] _) ⟨rfl, ?_⟩
    · simp
    · simp
    · simp [hdn']
  have hbi : ¬ (65536 : Int) < b.length := by omega
  obtain ⟨hmf, hml⟩ := mark_fsR L b
  simp (maxSteps := 1000000) [hho, noHo, hdn', hbig, hbi, rlogO, rlogB, rstR, refAt, -List.reduceReplicate]
  refine loop_k mixed (fun j : Nat => ⟨slotsOf 121 [(0, .ptr 0 0 9), (1, .c (.string (str b))), (5, .sl 5 1 0 j j), (6, .c (.string (str (b.drop (46 * j)))))], rlogO D L ++ [rstR (partsR b j)]⟩) (fun j => b.length - 46 * j) (fun j => 46 * j ≤ b.length ∧ (j = 0 ∨ 46 * j < b.length)) 0 ⟨by omega, .inl rfl⟩ ?_ ?_
  · refine Wk.trans (wk_virt 5 9 1 rfl) ?_
    exact wk_all (by simp [hE, rlogO, refAt, lens]) (by simp [rlogO, rlogB, rstR, refAt, partsR, strA, hdn']) (by simp [livH, livO, AV.livL, AV.liv, wkL, wkV, List.range', slotsOf])
  · rintro j ⟨hj, hj0⟩
    by_cases hjl : 46 * j + 46 < b.length
    · have hdl : (46 : Int) < (b.length - 46 * j : Nat) := by omega
      have hdn2 : 46 < b.length - 46 * j := by omega
      have hd46 : 46 ≤ b.length - 46 * j := by omega
      have hdi : (46 : Int) ≤ (b.length - 46 * j : Nat) := by omega
      have er : List.drop 46 (List.take (b.length - 46 * j) (List.drop (46 * j) b)) = List.drop (46 * (j + 1)) b := by
        rw [List.take_of_length_le (by simp), List.drop_drop]; congr 1
      have ec : List.take 46 (List.drop (46 * j) b) = chunkB b j := rfl
      simp (maxSteps := 1000000) [hho, noHo, rlogO, rlogB, rstR, refAt, slotsOf, hdl, hdn2, hd46, hdi, str_ext, er, ec, -List.reduceReplicate]
      refine ⟨by omega, ?_⟩
      refine round_next (j + 1) ⟨by omega, .inr (by omega)⟩ (by omega) ?_
      exact wk_of 6 1 (by simp) (by simp [hE, rlogO, refAt, lens]) (by simp [partsR_succ]) (by simp [livH, livO, AV.livL, AV.liv, wkL, wkV, List.range', strA_liv, refK_liv, refW_liv]) (by simp [livH, livO, AV.livL, AV.liv, wkL, wkV, List.range', slotsOf])
    · have hdl : ¬ (46 : Int) < (b.length - 46 * j : Nat) := by omega
      have hdn2 : ¬ 46 < b.length - 46 * j := by omega
      have hm : mN b = j + 1 := mN_of b j (by omega) hj0
      have ec : List.drop (46 * j) b = chunkB b j := by unfold chunkB; rw [List.take_of_length_le (by simp; omega)]
      have er : roomL L = L.frames - L.at_ := by unfold roomL; rw [if_neg hdn]
      have erw : IntKind.i64.wrap (L.frames - L.at_) = L.frames - L.at_ := IntWalk.i64_in _ (by omega)
      have eji : IntKind.i64.wrap ((j : Int) + 1) = (j : Int) + 1 := IntWalk.i64_in _ (by omega)
      simp (maxSteps := 1000000) [hho, noHo, rlogO, rlogB, rstR, refAt, slotsOf, hdl, hdn2, eji, -List.reduceReplicate]
      simp only [ec]
      rw [← partsR_succ]
      refine ⟨by omega, ?_⟩
      refine draw_k hho (.take 0 (.take 1 (.take 2 (.take 3 (.take 4 (.take 5 (.take 6 (.take 7 (.take 8 (.take 9 (.take 10 (.take 11 (.done))))))))))))) [0] [] (by decide +kernel) (by simp) ?_
      simp (maxSteps := 1000000) [hho, noHo, erw, roOf, holdOf, wrOf, altK, heldOk, Region.binds, -List.reduceReplicate]
      obtain ⟨m, hjm⟩ : ∃ m, m = j + 1 := ⟨_, rfl⟩
      have emi : (j : Int) + 1 = (m : Int) := by omega
      rw [← hjm] at hm
      simp only [emi, ← hjm]
      by_cases hroom : L.frames - L.at_ < m
      · have hA : appS D L b = (70, D, L) := by unfold appS; rw [if_neg hdn, if_neg hbig, er, hml, hm, if_pos hroom]
        rw [if_pos hroom, hA]
        refine Ret.sel [0, 1, 2, 3, 4] (fun _ => false) (ho := by rfl) (ha := by rfl) ?_ ?_ (by decide) (by simp) (st_pre 3 [3, 4] _) ⟨rfl, ?_⟩
        · simp
        · simp
        · rfl
      rw [if_neg hroom]
      have hA : appS D L b = if (layS D (fsR L b m)).1 ≠ 0 then ((layS D (fsR L b m)).1, (layS D (fsR L b m)).2, { L with down := true }) else (0, (layS D (fsR L b m)).2, { L with at_ := L.at_ + (m : Int), bs := L.bs ++ [b] }) := by
        unfold appS; rw [if_neg hdn, if_neg hbig, er, hml, hm, if_neg hroom, hmf, hm]
      obtain ⟨A, hAA⟩ : ∃ A, A = appS D L b := ⟨_, rfl⟩
      rw [← hAA] at hA ⊢
      have hfl : (fsR L b m).length = m := by simp [fsR]
      refine loop_k mixed (fun x : Nat × DevS => ⟨slotsOf 121 [(0, .ptr 0 0 9), (1, .c (.string (str b))), (5, .sl 5 1 0 m m), (45, .sl 5 1 0 m m), (46, .c (.int .i64 m)), (47, .c (.int .i64 (x.1 : Int)))], rlogO x.2 L ++ [rstR (partsR b m)]⟩) (fun x => m - x.1) (fun x => x.1 ≤ m ∧ layS D (fsR L b m) = layS x.2 ((fsR L b m).drop x.1) ∧ x.2.Ok ∧ x.2.calls ≤ 50000 + x.1 ∧ x.2.wait.length ≤ 50000 + x.1) (0, D) ⟨Nat.zero_le _, rfl, hD, by simpa using hcl, by simpa using hwl⟩ ?_ ?_
      · exact wk_of 6 1 (by simp) (by simp [hE, rlogO, refAt, lens]) (by simp [rlogO, rlogB, rstR, refAt]) (by simp [livH, livO, AV.livL, AV.liv, wkL, wkV, List.range', rlogO, rlogB, rstR, refAt, strA_liv, refK_liv, refW_liv]) (by simp [livH, livO, AV.livL, AV.liv, wkL, wkV, List.range', slotsOf])
      · rintro ⟨i, D1⟩ ⟨hi, hI, hD1, hc1, hw1⟩
        simp only at hi hI hD1 hc1 hw1
        by_cases him : i < m
        · obtain ⟨f, hf⟩ : ∃ f : FrameS, f = ⟨L.h.epoch, L.at_ + (i : Int), decide ((i : Int) = (m : Int) - 1), chunkB b i⟩ := ⟨_, rfl⟩
          have hfi : (fsR L b m)[i]'(by omega) = f := by
            have : decide (i + 1 = m) = decide ((i : Int) = (m : Int) - 1) := decide_eq_decide.2 (by omega)
            rw [hf]; simp only [fsR, List.getElem_map, List.getElem_range, this]
          rw [List.drop_eq_getElem_cons (by omega), hfi, layS] at hI
          have e2 : IntKind.i64.wrap (2 + L.at_) = 2 + L.at_ := IntWalk.i64_in _ (by omega)
          have e3 : IntKind.i64.wrap (2 + L.at_ + (i : Int)) = 2 + L.at_ + i := IntWalk.i64_in _ (by omega)
          have e4 : IntKind.i64.wrap (L.at_ + (i : Int)) = L.at_ + i := IntWalk.i64_in _ (by omega)
          have e5 : IntKind.i64.wrap ((m : Int) - 1) = (m : Int) - 1 := IntWalk.i64_in _ (by omega)
          have hpg : (strA (partsR b m))[i]'(by simp; omega) = .c (.string (str (chunkB b i))) := by simp [strA, partsR]
          have him1 : i + 1 ≤ m := him
          have ei : IntKind.i64.wrap ((i : Int) + 1) = (i + 1 : Nat) := by rw [IntWalk.i64_in _ (by omega)]; rfl
          simp (maxSteps := 1000000) [hho, noHo, rlogO, rlogB, rstR, refAt, slotsOf, him, him1, hpg, ei, -List.reduceReplicate]
          refine draw_k hho (.take 0 (.take 1 (.take 2 (.take 3 (.take 4 (.take 5 (.take 6 (.take 7 (.take 8 (.take 9 (.take 10 (.take 11 (.take 12 (.take 13 (.take 14 (.take 15 (.take 16 (.take 17 (.take 18 (.take 19 (.take 20 (.take 21 (.take 22 (.take 23 (.take 24 (.take 25 (.take 26 (.take 27 (.alt 28 (.alt 29 (.take 30 (.done)) (.nil)) (.nil)))))))))))))))))))))))))))))) [0] [] (by decide +kernel) (by simp) ?_
          simp (maxSteps := 1000000) [hho, noHo, e2, e3, e4, e5, roOf, holdOf, wrOf, altK, heldOk, Region.binds, -List.reduceReplicate]
          intro E1
          have hfr7 := frame7 f (by rw [hf]; simp only; omega) (by rw [hf]; simp only; omega) (by rw [hf]; simp [chunkB]; omega)
          have hk : 2 + f.k = 2 + L.at_ + i := by rw [hf]; simp only; omega
          have hgl := frameL_length f
          rw [hk] at hI
          refine call_h [] hfr7 rfl rfl ⟨by rw [hf], rfl⟩ (by simp) (by simp) (by decide) (by simp) (by simp) ?_
          simp (maxSteps := 1000000) [hho, noHo, roOf, holdOf, wrOf, altK, heldOk, Region.binds, -List.reduceReplicate]
          intro E2
          by_cases hc : checkS D1 (2 + L.at_ + i) 64 = 0
          · have hws := wr7 D1 hD1 (2 + L.at_ + i) (frameL f) (by omega) (by rw [hgl]; exact hc)
            have hD2 : (writeS D1 (2 + L.at_ + i) (frameL f)).Ok := write_Ok hD1 (by omega) (by omega)
            have hcw : (writeS D1 (2 + L.at_ + i) (frameL f)).calls ≤ D1.calls + 1 ∧ (writeS D1 (2 + L.at_ + i) (frameL f)).wait.length ≤ D1.wait.length + 1 := by
              unfold writeS; split <;> simp [countS] <;> omega
            have hDk : (writeS D1 (2 + L.at_ + i) (frameL f)).kept = D1.kept := writeS_kept _ _ _
            rw [if_neg (by rw [hc]; decide)] at hI
            obtain ⟨D2, e2⟩ : ∃ D2, D2 = writeS D1 (2 + L.at_ + i) (frameL f) := ⟨_, rfl⟩
            rw [← e2] at hI hD2 hcw hDk hws
            refine call_h [1, 2, 3] hws rfl rfl ⟨rfl, rfl⟩ (by simp) (by intro i h; simp at h ⊢; omega) (by decide) (by simp) (by simp [refV]) ?_
            simp (maxSteps := 1000000) [hho, noHo, refV, ei, roOf, holdOf, wrOf, altK, heldOk, Region.binds, -List.reduceReplicate]
            refine round_next (i + 1, D2) ⟨by simp only; omega, hI, hD2, by simp only; omega, by simp only; omega⟩ (by simp only; omega) ?_
            refine wk_sel [0, 1, 2, 6, 4, 5] (slotsOf 121 [(0, .ptr 0 0 9), (1, .c (.string (str b))), (5, .sl 5 1 0 m m), (45, .sl 5 1 0 m m), (46, .c (.int .i64 m)), (47, .c (.int .i64 ((i + 1 : Nat) : Int)))]) hho (by simp [livH, livO, AV.livL, AV.liv, wkL, wkV, List.range', slotsOf]) rfl rfl ?_ ?_ (by decide) (st_3 hst) (by simp [hE, rlogO, refAt, lens]) ?_ ?_
            · simp
            · simp [slotsOf]
            · simp [slotsOf]
            · simp [rlogO, rlogB, rstR, refAt, hDk]
          · have hws := wr7e D1 hD1 (2 + L.at_ + i) (frameL f) (by rw [hgl]; exact hc)
            rw [hgl] at hws
            rw [if_pos hc] at hI
            rw [hI] at hA
            simp only [hc, ne_eq, not_false_eq_true, if_true] at hA
            refine call_h [1, 2, 3] hws rfl rfl ⟨rfl, rfl⟩ (by simp) (by simp) (by decide) (by simp) (by simp [refO]) ?_
            simp (maxSteps := 1000000) [hho, noHo, refO, hc, roOf, holdOf, wrOf, altK, heldOk, Region.binds, -List.reduceReplicate]
            rw [hA]
            refine Ret.sel [0, 1, 2, 3, 4] (fun _ => false) (ho := by rfl) (ha := by rfl) ?_ ?_ (by decide) (by simp) (st_pre 3 [3, 4] _) ⟨rfl, ?_⟩
            · simp
            · simp
            · rfl
        · obtain rfl : i = m := by omega
          rw [List.drop_eq_nil_of_le (by omega), layS] at hI
          rw [hI] at hA
          simp (maxSteps := 1000000) [hho, noHo, rlogO, rlogB, rstR, refAt, slotsOf, -List.reduceReplicate]
          refine call_d [1, 2, 3] (fun _ => false) [3] (r6flush_ref D1 hD1) rfl rfl ⟨rfl, rfl⟩ hho (st_dev2 1 2 3) (by simp [livH, livO, AV.livL, AV.liv, wkL, wkV, List.range']) (by simp [livH, livO, AV.livL, AV.liv, wkL, wkV, List.range', strA_liv, refK_liv, refW_liv]) (by simp [hst]) (by decide) (by decide) (by simp) (by simp [refO]) ?_
          by_cases hc : checkS D1 0 0 = 0
          · simp only [hc, ne_eq, not_true_eq_false, if_false] at hA
            have ewm : IntKind.i64.wrap (L.at_ + (i : Int)) = L.at_ + i := IntWalk.i64_in _ (by omega)
            simp (maxSteps := 1000000) [hho, noHo, refO, hc, ewm, -List.reduceReplicate]
            rw [hA]
            refine ⟨⟨by omega, fun x hx => (strA_cell _).2 trivial x (List.mem_of_mem_take hx)⟩, by omega, ?_⟩
            rw [List.take_of_length_le (by simp)]
            refine Ret.sel [0, 1, 2, 3, 6] (fun _ => false) (ho := by rfl) (ha := by rfl) ?_ ?_ (by decide) (by simp) (st_pre 3 [3, 6] _) ⟨rfl, ?_⟩
            · simp
            · simp
            · simp [strA_snoc]
          · simp only [hc, ne_eq, not_false_eq_true, if_true] at hA
            simp (maxSteps := 1000000) [hho, noHo, refO, hc, -List.reduceReplicate]
            rw [hA]
            refine Ret.sel [0, 1, 2, 3, 4] (fun _ => false) (ho := by rfl) (ha := by rfl) ?_ ?_ (by decide) (by simp) (st_pre 3 [3, 4] _) ⟨rfl, ?_⟩
            · simp
            · simp
            · rfl
end Go.Proofs.Ytmgpiminicgbiaa
