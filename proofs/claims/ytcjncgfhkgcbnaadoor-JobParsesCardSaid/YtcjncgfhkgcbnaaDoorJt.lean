import Derived.Test.YtcjncgfhkgcbnaaDoorJq
import Derived.Test.YtcjncgfhkgcbnaaDoorTq
import Derived.Test.YtcjncgfhkgcbnaaDoorJd
namespace Go.Proofs.YtcjncgfhkgcbnaaDoor
set_option linter.unusedVariables false
set_option linter.unusedSimpArgs false
open Go.RowKit
attribute [local simp] isCut_nil isCut_region isCut_seq isCut_block isCut_loop isCut_cond isCut_skip isCut_exit isCut_ret isCut_range swapK putK altK condK_bool pickP_bool stepP stepO onPure_some onPure_none onImpl_some onImpl_none stepC onGP_some onGP_none onGV_some condG mkG onIt_it nextP_ptr takeP_eq takeV_some takeV_none takeU_some takeU_none takeQ takeW_some takeN_none takeN_some takeG_some takeO_some altO_some pureV binV2 eqF eqOp ovlV ovl2 rowAt capV binV intBin strBin isSh shV fldV ixV sliceV slice3V loadAV nilV lenV callV unV convV viewS cellsH loadV fldCut AV.ung AV.ungs AV.gc AV.cells AS.ev AS.put anyS gcsV gcO lens lnO gV guardV retK RetP_eq resV oneV anyRo loIx hiIx implO callP_clo evL gcsL clearV storeAV AS.push AS.setO appV appZ shortS copyV buildV partsV fillV srcV fzO okV isCell_c isCell_ptr isCell_sl isCell_fs isCell_fp isCell_clo rowZ_one rowZ_zero rowZ_2 rowZ_3 rowZ_4 rowZ_5 rowZ_6 rowZ_7 rowZ_8 rowZ_9 rowZ_10 rowZ_11 rowZ_12 noHo Value.oneCell' max2V min2V lookV updV lenM msAt afterH putBack frzFrom frzO rebO backIx nilEq_sl nilEq_fs nilOp_eql nilOp_neq AV.reb AV.rebL
attribute [local simp ↓] runK_skip runK_region runK_draw runK_seq runK_cut runK_cond runK_block runK_loop runK_exit runK_label runK_goto runK_ret runK_range contK_nil contK_seq contK_seq_ret contK_seq_exit contK_seq_goto contK_block contK_block_ret contK_block_goto contK_block_exit runO_nil runO_cons roundK_exit roundK_ret roundK_goto exitK_ret cutK_ret cutK_exit runE_done runE_nil runE_take runE_alt condG_true condG_false
set_option maxRecDepth 10000
theorem Kt.cnt {σ R : Type} {S : Sys σ} {t : σ} {M : Int} {K : Int → Bs → Option R} {tot : Option R} (h : Kt S t (bd (sCnt M) K) tot) : Kt S t (bd sNum fun n b => if n < 0 ∨ M < n then none else K n b) tot := by
  have e : bd (sCnt M) K = bd sNum fun n b => if n < 0 ∨ M < n then none else K n b := by
    funext b
    simp only [bd, sCnt, sNum]
    cases rnum b with
    | none => rfl
    | some p =>
      simp only [Option.bind_some]
      split <;> rfl
  rw [e] at h; exact h
theorem Kt.out {σ R : Type} {S : Sys σ} {t : σ} {c : Prop} [Decidable c] {k : Bs → Option R} {tot : Option R} (h : Kt S t (fun b => if c then none else k b) tot) (hc : c) : tot = none := by
  rcases h.2 with ⟨_, e⟩ | ⟨b, _, e⟩
  · exact e
  · exact e.trans (if_pos hc)
theorem Kt.inn {σ R : Type} {S : Sys σ} {t : σ} {c : Prop} [Decidable c] {k : Bs → Option R} {tot : Option R} (h : Kt S t (fun b => if c then none else k b) tot) (hc : ¬ c) : Kt S t k tot := by
  have e : (fun b => if c then none else k b) = k := by funext b; rw [if_neg hc]
  rw [e] at h; exact h
theorem sJC_bd {β : Type} (k : ColS → Bs → Option β) : bd sJC k = bd sText fun name => bd sNum fun kd => bd sNum fun sc => bd sFlag fun nn => bd sDft fun d => k ⟨0, name, ⟨kd, sc⟩, nn, d, 0⟩ := by
  unfold sJC
  simp only [bd_assoc, bd_rt]
set_option maxHeartbeats 64000000 in
theorem r16Parse_w (b : Bs) (hb : b.length ≤ 3000) : ACalls Tryd.prog 13 [.fs 1 b.length (u8av b)] [] (fun _ => false) (fun r h' => r = jobParseA b ∧ h' = []) := by
  refine acalls mixed Tryd.func13 rfl Tryd.ntmps13 rfl fun E hE hst hho => ?_
  unfold jobParseA
  obtain ⟨tot, htot⟩ : ∃ tot, tot = parJob b := ⟨_, rfl⟩
  rw [← htot]
  have k0 : Kt (tSys 3000 4000) (b, false) parJob tot := ⟨⟨hb, by simp [wT]; omega⟩, .inr ⟨b, rfl, htot⟩⟩
  clear htot
  obtain ⟨t0, ht0⟩ : ∃ t : TSt, t = (b, false) := ⟨_, rfl⟩
  have hTC : [AV.fs 1 b.length (u8av b), .c (.bool false)] = tpC t0 := by rw [ht0]; rfl
  rw [← ht0] at k0
  unfold parJob at k0
  have c1 := num_t t0 (Nat.le_trans (show _ ≤ 3000 from k0.1.1) (by omega))
  obtain ⟨k1, o1⟩ := Kt.step (tNum_sim 3000 4000) k0
  obtain ⟨q1, e1⟩ : ∃ q, q = tNum t0 := ⟨_, rfl⟩
  rw [← e1] at c1 k1 o1
  obtain ⟨id, t1⟩ := q1
  simp only at c1 k1 o1
  clear e1
  have c2 := num_t t1 (Nat.le_trans (show _ ≤ 3000 from k1.1.1) (by omega))
  obtain ⟨k2, o2⟩ := Kt.step (tNum_sim 3000 4000) k1
  obtain ⟨q2, e2⟩ : ∃ q, q = tNum t1 := ⟨_, rfl⟩
  rw [← e2] at c2 k2 o2
  obtain ⟨kind, t2⟩ := q2
  simp only at c2 k2 o2
  clear e2
  have c3 := num_t t2 (Nat.le_trans (show _ ≤ 3000 from k2.1.1) (by omega))
  obtain ⟨k3, o3⟩ := Kt.step (tNum_sim 3000 4000) k2
  obtain ⟨q3, e3⟩ : ∃ q, q = tNum t2 := ⟨_, rfl⟩
  rw [← e3] at c3 k3 o3
  obtain ⟨table, t3⟩ := q3
  simp only at c3 k3 o3
  clear e3
  have c4 := text_t t3 (Nat.le_trans (show _ ≤ 3000 from k3.1.1) (by omega))
  obtain ⟨k4, o4⟩ := Kt.step (tText_sim 3000 4000) k3
  obtain ⟨q4, e4⟩ : ∃ q, q = tText t3 := ⟨_, rfl⟩
  rw [← e4] at c4 k4 o4
  obtain ⟨name, t4⟩ := q4
  simp only at c4 k4 o4
  clear e4
  simp only [sMany, bd_assoc] at k4
  replace k4 := k4.cnt
  have c5 := num_t t4 (Nat.le_trans (show _ ≤ 3000 from k4.1.1) (by omega))
  obtain ⟨k5, o5⟩ := Kt.step (tNum_sim 3000 4000) k4
  obtain ⟨q5, e5⟩ : ∃ q, q = tNum t4 := ⟨_, rfl⟩
  rw [← e5] at c5 k5 o5
  obtain ⟨n, t5⟩ := q5
  simp only at c5 k5 o5
  clear e5
  clear ht0
  simp (maxSteps := 1000000) [hho, noHo, -List.reduceReplicate]
  simp only [hTC]
  refine call_x [1] (c1) rfl rfl ⟨rfl, rfl⟩ hho (by simp) (by decide) (by simp) (by simp) ?_
  simp (maxSteps := 1000000) [hho, noHo, -List.reduceReplicate]
  refine call_x [1] (c2) rfl rfl ⟨rfl, rfl⟩ hho (by simp) (by decide) (by simp) (by simp) ?_
  simp (maxSteps := 1000000) [hho, noHo, -List.reduceReplicate]
  refine call_x [1] (c3) rfl rfl ⟨rfl, rfl⟩ hho (by simp) (by decide) (by simp) (by simp) ?_
  simp (maxSteps := 1000000) [hho, noHo, -List.reduceReplicate]
  refine call_x [1] (c4) rfl rfl ⟨rfl, rfl⟩ hho (by simp) (by decide) (by simp) (by simp) ?_
  simp (maxSteps := 1000000) [hho, noHo, -List.reduceReplicate]
  refine call_x [1] (c5) rfl rfl ⟨rfl, rfl⟩ hho (by simp) (by decide) (by simp) (by simp) ?_
  by_cases hneg : n < 0
  · rw [k5.out (.inl hneg)]
    simp (maxSteps := 1000000) [hho, noHo, hneg, undef, onGP_none, condG_false, -List.reduceReplicate]
    exact Ret.nilJ jobZ_nil (Ret.sel [] (fun _ => false) (ho := by rfl) (ha := by rfl) (by simp) (by simp [jobA, jobZ]) (by decide) (by simp) (fun i _ h => by cases h) ⟨rfl, rfl⟩)
  by_cases hbig : 12 < n
  · rw [k5.out (.inr hbig)]
    simp (maxSteps := 1000000) [hho, noHo, hneg, hbig, undef, onGP_none, condG_false, -List.reduceReplicate]
    exact Ret.nilJ jobZ_nil (Ret.sel [] (fun _ => false) (ho := by rfl) (ha := by rfl) (by simp) (by simp [jobA, jobZ]) (by decide) (by simp) (fun i _ h => by cases h) ⟨rfl, rfl⟩)
  replace k5 := k5.inn (by omega)
  rw [sN_kL _ _ _ (by omega)] at k5
  clear k0 k1 k2 k3 k4 c1 c2 c3 c4 c5 hTC
  obtain ⟨n, rfl⟩ : ∃ m : Nat, n = m := ⟨n.toNat, by omega⟩
  simp (maxSteps := 1000000) [hho, noHo, hneg, hbig, undef, onGP_none, condG_false, -List.reduceReplicate]
  refine loop_k mixed (fun y : Nat × List ColS × TSt => ⟨slotsOf 172 [(2, .ptr 0 0 18), (4, .ptr 1 0 2), (5, .ptr 2 0 18), (6, .c (.int .i64 n)), (7, .c (.int .i64 (y.1 : Nat)))], [.o .box jobZc, .o .box (tpC y.2.2), .o .box (jb0 id kind table name (.sl 3 10 0 y.1 (y.1 * 10)) ByteArray.empty nilJ), .o (.row 59 10) (colsA y.2.1)]⟩) (fun y => n - y.1) (fun y => y.1 ≤ n ∧ y.2.1.length = y.1 ∧ Kt (tSys 3000 4000) y.2.2 (kL sJC (fun cols => sJob2 id kind table name cols) ((n : Int) - y.1) y.2.1) tot ∧ ∀ c ∈ y.2.1, ColM 3000 c) (0, [], t5) ⟨Nat.zero_le _, rfl, by simpa using k5, fun c h => (by cases h)⟩ ?_ ?_
  · refine Wk.trans (wk_virtC 2 4 59 10 rfl rfl) ?_
    exact wk_eq (by simp [hE, lens]) (by simp [jobZc, jb0, jbX, nilJ, tpC, colsA]) (by simp [livH, livO, AV.livL, AV.liv, wkL, wkV, List.range', slotsOf])
  rintro ⟨i, cols, t⟩ ⟨hi, hl, hk, hc⟩
  simp only at hi hl hk hc
  by_cases hin : i < n
  · have ew : IntKind.i64.wrap ((i : Int) + 1) = (i + 1 : Nat) := by rw [IntWalk.i64_in _ (by omega)]; rfl
    have hin' : (i : Int) < n := by omega
    have k6 := hk.goK (by omega)
    rw [sJC_bd] at k6
    have c7 := text_t t (Nat.le_trans (show _ ≤ 3000 from k6.1.1) (by omega))
    obtain ⟨k7, o7⟩ := Kt.step (tText_sim 3000 4000) k6
    obtain ⟨q7, e7⟩ : ∃ q, q = tText t := ⟨_, rfl⟩
    rw [← e7] at c7 k7 o7
    obtain ⟨cname, t7⟩ := q7
    simp only at c7 k7 o7
    clear e7
    have c8 := num_t t7 (Nat.le_trans (show _ ≤ 3000 from k7.1.1) (by omega))
    obtain ⟨k8, o8⟩ := Kt.step (tNum_sim 3000 4000) k7
    obtain ⟨q8, e8⟩ : ∃ q, q = tNum t7 := ⟨_, rfl⟩
    rw [← e8] at c8 k8 o8
    obtain ⟨ck, t8⟩ := q8
    simp only at c8 k8 o8
    clear e8
    have c9 := num_t t8 (Nat.le_trans (show _ ≤ 3000 from k8.1.1) (by omega))
    obtain ⟨k9, o9⟩ := Kt.step (tNum_sim 3000 4000) k8
    obtain ⟨q9, e9⟩ : ∃ q, q = tNum t8 := ⟨_, rfl⟩
    rw [← e9] at c9 k9 o9
    obtain ⟨cs, t9⟩ := q9
    simp only at c9 k9 o9
    clear e9
    have c10 := flag_t t9 (Nat.le_trans (show _ ≤ 3000 from k9.1.1) (by omega))
    obtain ⟨k10, o10⟩ := Kt.step (tFlag_sim 3000 4000) k9
    obtain ⟨q10, e10⟩ : ∃ q, q = tFlag t9 := ⟨_, rfl⟩
    rw [← e10] at c10 k10
    obtain ⟨nn, t10⟩ := q10
    simp only at c10 k10
    clear e10
    have c11 := text_t t10 (Nat.le_trans (show _ ≤ 3000 from k10.1.1) (by omega))
    obtain ⟨k11, o11⟩ := Kt.step (tDft_sim 3000 4000) k10
    have b11 := Nat.le_trans (tText_size t10) (show _ ≤ 3000 from k10.1.1)
    unfold tDft at k11 o11
    obtain ⟨q11, e11⟩ : ∃ q, q = tText t10 := ⟨_, rfl⟩
    rw [← e11] at c11 k11 o11 b11
    obtain ⟨w, d, x⟩ := q11
    simp only at c11 k11 o11 b11
    clear e11
    have hsz : w.data.toList.length = w.size := rfl
    have c12 := parse_refU w.data.toList (by omega)
    have hpc : ((parseS w.data.toList).isSome = false ∧ cellsOf w.data.toList = [] ∧ badOf w.data.toList = true) ∨ ((parseS w.data.toList).isSome = true ∧ badOf w.data.toList = badL (cellsOf w.data.toList)) := by
      cases hp : parseS w.data.toList with
      | none => exact .inl ⟨rfl, cellsOf_none hp, by unfold badOf; rw [hp]⟩
      | some l => exact .inr ⟨rfl, by rw [cellsOf_some hp]; exact badOf_some hp⟩
    obtain ⟨L, hLe⟩ : ∃ L, L = cellsOf w.data.toList := ⟨_, rfl⟩
    obtain ⟨B, hBe⟩ : ∃ B, B = badOf w.data.toList := ⟨_, rfl⟩
    obtain ⟨okp, hoe⟩ : ∃ b, b = (parseS w.data.toList).isSome := ⟨_, rfl⟩
    rw [← hLe, ← hoe] at c12
    rw [hsz] at c12
    rw [← hLe, ← hBe, ← hoe] at hpc
    rw [← hLe, ← hBe] at k11
    rw [← hLe] at o11
    clear hLe hBe hoe
    have hN : B = true → tot = none := fun h => k11.deadT (by rw [h]; exact Bool.or_true _)
    have hsn := fun v : ValS => colsA_snoc cols ⟨0, cname, ⟨ck, cs⟩, nn, v, 0⟩
    have enk : (n : Int) - i - 1 = n - (i + 1 : Nat) := by omega
    simp (maxSteps := 1000000) [hho, noHo, slotsOf, jobZc, jb0, jbX, nilJ, tpC, hin, hin', undef, onGP_none, condG_false, -List.reduceReplicate]
    refine call_x [1] (c7) rfl rfl ⟨rfl, rfl⟩ hho (by simp) (by decide) (by simp) (by simp) ?_
    simp (maxSteps := 1000000) [hho, noHo, tpC, -List.reduceReplicate]
    refine call_x [1] (c8) rfl rfl ⟨rfl, rfl⟩ hho (by simp) (by decide) (by simp) (by simp) ?_
    simp (maxSteps := 1000000) [hho, noHo, tpC, -List.reduceReplicate]
    refine call_x [1] (c9) rfl rfl ⟨rfl, rfl⟩ hho (by simp) (by decide) (by simp) (by simp) ?_
    simp (maxSteps := 1000000) [hho, noHo, tpC, -List.reduceReplicate]
    refine call_x [1] (c10) rfl rfl ⟨rfl, rfl⟩ hho (by simp) (by decide) (by simp) (by simp) ?_
    simp (maxSteps := 1000000) [hho, noHo, tpC, -List.reduceReplicate]
    refine call_x [1] (c11) rfl rfl ⟨rfl, rfl⟩ hho (by simp) (by decide) (by simp) (by simp) ?_
    simp (maxSteps := 1000000) [hho, noHo, hsz, -List.reduceReplicate]
    refine ⟨by omega, ?_⟩
    rcases hpc with ⟨rfl, rfl, rfl⟩ | ⟨rfl, hB⟩
    · rw [hN rfl]
      refine call_x [] (c12) rfl rfl ⟨rfl, rfl⟩ hho (by simp) (by decide) (by simp) (by simp) ?_
      simp (maxSteps := 1000000) [hho, noHo, tpC, undef, onGP_none, condG_false, -List.reduceReplicate]
      exact Ret.nilJ jobZ_nil (Ret.sel [] (fun _ => false) (ho := by rfl) (ha := by rfl) (by simp) (by simp [jobA, jobZ]) (by decide) (by simp) (fun i _ h => by cases h) ⟨rfl, rfl⟩)
    rcases L with _ | ⟨a, _ | ⟨a2, l2⟩⟩
    · have hB : B = false := hB
      subst hB
      rw [enk, Bool.or_false] at k11
      refine call_x [] (c12) rfl rfl ⟨rfl, rfl⟩ hho (by simp) (by decide) (by simp) (by simp) ?_
      simp (maxSteps := 1000000) [hho, noHo, tpC, cellsA, ew, hl, undef, onGP_none, condG_false, -List.reduceReplicate]
      refine ⟨by omega, round_next (i + 1, cols ++ [_], (d, x)) ⟨by simp only; omega, by simp [hl], k11, fun y hy => (List.mem_append.1 hy).elim (hc y) fun h => by rw [List.mem_singleton.1 h]; exact ⟨o7, o11⟩⟩ (by simp only; omega) ?_⟩
      exact wk_of 4 2 (by simp) (by simp [hE, lens]) (by simp [jobZc, jb0, jbX, nilJ, hsn, colA, tpC, headV, vZ, Nat.add_mul]) (by simp [livH, livO, AV.livL, AV.liv, wkL, wkV, List.range', jobZc, jb0, jbX, nilJ, tpC]) (by simp [livH, livO, AV.livL, AV.liv, wkL, wkV, List.range', slotsOf, Nat.add_mul])
    · have hB : B = decide (a.col ≠ 0) := hB
      by_cases hc0 : a.col = 0
      · have hB : B = false := by rw [hB]; simp [hc0]
        subst hB
        rw [enk, Bool.or_false] at k11
        refine call_x [] (c12) rfl rfl ⟨rfl, rfl⟩ hho (by simp) (by decide) (by simp) (by simp) ?_
        simp (maxSteps := 1000000) [hho, noHo, tpC, cellsA_one, cellA, valA, hc0, ew, hl, undef, onGP_none, condG_false, -List.reduceReplicate]
        refine ⟨by omega, round_next (i + 1, cols ++ [_], (d, x)) ⟨by simp only; omega, by simp [hl], k11, fun y hy => (List.mem_append.1 hy).elim (hc y) fun h => by rw [List.mem_singleton.1 h]; exact ⟨o7, o11⟩⟩ (by simp only; omega) ?_⟩
        exact wk_of 4 2 (by simp) (by simp [hE, lens]) (by simp [jobZc, jb0, jbX, nilJ, hsn, colA, valA, tpC, headV, Nat.add_mul]) (by simp [livH, livO, AV.livL, AV.liv, wkL, wkV, List.range', jobZc, jb0, jbX, nilJ, tpC]) (by simp [livH, livO, AV.livL, AV.liv, wkL, wkV, List.range', slotsOf, Nat.add_mul])
      · have hB : B = true := by rw [hB]; simp [hc0]
        rw [hN hB]
        refine call_x [] (c12) rfl rfl ⟨rfl, rfl⟩ hho (by simp) (by decide) (by simp) (by simp) ?_
        simp (maxSteps := 1000000) [hho, noHo, tpC, cellsA_one, cellA, valA, hc0, undef, onGP_none, condG_false, -List.reduceReplicate]
        exact Ret.nilJ jobZ_nil (Ret.sel [] (fun _ => false) (ho := by rfl) (ha := by rfl) (by simp) (by simp [jobA, jobZ]) (by decide) (by simp) (fun i _ h => by cases h) ⟨rfl, rfl⟩)
    · have hB : B = true := hB
      have hl4 : ¬ ((l2.length : Int) + 1 + 1 ≤ 1) := by omega
      have hl5 : (1 : Int) < (l2.length : Int) + 1 + 1 := by omega
      have hl6 : ¬ ((l2.length : Int) + 1 + 1 = 1) := by omega
      rw [hN hB]
      refine call_x [] (c12) rfl rfl ⟨rfl, rfl⟩ hho (by simp) (by decide) (by simp) (by simp) ?_
      simp (maxSteps := 1000000) [hho, noHo, tpC, cellsA_cons, cellA, hl4, hl5, hl6, undef, onGP_none, condG_false, -List.reduceReplicate]
      exact Ret.nilJ jobZ_nil (Ret.sel [] (fun _ => false) (ho := by rfl) (ha := by rfl) (by simp) (by simp [jobA, jobZ]) (by decide) (by simp) (fun i _ h => by cases h) ⟨rfl, rfl⟩)
  obtain rfl : i = n := by omega
  rw [Int.sub_self] at hk
  have k12 := hk.endK
  clear k5 hk
  simp only [sJob2] at k12
  have c13 := text_t t (Nat.le_trans (show _ ≤ 3000 from k12.1.1) (by omega))
  obtain ⟨k13, o13⟩ := Kt.step (tText_sim 3000 4000) k12
  obtain ⟨q13, e13⟩ : ∃ q, q = tText t := ⟨_, rfl⟩
  rw [← e13] at c13 k13 o13
  obtain ⟨iname, t13⟩ := q13
  simp only at c13 k13 o13
  clear e13
  simp only [sMany, bd_assoc] at k13
  replace k13 := k13.cnt
  have c14 := num_t t13 (Nat.le_trans (show _ ≤ 3000 from k13.1.1) (by omega))
  obtain ⟨k14, o14⟩ := Kt.step (tNum_sim 3000 4000) k13
  obtain ⟨q14, e14⟩ : ∃ q, q = tNum t13 := ⟨_, rfl⟩
  rw [← e14] at c14 k14 o14
  obtain ⟨m, t14⟩ := q14
  simp only at c14 k14 o14
  clear e14
  simp (maxSteps := 1000000) [hho, noHo, slotsOf, jobZc, jb0, jbX, nilJ, tpC, -List.reduceReplicate]
  refine call_x [1] (c13) rfl rfl ⟨rfl, rfl⟩ hho (by simp) (by decide) (by simp) (by simp) ?_
  simp (maxSteps := 1000000) [hho, noHo, tpC, -List.reduceReplicate]
  refine call_x [1] (c14) rfl rfl ⟨rfl, rfl⟩ hho (by simp) (by decide) (by simp) (by simp) ?_
  by_cases mneg : m < 0
  · rw [k14.out (.inl mneg)]
    simp (maxSteps := 1000000) [hho, noHo, mneg, undef, onGP_none, condG_false, -List.reduceReplicate]
    exact Ret.nilJ jobZ_nil (Ret.sel [] (fun _ => false) (ho := by rfl) (ha := by rfl) (by simp) (by simp [jobA, jobZ]) (by decide) (by simp) (fun i _ h => by cases h) ⟨rfl, rfl⟩)
  by_cases mbig : 4 < m
  · rw [k14.out (.inr mbig)]
    simp (maxSteps := 1000000) [hho, noHo, mneg, mbig, undef, onGP_none, condG_false, -List.reduceReplicate]
    exact Ret.nilJ jobZ_nil (Ret.sel [] (fun _ => false) (ho := by rfl) (ha := by rfl) (by simp) (by simp [jobA, jobZ]) (by decide) (by simp) (fun i _ h => by cases h) ⟨rfl, rfl⟩)
  replace k14 := k14.inn (by omega)
  rw [sN_kL _ _ _ (by omega)] at k14
  clear k12 k13 c13 c14
  obtain ⟨m, rfl⟩ : ∃ q : Nat, m = q := ⟨m.toNat, by omega⟩
  simp (maxSteps := 1000000) [hho, noHo, mneg, mbig, undef, onGP_none, condG_false, -List.reduceReplicate]
  refine loop_k mixed (fun y : Nat × List Int × TSt => ⟨slotsOf 172 [(2, .ptr 0 0 18), (4, .ptr 1 0 2), (5, .ptr 2 0 18), (6, .c (.int .i64 m)), (11, .c (.int .i64 (y.1 : Nat)))], [.o .box jobZc, .o .box (tpC y.2.2), .o .box (jb0 id kind table name (.sl 3 10 0 i (i * 10)) iname (.sl 4 1 0 y.1 y.1)), .o (.row 59 10) (colsA cols), .o (.row 3 1) (intsA y.2.1)]⟩) (fun y => m - y.1) (fun y => y.1 ≤ m ∧ y.2.1.length = y.1 ∧ Kt (tSys 3000 4000) y.2.2 (kL sNum (fun icols => sJob3 id kind table name cols iname icols) ((m : Int) - y.1) y.2.1) tot) (0, [], t14) ⟨Nat.zero_le _, rfl, by simpa using k14⟩ ?_ ?_
  · refine Wk.trans (wk_virtC 2 7 3 1 rfl rfl) ?_
    exact wk_eq (by simp [hE, lens]) (by simp [jobZc, jb0, jbX, nilJ, tpC, intsA]) (by simp [livH, livO, AV.livL, AV.liv, wkL, wkV, List.range', slotsOf])
  rintro ⟨p, ks, t⟩ ⟨hp, hpl, hpk⟩
  simp only at hp hpl hpk
  by_cases hpm : p < m
  · have ew : IntKind.i64.wrap ((p : Int) + 1) = (p + 1 : Nat) := by rw [IntWalk.i64_in _ (by omega)]; rfl
    have hpm' : (p : Int) < m := by omega
    have k15 := hpk.goK (by omega)
    have c16 := num_t t (Nat.le_trans (show _ ≤ 3000 from k15.1.1) (by omega))
    obtain ⟨k16, o16⟩ := Kt.step (tNum_sim 3000 4000) k15
    obtain ⟨q16, e16⟩ : ∃ q, q = tNum t := ⟨_, rfl⟩
    rw [← e16] at c16 k16 o16
    obtain ⟨z, t16⟩ := q16
    simp only at c16 k16 o16
    clear e16
    have hsn : intsA (ks ++ [z]) = intsA ks ++ [.c (.int .i64 z)] := by simp [intsA]
    have enk : (m : Int) - p - 1 = m - (p + 1 : Nat) := by omega
    rw [enk] at k16
    simp (maxSteps := 1000000) [hho, noHo, slotsOf, jobZc, jb0, jbX, nilJ, tpC, hpm, hpm', undef, onGP_none, condG_false, -List.reduceReplicate]
    refine call_x [1] (c16) rfl rfl ⟨rfl, rfl⟩ hho (by simp) (by decide) (by simp) (by simp) ?_
    simp (maxSteps := 1000000) [hho, noHo, tpC, hpl, ew, undef, onGP_none, condG_false, -List.reduceReplicate]
    refine ⟨by omega, round_next (p + 1, ks ++ [z], t16) ⟨by simp only; omega, by simp [hpl], k16⟩ (by simp only; omega) ?_⟩
    exact wk_of 5 1 (by simp) (by simp [hE, lens]) (by simp [jobZc, jb0, jbX, nilJ, tpC, hsn]) (by simp [livH, livO, AV.livL, AV.liv, wkL, wkV, List.range', jobZc, jb0, jbX, nilJ, tpC]) (by simp [livH, livO, AV.livL, AV.liv, wkL, wkV, List.range', slotsOf])
  obtain rfl : p = m := by omega
  rw [Int.sub_self] at hpk
  have k17 := hpk.endK
  clear k14 hpk
  simp only [sJob3] at k17
  have c18 := flag_t t (Nat.le_trans (show _ ≤ 3000 from k17.1.1) (by omega))
  obtain ⟨k18, o18⟩ := Kt.step (tFlag_sim 3000 4000) k17
  obtain ⟨q18, e18⟩ : ∃ q, q = tFlag t := ⟨_, rfl⟩
  rw [← e18] at c18 k18
  obtain ⟨u, t18⟩ := q18
  simp only at c18 k18
  clear e18
  have c19 := num_t t18 (Nat.le_trans (show _ ≤ 3000 from k18.1.1) (by omega))
  obtain ⟨k19, o19⟩ := Kt.step (tNum_sim 3000 4000) k18
  obtain ⟨q19, e19⟩ : ∃ q, q = tNum t18 := ⟨_, rfl⟩
  rw [← e19] at c19 k19 o19
  obtain ⟨item, t19⟩ := q19
  simp only at c19 k19 o19
  clear e19
  have c20 := num_t t19 (Nat.le_trans (show _ ≤ 3000 from k19.1.1) (by omega))
  obtain ⟨k20, o20⟩ := Kt.step (tNum_sim 3000 4000) k19
  obtain ⟨q20, e20⟩ : ∃ q, q = tNum t19 := ⟨_, rfl⟩
  rw [← e20] at c20 k20 o20
  obtain ⟨other, t20⟩ := q20
  simp only at c20 k20 o20
  clear e20
  have c21 := text_t t20 (Nat.le_trans (show _ ≤ 3000 from k20.1.1) (by omega))
  obtain ⟨k21, o21⟩ := Kt.step (tText_sim 3000 4000) k20
  obtain ⟨q21, e21⟩ : ∃ q, q = tText t20 := ⟨_, rfl⟩
  rw [← e21] at c21 k21 o21
  obtain ⟨mark, t21⟩ := q21
  simp only at c21 k21 o21
  clear e21
  have c22 := flag_t t21 (Nat.le_trans (show _ ≤ 3000 from k21.1.1) (by omega))
  obtain ⟨k22, o22⟩ := Kt.step (tFlag_sim 3000 4000) k21
  obtain ⟨q22, e22⟩ : ∃ q, q = tFlag t21 := ⟨_, rfl⟩
  rw [← e22] at c22 k22
  obtain ⟨full, t22⟩ := q22
  simp only at c22 k22
  clear e22
  have c23 := flag_t t22 (Nat.le_trans (show _ ≤ 3000 from k22.1.1) (by omega))
  obtain ⟨k23, o23⟩ := Kt.step (tFlag_sim 3000 4000) k22
  obtain ⟨q23, e23⟩ : ∃ q, q = tFlag t22 := ⟨_, rfl⟩
  rw [← e23] at c23 k23
  obtain ⟨fence, t23⟩ := q23
  simp only at c23 k23
  clear e23
  have c24 := flag_t t23 (Nat.le_trans (show _ ≤ 3000 from k23.1.1) (by omega))
  obtain ⟨k24, o24⟩ := Kt.step (tFlag_sim 3000 4000) k23
  obtain ⟨q24, e24⟩ : ∃ q, q = tFlag t23 := ⟨_, rfl⟩
  rw [← e24] at c24 k24
  obtain ⟨back, t24⟩ := q24
  simp only at c24 k24
  clear e24
  have c25 := num_t t24 (Nat.le_trans (show _ ≤ 3000 from k24.1.1) (by omega))
  obtain ⟨k25, o25⟩ := Kt.step (tNum_sim 3000 4000) k24
  obtain ⟨q25, e25⟩ : ∃ q, q = tNum t24 := ⟨_, rfl⟩
  rw [← e25] at c25 k25 o25
  obtain ⟨err, t25⟩ := q25
  simp only at c25 k25 o25
  clear e25
  have c26 := flag_t t25 (Nat.le_trans (show _ ≤ 3000 from k25.1.1) (by omega))
  obtain ⟨k26, o26⟩ := Kt.step (tFlag_sim 3000 4000) k25
  obtain ⟨q26, e26⟩ : ∃ q, q = tFlag t25 := ⟨_, rfl⟩
  rw [← e26] at c26 k26
  obtain ⟨fin, t26⟩ := q26
  simp only at c26 k26
  clear e26
  obtain ⟨J, hJ⟩ : ∃ J : JobS, J = ⟨id, kind, table, name, cols, ⟨0, iname, ks, u, 0⟩, item, other, mark, full, fence, back, err, fin⟩ := ⟨_, rfl⟩
  have hJA : jobA J = jbX id kind table name (.fs 10 cols.length (colsA cols)) iname (.fs 1 ks.length (intsA ks)) u item other mark full fence back err fin := by rw [hJ]; rfl
  rw [← hJ] at k26
  have hJb : JobBig J := by
    rw [hJ]
    exact ⟨by simp only at o13 ⊢; omega, by simp only; omega, by simp only; omega, by simp only at o21 ⊢; omega, fun c h => by have := hc c h; exact ⟨by have := this.1; omega, by have := this.2; omega⟩⟩
  have cR := r16Right_w J hJb
  have hLl : (colsA cols).length = i * 10 := by rw [colsA_length, hl]
  have htk : List.take (i * 10) (colsA cols) = colsA cols := List.take_of_length_le (by omega)
  have hLi : (intsA ks).length = p := by rw [intsA_length, hpl]
  have hti : List.take (p * 1) (intsA ks) = intsA ks := List.take_of_length_le (by omega)
  have eC : AV.fs 10 cols.length (colsA cols) = .fs 10 i (List.take (i * 10) (List.drop 0 (colsA cols))) := by rw [List.drop_zero, htk, hl]
  have eI : AV.fs 1 ks.length (intsA ks) = .fs 1 p (List.take (p * 1) (List.drop 0 (intsA ks))) := by rw [List.drop_zero, hti, hpl]
  rw [hJA, eC, eI] at cR
  simp only [jbX] at cR
  simp (maxSteps := 1000000) [hho, noHo, slotsOf, jobZc, jb0, jbX, nilJ, tpC, -List.reduceReplicate]
  refine call_x [1] (c18) rfl rfl ⟨rfl, rfl⟩ hho (by simp) (by decide) (by simp) (by simp) ?_
  simp (maxSteps := 1000000) [hho, noHo, tpC, -List.reduceReplicate]
  refine call_x [1] (c19) rfl rfl ⟨rfl, rfl⟩ hho (by simp) (by decide) (by simp) (by simp) ?_
  simp (maxSteps := 1000000) [hho, noHo, tpC, -List.reduceReplicate]
  refine call_x [1] (c20) rfl rfl ⟨rfl, rfl⟩ hho (by simp) (by decide) (by simp) (by simp) ?_
  simp (maxSteps := 1000000) [hho, noHo, tpC, -List.reduceReplicate]
  refine call_x [1] (c21) rfl rfl ⟨rfl, rfl⟩ hho (by simp) (by decide) (by simp) (by simp) ?_
  simp (maxSteps := 1000000) [hho, noHo, tpC, -List.reduceReplicate]
  refine call_x [1] (c22) rfl rfl ⟨rfl, rfl⟩ hho (by simp) (by decide) (by simp) (by simp) ?_
  simp (maxSteps := 1000000) [hho, noHo, tpC, -List.reduceReplicate]
  refine call_x [1] (c23) rfl rfl ⟨rfl, rfl⟩ hho (by simp) (by decide) (by simp) (by simp) ?_
  simp (maxSteps := 1000000) [hho, noHo, tpC, -List.reduceReplicate]
  refine call_x [1] (c24) rfl rfl ⟨rfl, rfl⟩ hho (by simp) (by decide) (by simp) (by simp) ?_
  simp (maxSteps := 1000000) [hho, noHo, tpC, -List.reduceReplicate]
  refine call_x [1] (c25) rfl rfl ⟨rfl, rfl⟩ hho (by simp) (by decide) (by simp) (by simp) ?_
  simp (maxSteps := 1000000) [hho, noHo, tpC, -List.reduceReplicate]
  refine call_x [1] (c26) rfl rfl ⟨rfl, rfl⟩ hho (by simp) (by decide) (by simp) (by simp) ?_
  obtain ⟨d, x⟩ := t26
  cases x with
  | true =>
    rw [k26.deadT rfl]
    simp (maxSteps := 1000000) [hho, noHo, tpC, undef, onGP_none, condG_false, -List.reduceReplicate]
    exact Ret.nilJ jobZ_nil (Ret.sel [] (fun _ => false) (ho := by rfl) (ha := by rfl) (by simp) (by simp [jobA, jobZ]) (by decide) (by simp) (fun i _ h => by cases h) ⟨rfl, rfl⟩)
  | false =>
  by_cases hd : d = []
  case neg =>
    have hd1 : ¬ d.length = 0 := fun h => hd (List.eq_nil_of_length_eq_zero h)
    have hd2 : 0 < d.length := by omega
    have hd3 : (0 : Int) < d.length := by omega
    have hN : tot = none := by
      rw [k26.liveT rfl]
      exact if_neg fun h => hd h.1
    rw [hN]
    simp (maxSteps := 1000000) [hho, noHo, tpC, hd1, hd2, hd3, undef, onGP_none, condG_false, -List.reduceReplicate]
    exact Ret.nilJ jobZ_nil (Ret.sel [] (fun _ => false) (ho := by rfl) (ha := by rfl) (by simp) (by simp [jobA, jobZ]) (by decide) (by simp) (fun i _ h => by cases h) ⟨rfl, rfl⟩)
  subst hd
  simp (maxSteps := 1000000) [hho, noHo, tpC, undef, onGP_none, condG_false, -List.reduceReplicate]
  refine call_plain (fun k => k == 3 || k == 4) cR (ha := by rfl) ?_ ?_
  · exact ⟨⟨trivial, trivial, trivial, trivial, ⟨hLl, by omega, by unfold maxLen; omega, by rw [List.drop_zero, htk]; exact List.all_eq_true.2 ((colsA_all cols).2 trivial)⟩, trivial, trivial, ⟨hLi, by omega, by unfold maxLen; omega, by rw [List.drop_zero, hti]; exact List.all_eq_true.2 ((intsA_all ks).2 trivial)⟩, trivial, trivial, trivial, trivial, trivial, trivial, trivial, trivial, trivial, trivial, trivial⟩, trivial⟩
  rintro r h' ⟨rfl, rfl⟩
  refine ⟨rfl, ?_⟩
  have hL := k26.liveT rfl
  cases hok : jobOk J with
  | false =>
    have hN : tot = none := by rw [hL]; exact if_neg fun h => by rw [hok] at h; cases h.2
    rw [hN]
    simp (maxSteps := 1000000) [hho, noHo, undef, onGP_none, condG_false, -List.reduceReplicate]
    exact Ret.nilJ jobZ_nil (Ret.sel [] (fun _ => false) (ho := by rfl) (ha := by rfl) (by simp) (by simp [jobA, jobZ]) (by decide) (by simp) (fun i _ h => by cases h) ⟨rfl, rfl⟩)
  | true =>
    have hG : tot = some J := by rw [hL]; exact if_pos ⟨rfl, hok⟩
    rw [hG]
    simp (maxSteps := 1000000) [hho, noHo, undef, onGP_none, condG_false, -List.reduceReplicate]
    refine Ret.sel [] (fun k => k == 3 || k == 4) (ho := by rfl) (ha := by rfl) ?_ ?_ (by decide) (by simp) (fun i _ h => by cases h) ⟨?_, rfl⟩
    · simp
    · exact ⟨⟨trivial, trivial, trivial, trivial, ⟨hLl, by omega, by unfold maxLen; omega, by rw [List.drop_zero, htk]; exact List.all_eq_true.2 ((colsA_all cols).2 trivial)⟩, trivial, trivial, ⟨hLi, by omega, by unfold maxLen; omega, by rw [List.drop_zero, hti]; exact List.all_eq_true.2 ((intsA_all ks).2 trivial)⟩, trivial, trivial, trivial, trivial, trivial, trivial, trivial, trivial, trivial, trivial, trivial⟩, trivial, trivial⟩
    · rw [hJA, eC, eI]; rfl
end Go.Proofs.YtcjncgfhkgcbnaaDoor
