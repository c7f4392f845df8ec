import Derived.Test.YtglhmhpaoebifaaBB
namespace Go.Proofs.Ytglhmhpaoebifaa
set_option linter.unusedVariables false
set_option linter.unusedSimpArgs false
open Go.RowKit
attribute [local simp] isCut_nil isCut_region isCut_seq isCut_block isCut_loop isCut_cond isCut_skip isCut_exit isCut_ret isCut_range swapK putK altK condK_bool pickP_bool stepP stepO onPure_some onPure_none onImpl_some onImpl_none stepC onGP_some onGP_none onGV_some condG mkG onIt_it nextP_ptr takeP_eq takeV_some takeN_none takeN_some takeG_some takeO_some altO_some pureV binV2 eqF eqOp ovlV ovl2 rowAt capV binV intBin strBin isSh shV fldV ixV sliceV slice3V loadAV nilV lenV callV unV convV viewS cellsH loadV fldCut AV.ung AV.ungs AV.gc AV.cells AS.ev AS.put anyS gcsV lens lnO gV guardV retK RetP_eq resV oneV anyRo loIx hiIx implO callP_clo evL gcsL clearV storeAV AS.push AS.setO appV appZ shortS copyV buildV partsV fillV srcV fzO okV isCell_c isCell_ptr isCell_sl isCell_fs isCell_fp isCell_clo rowZ_one rowZ_zero rowZ_2 rowZ_3 rowZ_4 rowZ_5 rowZ_6 rowZ_7 rowZ_8 rowZ_9 rowZ_10 rowZ_11 rowZ_12 noHo Value.oneCell' max2V min2V afterH putBack frzFrom frzO rebO backIx nilEq_sl nilEq_fs nilOp_eql nilOp_neq AV.reb AV.rebL
attribute [local simp ↓] runK_skip runK_region runK_draw runK_seq runK_cut runK_cond runK_block runK_loop runK_exit runK_label runK_goto runK_ret runK_range contK_nil contK_seq contK_seq_ret contK_seq_exit contK_seq_goto contK_block contK_block_ret contK_block_goto contK_block_exit runO_nil runO_cons roundK_exit roundK_ret roundK_goto exitK_ret cutK_ret cutK_exit runE_done runE_nil runE_take runE_alt condG_true condG_false
set_option maxRecDepth 10000
set_option maxHeartbeats 4000000 in
theorem swapRange_lease (d : List LeaseS) (n : Nat) (hn : n = d.length) (hd : n ≤ 9000000000000000) (a b c : Nat) (ha : a + c ≤ n) (hb : b + c ≤ n) :
    ACalls Try.prog 75 [.sl 0 3 0 n (n * 3), .c (.int .i64 a), .c (.int .i64 b), .c (.int .i64 c), cloBy] [rowL d] (fun k => decide (k < 1)) (fun r h' => r = .tup [] ∧ h' = [rowL (swrS d a b c)]) := by
  refine acalls mixed Try.func75 rfl Try.ntmps75 rfl fun E hE hst hho => ?_
  simp [rowL, cloBy, hho, -List.reduceReplicate]
  refine loop_k mixed (fun x : Nat × List LeaseS => ⟨slotsOf 38 [(0, .sl 0 3 0 n (n * 3)), (1, .c (.int .i64 a)), (2, .c (.int .i64 b)), (3, .c (.int .i64 c)), (10, .c (.int .i64 (x.1 : Int)))], [rowL x.2]⟩) (fun x => c - x.1) (fun x => x.1 ≤ c ∧ x.2.length = n ∧ swrF x.2 a b x.1 (c - x.1) = swrS d a b c) (0, d) ⟨Nat.zero_le _, hn.symm, rfl⟩ ?_ ?_
  · exact wk_eq (by simp [hE, rowL, lens]) (by simp [rowL]) (by simp [livH, livO, AV.livL, AV.liv, wkL, wkV, List.range', slotsOf])
  · rintro ⟨i, d1⟩ ⟨h1, h2, h3⟩
    simp only at h1 h2 h3
    by_cases hic : i < c
    · obtain ⟨J, hJ⟩ : ∃ J, J = a + i := ⟨_, rfl⟩
      obtain ⟨K, hK⟩ : ∃ K, K = b + i := ⟨_, rfl⟩
      have ewi : IntKind.i64.wrap ((i : Int) + 1) = (i + 1 : Nat) := by rw [IntWalk.i64_in _ (by omega)]; rfl
      have ewJ : IntKind.i64.wrap ((a : Int) + i) = (J : Nat) := by rw [IntWalk.i64_in _ (by omega)]; omega
      have ewK : IntKind.i64.wrap ((b : Int) + i) = (K : Nat) := by rw [IntWalk.i64_in _ (by omega)]; omega
      have hj : J < d1.length := by omega
      have hk : K < d1.length := by omega
      have hJn : J < n := by omega
      have hKn : K < n := by omega
      obtain ⟨x, hx⟩ : ∃ x, x = d1[J] := ⟨_, rfl⟩
      obtain ⟨y, hy⟩ : ∃ y, y = d1[K] := ⟨_, rfl⟩
      have e1 := leasesA_at d1 J hj
      have e0 := leasesA_at d1 K hk
      rw [← hx] at e1
      rw [← hy] at e0
      have el1 : J * 3 + 3 ≤ n * 3 := by omega
      have el0 : K * 3 + 3 ≤ n * 3 := by omega
      have hs1 := leasesA_set' d1 J hj y
      have hs2 := leasesA_set' (d1.set J y) K (by simpa using hk) x
      simp [rowL, slotsOf, hho, hic, -List.reduceReplicate]
      refine draw_k hho (.take 0 (.take 1 (.take 2 (.take 3 (.take 4 (.take 5 (.take 6 (.take 7 (.take 8 (.take 9 (.take 10 (.take 11 (.take 12 (.take 13 (.take 14 (.take 15 (.take 16 (.take 17 (.take 18 (.take 19 (.take 20 (.alt 21 (.take 22 (.alt 23 (.done) (.nil))) (.nil))))))))))))))))))))))) [0] [(21, [0]), (23, [0])] (by decide +kernel) (by simp) ?_
      simp (maxSteps := 1000000) [hho, h2, hJn, hKn, ewJ, ewK, ewi, e0, e1, el0, el1, hs1, hs2, roOf, holdOf, wrOf, altK, heldOk, Region.binds, -List.reduceReplicate]
      intro E1 E2
      have hsw : swp d1 (a + i) (b + i) = (d1.set J y).set K x := by rw [← hJ, ← hK, swp_at d1 hj hk, ← hx, ← hy]
      refine round_next (i + 1, (d1.set J y).set K x) ⟨by simp only; omega, by simp [h2], ?_⟩ (by simp only; omega) ?_
      · show swrF ((d1.set J y).set K x) a b (i + 1) (c - (i + 1)) = _
        rw [← h3]
        conv => rhs; rw [show c - i = (c - (i + 1)) + 1 from by omega, swrF, hsw]
      · exact wk_eq (by simp [hE, rowL, lens]) (by simp [rowL]) (by simp [livH, livO, AV.livL, AV.liv, wkL, wkV, List.range', slotsOf])
    · simp [rowL, slotsOf, hho, hic, -List.reduceReplicate]
      have hz : c - i = 0 := by omega
      rw [hz] at h3
      refine Ret.same ⟨rfl, by rw [← h3]; rfl⟩
set_option maxHeartbeats 4000000 in
theorem rotate_lease (d : List LeaseS) (n : Nat) (hn : n = d.length) (hd : n ≤ 9000000000000000) (a m b : Nat) (ha : a < m) (hm : m < b) (hb : b ≤ n) :
    ACalls Try.prog 74 [.sl 0 3 0 n (n * 3), .c (.int .i64 a), .c (.int .i64 m), .c (.int .i64 b), cloBy] [rowL d] (fun k => decide (k < 1)) (fun r h' => r = .tup [] ∧ h' = [rowL (rotS d a m b)]) := by
  refine acalls mixed Try.func74 rfl Try.ntmps74 rfl fun E hE hst hho => ?_
  have ew1 : IntKind.i64.wrap ((m : Int) - a) = (m - a : Nat) := by rw [IntWalk.i64_in _ (by omega)]; omega
  have ew2 : IntKind.i64.wrap ((b : Int) - m) = (b - m : Nat) := by rw [IntWalk.i64_in _ (by omega)]; omega
  simp [rowL, cloBy, hho, ew1, ew2, -List.reduceReplicate]
  refine loop_k mixed (fun x : Nat × Nat × Nat × List LeaseS => ⟨slotsOf 58 [(0, .sl 0 3 0 n (n * 3)), (2, .c (.int .i64 m)), (4, cloBy), (10, .c (.int .i64 (x.1 : Int))), (11, .c (.int .i64 (x.2.1 : Int)))], [rowL x.2.2.2]⟩) (fun x => x.1 + x.2.1) (fun x => 0 < x.1 ∧ 0 < x.2.1 ∧ x.1 ≤ m - a ∧ x.2.1 ≤ b - m ∧ x.1 + x.2.1 ≤ x.2.2.1 ∧ x.2.2.2.length = n ∧ rotF x.2.2.2 m x.2.2.1 x.1 x.2.1 = rotS d a m b) (m - a, b - m, b - a, d) ⟨by simp only; omega, by simp only; omega, Nat.le_refl _, Nat.le_refl _, by simp only; omega, hn.symm, rfl⟩ ?_ ?_
  · exact wk_eq (by simp [hE, rowL, lens]) (by simp [rowL]) (by simp [livH, livO, AV.livL, AV.liv, wkL, wkV, List.range', slotsOf, cloBy])
  · rintro ⟨i, j, f, d1⟩ ⟨h1, h2, h3, h4, h5, h6, h7⟩
    simp only at h1 h2 h3 h4 h5 h6 h7
    obtain ⟨g, rfl⟩ : ∃ g, f = g + 1 := ⟨f - 1, by omega⟩
    rw [rotF] at h7
    have ewm : IntKind.i64.wrap ((m : Int) - i) = (m - i : Nat) := by rw [IntWalk.i64_in _ (by omega)]; omega
    by_cases hij : i = j
    · subst hij
      rw [if_pos rfl] at h7
      simp [rowL, cloBy, slotsOf, hho, ewm, -List.reduceReplicate]
      refine call_x [0] (swapRange_lease d1 n h6.symm hd (m - i) m i (by omega) (by omega)) rfl rfl ⟨rfl, rfl⟩ hho (by simp) (by decide) (by simp) (by simp) ?_
      simp [rowL, hho, -List.reduceReplicate]
      exact Ret.same ⟨rfl, by rw [← h7]⟩
    · have hiji : ¬ (i : Int) = j := by omega
      rw [if_neg hij] at h7
      by_cases hji : j < i
      · rw [if_pos hji] at h7
        have ewd : IntKind.i64.wrap ((i : Int) - j) = (i - j : Nat) := by rw [IntWalk.i64_in _ (by omega)]; omega
        simp [rowL, cloBy, slotsOf, hho, hiji, hij, hji, ewm, ewd, -List.reduceReplicate]
        refine call_x [0] (swapRange_lease d1 n h6.symm hd (m - i) m j (by omega) (by omega)) rfl rfl ⟨rfl, rfl⟩ hho (by simp) (by decide) (by simp) (by simp) ?_
        simp [rowL, hho, ewd, -List.reduceReplicate]
        refine round_next (i - j, j, g, swrS d1 (m - i) m j) ⟨by simp only; omega, h2, by simp only; omega, h4, by simp only; omega, by simp [h6], h7⟩ (by simp only; omega) ?_
        exact wk_eq (by simp [hE, rowL, lens]) (by simp [rowL]) (by simp [livH, livO, AV.livL, AV.liv, wkL, wkV, List.range', slotsOf, cloBy])
      · rw [if_neg hji] at h7
        have ewd : IntKind.i64.wrap ((j : Int) - i) = (j - i : Nat) := by rw [IntWalk.i64_in _ (by omega)]; omega
        have ewp : IntKind.i64.wrap ((m : Int) + j) = (m + j : Nat) := by rw [IntWalk.i64_in _ (by omega)]; rfl
        have ewq : IntKind.i64.wrap ((m : Int) + j - i) = (m + j - i : Nat) := by rw [IntWalk.i64_in _ (by omega)]; omega
        simp [rowL, cloBy, slotsOf, hho, hiji, hij, hji, ewm, ewd, ewp, ewq, -List.reduceReplicate]
        refine call_x [0] (swapRange_lease d1 n h6.symm hd (m - i) (m + j - i) i (by omega) (by omega)) rfl rfl ⟨rfl, rfl⟩ hho (by simp) (by decide) (by simp) (by simp) ?_
        simp [rowL, hho, ewd, -List.reduceReplicate]
        refine round_next (i, j - i, g, swrS d1 (m - i) (m + j - i) i) ⟨h1, by simp only; omega, h3, by simp only; omega, by simp only; omega, by simp [h6], h7⟩ (by simp only; omega) ?_
        exact wk_eq (by simp [hE, rowL, lens]) (by simp [rowL]) (by simp [livH, livO, AV.livL, AV.liv, wkL, wkV, List.range', slotsOf, cloBy])
theorem half_w (x : Int) (h0 : 0 ≤ x) (h1 : x ≤ 4611686018427387904) : IntKind.i64.wrap ((IntKind.u64.wrap (IntKind.i64.wrap x)).fdiv (2 ^ min 1 IntKind.u64.bits)) = x / 2 := by
  have e1 : IntKind.i64.wrap x = x := IntWalk.i64_in _ (by omega)
  have e2 : IntKind.u64.wrap x = x := by
    simp only [IntKind.wrap, IntKind.signed, IntKind.bits]
    simp
    omega
  have e3 : (2 : Int) ^ min 1 IntKind.u64.bits = 2 := by decide
  rw [e1, e2, e3, Int.fdiv_eq_ediv_of_nonneg _ (by decide)]
  exact IntWalk.i64_in _ (by omega)
set_option maxHeartbeats 16000000 in
theorem symMerge_lease (n : Nat) (hd : n ≤ 4000000000000000) : ∀ (f : Nat) (d : List LeaseS) (a m b : Nat), n = d.length → a < m → m < b → b ≤ n → b - a ≤ f →
    ACalls Try.prog 72 [.sl 0 3 0 n (n * 3), .c (.int .i64 a), .c (.int .i64 m), .c (.int .i64 b), cloBy] [rowL d] (fun k => decide (k < 1)) (fun r h' => r = .tup [] ∧ h' = [rowL (symF ltL f d a m b)]) := by
  intro f
  induction f with
  | zero => intro d a m b _ h1 h2 _ h3; omega
  | succ f ih =>
  intro d a m b hn ham hmb hbn hf
  refine acallsC [32, 41, 43] mixed Try.func72 rfl Try.ntmps72 rfl fun E hE hst hho => ?_
  have ew1 : IntKind.i64.wrap ((m : Int) - a) = (m - a : Nat) := by rw [IntWalk.i64_in _ (by omega)]; omega
  have ew2 : IntKind.i64.wrap ((b : Int) - m) = (b - m : Nat) := by rw [IntWalk.i64_in _ (by omega)]; omega
  rw [symF]
  by_cases c1 : m - a = 1
  · rw [if_pos c1]
    obtain ⟨T, hT⟩ : ∃ T, T = bsF (fun h => ltAt ltL d h a) (b - m) m b := ⟨_, rfl⟩
    rw [← hT]
    have hT1 : m ≤ T := by rw [hT]; exact bsF_ge ..
    have hT2 : T ≤ b := by rw [hT]; exact bsF_le _ _ _ _ (by omega)
    simp [rowL, cloBy, hho, ew1, c1, -List.reduceReplicate]
    refine loop_k2 mixed (fun x : Nat × Nat × Nat => ⟨slotsOf 220 [(0, .sl 0 3 0 n (n * 3)), (1, .c (.int .i64 a)), (4, cloBy), (10, .c (.int .i64 (x.1 : Int))), (11, .c (.int .i64 (x.2.1 : Int)))], [rowL d]⟩) (fun x => x.2.1 - x.1) (fun x => m ≤ x.1 ∧ x.1 ≤ x.2.1 ∧ x.2.1 ≤ b ∧ x.2.1 - x.1 ≤ x.2.2 ∧ bsF (fun h => ltAt ltL d h a) x.2.2 x.1 x.2.1 = T) (m, b, b - m)
      (fun _ : Unit => ⟨slotsOf 220 [(0, .sl 0 3 0 n (n * 3)), (1, .c (.int .i64 a)), (4, cloBy), (10, .c (.int .i64 (T : Int)))], [rowL d]⟩) (fun _ => True) 0 ⟨Nat.le_refl _, by simp only; omega, Nat.le_refl _, Nat.le_refl _, hT.symm⟩ ?_ ?_ ?_
    · exact wk_eq (by simp [hE, rowL, lens]) (by simp [rowL]) (by simp [livH, livO, AV.livL, AV.liv, wkL, wkV, List.range', slotsOf, cloBy])
    · rintro _ _
      simp [rowL, cloBy, slotsOf, hho, -List.reduceReplicate]
      have ewT : IntKind.i64.wrap ((T : Int) - 1) = (T - 1 : Nat) := by rw [IntWalk.i64_in _ (by omega)]; omega
      refine loop_k mixed (fun x : Nat × List LeaseS => ⟨slotsOf 220 [(0, .sl 0 3 0 n (n * 3)), (10, .c (.int .i64 (T : Int))), (13, .c (.int .i64 (x.1 : Int)))], [rowL x.2]⟩) (fun x => T - 1 - x.1) (fun x => x.1 ≤ T - 1 ∧ x.2.length = n ∧ upF x.2 x.1 (T - 1 - x.1) = upF d a (T - 1 - a)) (a, d) ⟨by simp only; omega, hn.symm, rfl⟩ ?_ ?_
      · exact wk_eq (by simp [hE, rowL, lens]) (by simp [rowL]) (by simp [livH, livO, AV.livL, AV.liv, wkL, wkV, List.range', slotsOf, cloBy])
      · rintro ⟨k, d1⟩ ⟨g1, g2, g3⟩
        simp only at g1 g2 g3
        by_cases hk : k < T - 1
        · have ewk : IntKind.i64.wrap ((k : Int) + 1) = (k + 1 : Nat) := by rw [IntWalk.i64_in _ (by omega)]; rfl
          obtain ⟨K, hK⟩ : ∃ K, K = k + 1 := ⟨_, rfl⟩
          rw [← hK] at ewk
          have hki : (k : Int) < (T - 1 : Nat) := by omega
          have hj : k < d1.length := by omega
          have hkk : K < d1.length := by omega
          have hJn : k < n := by omega
          have hKn : K < n := by omega
          obtain ⟨x, hx⟩ : ∃ x, x = d1[k] := ⟨_, rfl⟩
          obtain ⟨y, hy⟩ : ∃ y, y = d1[K] := ⟨_, rfl⟩
          have e1 := leasesA_at d1 k hj
          have e0 := leasesA_at d1 K hkk
          rw [← hx] at e1
          rw [← hy] at e0
          have el1 : k * 3 + 3 ≤ n * 3 := by omega
          have el0 : K * 3 + 3 ≤ n * 3 := by omega
          have hs1 := leasesA_set' d1 k hj y
          have hs2 := leasesA_set' (d1.set k y) K (by simpa using hkk) x
          have hsw : swp d1 k K = (d1.set k y).set K x := by rw [swp_at d1 hj hkk, ← hx, ← hy]
          simp [rowL, slotsOf, hho, ewT, hk, -List.reduceReplicate]
          refine draw_k hho (.take 0 (.take 1 (.take 2 (.take 3 (.take 4 (.take 5 (.take 6 (.take 7 (.take 8 (.take 9 (.take 10 (.take 11 (.take 12 (.take 13 (.take 14 (.alt 15 (.take 16 (.alt 17 (.done) (.nil))) (.nil))))))))))))))))) [0] [(15, [0]), (17, [0])] (by decide +kernel) (by simp) ?_
          simp (maxSteps := 1000000) [hho, roOf, holdOf, wrOf, altK, heldOk, Region.binds, g2, hJn, hKn, ewk, e0, e1, el0, el1, hs1, hs2, -List.reduceReplicate]
          intro E1 E2
          refine round_next (K, (d1.set k y).set K x) ⟨by simp only; omega, by simp [g2], ?_⟩ (by simp only; omega) ?_
          · show upF ((d1.set k y).set K x) K (T - 1 - K) = _
            rw [← g3]
            conv => rhs; rw [show T - 1 - k = (T - 1 - K) + 1 from by omega, upF, ← hK, hsw]
          · exact wk_eq (by simp [hE, rowL, lens]) (by simp [rowL]) (by simp [livH, livO, AV.livL, AV.liv, wkL, wkV, List.range', slotsOf, cloBy])
        · simp [rowL, slotsOf, hho, ewT, hk, -List.reduceReplicate]
          have hz : T - 1 - k = 0 := by omega
          rw [hz] at g3
          refine Ret.same ⟨rfl, by rw [← g3]; rfl⟩
    · rintro ⟨i, j, g⟩ ⟨h1, h2, h3, h4, h5⟩
      simp only at h1 h2 h3 h4 h5
      by_cases hij : i < j
      · have eh : IntKind.i64.wrap ((IntKind.u64.wrap (IntKind.i64.wrap ((i : Int) + j))).fdiv (2 ^ min 1 IntKind.u64.bits)) = ((i + j) / 2 : Nat) := by rw [half_w _ (by omega) (by omega)]; omega
        obtain ⟨J, hJ⟩ : ∃ J, J = (i + j) / 2 := ⟨_, rfl⟩
        rw [← hJ] at eh
        rw [bsF_step _ _ _ _ hij h4, ← hJ] at h5
        have ewJ : IntKind.i64.wrap ((J : Int) + 1) = (J + 1 : Nat) := by rw [IntWalk.i64_in _ (by omega)]; rfl
        have hjd : J < d.length := by omega
        have hkd : a < d.length := by omega
        have hJn : J < n := by omega
        have hKn : a < n := by omega
        obtain ⟨x, hx⟩ : ∃ x, x = d[J] := ⟨_, rfl⟩
        obtain ⟨y, hy⟩ : ∃ y, y = d[a] := ⟨_, rfl⟩
        have e1 := leasesA_at d J hjd
        have e0 := leasesA_at d a hkd
        rw [← hx] at e1
        rw [← hy] at e0
        have el1 : J * 3 + 3 ≤ n * 3 := by omega
        have el0 : a * 3 + 3 ≤ n * 3 := by omega
        have hlt : ltAt ltL d J a = decide (x.s < y.s) := by rw [ltAt_at _ _ hjd hkd, ← hx, ← hy]; rfl
        simp [rowL, cloBy, slotsOf, hho, hij, eh, -List.reduceReplicate]
        refine draw_k hho (.take 0 (.take 1 (.take 2 (.take 3 (.take 4 (.take 5 (.take 6 (.take 7 (.take 8 (.alt 9 (.take 10 (.done)) (.nil))))))))))) [0] [] (by decide +kernel) (by simp) ?_
        simp (maxSteps := 1000000) [hho, roOf, holdOf, wrOf, altK, heldOk, Region.binds, ← hn, hJn, hKn, e0, e1, el0, el1, -List.reduceReplicate]
        intro E1
        refine call_plain (fun _ => false) (bySession_lease x y) (ha := by rfl) (by simp) ?_
        rintro r h' ⟨rfl, rfl⟩
        refine ⟨rfl, ?_⟩
        by_cases hxy : x.s < y.s
        · have hc : cmpI x.s y.s < 0 := (cmpI_neg _ _).2 hxy
          rw [if_pos (by rw [hlt]; simpa using hxy)] at h5
          simp (maxSteps := 1000000) [hho, roOf, holdOf, wrOf, altK, heldOk, Region.binds, hc, ewJ, -List.reduceReplicate]
          refine round_next (J + 1, j, g - 1) ⟨by simp only; omega, by simp only; omega, h3, by simp only; omega, h5⟩ (by simp only; omega) ?_
          exact wk_eq (by simp [hE, rowL, lens]) (by simp [rowL]) (by simp [livH, livO, AV.livL, AV.liv, wkL, wkV, List.range', slotsOf, cloBy])
        · have hc : ¬ cmpI x.s y.s < 0 := fun h => hxy ((cmpI_neg _ _).1 h)
          rw [if_neg (by rw [hlt]; simpa using hxy)] at h5
          simp (maxSteps := 1000000) [hho, roOf, holdOf, wrOf, altK, heldOk, Region.binds, hc, ewJ, -List.reduceReplicate]
          refine round_next (i, J, g - 1) ⟨h1, by simp only; omega, by simp only; omega, by simp only; omega, h5⟩ (by simp only; omega) ?_
          exact wk_eq (by simp [hE, rowL, lens]) (by simp [rowL]) (by simp [livH, livO, AV.livL, AV.liv, wkL, wkV, List.range', slotsOf, cloBy])
      · rw [bsF_done _ _ _ _ hij] at h5
        subst h5
        simp [rowL, cloBy, slotsOf, hho, hij, -List.reduceReplicate]
        exact exit_to () trivial (wk_eq (by simp [hE, rowL, lens]) (by simp [rowL]) (by simp [livH, livO, AV.livL, AV.liv, wkL, wkV, List.range', slotsOf, cloBy]))
  rw [if_neg c1]
  have c1i : ¬ ((m - a : Nat) : Int) = 1 := by omega
  by_cases c2 : b - m = 1
  · rw [if_pos c2]
    obtain ⟨T, hT⟩ : ∃ T, T = bsF (fun h => !(ltAt ltL d m h)) (m - a) a m := ⟨_, rfl⟩
    rw [← hT]
    have hT1 : a ≤ T := by rw [hT]; exact bsF_ge ..
    have hT2 : T ≤ m := by rw [hT]; exact bsF_le _ _ _ _ (by omega)
    simp [rowL, cloBy, hho, ew1, ew2, c1i, c2, -List.reduceReplicate]
    refine loop_k2 mixed (fun x : Nat × Nat × Nat => ⟨slotsOf 220 [(0, .sl 0 3 0 n (n * 3)), (2, .c (.int .i64 m)), (4, cloBy), (14, .c (.int .i64 (x.1 : Int))), (15, .c (.int .i64 (x.2.1 : Int)))], [rowL d]⟩) (fun x => x.2.1 - x.1) (fun x => a ≤ x.1 ∧ x.1 ≤ x.2.1 ∧ x.2.1 ≤ m ∧ x.2.1 - x.1 ≤ x.2.2 ∧ bsF (fun h => !(ltAt ltL d m h)) x.2.2 x.1 x.2.1 = T) (a, m, m - a)
      (fun _ : Unit => ⟨slotsOf 220 [(0, .sl 0 3 0 n (n * 3)), (2, .c (.int .i64 m)), (4, cloBy), (14, .c (.int .i64 (T : Int)))], [rowL d]⟩) (fun _ => True) 4 ⟨Nat.le_refl _, by simp only; omega, Nat.le_refl _, Nat.le_refl _, hT.symm⟩ ?_ ?_ ?_
    · exact wk_eq (by simp [hE, rowL, lens]) (by simp [rowL]) (by simp [livH, livO, AV.livL, AV.liv, wkL, wkV, List.range', slotsOf, cloBy])
    · rintro _ _
      simp [rowL, cloBy, slotsOf, hho, -List.reduceReplicate]
      refine loop_k mixed (fun x : Nat × List LeaseS => ⟨slotsOf 220 [(0, .sl 0 3 0 n (n * 3)), (14, .c (.int .i64 (T : Int))), (17, .c (.int .i64 (x.1 : Int)))], [rowL x.2]⟩) (fun x => x.1 - T) (fun x => T ≤ x.1 ∧ x.1 ≤ m ∧ x.2.length = n ∧ downF x.2 T (x.1 - T) = downF d T (m - T)) (m, d) ⟨hT2, Nat.le_refl _, hn.symm, rfl⟩ ?_ ?_
      · exact wk_eq (by simp [hE, rowL, lens]) (by simp [rowL]) (by simp [livH, livO, AV.livL, AV.liv, wkL, wkV, List.range', slotsOf, cloBy])
      · rintro ⟨k, d1⟩ ⟨g0, g1, g2, g3⟩
        simp only at g0 g1 g2 g3
        by_cases hk : T < k
        · obtain ⟨K, hK⟩ : ∃ K, K = k - 1 := ⟨_, rfl⟩
          have ewk : IntKind.i64.wrap ((k : Int) - 1) = (K : Nat) := by rw [IntWalk.i64_in _ (by omega)]; omega
          have hki : (T : Int) < k := by omega
          have hj : k < d1.length := by omega
          have hkk : K < d1.length := by omega
          have hJn : k < n := by omega
          have hKn : K < n := by omega
          obtain ⟨x, hx⟩ : ∃ x, x = d1[k] := ⟨_, rfl⟩
          obtain ⟨y, hy⟩ : ∃ y, y = d1[K] := ⟨_, rfl⟩
          have e1 := leasesA_at d1 k hj
          have e0 := leasesA_at d1 K hkk
          rw [← hx] at e1
          rw [← hy] at e0
          have el1 : k * 3 + 3 ≤ n * 3 := by omega
          have el0 : K * 3 + 3 ≤ n * 3 := by omega
          have hs1 := leasesA_set' d1 k hj y
          have hs2 := leasesA_set' (d1.set k y) K (by simpa using hkk) x
          have hsw : swp d1 k K = (d1.set k y).set K x := by rw [swp_at d1 hj hkk, ← hx, ← hy]
          simp [rowL, slotsOf, hho, hk, -List.reduceReplicate]
          refine draw_k hho (.take 0 (.take 1 (.take 2 (.take 3 (.take 4 (.take 5 (.take 6 (.take 7 (.take 8 (.take 9 (.take 10 (.take 11 (.take 12 (.take 13 (.take 14 (.alt 15 (.take 16 (.alt 17 (.done) (.nil))) (.nil))))))))))))))))) [0] [(15, [0]), (17, [0])] (by decide +kernel) (by simp) ?_
          simp (maxSteps := 1000000) [hho, roOf, holdOf, wrOf, altK, heldOk, Region.binds, g2, hJn, hKn, ewk, e0, e1, el0, el1, hs1, hs2, -List.reduceReplicate]
          intro E1 E2
          refine round_next (K, (d1.set k y).set K x) ⟨by simp only; omega, by simp only; omega, by simp [g2], ?_⟩ (by simp only; omega) ?_
          · show downF ((d1.set k y).set K x) T (K - T) = _
            rw [← g3]
            conv => rhs; rw [show k - T = (K - T) + 1 from by omega, downF, show T + (K - T) + 1 = k from by omega, show T + (K - T) = K from by omega, hsw]
          · exact wk_eq (by simp [hE, rowL, lens]) (by simp [rowL]) (by simp [livH, livO, AV.livL, AV.liv, wkL, wkV, List.range', slotsOf, cloBy])
        · simp [rowL, slotsOf, hho, hk, -List.reduceReplicate]
          have hz : k - T = 0 := by omega
          rw [hz] at g3
          refine Ret.same ⟨rfl, by rw [← g3]; rfl⟩
    · rintro ⟨i, j, g⟩ ⟨h1, h2, h3, h4, h5⟩
      simp only at h1 h2 h3 h4 h5
      by_cases hij : i < j
      · have eh : IntKind.i64.wrap ((IntKind.u64.wrap (IntKind.i64.wrap ((i : Int) + j))).fdiv (2 ^ min 1 IntKind.u64.bits)) = ((i + j) / 2 : Nat) := by rw [half_w _ (by omega) (by omega)]; omega
        obtain ⟨J, hJ⟩ : ∃ J, J = (i + j) / 2 := ⟨_, rfl⟩
        rw [← hJ] at eh
        rw [bsF_step _ _ _ _ hij h4, ← hJ] at h5
        have ewJ : IntKind.i64.wrap ((J : Int) + 1) = (J + 1 : Nat) := by rw [IntWalk.i64_in _ (by omega)]; rfl
        have hjd : m < d.length := by omega
        have hkd : J < d.length := by omega
        have hJn : m < n := by omega
        have hKn : J < n := by omega
        obtain ⟨x, hx⟩ : ∃ x, x = d[m] := ⟨_, rfl⟩
        obtain ⟨y, hy⟩ : ∃ y, y = d[J] := ⟨_, rfl⟩
        have e1 := leasesA_at d m hjd
        have e0 := leasesA_at d J hkd
        rw [← hx] at e1
        rw [← hy] at e0
        have el1 : m * 3 + 3 ≤ n * 3 := by omega
        have el0 : J * 3 + 3 ≤ n * 3 := by omega
        have hlt : ltAt ltL d m J = decide (x.s < y.s) := by rw [ltAt_at _ _ hjd hkd, ← hx, ← hy]; rfl
        simp [rowL, cloBy, slotsOf, hho, hij, eh, -List.reduceReplicate]
        refine draw_k hho (.take 0 (.take 1 (.take 2 (.take 3 (.take 4 (.take 5 (.take 6 (.take 7 (.take 8 (.alt 9 (.take 10 (.take 11 (.done))) (.nil))))))))))) [0] [] (by decide +kernel) (by simp) ?_
        simp (maxSteps := 1000000) [hho, roOf, holdOf, wrOf, altK, heldOk, Region.binds, ← hn, hJn, hKn, e0, e1, el0, el1, -List.reduceReplicate]
        intro E1
        refine call_plain (fun _ => false) (bySession_lease x y) (ha := by rfl) (by simp) ?_
        rintro r h' ⟨rfl, rfl⟩
        refine ⟨rfl, ?_⟩
        by_cases hxy : x.s < y.s
        · have hc : cmpI x.s y.s < 0 := (cmpI_neg _ _).2 hxy
          rw [if_neg (by rw [hlt]; simpa using hxy)] at h5
          simp (maxSteps := 1000000) [hho, roOf, holdOf, wrOf, altK, heldOk, Region.binds, hc, ewJ, -List.reduceReplicate]
          refine round_next (i, J, g - 1) ⟨h1, by simp only; omega, by simp only; omega, by simp only; omega, h5⟩ (by simp only; omega) ?_
          exact wk_eq (by simp [hE, rowL, lens]) (by simp [rowL]) (by simp [livH, livO, AV.livL, AV.liv, wkL, wkV, List.range', slotsOf, cloBy])
        · have hc : ¬ cmpI x.s y.s < 0 := fun h => hxy ((cmpI_neg _ _).1 h)
          rw [if_pos (by rw [hlt]; simpa using hxy)] at h5
          simp (maxSteps := 1000000) [hho, roOf, holdOf, wrOf, altK, heldOk, Region.binds, hc, ewJ, -List.reduceReplicate]
          refine round_next (J + 1, j, g - 1) ⟨by simp only; omega, by simp only; omega, h3, by simp only; omega, h5⟩ (by simp only; omega) ?_
          exact wk_eq (by simp [hE, rowL, lens]) (by simp [rowL]) (by simp [livH, livO, AV.livL, AV.liv, wkL, wkV, List.range', slotsOf, cloBy])
      · rw [bsF_done _ _ _ _ hij] at h5
        subst h5
        simp [rowL, cloBy, slotsOf, hho, hij, -List.reduceReplicate]
        exact exit_to () trivial (wk_eq (by simp [hE, rowL, lens]) (by simp [rowL]) (by simp [livH, livO, AV.livL, AV.liv, wkL, wkV, List.range', slotsOf, cloBy]))
  rw [if_neg c2]
  have c2i : ¬ ((b - m : Nat) : Int) = 1 := by omega
  obtain ⟨mid, hmid⟩ : ∃ mid, mid = (a + b) / 2 := ⟨_, rfl⟩
  obtain ⟨st, hst0⟩ : ∃ st, st = symStart ltL d a m b := ⟨_, rfl⟩
  have hst1 := hst0
  unfold symStart at hst1
  simp only [← hmid, ← hst0] at hst1 ⊢
  obtain ⟨s0, hs0⟩ : ∃ s0, s0 = if mid < m then mid + m - b else a := ⟨_, rfl⟩
  obtain ⟨r0, hr0⟩ : ∃ r0, r0 = if mid < m then mid else m := ⟨_, rfl⟩
  rw [← hs0, ← hr0] at hst1
  have hsr : s0 ≤ r0 := by rw [hs0, hr0]; split <;> omega
  have hrb : r0 ≤ b := by rw [hr0]; split <;> omega
  have k1 : s0 ≤ st := by rw [hst1]; exact bsF_ge ..
  have k2 : st ≤ r0 := by rw [hst1]; exact bsF_le _ _ _ _ hsr
  have hJK : ∀ c, s0 ≤ c → c < r0 → c + 1 ≤ mid + m ∧ mid + m - 1 - c < n ∧ c < n := by
    intro c e1 e2
    rw [hs0] at e1; rw [hr0] at e2
    split at e1 <;> rename_i hh
    · rw [if_pos hh] at e2; omega
    · rw [if_neg hh] at e2; omega
  have hen : mid + m - st ≤ b ∧ st ≤ mid ∧ st ≤ m ∧ a ≤ st := by
    rw [hs0] at k1; rw [hr0] at k2
    split at k1 <;> rename_i hh
    · rw [if_pos hh] at k2; omega
    · rw [if_neg hh] at k2; omega
  obtain ⟨en, hen0⟩ : ∃ en, en = mid + m - st := ⟨_, rfl⟩
  rw [← hen0] at hen ⊢
  have eh0 : IntKind.i64.wrap ((IntKind.u64.wrap (IntKind.i64.wrap ((a : Int) + b))).fdiv (2 ^ min 1 IntKind.u64.bits)) = (mid : Nat) := by rw [half_w _ (by omega) (by omega)]; omega
  have ewN : IntKind.i64.wrap ((mid : Int) + m) = (mid + m : Nat) := by rw [IntWalk.i64_in _ (by omega)]; rfl
  simp [rowL, cloBy, hho, ew1, ew2, c1i, c2i, eh0, ewN, -List.reduceReplicate]
  obtain ⟨N, hN⟩ : ∃ N, N = mid + m := ⟨_, rfl⟩
  refine seq_cut mixed [] (fun _ : Unit => ⟨slotsOf 220 [(0, .sl 0 3 0 n (n * 3)), (1, .c (.int .i64 a)), (2, .c (.int .i64 m)), (3, .c (.int .i64 b)), (4, cloBy), (18, .c (.int .i64 (mid : Nat))), (19, .c (.int .i64 (N : Nat))), (20, .c (.int .i64 (s0 : Nat))), (21, .c (.int .i64 (r0 : Nat)))], [rowL d]⟩) (fun _ => True) ?_ ?_
  rotate_left
  · have ewS : mid < m → IntKind.i64.wrap ((mid : Int) + m - b) = (mid + m - b : Nat) := fun _ => by rw [IntWalk.i64_in _ (by omega)]; omega
    simp [hho, -List.reduceReplicate]
    split
    · rename_i hh
      rw [if_pos hh] at hs0 hr0
      simp [hho, ewS hh, -List.reduceReplicate]
      refine cut_to () trivial (wk_eq (by simp [hE, rowL, lens]) (by simp [rowL]) (by simp [livH, livO, AV.livL, AV.liv, wkL, wkV, List.range', slotsOf, cloBy, hs0, hr0, hN]))
    · rename_i hh
      rw [if_neg hh] at hs0 hr0
      refine cut_to () trivial (wk_eq (by simp [hE, rowL, lens]) (by simp [rowL]) (by simp [livH, livO, AV.livL, AV.liv, wkL, wkV, List.range', slotsOf, cloBy, hs0, hr0, hN]))
  rintro _ _
  have ewP : IntKind.i64.wrap ((N : Int) - 1) = (N - 1 : Nat) := by rw [IntWalk.i64_in _ (by omega)]; omega
  simp [rowL, cloBy, slotsOf, hho, ewP, -List.reduceReplicate]
  refine loop_k2c [41, 43] mixed (fun x : Nat × Nat × Nat => ⟨slotsOf 220 [(0, .sl 0 3 0 n (n * 3)), (1, .c (.int .i64 a)), (2, .c (.int .i64 m)), (3, .c (.int .i64 b)), (4, cloBy), (18, .c (.int .i64 (mid : Nat))), (19, .c (.int .i64 (N : Nat))), (20, .c (.int .i64 (x.1 : Int))), (21, .c (.int .i64 (x.2.1 : Int))), (22, .c (.int .i64 (N - 1 : Nat)))], [rowL d]⟩) (fun x => x.2.1 - x.1) (fun x => s0 ≤ x.1 ∧ x.1 ≤ x.2.1 ∧ x.2.1 ≤ r0 ∧ x.2.1 - x.1 ≤ x.2.2 ∧ bsF (fun c => !(ltAt ltL d (mid + m - 1 - c) c)) x.2.2 x.1 x.2.1 = st) (s0, r0, b - a)
    (fun _ : Unit => ⟨slotsOf 220 [(0, .sl 0 3 0 n (n * 3)), (1, .c (.int .i64 a)), (2, .c (.int .i64 m)), (3, .c (.int .i64 b)), (4, cloBy), (18, .c (.int .i64 (mid : Nat))), (19, .c (.int .i64 (N : Nat))), (20, .c (.int .i64 (st : Int)))], [rowL d]⟩) (fun _ => True) 8 ⟨Nat.le_refl _, hsr, Nat.le_refl _, by simp only; rw [hs0, hr0]; split <;> omega, hst1.symm⟩ ?_ ?_ ?_
  · exact wk_eq (by simp [hE, rowL, lens]) (by simp [rowL]) (by simp [livH, livO, AV.livL, AV.liv, wkL, wkV, List.range', slotsOf, cloBy])
  · rintro _ _
    have ewe : IntKind.i64.wrap ((N : Int) - st) = (en : Nat) := by rw [IntWalk.i64_in _ (by omega)]; omega
    obtain ⟨d1, hd1⟩ : ∃ d1, d1 = if st < m ∧ m < en then rotS d st m en else d := ⟨_, rfl⟩
    rw [← hd1]
    have hl1 : n = d1.length := by rw [hd1]; split <;> simp [hn]
    obtain ⟨d2, hd2⟩ : ∃ d2, d2 = if a < st ∧ st < mid then symF ltL f d1 a st mid else d1 := ⟨_, rfl⟩
    rw [← hd2]
    have hl2 : n = d2.length := by rw [hd2]; split <;> simp [hl1]
    simp [rowL, cloBy, slotsOf, hho, ewe, -List.reduceReplicate]
    refine seq_cut mixed [] (fun _ : Unit => ⟨slotsOf 220 [(0, .sl 0 3 0 n (n * 3)), (1, .c (.int .i64 a)), (3, .c (.int .i64 b)), (4, cloBy), (18, .c (.int .i64 (mid : Nat))), (20, .c (.int .i64 (st : Int))), (24, .c (.int .i64 (en : Int)))], [rowL d1]⟩) (fun _ => True) ?_ ?_
    · rintro _ _
      simp [rowL, cloBy, slotsOf, hho, -List.reduceReplicate]
      refine seq_cut mixed [] (fun _ : Unit => ⟨slotsOf 220 [(0, .sl 0 3 0 n (n * 3)), (3, .c (.int .i64 b)), (4, cloBy), (18, .c (.int .i64 (mid : Nat))), (24, .c (.int .i64 (en : Int)))], [rowL d2]⟩) (fun _ => True) ?_ ?_
      · rintro _ _
        by_cases cc : mid < en ∧ en < b
        · rw [if_pos cc]
          have z1 : (mid : Int) < en := by omega
          have z2 : (en : Int) < b := by omega
          simp [rowL, cloBy, slotsOf, hho, cc.1, cc.2, -List.reduceReplicate]
          refine call_x [0] (ih d2 mid en b hl2 cc.1 cc.2 hbn (by omega)) rfl rfl ⟨rfl, rfl⟩ hho (by simp) (by decide) (by simp) (by simp) ?_
          simp [rowL, hho, -List.reduceReplicate]
          exact Ret.same ⟨rfl, rfl⟩
        · rw [if_neg cc]
          by_cases z1 : mid < en
          · have z2 : ¬ en < b := fun h => cc ⟨z1, h⟩
            simp [rowL, cloBy, slotsOf, hho, z1, z2, -List.reduceReplicate]
            exact Ret.same ⟨rfl, rfl⟩
          · simp [rowL, cloBy, slotsOf, hho, z1, undef, onGP_none, condG_false, -List.reduceReplicate]
            exact Ret.same ⟨rfl, rfl⟩
      · by_cases cc : a < st ∧ st < mid
        · rw [if_pos cc] at hd2
          simp [rowL, cloBy, slotsOf, hho, cc.1, cc.2, -List.reduceReplicate]
          refine call_x [0] (ih d1 a st mid hl1 cc.1 cc.2 (by omega) (by omega)) rfl rfl ⟨rfl, rfl⟩ hho (by simp) (by decide) (by simp) (by simp) ?_
          simp [rowL, hho, -List.reduceReplicate]
          exact cut_to () trivial (wk_eq (by simp [hE, rowL, lens]) (by simp [rowL, hd2]) (by simp [livH, livO, AV.livL, AV.liv, wkL, wkV, List.range', slotsOf, cloBy]))
        · rw [if_neg cc] at hd2
          by_cases z1 : a < st
          · have z2 : ¬ st < mid := fun h => cc ⟨z1, h⟩
            simp [rowL, cloBy, slotsOf, hho, z1, z2, -List.reduceReplicate]
            exact cut_to () trivial (wk_eq (by simp [hE, rowL, lens]) (by simp [rowL, hd2]) (by simp [livH, livO, AV.livL, AV.liv, wkL, wkV, List.range', slotsOf, cloBy]))
          · simp [rowL, cloBy, slotsOf, hho, z1, undef, onGP_none, condG_false, -List.reduceReplicate]
            exact cut_to () trivial (wk_eq (by simp [hE, rowL, lens]) (by simp [rowL, hd2]) (by simp [livH, livO, AV.livL, AV.liv, wkL, wkV, List.range', slotsOf, cloBy]))
    · by_cases cc : st < m ∧ m < en
      · rw [if_pos cc] at hd1
        simp [rowL, cloBy, slotsOf, hho, cc.1, cc.2, -List.reduceReplicate]
        refine call_x [0] (rotate_lease d n hn (by omega) st m en cc.1 cc.2 (by omega)) rfl rfl ⟨rfl, rfl⟩ hho (by simp) (by decide) (by simp) (by simp) ?_
        simp [rowL, hho, -List.reduceReplicate]
        exact cut_to () trivial (wk_eq (by simp [hE, rowL, lens]) (by simp [rowL, hd1]) (by simp [livH, livO, AV.livL, AV.liv, wkL, wkV, List.range', slotsOf, cloBy]))
      · rw [if_neg cc] at hd1
        by_cases z1 : st < m
        · have z2 : ¬ m < en := fun h => cc ⟨z1, h⟩
          simp [rowL, cloBy, slotsOf, hho, z1, z2, -List.reduceReplicate]
          exact cut_to () trivial (wk_eq (by simp [hE, rowL, lens]) (by simp [rowL, hd1]) (by simp [livH, livO, AV.livL, AV.liv, wkL, wkV, List.range', slotsOf, cloBy]))
        · simp [rowL, cloBy, slotsOf, hho, z1, undef, onGP_none, condG_false, -List.reduceReplicate]
          exact cut_to () trivial (wk_eq (by simp [hE, rowL, lens]) (by simp [rowL, hd1]) (by simp [livH, livO, AV.livL, AV.liv, wkL, wkV, List.range', slotsOf, cloBy]))
  · rintro ⟨i, j, g⟩ ⟨h1, h2, h3, h4, h5⟩
    simp only at h1 h2 h3 h4 h5
    by_cases hij : i < j
    · have eh : IntKind.i64.wrap ((IntKind.u64.wrap (IntKind.i64.wrap ((i : Int) + j))).fdiv (2 ^ min 1 IntKind.u64.bits)) = ((i + j) / 2 : Nat) := by rw [half_w _ (by omega) (by omega)]; omega
      obtain ⟨K, hK⟩ : ∃ K, K = (i + j) / 2 := ⟨_, rfl⟩
      obtain ⟨J, hJ⟩ : ∃ J, J = mid + m - 1 - K := ⟨_, rfl⟩
      obtain ⟨q1, q2, q3⟩ := hJK K (by omega) (by omega)
      rw [← hK] at eh
      rw [bsF_step _ _ _ _ hij h4, ← hK] at h5
      have ewK : IntKind.i64.wrap ((K : Int) + 1) = (K + 1 : Nat) := by rw [IntWalk.i64_in _ (by omega)]; rfl
      have ewJ : IntKind.i64.wrap (((N - 1 : Nat) : Int) - K) = (J : Nat) := by rw [IntWalk.i64_in _ (by omega)]; omega
      simp only [← hJ] at h5
      have hjd : J < d.length := by omega
      have hkd : K < d.length := by omega
      have hJn : J < n := by omega
      have hKn : K < n := by omega
      obtain ⟨x, hx⟩ : ∃ x, x = d[J] := ⟨_, rfl⟩
      obtain ⟨y, hy⟩ : ∃ y, y = d[K] := ⟨_, rfl⟩
      have e1 := leasesA_at d J hjd
      have e0 := leasesA_at d K hkd
      rw [← hx] at e1
      rw [← hy] at e0
      have el1 : J * 3 + 3 ≤ n * 3 := by omega
      have el0 : K * 3 + 3 ≤ n * 3 := by omega
      have hlt : ltAt ltL d J K = decide (x.s < y.s) := by rw [ltAt_at _ _ hjd hkd, ← hx, ← hy]; rfl
      simp [rowL, cloBy, slotsOf, hho, hij, eh, -List.reduceReplicate]
      refine draw_k hho (.take 0 (.take 1 (.take 2 (.take 3 (.take 4 (.take 5 (.take 6 (.take 7 (.take 8 (.take 9 (.take 10 (.alt 11 (.take 12 (.take 13 (.done))) (.nil))))))))))))) [0] [] (by decide +kernel) (by simp) ?_
      simp (maxSteps := 1000000) [hho, ewJ, ← hn, hJn, hKn, e0, e1, el0, el1, roOf, holdOf, wrOf, altK, heldOk, Region.binds, -List.reduceReplicate]
      intro E1
      refine call_plain (fun _ => false) (bySession_lease x y) (ha := by rfl) (by simp) ?_
      rintro r h' ⟨rfl, rfl⟩
      refine ⟨rfl, ?_⟩
      by_cases hxy : x.s < y.s
      · have hc : cmpI x.s y.s < 0 := (cmpI_neg _ _).2 hxy
        rw [if_neg (by rw [hlt]; simpa using hxy)] at h5
        simp (maxSteps := 1000000) [hho, hc, ewK, roOf, holdOf, wrOf, altK, heldOk, Region.binds, -List.reduceReplicate]
        refine round_next (i, K, g - 1) ⟨h1, by simp only; omega, by simp only; omega, by simp only; omega, h5⟩ (by simp only; omega) ?_
        exact wk_eq (by simp [hE, rowL, lens]) (by simp [rowL]) (by simp [livH, livO, AV.livL, AV.liv, wkL, wkV, List.range', slotsOf, cloBy])
      · have hc : ¬ cmpI x.s y.s < 0 := fun h => hxy ((cmpI_neg _ _).1 h)
        rw [if_pos (by rw [hlt]; simpa using hxy)] at h5
        simp (maxSteps := 1000000) [hho, hc, ewK, roOf, holdOf, wrOf, altK, heldOk, Region.binds, -List.reduceReplicate]
        refine round_next (K + 1, j, g - 1) ⟨by simp only; omega, by simp only; omega, h3, by simp only; omega, h5⟩ (by simp only; omega) ?_
        exact wk_eq (by simp [hE, rowL, lens]) (by simp [rowL]) (by simp [livH, livO, AV.livL, AV.liv, wkL, wkV, List.range', slotsOf, cloBy])
    · rw [bsF_done _ _ _ _ hij] at h5
      subst h5
      simp [rowL, cloBy, slotsOf, hho, hij, -List.reduceReplicate]
      exact exit_to () trivial (wk_eq (by simp [hE, rowL, lens]) (by simp [rowL]) (by simp [livH, livO, AV.livL, AV.liv, wkL, wkV, List.range', slotsOf, cloBy]))
end Go.Proofs.Ytglhmhpaoebifaa
