import Derived.Test.YtniifindnnfkaaaDoorCF
namespace Go.Proofs.YtniifindnnfkaaaDoor
set_option linter.unusedVariables false
set_option linter.unusedSimpArgs false
open Go.RowKit
attribute [local simp] isCut_nil isCut_region isCut_seq isCut_block isCut_loop isCut_cond isCut_skip isCut_exit isCut_ret isCut_range swapK putK altK condK_bool pickP_bool stepP stepO onPure_some onPure_none onImpl_some onImpl_none stepC onGP_some onGP_none onGV_some condG mkG onIt_it nextP_ptr takeP_eq takeV_some takeV_none takeU_some takeU_none takeQ takeW_some takeN_none takeN_some takeG_some takeO_some altO_some pureV binV2 eqF eqOp ovlV ovl2 rowAt capV binV intBin strBin isSh shV fldV ixV sliceV slice3V loadAV nilV lenV callV unV convV viewS cellsH loadV fldCut AV.ung AV.ungs AV.gc AV.cells AS.ev AS.put anyS gcsV lens lnO gV guardV retK RetP_eq resV oneV anyRo loIx hiIx implO callP_clo evL gcsL clearV storeAV AS.push AS.setO appV appZ shortS copyV buildV partsV fillV srcV fzO okV isCell_c isCell_ptr isCell_sl isCell_fs isCell_fp isCell_clo rowZ_one rowZ_zero rowZ_2 rowZ_3 rowZ_4 rowZ_5 rowZ_6 rowZ_7 rowZ_8 rowZ_9 rowZ_10 rowZ_11 rowZ_12 noHo Value.oneCell' max2V min2V lookV updV lenM msAt afterH putBack frzFrom frzO rebO backIx nilEq_sl nilEq_fs nilOp_eql nilOp_neq AV.reb AV.rebL
attribute [local simp ↓] runK_skip runK_region runK_draw runK_seq runK_cut runK_cond runK_block runK_loop runK_exit runK_label runK_goto runK_ret runK_range contK_nil contK_seq contK_seq_ret contK_seq_exit contK_seq_goto contK_block contK_block_ret contK_block_goto contK_block_exit runO_nil runO_cons roundK_exit roundK_ret roundK_goto exitK_ret cutK_ret cutK_exit runE_done runE_nil runE_take runE_alt condG_true condG_false
set_option maxRecDepth 10000
/-! ## Reader.Number -/
theorem or_step (v d : Nat) (hd : d < 256) (hv : v * 256 + d < 9223372036854775808) : IntKind.i64.wrap ↑((IntKind.i64.wrap ((v : Int) * 2 ^ min 8 IntKind.i64.bits) % 2 ^ IntKind.i64.bits).toNat ||| (IntKind.i64.wrap (d : Int) % 2 ^ IntKind.i64.bits).toNat) = ((v * 256 + d : Nat) : Int) := by
  have e : (2 : Int) ^ min 8 IntKind.i64.bits = 256 := by decide
  have e2 : (2 : Int) ^ IntKind.i64.bits = 18446744073709551616 := by decide
  rw [e, e2, IntWalk.i64_in ((v : Int) * 256) (by omega), IntWalk.i64_in (d : Int) (by omega)]
  have a1 : (((v : Int) * 256) % 18446744073709551616).toNat = v * 256 := by omega
  have a2 : ((d : Int) % 18446744073709551616).toNat = d := by omega
  have a3 : v * 256 ||| d = v * 256 + d := by
    have := Nat.shiftLeft_add_eq_or_of_lt (i := 8) (b := d) (by omega) v
    rw [Nat.shiftLeft_eq, show (2:Nat)^8 = 256 from rfl] at this
    omega
  rw [a1, a2, a3]
  exact IntWalk.i64_in _ (by omega)
theorem rdS_some (l : List UInt8) : rdS (some l) = [.o .box [.fs 1 l.length (u8av l), .c (.bool false)]] := rfl
theorem rdS_none : rdS none = [.o .box [.c (.slice none 0 0), .c (.bool true)]] := rfl
set_option maxHeartbeats 8000000 in
theorem number_r (s : Option (List UInt8)) (hs : ∀ l, s = some l → l.length ≤ 1000000000) : ACalls Tryd.prog 30 [.ptr 0 0 2] (rdS s) (fun k => decide (k < 1)) (fun r h' => r = .c (.int .i64 (rnumS s).1) ∧ h' = rdS (rnumS s).2) := by
  refine acallsC [12] mixed Tryd.func30 rfl Tryd.ntmps30 rfl fun E hE hst hho => ?_
  cases s with
  | none =>
    have ht := take_r_none 1
    simp (maxSteps := 1000000) [rdS_some, rdS_none, hho, noHo, -List.reduceReplicate]
    refine call_x [0] ht rfl rfl ⟨rfl, rfl⟩ hho (by simp) (by decide) (by simp) (by simp [rdS]) ?_
    simp (maxSteps := 1000000) [rdS_some, rdS_none, hho, -List.reduceReplicate]
    exact Ret.same ⟨rfl, rfl⟩
  | some b =>
  have hbl := hs b rfl
  rcases b with _ | ⟨h, t⟩
  · have ht := take_r_bad [] (by simp) 1 (by simp)
    simp (maxSteps := 1000000) [rdS_some, rdS_none, hho, noHo, -List.reduceReplicate]
    refine call_x [0] ht rfl rfl ⟨rfl, rfl⟩ hho (by simp) (by decide) (by simp) (by simp [rdS]) ?_
    simp (maxSteps := 1000000) [rdS_some, rdS_none, hho, -List.reduceReplicate]
    exact Ret.same ⟨rfl, rfl⟩
  have htl : t.length ≤ 1000000000 := by simp at hbl; omega
  have ht := take_r (h :: t) hbl 1 (by simp)
  rw [show (h :: t).take 1 = [h] from rfl, show (h :: t).drop 1 = t from rfl] at ht
  obtain ⟨n, hn⟩ : ∃ n, n = h.toNat % 128 := ⟨_, rfl⟩
  have h256 := h.toNat_lt
  obtain ⟨K, hK⟩ : ∃ K, K = h.toNat % 16 := ⟨_, rfl⟩
  obtain ⟨M, hM⟩ : ∃ M, M = h.toNat % 128 / 16 * 16 := ⟨_, rfl⟩
  have e15 := and15 h
  have e143 := andNot143 h
  rw [← hK] at e15
  rw [← hM] at e143
  simp [bits] at e15 e143
  have hf := fail_r (some t)
  simp (maxSteps := 1000000) [rdS_some, rdS_none, hho, noHo, -List.reduceReplicate]
  refine call_x [0] ht rfl rfl ⟨rfl, rfl⟩ hho (by simp) (by decide) (by simp) (by simp [rdS]) ?_
  by_cases h16 : 16 ≤ n
  · have hr : rnumS (some (h :: t)) = (0, none) := by simp [rnumS, rnum, ← hn, show 8 < n by omega]
    have hz : ¬ M = 0 := by omega
    rw [hr]
    simp (maxSteps := 1000000) [rdS_some, rdS_none, hho, noHo, u8av_cons, e15, e143, hz, undef, onGP_none, condG_false, -List.reduceReplicate]
    refine call_x [0] hf rfl rfl ⟨rfl, rfl⟩ hho (by simp) (by decide) (by simp) (by simp [rdS]) ?_
    simp (maxSteps := 1000000) [rdS_some, rdS_none, hho, -List.reduceReplicate]
    exact Ret.same ⟨rfl, rfl⟩
  · have hz : M = 0 := by omega
    obtain rfl : K = n := by omega
    have ewn : IntKind.i64.wrap (K : Int) = (K : Int) := IntWalk.i64_in _ (by omega)
    rw [hz] at e143
    simp at e143
    by_cases h8 : 8 < K
    · have h8' : (8 : Int) < K := by omega
      have hr : rnumS (some (h :: t)) = (0, none) := by simp [rnumS, rnum, ← hn, h8]
      rw [hr]
      simp (maxSteps := 1000000) [rdS_some, rdS_none, hho, noHo, u8av_cons, e15, e143, ewn, h8', undef, onGP_none, condG_false, -List.reduceReplicate]
      refine call_x [0] hf rfl rfl ⟨rfl, rfl⟩ hho (by simp) (by decide) (by simp) (by simp [rdS]) ?_
      simp (maxSteps := 1000000) [rdS_some, rdS_none, hho, -List.reduceReplicate]
      exact Ret.same ⟨rfl, rfl⟩
    · have h8' : ¬ (8 : Int) < K := by omega
      have Hr := rnumS_cons h t K hn h8
      simp (maxSteps := 1000000) [rdS_some, rdS_none, hho, noHo, u8av_cons, e15, e143, ewn, h8', undef, onGP_none, condG_false, -List.reduceReplicate]
      by_cases hfar : t.length < K
      · have htb := take_r_bad t htl K (.inr (by omega))
        have hfn := fail_r none
        rw [if_pos hfar] at Hr
        rw [Hr]
        refine call_x [0] htb rfl rfl ⟨rfl, rfl⟩ hho (by simp) (by decide) (by simp) (by simp [rdS]) ?_
        simp (maxSteps := 1000000) [rdS_some, rdS_none, hho, undef, onGP_none, condG_false, -List.reduceReplicate]
        refine seq_cut mixed [] (fun _ : Unit => ⟨slotsOf 83 [], []⟩) (fun _ => False) (fun _ h => h.elim) ?_
        simp (maxSteps := 1000000) [rdS_some, rdS_none, hho, undef, onGP_none, condG_false, -List.reduceReplicate]
        refine call_x [0] hfn rfl rfl ⟨rfl, rfl⟩ hho (by simp) (by decide) (by simp) (by simp [rdS]) ?_
        simp (maxSteps := 1000000) [rdS_some, rdS_none, hho, -List.reduceReplicate]
        exact Ret.same ⟨rfl, rfl⟩
      · have htg := take_r t htl K (by omega)
        rw [if_neg hfar] at Hr
        have hdl : (t.take K).length = K := by rw [List.length_take]; omega
        obtain ⟨ds, hds⟩ : ∃ ds, ds = t.take K := ⟨_, rfl⟩
        obtain ⟨re, hre⟩ : ∃ re, re = t.drop K := ⟨_, rfl⟩
        rw [← hds, ← hre] at Hr htg
        rw [← hds] at hdl
        refine call_x [0] htg rfl rfl ⟨rfl, rfl⟩ hho (by simp) (by decide) (by simp) (by simp [rdS]) ?_
        simp (maxSteps := 1000000) [rdS_some, rdS_none, hho, undef, onGP_none, condG_false, -List.reduceReplicate]
        refine seq_cut mixed [] (fun _ : Unit => ⟨slotsOf 83 [(3, .fs 1 1 [.c (.int .u8 h.toNat)]), (6, .fs 1 K (u8av ds))], rdS (some re)⟩) (fun _ => badLead ds = false) ?_ ?_
        · rintro _ hb
          have hsm : ∀ k, be (ds.take k) < 9223372036854775808 := be_small ds (by omega) fun d l e1 e2 => by
            rw [e1] at hb
            simp only [badLead, List.head?_cons, Option.any_some, Bool.or_eq_false_iff, Bool.and_eq_false_iff] at hb
            rcases hb.2 with h9 | h9
            · rw [e1] at e2; simp [e2] at h9
            · simp [UInt8.le_iff_toNat_le] at h9; omega
          rw [hb, if_neg (by decide)] at Hr
          rw [Hr]
          simp (maxSteps := 1000000) [slotsOf, rdS_some, rdS_none, hho, -List.reduceReplicate]
          refine loop_k mixed (fun k : Nat => ⟨slotsOf 83 [(3, .fs 1 1 [.c (.int .u8 h.toNat)]), (7, .c (.int .i64 (be (ds.take k) : Nat))), (63, .fs 1 K (u8av ds)), (64, .c (.int .i64 K)), (65, .c (.int .i64 (k : Nat)))], rdS (some re)⟩) (fun k => K - k) (fun k => k ≤ K) 0 (Nat.zero_le _) ?_ ?_
          · exact wk_eq (by simp [hE, lens, rdS_some]) (by simp [rdS_some]) (by simp [livH, livO, AV.livL, AV.liv, wkL, wkV, List.range', slotsOf, be])
          · intro k hk
            by_cases hkn : k < K
            · have hat := u8av_at1 ds k (by omega)
              have hst := be_step ds k (by omega)
              have hsm1 := hsm (k + 1)
              have hd256 := ds[k].toNat_lt
              rw [hst] at hsm1
              have hor := or_step (be (ds.take k)) ds[k].toNat (by omega) (by omega)
              rw [← hst] at hor
              have ew : IntKind.i64.wrap ((k : Int) + 1) = (k + 1 : Nat) := by rw [IntWalk.i64_in _ (by omega)]; rfl
              simp (maxSteps := 1000000) [slotsOf, rdS_some, hho, hkn, hat, ew, hor, -List.reduceReplicate]
              refine round_next (k + 1) (by omega) (by omega) ?_
              exact wk_eq (by simp [hE, lens, rdS_some]) (by simp [rdS_some]) (by simp [livH, livO, AV.livL, AV.liv, wkL, wkV, List.range', slotsOf])
            · obtain rfl : k = K := by omega
              have htk : ds.take k = ds := List.take_of_length_le (by omega)
              have hv := hsm ds.length
              rw [List.take_length] at hv
              rw [htk]
              have e128 := and128 h
              by_cases hs : 128 ≤ h.toNat
              · rw [if_pos hs] at e128 ⊢
                simp [bits] at e128
                have en := not_i64 (be ds) (by omega) (by omega)
                simp [bits] at en
                simp (maxSteps := 1000000) [slotsOf, rdS_some, hho, e128, -List.reduceReplicate]
                refine Ret.same ⟨?_, rfl⟩
                rw [if_pos (show IntKind.i64.signed = true from rfl), en]
              · rw [if_neg hs] at e128 ⊢
                simp [bits] at e128
                simp (maxSteps := 1000000) [slotsOf, rdS_some, hho, e128, -List.reduceReplicate]
                exact Ret.same ⟨rfl, rfl⟩
        · have hf2 := fail_r (some re)
          by_cases hK0 : K = 0
          · have hds0 : ds = [] := List.eq_nil_of_length_eq_zero (by omega)
            have hK0' : ¬ 0 < K := by omega
            have hK8 : ¬ (K : Int) = 8 := by omega
            subst hds0
            simp (maxSteps := 1000000) [rdS_some, rdS_none, hho, undef, onGP_none, condG_false, hK0', hK8, -List.reduceReplicate]
            exact cut_to () (by simp [badLead]) (wk_eq (by simp [hE, lens, rdS_some]) (by simp [rdS_some]) (by simp [livH, livO, AV.livL, AV.liv, wkL, wkV, List.range', slotsOf]))
          · have hKp : 0 < K := by omega
            rcases ds with _ | ⟨d0, dt⟩
            · simp at hdl; omega
            have hd256 := d0.toNat_lt
            by_cases hz : d0 = 0
            · have hbd : badLead (d0 :: dt) = true := by simp [badLead, hz]
              have hz' : d0.toNat = 0 := by rw [hz]; rfl
              rw [Hr, if_pos hbd]
              simp (maxSteps := 1000000) [rdS_some, rdS_none, hho, u8av_cons, undef, onGP_none, condG_false, hKp, hz', -List.reduceReplicate]
              refine call_x [0] hf2 rfl rfl ⟨rfl, rfl⟩ hho (by simp) (by decide) (by simp) (by simp [rdS]) ?_
              simp (maxSteps := 1000000) [rdS_some, rdS_none, hho, -List.reduceReplicate]
              exact Ret.same ⟨rfl, rfl⟩
            · have hz' : ¬ d0.toNat = 0 := fun e => hz (UInt8.toNat_inj.1 (by simpa using e))
              by_cases hK8 : (K : Int) = 8
              · have hK8' : ((K : Int) = 8) = True := eq_true hK8
                by_cases hd : (128 : Int) ≤ d0.toNat
                · have hbd : badLead (d0 :: dt) = true := by
                    simp [badLead, UInt8.le_iff_toNat_le]
                    right
                    simp at hdl
                    omega
                  rw [Hr, if_pos hbd]
                  simp (maxSteps := 1000000) [rdS_some, rdS_none, hho, u8av_cons, undef, onGP_none, condG_false, hKp, hz', hK8', hd, -List.reduceReplicate]
                  refine call_x [0] hf2 rfl rfl ⟨rfl, rfl⟩ hho (by simp) (by decide) (by simp) (by simp [rdS]) ?_
                  simp (maxSteps := 1000000) [rdS_some, rdS_none, hho, -List.reduceReplicate]
                  exact Ret.same ⟨rfl, rfl⟩
                · have hbd : badLead (d0 :: dt) = false := badLead_no hz fun e => by omega
                  simp (maxSteps := 1000000) [rdS_some, rdS_none, hho, u8av_cons, undef, onGP_none, condG_false, hKp, hz', hK8', hd, -List.reduceReplicate]
                  exact cut_to () hbd (wk_eq (by simp [hE, lens, rdS_some]) (by simp [rdS_some]) (by simp [livH, livO, AV.livL, AV.liv, wkL, wkV, List.range', slotsOf, u8av_cons]))
              · have hbd : badLead (d0 :: dt) = false := badLead_no hz fun e => by omega
                simp (maxSteps := 1000000) [rdS_some, rdS_none, hho, u8av_cons, undef, onGP_none, condG_false, hKp, hz', hK8, -List.reduceReplicate]
                exact cut_to () hbd (wk_eq (by simp [hE, lens, rdS_some]) (by simp [rdS_some]) (by simp [livH, livO, AV.livL, AV.liv, wkL, wkV, List.range', slotsOf, u8av_cons]))
end Go.Proofs.YtniifindnnfkaaaDoor
