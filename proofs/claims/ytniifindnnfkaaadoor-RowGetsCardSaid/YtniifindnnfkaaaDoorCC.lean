import Derived.Test.YtniifindnnfkaaaDoorCB
namespace Go.Proofs.YtniifindnnfkaaaDoor
set_option linter.unusedVariables false
set_option linter.unusedSimpArgs false
open Go.RowKit
attribute [local simp] isCut_nil isCut_region isCut_seq isCut_block isCut_loop isCut_cond isCut_skip isCut_exit isCut_ret isCut_range swapK putK altK condK_bool pickP_bool stepP stepO onPure_some onPure_none onImpl_some onImpl_none stepC onGP_some onGP_none onGV_some condG mkG onIt_it nextP_ptr takeP_eq takeV_some takeV_none takeU_some takeU_none takeQ takeW_some takeN_none takeN_some takeG_some takeO_some altO_some pureV binV2 eqF eqOp ovlV ovl2 rowAt capV binV intBin strBin isSh shV fldV ixV sliceV slice3V loadAV nilV lenV callV unV convV viewS cellsH loadV fldCut AV.ung AV.ungs AV.gc AV.cells AS.ev AS.put anyS gcsV lens lnO gV guardV retK RetP_eq resV oneV anyRo loIx hiIx implO callP_clo evL gcsL clearV storeAV AS.push AS.setO appV appZ shortS copyV buildV partsV fillV srcV fzO okV isCell_c isCell_ptr isCell_sl isCell_fs isCell_fp isCell_clo rowZ_one rowZ_zero rowZ_2 rowZ_3 rowZ_4 rowZ_5 rowZ_6 rowZ_7 rowZ_8 rowZ_9 rowZ_10 rowZ_11 rowZ_12 noHo Value.oneCell' max2V min2V lookV updV lenM msAt afterH putBack frzFrom frzO rebO backIx nilEq_sl nilEq_fs nilOp_eql nilOp_neq AV.reb AV.rebL
attribute [local simp ↓] runK_skip runK_region runK_draw runK_seq runK_cut runK_cond runK_block runK_loop runK_exit runK_label runK_goto runK_ret runK_range contK_nil contK_seq contK_seq_ret contK_seq_exit contK_seq_goto contK_block contK_block_ret contK_block_goto contK_block_exit runO_nil runO_cons roundK_exit roundK_ret roundK_goto exitK_ret cutK_ret cutK_exit runE_done runE_nil runE_take runE_alt condG_true condG_false
set_option maxRecDepth 10000
/-! ## The reference's Get -/
theorem getS_cons (h : UInt8) (t : List UInt8) (n : Nat) (hn : n = h.toNat % 128) (h8 : ¬ 8 < n) :
    getS (h :: t) = if t.length < n then (0, 0) else if badLead (t.take n) then (0, 0) else (if 128 ≤ h.toNat then -1 - (be (t.take n) : Int) else be (t.take n), 1 + n) := by
  subst hn
  simp only [getS, rnum, if_neg h8]
  by_cases h1 : t.length < h.toNat % 128
  · simp [h1]
  · by_cases h2 : badLead (t.take (h.toNat % 128)) = true
    · simp [h1, h2]
    · simp only [if_neg h1, if_neg h2, List.length_drop, List.length_cons]
      congr 1
      omega
def GoodN (t : List UInt8) (n : Nat) : Prop := n ≤ 8 ∧ ¬ t.length < n ∧ badLead (t.take n) = false
theorem u8av_cons (x : UInt8) (t : List UInt8) : u8av (x :: t) = AV.c (.int .u8 x.toNat) :: u8av t := by simp [u8av, u8]
theorem u8av_at1 (l : List UInt8) (k : Nat) (hk : k < l.length) : List.take 1 (List.drop k (u8av l)) = [AV.c (.int .u8 l[k].toNat)] := by
  rw [List.drop_eq_getElem_cons (by simpa using hk), List.take_succ_cons, List.take_zero, u8av_getE]
set_option maxHeartbeats 8000000 in
theorem ref1get_w (b : List UInt8) (hb : b.length ≤ 1000000000) : ACalls Tryd.prog 35 [.fs 1 b.length (u8av b)] [] (fun _ => false) (fun r h' => r = .tup [.c (.int .i64 (getS b).1), .c (.int .i64 (getS b).2)] ∧ h' = []) := by
  refine acallsC [6] mixed Tryd.func35 rfl Tryd.ntmps35 rfl fun E hE hst hho => ?_
  rcases b with _ | ⟨h, t⟩
  · simp (maxSteps := 1000000) [hho, noHo, undef, onGP_none, condG_false, -List.reduceReplicate]
    exact Ret.same ⟨rfl, rfl⟩
  obtain ⟨N, hN⟩ : ∃ N, N = t.length + 1 := ⟨_, rfl⟩
  have hNb : N ≤ 1000000000 := by rw [hN]; simpa using hb
  have hl : (h :: t).length = N := by rw [hN]; rfl
  rw [hl]
  obtain ⟨n, hn⟩ : ∃ n, n = h.toNat % 128 := ⟨_, rfl⟩
  have h256 := h.toNat_lt
  have hm := tmod_nat h.toNat 128
  simp only [Int.cast_ofNat_Int] at hm
  rw [← hn] at hm
  have hN0 : ¬ N = 0 := by omega
  have hN1 : 0 < N := by omega
  have ewn : IntKind.i64.wrap (1 + (n : Int)) = 1 + (n : Int) := IntWalk.i64_in _ (by omega)
  have ewn2 : IntKind.i64.wrap (n : Int) = (n : Int) := IntWalk.i64_in _ (by omega)
  by_cases h8 : 8 < n
  · have hv : getS (h :: t) = (0, 0) := by simp [getS, rnum, ← hn, h8]
    have h8' : (8 : Int) < n := by omega
    rw [hv]
    simp (maxSteps := 1000000) [hho, noHo, undef, onGP_none, condG_false, u8av_cons, hm, hN0, hN1, h8', -List.reduceReplicate]
    exact Ret.same ⟨rfl, rfl⟩
  have h8' : ¬ (8 : Int) < n := by omega
  simp (maxSteps := 1000000) [hho, noHo, undef, onGP_none, condG_false, u8av_cons, hm, hN0, hN1, h8', ewn, ewn2, -List.reduceReplicate]
  refine seq_cut mixed [] (fun _ : Unit => ⟨slotsOf 69 [(0, .fs 1 N (u8av (h :: t))), (4, .c (.int .i64 n))], []⟩) (fun _ => GoodN t n) ?_ ?_
  · rintro _ ⟨g1, g2, g3⟩
    have Hr := getS_cons h t n hn (by omega)
    rw [if_neg g2, g3, if_neg (by decide)] at Hr
    have hsm : ∀ k, be ((t.take n).take k) < 9223372036854775808 := be_small (t.take n) (by rw [List.length_take]; omega) fun d l e1 e2 => by
      rw [e1] at g3
      simp only [badLead, List.head?_cons, Option.any_some, Bool.or_eq_false_iff, Bool.and_eq_false_iff] at g3
      rcases g3.2 with h9 | h9
      · rw [e1] at e2; simp [e2] at h9
      · simp [UInt8.le_iff_toNat_le] at h9; omega
    have hdl : (t.take n).length = n := by rw [List.length_take]; omega
    obtain ⟨ds, hds⟩ : ∃ ds, ds = t.take n := ⟨_, rfl⟩
    rw [← hds] at Hr hsm hdl
    rw [Hr]
    simp (maxSteps := 1000000) [slotsOf, hho, -List.reduceReplicate]
    refine loop_k mixed (fun k : Nat => ⟨slotsOf 69 [(0, .fs 1 N (u8av (h :: t))), (4, .c (.int .i64 n)), (5, .c (.int .i64 (be (ds.take k) : Nat))), (6, .c (.int .i64 ((k + 1 : Nat) : Int)))], []⟩) (fun k => n - k) (fun k => k ≤ n) 0 (Nat.zero_le _) ?_ ?_
    · exact wk_eq (by simp [hE, lens]) (by simp) (by simp [livH, livO, AV.livL, AV.liv, wkL, wkV, List.range', slotsOf, be])
    · intro k hk
      by_cases hkn : k < n
      · have hat := u8av_at1 (h :: t) (k + 1) (by simp; omega)
        have hs := be_step ds k (by omega)
        have hsm1 := hsm (k + 1)
        have hd256 := ds[k].toNat_lt
        have hdk : (h :: t)[k + 1]'(by simp; omega) = ds[k] := by subst hds; simp [List.getElem_take]
        rw [hdk] at hat
        rw [hs] at hsm1
        obtain ⟨v, hv⟩ : ∃ v, v = be (ds.take k) := ⟨_, rfl⟩
        rw [← hv] at hs hsm1
        have kk : (k : Int) + 1 ≤ n := by omega
        have kN : k + 1 < N := by omega
        have ew1 : IntKind.i64.wrap (256 * (v : Int)) = 256 * (v : Int) := IntWalk.i64_in _ (by omega)
        have ew2 : IntKind.i64.wrap (ds[k].toNat : Int) = (ds[k].toNat : Int) := IntWalk.i64_in _ (by omega)
        have ew3 : IntKind.i64.wrap (256 * (v : Int) + (ds[k].toNat : Int)) = 256 * (v : Int) + (ds[k].toNat : Int) := IntWalk.i64_in _ (by omega)
        have ew4 : IntKind.i64.wrap ((k : Int) + 1 + 1) = ((k + 1 + 1 : Nat) : Int) := by rw [IntWalk.i64_in _ (by omega)]; omega
        rw [← hv]
        simp (maxSteps := 1000000) [slotsOf, hho, kk, kN, hat, ew1, ew2, ew3, ew4, -List.reduceReplicate]
        refine ⟨⟨by omega, by omega⟩, ?_⟩
        refine round_next (k + 1) (by omega) (by omega) ?_
        exact wk_eq (by simp [hE, lens]) (by simp) (by simp [livH, livO, AV.livL, AV.liv, wkL, wkV, List.range', slotsOf, hs, Int.mul_comm])
      · obtain rfl : k = n := by omega
        have hv := hsm ds.length
        rw [List.take_length] at hv
        have hkk : ¬ ((k : Int) + 1 ≤ k) := by omega
        have htk : ds.take k = ds := List.take_of_length_le (by omega)
        rw [htk]
        by_cases hs : 128 ≤ h.toNat
        · have hs' : (127 : Int) < h.toNat := by omega
          have ewv : IntKind.i64.wrap (-1 - (be ds : Int)) = -1 - (be ds : Int) := IntWalk.i64_in _ (by omega)
          rw [if_pos hs]
          simp (maxSteps := 1000000) [slotsOf, hho, u8av_cons, hN1, hkk, hs', ewn, ewv, -List.reduceReplicate]
          refine Ret.same ⟨?_, rfl⟩
          simp
        · have hs' : ¬ (127 : Int) < h.toNat := by omega
          rw [if_neg hs]
          simp (maxSteps := 1000000) [slotsOf, hho, u8av_cons, hN1, hkk, hs', ewn, -List.reduceReplicate]
          refine Ret.same ⟨?_, rfl⟩
          simp
  · by_cases hfar : t.length < n
    · have Hr := getS_cons h t n hn h8
      rw [if_pos hfar] at Hr
      have hf : (N : Int) < 1 + (n : Int) := by omega
      rw [Hr]
      rcases t with _ | ⟨d0, t'⟩ <;> simp (maxSteps := 1000000) [hho, noHo, undef, onGP_none, condG_false, u8av_cons, hm, hN0, hN1, h8', ewn, ewn2, hf, -List.reduceReplicate] <;> exact Ret.same ⟨rfl, rfl⟩
    · have hf : ¬ (N : Int) < 1 + (n : Int) := by omega
      have Hr := getS_cons h t n hn h8
      rw [if_neg hfar] at Hr
      by_cases hn0 : n = 0
      · have hnp : ¬ 0 < n := by omega
        have hn8 : ¬ (n : Int) = 8 := by omega
        have hg : GoodN t n := ⟨by omega, hfar, by rw [hn0]; simp [badLead]⟩
        rcases t with _ | ⟨d0, t'⟩ <;> simp (maxSteps := 1000000) [hho, noHo, undef, onGP_none, condG_false, u8av_cons, hm, hN0, hN1, h8', ewn, ewn2, hf, hnp, hn8, -List.reduceReplicate] <;> exact cut_to () hg (wk_eq (by simp [hE, lens]) (by simp) (by simp [livH, livO, AV.livL, AV.liv, wkL, wkV, List.range', slotsOf, u8av_cons]))
      · have hnp : 0 < n := by omega
        rcases t with _ | ⟨d0, t'⟩
        · simp at hfar; omega
        have hN2 : 1 < N := by rw [hN]; simp
        have hd256 := d0.toNat_lt
        by_cases hz : d0 = 0
        · have hv : getS (h :: d0 :: t') = (0, 0) := by
            rw [Hr, if_pos]
            cases n with
            | zero => omega
            | succ n => simp [badLead, hz]
          have hz' : d0.toNat = 0 := by rw [hz]; rfl
          rw [hv]
          simp (maxSteps := 1000000) [hho, noHo, undef, onGP_none, condG_false, u8av_cons, hm, hN0, hN1, hN2, h8', ewn, ewn2, hf, hnp, hz', -List.reduceReplicate]
          exact ⟨by omega, Ret.same ⟨rfl, rfl⟩⟩
        · have hz' : ¬ d0.toNat = 0 := fun e => hz (UInt8.toNat_inj.1 (by simpa using e))
          by_cases hn8 : (n : Int) = 8
          · have hn8' : ((n : Int) = 8) = True := eq_true hn8
            have hn8n : n = 8 := by omega
            by_cases hd : (127 : Int) < d0.toNat
            · have hv : getS (h :: d0 :: t') = (0, 0) := by
                rw [Hr, if_pos]
                rw [hn8n] at hfar ⊢
                simp [badLead, UInt8.le_iff_toNat_le]
                right
                simp at hfar
                omega
              rw [hv]
              simp (maxSteps := 1000000) [hho, noHo, undef, onGP_none, condG_false, u8av_cons, hm, hN0, hN1, hN2, h8', ewn, ewn2, hf, hnp, hz', hn8', hd, -List.reduceReplicate]
              exact ⟨by omega, Ret.same ⟨rfl, rfl⟩⟩
            · have hg : GoodN (d0 :: t') n := ⟨by omega, hfar, by
                rw [hn8n, List.take_succ_cons]; exact badLead_no hz fun e => by omega⟩
              simp (maxSteps := 1000000) [hho, noHo, undef, onGP_none, condG_false, u8av_cons, hm, hN0, hN1, hN2, h8', ewn, ewn2, hf, hnp, hz', hn8', hd, -List.reduceReplicate]
              exact ⟨by omega, cut_to () hg (wk_eq (by simp [hE, lens]) (by simp) (by simp [livH, livO, AV.livL, AV.liv, wkL, wkV, List.range', slotsOf, u8av_cons]))⟩
          · have hg : GoodN (d0 :: t') n := ⟨by omega, hfar, by
              cases n with
              | zero => omega
              | succ n => rw [List.take_succ_cons]; exact badLead_no hz fun e => by simp at e; omega⟩
            simp (maxSteps := 1000000) [hho, noHo, undef, onGP_none, condG_false, u8av_cons, hm, hN0, hN1, hN2, h8', ewn, ewn2, hf, hnp, hz', hn8, -List.reduceReplicate]
            exact ⟨by omega, cut_to () hg (wk_eq (by simp [hE, lens]) (by simp) (by simp [livH, livO, AV.livL, AV.liv, wkL, wkV, List.range', slotsOf, u8av_cons]))⟩
end Go.Proofs.YtniifindnnfkaaaDoor
