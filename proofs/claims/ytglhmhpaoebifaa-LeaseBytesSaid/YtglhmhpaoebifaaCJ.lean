import Derived.Test.YtglhmhpaoebifaaCI
import Derived.Test.YtglhmhpaoebifaaCD
namespace Go.Proofs.Ytglhmhpaoebifaa
set_option linter.unusedVariables false
set_option linter.unusedSimpArgs false
open Go.RowKit
attribute [local simp] isCut_nil isCut_region isCut_seq isCut_block isCut_loop isCut_cond isCut_skip isCut_exit isCut_ret isCut_range swapK putK altK condK_bool pickP_bool stepP stepO onPure_some onPure_none onImpl_some onImpl_none stepC onGP_some onGP_none onGV_some condG mkG onIt_it nextP_ptr takeP_eq takeV_some takeN_none takeN_some takeG_some takeO_some altO_some pureV binV2 eqF eqOp ovlV ovl2 rowAt capV binV intBin strBin isSh shV fldV ixV sliceV slice3V loadAV nilV lenV callV unV convV viewS cellsH loadV fldCut AV.ung AV.ungs AV.gc AV.cells AS.ev AS.put anyS gcsV lens lnO gV guardV retK RetP_eq resV oneV anyRo loIx hiIx implO callP_clo evL gcsL clearV storeAV AS.push AS.setO appV appZ shortS copyV buildV partsV fillV srcV fzO okV isCell_c isCell_ptr isCell_sl isCell_fs isCell_fp isCell_clo rowZ_one rowZ_zero rowZ_2 rowZ_3 rowZ_4 rowZ_5 rowZ_6 rowZ_7 rowZ_8 rowZ_9 rowZ_10 rowZ_11 rowZ_12 noHo Value.oneCell' max2V min2V afterH putBack frzFrom frzO rebO backIx nilEq_sl nilEq_fs nilOp_eql nilOp_neq AV.reb AV.rebL
attribute [local simp ↓] runK_skip runK_region runK_draw runK_seq runK_cut runK_cond runK_block runK_loop runK_exit runK_label runK_goto runK_ret runK_range contK_nil contK_seq contK_seq_ret contK_seq_exit contK_seq_goto contK_block contK_block_ret contK_block_goto contK_block_exit runO_nil runO_cons roundK_exit roundK_ret roundK_goto exitK_ret cutK_ret cutK_exit runE_done runE_nil runE_take runE_alt condG_true condG_false
set_option maxRecDepth 10000
/-! ## The reference's Parse -/
theorem get_cases (b : List UInt8) : (rnumS (some b) = (0, none) ∧ getS b = (0, 0)) ∨ ∃ x j, 0 < j ∧ j ≤ b.length ∧ getS b = (x, j) ∧ rnumS (some b) = (x, some (b.drop j)) := by
  rcases b with _ | ⟨h, t⟩
  · exact .inl ⟨rfl, rfl⟩
  by_cases h8 : 8 < h.toNat % 128
  · exact .inl ⟨by simp [rnumS, rnum, h8], by simp [getS, rnum, h8]⟩
  rw [rnumS_cons h t _ rfl h8, getS_cons h t _ rfl h8]
  split
  · exact .inl ⟨rfl, rfl⟩
  · split
    · exact .inl ⟨rfl, rfl⟩
    · refine .inr ⟨_, _, by omega, by simp; omega, rfl, ?_⟩
      rw [Nat.add_comm 1, List.drop_succ_cons]
def rdN (s : Option (List UInt8)) : Nat → List Int × Option (List UInt8)
  | 0 => ([], s)
  | k + 1 => ((rdN s k).1 ++ [(rnumS (rdN s k).2).1], (rnumS (rdN s k).2).2)
theorem rdN_none {s : Option (List UInt8)} {k : Nat} (d : Nat) (h : (rdN s k).2 = none) : (rdN s (k + d)).2 = none := by
  induction d with
  | zero => exact h
  | succ d ih => rw [← Nat.add_assoc]; simp [rdN, ih, rnumS]
theorem rdA_none {s : Option (List UInt8)} {k : Nat} (d : Nat) (h : (rdA s k).2 = none) : (rdA s (k + d)).2 = none := by
  induction d with
  | zero => exact h
  | succ d ih => rw [← Nat.add_assoc]; simp [rdA, ih, rnumS]
theorem rdA_rdN (s : Option (List UInt8)) (j : Nat) : (rdA s (j + 1)).2 = (rdN (rdA s j).2 3).2 := rfl
theorem rdA_rdN1 (s : Option (List UInt8)) (j : Nat) {a b c : Int} (h : (rdN (rdA s j).2 3).1 = [a, b, c]) : (rdA s (j + 1)).1 = (rdA s j).1 ++ [⟨a, b, c⟩] := by
  simp [rdN] at h
  simp [rdA, h]
theorem inOrd_eq {l : List LeaseS} (h : SrtOk l) : inOrd l ↔ srtP l 16 = l := by
  constructor
  · intro ho
    rw [(srtOk_new h).2]; exact order_stab h ho
  · intro he i h0 hi
    have hb := (srtOk_new h).1
    rw [← (srtOk_new h).2, he] at hb
    exact Int.le_of_lt (sorted_at hb.sorted (List.getElem?_eq_getElem (by omega)) (List.getElem?_eq_getElem hi) (by omega))
def f3A (l : List Int) : List AV := l.map (fun x => AV.c (.int .i64 x)) ++ List.replicate (3 - l.length) (AV.c (.int .i64 0))
set_option maxHeartbeats 8000000 in
theorem parse_ref (b : List UInt8) (hb : b.length ≤ 1000000000) (Post : AV → List AObj → Prop) (h1 : ParseOk b → Post (.tup [.fs 3 (rdA (rcountS (some b) 16).2 (rcountS (some b) 16).1.toNat).1.length (leasesA (rdA (rcountS (some b) 16).2 (rcountS (some b) 16).1.toNat).1), .c (.bool true)]) []) (h2 : ¬ ParseOk b → Post (.tup [.fs 3 0 [], .c (.bool false)]) []) : ACalls Try.prog 29 [.fs 1 b.length (u8av b)] [] (fun _ => false) Post := by
  refine acalls mixed Try.func29 rfl Try.ntmps29 rfl fun E hE hst hho => ?_
  unfold ParseOk at h1 h2
  rcases get_cases b with ⟨hr, hg⟩ | ⟨x, a0, hj0, hjb, hg, hr⟩
  · have hg1 := ref1get_w b hb
    rw [hg] at hg1
    have hP := h2 fun h => by
      have := h.1
      simp [rcountS, hr] at this
      simp [rdA] at this
    simp (maxSteps := 1000000) [hho, noHo, -List.reduceReplicate]
    refine call_x [] hg1 rfl rfl ⟨rfl, rfl⟩ hho (by simp) (by decide) (by simp) (by simp) ?_
    simp (maxSteps := 1000000) [hho, noHo, undef, onGP_none, condG_false, -List.reduceReplicate]
    exact Ret.nil2 3 (Ret.same hP)
  have hg1 := ref1get_w b hb
  rw [hg] at hg1
  by_cases hx : x < 0 ∨ 16 < x
  · have hP := h2 fun h => by
      have := h.1
      simp [rcountS, hr, hx] at this
      simp [rdA] at this
    have hx2 : ¬ a0 = 0 := by omega
    by_cases hx1 : x < 0
    · simp (maxSteps := 1000000) [hho, noHo, -List.reduceReplicate]
      refine call_x [] hg1 rfl rfl ⟨rfl, rfl⟩ hho (by simp) (by decide) (by simp) (by simp) ?_
      simp (maxSteps := 1000000) [hho, noHo, undef, onGP_none, condG_false, hx1, hx2, -List.reduceReplicate]
      exact Ret.nil2 3 (Ret.same hP)
    · have hx3 : 16 < x := by omega
      simp (maxSteps := 1000000) [hho, noHo, -List.reduceReplicate]
      refine call_x [] hg1 rfl rfl ⟨rfl, rfl⟩ hho (by simp) (by decide) (by simp) (by simp) ?_
      simp (maxSteps := 1000000) [hho, noHo, undef, onGP_none, condG_false, hx1, hx2, hx3, -List.reduceReplicate]
      exact Ret.nil2 3 (Ret.same hP)
  obtain ⟨n, rfl⟩ : ∃ n : Nat, x = (n : Int) := ⟨x.toNat, by omega⟩
  have hrc : rcountS (some b) 16 = ((n : Int), some (b.drop a0)) := by simp [rcountS, hr, hx]
  rw [hrc] at h1 h2
  simp only [Int.toNat_natCast] at h1 h2
  obtain ⟨s0, hs0⟩ : ∃ s, s = some (b.drop a0) := ⟨_, rfl⟩
  rw [← hs0] at h1 h2
  have hx1 : ¬ (n : Int) < 0 := by omega
  have hx2 : ¬ a0 = 0 := by omega
  have hx3 : ¬ 16 < (n : Int) := by omega
  simp (maxSteps := 1000000) [hho, noHo, -List.reduceReplicate]
  refine call_x [] hg1 rfl rfl ⟨rfl, rfl⟩ hho (by simp) (by decide) (by simp) (by simp) ?_
  simp (maxSteps := 1000000) [hho, noHo, undef, onGP_none, condG_false, hx1, hx2, hx3, -List.reduceReplicate]
  refine loop_k mixed (fun y : Nat × Nat × List LeaseS => ⟨slotsOf 83 [(0, .fs 1 b.length (u8av b)), (4, .c (.int .i64 n)), (5, .c (.int .i64 (y.2.1 : Nat))), (6, .sl 0 3 0 y.2.2.length (y.2.2.length * 3)), (7, .c (.int .i64 (y.1 : Nat)))], [rowL y.2.2]⟩) (fun y => n - y.1) (fun y => y.1 ≤ n ∧ y.2.1 ≤ b.length ∧ y.2.2.length = y.1 ∧ rdA s0 y.1 = (y.2.2, some (b.drop y.2.1))) (0, a0, []) ⟨Nat.zero_le _, hjb, rfl, by rw [hs0]; rfl⟩ ?_ ?_
  · refine Wk.trans (wk_virt 6 48 3 rfl) ?_
    exact wk_eq (by simp [hE, lens]) (by simp [rowL, leasesA]) (by simp [livH, livO, AV.livL, AV.liv, wkL, wkV, List.range', slotsOf])
  · rintro ⟨j, at1, l⟩ ⟨hj, ha1, hln, hrd⟩
    simp only at hj ha1 hln hrd
    by_cases hjn : j < n
    · have hjI : (j : Int) < n := by omega
      simp (maxSteps := 1000000) [slotsOf, rowL, hho, noHo, hjn, -List.reduceReplicate]
      refine loop_k mixed (fun z : Nat × Nat × List Int => ⟨slotsOf 83 [(0, .fs 1 b.length (u8av b)), (4, .c (.int .i64 n)), (5, .c (.int .i64 (z.2.1 : Nat))), (6, .sl 0 3 0 l.length (l.length * 3)), (7, .c (.int .i64 (j : Nat))), (8, .ptr 1 0 3), (34, .c (.int .i64 (z.1 : Nat)))], [rowL l, .o .box (f3A z.2.2)]⟩) (fun z => 3 - z.1) (fun z => z.1 ≤ 3 ∧ z.2.1 ≤ b.length ∧ z.2.2.length = z.1 ∧ rdN (some (b.drop at1)) z.1 = (z.2.2, some (b.drop z.2.1))) (0, at1, []) ⟨Nat.zero_le _, ha1, rfl, rfl⟩ ?_ ?_
      · exact wk_eq (by simp [hE, lens]) (by simp [rowL, f3A]) (by simp [livH, livO, AV.livL, AV.liv, wkL, wkV, List.range', slotsOf])
      · rintro ⟨k, at2, vs⟩ ⟨hk, ha2, hvs, hrn⟩
        simp only at hk ha2 hvs hrn
        by_cases hk3 : k < 3
        · have hgc := ref1get_w (b.drop at2) (by simp; omega)
          have hkI : (k : Int) < 3 := by omega
          have hln2 : (b.drop at2).length = b.length - at2 := List.length_drop
          rcases get_cases (b.drop at2) with ⟨hr2, hg2⟩ | ⟨x2, a2, hj2, hjb2, hg2, hr2⟩
          · rw [hg2, hln2] at hgc
            have hP := h2 fun h => by
              have e1 : (rdN (some (b.drop at1)) (k + 1)).2 = none := by simp [rdN, hrn, hr2]
              have e2 := rdN_none (2 - k) e1
              rw [show k + 1 + (2 - k) = 3 by omega] at e2
              have e3 : (rdA s0 (j + 1)).2 = none := by rw [rdA_rdN, hrd]; exact e2
              have e4 := rdA_none (n - (j + 1)) e3
              rw [show j + 1 + (n - (j + 1)) = n by omega] at e4
              rw [e4] at h
              cases h.1
            simp (maxSteps := 1000000) [slotsOf, rowL, hho, noHo, hkI, -List.reduceReplicate]
            refine ⟨by omega, ?_⟩
            refine call_x [] hgc rfl rfl ⟨by simp [u8av]; exact List.take_of_length_le (by simp), rfl⟩ hho (by simp) (by decide) (by simp) (by simp) ?_
            simp (maxSteps := 1000000) [hho, noHo, undef, onGP_none, condG_false, -List.reduceReplicate]
            refine Ret.nil2 3 ?_
            refine Ret.sel [] (fun _ => false) (ho := by rfl) (ha := by rfl) ?_ ?_ (by decide) (by simp) (by simp) hP <;> simp
          · rw [hg2, hln2] at hgc
            have hx2b : ¬ a2 = 0 := by omega
            rw [hln2] at hjb2
            have ew : IntKind.i64.wrap ((at2 : Int) + a2) = (at2 + a2 : Nat) := by rw [IntWalk.i64_in _ (by omega)]; rfl
            have ewk : IntKind.i64.wrap ((k : Int) + 1) = (k + 1 : Nat) := by rw [IntWalk.i64_in _ (by omega)]; rfl
            have hnx : rdN (some (b.drop at1)) (k + 1) = (vs ++ [x2], some (b.drop (at2 + a2))) := by simp [rdN, hrn, hr2, List.drop_drop]
            have w1 : IntKind.i64.wrap 1 = 1 := by decide
            have w2 : IntKind.i64.wrap 2 = 2 := by decide
            have w3 : IntKind.i64.wrap 3 = 3 := by decide
            match k, vs, hk3, hvs with
            | 0, [], _, _ =>
              simp (maxSteps := 1000000) [slotsOf, rowL, f3A, hho, noHo, -List.reduceReplicate]
              refine ⟨by omega, ?_⟩
              refine call_x [] hgc rfl rfl ⟨by simp [u8av]; exact List.take_of_length_le (by simp), rfl⟩ hho (by simp) (by decide) (by simp) (by simp) ?_
              simp (maxSteps := 1000000) [hho, noHo, undef, onGP_none, condG_false, hx2b, ew, -List.reduceReplicate]
              refine round_next (1, at2 + a2, [x2]) ⟨by simp, by simp only; omega, rfl, hnx⟩ (by simp only; omega) ?_
              exact wk_eq (by simp [hE, lens]) (by simp [rowL, f3A]) (by simp [livH, livO, AV.livL, AV.liv, wkL, wkV, List.range', slotsOf, w1, w2, w3])
            | 1, [v0], _, _ =>
              simp (maxSteps := 1000000) [slotsOf, rowL, f3A, hho, noHo, -List.reduceReplicate]
              refine ⟨by omega, ?_⟩
              refine call_x [] hgc rfl rfl ⟨by simp [u8av]; exact List.take_of_length_le (by simp), rfl⟩ hho (by simp) (by decide) (by simp) (by simp) ?_
              simp (maxSteps := 1000000) [hho, noHo, undef, onGP_none, condG_false, hx2b, ew, -List.reduceReplicate]
              refine round_next (2, at2 + a2, [v0, x2]) ⟨by simp, by simp only; omega, rfl, hnx⟩ (by simp only; omega) ?_
              exact wk_eq (by simp [hE, lens]) (by simp [rowL, f3A]) (by simp [livH, livO, AV.livL, AV.liv, wkL, wkV, List.range', slotsOf, w1, w2, w3])
            | 2, [v0, v1], _, _ =>
              simp (maxSteps := 1000000) [slotsOf, rowL, f3A, hho, noHo, -List.reduceReplicate]
              refine ⟨by omega, ?_⟩
              refine call_x [] hgc rfl rfl ⟨by simp [u8av]; exact List.take_of_length_le (by simp), rfl⟩ hho (by simp) (by decide) (by simp) (by simp) ?_
              simp (maxSteps := 1000000) [hho, noHo, undef, onGP_none, condG_false, hx2b, ew, -List.reduceReplicate]
              refine round_next (3, at2 + a2, [v0, v1, x2]) ⟨by simp, by simp only; omega, rfl, hnx⟩ (by simp only; omega) ?_
              exact wk_eq (by simp [hE, lens]) (by simp [rowL, f3A]) (by simp [livH, livO, AV.livL, AV.liv, wkL, wkV, List.range', slotsOf, w1, w2, w3])
        · obtain rfl : k = 3 := by omega
          match vs, hvs with
          | [v0, v1, v2], _ =>
            have ew : IntKind.i64.wrap ((j : Int) + 1) = (j + 1 : Nat) := by rw [IntWalk.i64_in _ (by omega)]; rfl
            have hsn := leasesA_snoc l ⟨v0, v1, v2⟩
            have e1 : rdA s0 (j + 1) = (l ++ [⟨v0, v1, v2⟩], some (b.drop at2)) := by
              have q2 := rdA_rdN s0 j
              have q1 := rdA_rdN1 s0 j (a := v0) (b := v1) (c := v2) (by rw [hrd]; simp only; rw [hrn])
              rw [hrd] at q1 q2
              simp only at q1 q2
              rw [hrn] at q2
              exact Prod.ext q1 q2
            simp (maxSteps := 1000000) [slotsOf, rowL, f3A, hho, noHo, ew, hln, -List.reduceReplicate]
            refine ⟨by omega, round_next (j + 1, at2, l ++ [⟨v0, v1, v2⟩]) ⟨by simp only; omega, ha2, by simp [hln], e1⟩ (by simp only; omega) ?_⟩
            exact wk_of 1 2 (by simp) (by simp [hE, lens]) (by simp [rowL, hsn]) (by simp [livH, livO, AV.livL, AV.liv, wkL, wkV, List.range', rowL]) (by simp [livH, livO, AV.livL, AV.liv, wkL, wkV, List.range', slotsOf, Nat.add_mul, hln])
    · obtain rfl : j = n := by omega
      rw [hrd] at h1 h2
      simp only at h1 h2
      have hdr : some (b.drop at1) = some [] ↔ at1 = b.length := by
        rw [Option.some.injEq, List.drop_eq_nil_iff]; omega
      rw [hdr] at h1 h2
      by_cases hok : SrtOk l
      · have hsr := sorted_ref l (by omega) (fun r h' => r = .tup [.fs 3 (srtP l 16).length (leasesA (srtP l 16)), .c (.bool true)] ∧ h' = []) (fun _ => ⟨rfl, rfl⟩) (fun h => absurd hok h)
        have hio := inOrd_eq hok
        rw [hio] at h1 h2
        have hdl : (srtP l 16).length ≤ 1000 := by rw [(srtOk_new hok).2]; have := (stab_ok l).1.length_eq; omega
        obtain ⟨d, hd⟩ : ∃ d, d = srtP l 16 := ⟨_, rfl⟩
        rw [← hd] at hsr h1 h2 hdl
        obtain ⟨R, hR⟩ : ∃ R : Bool, (R = true ↔ d = l) := ⟨@decide (d = l) (Classical.propDecidable _), by simp⟩
        have hsm := same_ref d l hdl (by omega) R hR
        simp (maxSteps := 1000000) [slotsOf, rowL, hho, noHo, -List.reduceReplicate]
        refine call_f [] (fun k => k == 0) hsr rfl rfl ⟨?_, rfl⟩ hho (by simp) (by decide) (by simp) ?_ (by simp) ?_
        · simp only [List.drop_zero]
          rw [List.take_of_length_le (by simp)]
        · simp
          exact ⟨by unfold maxLen; omega, fun x hx => (leasesA_all l).2 trivial x (List.mem_of_mem_take hx)⟩
        by_cases hat : at1 = b.length
        · simp (maxSteps := 1000000) [slotsOf, rowL, hho, noHo, hat, -List.reduceReplicate]
          refine call_f [] (fun k => k == 0) hsm rfl rfl ⟨?_, rfl⟩ hho (by simp) (by decide) (by simp) ?_ (by simp) ?_
          · simp only [List.drop_zero]
            rw [List.take_of_length_le (by simp)]
          · simp
            exact ⟨by unfold maxLen; omega, fun x hx => (leasesA_all l).2 trivial x (List.mem_of_mem_take hx)⟩
          cases R with
          | true =>
            have hdl2 := hR.1 rfl
            have hP := h1 ⟨hat, hok, hdl2⟩
            rw [hdl2]
            simp (maxSteps := 1000000) [slotsOf, rowL, hho, noHo, -List.reduceReplicate]
            refine Ret.sel [] (fun _ => false) (ho := by rfl) (ha := by rfl) ?_ ?_ (by decide) (by simp) (by simp) hP <;> simp
          | false =>
            have hP := h2 fun h => by have := hR.2 h.2.2; cases this
            simp (maxSteps := 1000000) [slotsOf, rowL, hho, noHo, -List.reduceReplicate]
            refine Ret.nil2 3 ?_
            refine Ret.sel [] (fun _ => false) (ho := by rfl) (ha := by rfl) ?_ ?_ (by decide) (by simp) (by simp) hP <;> simp
        · have hatI : ¬ (at1 : Int) = b.length := by omega
          have hP := h2 fun h => hat h.1
          simp (maxSteps := 1000000) [slotsOf, rowL, hho, noHo, hat, hatI, undef, onGP_none, condG_false, -List.reduceReplicate]
          refine Ret.nil2 3 ?_
          refine Ret.sel [] (fun _ => false) (ho := by rfl) (ha := by rfl) ?_ ?_ (by decide) (by simp) (by simp) hP <;> simp
      · have hsr := sorted_ref l (by omega) (fun r h' => r = .tup [.fs 3 0 [], .c (.bool false)] ∧ h' = []) (fun h => absurd h hok) (fun _ => ⟨rfl, rfl⟩)
        have hP := h2 fun h => hok h.2.1
        simp (maxSteps := 1000000) [slotsOf, rowL, hho, noHo, -List.reduceReplicate]
        refine call_f [] (fun k => k == 0) hsr rfl rfl ⟨?_, rfl⟩ hho (by simp) (by decide) (by simp) ?_ (by simp) ?_
        · simp only [List.drop_zero]
          rw [List.take_of_length_le (by simp)]
        · simp
          exact ⟨by unfold maxLen; omega, fun x hx => (leasesA_all l).2 trivial x (List.mem_of_mem_take hx)⟩
        simp (maxSteps := 1000000) [slotsOf, rowL, hho, noHo, undef, onGP_none, condG_false, -List.reduceReplicate]
        refine Ret.nil2 3 ?_
        refine Ret.sel [] (fun _ => false) (ho := by rfl) (ha := by rfl) ?_ ?_ (by decide) (by simp) (by simp) hP <;> simp
end Go.Proofs.Ytglhmhpaoebifaa
