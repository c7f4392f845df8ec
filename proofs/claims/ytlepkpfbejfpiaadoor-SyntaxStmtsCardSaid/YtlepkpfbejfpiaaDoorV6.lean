import Derived.Test.YtlepkpfbejfpiaaDoorV5
namespace Go.Proofs.YtlepkpfbejfpiaaDoor
set_option linter.unusedVariables false
set_option linter.unusedSimpArgs false
open Go.RowKit Go.Lib
attribute [local simp] isCut_nil isCut_region isCut_seq isCut_block isCut_loop isCut_cond isCut_skip isCut_exit isCut_ret isCut_range swapK putK altK condK_bool pickP_bool stepP stepO onPure_some onPure_none onImpl_some onImpl_none stepC onGP_some onGP_none onGV_some condG mkG onIt_it nextP_ptr takeP_eq takeV_some takeV_none takeU_some takeU_none takeQ takeW_some takeN_none takeN_some takeG_some takeO_some altO_some pureV binV2 eqF eqOp ovlV ovl2 rowAt capV binV intBin strBin isSh shV fldV ixV sliceV slice3V loadAV nilV lenV callV unV convV viewS cellsH loadV fldCut AV.ung AV.ungs AV.gc AV.cells AS.ev AS.put anyS gcsV lens lnO gV guardV retK RetP_eq resV oneV anyRo loIx hiIx implO callP_clo evL gcsL clearV storeAV AS.push AS.setO appV appZ shortS copyV buildV partsV fillV srcV fzO okV isCell_c isCell_ptr isCell_sl isCell_fs isCell_fp isCell_clo rowZ_one rowZ_zero rowZ_2 rowZ_3 rowZ_4 rowZ_5 rowZ_6 rowZ_7 rowZ_8 rowZ_9 rowZ_10 rowZ_11 rowZ_12 noHo Value.oneCell' max2V min2V afterH putBack frzFrom frzO rebO backIx nilEq_sl nilEq_fs nilOp_eql nilOp_neq AV.reb AV.rebL
attribute [local simp ↓] runK_skip runK_region runK_draw runK_seq runK_cut runK_cond runK_block runK_loop runK_exit runK_label runK_goto runK_ret runK_range contK_nil contK_seq contK_seq_ret contK_seq_exit contK_seq_goto contK_block contK_block_ret contK_block_goto contK_block_exit runO_nil runO_cons roundK_exit roundK_ret roundK_goto exitK_ret cutK_ret cutK_exit runE_done runE_nil runE_take runE_alt condG_true condG_false
set_option maxRecDepth 10000
/-! ## Names -/
def nameC (i : Nat) (c : UInt8) : Bool := (decide (97 ≤ c.toNat) && decide (c.toNat ≤ 122)) || (decide (i ≠ 0) && ((decide (48 ≤ c.toNat) && decide (c.toNat ≤ 57)) || decide (c.toNat = 95)))
def nameFrom : Nat → List UInt8 → Bool
  | _, [] => true
  | i, c :: l => nameC i c && nameFrom (i + 1) l
def nameOk (s : ByteArray) : Bool := nameFrom 0 s.data.toList && decide (s.size ≠ 0) && decide (s.size ≤ 24)
theorem decode_hi (s : ByteArray) (i : Nat) (h : 128 ≤ (s.get! i).toNat) : 122 < (Utf8.decode s i).1 := by
  rw [decode_at]
  unfold decodeN
  repeat' split
  all_goals first | omega | (simp only [Utf8.runeError]; omega) | (simp only; omega)
theorem isEmpty_size (s : ByteArray) : (s = { data := #[] }) ↔ s.size = 0 := by
  constructor
  · intro h; rw [h]; rfl
  · intro h
    apply ByteArray.ext
    exact Array.eq_empty_of_size_eq_zero h
set_option maxHeartbeats 8000000 in
theorem name_refB (s : ByteArray) (hs : s.size ≤ 9223372036854775807) : ACalls Tryd.prog 25 [.c (.string s)] [] (fun _ => false) (fun r h' => r = .c (.bool (nameOk s)) ∧ h' = []) := by
  refine acalls mixed Tryd.func25 rfl Tryd.ntmps25 rfl fun E hE hst hho => ?_
  simp [hho, noHo, -List.reduceReplicate]
  refine loop_k mixed (fun i : Nat => ⟨slotsOf 43 [(0, .c (.string s)), (3, .c (.int .i64 (i : Nat)))], []⟩) (fun i => s.size - i) (fun i => i ≤ s.size ∧ nameFrom i (s.data.toList.drop i) = nameFrom 0 s.data.toList) 0 ⟨Nat.zero_le _, rfl⟩ ?_ ?_
  · exact wk_eq (by simp [hE, lens]) (by simp) (by simp [livH, livO, AV.livL, AV.liv, wkL, wkV, List.range', slotsOf])
  · rintro i ⟨hi, hv⟩
    by_cases hil : i < s.size
    · have hiI : (i : Int) < s.size := by omega
      have hil' : i < s.data.toList.length := by simpa using hil
      rw [List.drop_eq_getElem_cons hil', nameFrom] at hv
      obtain ⟨c, hc⟩ : ∃ c, c = s.data.toList[i] := ⟨_, rfl⟩
      have hcb : s.data[i]?.getD 0 = c := by
        rw [hc]; simp at hil'; simp [hil']
      have hc256 := c.toNat_lt
      have ew : IntKind.i64.wrap ((i : Int) + 1) = (i + 1 : Nat) := by rw [IntWalk.i64_in _ (by omega)]; rfl
      rw [← hc] at hv
      simp (maxSteps := 1000000) [slotsOf, hho, noHo, hiI, hcb, ew, undef, onGP_none, condG_false, -List.reduceReplicate]
      refine ⟨by omega, by omega, by omega, ?_⟩
      by_cases hC : nameC i c = true
      · have hC2 := hC
        simp only [nameC, Bool.or_eq_true, Bool.and_eq_true, decide_eq_true_eq] at hC2
        rw [if_neg (by omega)]
        rw [hC, Bool.true_and] at hv
        refine round_next (i + 1) ⟨by omega, hv⟩ (by omega) ?_
        exact wk_eq (by simp [hE, lens]) (by simp) (by simp [livH, livO, AV.livL, AV.liv, wkL, wkV, List.range', slotsOf])
      · have hC2 := hC
        simp only [nameC, Bool.or_eq_true, Bool.and_eq_true, decide_eq_true_eq] at hC2
        rw [if_pos (by omega)]
        rw [Bool.eq_false_iff.2 hC, Bool.false_and] at hv
        exact Ret.same ⟨by simp [nameOk, ← hv], rfl⟩
    · obtain rfl : i = s.size := by omega
      rw [List.drop_eq_nil_of_le (by simp), nameFrom] at hv
      simp (maxSteps := 1000000) [slotsOf, hho, noHo, undef, onGP_none, condG_false, -List.reduceReplicate]
      refine Ret.same ⟨?_, rfl⟩
      congr 2
      rw [Bool.eq_iff_iff]
      simp [nameOk, ← hv, isEmpty_size]
      omega
set_option maxHeartbeats 8000000 in
theorem name_schB (s : ByteArray) (hs : s.size ≤ 9223372036854775807) : ACalls Tryd.prog 53 [.c (.string s)] [] (fun _ => false) (fun r h' => r = .c (.bool (nameOk s)) ∧ h' = []) := by
  refine acalls mixed Tryd.func53 rfl Tryd.ntmps53 rfl fun E hE hst hho => ?_
  simp [hho, noHo, -List.reduceReplicate]
  refine loop_k mixed (fun i : Nat => ⟨slotsOf 44 [(0, .c (.string s)), (7, .ptr 0 0 0)], [.it s i]⟩) (fun i => s.size - i) (fun i => i ≤ s.size ∧ nameFrom i (s.data.toList.drop i) = nameFrom 0 s.data.toList) 0 ⟨Nat.zero_le _, rfl⟩ ?_ ?_
  · exact wk_eq (by simp [hE, lens]) (by simp) (by simp [livH, livO, AV.livL, AV.liv, wkL, wkV, List.range', slotsOf])
  · rintro i ⟨hi, hv⟩
    by_cases hil : i < s.size
    · have hiI : (i : Int) < s.size := by omega
      have hil' : i < s.data.toList.length := by simpa using hil
      rw [List.drop_eq_getElem_cons hil', nameFrom] at hv
      obtain ⟨c, hc⟩ : ∃ c, c = s.data.toList[i] := ⟨_, rfl⟩
      rw [← hc] at hv
      have hget : s.get! i = c := by
        rw [hc]
        simp at hil'
        simp [ByteArray.get!, hil']
      have hdec : (c.toNat < 128 ∧ Utf8.decode s i = (c.toNat, 1)) ∨ (nameC i c = false ∧ 122 < (Utf8.decode s i).1) := by
        by_cases h : c.toNat < 128
        · have hg : (s[i]'hil) = c := by rw [hc]; rfl
          refine .inl ⟨h, ?_⟩
          rw [decode_ascii s i hil (by rw [hg]; exact h), hg]
        · refine .inr ⟨?_, decode_hi s i (by rw [hget]; omega)⟩
          have := c.toNat_lt
          rw [Bool.eq_false_iff]
          intro hC
          simp only [nameC, Bool.or_eq_true, Bool.and_eq_true, decide_eq_true_eq] at hC
          omega
      simp (maxSteps := 1000000) [slotsOf, hho, noHo, hiI, hil, undef, onGP_none, condG_false, -List.reduceReplicate]
      obtain ⟨r, hr⟩ : ∃ r, r = Utf8.decode s i := ⟨_, rfl⟩
      obtain ⟨r1, r2⟩ := r
      rw [← hr] at hdec ⊢
      simp only at hdec ⊢
      refine ⟨by omega, by omega, by omega, ?_⟩
      by_cases hC : nameC i c = true
      · rcases hdec with ⟨h, hd⟩ | ⟨h, _⟩
        · injection hd with d1 d2
          subst d1 d2
          have hC2 := hC
          simp only [nameC, Bool.or_eq_true, Bool.and_eq_true, decide_eq_true_eq] at hC2
          rw [if_neg (by omega)]
          rw [hC, Bool.true_and] at hv
          refine round_next (i + 1) ⟨by omega, hv⟩ (by omega) ?_
          exact wk_eq (by simp [hE, lens]) (by simp) (by simp [livH, livO, AV.livL, AV.liv, wkL, wkV, List.range', slotsOf])
        · rw [hC] at h; cases h
      · have hbad : ¬ ((97 ≤ r1 ∧ r1 ≤ 122) ∨ (i ≠ 0 ∧ (r1 = 95 ∨ (48 ≤ r1 ∧ r1 ≤ 57)))) := by
          intro hx
          rcases hdec with ⟨h, hd⟩ | ⟨_, h⟩
          · injection hd with d1 d2
            subst d1
            apply hC
            simp only [nameC, Bool.or_eq_true, Bool.and_eq_true, decide_eq_true_eq]
            omega
          · omega
        rw [if_pos (by omega)]
        rw [Bool.eq_false_iff.2 hC, Bool.false_and] at hv
        exact Ret.drop (by rfl) ⟨by simp [nameOk, ← hv], rfl⟩
    · obtain rfl : i = s.size := by omega
      rw [List.drop_eq_nil_of_le (by simp), nameFrom] at hv
      simp (maxSteps := 1000000) [slotsOf, hho, noHo, undef, onGP_none, condG_false, -List.reduceReplicate]
      refine Ret.drop (by rfl) ⟨?_, rfl⟩
      congr 2
      rw [Bool.eq_iff_iff]
      simp only [nameOk, ← hv, Bool.true_and, Bool.and_eq_true, decide_eq_true_eq]
      omega
theorem name_ref (s : ByteArray) (hs : s.size ≤ 9000000000000000000) : ACalls Tryd.prog 25 [.c (.string s)] [] (fun _ => false) (fun r h' => r = .c (.bool (nameOk s)) ∧ h' = []) := name_refB s (by omega)
theorem name_sch (s : ByteArray) (hs : s.size ≤ 9000000000000000000) : ACalls Tryd.prog 53 [.c (.string s)] [] (fun _ => false) (fun r h' => r = .c (.bool (nameOk s)) ∧ h' = []) := name_schB s (by omega)
end Go.Proofs.YtlepkpfbejfpiaaDoor
