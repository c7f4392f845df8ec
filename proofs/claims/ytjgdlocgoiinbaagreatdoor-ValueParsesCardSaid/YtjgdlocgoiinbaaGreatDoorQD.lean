import Derived.Test.YtjgdlocgoiinbaaGreatDoorQC
namespace Go.Proofs.YtjgdlocgoiinbaaGreatDoor
set_option linter.unusedVariables false
set_option linter.unusedSimpArgs false
open Go.RowKit Go.Lib
attribute [local simp] isCut_nil isCut_region isCut_seq isCut_block isCut_loop isCut_cond isCut_skip isCut_exit isCut_ret isCut_range swapK putK altK condK_bool pickP_bool stepP stepO onPure_some onPure_none onImpl_some onImpl_none stepC onGP_some onGP_none onGV_some condG mkG onIt_it nextP_ptr takeP_eq takeV_some takeV_none takeU_some takeU_none takeQ takeW_some takeN_none takeN_some takeG_some takeO_some altO_some pureV binV2 eqF eqOp ovlV ovl2 rowAt capV binV intBin strBin isSh shV fldV ixV sliceV slice3V loadAV nilV lenV callV unV convV viewS cellsH loadV fldCut AV.ung AV.ungs AV.gc AV.cells AS.ev AS.put anyS gcsV gcO lens lnO gV guardV retK RetP_eq resV oneV anyRo loIx hiIx implO callP_clo evL gcsL clearV storeAV AS.push AS.setO appV appZ shortS copyV buildV partsV fillV srcV fzO okV isCell_c isCell_ptr isCell_sl isCell_fs isCell_fp isCell_clo rowZ_one rowZ_zero rowZ_2 rowZ_3 rowZ_4 rowZ_5 rowZ_6 rowZ_7 rowZ_8 rowZ_9 rowZ_10 rowZ_11 rowZ_12 noHo Value.oneCell' max2V min2V lookV updV lenM msAt afterH putBack frzFrom frzO rebO backIx nilEq_sl nilEq_fs nilEq_ifn nilEq_ifh ifOp_eql ifOp_neq isLit nilOp_eql nilOp_neq AV.reb AV.rebL
attribute [local simp ↓] runK_skip runK_region runK_draw runK_seq runK_cut runK_cond runK_block runK_loop runK_exit runK_label runK_goto runK_ret runK_range contK_nil contK_seq contK_seq_ret contK_seq_exit contK_seq_goto contK_block contK_block_ret contK_block_goto contK_block_exit runO_nil runO_cons roundK_exit roundK_ret roundK_goto exitK_ret cutK_ret cutK_exit runE_done runE_nil runE_take runE_alt condG_true condG_false
set_option maxRecDepth 10000
/-! ## Values compared, by the program and by the document -/
theorem vclass_w (k : Int) : ACalls Tryz.prog 45 [.c (.int .i64 k)] [] (fun _ => false) (fun r h' => r = .c (.int .i64 (cls k)) ∧ h' = []) := by
  refine acalls mixed Tryz.func45 rfl Tryz.ntmps45 rfl fun E hE hst hho => ?_
  unfold cls
  by_cases h : k = 3
  · subst h
    simp (maxSteps := 1000000) [hho, noHo, -List.reduceReplicate]
    exact Ret.drop (by rfl) ⟨rfl, rfl⟩
  · simp (maxSteps := 1000000) [hho, noHo, h, -List.reduceReplicate]
    exact Ret.drop (by rfl) ⟨rfl, rfl⟩
theorem vright_w (v : ValS) (hv : v.t.size ≤ 9000000000000000000) : ACalls Tryz.prog 44 [.agg (valA v)] [] (fun _ => false) (fun r h' => r = .agg (valA (plV v)) ∧ h' = []) := by
  refine acalls mixed Tryz.func44 rfl Tryz.ntmps44 rfl fun E hE hst hho => ?_
  have c1 := val_right v hv
  unfold plV
  cases h : valOk v with
  | true =>
    rw [h] at c1
    simp (maxSteps := 1000000) [hho, noHo, valA, -List.reduceReplicate]
    refine call_x [] (c1) rfl rfl ⟨rfl, rfl⟩ hho (by simp) (by decide) (by simp) (by simp) ?_
    simp (maxSteps := 1000000) [hho, noHo, undef, onGP_none, condG_false, -List.reduceReplicate]
    exact Ret.drop (by rfl) ⟨rfl, rfl⟩
  | false =>
    rw [h] at c1
    simp (maxSteps := 1000000) [hho, noHo, valA, -List.reduceReplicate]
    refine call_x [] (c1) rfl rfl ⟨rfl, rfl⟩ hho (by simp) (by decide) (by simp) (by simp) ?_
    simp (maxSteps := 1000000) [hho, noHo, undef, onGP_none, condG_false, -List.reduceReplicate]
    exact Ret.drop (by rfl) ⟨rfl, rfl⟩
theorem r3Plain_w (v : ValS) (hv : v.t.size ≤ 9000000000000000000) : ACalls Tryz.prog 23 [.agg (valA v)] [] (fun _ => false) (fun r h' => r = .agg (valA (plV v)) ∧ h' = []) := by
  refine acalls mixed Tryz.func23 rfl Tryz.ntmps23 rfl fun E hE hst hho => ?_
  have c1 := val_ref v hv
  unfold plV
  cases h : valOk v with
  | true =>
    rw [h] at c1
    simp (maxSteps := 1000000) [hho, noHo, valA, -List.reduceReplicate]
    refine call_x [] (c1) rfl rfl ⟨rfl, rfl⟩ hho (by simp) (by decide) (by simp) (by simp) ?_
    simp (maxSteps := 1000000) [hho, noHo, undef, onGP_none, condG_false, -List.reduceReplicate]
    exact Ret.drop (by rfl) ⟨rfl, rfl⟩
  | false =>
    rw [h] at c1
    simp (maxSteps := 1000000) [hho, noHo, valA, -List.reduceReplicate]
    refine call_x [] (c1) rfl rfl ⟨rfl, rfl⟩ hho (by simp) (by decide) (by simp) (by simp) ?_
    simp (maxSteps := 1000000) [hho, noHo, undef, onGP_none, condG_false, -List.reduceReplicate]
    exact Ret.drop (by rfl) ⟨rfl, rfl⟩
theorem cb_end {a b : List UInt8} {j : Nat} (h1 : j ≤ a.length) (h2 : j ≤ b.length) (h : j = a.length ∨ j = b.length) : compareBytes (a.drop j) (b.drop j) = cmpN (a.length : Int) (b.length : Int) := by
  unfold cmpN
  by_cases ha : j = a.length
  · rw [List.drop_eq_nil_of_le (by omega)]
    by_cases hb : j = b.length
    · rw [List.drop_eq_nil_of_le (by omega), if_neg (by omega), if_neg (by omega)]; rfl
    · rw [List.drop_eq_getElem_cons (by omega), if_pos (by omega)]; rfl
  · have hb : j = b.length := by omega
    have e : b.drop j = [] := List.drop_eq_nil_of_le (by omega)
    rw [List.drop_eq_getElem_cons (i := j) (l := a) (by omega), e, if_neg (by omega), if_pos (by omega)]; rfl
theorem cb_step {a b : List UInt8} {j : Nat} (h1 : j < a.length) (h2 : j < b.length) : compareBytes (a.drop j) (b.drop j) = if a[j].toNat < b[j].toNat then -1 else if b[j].toNat < a[j].toNat then 1 else compareBytes (a.drop (j + 1)) (b.drop (j + 1)) := by
  rw [List.drop_eq_getElem_cons h1, List.drop_eq_getElem_cons h2, bytesC_cons]
theorem byte_at {s : ByteArray} {j : Nat} (h : j < s.data.toList.length) : (s.data[j]?.getD 0).toNat = (s.data.toList[j]).toNat := by
  have h' : j < s.data.size := by simpa using h
  rw [Array.getElem?_eq_getElem h', Option.getD_some, Array.getElem_toList]
theorem byte_at2 {s : ByteArray} {j : Nat} (h : j < s.data.toList.length) : (s.data[j]'(by simpa using h)).toNat = (s.data.toList[j]).toNat := by rw [Array.getElem_toList]
set_option maxHeartbeats 4000000 in
theorem r3Texts_w (s t : ByteArray) (hs : s.size ≤ 1000000000) (ht : t.size ≤ 1000000000) : ACalls Tryz.prog 49 [.c (.string s), .c (.string t)] [] (fun _ => false) (fun r h' => r = .c (.int .i64 (compareBytes s.data.toList t.data.toList)) ∧ h' = []) := by
  refine acalls mixed Tryz.func49 rfl Tryz.ntmps49 rfl fun E hE hst hho => ?_
  have ls : s.data.toList.length = s.size := rfl
  have lt : t.data.toList.length = t.size := rfl
  simp (maxSteps := 1000000) [hho, noHo, -List.reduceReplicate]
  refine loop_k mixed (fun j : Nat => ⟨slotsOf 39 [(0, .c (.string s)), (1, .c (.string t)), (5, .c (.int .i64 (j : Nat)))], []⟩) (fun j => s.size - j) (fun j => j ≤ s.size ∧ j ≤ t.size ∧ compareBytes s.data.toList t.data.toList = compareBytes (s.data.toList.drop j) (t.data.toList.drop j)) 0 ⟨Nat.zero_le _, Nat.zero_le _, by simp⟩ ?_ ?_
  · exact wk_eq (by simp [hE, lens]) rfl (by simp [livH, livO, AV.livL, AV.liv, wkL, wkV, List.range', slotsOf])
  rintro j ⟨hj1, hj2, hI⟩
  have c2 := r3numbers_w (s.size : Int) (t.size : Int)
  by_cases h1 : j < s.size
  case neg =>
    have h1i : ¬ (j : Int) < s.size := by omega
    have e := cb_end (a := s.data.toList) (b := t.data.toList) (j := j) (by omega) (by omega) (.inl (by omega))
    rw [ls, lt] at e
    rw [hI, e]
    simp (maxSteps := 1000000) [hho, noHo, slotsOf, h1, h1i, undef, onGP_none, condG_false, -List.reduceReplicate]
    refine call_x [] (c2) rfl rfl ⟨rfl, rfl⟩ hho (by simp) (by decide) (by simp) (by simp) ?_
    simp (maxSteps := 1000000) [hho, noHo, undef, onGP_none, condG_false, -List.reduceReplicate]
    exact Ret.drop (by rfl) ⟨rfl, rfl⟩
  have h1i : (j : Int) < s.size := by omega
  by_cases h2 : j < t.size
  case neg =>
    have h2i : ¬ (j : Int) < t.size := by omega
    have e := cb_end (a := s.data.toList) (b := t.data.toList) (j := j) (by omega) (by omega) (.inr (by omega))
    rw [ls, lt] at e
    rw [hI, e]
    simp (maxSteps := 1000000) [hho, noHo, slotsOf, h1, h1i, h2, h2i, undef, onGP_none, condG_false, -List.reduceReplicate]
    refine call_x [] (c2) rfl rfl ⟨rfl, rfl⟩ hho (by simp) (by decide) (by simp) (by simp) ?_
    simp (maxSteps := 1000000) [hho, noHo, undef, onGP_none, condG_false, -List.reduceReplicate]
    exact Ret.drop (by rfl) ⟨rfl, rfl⟩
  have h2i : (j : Int) < t.size := by omega
  have ba := byte_at (s := s) (j := j) (by omega)
  have bb := byte_at (s := t) (j := j) (by omega)
  have ba2 := byte_at2 (s := s) (j := j) (by omega)
  have bb2 := byte_at2 (s := t) (j := j) (by omega)
  have hst := cb_step (a := s.data.toList) (b := t.data.toList) (j := j) (by omega) (by omega)
  obtain ⟨x, hx⟩ : ∃ x : Nat, x = (s.data.toList[j]'(by omega)).toNat := ⟨_, rfl⟩
  obtain ⟨y, hy⟩ : ∃ y : Nat, y = (t.data.toList[j]'(by omega)).toNat := ⟨_, rfl⟩
  have hx256 : x < 256 := by rw [hx]; exact UInt8.toNat_lt _
  have hy256 : y < 256 := by rw [hy]; exact UInt8.toNat_lt _
  rw [← hx] at ba ba2 hst
  rw [← hy] at bb bb2 hst
  have ew : IntKind.i64.wrap ((j : Int) + 1) = (j + 1 : Nat) := by rw [IntWalk.i64_in _ (by omega)]; rfl
  have wx : IntKind.i64.wrap (x : Int) = x := IntWalk.i64_in _ (by omega)
  have wy : IntKind.i64.wrap (y : Int) = y := IntWalk.i64_in _ (by omega)
  by_cases hxy : x = y
  · subst hxy
    rw [if_neg (by omega), if_neg (by omega)] at hst
    simp (maxSteps := 1000000) [hho, noHo, slotsOf, h1, h1i, h2, h2i, -List.reduceReplicate]
    refine draw_k hho (.take 0 (.take 1 (.take 2 (.take 3 (.take 4 (.take 5 (.take 6 (.done)))))))) [] [] (by decide +kernel) (by simp) ?_
    simp (maxSteps := 1000000) [hho, noHo, ba, bb, ba2, bb2, h1, h2, h1i, h2i, ew, roOf, holdOf, wrOf, altK, heldOk, Region.binds, -List.reduceReplicate]
    refine round_next (j + 1) ⟨by omega, by omega, by rw [hI, hst]⟩ (by omega) ?_
    exact wk_of 0 0 (by simp) (by simp [hE, lens]) rfl (by simp [livH, livO, AV.livL, AV.liv, wkL, wkV, List.range']) (by simp [livH, livO, AV.livL, AV.liv, wkL, wkV, List.range', slotsOf])
  · have c1 := r3numbers_w (x : Int) (y : Int)
    have hxyi : ¬ (x : Int) = y := by omega
    have e : compareBytes s.data.toList t.data.toList = cmpN (x : Int) (y : Int) := by
      rw [hI, hst]
      unfold cmpN
      repeat' split
      all_goals omega
    rw [e]
    simp (maxSteps := 1000000) [hho, noHo, slotsOf, h1, h1i, h2, h2i, -List.reduceReplicate]
    refine draw_k hho (.take 0 (.take 1 (.take 2 (.take 3 (.take 4 (.take 5 (.take 6 (.done)))))))) [] [] (by decide +kernel) (by simp) ?_
    simp (maxSteps := 1000000) [hho, noHo, ba, bb, ba2, bb2, h1, h2, h1i, h2i, hxy, hxyi, roOf, holdOf, wrOf, altK, heldOk, Region.binds, -List.reduceReplicate]
    refine draw_k hho (.take 0 (.take 1 (.take 2 (.take 3 (.take 4 (.take 5 (.take 6 (.take 7 (.alt 8 (.take 9 (.done)) (.nil)))))))))) [] [] (by decide +kernel) (by simp) ?_
    simp (maxSteps := 1000000) [hho, noHo, ba, bb, ba2, bb2, h1, h2, h1i, h2i, wx, wy, roOf, holdOf, wrOf, altK, heldOk, Region.binds, -List.reduceReplicate]
    intros
    refine call_h [] (c1) rfl rfl ⟨rfl, rfl⟩ (by simp) (by simp) (by decide) (by simp) (by simp) ?_
    simp (maxSteps := 1000000) [hho, noHo, roOf, holdOf, wrOf, altK, heldOk, Region.binds, -List.reduceReplicate]
    exact Ret.drop (by rfl) ⟨rfl, rfl⟩
end Go.Proofs.YtjgdlocgoiinbaaGreatDoor
