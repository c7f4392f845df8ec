import Derived.Test.YtjgdlocgoiinbaaGreatDoorHQa
import Derived.Test.YtjgdlocgoiinbaaGreatDoorHD
namespace Go.Proofs.YtjgdlocgoiinbaaGreatDoor
set_option linter.unusedVariables false
set_option linter.unusedSimpArgs false
open Go.RowKit Go.Lib
attribute [local simp] isCut_nil isCut_region isCut_seq isCut_block isCut_loop isCut_cond isCut_skip isCut_exit isCut_ret isCut_range swapK putK altK condK_bool pickP_bool stepP stepO onPure_some onPure_none onImpl_some onImpl_none stepC onGP_some onGP_none onGV_some condG mkG onIt_it nextP_ptr takeP_eq takeV_some takeV_none takeU_some takeU_none takeQ takeW_some takeN_none takeN_some takeG_some takeO_some altO_some pureV binV2 eqF eqOp ovlV ovl2 rowAt capV binV intBin strBin isSh shV fldV ixV sliceV slice3V loadAV nilV lenV callV unV convV viewS cellsH loadV fldCut AV.ung AV.ungs AV.gc AV.cells AS.ev AS.put anyS gcsV gcO lens lnO gV guardV retK RetP_eq resV oneV anyRo loIx hiIx implO callP_clo evL gcsL clearV storeAV AS.push AS.setO appV appZ shortS copyV buildV partsV fillV srcV fzO okV isCell_c isCell_ptr isCell_sl isCell_fs isCell_fp isCell_clo rowZ_one rowZ_zero rowZ_2 rowZ_3 rowZ_4 rowZ_5 rowZ_6 rowZ_7 rowZ_8 rowZ_9 rowZ_10 rowZ_11 rowZ_12 noHo Value.oneCell' max2V min2V lookV updV lenM msAt afterH putBack frzFrom frzO rebO backIx nilEq_sl nilEq_fs nilEq_ifn nilEq_ifh ifOp_eql ifOp_neq isLit nilOp_eql nilOp_neq AV.reb AV.rebL
attribute [local simp ↓] runK_skip runK_region runK_draw runK_seq runK_cut runK_cond runK_block runK_loop runK_exit runK_label runK_goto runK_ret runK_range contK_nil contK_seq contK_seq_ret contK_seq_exit contK_seq_goto contK_block contK_block_ret contK_block_goto contK_block_exit runO_nil runO_cons roundK_exit roundK_ret roundK_goto exitK_ret cutK_ret cutK_exit runE_done runE_nil runE_take runE_alt condG_true condG_false
set_option maxRecDepth 10000
def okI (v : ValS) : Prop := valOk v = true ∧ (-9223372036854775808 ≤ v.n ∧ v.n ≤ 9223372036854775807) ∧ v.t.size ≤ 1000000000
theorem plV_I {v : ValS} (h : (-9223372036854775808 ≤ v.n ∧ v.n ≤ 9223372036854775807) ∧ v.t.size ≤ 1000000000) : okI (plV v) := by
  unfold plV
  split
  · rename_i hv; exact ⟨hv, h.1, h.2⟩
  · exact ⟨rfl, ⟨by decide, by decide⟩, by decide⟩
theorem ok_k {v : ValS} (h : valOk v = true) : 0 ≤ v.k ∧ v.k ≤ 5 := by
  unfold valOk at h
  by_cases k0 : v.k = 0
  · omega
  by_cases k1 : v.k = 1
  · omega
  by_cases k2 : v.k = 2
  · omega
  by_cases k3 : v.k = 3
  · omega
  by_cases k4 : v.k = 4
  · omega
  by_cases k5 : v.k = 5
  · omega
  · rw [if_neg k0, if_neg k1, if_neg k2, if_neg k3, if_neg k4, if_neg k5] at h; cases h
theorem ok_scale {v : ValS} (h : valOk v = true) (h2 : v.k = 2 ∨ v.k = 3) : scaleOk v.s = true := by
  have := valOk_2 h (by unfold cls; rcases h2 with h2 | h2 <;> rw [h2] <;> rfl)
  unfold scaleOk
  simp only [Bool.and_eq_true, decide_eq_true_eq]
  exact ⟨this.2.1, this.2.2⟩
end Go.Proofs.YtjgdlocgoiinbaaGreatDoor
namespace Go.Proofs.YtjgdlocgoiinbaaGreatDoor
set_option linter.unusedVariables false
set_option linter.unusedSimpArgs false
open Go.RowKit Go.Lib
attribute [local simp] isCut_nil isCut_region isCut_seq isCut_block isCut_loop isCut_cond isCut_skip isCut_exit isCut_ret isCut_range swapK putK altK condK_bool pickP_bool stepP stepO onPure_some onPure_none onImpl_some onImpl_none stepC onGP_some onGP_none onGV_some condG mkG onIt_it nextP_ptr takeP_eq takeV_some takeV_none takeU_some takeU_none takeQ takeW_some takeN_none takeN_some takeG_some takeO_some altO_some pureV binV2 eqF eqOp ovlV ovl2 rowAt capV binV intBin strBin isSh shV fldV ixV sliceV slice3V loadAV nilV lenV callV unV convV viewS cellsH loadV fldCut AV.ung AV.ungs AV.gc AV.cells AS.ev AS.put anyS gcsV gcO lens lnO gV guardV retK RetP_eq resV oneV anyRo loIx hiIx implO callP_clo evL gcsL clearV storeAV AS.push AS.setO appV appZ shortS copyV buildV partsV fillV srcV fzO okV isCell_c isCell_ptr isCell_sl isCell_fs isCell_fp isCell_clo rowZ_one rowZ_zero rowZ_2 rowZ_3 rowZ_4 rowZ_5 rowZ_6 rowZ_7 rowZ_8 rowZ_9 rowZ_10 rowZ_11 rowZ_12 noHo Value.oneCell' max2V min2V lookV updV lenM msAt afterH putBack frzFrom frzO rebO backIx nilEq_sl nilEq_fs nilEq_ifn nilEq_ifh ifOp_eql ifOp_neq isLit nilOp_eql nilOp_neq AV.reb AV.rebL
attribute [local simp ↓] runK_skip runK_region runK_draw runK_seq runK_cut runK_cond runK_block runK_loop runK_exit runK_label runK_goto runK_ret runK_range contK_nil contK_seq contK_seq_ret contK_seq_exit contK_seq_goto contK_block contK_block_ret contK_block_goto contK_block_exit runO_nil runO_cons roundK_exit roundK_ret roundK_goto exitK_ret cutK_ret cutK_exit runE_done runE_nil runE_take runE_alt condG_true condG_false
set_option maxRecDepth 10000
end Go.Proofs.YtjgdlocgoiinbaaGreatDoor
namespace Go.Proofs.YtjgdlocgoiinbaaGreatDoor
set_option linter.unusedVariables false
set_option linter.unusedSimpArgs false
open Go.RowKit Go.Lib
attribute [local simp] isCut_nil isCut_region isCut_seq isCut_block isCut_loop isCut_cond isCut_skip isCut_exit isCut_ret isCut_range swapK putK altK condK_bool pickP_bool stepP stepO onPure_some onPure_none onImpl_some onImpl_none stepC onGP_some onGP_none onGV_some condG mkG onIt_it nextP_ptr takeP_eq takeV_some takeV_none takeU_some takeU_none takeQ takeW_some takeN_none takeN_some takeG_some takeO_some altO_some pureV binV2 eqF eqOp ovlV ovl2 rowAt capV binV intBin strBin isSh shV fldV ixV sliceV slice3V loadAV nilV lenV callV unV convV viewS cellsH loadV fldCut AV.ung AV.ungs AV.gc AV.cells AS.ev AS.put anyS gcsV gcO lens lnO gV guardV retK RetP_eq resV oneV anyRo loIx hiIx implO callP_clo evL gcsL clearV storeAV AS.push AS.setO appV appZ shortS copyV buildV partsV fillV srcV fzO okV isCell_c isCell_ptr isCell_sl isCell_fs isCell_fp isCell_clo rowZ_one rowZ_zero rowZ_2 rowZ_3 rowZ_4 rowZ_5 rowZ_6 rowZ_7 rowZ_8 rowZ_9 rowZ_10 rowZ_11 rowZ_12 noHo Value.oneCell' max2V min2V lookV updV lenM msAt afterH putBack frzFrom frzO rebO backIx nilEq_sl nilEq_fs nilEq_ifn nilEq_ifh ifOp_eql ifOp_neq isLit nilOp_eql nilOp_neq AV.reb AV.rebL
attribute [local simp ↓] runK_skip runK_region runK_draw runK_seq runK_cut runK_cond runK_block runK_loop runK_exit runK_label runK_goto runK_ret runK_range contK_nil contK_seq contK_seq_ret contK_seq_exit contK_seq_goto contK_block contK_block_ret contK_block_goto contK_block_exit runO_nil runO_cons roundK_exit roundK_ret roundK_goto exitK_ret cutK_ret cutK_exit runE_done runE_nil runE_take runE_alt condG_true condG_false
set_option maxRecDepth 10000
theorem ba_app (a b : List UInt8) : baL a ++ baL b = baL (a ++ b) := by
  apply ByteArray.ext
  simp [baL]
theorem ba_app1 (c : UInt8) (l : List UInt8) : (⟨#[c]⟩ : ByteArray) ++ baL l = baL (c :: l) := ba_app [c] l
theorem ba_app2 (c : UInt8) (l : List UInt8) : baL l ++ (⟨#[c]⟩ : ByteArray) = baL (l ++ [c]) := ba_app l [c]
theorem ba_size (l : List UInt8) : (baL l).size = l.length := by simp [baL, ByteArray.size]
theorem ba_ext (l : List UInt8) (i j : Nat) : (baL l).extract i j = baL ((l.drop i).take (j - i)) := by
  apply ByteArray.ext
  simp [baL]
@[simp] theorem sz_one (c : UInt8) : (⟨#[c]⟩ : ByteArray).size = 1 := rfl
theorem ba_inj {a b : List UInt8} : baL a = baL b ↔ a = b := ⟨fun h => by have := congrArg (fun s : ByteArray => s.data.toList) h; exact this, fun h => by rw [h]⟩
set_option maxHeartbeats 4000000 in
theorem dcdigits_w (s : ByteArray) (hs : s.size ≤ 1000000000) : ACalls Tryz.prog 114 [.c (.string s)] [] (fun _ => false) (fun r h' => r = .c (.bool (digsOk s.data.toList)) ∧ h' = []) := by
  refine acalls mixed Tryz.func114 rfl Tryz.ntmps114 rfl fun E hE hst hho => ?_
  have ls : s.data.toList.length = s.size := rfl
  simp (maxSteps := 1000000) [hho, noHo, -List.reduceReplicate]
  refine loop_k mixed (fun j : Nat => ⟨slotsOf 22 [(0, .c (.string s)), (5, .c (.int .i64 (s.size : Nat))), (6, .c (.int .i64 (j : Nat)))], []⟩) (fun j => s.size - j) (fun j => j ≤ s.size ∧ AllDig (s.data.toList.take j)) 0 ⟨Nat.zero_le _, by intro c hc; simp at hc⟩ ?_ ?_
  · exact wk_eq (by simp [hE, lens]) rfl (by simp [livH, livO, AV.livL, AV.liv, wkL, wkV, List.range', slotsOf])
  rintro j ⟨hj1, hI⟩
  by_cases h1 : j < s.size
  case neg =>
    have h1i : ¬ (j : Int) < s.size := by omega
    have hj : j = s.data.toList.length := by omega
    rw [hj, List.take_length] at hI
    by_cases he : s = ByteArray.empty
    · have e : digsOk s.data.toList = false := by rw [he]; rfl
      rw [e]
      simp (maxSteps := 1000000) [hho, noHo, slotsOf, h1, h1i, he, undef, onGP_none, condG_false, -List.reduceReplicate]
      exact Ret.drop (by rfl) ⟨rfl, rfl⟩
    · have e : digsOk s.data.toList = true := digsOk_iff.2 ⟨fun h => he (by apply ByteArray.ext; exact Array.toList_inj.1 h), hI⟩
      rw [e]
      have he2 : ¬ s = ({ data := #[] } : ByteArray) := he
      simp (maxSteps := 1000000) [hho, noHo, slotsOf, h1, h1i, he, he2, undef, onGP_none, condG_false, -List.reduceReplicate]
      exact Ret.drop (by rfl) ⟨rfl, rfl⟩
  have h1i : (j : Int) < s.size := by omega
  have ba := byte_at (s := s) (j := j) (by omega)
  have ba2 := byte_at2 (s := s) (j := j) (by omega)
  have htk : s.data.toList.take (j + 1) = s.data.toList.take j ++ [s.data.toList[j]'(by omega)] := by rw [List.take_succ_eq_append_getElem (by omega)]
  obtain ⟨c, hc⟩ : ∃ c : UInt8, c = s.data.toList[j]'(by omega) := ⟨_, rfl⟩
  have hmem : c ∈ s.data.toList := by rw [hc]; exact List.getElem_mem _
  rw [← hc] at ba ba2 htk
  obtain ⟨x, hx⟩ : ∃ x : Nat, x = c.toNat := ⟨_, rfl⟩
  have hx256 : x < 256 := by rw [hx]; exact UInt8.toNat_lt _
  rw [← hx] at ba ba2
  have ew : IntKind.i64.wrap ((j : Int) + 1) = (j + 1 : Nat) := by rw [IntWalk.i64_in _ (by omega)]; rfl
  by_cases hd : isDig c = true
  · have hd' := isDig_iff.1 hd
    rw [← hx] at hd'
    have n1 : ¬ (x : Int) < 48 := by omega
    have n2 : ¬ (57 : Int) < x := by omega
    have n3 : ¬ x < 48 := by omega
    have n4 : ¬ 57 < x := by omega
    simp (maxSteps := 1000000) [hho, noHo, slotsOf, h1, h1i, ba, ba2, n1, n2, n3, n4, ew, undef, onGP_none, condG_false, -List.reduceReplicate]
    refine round_next (j + 1) ⟨by omega, by rw [htk]; intro y hy; rcases List.mem_append.1 hy with h | h; exact hI y h; rw [List.mem_singleton.1 h]; exact hd⟩ (by omega) ?_
    exact wk_of 0 0 (by simp) (by simp [hE, lens]) rfl (by simp [livH, livO, AV.livL, AV.liv, wkL, wkV, List.range']) (by simp [livH, livO, AV.livL, AV.liv, wkL, wkV, List.range', slotsOf])
  · have e : digsOk s.data.toList = false := digsOk_bad hmem (by simpa using hd)
    have hd' : ¬ (48 ≤ c.toNat ∧ c.toNat ≤ 57) := fun h => hd (isDig_iff.2 h)
    rw [← hx] at hd'
    rw [e]
    by_cases n1 : x < 48
    · have n1i : (x : Int) < 48 := by omega
      simp (maxSteps := 1000000) [hho, noHo, slotsOf, h1, h1i, ba, ba2, n1, n1i, undef, onGP_none, condG_false, undef, onGP_none, condG_false, -List.reduceReplicate]
      exact Ret.drop (by rfl) ⟨rfl, rfl⟩
    · have n1i : ¬ (x : Int) < 48 := by omega
      have n2 : 57 < x := by omega
      have n2i : (57 : Int) < x := by omega
      simp (maxSteps := 1000000) [hho, noHo, slotsOf, h1, h1i, ba, ba2, n1, n1i, n2, n2i, undef, onGP_none, condG_false, -List.reduceReplicate]
      exact Ret.drop (by rfl) ⟨rfl, rfl⟩
theorem itoa_abs (n : Int) : itoa n = if n < 0 then 45 :: decDigits n.natAbs else decDigits n.natAbs := by
  unfold itoa
  split
  · rfl
  · rw [show n.toNat = n.natAbs by omega]
theorem dec_head (m : Nat) : minB (decDigits m) = false := by
  unfold minB
  cases h : decDigits m with
  | nil => rfl
  | cons c l =>
    have hc := decDigits_all m c (by rw [h]; exact List.mem_cons_self ..)
    simp only [List.head?_cons]
    have : c ≠ 45 := fun e => by subst e; cases hc
    simp [this]
theorem itoa_cut (n : Int) : minB (itoa n) = decide (n < 0) ∧ bodyB (itoa n) = decDigits n.natAbs := by
  rw [itoa_abs]
  unfold bodyB
  split
  · rename_i h
    exact ⟨by simp [minB, h], by simp [minB]⟩
  · rename_i h
    rw [dec_head]
    exact ⟨by simp [h], by simp⟩
set_option maxHeartbeats 4000000 in
theorem dcPrint_w (n k : Int) (hn : -9223372036854775808 ≤ n ∧ n ≤ 9223372036854775807) (hk : scaleOk k = true) : ACalls Tryz.prog 55 [.c (.int .i64 n), .c (.int .i64 k)] [] (fun _ => false) (fun r h' => r = .c (.string (baL (printD n k.toNat))) ∧ h' = []) := by
  refine acalls mixed Tryz.func55 rfl Tryz.ntmps55 rfl fun E hE hst hho => ?_
  have c1 := right_dec k
  rw [hk] at c1
  have c2 := itoa_w n hn
  have c3 := cutPrefix_w (baL (itoa n)) ⟨#[45]⟩
  have e1 : ((⟨#[45]⟩ : ByteArray).data.toList) = [45] := rfl
  rw [toL_ba, e1, pre_minus, trim_minus, (itoa_cut n).1, (itoa_cut n).2] at c3
  have kb := scale_le hk
  obtain ⟨q, rfl⟩ : ∃ q : Nat, k = (q : Int) := ⟨k.toNat, by omega⟩
  rw [Int.toNat_natCast]
  obtain ⟨R, hR⟩ : ∃ R, R = baL (printD n q) := ⟨_, rfl⟩
  rw [← hR]
  obtain ⟨D, hD⟩ : ∃ D, D = decDigits n.natAbs := ⟨_, rfl⟩
  obtain ⟨T, hT⟩ : ∃ T, T = itoa n := ⟨_, rfl⟩
  obtain ⟨neg, hneg⟩ : ∃ b, b = decide (n < 0) := ⟨_, rfl⟩
  have hDl : D.length ≤ 20 := by rw [hD]; exact Nat.le_trans (decDigits_len (k := 19) (by omega)) (by omega)
  have hD1 : 1 ≤ D.length := by
    have := decDigits_ne n.natAbs
    rw [← hD] at this
    exact List.length_pos_iff.2 this
  rw [← hT] at c2
  rw [← hT, ← hD, ← hneg] at c3
  simp (maxSteps := 1000000) [hho, noHo, -List.reduceReplicate]
  refine call_x [] (c1) rfl rfl ⟨rfl, rfl⟩ hho (by simp) (by decide) (by simp) (by simp) ?_
  simp (maxSteps := 1000000) [hho, noHo, undef, onGP_none, condG_false, -List.reduceReplicate]
  refine call_x [] (c2) rfl rfl ⟨rfl, rfl⟩ hho (by simp) (by decide) (by simp) (by simp) ?_
  simp (maxSteps := 1000000) [hho, noHo, undef, onGP_none, condG_false, -List.reduceReplicate]
  refine call_x [] (c3) rfl rfl ⟨rfl, rfl⟩ hho (by simp) (by decide) (by simp) (by simp) ?_
  simp (maxSteps := 1000000) [hho, noHo, undef, onGP_none, condG_false, -List.reduceReplicate]
  refine loop_k mixed (fun j : Nat => ⟨slotsOf 42 [(1, .c (.int .i64 (q : Nat))), (5, .c (.string (baL (List.replicate j 48 ++ D)))), (6, .c (.bool neg))], []⟩) (fun j => q + 1 - (j + D.length)) (fun j => j ≤ q + 1 - D.length) 0 (Nat.zero_le _) ?_ ?_
  · exact wk_eq (by simp [hE, lens]) rfl (by simp [livH, livO, AV.livL, AV.liv, wkL, wkV, List.range', slotsOf])
  rintro j hj
  have hlen : (baL (List.replicate j 48 ++ D)).size = j + D.length := by rw [ba_size]; simp
  by_cases h1 : j + D.length ≤ q
  · have h1i : (j : Int) + D.length ≤ q := by omega
    have hs : (⟨#[48]⟩ : ByteArray) ++ baL (List.replicate j 48 ++ D) = baL (List.replicate (j + 1) 48 ++ D) := by rw [ba_app1]; rfl
    simp (maxSteps := 1000000) [hho, noHo, slotsOf, hlen, h1, h1i, hs, undef, onGP_none, condG_false, -List.reduceReplicate]
    refine ⟨by omega, ?_⟩
    refine round_next (j + 1) (show j + 1 ≤ q + 1 - D.length by omega) (by show q + 1 - (j + 1 + D.length) < q + 1 - (j + D.length); omega) ?_
    exact wk_of 0 0 (by simp) (by simp [hE, lens]) rfl (by simp [livH, livO, AV.livL, AV.liv, wkL, wkV, List.range']) (by simp [livH, livO, AV.livL, AV.liv, wkL, wkV, List.range', slotsOf])
  have h1i : ¬ (j : Int) + D.length ≤ q := by omega
  have hjj : j = q + 1 - D.length := by omega
  have hpad : List.replicate j 48 ++ D = padD n.natAbs q := by
    unfold padD
    rw [← hD, hjj]
  obtain ⟨P, hP⟩ : ∃ P, P = List.replicate j 48 ++ D := ⟨_, rfl⟩
  rw [← hP] at hpad hlen
  have hPl : P.length = j + D.length := by rw [hP]; simp
  rw [← hPl] at h1 hlen
  have h1i : ¬ (P.length : Int) ≤ q := by omega
  have hPs : (baL P).size = P.length := ba_size P
  have key : ∀ M : List UInt8, printM n.natAbs q = M → R = if neg = true then baL (45 :: M) else baL M := by
    intro M hM
    rw [hR]
    unfold printD
    rw [hM, hneg]
    by_cases h : n < 0
    · simp [h]
    · simp [h]
  have hs1 : ∀ M : List UInt8, (⟨#[45]⟩ : ByteArray) ++ baL M = baL (45 :: M) := fun M => ba_app1 45 M
  by_cases h0 : 0 < q
  · have h0i : (0 : Int) < q := by omega
    have hM : printM n.natAbs q = P.take (P.length - q) ++ 46 :: P.drop (P.length - q) := by
      unfold printM
      rw [if_neg (by omega), ← hpad]
    have ew : IntKind.i64.wrap ((P.length : Int) - q) = ((P.length - q : Nat) : Int) := by rw [IntWalk.i64_in _ (by omega)]; omega
    have x1 : (baL P).extract 0 (P.length - q) = baL (P.take (P.length - q)) := by rw [ba_ext]; simp
    have x2 : (baL P).extract (P.length - q) P.length = baL (P.drop (P.length - q)) := by
      rw [ba_ext, List.take_of_length_le (by simp)]
    have x3 : baL (P.take (P.length - q)) ++ (⟨#[46]⟩ : ByteArray) ++ baL (P.drop (P.length - q)) = baL (printM n.natAbs q) := by
      rw [ba_app2, ba_app, hM]; simp
    rw [key _ rfl]
    simp (maxSteps := 1000000) [hho, noHo, slotsOf, hlen, h1, h1i, ← hP, h0, h0i, -List.reduceReplicate]
    refine draw_k hho (.take 0 (.take 1 (.take 2 (.take 3 (.take 4 (.take 5 (.take 6 (.take 7 (.take 8 (.take 9 (.take 10 (.take 11 (.take 12 (.take 13 (.take 14 (.done)))))))))))))))) [] [] (by decide +kernel) (by simp) ?_
    simp (maxSteps := 1000000) [hho, noHo, hlen, ew, x1, x2, x3, roOf, holdOf, wrOf, altK, heldOk, Region.binds, -List.reduceReplicate]
    rw [ba_size, ba_size]
    have hT2 : (P.take (P.length - q)).length ≤ P.length := by simp
    have hT3 : (P.drop (P.length - q)).length ≤ P.length := by simp
    refine ⟨by omega, by omega, ?_⟩
    cases neg with
    | true =>
      rw [if_pos rfl, if_pos rfl, hs1, ba_size, hM, List.length_append, List.length_cons]
      exact ⟨by omega, Ret.drop (by rfl) ⟨rfl, rfl⟩⟩
    | false =>
      exact Ret.drop (by rfl) ⟨rfl, rfl⟩
  · have h0i : ¬ (0 : Int) < q := by omega
    have hM : printM n.natAbs q = P := by
      unfold printM
      rw [if_pos (by omega), hpad, show q = 0 by omega]
    rw [key P hM]
    cases neg with
    | true =>
      simp (maxSteps := 1000000) [hho, noHo, slotsOf, hlen, h1, h1i, ← hP, h0, h0i, hs1, undef, onGP_none, condG_false, -List.reduceReplicate]
      exact ⟨by omega, Ret.drop (by rfl) ⟨rfl, rfl⟩⟩
    | false =>
      simp (maxSteps := 1000000) [hho, noHo, slotsOf, hlen, h1, h1i, ← hP, h0, h0i, hs1, undef, onGP_none, condG_false, -List.reduceReplicate]
      exact Ret.drop (by rfl) ⟨rfl, rfl⟩
end Go.Proofs.YtjgdlocgoiinbaaGreatDoor
