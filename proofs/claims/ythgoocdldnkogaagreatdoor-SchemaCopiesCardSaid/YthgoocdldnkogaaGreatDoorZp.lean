import Derived.Test.YthgoocdldnkogaaGreatDoorHS
import Derived.Test.YthgoocdldnkogaaGreatDoorHJc
import Derived.Test.YthgoocdldnkogaaGreatDoorHZ1
namespace Go.Proofs.YthgoocdldnkogaaGreatDoor
set_option linter.unusedVariables false
set_option linter.unusedSimpArgs false
open Go.RowKit
attribute [local simp] isCut_nil isCut_region isCut_seq isCut_block isCut_loop isCut_cond isCut_skip isCut_exit isCut_ret isCut_range swapK putK altK condK_bool pickP_bool stepP stepO onPure_some onPure_none onImpl_some onImpl_none stepC onGP_some onGP_none onGV_some condG mkG onIt_it nextP_ptr takeP_eq takeV_some takeV_none takeU_some takeU_none takeQ takeW_some takeN_none takeN_some takeG_some takeO_some altO_some pureV binV2 eqF eqOp ovlV ovl2 rowAt capV binV intBin strBin isSh shV fldV ixV sliceV slice3V loadAV nilV lenV callV unV convV viewS cellsH loadV fldCut AV.ung AV.ungs AV.gc AV.cells AS.ev AS.put anyS gcsV gcO lens lnO gV guardV retK RetP_eq resV oneV anyRo loIx hiIx implO callP_clo evL gcsL clearV storeAV AS.push AS.setO appV appZ shortS copyV buildV partsV fillV srcV fzO okV isCell_c isCell_ptr isCell_sl isCell_fs isCell_fp isCell_clo rowZ_one rowZ_zero rowZ_2 rowZ_3 rowZ_4 rowZ_5 rowZ_6 rowZ_7 rowZ_8 rowZ_9 rowZ_10 rowZ_11 rowZ_12 noHo Value.oneCell' max2V min2V lookV updV updK updW cvals mkAt basV lenM msAt afterH putBack frzFrom frzO rebO backIx nilEq_sl nilEq_fs nilEq_ifn nilEq_ifh ifOp_eql ifOp_neq isLit nilOp_eql nilOp_neq AV.reb AV.rebL
attribute [local simp ↓] runK_skip runK_region runK_draw runK_seq runK_cut runK_cond runK_block runK_loop runK_exit runK_label runK_goto runK_ret runK_range contK_nil contK_seq contK_seq_ret contK_seq_exit contK_seq_goto contK_block contK_block_ret contK_block_goto contK_block_exit runO_nil runO_cons roundK_exit roundK_ret roundK_goto exitK_ret cutK_ret cutK_exit runE_done runE_nil runE_take runE_alt condG_true condG_false
set_option maxRecDepth 10000
def wvK (b : Bs) : List AObj := .o .box [.ptr 1 0 1] :: wrK 2 b
@[simp] theorem wvK_len (b : Bs) : (wvK b).length = 3 := rfl
set_option maxHeartbeats 4000000 in
theorem listTable_w (l : List TabS) (enc : TabS → Bs) (m : Nat) (hm : m ≤ 100000) (g : FuncId) (hg : callable Tryz.prog g = true) (hl : l.length ≤ 100) (henc : ∀ x ∈ l, (enc x).length ≤ m) (b : Bs) (hb : b.length ≤ 100000000)
  (hc : ∀ x ∈ l, ∀ b' : Bs, b'.length ≤ b.length + 10000100 → ACalls Tryz.prog g [.agg (tabA x), .ptr 0 0 1] (wvK b') (fun k => decide (k < 3)) (fun r h' => r = .tup [] ∧ h' = wvK (b' ++ enc x))) :
  ACalls Tryz.prog 90 [.ptr 1 0 1, .fs 4 l.length (tabsA l), .clo (.func g) [] [.ptr 0 0 1]] (wvK b) (fun k => decide (k < 3)) (fun r h' => r = .tup [] ∧ h' = wvK (b ++ (num l.length ++ l.flatMap enc))) := by
 refine acalls mixed Tryz.func90 rfl Tryz.ntmps90 rfl fun E hE hst hho => ?_
 have hnl := num_len (l.length : Int) (by omega) (by omega)
 obtain ⟨b1, hb1⟩ : ∃ x, x = b ++ num l.length := ⟨_, rfl⟩
 have lb1 : b1.length ≤ b.length + 9 := by rw [hb1, List.length_append]; omega
 have c1 := number_w b (by omega) (l.length : Int) (by omega) (by omega)
 rw [← hb1] at c1
 have hbe : b ++ (num l.length ++ l.flatMap enc) = b1 ++ l.flatMap enc := by rw [hb1, List.append_assoc]
 rw [hbe]
 simp (maxSteps := 1000000) [hho, noHo, wvK, wrK, -List.reduceReplicate]
 refine call_x [1, 2] (c1) rfl rfl ⟨rfl, rfl⟩ hho (by simp) (by decide) (by simp) (by simp) ?_
 simp (maxSteps := 1000000) [hho, noHo, wrO, -List.reduceReplicate]
 refine loop_k mixed (fun j : Nat => ⟨slotsOf 22 [(2, .clo (.func g) [] [.ptr 0 0 1]), (12, .fs 4 l.length (tabsA l)), (13, .c (.int .i64 l.length)), (14, .c (.int .i64 (j : Nat)))], wvK (b1 ++ (l.take j).flatMap enc)⟩) (fun j => l.length - j) (fun j => j ≤ l.length) 0 (Nat.zero_le _) ?_ ?_
 ·exact wk_eq (by simp [hE, lens, wvK, wrK]) (by simp [wvK, wrK]) (by simp [livH, livO, AV.livL, AV.liv, wkL, wkV, List.range', slotsOf])
 intro j hj
 have hfl := flat_len (f := enc) (m := m) (l.take j) fun c hc => henc c (List.mem_of_mem_take hc)
 rw [List.length_take] at hfl
 have hmul : min j l.length * m ≤ 100 * 100000 := Nat.mul_le_mul (by omega) hm
 by_cases hjl : j < l.length
 ·have hat := tabsA_at l j hjl
  have ew : IntKind.i64.wrap ((j : Int) + 1) = (j + 1 : Nat) := by rw [IntWalk.i64_in _ (by omega)]; rfl
  have e0 : j * 4 + 4 ≤ l.length * 4 := by omega
  have hsu : (l.take (j + 1)).flatMap enc = (l.take j).flatMap enc ++ enc l[j] := by rw [List.take_succ_eq_append_getElem hjl, List.flatMap_append]; simp
  have hx := hc l[j] (List.getElem_mem hjl)
  obtain ⟨x, hxe⟩ : ∃ x, x = l[j] := ⟨_, rfl⟩
  rw [← hxe] at hat hx hsu
  obtain ⟨B, hB⟩ : ∃ B, B = b1 ++ (l.take j).flatMap enc := ⟨_, rfl⟩
  have lB : B.length ≤ b.length + 10000100 := by rw [hB, List.length_append]; omega
  have hbn : b1 ++ (l.take (j + 1)).flatMap enc = B ++ enc x := by rw [hsu, hB, List.append_assoc]
  rw [← hB]
  have hx := hx B (by omega)
  obtain ⟨B2, hB2⟩ : ∃ B2, B2 = B ++ enc x := ⟨_, rfl⟩
  rw [← hB2] at hx hbn
  simp (maxSteps := 1000000) [hho, noHo, slotsOf, wvK, wrK, hjl, hat, e0, hg, -List.reduceReplicate]
  refine call_x [0, 1, 2] (hx) rfl rfl ⟨rfl, rfl⟩ hho (by simp) (by decide) (by simp) (by simp) ?_
  simp (maxSteps := 1000000) [hho, noHo, wvK, wrK, ew, -List.reduceReplicate]
  refine round_next (j + 1) (by omega) (by omega) ?_
  exact wk_of 3 1 (by simp) (by simp [hE, lens, wvK, wrK]) (by simp [wvK, wrK, hbn]; rw [← hbn]; simp) (by simp [livH, livO, AV.livL, AV.liv, wkL, wkV, List.range']) (by simp [livH, livO, AV.livL, AV.liv, wkL, wkV, List.range', slotsOf])
 obtain rfl : j = l.length := by omega
 rw [List.take_length]
 simp (maxSteps := 1000000) [hho, noHo, slotsOf, wvK, wrK, -List.reduceReplicate]
 exact Ret.same ⟨rfl, rfl⟩
set_option maxHeartbeats 4000000 in
theorem listColumn_w (l : List ColS) (enc : ColS → Bs) (m : Nat) (hm : m ≤ 100000) (g : FuncId) (hg : callable Tryz.prog g = true) (hl : l.length ≤ 100) (henc : ∀ x ∈ l, (enc x).length ≤ m) (b : Bs) (hb : b.length ≤ 100000000)
  (hc : ∀ x ∈ l, ∀ b' : Bs, b'.length ≤ b.length + 10000100 → ACalls Tryz.prog g [.agg (colA x), .ptr 0 0 1] (wvK b') (fun k => decide (k < 3)) (fun r h' => r = .tup [] ∧ h' = wvK (b' ++ enc x))) :
  ACalls Tryz.prog 93 [.ptr 1 0 1, .fs 10 l.length (colsA l), .clo (.func g) [] [.ptr 0 0 1]] (wvK b) (fun k => decide (k < 3)) (fun r h' => r = .tup [] ∧ h' = wvK (b ++ (num l.length ++ l.flatMap enc))) := by
 refine acalls mixed Tryz.func93 rfl Tryz.ntmps93 rfl fun E hE hst hho => ?_
 have hnl := num_len (l.length : Int) (by omega) (by omega)
 obtain ⟨b1, hb1⟩ : ∃ x, x = b ++ num l.length := ⟨_, rfl⟩
 have lb1 : b1.length ≤ b.length + 9 := by rw [hb1, List.length_append]; omega
 have c1 := number_w b (by omega) (l.length : Int) (by omega) (by omega)
 rw [← hb1] at c1
 have hbe : b ++ (num l.length ++ l.flatMap enc) = b1 ++ l.flatMap enc := by rw [hb1, List.append_assoc]
 rw [hbe]
 simp (maxSteps := 1000000) [hho, noHo, wvK, wrK, -List.reduceReplicate]
 refine call_x [1, 2] (c1) rfl rfl ⟨rfl, rfl⟩ hho (by simp) (by decide) (by simp) (by simp) ?_
 simp (maxSteps := 1000000) [hho, noHo, wrO, -List.reduceReplicate]
 refine loop_k mixed (fun j : Nat => ⟨slotsOf 22 [(2, .clo (.func g) [] [.ptr 0 0 1]), (12, .fs 10 l.length (colsA l)), (13, .c (.int .i64 l.length)), (14, .c (.int .i64 (j : Nat)))], wvK (b1 ++ (l.take j).flatMap enc)⟩) (fun j => l.length - j) (fun j => j ≤ l.length) 0 (Nat.zero_le _) ?_ ?_
 ·exact wk_eq (by simp [hE, lens, wvK, wrK]) (by simp [wvK, wrK]) (by simp [livH, livO, AV.livL, AV.liv, wkL, wkV, List.range', slotsOf])
 intro j hj
 have hfl := flat_len (f := enc) (m := m) (l.take j) fun c hc => henc c (List.mem_of_mem_take hc)
 rw [List.length_take] at hfl
 have hmul : min j l.length * m ≤ 100 * 100000 := Nat.mul_le_mul (by omega) hm
 by_cases hjl : j < l.length
 ·have hat := colsA_at l j hjl
  have ew : IntKind.i64.wrap ((j : Int) + 1) = (j + 1 : Nat) := by rw [IntWalk.i64_in _ (by omega)]; rfl
  have e0 : j * 10 + 10 ≤ l.length * 10 := by omega
  have hsu : (l.take (j + 1)).flatMap enc = (l.take j).flatMap enc ++ enc l[j] := by rw [List.take_succ_eq_append_getElem hjl, List.flatMap_append]; simp
  have hx := hc l[j] (List.getElem_mem hjl)
  obtain ⟨x, hxe⟩ : ∃ x, x = l[j] := ⟨_, rfl⟩
  rw [← hxe] at hat hx hsu
  obtain ⟨B, hB⟩ : ∃ B, B = b1 ++ (l.take j).flatMap enc := ⟨_, rfl⟩
  have lB : B.length ≤ b.length + 10000100 := by rw [hB, List.length_append]; omega
  have hbn : b1 ++ (l.take (j + 1)).flatMap enc = B ++ enc x := by rw [hsu, hB, List.append_assoc]
  rw [← hB]
  have hx := hx B (by omega)
  obtain ⟨B2, hB2⟩ : ∃ B2, B2 = B ++ enc x := ⟨_, rfl⟩
  rw [← hB2] at hx hbn
  simp (maxSteps := 1000000) [hho, noHo, slotsOf, wvK, wrK, hjl, hat, e0, hg, -List.reduceReplicate]
  refine call_x [0, 1, 2] (hx) rfl rfl ⟨rfl, rfl⟩ hho (by simp) (by decide) (by simp) (by simp) ?_
  simp (maxSteps := 1000000) [hho, noHo, wvK, wrK, ew, -List.reduceReplicate]
  refine round_next (j + 1) (by omega) (by omega) ?_
  exact wk_of 3 1 (by simp) (by simp [hE, lens, wvK, wrK]) (by simp [wvK, wrK, hbn]; rw [← hbn]; simp) (by simp [livH, livO, AV.livL, AV.liv, wkL, wkV, List.range']) (by simp [livH, livO, AV.livL, AV.liv, wkL, wkV, List.range', slotsOf])
 obtain rfl : j = l.length := by omega
 rw [List.take_length]
 simp (maxSteps := 1000000) [hho, noHo, slotsOf, wvK, wrK, -List.reduceReplicate]
 exact Ret.same ⟨rfl, rfl⟩
set_option maxHeartbeats 4000000 in
theorem listIndex_w (l : List IdxS) (enc : IdxS → Bs) (m : Nat) (hm : m ≤ 100000) (g : FuncId) (hg : callable Tryz.prog g = true) (hl : l.length ≤ 100) (henc : ∀ x ∈ l, (enc x).length ≤ m) (b : Bs) (hb : b.length ≤ 100000000)
  (hc : ∀ x ∈ l, ∀ b' : Bs, b'.length ≤ b.length + 10000100 → ACalls Tryz.prog g [.agg (idxA x), .ptr 0 0 1] (wvK b') (fun k => decide (k < 3)) (fun r h' => r = .tup [] ∧ h' = wvK (b' ++ enc x))) :
  ACalls Tryz.prog 96 [.ptr 1 0 1, .fs 5 l.length (idxsA l), .clo (.func g) [] [.ptr 0 0 1]] (wvK b) (fun k => decide (k < 3)) (fun r h' => r = .tup [] ∧ h' = wvK (b ++ (num l.length ++ l.flatMap enc))) := by
 refine acalls mixed Tryz.func96 rfl Tryz.ntmps96 rfl fun E hE hst hho => ?_
 have hnl := num_len (l.length : Int) (by omega) (by omega)
 obtain ⟨b1, hb1⟩ : ∃ x, x = b ++ num l.length := ⟨_, rfl⟩
 have lb1 : b1.length ≤ b.length + 9 := by rw [hb1, List.length_append]; omega
 have c1 := number_w b (by omega) (l.length : Int) (by omega) (by omega)
 rw [← hb1] at c1
 have hbe : b ++ (num l.length ++ l.flatMap enc) = b1 ++ l.flatMap enc := by rw [hb1, List.append_assoc]
 rw [hbe]
 simp (maxSteps := 1000000) [hho, noHo, wvK, wrK, -List.reduceReplicate]
 refine call_x [1, 2] (c1) rfl rfl ⟨rfl, rfl⟩ hho (by simp) (by decide) (by simp) (by simp) ?_
 simp (maxSteps := 1000000) [hho, noHo, wrO, -List.reduceReplicate]
 refine loop_k mixed (fun j : Nat => ⟨slotsOf 22 [(2, .clo (.func g) [] [.ptr 0 0 1]), (12, .fs 5 l.length (idxsA l)), (13, .c (.int .i64 l.length)), (14, .c (.int .i64 (j : Nat)))], wvK (b1 ++ (l.take j).flatMap enc)⟩) (fun j => l.length - j) (fun j => j ≤ l.length) 0 (Nat.zero_le _) ?_ ?_
 ·exact wk_eq (by simp [hE, lens, wvK, wrK]) (by simp [wvK, wrK]) (by simp [livH, livO, AV.livL, AV.liv, wkL, wkV, List.range', slotsOf])
 intro j hj
 have hfl := flat_len (f := enc) (m := m) (l.take j) fun c hc => henc c (List.mem_of_mem_take hc)
 rw [List.length_take] at hfl
 have hmul : min j l.length * m ≤ 100 * 100000 := Nat.mul_le_mul (by omega) hm
 by_cases hjl : j < l.length
 ·have hat := idxsA_at l j hjl
  have ew : IntKind.i64.wrap ((j : Int) + 1) = (j + 1 : Nat) := by rw [IntWalk.i64_in _ (by omega)]; rfl
  have e0 : j * 5 + 5 ≤ l.length * 5 := by omega
  have hsu : (l.take (j + 1)).flatMap enc = (l.take j).flatMap enc ++ enc l[j] := by rw [List.take_succ_eq_append_getElem hjl, List.flatMap_append]; simp
  have hx := hc l[j] (List.getElem_mem hjl)
  obtain ⟨x, hxe⟩ : ∃ x, x = l[j] := ⟨_, rfl⟩
  rw [← hxe] at hat hx hsu
  obtain ⟨B, hB⟩ : ∃ B, B = b1 ++ (l.take j).flatMap enc := ⟨_, rfl⟩
  have lB : B.length ≤ b.length + 10000100 := by rw [hB, List.length_append]; omega
  have hbn : b1 ++ (l.take (j + 1)).flatMap enc = B ++ enc x := by rw [hsu, hB, List.append_assoc]
  rw [← hB]
  have hx := hx B (by omega)
  obtain ⟨B2, hB2⟩ : ∃ B2, B2 = B ++ enc x := ⟨_, rfl⟩
  rw [← hB2] at hx hbn
  simp (maxSteps := 1000000) [hho, noHo, slotsOf, wvK, wrK, hjl, hat, e0, hg, -List.reduceReplicate]
  refine call_x [0, 1, 2] (hx) rfl rfl ⟨rfl, rfl⟩ hho (by simp) (by decide) (by simp) (by simp) ?_
  simp (maxSteps := 1000000) [hho, noHo, wvK, wrK, ew, -List.reduceReplicate]
  refine round_next (j + 1) (by omega) (by omega) ?_
  exact wk_of 3 1 (by simp) (by simp [hE, lens, wvK, wrK]) (by simp [wvK, wrK, hbn]; rw [← hbn]; simp) (by simp [livH, livO, AV.livL, AV.liv, wkL, wkV, List.range']) (by simp [livH, livO, AV.livL, AV.liv, wkL, wkV, List.range', slotsOf])
 obtain rfl : j = l.length := by omega
 rw [List.take_length]
 simp (maxSteps := 1000000) [hho, noHo, slotsOf, wvK, wrK, -List.reduceReplicate]
 exact Ret.same ⟨rfl, rfl⟩
set_option maxHeartbeats 4000000 in
theorem listInt_w (l : List Int) (hl : l.length ≤ 100) (hi : ∀ k ∈ l, i64v k) (b : Bs) (hb : b.length ≤ 100000000) :
  ACalls Tryz.prog 145 [.ptr 0 0 1, .fs 1 l.length (intsA l), .clo (.func 89) [.ptr 0 0 1] []] (wrO b) (fun k => decide (k < 2)) (fun r h' => r = .tup [] ∧ h' = wrO (b ++ (num l.length ++ l.flatMap num))) := by
 refine acalls mixed Tryz.func145 rfl Tryz.ntmps145 rfl fun E hE hst hho => ?_
 have hnl := num_len (l.length : Int) (by omega) (by omega)
 obtain ⟨b1, hb1⟩ : ∃ x, x = b ++ num l.length := ⟨_, rfl⟩
 have lb1 : b1.length ≤ b.length + 9 := by rw [hb1, List.length_append]; omega
 have c1 := number_w b (by omega) (l.length : Int) (by omega) (by omega)
 rw [← hb1] at c1
 have hbe : b ++ (num l.length ++ l.flatMap num) = b1 ++ l.flatMap num := by rw [hb1, List.append_assoc]
 rw [hbe]
 simp (maxSteps := 1000000) [hho, noHo, wrO, -List.reduceReplicate]
 refine call_x [0, 1] (c1) rfl rfl ⟨rfl, rfl⟩ hho (by simp) (by decide) (by simp) (by simp) ?_
 simp (maxSteps := 1000000) [hho, noHo, wrO, -List.reduceReplicate]
 refine loop_k mixed (fun j : Nat => ⟨slotsOf 22 [(2, .clo (.func 89) [.ptr 0 0 1] []), (12, .fs 1 l.length (intsA l)), (13, .c (.int .i64 l.length)), (14, .c (.int .i64 (j : Nat)))], wrO (b1 ++ (l.take j).flatMap num)⟩) (fun j => l.length - j) (fun j => j ≤ l.length) 0 (Nat.zero_le _) ?_ ?_
 ·exact wk_eq (by simp [hE, lens, wrO]) (by simp [wrO]) (by simp [livH, livO, AV.livL, AV.liv, wkL, wkV, List.range', slotsOf])
 intro j hj
 have hfl := flat_len (f := num) (m := 9) (l.take j) fun c hc => num_len c (hi c (List.mem_of_mem_take hc)).1 (hi c (List.mem_of_mem_take hc)).2
 rw [List.length_take] at hfl
 by_cases hjl : j < l.length
 ·have hat := intsA_get l j hjl
  have ew : IntKind.i64.wrap ((j : Int) + 1) = (j + 1 : Nat) := by rw [IntWalk.i64_in _ (by omega)]; rfl
  have hsu : (l.take (j + 1)).flatMap num = (l.take j).flatMap num ++ num l[j] := by rw [List.take_succ_eq_append_getElem hjl, List.flatMap_append]; simp
  have hk := hi l[j] (List.getElem_mem hjl)
  obtain ⟨x, hxe⟩ : ∃ x, x = l[j] := ⟨_, rfl⟩
  rw [← hxe] at hat hk hsu
  obtain ⟨B, hB⟩ : ∃ B, B = b1 ++ (l.take j).flatMap num := ⟨_, rfl⟩
  have lB : B.length ≤ 110000100 := by rw [hB, List.length_append]; omega
  have hbn : b1 ++ (l.take (j + 1)).flatMap num = B ++ num x := by rw [hsu, hB, List.append_assoc]
  rw [← hB]
  have hx := number_w B (by omega) x hk.1 hk.2
  obtain ⟨B2, hB2⟩ : ∃ B2, B2 = B ++ num x := ⟨_, rfl⟩
  rw [← hB2] at hx hbn
  simp (maxSteps := 1000000) [hho, noHo, slotsOf, wrO, hjl, hat, -List.reduceReplicate]
  refine ⟨by omega, ?_⟩
  refine call_x [0, 1] (hx) rfl rfl ⟨rfl, rfl⟩ hho (by simp) (by decide) (by simp) (by simp) ?_
  simp (maxSteps := 1000000) [hho, noHo, wrO, ew, -List.reduceReplicate]
  refine round_next (j + 1) (by omega) (by omega) ?_
  exact wk_eq (by simp [hE, lens, wrO]) (by simp [wrO, hbn]; rw [← hbn]; simp) (by simp [livH, livO, AV.livL, AV.liv, wkL, wkV, List.range', slotsOf])
 obtain rfl : j = l.length := by omega
 rw [List.take_length]
 simp (maxSteps := 1000000) [hho, noHo, slotsOf, wrO, -List.reduceReplicate]
 exact Ret.same ⟨rfl, rfl⟩
set_option maxHeartbeats 8000000 in
theorem putColumn_w (c : ColS) (hcm : colOk c = true) (ho : c.Ok) (b : Bs) (hb : b.length ≤ 200000000) : ACalls Tryz.prog 95 [.ptr 0 0 1, .agg (colA c)] (wrO b) (fun k => decide (k < 2)) (fun r h' => r = .tup [] ∧ h' = wrO (b ++ colB c)) := by
 refine acalls mixed Tryz.func95 rfl Tryz.ntmps95 rfl fun E hE hst hho => ?_
 obtain ⟨k1, k2⟩ := colOk_mem hcm
 obtain ⟨p1, p2, p3, p4, p5⟩ := ho
 have hdl := rowB_dft_len c.dft k2 p4
 have c1 := set_dft c.dft k2
 have c2 := put_dft c.dft k2 p4
 obtain ⟨D, hD⟩ : ∃ D, D = rowB (dftR c.dft) := ⟨_, rfl⟩
 rw [← hD] at c2 hdl
 simp only [valA] at c1
 have hbe0 : colB c = num c.id ++ (txt c.name ++ (num c.ty.k ++ (num c.ty.s ++ (num (flagI c.nn) ++ (txt (str D) ++ num c.st))))) := by rw [hD]; rfl
 obtain ⟨b0, hb0⟩ : ∃ x, x = b := ⟨_, rfl⟩
 rw [← hb0]
 have lb0 : b0.length ≤ 200000000 := by rw [hb0]; exact hb
 obtain ⟨bz, hbz⟩ : ∃ x, x = b0 ++ colB c := ⟨_, rfl⟩
 rw [← hbz]
 simp (maxSteps := 1000000) [hho, noHo, wrO, colA, -List.reduceReplicate]
 refine call_x [0, 1] (number_w b0 (by omega) (c.id) p1.1 p1.2) rfl rfl ⟨rfl, rfl⟩ hho (by simp) (by decide) (by simp) (by simp) ?_
 obtain ⟨b1, hb1⟩ : ∃ q, q = b0 ++ num c.id := ⟨_, rfl⟩
 have lb1 : b1.length ≤ b0.length + 9 := by rw [hb1, List.length_append]; have := num_len c.id p1.1 p1.2; omega
 rw [← hb1]
 simp (maxSteps := 1000000) [hho, noHo, wrO, wrK, wvK, -List.reduceReplicate]
 refine call_x [0, 1] (text_w b1 (by omega) c.name (by omega)) rfl rfl ⟨rfl, rfl⟩ hho (by simp) (by decide) (by simp) (by simp) ?_
 obtain ⟨b2, hb2⟩ : ∃ q, q = b1 ++ txt c.name := ⟨_, rfl⟩
 have lb2 : b2.length ≤ b0.length + 100 := by rw [hb2, List.length_append]; have := txt_len c.name (by omega); omega
 rw [← hb2]
 simp (maxSteps := 1000000) [hho, noHo, wrO, wrK, wvK, -List.reduceReplicate]
 refine call_x [0, 1] (number_w b2 (by omega) (c.ty.k) p3.1.1 p3.1.2) rfl rfl ⟨rfl, rfl⟩ hho (by simp) (by decide) (by simp) (by simp) ?_
 obtain ⟨b3, hb3⟩ : ∃ q, q = b2 ++ num c.ty.k := ⟨_, rfl⟩
 have lb3 : b3.length ≤ b0.length + 110 := by rw [hb3, List.length_append]; have := num_len c.ty.k p3.1.1 p3.1.2; omega
 rw [← hb3]
 simp (maxSteps := 1000000) [hho, noHo, wrO, wrK, wvK, -List.reduceReplicate]
 refine call_x [0, 1] (number_w b3 (by omega) (c.ty.s) p3.2.1 p3.2.2) rfl rfl ⟨rfl, rfl⟩ hho (by simp) (by decide) (by simp) (by simp) ?_
 obtain ⟨b4, hb4⟩ : ∃ q, q = b3 ++ num c.ty.s := ⟨_, rfl⟩
 have lb4 : b4.length ≤ b0.length + 120 := by rw [hb4, List.length_append]; have := num_len c.ty.s p3.2.1 p3.2.2; omega
 rw [← hb4]
 simp (maxSteps := 1000000) [hho, noHo, wrO, wrK, wvK, -List.reduceReplicate]
 refine call_x [0, 1] (flag_w2 b4 (by omega) c.nn) rfl rfl ⟨rfl, rfl⟩ hho (by simp) (by decide) (by simp) (by simp) ?_
 obtain ⟨b5, hb5⟩ : ∃ q, q = b4 ++ num (flagI c.nn) := ⟨_, rfl⟩
 have lb5 : b5.length ≤ b0.length + 130 := by rw [hb5, List.length_append]; have := flagI_len2 c.nn; omega
 rw [← hb5]
 simp (maxSteps := 1000000) [hho, noHo, wrO, wrK, wvK, -List.reduceReplicate]
 refine callG_nilAt 0 5 rfl ?_
 refine call_0 (c1) rfl rfl hho (by simp) ?_
 simp (maxSteps := 1000000) [hho, noHo, -List.reduceReplicate]
 refine call_0 (c2) rfl rfl hho (by simp) ?_
 simp (maxSteps := 1000000) [hho, noHo, bytesOf_str, -List.reduceReplicate]
 refine call_x [0, 1] (text_w b5 (by omega) (str D) (by rw [str_size]; omega)) rfl rfl ⟨rfl, rfl⟩ hho (by simp) (by decide) (by simp) (by simp) ?_
 obtain ⟨b6, hb6⟩ : ∃ q, q = b5 ++ txt (str D) := ⟨_, rfl⟩
 have lb6 : b6.length ≤ b0.length + 500 := by rw [hb6, List.length_append]; have := txt_len (str D) (by rw [str_size]; omega); rw [str_size] at this; omega
 rw [← hb6]
 simp (maxSteps := 1000000) [hho, noHo, wrO, wrK, wvK, -List.reduceReplicate]
 refine call_x [0, 1] (number_w b6 (by omega) (c.st) p5.1 p5.2) rfl rfl ⟨rfl, rfl⟩ hho (by simp) (by decide) (by simp) (by simp) ?_
 obtain ⟨b7, hb7⟩ : ∃ q, q = b6 ++ num c.st := ⟨_, rfl⟩
 have lb7 : b7.length ≤ b0.length + 510 := by rw [hb7, List.length_append]; have := num_len c.st p5.1 p5.2; omega
 rw [← hb7]
 simp (maxSteps := 1000000) [hho, noHo, wrO, wrK, wvK, -List.reduceReplicate]
 have hbe : bz = b7 := by rw [hbz, hbe0, hb7, hb6, hb5, hb4, hb3, hb2, hb1]; simp
 refine Ret.sel [0, 1] (fun _ => false) (ho := by rfl) (ha := by rfl) ?_ ?_ (by decide) (by simp) (fun i _ h => ?_) ⟨rfl, by rw [hbe]⟩
 ·simp
 ·simp
 ·have e : i = 0 ∨ i = 1 := by have := of_decide_eq_true h; omega
  rcases e with rfl | rfl <;> rfl
set_option maxHeartbeats 8000000 in
theorem putIndex_w (t : TabS) (x : IdxS) (hxm : idxOk t x = true) (ho : x.Ok) (b : Bs) (hb : b.length ≤ 90000000) : ACalls Tryz.prog 98 [.ptr 0 0 1, .agg (idxA x)] (wrO b) (fun k => decide (k < 2)) (fun r h' => r = .tup [] ∧ h' = wrO (b ++ idxB x)) := by
 refine acalls mixed Tryz.func98 rfl Tryz.ntmps98 rfl fun E hE hst hho => ?_
 obtain ⟨k1, k2⟩ := idxOk_mem hxm
 obtain ⟨p1, p2, p3, p4⟩ := ho
 have hbe0 : idxB x = num x.id ++ (txt x.name ++ ((num x.cols.length ++ x.cols.flatMap num) ++ (num (flagI x.uniq) ++ num x.st))) := rfl
 have hfl := flat_len (f := num) (m := 9) x.cols fun c hc => num_len c (p3 c hc).1 (p3 c hc).2
 have hnl := num_len (x.cols.length : Int) (by omega) (by omega)
 obtain ⟨b0, hb0⟩ : ∃ x, x = b := ⟨_, rfl⟩
 rw [← hb0]
 have lb0 : b0.length ≤ 90000000 := by rw [hb0]; exact hb
 obtain ⟨bz, hbz⟩ : ∃ y, y = b0 ++ idxB x := ⟨_, rfl⟩
 rw [← hbz]
 simp (maxSteps := 1000000) [hho, noHo, wrO, idxA, -List.reduceReplicate]
 refine call_x [0, 1] (number_w b0 (by omega) (x.id) p1.1 p1.2) rfl rfl ⟨rfl, rfl⟩ hho (by simp) (by decide) (by simp) (by simp) ?_
 obtain ⟨b1, hb1⟩ : ∃ q, q = b0 ++ num x.id := ⟨_, rfl⟩
 have lb1 : b1.length ≤ b0.length + 9 := by rw [hb1, List.length_append]; have := num_len x.id p1.1 p1.2; omega
 rw [← hb1]
 simp (maxSteps := 1000000) [hho, noHo, wrO, wrK, wvK, -List.reduceReplicate]
 refine call_x [0, 1] (text_w b1 (by omega) x.name (by omega)) rfl rfl ⟨rfl, rfl⟩ hho (by simp) (by decide) (by simp) (by simp) ?_
 obtain ⟨b2, hb2⟩ : ∃ q, q = b1 ++ txt x.name := ⟨_, rfl⟩
 have lb2 : b2.length ≤ b0.length + 100 := by rw [hb2, List.length_append]; have := txt_len x.name (by omega); omega
 rw [← hb2]
 simp (maxSteps := 1000000) [hho, noHo, wrO, wrK, wvK, -List.reduceReplicate]
 refine call_x [0, 1] (listInt_w x.cols (by omega) p3 b2 (by omega)) rfl rfl ⟨rfl, rfl⟩ hho (by simp) (by decide) (by simp) (by simp) ?_
 obtain ⟨b3, hb3⟩ : ∃ q, q = b2 ++ (num x.cols.length ++ x.cols.flatMap num) := ⟨_, rfl⟩
 have lb3 : b3.length ≤ b0.length + 200 := by rw [hb3, List.length_append]; have := hfl; rw [List.length_append]; omega
 rw [← hb3]
 simp (maxSteps := 1000000) [hho, noHo, wrO, wrK, wvK, -List.reduceReplicate]
 refine call_x [0, 1] (flag_w2 b3 (by omega) x.uniq) rfl rfl ⟨rfl, rfl⟩ hho (by simp) (by decide) (by simp) (by simp) ?_
 obtain ⟨b4, hb4⟩ : ∃ q, q = b3 ++ num (flagI x.uniq) := ⟨_, rfl⟩
 have lb4 : b4.length ≤ b0.length + 210 := by rw [hb4, List.length_append]; have := flagI_len2 x.uniq; omega
 rw [← hb4]
 simp (maxSteps := 1000000) [hho, noHo, wrO, wrK, wvK, -List.reduceReplicate]
 refine call_x [0, 1] (number_w b4 (by omega) (x.st) p4.1 p4.2) rfl rfl ⟨rfl, rfl⟩ hho (by simp) (by decide) (by simp) (by simp) ?_
 obtain ⟨b5, hb5⟩ : ∃ q, q = b4 ++ num x.st := ⟨_, rfl⟩
 have lb5 : b5.length ≤ b0.length + 220 := by rw [hb5, List.length_append]; have := num_len x.st p4.1 p4.2; omega
 rw [← hb5]
 simp (maxSteps := 1000000) [hho, noHo, wrO, wrK, wvK, -List.reduceReplicate]
 have hbe : bz = b5 := by rw [hbz, hbe0, hb5, hb4, hb3, hb2, hb1]; simp
 refine Ret.sel [0, 1] (fun _ => false) (ho := by rfl) (ha := by rfl) ?_ ?_ (by decide) (by simp) (fun i _ h => ?_) ⟨rfl, by rw [hbe]⟩
 ·simp
 ·simp
 ·have e : i = 0 ∨ i = 1 := by have := of_decide_eq_true h; omega
  rcases e with rfl | rfl <;> rfl
theorem scPut_1_1_w (x : ColS) (hx : colOk x = true) (ho : x.Ok) (b : Bs) (hb : b.length ≤ 90000000) : ACalls Tryz.prog 94 [.agg (colA x), .ptr 0 0 1] (wvK b) (fun k => decide (k < 3)) (fun r h' => r = .tup [] ∧ h' = wvK (b ++ colB x)) := by
 refine acalls mixed Tryz.func94 rfl Tryz.ntmps94 rfl fun E hE hst hho => ?_
 have c1 := putColumn_w x hx ho b (by omega)
 obtain ⟨b1, hb1⟩ : ∃ y, y = b ++ colB x := ⟨_, rfl⟩
 rw [← hb1] at c1 ⊢
 simp (maxSteps := 1000000) [hho, noHo, wvK, wrK, colA, -List.reduceReplicate]
 refine call_x [1, 2] (c1) rfl rfl ⟨rfl, rfl⟩ hho (by simp) (by decide) (by simp) (by simp) ?_
 simp (maxSteps := 1000000) [hho, noHo, wrO, -List.reduceReplicate]
 refine Ret.sel [0, 1, 2] (fun _ => false) (ho := by rfl) (ha := by rfl) ?_ ?_ (by decide) (by simp) (fun i _ h => ?_) ⟨rfl, rfl⟩
 ·simp
 ·simp
 ·have e : i = 0 ∨ i = 1 ∨ i = 2 := by have := of_decide_eq_true h; omega
  rcases e with rfl | rfl | rfl <;> rfl
theorem scPut_1_2_w (x : IdxS) (t : TabS) (hx : idxOk t x = true) (ho : x.Ok) (b : Bs) (hb : b.length ≤ 90000000) : ACalls Tryz.prog 97 [.agg (idxA x), .ptr 0 0 1] (wvK b) (fun k => decide (k < 3)) (fun r h' => r = .tup [] ∧ h' = wvK (b ++ idxB x)) := by
 refine acalls mixed Tryz.func97 rfl Tryz.ntmps97 rfl fun E hE hst hho => ?_
 have c1 := putIndex_w t x hx ho b (by omega)
 obtain ⟨b1, hb1⟩ : ∃ y, y = b ++ idxB x := ⟨_, rfl⟩
 rw [← hb1] at c1 ⊢
 simp (maxSteps := 1000000) [hho, noHo, wvK, wrK, idxA, -List.reduceReplicate]
 refine call_x [1, 2] (c1) rfl rfl ⟨rfl, rfl⟩ hho (by simp) (by decide) (by simp) (by simp) ?_
 simp (maxSteps := 1000000) [hho, noHo, wrO, -List.reduceReplicate]
 refine Ret.sel [0, 1, 2] (fun _ => false) (ho := by rfl) (ha := by rfl) ?_ ?_ (by decide) (by simp) (fun i _ h => ?_) ⟨rfl, rfl⟩
 ·simp
 ·simp
 ·have e : i = 0 ∨ i = 1 ∨ i = 2 := by have := of_decide_eq_true h; omega
  rcases e with rfl | rfl | rfl <;> rfl
set_option maxHeartbeats 8000000 in
theorem scPut_1_w (t : TabS) (next : Int) (ht : tabOk t next = true) (ho : t.Ok) (b : Bs) (hb : b.length ≤ 11000000) : ACalls Tryz.prog 91 [.agg (tabA t), .ptr 0 0 1] (wvK b) (fun k => decide (k < 3)) (fun r h' => r = .tup [] ∧ h' = wvK (b ++ tbB t)) := by
 refine acalls mixed Tryz.func91 rfl Tryz.ntmps91 rfl fun E hE hst hho => ?_
 obtain ⟨m1, m2, m3, m4, m5⟩ := tabOk_mem ht
 obtain ⟨o1, o2, o3, o4⟩ := ho
 have hc1 := flat_len (f := colB) (m := 400) t.cols fun c hc => colB_len (m4 c hc) (o3 c hc)
 have hc2 := flat_len (f := idxB) (m := 200) t.idxs fun c hc => idxB_len (m5 c hc) (o4 c hc)
 have hn1 := num_len (t.cols.length : Int) (by omega) (by omega)
 have hn2 := num_len (t.idxs.length : Int) (by omega) (by omega)
 have hbe0 : tbB t = num t.id ++ (txt t.name ++ ((num t.cols.length ++ t.cols.flatMap colB) ++ (num t.idxs.length ++ t.idxs.flatMap idxB))) := rfl
 obtain ⟨b0, hb0⟩ : ∃ x, x = b := ⟨_, rfl⟩
 rw [← hb0]
 have lb0 : b0.length ≤ 11000000 := by rw [hb0]; exact hb
 obtain ⟨bz, hbz⟩ : ∃ y, y = b0 ++ tbB t := ⟨_, rfl⟩
 rw [← hbz]
 simp (maxSteps := 1000000) [hho, noHo, wvK, wrK, tabA, -List.reduceReplicate]
 refine call_x [1, 2] (number_w b0 (by omega) (t.id) o1.1 o1.2) rfl rfl ⟨rfl, rfl⟩ hho (by simp) (by decide) (by simp) (by simp) ?_
 obtain ⟨b1, hb1⟩ : ∃ q, q = b0 ++ num t.id := ⟨_, rfl⟩
 have lb1 : b1.length ≤ b0.length + 9 := by rw [hb1, List.length_append]; have := num_len t.id o1.1 o1.2; omega
 rw [← hb1]
 simp (maxSteps := 1000000) [hho, noHo, wrO, wrK, wvK, -List.reduceReplicate]
 refine call_x [1, 2] (text_w b1 (by omega) t.name (by omega)) rfl rfl ⟨rfl, rfl⟩ hho (by simp) (by decide) (by simp) (by simp) ?_
 obtain ⟨b2, hb2⟩ : ∃ q, q = b1 ++ txt t.name := ⟨_, rfl⟩
 have lb2 : b2.length ≤ b0.length + 100 := by rw [hb2, List.length_append]; have := txt_len t.name (by omega); omega
 rw [← hb2]
 simp (maxSteps := 1000000) [hho, noHo, wrO, wrK, wvK, -List.reduceReplicate]
 refine call_x [0, 1, 2] (listColumn_w t.cols colB 400 (by omega) 94 (by simp) (by omega) (fun c hc => colB_len (m4 c hc) (o3 c hc)) b2 (by omega) fun x hx b hb => scPut_1_1_w x (m4 x hx) (o3 x hx) b (by omega)) rfl rfl ⟨rfl, rfl⟩ hho (by simp) (by decide) (by simp) (by simp) ?_
 obtain ⟨b3, hb3⟩ : ∃ q, q = b2 ++ (num t.cols.length ++ t.cols.flatMap colB) := ⟨_, rfl⟩
 have lb3 : b3.length ≤ b0.length + 5000 := by rw [hb3, List.length_append]; have := hc1; rw [List.length_append]; omega
 rw [← hb3]
 simp (maxSteps := 1000000) [hho, noHo, wrO, wrK, wvK, -List.reduceReplicate]
 refine call_x [0, 1, 2] (listIndex_w t.idxs idxB 200 (by omega) 97 (by simp) (by omega) (fun c hc => idxB_len (m5 c hc) (o4 c hc)) b3 (by omega) fun x hx b hb => scPut_1_2_w x t (m5 x hx) (o4 x hx) b (by omega)) rfl rfl ⟨rfl, rfl⟩ hho (by simp) (by decide) (by simp) (by simp) ?_
 obtain ⟨b4, hb4⟩ : ∃ q, q = b3 ++ (num t.idxs.length ++ t.idxs.flatMap idxB) := ⟨_, rfl⟩
 have lb4 : b4.length ≤ b0.length + 7000 := by rw [hb4, List.length_append]; have := hc2; rw [List.length_append]; omega
 rw [← hb4]
 simp (maxSteps := 1000000) [hho, noHo, wrO, wrK, wvK, -List.reduceReplicate]
 have hbe : bz = b4 := by rw [hbz, hbe0, hb4, hb3, hb2, hb1]; simp
 refine Ret.sel [0, 1, 2] (fun _ => false) (ho := by rfl) (ha := by rfl) ?_ ?_ (by decide) (by simp) (fun i _ h => ?_) ⟨rfl, by rw [hbe]⟩
 ·simp
 ·simp
 ·have e : i = 0 ∨ i = 1 ∨ i = 2 := by have := of_decide_eq_true h; omega
  rcases e with rfl | rfl | rfl <;> rfl
def schPutA (s : SchS) : AV := if schOk s = true then .tup [.fs 1 (schB s).length (u8av (schB s)), .c (.int .i64 0)] else .tup [.c (.slice none 0 0), .c (.int .i64 2)]
set_option maxHeartbeats 8000000 in
theorem scPut_w (s : SchS) (hl : s.tabs.length ≤ 1000000) (hbg : ∀ t ∈ s.tabs, TabBig t) (ho : s.Ok) : ACalls Tryz.prog 52 [.agg (schA s)] [] (fun _ => false) (fun r h' => r = schPutA s ∧ h' = []) := by
 refine acallsC [4] mixed Tryz.func52 rfl Tryz.ntmps52 rfl fun E hE hst hho => ?_
 have hR := right_sc s hl hbg
 unfold schPutA
 cases hok : schOk s with
 | false =>
  rw [hok] at hR
  simp (maxSteps := 1000000) [hho, noHo, schA, -List.reduceReplicate]
  refine call_0 (hR) rfl rfl hho (by simp) ?_
  simp (maxSteps := 1000000) [hho, noHo, -List.reduceReplicate]
  exact Ret.drop (by rfl) ⟨rfl, rfl⟩
 | true =>
 rw [hok] at hR
 obtain ⟨m1, m2⟩ := schOk_mem hok
 have hlen := schB_len hok ho
 obtain ⟨o1, o2, o3⟩ := ho
 have hc1 := flat_len (f := tbB) (m := 7000) s.tabs fun t ht => tbB_len (m2 t ht) (o3 t ht)
 have hn1 := num_len (s.tabs.length : Int) (by omega) (by omega)
 have hbe0 : schB s = num s.ver ++ (num s.next ++ (num s.tabs.length ++ s.tabs.flatMap tbB)) := rfl
 simp (maxSteps := 1000000) [hho, noHo, schA, -List.reduceReplicate]
 refine call_0 (hR) rfl rfl hho (by simp) ?_
 simp (maxSteps := 1000000) [hho, noHo, -List.reduceReplicate]
 refine seq_cut mixed [] (fun _ : Unit => ⟨slotsOf 25 [(1, .ptr 0 0 3), (4, .ptr 2 0 1)], [.o .box (schA s), .o .box [.sl 3 1 0 0 0], .o .box [.ptr 1 0 1], .o (.row 5 1) (u8av [])]⟩) (fun _ => True) ?_ ?_
 case refine_2 =>
  simp (maxSteps := 1000000) [hho, noHo, -List.reduceReplicate]
  refine cut_to () trivial ?_
  refine Wk.trans (wk_virtC 1 0 5 1 rfl rfl) ?_
  exact wk_eq (by simp [hE, lens]) (by simp [schA, u8av]) (by simp [livH, livO, AV.livL, AV.liv, wkL, wkV, List.range', slotsOf])
 intro _ _
 obtain ⟨b0, hb0⟩ : ∃ x : Bs, x = [] := ⟨_, rfl⟩
 have lb0 : b0.length ≤ 0 := by rw [hb0]; exact Nat.le_refl _
 have e00 : (AV.sl 3 1 0 0 0) = .sl 3 1 0 b0.length b0.length := by rw [hb0]; rfl
 rw [← hb0, e00]
 clear e00
 simp (maxSteps := 1000000) [hho, noHo, wrK, wrO, slotsOf, schA, -List.reduceReplicate]
 refine call_x [1, 3] (number_w b0 (by omega) (s.ver) o1.1 o1.2) rfl rfl ⟨rfl, rfl⟩ hho (by simp) (by decide) (by simp) (by simp) ?_
 obtain ⟨b1, hb1⟩ : ∃ q, q = b0 ++ num s.ver := ⟨_, rfl⟩
 have lb1 : b1.length ≤ b0.length + 9 := by rw [hb1, List.length_append]; have := num_len s.ver o1.1 o1.2; omega
 rw [← hb1]
 simp (maxSteps := 1000000) [hho, noHo, wrO, wrK, wvK, -List.reduceReplicate]
 refine call_x [1, 3] (number_w b1 (by omega) (s.next) o2.1 o2.2) rfl rfl ⟨rfl, rfl⟩ hho (by simp) (by decide) (by simp) (by simp) ?_
 obtain ⟨b2, hb2⟩ : ∃ q, q = b1 ++ num s.next := ⟨_, rfl⟩
 have lb2 : b2.length ≤ b0.length + 18 := by rw [hb2, List.length_append]; have := num_len s.next o2.1 o2.2; omega
 rw [← hb2]
 simp (maxSteps := 1000000) [hho, noHo, wrO, wrK, wvK, -List.reduceReplicate]
 refine call_x [2, 1, 3] (listTable_w s.tabs tbB 7000 (by omega) 91 (by simp) (by omega) (fun t ht => tbB_len (m2 t ht) (o3 t ht)) b2 (by omega) fun x hx b hb => scPut_1_w x s.next (m2 x hx) (o3 x hx) b (by omega)) rfl rfl ⟨rfl, rfl⟩ hho (by simp) (by decide) (by simp) (by simp) ?_
 obtain ⟨b3, hb3⟩ : ∃ q, q = b2 ++ (num s.tabs.length ++ s.tabs.flatMap tbB) := ⟨_, rfl⟩
 have lb3 : b3.length ≤ b0.length + 60000 := by rw [hb3, List.length_append]; have := hc1; rw [List.length_append]; omega
 rw [← hb3]
 simp (maxSteps := 1000000) [hho, noHo, wrO, wrK, wvK, -List.reduceReplicate]
 have hbe : schB s = b3 := by rw [hbe0, hb3, hb2, hb1, hb0]; simp
 have hbp : 0 < b3.length := by rw [← hbe]; simp [schB, num]
 rw [hbe]
 refine call_x [1, 3] (bytes_w b3 hbp (by omega)) rfl rfl ⟨rfl, rfl⟩ hho (by simp) (by decide) (by simp) (by simp) ?_
 simp (maxSteps := 1000000) [hho, noHo, wrO, -List.reduceReplicate]
 refine Ret.sel [] (fun k => k == 4) (ho := by rfl) (ha := by rfl) ?_ ?_ (by decide) (by simp) (fun i _ h => by cases h) ⟨?_, rfl⟩
 ·simp
 ·simp
  exact ⟨by unfold maxLen; omega, fun x hx => (u8av_all b3).2 trivial x (List.mem_of_mem_take hx)⟩
 ·simp [List.take_of_length_le]
end Go.Proofs.YthgoocdldnkogaaGreatDoor
