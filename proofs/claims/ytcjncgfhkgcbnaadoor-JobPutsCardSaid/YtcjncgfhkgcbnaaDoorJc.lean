import Derived.Test.YtcjncgfhkgcbnaaDoorJr
import Derived.Test.YtcjncgfhkgcbnaaDoorWq
namespace Go.Proofs.YtcjncgfhkgcbnaaDoor
set_option linter.unusedVariables false
set_option linter.unusedSimpArgs false
open Go.RowKit
attribute [local simp] isCut_nil isCut_region isCut_seq isCut_block isCut_loop isCut_cond isCut_skip isCut_exit isCut_ret isCut_range swapK putK altK condK_bool pickP_bool stepP stepO onPure_some onPure_none onImpl_some onImpl_none stepC onGP_some onGP_none onGV_some condG mkG onIt_it nextP_ptr takeP_eq takeV_some takeV_none takeU_some takeU_none takeQ takeW_some takeN_none takeN_some takeG_some takeO_some altO_some pureV binV2 eqF eqOp ovlV ovl2 rowAt capV binV intBin strBin isSh shV fldV ixV sliceV slice3V loadAV nilV lenV callV unV convV viewS cellsH loadV fldCut AV.ung AV.ungs AV.gc AV.cells AS.ev AS.put anyS gcsV gcO lens lnO gV guardV retK RetP_eq resV oneV anyRo loIx hiIx implO callP_clo evL gcsL clearV storeAV AS.push AS.setO appV appZ shortS copyV buildV partsV fillV srcV fzO okV isCell_c isCell_ptr isCell_sl isCell_fs isCell_fp isCell_clo rowZ_one rowZ_zero rowZ_2 rowZ_3 rowZ_4 rowZ_5 rowZ_6 rowZ_7 rowZ_8 rowZ_9 rowZ_10 rowZ_11 rowZ_12 noHo Value.oneCell' max2V min2V lookV updV lenM msAt afterH putBack frzFrom frzO rebO backIx nilEq_sl nilEq_fs nilOp_eql nilOp_neq AV.reb AV.rebL
attribute [local simp ↓] runK_skip runK_region runK_draw runK_seq runK_cut runK_cond runK_block runK_loop runK_exit runK_label runK_goto runK_ret runK_range contK_nil contK_seq contK_seq_ret contK_seq_exit contK_seq_goto contK_block contK_block_ret contK_block_goto contK_block_exit runO_nil runO_cons roundK_exit roundK_ret roundK_goto exitK_ret cutK_ret cutK_exit runE_done runE_nil runE_take runE_alt condG_true condG_false
set_option maxRecDepth 10000
def jobPutA (j : JobS) : AV := if jobOk j = true then .tup [.fs 1 (jobB j).length (u8av (jobB j)), .c (.int .i64 0)] else .tup [.c (.slice none 0 0), .c (.int .i64 2)]

set_option maxHeartbeats 16000000 in
theorem jbPut_w (j : JobS) (hb : JobBig j) (hn : j.name.size ≤ 300) (ho : j.Ok) : ACalls Tryd.prog 8 [.agg (jobA j)] [] (fun _ => false) (fun r h' => r = jobPutA j ∧ h' = []) := by
  refine acallsC [4] mixed Tryd.func8 rfl Tryd.ntmps8 rfl fun E hE hst hho => ?_
  have hR := jbRight_w j hb
  have hreb : ∀ β, AV.rebL β (jobA j) = jobA j := fun β => rebL_isD rfl
  unfold jobPutA
  cases hok : jobOk j with
  | false =>
    rw [hok] at hR
    simp (maxSteps := 1000000) [hho, noHo, jobA, -List.reduceReplicate]
    refine call_x [] (hR) rfl rfl ⟨rfl, rfl⟩ hho (by simp) (by decide) (by simp) (by simp) ?_
    simp (maxSteps := 1000000) [hho, noHo, -List.reduceReplicate]
    exact Ret.drop (by rfl) ⟨rfl, rfl⟩
  | true =>
  rw [hok] at hR
  have hlen := jobB_len hok hn ho
  obtain ⟨m1, m2, m3, m4⟩ := jobOk_mem hok
  obtain ⟨i1, i2, i3, i4⟩ := jiOk_mem m3
  obtain ⟨o1, o2, o3, o4, o5, o6, o7, o8, o9, o10⟩ := ho
  obtain ⟨x1, x2, x3, x4⟩ := o6
  simp (maxSteps := 1000000) [hho, noHo, jobA, -List.reduceReplicate]
  refine call_x [] (hR) rfl rfl ⟨rfl, rfl⟩ hho (by simp) (by decide) (by simp) (by simp) ?_
  simp (maxSteps := 1000000) [hho, noHo, -List.reduceReplicate]
  refine seq_cut mixed [] (fun _ : Unit => ⟨slotsOf 136 [(1, .ptr 0 0 18), (4, .ptr 1 0 1)], .o .box (jobA j) :: wrK 2 []⟩) (fun _ => True) ?_ ?_
  case refine_2 =>
    simp (maxSteps := 1000000) [hho, noHo, -List.reduceReplicate]
    refine cut_to () trivial ?_
    refine Wk.trans (wk_virtC 1 0 5 1 rfl rfl) ?_
    exact wk_eq (by simp [hE, lens]) (by simp [wrK, jobA]) (by simp [livH, livO, AV.livL, AV.liv, wkL, wkV, List.range', slotsOf])
  intro _ _
  obtain ⟨b0, hb0⟩ : ∃ x : Bs, x = [] := ⟨_, rfl⟩
  have lb0 : b0.length ≤ 0 := by rw [hb0]; exact Nat.le_refl _
  rw [← hb0]
  simp (maxSteps := 1000000) [hho, noHo, wrK, wrO, slotsOf, jobA, -List.reduceReplicate]
  refine call_x [1, 2] (number_w b0 (by omega) (j.id) o1.1 o1.2) rfl rfl ⟨rfl, rfl⟩ hho (by simp) (by decide) (by simp) (by simp) ?_
  obtain ⟨b1, hb1⟩ : ∃ x, x = b0 ++ num j.id := ⟨_, rfl⟩
  have lb1 : b1.length ≤ 9 := by rw [hb1, List.length_append]; have := num_len j.id o1.1 o1.2; omega
  rw [← hb1]
  simp (maxSteps := 1000000) [hho, noHo, wrO, -List.reduceReplicate]
  refine call_x [1, 2] (number_w b1 (by omega) (j.kind) o2.1 o2.2) rfl rfl ⟨rfl, rfl⟩ hho (by simp) (by decide) (by simp) (by simp) ?_
  obtain ⟨b2, hb2⟩ : ∃ x, x = b1 ++ num j.kind := ⟨_, rfl⟩
  have lb2 : b2.length ≤ 18 := by rw [hb2, List.length_append]; have := num_len j.kind o2.1 o2.2; omega
  rw [← hb2]
  simp (maxSteps := 1000000) [hho, noHo, wrO, -List.reduceReplicate]
  refine call_x [1, 2] (number_w b2 (by omega) (j.table) o3.1 o3.2) rfl rfl ⟨rfl, rfl⟩ hho (by simp) (by decide) (by simp) (by simp) ?_
  obtain ⟨b3, hb3⟩ : ∃ x, x = b2 ++ num j.table := ⟨_, rfl⟩
  have lb3 : b3.length ≤ 27 := by rw [hb3, List.length_append]; have := num_len j.table o3.1 o3.2; omega
  rw [← hb3]
  simp (maxSteps := 1000000) [hho, noHo, wrO, -List.reduceReplicate]
  refine call_x [1, 2] (text_w b3 (by omega) j.name (by omega)) rfl rfl ⟨rfl, rfl⟩ hho (by simp) (by decide) (by simp) (by simp) ?_
  obtain ⟨b4, hb4⟩ : ∃ x, x = b3 ++ txt j.name := ⟨_, rfl⟩
  have lb4 : b4.length ≤ 400 := by rw [hb4, List.length_append]; have := txt_len j.name (by omega); omega
  rw [← hb4]
  simp (maxSteps := 1000000) [hho, noHo, wrO, -List.reduceReplicate]
  refine call_x [1, 2] (number_w b4 (by omega) (j.cols.length) (by omega) (by omega)) rfl rfl ⟨rfl, rfl⟩ hho (by simp) (by decide) (by simp) (by simp) ?_
  obtain ⟨b5, hb5⟩ : ∃ x, x = b4 ++ num j.cols.length := ⟨_, rfl⟩
  have lb5 : b5.length ≤ 409 := by rw [hb5, List.length_append]; have := num_len j.cols.length (by omega) (by omega); omega
  rw [← hb5]
  simp (maxSteps := 1000000) [hho, noHo, wrO, -List.reduceReplicate]
  have hfl := fun i => flat_len (f := jcB) (m := 400) (j.cols.take i) fun c hc => jcB_len (m4 c (List.mem_of_mem_take hc)) (o5 c (List.mem_of_mem_take hc))
  refine loop_k mixed (fun i : Nat => ⟨slotsOf 136 [(1, .ptr 0 0 18), (4, .ptr 1 0 1), (38, .fs 10 j.cols.length (colsA j.cols)), (39, .c (.int .i64 j.cols.length)), (40, .c (.int .i64 (i : Nat)))], .o .box (jobA j) :: wrK 2 (b5 ++ (j.cols.take i).flatMap jcB)⟩) (fun i => j.cols.length - i) (fun i => i ≤ j.cols.length) 0 (Nat.zero_le _) ?_ ?_
  · exact wk_eq (by simp [hE, lens]) (by simp [wrK, jobA]) (by simp [livH, livO, AV.livL, AV.liv, wkL, wkV, List.range', slotsOf])
  · intro i hi
    by_cases hil : i < j.cols.length
    · have hat := colsA_at j.cols i hil
      have el : i * 10 + 10 ≤ j.cols.length * 10 := by omega
      have ew : IntKind.i64.wrap ((i : Int) + 1) = (i + 1 : Nat) := by rw [IntWalk.i64_in _ (by omega)]; rfl
      have hsu : (j.cols.take (i + 1)).flatMap jcB = (j.cols.take i).flatMap jcB ++ jcB j.cols[i] := by rw [List.take_succ_eq_append_getElem hil, List.flatMap_append]; simp
      have hfi := hfl i
      rw [List.length_take] at hfi
      have hcm := m4 j.cols[i] (List.getElem_mem hil)
      have hco := o5 j.cols[i] (List.getElem_mem hil)
      obtain ⟨c, hc⟩ : ∃ c, c = j.cols[i] := ⟨_, rfl⟩
      rw [← hc] at hat hsu hcm hco
      obtain ⟨k0, k01, k1, k2⟩ := jcOk_mem hcm
      obtain ⟨p1, p2, p3, p4, p5⟩ := hco
      have hdl := rowB_dft_len c.dft k2 p4
      have c1 := set_dft c.dft k2
      have c2 := put_dft c.dft k2 p4
      obtain ⟨D, hD⟩ : ∃ D, D = rowB (dftR c.dft) := ⟨_, rfl⟩
      rw [← hD] at c2 hdl
      simp only [valA] at c1
      obtain ⟨b6, hb6⟩ : ∃ x, x = b5 ++ (j.cols.take i).flatMap jcB := ⟨_, rfl⟩
      have lb6 : b6.length ≤ 6000 := by rw [hb6, List.length_append]; omega
      rw [← hb6]
      simp (maxSteps := 1000000) [hho, noHo, wrK, wrO, slotsOf, jobA, colA, hil, hat, el, -List.reduceReplicate]
      refine call_x [1, 2] (text_w b6 (by omega) c.name (by omega)) rfl rfl ⟨rfl, rfl⟩ hho (by simp) (by decide) (by simp) (by simp) ?_
      obtain ⟨b7, hb7⟩ : ∃ x, x = b6 ++ txt c.name := ⟨_, rfl⟩
      have lb7 : b7.length ≤ 6100 := by rw [hb7, List.length_append]; have := txt_len c.name (by omega); omega
      rw [← hb7]
      simp (maxSteps := 1000000) [hho, noHo, wrO, -List.reduceReplicate]
      refine call_x [1, 2] (number_w b7 (by omega) (c.ty.k) p3.1.1 p3.1.2) rfl rfl ⟨rfl, rfl⟩ hho (by simp) (by decide) (by simp) (by simp) ?_
      obtain ⟨b8, hb8⟩ : ∃ x, x = b7 ++ num c.ty.k := ⟨_, rfl⟩
      have lb8 : b8.length ≤ 6110 := by rw [hb8, List.length_append]; have := num_len c.ty.k p3.1.1 p3.1.2; omega
      rw [← hb8]
      simp (maxSteps := 1000000) [hho, noHo, wrO, -List.reduceReplicate]
      refine call_x [1, 2] (number_w b8 (by omega) (c.ty.s) p3.2.1 p3.2.2) rfl rfl ⟨rfl, rfl⟩ hho (by simp) (by decide) (by simp) (by simp) ?_
      obtain ⟨b9, hb9⟩ : ∃ x, x = b8 ++ num c.ty.s := ⟨_, rfl⟩
      have lb9 : b9.length ≤ 6120 := by rw [hb9, List.length_append]; have := num_len c.ty.s p3.2.1 p3.2.2; omega
      rw [← hb9]
      simp (maxSteps := 1000000) [hho, noHo, wrO, -List.reduceReplicate]
      refine call_x [1, 2] (flag_w2 b9 (by omega) c.nn) rfl rfl ⟨rfl, rfl⟩ hho (by simp) (by decide) (by simp) (by simp) ?_
      obtain ⟨b10, hb10⟩ : ∃ x, x = b9 ++ num (flagI c.nn) := ⟨_, rfl⟩
      have lb10 : b10.length ≤ 6130 := by rw [hb10, List.length_append]; have := flagI_len c.nn; omega
      rw [← hb10]
      simp (maxSteps := 1000000) [hho, noHo, wrO, -List.reduceReplicate]
      refine callG_nilAt 0 5 rfl ?_
      refine call_x [] (c1) rfl rfl ⟨rfl, rfl⟩ hho (by simp) (by decide) (by simp) (by simp) ?_
      simp (maxSteps := 1000000) [hho, noHo, -List.reduceReplicate]
      refine call_x [] (c2) rfl rfl ⟨rfl, rfl⟩ hho (by simp) (by decide) (by simp) (by simp) ?_
      simp (maxSteps := 1000000) [hho, noHo, bytesOf_str, -List.reduceReplicate]
      refine call_x [1, 2] (text_w b10 (by omega) (str D) (by rw [str_size]; omega)) rfl rfl ⟨rfl, rfl⟩ hho (by simp) (by decide) (by simp) (by simp) ?_
      obtain ⟨b11, hb11⟩ : ∃ x, x = b10 ++ txt (str D) := ⟨_, rfl⟩
      have lb11 : b11.length ≤ 6500 := by rw [hb11, List.length_append]; have := txt_len (str D) (by rw [str_size]; omega); rw [str_size] at this; omega
      rw [← hb11]
      simp (maxSteps := 1000000) [hho, noHo, wrO, ew, -List.reduceReplicate]
      refine round_next (i + 1) (by omega) (by omega) ?_
      have hbe : b5 ++ (j.cols.take (i + 1)).flatMap jcB = b11 := by rw [hsu, hb11, hb10, hb9, hb8, hb7, hb6, hD]; simp [jcB]
      exact wk_of 3 1 (by simp) (by simp [hE, lens]) (by simp [wrK, jobA, hbe]; rw [← hbe]; simp) (by simp [livH, livO, AV.livL, AV.liv, wkL, wkV, List.range']) (by simp [livH, livO, AV.livL, AV.liv, wkL, wkV, List.range', slotsOf])
    · obtain rfl : i = j.cols.length := by omega
      rw [List.take_length]
      have hfi := hfl j.cols.length
      rw [List.take_length] at hfi
      obtain ⟨b12, hb12⟩ : ∃ x, x = b5 ++ j.cols.flatMap jcB := ⟨_, rfl⟩
      have lb12 : b12.length ≤ 6000 := by rw [hb12, List.length_append]; omega
      rw [← hb12]
      simp (maxSteps := 1000000) [hho, noHo, wrK, wrO, slotsOf, jobA, -List.reduceReplicate]
      refine call_x [1, 2] (text_w b12 (by omega) j.idx.name (by omega)) rfl rfl ⟨rfl, rfl⟩ hho (by simp) (by decide) (by simp) (by simp) ?_
      obtain ⟨b13, hb13⟩ : ∃ x, x = b12 ++ txt j.idx.name := ⟨_, rfl⟩
      have lb13 : b13.length ≤ 6100 := by rw [hb13, List.length_append]; have := txt_len j.idx.name (by omega); omega
      rw [← hb13]
      simp (maxSteps := 1000000) [hho, noHo, wrO, -List.reduceReplicate]
      refine call_x [1, 2] (number_w b13 (by omega) (j.idx.cols.length) (by omega) (by omega)) rfl rfl ⟨rfl, rfl⟩ hho (by simp) (by decide) (by simp) (by simp) ?_
      obtain ⟨b14, hb14⟩ : ∃ x, x = b13 ++ num j.idx.cols.length := ⟨_, rfl⟩
      have lb14 : b14.length ≤ 6110 := by rw [hb14, List.length_append]; have := num_len j.idx.cols.length (by omega) (by omega); omega
      rw [← hb14]
      simp (maxSteps := 1000000) [hho, noHo, wrO, -List.reduceReplicate]
      have hfm := fun i => flat_len (f := num) (m := 9) (j.idx.cols.take i) fun k hk => num_len k (x3 k (List.mem_of_mem_take hk)).1 (x3 k (List.mem_of_mem_take hk)).2
      refine loop_k mixed (fun i : Nat => ⟨slotsOf 136 [(1, .ptr 0 0 18), (4, .ptr 1 0 1), (87, .fs 1 j.idx.cols.length (intsA j.idx.cols)), (88, .c (.int .i64 j.idx.cols.length)), (89, .c (.int .i64 (i : Nat)))], .o .box (jobA j) :: wrK 2 (b14 ++ (j.idx.cols.take i).flatMap num)⟩) (fun i => j.idx.cols.length - i) (fun i => i ≤ j.idx.cols.length) 0 (Nat.zero_le _) ?_ ?_
      · exact wk_eq (by simp [hE, lens]) (by simp [wrK, jobA]) (by simp [livH, livO, AV.livL, AV.liv, wkL, wkV, List.range', slotsOf])
      intro i hi
      have hfi := hfm i
      rw [List.length_take] at hfi
      by_cases hil : i < j.idx.cols.length
      · have hat := intsA_get j.idx.cols i hil
        have ew : IntKind.i64.wrap ((i : Int) + 1) = (i + 1 : Nat) := by rw [IntWalk.i64_in _ (by omega)]; rfl
        have hsu : (j.idx.cols.take (i + 1)).flatMap num = (j.idx.cols.take i).flatMap num ++ num j.idx.cols[i] := by rw [List.take_succ_eq_append_getElem hil, List.flatMap_append]; simp
        have hko := x3 j.idx.cols[i] (List.getElem_mem hil)
        obtain ⟨k, hk⟩ : ∃ k, k = j.idx.cols[i] := ⟨_, rfl⟩
        rw [← hk] at hat hsu hko
        obtain ⟨b15, hb15⟩ : ∃ x, x = b14 ++ (j.idx.cols.take i).flatMap num := ⟨_, rfl⟩
        have lb15 : b15.length ≤ 6200 := by rw [hb15, List.length_append]; omega
        rw [← hb15]
        simp (maxSteps := 1000000) [hho, noHo, wrK, wrO, slotsOf, jobA, hil, hat, -List.reduceReplicate]
        refine ⟨by omega, ?_⟩
        refine call_x [1, 2] (number_w b15 (by omega) (k) hko.1 hko.2) rfl rfl ⟨rfl, rfl⟩ hho (by simp) (by decide) (by simp) (by simp) ?_
        obtain ⟨b16, hb16⟩ : ∃ x, x = b15 ++ num k := ⟨_, rfl⟩
        have lb16 : b16.length ≤ 6210 := by rw [hb16, List.length_append]; have := num_len k hko.1 hko.2; omega
        rw [← hb16]
        simp (maxSteps := 1000000) [hho, noHo, wrO, ew, -List.reduceReplicate]
        refine round_next (i + 1) (by omega) (by omega) ?_
        have hbe : b14 ++ (j.idx.cols.take (i + 1)).flatMap num = b16 := by rw [hsu, hb16, hb15]; simp
        exact wk_of 3 0 (by simp) (by simp [hE, lens]) (by simp [wrK, jobA, hbe]; rw [← hbe]; simp) (by simp [livH, livO, AV.livL, AV.liv, wkL, wkV, List.range']) (by simp [livH, livO, AV.livL, AV.liv, wkL, wkV, List.range', slotsOf])
      obtain rfl : i = j.idx.cols.length := by omega
      rw [List.take_length]
      obtain ⟨b17, hb17⟩ : ∃ x, x = b14 ++ j.idx.cols.flatMap num := ⟨_, rfl⟩
      have lb17 : b17.length ≤ 6200 := by
        have := hfm j.idx.cols.length
        rw [List.take_length] at this
        rw [hb17, List.length_append]; omega
      rw [← hb17]
      simp (maxSteps := 1000000) [hho, noHo, wrK, wrO, slotsOf, jobA, -List.reduceReplicate]
      refine call_x [1, 2] (flag_w2 b17 (by omega) j.idx.uniq) rfl rfl ⟨rfl, rfl⟩ hho (by simp) (by decide) (by simp) (by simp) ?_
      obtain ⟨b18, hb18⟩ : ∃ x, x = b17 ++ num (flagI j.idx.uniq) := ⟨_, rfl⟩
      have lb18 : b18.length ≤ 6210 := by rw [hb18, List.length_append]; have := flagI_len j.idx.uniq; omega
      rw [← hb18]
      simp (maxSteps := 1000000) [hho, noHo, wrO, -List.reduceReplicate]
      refine call_x [1, 2] (number_w b18 (by omega) (j.item) o7.1 o7.2) rfl rfl ⟨rfl, rfl⟩ hho (by simp) (by decide) (by simp) (by simp) ?_
      obtain ⟨b19, hb19⟩ : ∃ x, x = b18 ++ num j.item := ⟨_, rfl⟩
      have lb19 : b19.length ≤ 6220 := by rw [hb19, List.length_append]; have := num_len j.item o7.1 o7.2; omega
      rw [← hb19]
      simp (maxSteps := 1000000) [hho, noHo, wrO, -List.reduceReplicate]
      refine call_x [1, 2] (number_w b19 (by omega) (j.other) o8.1 o8.2) rfl rfl ⟨rfl, rfl⟩ hho (by simp) (by decide) (by simp) (by simp) ?_
      obtain ⟨b20, hb20⟩ : ∃ x, x = b19 ++ num j.other := ⟨_, rfl⟩
      have lb20 : b20.length ≤ 6230 := by rw [hb20, List.length_append]; have := num_len j.other o8.1 o8.2; omega
      rw [← hb20]
      simp (maxSteps := 1000000) [hho, noHo, wrO, -List.reduceReplicate]
      refine call_x [1, 2] (text_w b20 (by omega) j.mark (by omega)) rfl rfl ⟨rfl, rfl⟩ hho (by simp) (by decide) (by simp) (by simp) ?_
      obtain ⟨b21, hb21⟩ : ∃ x, x = b20 ++ txt j.mark := ⟨_, rfl⟩
      have lb21 : b21.length ≤ 7300 := by rw [hb21, List.length_append]; have := txt_len j.mark (by omega); omega
      rw [← hb21]
      simp (maxSteps := 1000000) [hho, noHo, wrO, -List.reduceReplicate]
      refine call_x [1, 2] (flag_w2 b21 (by omega) j.full) rfl rfl ⟨rfl, rfl⟩ hho (by simp) (by decide) (by simp) (by simp) ?_
      obtain ⟨b22, hb22⟩ : ∃ x, x = b21 ++ num (flagI j.full) := ⟨_, rfl⟩
      have lb22 : b22.length ≤ 7310 := by rw [hb22, List.length_append]; have := flagI_len j.full; omega
      rw [← hb22]
      simp (maxSteps := 1000000) [hho, noHo, wrO, -List.reduceReplicate]
      refine call_x [1, 2] (flag_w2 b22 (by omega) j.fence) rfl rfl ⟨rfl, rfl⟩ hho (by simp) (by decide) (by simp) (by simp) ?_
      obtain ⟨b23, hb23⟩ : ∃ x, x = b22 ++ num (flagI j.fence) := ⟨_, rfl⟩
      have lb23 : b23.length ≤ 7320 := by rw [hb23, List.length_append]; have := flagI_len j.fence; omega
      rw [← hb23]
      simp (maxSteps := 1000000) [hho, noHo, wrO, -List.reduceReplicate]
      refine call_x [1, 2] (flag_w2 b23 (by omega) j.back) rfl rfl ⟨rfl, rfl⟩ hho (by simp) (by decide) (by simp) (by simp) ?_
      obtain ⟨b24, hb24⟩ : ∃ x, x = b23 ++ num (flagI j.back) := ⟨_, rfl⟩
      have lb24 : b24.length ≤ 7330 := by rw [hb24, List.length_append]; have := flagI_len j.back; omega
      rw [← hb24]
      simp (maxSteps := 1000000) [hho, noHo, wrO, -List.reduceReplicate]
      refine call_x [1, 2] (number_w b24 (by omega) (j.err) o10.1 o10.2) rfl rfl ⟨rfl, rfl⟩ hho (by simp) (by decide) (by simp) (by simp) ?_
      obtain ⟨b25, hb25⟩ : ∃ x, x = b24 ++ num j.err := ⟨_, rfl⟩
      have lb25 : b25.length ≤ 7340 := by rw [hb25, List.length_append]; have := num_len j.err o10.1 o10.2; omega
      rw [← hb25]
      simp (maxSteps := 1000000) [hho, noHo, wrO, -List.reduceReplicate]
      refine call_x [1, 2] (flag_w2 b25 (by omega) j.fin) rfl rfl ⟨rfl, rfl⟩ hho (by simp) (by decide) (by simp) (by simp) ?_
      obtain ⟨b26, hb26⟩ : ∃ x, x = b25 ++ num (flagI j.fin) := ⟨_, rfl⟩
      have lb26 : b26.length ≤ 7350 := by rw [hb26, List.length_append]; have := flagI_len j.fin; omega
      rw [← hb26]
      simp (maxSteps := 1000000) [hho, noHo, wrO, -List.reduceReplicate]
      have hbe : jobB j = b26 := by
        rw [hb26, hb25, hb24, hb23, hb22, hb21, hb20, hb19, hb18, hb17, hb14, hb13, hb12, hb5, hb4, hb3, hb2, hb1, hb0]
        simp [jobB]
      have hbp : 0 < b26.length := by
        rw [← hbe]; simp [jobB, num]
      rw [hbe]
      refine call_x [1, 2] (bytes_w b26 hbp (by omega)) rfl rfl ⟨rfl, rfl⟩ hho (by simp) (by decide) (by simp) (by simp) ?_
      simp (maxSteps := 1000000) [hho, noHo, wrO, -List.reduceReplicate]
      refine Ret.sel [] (fun k => k == 3) (ho := by rfl) (ha := by rfl) ?_ ?_ (by decide) (by simp) (fun i _ h => by cases h) ⟨?_, rfl⟩
      · simp
      · simp
        exact ⟨by unfold maxLen; omega, fun x hx => (u8av_all b26).2 trivial x (List.mem_of_mem_take hx)⟩
      · simp [List.take_of_length_le]
end Go.Proofs.YtcjncgfhkgcbnaaDoor
