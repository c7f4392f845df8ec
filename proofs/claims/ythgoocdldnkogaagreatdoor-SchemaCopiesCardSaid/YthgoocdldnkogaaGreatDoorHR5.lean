import Derived.Test.YthgoocdldnkogaaGreatDoorHR2
namespace Go.Proofs.YthgoocdldnkogaaGreatDoor
set_option linter.unusedVariables false
set_option linter.unusedSimpArgs false
open Go.RowKit
attribute [local simp] isCut_nil isCut_region isCut_seq isCut_block isCut_loop isCut_cond isCut_skip isCut_exit isCut_ret isCut_range swapK putK altK condK_bool pickP_bool stepP stepO onPure_some onPure_none onImpl_some onImpl_none stepC onGP_some onGP_none onGV_some condG mkG onIt_it nextP_ptr takeP_eq takeV_some takeV_none takeU_some takeU_none takeQ takeW_some takeN_none takeN_some takeG_some takeO_some altO_some pureV binV2 eqF eqOp ovlV ovl2 rowAt capV binV intBin strBin isSh shV fldV ixV sliceV slice3V loadAV nilV lenV callV unV convV viewS cellsH loadV fldCut AV.ung AV.ungs AV.gc AV.cells AS.ev AS.put anyS gcsV gcO lens lnO gV guardV retK RetP_eq resV oneV anyRo loIx hiIx implO callP_clo evL gcsL clearV storeAV AS.push AS.setO appV appZ shortS copyV buildV partsV fillV srcV fzO okV isCell_c isCell_ptr isCell_sl isCell_fs isCell_fp isCell_clo rowZ_one rowZ_zero rowZ_2 rowZ_3 rowZ_4 rowZ_5 rowZ_6 rowZ_7 rowZ_8 rowZ_9 rowZ_10 rowZ_11 rowZ_12 noHo Value.oneCell' max2V min2V lookV updV updK updW cvals mkAt basV lenM msAt afterH putBack frzFrom frzO rebO backIx nilEq_sl nilEq_fs nilEq_ifn nilEq_ifh ifOp_eql ifOp_neq isLit nilOp_eql nilOp_neq AV.reb AV.rebL
attribute [local simp ↓] runK_skip runK_region runK_draw runK_seq runK_cut runK_cond runK_block runK_loop runK_exit runK_label runK_goto runK_ret runK_range contK_nil contK_seq contK_seq_ret contK_seq_exit contK_seq_goto contK_block contK_block_ret contK_block_goto contK_block_exit runO_nil runO_cons roundK_exit roundK_ret roundK_goto exitK_ret cutK_ret cutK_exit runE_done runE_nil runE_take runE_alt condG_true condG_false
set_option maxRecDepth 10000

set_option maxHeartbeats 4000000 in
theorem right_row (l : List CellS) (hl : l.length ≤ 2932031007402) (hs : ∀ c ∈ l, c.v.t.size ≤ 9000000000000000000) : ACalls Tryz.prog 159 [.fs 5 l.length (cellsA l)] [] (fun _ => false) (fun r h' => r = .c (.bool (okR (-1) l)) ∧ h' = []) := by
 refine acalls mixed Tryz.func159 rfl Tryz.ntmps159 rfl fun E hE hst hho => ?_
 simp (maxSteps := 1000000) [hho, noHo, -List.reduceReplicate]
 refine loop_k mixed (fun j : Nat => ⟨slotsOf 31 [(0, .fs 5 l.length (cellsA l)), (5, .fs 5 l.length (cellsA l)), (6, .c (.int .i64 l.length)), (7, .c (.int .i64 (j : Int)))], []⟩) (fun j => l.length - j) (fun j => j ≤ l.length ∧ okR (-1) (l.take j) = true) 0 ⟨Nat.zero_le _, rfl⟩ ?_ ?_
 ·exact wk_eq (by simp [hE, lens]) (by simp) (by simp [livH, livO, AV.livL, AV.liv, wkL, wkV, List.range', slotsOf])
 ·rintro j ⟨hj, hI⟩
  by_cases hjl : j < l.length
  ·have hat := cellsA_at l j hjl
   have el : j * 5 + 5 ≤ l.length * 5 := by omega
   have hnx := okR_next l j hjl hI (fun i hi e => by subst e; exact lastC_take _ _ _ hi)
   have hsz := hs l[j] (List.getElem_mem hjl)
   have hfin : ¬ okR (-1) (l.take (j + 1)) = true → okR (-1) l = false := fun h => by
    cases ho : okR (-1) l with
    | false => rfl
    | true => exact absurd (okR_cut (j + 1) ho) h
   have hx0 := cellsA_0 l j hjl
   obtain ⟨x, hx⟩ : ∃ x, x = l[j] := ⟨_, rfl⟩
   rw [← hx] at hat hnx hsz hx0
   have h5 : List.take 5 (cellA x) = cellA x := rfl
   have hc0 : (cellA x)[0]? = some (.c (.int .i64 x.col)) := rfl
   simp (maxSteps := 1000000) [slotsOf, hho, noHo, hjl, hat, h5, el, -List.reduceReplicate]
   refine draw_k hho (.take 0 (.alt 1 (.take 2 (.take 3 (.take 4 (.take 5 (.take 6 (.take 7 (.take 8 (.take 9 (.take 10 (.take 11 (.take 12 (.take 13 (.take 14 (.take 15 (.take 16 (.take 17 (.done))))))))))))))))) (.nil))) [0] [] (by decide +kernel) (by simp) ?_
   simp (maxSteps := 1000000) [hho, h5, roOf, holdOf, wrOf, altK, heldOk, Region.binds, -List.reduceReplicate]
   intro E1
   refine call_plain (fun _ => false) (cell_right x hsz) (ha := by rfl) (by simp) ?_
   rintro r h' ⟨rfl, rfl⟩
   refine ⟨rfl, ?_⟩
   obtain ⟨k', hk', hkk, hkj⟩ : ∃ k', (IntKind.i64.wrap ((j : Int) - 1)).toNat = k' ∧ k' < l.length ∧ (0 < j → j = k' + 1 ∧ IntKind.i64.wrap ((j : Int) - 1) = (k' : Nat)) := by
    have e : IntKind.i64.wrap ((j : Int) - 1) = (j : Int) - 1 := IntWalk.i64_in _ (by omega)
    refine ⟨((j : Int) - 1).toNat, by rw [e], by omega, fun _ => ⟨by omega, by rw [e]; omega⟩⟩
   have hz0 := cellsA_0 l k' hkk
   obtain ⟨z, hz⟩ : ∃ z, z = l[k'].col := ⟨_, rfl⟩
   rw [← hz] at hz0
   by_cases hr : cellOk x = true
   ·by_cases hj0 : 0 < j
    ·obtain ⟨rfl, ewk⟩ := hkj hj0
     have hj0i : (0 : Int) < ((k' + 1 : Nat) : Int) := by omega
     have ewk' : IntKind.i64.wrap (k' : Int) = (k' : Nat) := IntWalk.i64_in _ (by omega)
     have hkl : (k' : Int) < l.length := by omega
     have ew2 : IntKind.i64.wrap ((k' : Int) + 1 + 1) = (k' : Int) + 1 + 1 := IntWalk.i64_in _ (by omega)
     by_cases hzx : x.col ≤ z
     ·simp (maxSteps := 1000000) [hho, hr, hk', ewk', hkl, hz0, hx0, hc0, hzx, ew2, roOf, holdOf, wrOf, altK, heldOk, Region.binds, -List.reduceReplicate]
      refine ⟨by omega, ?_⟩
      refine Ret.drop (by rfl) ⟨?_, rfl⟩
      rw [hfin fun h => by have := (hnx.1 h).2 k' hkk rfl; rw [← hz] at this; omega]
     ·simp (maxSteps := 1000000) [hho, hr, hk', ewk', hkl, hz0, hx0, hc0, hzx, ew2, roOf, holdOf, wrOf, altK, heldOk, Region.binds, -List.reduceReplicate]
      refine ⟨by omega, ?_⟩
      refine round_next (k' + 1 + 1) ⟨by omega, hnx.2 ⟨hr, fun k hk e => by obtain rfl : k = k' := (by omega); rw [← hz]; omega⟩⟩ (by omega) ?_
      exact wk_of 0 1 (by simp) (by simp [hE, lens]) (by simp) (by simp [livH, livO, AV.livL, AV.liv, wkL, wkV, List.range']) (by simp [livH, livO, AV.livL, AV.liv, wkL, wkV, List.range', slotsOf])
    ·obtain rfl : j = 0 := by omega
     have em1 : IntKind.i64.wrap (-1) = -1 := by decide
     have e10 : IntKind.i64.wrap 1 = 1 := by decide
     rw [Nat.zero_mul] at hx0
     simp (maxSteps := 1000000) [hho, hr, em1, e10, hx0, hc0, undef, onGP_none, condG_false, roOf, holdOf, wrOf, altK, heldOk, Region.binds, -List.reduceReplicate]
     refine round_next 1 ⟨by omega, hnx.2 ⟨hr, fun k hk e => by omega⟩⟩ (by omega) ?_
     exact wk_of 0 1 (by simp) (by simp [hE, lens]) (by simp) (by simp [livH, livO, AV.livL, AV.liv, wkL, wkV, List.range']) (by simp [livH, livO, AV.livL, AV.liv, wkL, wkV, List.range', slotsOf])
   ·simp (maxSteps := 1000000) [hho, hr, hk', hz0, hx0, hc0, undef, onGP_none, condG_false, roOf, holdOf, wrOf, altK, heldOk, Region.binds, -List.reduceReplicate]
    refine Ret.drop (by rfl) ⟨?_, rfl⟩
    rw [hfin fun h => hr (hnx.1 h).1]
  ·obtain rfl : j = l.length := by omega
   rw [List.take_length] at hI
   simp (maxSteps := 1000000) [slotsOf, hho, noHo, -List.reduceReplicate]
   exact Ret.drop (by rfl) ⟨by rw [hI], rfl⟩

theorem valB_len {v : ValS} (hv : valOk v = true) (ho : v.Ok) (h0 : v.k ≠ 0) : (valB v).length ≤ 230 := by
 have hk := valOk_k hv h0
 have h1 := num_len v.k (by omega) (by omega)
 have h2 := num_len v.n ho.2.1.1 ho.2.1.2
 have h3 := num_len v.s ho.2.2.1.1 ho.2.2.1.2
 unfold valB
 rw [List.length_append]
 split
 ·omega
 ·split
  ·rw [List.length_append]; omega
  ·rename_i g1 g2
   have ht : v.t.size ≤ 200 := by
    unfold valOk at hv
    rw [if_neg h0, if_neg (fun h => g1 (.inl h)), if_neg (fun h => g1 (.inr h)), if_neg g2] at hv
    split at hv
    ·simp only [Bool.and_eq_true, decide_eq_true_eq] at hv; omega
    ·split at hv
     ·simp only [Bool.and_eq_true, decide_eq_true_eq] at hv; omega
     ·cases hv
   have h4 := num_len (v.t.size : Int) (by omega) (by omega)
   have hsl : v.t.data.toList.length = v.t.size := rfl
   rw [txt, List.length_append, hsl]; omega
def RowOk (l : List CellS) : Prop := ∀ c ∈ l, c.Ok ∧ c.v.k ≠ 0 ∧ valOk c.v = true
theorem cellB_len {c : CellS} (h : c.Ok ∧ c.v.k ≠ 0 ∧ valOk c.v = true) : (cellB c).length ≤ 240 := by
 have h1 := num_len c.col h.1.1.1 h.1.1.2
 have h2 := valB_len h.2.2 h.1.2 h.2.1
 unfold cellB; rw [List.length_append]; omega
theorem cellsB_len : ∀ (l : List CellS), RowOk l → (l.flatMap cellB).length ≤ 240 * l.length
 | [], _ => by simp
 | c :: l, h => by
  have h1 := cellB_len (h c (by simp))
  have h2 := cellsB_len l fun d hd => h d (by simp [hd])
  simp only [List.flatMap_cons, List.length_append, List.length_cons]; omega
theorem cellsB_succ (l : List CellS) (j : Nat) (hj : j < l.length) : (l.take (j + 1)).flatMap cellB = (l.take j).flatMap cellB ++ cellB l[j] := by rw [List.take_succ_eq_append_getElem hj, List.flatMap_append]; simp [List.flatMap_cons]
theorem rowOk_of {l : List CellS} (hi : ∀ c ∈ l, c.Ok) (h : okR (-1) l = true) : RowOk l := fun c hc => ⟨hi c hc, (okR_mem h c hc).2.1, (okR_mem h c hc).2.2⟩
def rowPutA (l : List CellS) : AV := if okR (-1) l = true then .tup [.fs 1 (rowB l).length (u8av (rowB l)), .c (.int .i64 0)] else .tup [.c (.slice none 0 0), .c (.int .i64 2)]
set_option maxHeartbeats 4000000 in
theorem put_row (l : List CellS) (hl : l.length ≤ 1000000) (hi : ∀ c ∈ l, c.Ok) (hs : ∀ c ∈ l, c.v.t.size ≤ 9000000000000000000) : ACalls Tryz.prog 112 [.fs 5 l.length (cellsA l)] [] (fun _ => false) (fun r h' => r = rowPutA l ∧ h' = []) := by
 refine acallsC [4] mixed Tryz.func112 rfl Tryz.ntmps112 rfl fun E hE hst hho => ?_
 have hR := right_row l (by omega) hs
 unfold rowPutA
 cases hok : okR (-1) l with
 | false =>
  rw [hok] at hR
  simp (maxSteps := 1000000) [hho, noHo, -List.reduceReplicate]
  refine call_x [] hR rfl rfl ⟨rfl, rfl⟩ hho (by simp) (by decide) (by simp) (by simp) ?_
  simp (maxSteps := 1000000) [hho, noHo, -List.reduceReplicate]
  exact Ret.same ⟨rfl, rfl⟩
 | true =>
  rw [hok] at hR
  have hro := rowOk_of hi hok
  have hnl := num_len (l.length : Int) (by omega) (by omega)
  simp (maxSteps := 1000000) [hho, noHo, -List.reduceReplicate]
  refine call_x [] hR rfl rfl ⟨rfl, rfl⟩ hho (by simp) (by decide) (by simp) (by simp) ?_
  simp (maxSteps := 1000000) [hho, noHo, -List.reduceReplicate]
  refine seq_cut mixed [] (fun _ : Unit => ⟨slotsOf 33 [(0, .fs 5 l.length (cellsA l)), (4, .ptr 0 0 1)], wrO []⟩) (fun _ => True) ?_ ?_
  ·intro _ _
   simp (maxSteps := 1000000) [slotsOf, wrO, hho, noHo, -List.reduceReplicate]
   refine call_x [0, 1] (number_w [] (by simp) l.length (by omega) (by omega)) rfl rfl ⟨rfl, rfl⟩ hho (by simp) (by decide) (by simp) (by simp [wrO]) ?_
   simp (maxSteps := 1000000) [wrO, slotsOf, hho, noHo, -List.reduceReplicate]
   refine loop_k mixed (fun j : Nat => ⟨slotsOf 33 [(4, .ptr 0 0 1), (16, .fs 5 l.length (cellsA l)), (17, .c (.int .i64 l.length)), (18, .c (.int .i64 (j : Int)))], wrO (num l.length ++ (l.take j).flatMap cellB)⟩) (fun j => l.length - j) (fun j => j ≤ l.length) 0 (Nat.zero_le _) ?_ ?_
   ·exact wk_eq (by simp [hE, lens]) (by simp [wrO]) (by simp [livH, livO, AV.livL, AV.liv, wkL, wkV, List.range', slotsOf])
   ·intro j hj
    by_cases hjl : j < l.length
    ·have hat := cellsA_at l j hjl
     have ew : IntKind.i64.wrap ((j : Int) + 1) = (j + 1 : Nat) := by rw [IntWalk.i64_in _ (by omega)]; rfl
     have el : j * 5 + 5 ≤ l.length * 5 := by omega
     have hsu := cellsB_succ l j hjl
     have hbl := cellsB_len (l.take j) fun y hy => hro y (List.mem_of_mem_take hy)
     rw [List.length_take] at hbl
     have hxi := hro l[j] (List.getElem_mem hjl)
     obtain ⟨x, hx⟩ : ∃ x, x = l[j] := ⟨_, rfl⟩
     rw [← hx] at hat hsu hxi
     have h5 : List.take 5 (cellA x) = cellA x := rfl
     have hv4 : List.take 4 (List.drop 1 (cellA x)) = valA x.v := rfl
     obtain ⟨b, hb⟩ : ∃ b, b = num l.length ++ (l.take j).flatMap cellB := ⟨_, rfl⟩
     have hbl2 : b.length ≤ 240000100 := by rw [hb, List.length_append]; omega
     have h1 := num_len x.col hxi.1.1.1 hxi.1.1.2
     rw [← hb]
     simp (maxSteps := 1000000) [slotsOf, wrO, cellA, valA, hho, noHo, hjl, hat, el, -List.reduceReplicate]
     refine call_x [0, 1] (number_w b (by omega) x.col hxi.1.1.1 hxi.1.1.2) rfl rfl ⟨rfl, rfl⟩ hho (by simp) (by decide) (by simp) (by simp [wrO]) ?_
     obtain ⟨b1, hb1⟩ : ∃ b1, b1 = b ++ num x.col := ⟨_, rfl⟩
     have hbl3 : b1.length ≤ 240000200 := by rw [hb1, List.length_append]; omega
     rw [← hb1]
     simp (maxSteps := 1000000) [wrO, slotsOf, hho, noHo, -List.reduceReplicate]
     refine call_x [0, 1] (put_w b1 (by omega) x.v hxi.2.2 hxi.2.1 hxi.1.2) rfl rfl ⟨rfl, rfl⟩ hho (by simp) (by decide) (by simp) (by simp [wrO]) ?_
     obtain ⟨b2, hb2⟩ : ∃ b2, b2 = b1 ++ valB x.v := ⟨_, rfl⟩
     rw [← hb2]
     simp (maxSteps := 1000000) [wrO, slotsOf, hho, noHo, ew, -List.reduceReplicate]
     refine round_next (j + 1) (by omega) (by omega) ?_
     have hbe : num l.length ++ (l.take (j + 1)).flatMap cellB = b2 := by rw [hsu, hb2, hb1, hb]; simp [cellB]
     exact wk_of 2 1 (by simp) (by simp [hE, lens]) (by simp [wrO, hbe]; rw [← hbe]; simp) (by simp [livH, livO, AV.livL, AV.liv, wkL, wkV, List.range']) (by simp [livH, livO, AV.livL, AV.liv, wkL, wkV, List.range', slotsOf])
    ·obtain rfl : j = l.length := by omega
     rw [List.take_length]
     have hbl := cellsB_len l hro
     have hbe : num l.length ++ l.flatMap cellB = rowB l := rfl
     have hbp : 0 < (rowB l).length := by rw [← hbe, List.length_append]; simp [num]; omega
     have hbl2 : (rowB l).length ≤ 240000100 := by rw [← hbe, List.length_append]; omega
     rw [hbe]
     obtain ⟨b, hb⟩ : ∃ b, b = rowB l := ⟨_, rfl⟩
     rw [← hb] at hbp hbl2 ⊢
     simp (maxSteps := 1000000) [slotsOf, wrO, hho, noHo, -List.reduceReplicate]
     refine call_x [0, 1] (bytes_w b hbp (by omega)) rfl rfl ⟨rfl, rfl⟩ hho (by simp) (by decide) (by simp) (by simp [wrO]) ?_
     simp (maxSteps := 1000000) [wrO, slotsOf, hho, noHo, -List.reduceReplicate]
     refine Ret.sel [] (fun k => k == 2) (ho := by rfl) (ha := by rfl) ?_ ?_ (by decide) (by simp) (fun i _ h => by cases h) ⟨?_, rfl⟩
     ·simp
     ·simp
      exact ⟨by unfold maxLen; omega, fun x hx => (u8av_all b).2 trivial x (List.mem_of_mem_take hx)⟩
     ·simp [List.take_of_length_le]
  ·simp (maxSteps := 1000000) [hho, noHo, -List.reduceReplicate]
   refine cut_to () trivial ?_
   refine Wk.trans (wk_virtC 0 0 5 1 rfl rfl) ?_
   exact wk_eq (by simp [hE, lens]) (by simp [wrO]) (by simp [livH, livO, AV.livL, AV.liv, wkL, wkV, List.range', slotsOf])
end Go.Proofs.YthgoocdldnkogaaGreatDoor
