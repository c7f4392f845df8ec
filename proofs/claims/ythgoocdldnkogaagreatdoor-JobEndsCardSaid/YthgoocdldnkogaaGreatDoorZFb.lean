import Derived.Test.YthgoocdldnkogaaGreatDoorHF1
namespace Go.Proofs.YthgoocdldnkogaaGreatDoor
set_option linter.unusedVariables false
set_option linter.unusedSimpArgs false
open Go.RowKit
attribute [local simp] isCut_nil isCut_region isCut_seq isCut_block isCut_loop isCut_cond isCut_skip isCut_exit isCut_ret isCut_range swapK putK altK condK_bool pickP_bool stepP stepO onPure_some onPure_none onImpl_some onImpl_none stepC onGP_some onGP_none onGV_some condG mkG onIt_it nextP_ptr takeP_eq takeV_some takeV_none takeU_some takeU_none takeQ takeW_some takeN_none takeN_some takeG_some takeO_some altO_some pureV binV2 eqF eqOp ovlV ovl2 rowAt capV binV intBin strBin isSh shV fldV ixV sliceV slice3V loadAV nilV lenV callV unV convV viewS cellsH loadV fldCut AV.ung AV.ungs AV.gc AV.cells AS.ev AS.put anyS gcsV gcO lens lnO gV guardV retK RetP_eq resV oneV anyRo loIx hiIx implO callP_clo evL gcsL clearV storeAV AS.push AS.setO appV appZ shortS copyV buildV partsV fillV srcV fzO okV isCell_c isCell_ptr isCell_sl isCell_fs isCell_fp isCell_clo rowZ_one rowZ_zero rowZ_2 rowZ_3 rowZ_4 rowZ_5 rowZ_6 rowZ_7 rowZ_8 rowZ_9 rowZ_10 rowZ_11 rowZ_12 noHo Value.oneCell' max2V min2V lookV updV updK updW cvals mkAt basV lenM msAt afterH putBack frzFrom frzO rebO backIx nilEq_sl nilEq_fs nilEq_ifn nilEq_ifh ifOp_eql ifOp_neq isLit nilOp_eql nilOp_neq AV.reb AV.rebL
attribute [local simp ↓] runK_skip runK_region runK_draw runK_seq runK_cut runK_cond runK_block runK_loop runK_exit runK_label runK_goto runK_ret runK_range contK_nil contK_seq contK_seq_ret contK_seq_exit contK_seq_goto contK_block contK_block_ret contK_block_goto contK_block_exit runO_nil runO_cons roundK_exit roundK_ret roundK_goto exitK_ret cutK_ret cutK_exit runE_done runE_nil runE_take runE_alt condG_true condG_false
set_option maxRecDepth 10000
attribute [local simp] stC stXf stP stQ stS stE
set_option maxHeartbeats 16000000 in
theorem tr_idxs (t : TabS) (next : Int) (hb : TabBig t) {E : Env} (hE : E.ln0 = lens []) (hho : E.ho = noHo) : OnC (fun c => runK Tryz.prog E [] c [] (cutK E (stE next t) (fun _ => xPre t next t.idxs = true) (retK Tryz.prog (fun _ => false) [ResultVar.tmp 4] (fun r h' => r = .c (.bool (tabOk t next)) ∧ h' = []))) (stE next t ())) (takeC 4 2 Tryz.f62.body) := by
 refine OnC.mk rfl ?_
 have hcl := hb.cl
 have hil := hb.il
 ·simp (maxSteps := 1000000) [slotsOf, tabA, hho, noHo, -List.reduceReplicate]
  refine loop_k mixed (stXf next t) (fun j => t.idxs.length - j) (fun j => j ≤ t.idxs.length ∧ xPre t next (t.idxs.take j) = true) 0 ⟨Nat.zero_le _, rfl⟩ ?_ ?_
  ·exact wk_eq (by simp [hE, lens]) (by simp [tabA]) (by simp [livH, livO, AV.livL, AV.liv, wkL, wkV, List.range', slotsOf, lastI])
  refine fun j hJ_j => ?_
  have hj := hJ_j.1
  have hI := hJ_j.2
  clear hJ_j
  simp only [stXf]
  by_cases hjl : j < t.idxs.length
  ·have hat := idxsA_at t.idxs j hjl
   have ew : IntKind.i64.wrap ((j : Int) + 1) = (j + 1 : Nat) := by rw [IntWalk.i64_in _ (by omega)]; rfl
   have e0 : j * 5 + 5 ≤ t.idxs.length * 5 := by omega
   have htk : t.idxs.take (j + 1) = t.idxs.take j ++ [t.idxs[j]] := List.take_succ_eq_append_getElem hjl
   have hsn := xPre_snoc t.idxs[j] hI
   rw [← htk] at hsn
   have hno : xPre t next (t.idxs.take (j + 1)) = false → tabOk t next = false := fun h => noTab fun h2 => by rw [xPre_cut (j + 1) h2] at h; cases h
   have hbx := hb.xn t.idxs[j] (List.getElem_mem hjl)
   have hfi := ixF_first (fun x : IdxS => decide (x.name = t.idxs[j].name)) t.idxs j hjl (by simp)
   rw [idx_any] at hfi
   have hla : lastI (-1) (List.take (j + 1) (List.map IdxS.id t.idxs)) = t.idxs[j].id := by rw [lastI_take _ _ _ (by simpa using hjl)]; simp
   refine ex_eq (t.idxs[j]) fun x hx => ?_
   rw [← hx] at hat hsn hbx hfi hla
   have k1 := name_ref x.name hbx.1
   have k2 := r12Index_w t x.name hil
   have k3 := there_r12 x.st
   refine ex_eq (ixF (fun y : IdxS => decide (y.name = x.name)) t.idxs) fun v hv => ?_
   rw [← hv] at k2 hfi
   refine ex_eq (lastI (-1) ((t.idxs.take j).map IdxS.id)) fun w hw => ?_
   rw [← hw] at hsn ⊢
   have hfail : ∀ {p : Prop}, (xPre t next (t.idxs.take (j + 1)) = true → p) → ¬ p → tabOk t next = false := fun h hp => hno (by
    cases e : xPre t next (t.idxs.take (j + 1)) with
    | false => rfl
    | true => exact absurd (h e) hp)
   rw [hsn] at hfail
   simp only [Bool.and_eq_true, decide_eq_true_eq, idxOk] at hfail
   by_cases i1 : x.id ≤ w
   ·simp (maxSteps := 1000000) [slotsOf, tabA, idxA, hho, noHo, hjl, hat, e0, i1, undef, onGP_none, condG_false, -List.reduceReplicate]
    exact Ret.drop (by rfl) ⟨by rw [hfail (fun h => h.1.1.1) (by omega)], rfl⟩
   by_cases i2 : next ≤ x.id
   ·simp (maxSteps := 1000000) [slotsOf, tabA, idxA, hho, noHo, hjl, hat, e0, i1, i2, undef, onGP_none, condG_false, -List.reduceReplicate]
    exact Ret.drop (by rfl) ⟨by rw [hfail (fun h => h.1.1.2) (by omega)], rfl⟩
   simp (maxSteps := 1000000) [slotsOf, tabA, idxA, hho, noHo, hjl, hat, e0, i1, i2, undef, onGP_none, condG_false, -List.reduceReplicate]
   refine call_x [] k1 rfl rfl ⟨rfl, rfl⟩ hho (by simp) (by decide) (by simp) (by simp) ?_
   cases i3 : nameOk x.name with
   | false =>
    simp (maxSteps := 1000000) [hho, noHo, undef, onGP_none, condG_false, -List.reduceReplicate]
    exact Ret.drop (by rfl) ⟨by rw [hfail (fun h => h.1.2.1.1.1.1) (by simp [i3])], rfl⟩
   | true =>
   simp (maxSteps := 1000000) [hho, noHo, undef, onGP_none, condG_false, -List.reduceReplicate]
   refine call_x [] k2 rfl rfl ⟨rfl, rfl⟩ hho (by simp) (by decide) (by simp) (by simp) ?_
   by_cases i4 : v = (j : Int)
   case neg =>
    simp (maxSteps := 1000000) [hho, noHo, i4, undef, onGP_none, condG_false, -List.reduceReplicate]
    exact Ret.drop (by rfl) ⟨by rw [hfail (fun h => h.2) (by intro h; exact i4 (hfi.2 (by simpa using h)))], rfl⟩
   have i4m := hfi.1 i4
   simp (maxSteps := 1000000) [hho, noHo, i4, undef, onGP_none, condG_false, -List.reduceReplicate]
   refine call_x [] k3 rfl rfl ⟨rfl, rfl⟩ hho (by simp) (by decide) (by simp) (by simp) ?_
   cases i5 : thereB x.st with
   | false =>
    simp (maxSteps := 1000000) [hho, noHo, undef, onGP_none, condG_false, -List.reduceReplicate]
    exact Ret.drop (by rfl) ⟨by rw [hfail (fun h => h.1.2.1.1.1.2) (by simp [i5])], rfl⟩
   | true =>
   by_cases i6 : x.cols.length = 0
   ·have i6' : (x.cols.length : Int) = 0 := by omega
    have i6n : x.cols = [] := List.eq_nil_of_length_eq_zero i6
    simp (maxSteps := 1000000) [hho, noHo, i6, i6', i6n, undef, onGP_none, condG_false, -List.reduceReplicate]
    exact Ret.drop (by rfl) ⟨by rw [hfail (fun h => h.1.2.1.1.2) (by omega)], rfl⟩
   have i6' : ¬ (x.cols.length : Int) = 0 := by omega
   have i6n : ¬ x.cols = [] := fun h => i6 (by rw [h]; rfl)
   by_cases i7 : 4 < x.cols.length
   ·have i7' : (4 : Int) < x.cols.length := by omega
    simp (maxSteps := 1000000) [hho, noHo, i6, i6', i6n, i7, i7', undef, onGP_none, condG_false, -List.reduceReplicate]
    exact Ret.drop (by rfl) ⟨by rw [hfail (fun h => h.1.2.1.2) (by omega)], rfl⟩
   have i7' : ¬ (4 : Int) < x.cols.length := by omega
   simp (maxSteps := 1000000) [hho, noHo, i6, i6', i6n, i7, i7', undef, onGP_none, condG_false, -List.reduceReplicate]
   refine loop_k mixed (stP next t x j) (fun q => x.cols.length - q) (fun q => q ≤ x.cols.length ∧ partsOk (t.cols.map ColS.id) [] x.cols = partsOk (t.cols.map ColS.id) (x.cols.take q) (x.cols.drop q)) 0 ⟨Nat.zero_le _, rfl⟩ ?_ ?_
   ·exact wk_eq (by simp [hE, lens]) (by simp [tabA, idxA]) (by simp [livH, livO, AV.livL, AV.liv, wkL, wkV, List.range', slotsOf])
   refine fun q hJ_q => ?_
   have hq := hJ_q.1
   have hP := hJ_q.2
   clear hJ_q
   by_cases hql : q < x.cols.length
   ·have hqt := intsA_get x.cols q hql
    have ewq : IntKind.i64.wrap ((q : Int) + 1) = (q + 1 : Nat) := by rw [IntWalk.i64_in _ (by omega)]; rfl
    rw [partsOk_step _ _ q hql] at hP
    have hct := intsA_cut x.cols q
    have hlt : (x.cols.take q).length = q := by rw [List.length_take]; omega
    refine ex_eq (x.cols[q]) fun k hk => ?_
    rw [← hk] at hqt hP
    have k4 := r12ColumnId_w t k hcl
    have hneg := ixF_id t.cols k
    refine ex_eq (ixF (fun c : ColS => decide (c.id = k)) t.cols) fun u hu => ?_
    rw [← hu] at k4 hneg
    refine ex_eq (x.cols.take q) fun D hD => ?_
    rw [← hD] at hP hct hlt
    simp (maxSteps := 1000000) [slotsOf, tabA, idxA, hho, noHo, hql, hqt, -List.reduceReplicate]
    refine ⟨by omega, ?_⟩
    refine call_x [] k4 rfl rfl ⟨rfl, rfl⟩ hho (by simp) (by decide) (by simp) (by simp) ?_
    cases hm : memI (t.cols.map ColS.id) k with
    | false =>
     rw [hm] at hP
     have hv0 : u < 0 := hneg.2 hm
     simp (maxSteps := 1000000) [hho, noHo, hv0, -List.reduceReplicate]
     exact Ret.drop (by rfl) ⟨by rw [hfail (fun h => h.1.2.2) (by simp [hP])], rfl⟩
    | true =>
     rw [hm] at hP
     have hv0 : ¬ u < 0 := fun h => by have := hneg.1 h; rw [hm] at this; cases this
     have hq2 : q ≤ x.cols.length := by omega
     simp (maxSteps := 1000000) [hho, noHo, hv0, hq2, hct, -List.reduceReplicate]
     refine loop_k mixed (stQ next t x j q k D) (fun i => q - i) (fun i => i ≤ q ∧ memI (D.take i) k = false) 0 ⟨Nat.zero_le _, rfl⟩ ?_ ?_
     ·exact wk_eq (by simp [hE, lens]) (by simp [tabA, idxA]) (by simp [livH, livO, AV.livL, AV.liv, wkL, wkV, List.range', slotsOf])
     refine fun i hJ_i => ?_
     have hi := hJ_i.1
     have hM := hJ_i.2
     clear hJ_i
     by_cases hil2 : i < q
     ·have hid : i < D.length := by omega
      have hdt := intsA_get D i hid
      have hdt2 : (intsA D)[i]? = some (.c (.int .i64 D[i])) := by rw [List.getElem?_eq_getElem (by simpa using hid), hdt]
      have ewi : IntKind.i64.wrap ((i : Int) + 1) = (i + 1 : Nat) := by rw [IntWalk.i64_in _ (by omega)]; rfl
      have htk2 : D.take (i + 1) = D.take i ++ [D[i]] := List.take_succ_eq_append_getElem hid
      by_cases hkd : k = D[i]
      ·have hmt : memI D k = true := by
        simp only [memI, List.any_eq_true, decide_eq_true_eq]
        exact ⟨D[i], List.getElem_mem hid, hkd⟩
       rw [hmt] at hP
       simp (maxSteps := 1000000) [slotsOf, tabA, idxA, hho, noHo, hil2, hdt, hdt2, ← hkd, -List.reduceReplicate]
       refine ⟨by omega, ?_⟩
       exact Ret.drop (by rfl) ⟨by rw [hfail (fun h => h.1.2.2) (by simp [hP])], rfl⟩
      ·simp (maxSteps := 1000000) [slotsOf, tabA, idxA, hho, noHo, hil2, hdt, hdt2, hkd, ewi, -List.reduceReplicate]
       refine ⟨by omega, ?_⟩
       refine round_next (i + 1) ⟨by omega, by rw [htk2, memI_app, hM]; simp [memI, hkd]⟩ (by omega) ?_
       exact wk_eq (by simp [hE, lens]) (by simp [tabA, idxA]) (by simp [livH, livO, AV.livL, AV.liv, wkL, wkV, List.range', slotsOf])
     ·obtain rfl : i = q := by omega
      rw [List.take_of_length_le (by omega)] at hM
      rw [hM] at hP
      simp (maxSteps := 1000000) [slotsOf, tabA, idxA, hho, noHo, ewq, -List.reduceReplicate]
      refine round_next (i + 1) ⟨by omega, by rw [hP]; simp⟩ (by omega) ?_
      exact wk_eq (by simp [hE, lens]) (by simp [tabA, idxA]) (by simp [livH, livO, AV.livL, AV.liv, wkL, wkV, List.range', slotsOf])
   ·obtain rfl : q = x.cols.length := by omega
    rw [List.drop_length] at hP
    have hP1 : partsOk (t.cols.map ColS.id) [] x.cols = true := by rw [hP]; rfl
    simp (maxSteps := 1000000) [slotsOf, tabA, idxA, hho, noHo, ew, -List.reduceReplicate]
    refine round_next (j + 1) ⟨by omega, ?_⟩ (by omega) ?_
    ·rw [hsn]
     simp only [Bool.and_eq_true, decide_eq_true_eq, idxOk, Bool.not_eq_true']
     exact ⟨⟨⟨by omega, by omega⟩, ⟨⟨⟨⟨i3, i5⟩, by omega⟩, by omega⟩, hP1⟩⟩, i4m⟩
    ·exact wk_of 1 1 (by simp) (by simp [hE, lens]) (by simp [tabA]) (by simp [livH, livO, AV.livL, AV.liv, wkL, wkV, List.range', tabA, idxA]) (by simp [livH, livO, AV.livL, AV.liv, wkL, wkV, List.range', slotsOf, hla])
  ·obtain rfl : j = t.idxs.length := by omega
   rw [List.take_length] at hI
   simp (maxSteps := 1000000) [slotsOf, tabA, hho, noHo, -List.reduceReplicate]
   exact cut_to () hI (wk_eq (by simp [hE, lens]) (by simp [tabA]) (by simp [livH, livO, AV.livL, AV.liv, wkL, wkV, List.range', slotsOf]))
end Go.Proofs.YthgoocdldnkogaaGreatDoor
