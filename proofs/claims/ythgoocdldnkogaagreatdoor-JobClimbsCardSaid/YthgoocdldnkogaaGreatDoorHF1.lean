import Derived.Test.YthgoocdldnkogaaGreatDoorHZ2
import Derived.Test.YthgoocdldnkogaaGreatDoorEw
namespace Go.Proofs.YthgoocdldnkogaaGreatDoor
set_option linter.unusedVariables false
set_option linter.unusedSimpArgs false
open Go.RowKit
attribute [local simp] isCut_nil isCut_region isCut_seq isCut_block isCut_loop isCut_cond isCut_skip isCut_exit isCut_ret isCut_range swapK putK altK condK_bool pickP_bool stepP stepO onPure_some onPure_none onImpl_some onImpl_none stepC onGP_some onGP_none onGV_some condG mkG onIt_it nextP_ptr takeP_eq takeV_some takeV_none takeU_some takeU_none takeQ takeW_some takeN_none takeN_some takeG_some takeO_some altO_some pureV binV2 eqF eqOp ovlV ovl2 rowAt capV binV intBin strBin isSh shV fldV ixV sliceV slice3V loadAV nilV lenV callV unV convV viewS cellsH loadV fldCut AV.ung AV.ungs AV.gc AV.cells AS.ev AS.put anyS gcsV gcO lens lnO gV guardV retK RetP_eq resV oneV anyRo loIx hiIx implO callP_clo evL gcsL clearV storeAV AS.push AS.setO appV appZ shortS copyV buildV partsV fillV srcV fzO okV isCell_c isCell_ptr isCell_sl isCell_fs isCell_fp isCell_clo rowZ_one rowZ_zero rowZ_2 rowZ_3 rowZ_4 rowZ_5 rowZ_6 rowZ_7 rowZ_8 rowZ_9 rowZ_10 rowZ_11 rowZ_12 noHo Value.oneCell' max2V min2V lookV updV updK updW cvals mkAt basV lenM msAt afterH putBack frzFrom frzO rebO backIx nilEq_sl nilEq_fs nilEq_ifn nilEq_ifh ifOp_eql ifOp_neq isLit nilOp_eql nilOp_neq AV.reb AV.rebL
attribute [local simp ↓] runK_skip runK_region runK_draw runK_seq runK_cut runK_cond runK_block runK_loop runK_exit runK_label runK_goto runK_ret runK_range contK_nil contK_seq contK_seq_ret contK_seq_exit contK_seq_goto contK_block contK_block_ret contK_block_goto contK_block_exit runO_nil runO_cons roundK_exit roundK_ret roundK_goto exitK_ret cutK_ret cutK_exit runE_done runE_nil runE_take runE_alt condG_true condG_false
set_option maxRecDepth 10000
theorem memI_app (a b : List Int) (v : Int) : memI (a ++ b) v = (memI a v || memI b v) := List.any_append
def stC (next : Int) (t : TabS) (j : Nat) : AS := ⟨slotsOf 164 [(1, .c (.int .i64 next)), (2, .ptr 0 0 4), (5, .c (.int .i64 (lastI (-1) ((t.cols.take j).map ColS.id)))), (6, .c (.int .i64 ((pubC (t.cols.take j)).length : Nat))), (32, .fs 10 t.cols.length (colsA t.cols)), (33, .c (.int .i64 t.cols.length)), (34, .c (.int .i64 (j : Nat)))], [.o .box (tabA t)]⟩
def stXf (next : Int) (t : TabS) (j : Nat) : AS := ⟨slotsOf 164 [(1, .c (.int .i64 next)), (2, .ptr 0 0 4), (5, .c (.int .i64 (lastI (-1) ((t.idxs.take j).map IdxS.id)))), (6, .c (.int .i64 ((pubC t.cols).length : Nat))), (84, .fs 5 t.idxs.length (idxsA t.idxs)), (85, .c (.int .i64 t.idxs.length)), (86, .c (.int .i64 (j : Nat)))], [.o .box (tabA t)]⟩
def stP (next : Int) (t : TabS) (x : IdxS) (j : Nat) (q : Nat) : AS := ⟨slotsOf 164 [(1, .c (.int .i64 next)), (2, .ptr 0 0 4), (5, .c (.int .i64 x.id)), (6, .c (.int .i64 ((pubC t.cols).length : Nat))), (10, .ptr 1 0 5), (84, .fs 5 t.idxs.length (idxsA t.idxs)), (85, .c (.int .i64 t.idxs.length)), (86, .c (.int .i64 (j : Nat))), (136, .fs 1 x.cols.length (intsA x.cols)), (137, .c (.int .i64 x.cols.length)), (138, .c (.int .i64 (q : Nat)))], [.o .box (tabA t), .o .box (idxA x)]⟩
def stQ (next : Int) (t : TabS) (x : IdxS) (j : Nat) (q : Nat) (k : Int) (D : List Int) (i : Nat) : AS := ⟨slotsOf 164 [(1, .c (.int .i64 next)), (2, .ptr 0 0 4), (5, .c (.int .i64 x.id)), (6, .c (.int .i64 ((pubC t.cols).length : Nat))), (10, .ptr 1 0 5), (12, .c (.int .i64 k)), (84, .fs 5 t.idxs.length (idxsA t.idxs)), (85, .c (.int .i64 t.idxs.length)), (86, .c (.int .i64 (j : Nat))), (136, .fs 1 x.cols.length (intsA x.cols)), (137, .c (.int .i64 x.cols.length)), (138, .c (.int .i64 (q : Nat))), (150, .fs 1 q (intsA D)), (151, .c (.int .i64 q)), (152, .c (.int .i64 (i : Nat)))], [.o .box (tabA t), .o .box (idxA x)]⟩
def stS (next : Int) (t : TabS) (_ : Unit) : AS := ⟨slotsOf 164 [(1, .c (.int .i64 next)), (2, .ptr 0 0 4), (5, .c (.int .i64 (-1))), (6, .c (.int .i64 0))], [.o .box (tabA t)]⟩
def stE (next : Int) (t : TabS) (_ : Unit) : AS := ⟨slotsOf 164 [(1, .c (.int .i64 next)), (2, .ptr 0 0 4), (6, .c (.int .i64 ((pubC t.cols).length : Nat)))], [.o .box (tabA t)]⟩
attribute [local simp] stC stXf stP stQ stS stE
theorem ex_eq {α : Type} {p : Prop} (a : α) (h : ∀ x, x = a → p) : p := h a rfl
end Go.Proofs.YthgoocdldnkogaaGreatDoor
namespace Go.Proofs.YthgoocdldnkogaaGreatDoor
set_option linter.unusedVariables false
set_option linter.unusedSimpArgs false
open Go.RowKit
attribute [local simp] isCut_nil isCut_region isCut_seq isCut_block isCut_loop isCut_cond isCut_skip isCut_exit isCut_ret isCut_range swapK putK altK condK_bool pickP_bool stepP stepO onPure_some onPure_none onImpl_some onImpl_none stepC onGP_some onGP_none onGV_some condG mkG onIt_it nextP_ptr takeP_eq takeV_some takeV_none takeU_some takeU_none takeQ takeW_some takeN_none takeN_some takeG_some takeO_some altO_some pureV binV2 eqF eqOp ovlV ovl2 rowAt capV binV intBin strBin isSh shV fldV ixV sliceV slice3V loadAV nilV lenV callV unV convV viewS cellsH loadV fldCut AV.ung AV.ungs AV.gc AV.cells AS.ev AS.put anyS gcsV gcO lens lnO gV guardV retK RetP_eq resV oneV anyRo loIx hiIx implO callP_clo evL gcsL clearV storeAV AS.push AS.setO appV appZ shortS copyV buildV partsV fillV srcV fzO okV isCell_c isCell_ptr isCell_sl isCell_fs isCell_fp isCell_clo rowZ_one rowZ_zero rowZ_2 rowZ_3 rowZ_4 rowZ_5 rowZ_6 rowZ_7 rowZ_8 rowZ_9 rowZ_10 rowZ_11 rowZ_12 noHo Value.oneCell' max2V min2V lookV updV updK updW cvals mkAt basV lenM msAt afterH putBack frzFrom frzO rebO backIx nilEq_sl nilEq_fs nilEq_ifn nilEq_ifh ifOp_eql ifOp_neq isLit nilOp_eql nilOp_neq AV.reb AV.rebL
attribute [local simp ↓] runK_skip runK_region runK_draw runK_seq runK_cut runK_cond runK_block runK_loop runK_exit runK_label runK_goto runK_ret runK_range contK_nil contK_seq contK_seq_ret contK_seq_exit contK_seq_goto contK_block contK_block_ret contK_block_goto contK_block_exit runO_nil runO_cons roundK_exit roundK_ret roundK_goto exitK_ret cutK_ret cutK_exit runE_done runE_nil runE_take runE_alt condG_true condG_false
set_option maxRecDepth 10000
attribute [local simp] stC stXf stP stQ stS stE
set_option maxHeartbeats 16000000 in
theorem tr_cols (t : TabS) (next : Int) (hb : TabBig t) {E : Env} (hE : E.ln0 = lens []) (hho : E.ho = noHo) : OnC (fun c => runK Tryz.prog E [] c [] (cutK E (stE next t) (fun _ => cPre t next t.cols = true) (retK Tryz.prog (fun _ => false) [ResultVar.tmp 4] (fun r h' => r = .c (.bool (tabOk t next)) ∧ h' = []))) (stS next t ())) (takeC 3 1 Tryz.f62.body) := by
 refine OnC.mk rfl ?_
 have hcl := hb.cl
 have hil := hb.il
 ·simp (maxSteps := 1000000) [slotsOf, tabA, hho, noHo, -List.reduceReplicate]
  refine loop_k mixed (stC next t) (fun j => t.cols.length - j) (fun j => j ≤ t.cols.length ∧ cPre t next (t.cols.take j) = true) 0 ⟨Nat.zero_le _, rfl⟩ ?_ ?_
  ·exact wk_eq (by simp [hE, lens]) (by simp [tabA]) (by simp [livH, livO, AV.livL, AV.liv, wkL, wkV, List.range', slotsOf, lastI, pubC])
  refine fun j hJ_j => ?_
  have hj := hJ_j.1
  have hI := hJ_j.2
  clear hJ_j
  simp only [stC]
  by_cases hjl : j < t.cols.length
  ·have hat := colsA_at t.cols j hjl
   have ew : IntKind.i64.wrap ((j : Int) + 1) = (j + 1 : Nat) := by rw [IntWalk.i64_in _ (by omega)]; rfl
   have e0 : j * 10 + 10 ≤ t.cols.length * 10 := by omega
   have htk : t.cols.take (j + 1) = t.cols.take j ++ [t.cols[j]] := List.take_succ_eq_append_getElem hjl
   have hsn := cPre_snoc t.cols[j] hI
   have hpu := pubC_snoc (t.cols.take j) t.cols[j]
   rw [← htk] at hsn hpu
   have hno : cPre t next (t.cols.take (j + 1)) = false → tabOk t next = false := fun h => noTab fun h2 => by rw [cPre_cut (j + 1) h2] at h; cases h
   have hbx := hb.cn t.cols[j] (List.getElem_mem hjl)
   have hfi := fun h3 : t.cols[j].st = 3 => ixF_first (fun x : ColS => decide (x.st = 3) && decide (x.name = t.cols[j].name)) t.cols j hjl (by simp [h3])
   rw [pub_any] at hfi
   have hla : lastI (-1) (List.take (j + 1) (List.map ColS.id t.cols)) = t.cols[j].id := by rw [lastI_take _ _ _ (by simpa using hjl)]; simp
   have hpl : (pubC (t.cols.take j)).length ≤ j := by
    have := List.length_filter_le (fun c : ColS => decide (c.st = 3)) (t.cols.take j)
    rw [List.length_take] at this
    unfold pubC; omega
   refine ex_eq (t.cols[j]) fun c hc => ?_
   rw [← hc] at hat hsn hbx hfi hla hpu
   have k1 := name_ref c.name hbx.1
   have k2 := of_ref c.dft c.ty hbx.2
   have k3 := there_r12 c.st
   have k4 := r12Column_w t c.name hcl
   simp only [valA, typA] at k2
   refine ex_eq (ixF (fun y : ColS => decide (y.st = 3) && decide (y.name = c.name)) t.cols) fun v hv => ?_
   rw [← hv] at k4 hfi
   refine ex_eq (lastI (-1) ((t.cols.take j).map ColS.id)) fun w hw => ?_
   rw [← hw] at hsn ⊢
   refine ex_eq (pubC (t.cols.take j)) fun S hS => ?_
   rw [← hS] at hsn hpu hfi hpl ⊢
   have ews : IntKind.i64.wrap ((S.length : Int) + 1) = (S.length + 1 : Nat) := by rw [IntWalk.i64_in _ (by omega)]; rfl
   have hfail : ∀ {p : Prop}, (cPre t next (t.cols.take (j + 1)) = true → p) → ¬ p → tabOk t next = false := fun h hp => hno (by
    cases e : cPre t next (t.cols.take (j + 1)) with
    | false => rfl
    | true => exact absurd (h e) hp)
   rw [hsn] at hfail
   simp only [Bool.and_eq_true, decide_eq_true_eq, colOk] at hfail
   by_cases i1 : c.id ≤ w
   ·simp (maxSteps := 1000000) [slotsOf, tabA, colA, hho, noHo, hjl, hat, e0, i1, undef, onGP_none, condG_false, -List.reduceReplicate]
    exact Ret.drop (by rfl) ⟨by rw [hfail (fun h => h.1.1.1) (by omega)], rfl⟩
   by_cases i2 : next ≤ c.id
   ·simp (maxSteps := 1000000) [slotsOf, tabA, colA, hho, noHo, hjl, hat, e0, i1, i2, undef, onGP_none, condG_false, -List.reduceReplicate]
    exact Ret.drop (by rfl) ⟨by rw [hfail (fun h => h.1.1.2) (by omega)], rfl⟩
   simp (maxSteps := 1000000) [slotsOf, tabA, colA, hho, noHo, hjl, hat, e0, i1, i2, undef, onGP_none, condG_false, -List.reduceReplicate]
   refine call_x [] k1 rfl rfl ⟨rfl, rfl⟩ hho (by simp) (by decide) (by simp) (by simp) ?_
   cases i3 : nameOk c.name with
   | false =>
    simp (maxSteps := 1000000) [hho, noHo, undef, onGP_none, condG_false, -List.reduceReplicate]
    exact Ret.drop (by rfl) ⟨by rw [hfail (fun h => h.1.2.1.1) (by simp [i3])], rfl⟩
   | true =>
   simp (maxSteps := 1000000) [hho, noHo, undef, onGP_none, condG_false, -List.reduceReplicate]
   refine call_x [] k2 rfl rfl ⟨rfl, rfl⟩ hho (by simp) (by decide) (by simp) (by simp) ?_
   cases i4 : ofOk c.dft c.ty with
   | false =>
    simp (maxSteps := 1000000) [hho, noHo, undef, onGP_none, condG_false, -List.reduceReplicate]
    exact Ret.drop (by rfl) ⟨by rw [hfail (fun h => h.1.2.1.2) (by simp [i4])], rfl⟩
   | true =>
   simp (maxSteps := 1000000) [hho, noHo, undef, onGP_none, condG_false, -List.reduceReplicate]
   refine call_x [] k3 rfl rfl ⟨rfl, rfl⟩ hho (by simp) (by decide) (by simp) (by simp) ?_
   cases i5 : thereB c.st with
   | false =>
    simp (maxSteps := 1000000) [hho, noHo, undef, onGP_none, condG_false, -List.reduceReplicate]
    exact Ret.drop (by rfl) ⟨by rw [hfail (fun h => h.1.2.2) (by simp [i5])], rfl⟩
   | true =>
   by_cases i6 : c.st = 3
   ·simp (maxSteps := 1000000) [hho, noHo, i6, ews, undef, onGP_none, condG_false, -List.reduceReplicate]
    refine call_x [] k4 rfl rfl ⟨rfl, rfl⟩ hho (by simp) (by decide) (by simp) (by simp) ?_
    by_cases i7 : v = (j : Int)
    case neg =>
     simp (maxSteps := 1000000) [hho, noHo, i7, -List.reduceReplicate]
     exact Ret.drop (by rfl) ⟨by rw [hfail (fun h => h.2) (by intro h; exact i7 ((hfi i6).2 (by simpa [i6] using h)))], rfl⟩
    have i7m := (hfi i6).1 i7
    simp (maxSteps := 1000000) [hho, noHo, i7, ew, -List.reduceReplicate]
    refine round_next (j + 1) ⟨by omega, ?_⟩ (by omega) ?_
    ·rw [hsn]
     simp only [Bool.and_eq_true, decide_eq_true_eq, colOk, Bool.or_eq_true, Bool.not_eq_true']
     exact ⟨⟨⟨by omega, by omega⟩, ⟨⟨i3, i4⟩, i5⟩⟩, .inr i7m⟩
    ·rw [if_pos i6] at hpu
     exact wk_of 1 1 (by simp) (by simp [hE, lens]) (by simp [tabA]) (by simp [livH, livO, AV.livL, AV.liv, wkL, wkV, List.range', tabA, idxA]) (by simp [livH, livO, AV.livL, AV.liv, wkL, wkV, List.range', slotsOf, hla, hpu])
   ·simp (maxSteps := 1000000) [hho, noHo, i6, ew, undef, onGP_none, condG_false, -List.reduceReplicate]
    refine round_next (j + 1) ⟨by omega, ?_⟩ (by omega) ?_
    ·rw [hsn]
     simp only [Bool.and_eq_true, decide_eq_true_eq, colOk, Bool.or_eq_true, Bool.not_eq_true']
     exact ⟨⟨⟨by omega, by omega⟩, ⟨⟨i3, i4⟩, i5⟩⟩, .inl (by simp [i6])⟩
    ·rw [if_neg i6, List.append_nil] at hpu
     exact wk_of 1 1 (by simp) (by simp [hE, lens]) (by simp [tabA]) (by simp [livH, livO, AV.livL, AV.liv, wkL, wkV, List.range', tabA, idxA]) (by simp [livH, livO, AV.livL, AV.liv, wkL, wkV, List.range', slotsOf, hla, hpu])
  ·obtain rfl : j = t.cols.length := by omega
   rw [List.take_length] at hI ⊢
   simp (maxSteps := 1000000) [slotsOf, tabA, hho, noHo, -List.reduceReplicate]
   exact cut_to () hI (wk_eq (by simp [hE, lens]) (by simp [tabA]) (by simp [livH, livO, AV.livL, AV.liv, wkL, wkV, List.range', slotsOf]))
end Go.Proofs.YthgoocdldnkogaaGreatDoor
