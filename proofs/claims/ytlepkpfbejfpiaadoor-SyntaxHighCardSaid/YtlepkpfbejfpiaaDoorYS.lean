import Derived.Test.YtlepkpfbejfpiaaDoorYR
import Derived.Test.YtlepkpfbejfpiaaDoorYI
namespace Go.Proofs.YtlepkpfbejfpiaaDoor
set_option linter.unusedVariables false
set_option linter.unusedSimpArgs false
open Go.RowKit
attribute [local simp] isCut_nil isCut_region isCut_seq isCut_block isCut_loop isCut_cond isCut_skip isCut_exit isCut_ret isCut_range swapK putK altK condK_bool pickP_bool stepP stepO onPure_some onPure_none onImpl_some onImpl_none stepC onGP_some onGP_none onGV_some condG mkG onIt_it nextP_ptr takeP_eq takeV_some takeV_none takeU_some takeU_none takeQ takeW_some takeN_none takeN_some takeG_some takeO_some altO_some pureV binV2 eqF eqOp ovlV ovl2 rowAt capV binV intBin strBin isSh shV fldV ixV sliceV slice3V loadAV nilV lenV callV unV convV viewS cellsH loadV fldCut AV.ung AV.ungs AV.gc AV.cells AS.ev AS.put anyS gcsV lens lnO gV guardV retK RetP_eq resV oneV anyRo loIx hiIx implO callP_clo evL gcsL clearV storeAV AS.push AS.setO appV appZ shortS copyV buildV partsV fillV srcV fzO okV isCell_c isCell_ptr isCell_sl isCell_fs isCell_fp isCell_clo rowZ_one rowZ_zero rowZ_2 rowZ_3 rowZ_4 rowZ_5 rowZ_6 rowZ_7 rowZ_8 rowZ_9 rowZ_10 rowZ_11 rowZ_12 noHo Value.oneCell' max2V min2V afterH putBack frzFrom frzO rebO backIx nilEq_sl nilEq_fs nilOp_eql nilOp_neq AV.reb AV.rebL
attribute [local simp ↓] runK_skip runK_region runK_draw runK_seq runK_cut runK_cond runK_block runK_loop runK_exit runK_label runK_goto runK_ret runK_range contK_nil contK_seq contK_seq_ret contK_seq_exit contK_seq_goto contK_block contK_block_ret contK_block_goto contK_block_exit runO_nil runO_cons roundK_exit roundK_ret roundK_goto exitK_ret cutK_ret cutK_exit runE_done runE_nil runE_take runE_alt condG_true condG_false
set_option maxRecDepth 10000
/-! ## SyntaxHigh -/
def bE : ExprS := .mk 1 0 ByteArray.empty ⟨0, 0, 0, ByteArray.empty⟩ ByteArray.empty { data := #[98] } false ⟨0, 0⟩ []
def upE (op : Bool) (e : ExprS) : ExprS := if op then .mk 2 0 { data := #[78, 79, 84] } ⟨0, 0, 0, ByteArray.empty⟩ ByteArray.empty ByteArray.empty false ⟨0, 0⟩ [e] else .mk 3 0 { data := #[65, 78, 68] } ⟨0, 0, 0, ByteArray.empty⟩ ByteArray.empty ByteArray.empty false ⟨0, 0⟩ [bE, e]
def hiE (op : Bool) : Nat → ExprS
  | 0 => e1F
  | n + 1 => upE op (hiE op n)
theorem hgt_up (op : Bool) (e : ExprS) (h : 1 ≤ hgt e) : hgt (upE op e) = hgt e + 1 := by
  rw [hgt_eq (upE op e)]
  cases op
  · have hb : hgt bE = 1 := by decide +kernel
    show max (hgt bE) (max (hgt e) 0) + 1 = hgt e + 1
    rw [hb]; omega
  · show max (hgt e) 0 + 1 = hgt e + 1
    omega
theorem hgt_hi (op : Bool) : ∀ n, hgt (hiE op n) = n + 1
  | 0 => by show hgt e1F = 1; decide +kernel
  | n + 1 => by rw [hiE, hgt_up op _ (by rw [hgt_hi op n]; omega), hgt_hi op n]
theorem calls_hi (op : Bool) : ∀ n, callsE (hiE op n) = false
  | 0 => by show callsE e1F = false; decide +kernel
  | n + 1 => by
    have hb : callsE bE = false := by decide +kernel
    have ih := calls_hi op n
    rw [hiE, callsE_eq]
    cases op
    · simp [upE, hb, ih]
    · simp [upE, ih]
theorem own_up (op : Bool) (e : ExprS) : ownOk (upE op e) = true := by
  cases op
  · have h1 : kindOk (upE false e) = true := by
      show memS binL { data := #[65, 78, 68] } = true
      decide +kernel
    have h2 : alikeB (upE false e) (bareE (upE false e)) = true := by
      rw [alike_bare]; rfl
    simp [ownOk, h1, h2]
  · have h1 : kindOk (upE true e) = true := by
      show (decide (({ data := #[78, 79, 84] } : ByteArray) = { data := #[78, 79, 84] }) || decide (({ data := #[78, 79, 84] } : ByteArray) = { data := #[45] })) = true
      rw [decide_eq_true rfl]; rfl
    have h2 : alikeB (upE true e) (bareE (upE true e)) = true := by
      rw [alike_bare]; rfl
    simp [ownOk, h1, h2]
theorem right_hi (op : Bool) : ∀ (n : Nat) (d : Nat), d ≤ 60 → rightE (d : Int) (hiE op n) = decide (d + n < 60)
  | 0, d, _ => by
    have h1 : ownOk e1F = true := by decide +kernel
    have h2 : kidsOk e1F = true := by decide +kernel
    rw [hiE, rightE_eq, h1, h2, Bool.eq_iff_iff]
    simp only [e1F, ExprS.kids_mk, List.all_nil, Bool.and_true, decide_eq_true_eq]
    omega
  | n + 1, d, hd => by
    rw [hiE, rightE_eq, own_up]
    have hk : kidsOk (upE op (hiE op n)) = true := by cases op <;> rfl
    rw [hk]
    by_cases h60 : d = 60
    · subst h60
      rw [Bool.eq_iff_iff]; simp
    have ih := right_hi op n (d + 1) (by omega)
    have e : ((d : Int) + 1) = ((d + 1 : Nat) : Int) := by omega
    rw [e]
    cases op
    · have hb := right_hi false 0 (d + 1) (by omega)
      have hb' : rightE ((d + 1 : Nat) : Int) bE = decide (d + 1 < 60) := by
        have h1 : ownOk bE = true := by decide +kernel
        have h2 : kidsOk bE = true := by decide +kernel
        rw [rightE_eq, h1, h2, Bool.eq_iff_iff]
        simp only [bE, ExprS.kids_mk, List.all_nil, Bool.and_true, decide_eq_true_eq]
        omega
      simp only [upE, Bool.false_eq_true, if_false, ExprS.kids_mk, List.all_cons, List.all_nil, Bool.and_true, ih, hb']
      rw [Bool.eq_iff_iff]
      simp only [Bool.and_eq_true, decide_eq_true_eq]
      omega
    · simp only [upE, if_true, ExprS.kids_mk, List.all_cons, List.all_nil, Bool.and_true, ih]
      rw [Bool.eq_iff_iff]
      simp only [Bool.and_eq_true, decide_eq_true_eq]
      omega
theorem fit_hi (op : Bool) : ∀ n, Fit (hiE op n)
  | 0 => fitF1
  | n + 1 => by
    have ih := fit_hi op n
    have hb : Fit bE := .leaf (by simp only [E9]; decide +kernel) rfl
    rw [hiE]
    cases op
    · exact .mk _ (by simp only [E9, upE, Bool.false_eq_true, if_false]; refine ⟨?_, ?_, ?_, ?_⟩ <;> (simp only [ExprS.op_mk, ExprS.val_mk, ExprS.tab_mk, ExprS.name_mk]; decide)) (by simp [upE]) (by simp [upE]; exact ⟨hb, ih⟩)
    · exact .mk _ (by simp only [E9, upE, if_true]; refine ⟨?_, ?_, ?_, ?_⟩ <;> (simp only [ExprS.op_mk, ExprS.val_mk, ExprS.tab_mk, ExprS.name_mk]; decide)) (by simp [upE]) (by simp [upE]; exact ih)
theorem exprA_cell (e : ExprS) : (∀ x ∈ exprA e, isCell x = true) ↔ True := iff_true_intro (List.all_eq_true.1 (show (exprA e).all isCell = true from rfl))
theorem exprA_D (e : ExprS) : (exprA e).all isD = true := by rw [← exprsA_one]; exact exprsD [e]
set_option maxHeartbeats 8000000 in
theorem high_w (n : Int) (hn : 0 ≤ n ∧ n ≤ 255) (op : Bool) : ACalls Tryd.prog 5 [.c (.int .u8 n), .c (.bool op)] [] (fun _ => false) (fun r h' => r = .c (.bool true)) := by
  refine acalls mixed Tryd.func5 rfl Tryd.ntmps5 rfl fun E hE hst hho => ?_
  obtain ⟨K, hK, hK99⟩ : ∃ K : Nat, IntKind.i64.wrap (n.tmod 100) = K ∧ K ≤ 99 := by
    refine ⟨n.toNat % 100, ?_, by omega⟩
    rw [Int.tmod_eq_emod_of_nonneg hn.1, IntWalk.i64_in _ (by omega)]
    omega
  simp (maxSteps := 1000000) [hho, noHo, undef, onGP_none, condG_false, -List.reduceReplicate]
  refine call_x [] first_w rfl rfl ⟨rfl, rfl⟩ hho (by simp) (by decide) (by simp) (by simp) ?_
  simp (maxSteps := 1000000) [hho, noHo, hK, undef, onGP_none, condG_false, -List.reduceReplicate]
  refine loop_k mixed (fun j : Nat => ⟨slotsOf 42 [(1, .c (.bool op)), (5, .ptr 0 0 13), (6, .c (.int .i64 (K : Nat))), (13, .c (.int .i64 (K : Nat))), (14, .c (.int .i64 (j : Nat)))], [.o .box (exprA (hiE op j))]⟩) (fun j => K - j) (fun j => j ≤ K) 0 (Nat.zero_le _) ?_ ?_
  · refine Wk.trans (wk_nils 0 (cs' := exprA (hiE op 0)) rfl (by repeat (first | exact NilL.nil | refine NilL.slice _ ?_ | refine NilL.same _ ?_))) ?_
    exact wk_eq (by simp [hE, lens]) rfl (by simp [livH, livO, AV.livL, AV.liv, wkL, wkV, List.range', slotsOf])
  · intro j hj
    by_cases hjl : j < K
    · have ew : IntKind.i64.wrap ((j : Int) + 1) = (j + 1 : Nat) := by rw [IntWalk.i64_in _ (by omega)]; rfl
      obtain ⟨e, he⟩ : ∃ e, e = hiE op j := ⟨_, rfl⟩
      have hn1 : hiE op (j + 1) = upE op e := by rw [he]; rfl
      have hd13 : List.drop 13 (exprA e) = [] := rfl
      rw [← he]
      cases op with
      | true =>
        simp (maxSteps := 1000000) [hho, noHo, slotsOf, hjl, ew, exprA_cell, hd13, undef, onGP_none, condG_false, -List.reduceReplicate]
        refine round_next (j + 1) (by omega) (by omega) ?_
        simp only [hn1]
        refine Wk.trans (wk_data 0 12 1 (by rw [hho]; rfl) (by decide) rfl rfl rfl rfl rfl (by unfold maxLen; decide) (exprA_D e)) ?_
        exact wk_of 1 1 (by simp) (by simp [hE, lens]) (by simp [upE, exprA, exprsA_one]) (by simp [livH, livO, AV.livL, AV.liv, wkL, wkV, List.range', livL_isD _ _ (exprA_D _)]) (by simp [livH, livO, AV.livL, AV.liv, wkL, wkV, List.range', slotsOf])
      | false =>
        simp (maxSteps := 1000000) [hho, noHo, slotsOf, hjl, ew, exprA_cell, hd13, undef, onGP_none, condG_false, -List.reduceReplicate]
        refine round_next (j + 1) (by omega) (by omega) ?_
        simp only [hn1]
        refine Wk.trans (wk_nils 1 (cs' := exprA bE ++ exprA e) rfl (by repeat (first | exact NilL.nil | refine NilL.slice _ ?_ | refine NilL.same _ ?_))) ?_
        refine Wk.trans (wk_data 0 12 1 (by rw [hho]; rfl) (by decide) rfl rfl rfl rfl rfl (by unfold maxLen; decide) (by rw [List.all_append, exprA_D, exprA_D]; rfl)) ?_
        exact wk_of 1 1 (by simp) (by simp [hE, lens]) (by simp [upE, exprA, exprsA_eq]) (by simp [livH, livO, AV.livL, AV.liv, wkL, wkV, List.range', livL_isD _ _ (exprA_D _)]) (by simp [livH, livO, AV.livL, AV.liv, wkL, wkV, List.range', slotsOf])
    · obtain rfl : j = K := by omega
      have c1 := height_w (hiE op j) (fit_hi op j) (by rw [hgt_hi]; omega)
      rw [hgt_hi] at c1
      have c2 := rightExpr_w (hiE op j) (fit_hi op j)
      have h2 := right_hi op j 0 (by omega)
      have e0 : ((0 : Nat) : Int) = 0 := rfl
      rw [e0, Nat.zero_add] at h2
      rw [h2] at c2
      have c3 := calls_w (hiE op j) (fit_hi op j)
      rw [calls_hi] at c3
      have ew : IntKind.i64.wrap ((j : Int) + 1) = (j + 1 : Nat) := by rw [IntWalk.i64_in _ (by omega)]; rfl
      obtain ⟨e, he⟩ : ∃ e, e = hiE op j := ⟨_, rfl⟩
      rw [← he] at c1 c2 c3
      rw [← he]
      by_cases h60 : j < 60
      · have h60I : (j : Int) < 60 := by omega
        rw [decide_eq_true h60] at c2
        simp (maxSteps := 1000000) [hho, noHo, h60, h60I, slotsOf, ew, undef, onGP_none, condG_false, -List.reduceReplicate]
        refine call_x [] c1 rfl rfl ⟨rfl, rfl⟩ hho (by simp) (by decide) (by simp) (by simp) ?_
        simp (maxSteps := 1000000) [hho, noHo, h60, h60I, ew, undef, onGP_none, condG_false, -List.reduceReplicate]
        refine call_x [] c2 rfl rfl ⟨rfl, rfl⟩ hho (by simp) (by decide) (by simp) (by simp) ?_
        simp (maxSteps := 1000000) [hho, noHo, h60, h60I, ew, undef, onGP_none, condG_false, -List.reduceReplicate]
        refine call_x [] c3 rfl rfl ⟨rfl, rfl⟩ hho (by simp) (by decide) (by simp) (by simp) ?_
        simp (maxSteps := 1000000) [hho, noHo, h60, h60I, ew, undef, onGP_none, condG_false, -List.reduceReplicate]
        exact Ret.drop (by rfl) rfl
      · have h60I : ¬ (j : Int) < 60 := by omega
        rw [decide_eq_false h60] at c2
        simp (maxSteps := 1000000) [hho, noHo, h60, h60I, slotsOf, ew, undef, onGP_none, condG_false, -List.reduceReplicate]
        refine call_x [] c1 rfl rfl ⟨rfl, rfl⟩ hho (by simp) (by decide) (by simp) (by simp) ?_
        simp (maxSteps := 1000000) [hho, noHo, h60, h60I, ew, undef, onGP_none, condG_false, -List.reduceReplicate]
        refine call_x [] c2 rfl rfl ⟨rfl, rfl⟩ hho (by simp) (by decide) (by simp) (by simp) ?_
        simp (maxSteps := 1000000) [hho, noHo, h60, h60I, ew, undef, onGP_none, condG_false, -List.reduceReplicate]
        refine call_x [] c3 rfl rfl ⟨rfl, rfl⟩ hho (by simp) (by decide) (by simp) (by simp) ?_
        simp (maxSteps := 1000000) [hho, noHo, h60, h60I, ew, undef, onGP_none, condG_false, -List.reduceReplicate]
        exact Ret.drop (by rfl) rfl
end Go.Proofs.YtlepkpfbejfpiaaDoor
