import Derived.Test.YtlepkpfbejfpiaaDoorYH
namespace Go.Proofs.YtlepkpfbejfpiaaDoor
set_option linter.unusedVariables false
set_option linter.unusedSimpArgs false
open Go.RowKit
attribute [local simp] isCut_nil isCut_region isCut_seq isCut_block isCut_loop isCut_cond isCut_skip isCut_exit isCut_ret isCut_range swapK putK altK condK_bool pickP_bool stepP stepO onPure_some onPure_none onImpl_some onImpl_none stepC onGP_some onGP_none onGV_some condG mkG onIt_it nextP_ptr takeP_eq takeV_some takeV_none takeU_some takeU_none takeQ takeW_some takeN_none takeN_some takeG_some takeO_some altO_some pureV binV2 eqF eqOp ovlV ovl2 rowAt capV binV intBin strBin isSh shV fldV ixV sliceV slice3V loadAV nilV lenV callV unV convV viewS cellsH loadV fldCut AV.ung AV.ungs AV.gc AV.cells AS.ev AS.put anyS gcsV lens lnO gV guardV retK RetP_eq resV oneV anyRo loIx hiIx implO callP_clo evL gcsL clearV storeAV AS.push AS.setO appV appZ shortS copyV buildV partsV fillV srcV fzO okV isCell_c isCell_ptr isCell_sl isCell_fs isCell_fp isCell_clo rowZ_one rowZ_zero rowZ_2 rowZ_3 rowZ_4 rowZ_5 rowZ_6 rowZ_7 rowZ_8 rowZ_9 rowZ_10 rowZ_11 rowZ_12 noHo Value.oneCell' max2V min2V afterH putBack frzFrom frzO rebO backIx nilEq_sl nilEq_fs nilOp_eql nilOp_neq AV.reb AV.rebL
attribute [local simp ↓] runK_skip runK_region runK_draw runK_seq runK_cut runK_cond runK_block runK_loop runK_exit runK_label runK_goto runK_ret runK_range contK_nil contK_seq contK_seq_ret contK_seq_exit contK_seq_goto contK_block contK_block_ret contK_block_goto contK_block_exit runO_nil runO_cons roundK_exit roundK_ret roundK_goto exitK_ret cutK_ret cutK_exit runE_done runE_nil runE_take runE_alt condG_true condG_false
set_option maxRecDepth 10000
/-! ## The reference's Expr -/
def bareOk (x : ExprS) : Bool := (decide (x.kind = 0) || valEq x.val ⟨0, 0, 0, ByteArray.empty⟩) && (decide (x.kind = 1) || (decide (x.tab = ByteArray.empty) && decide (x.name = ByteArray.empty))) && (decide (x.kind = 4) || decide (x.neg = false)) && (decide (x.kind = 6) || typEq x.ty ⟨0, 0⟩) && (decide (x.kind = 2) || decide (x.kind = 3) || decide (x.kind = 5) || decide (x.op = ByteArray.empty))
theorem valEq_refl (v : ValS) : valEq v v = true := by simp [valEq]
theorem typEq_refl (v : TypS) : typEq v v = true := by simp [typEq]
theorem alike_bare (x : ExprS) : alikeB x (bareE x) = bareOk x := by
  by_cases k0 : x.kind = 0
  · simp [alikeB, bareE, bareOk, k0, valEq_refl]; grind
  by_cases k1 : x.kind = 1
  · simp [alikeB, bareE, bareOk, k1]; grind
  by_cases k2 : x.kind = 2
  · simp [alikeB, bareE, bareOk, k2]; grind
  by_cases k3 : x.kind = 3
  · simp [alikeB, bareE, bareOk, k3]; grind
  by_cases k4 : x.kind = 4
  · simp [alikeB, bareE, bareOk, k4]; grind
  by_cases k5 : x.kind = 5
  · simp [alikeB, bareE, bareOk, k5]; grind
  by_cases k6 : x.kind = 6
  · simp [alikeB, bareE, bareOk, k6, typEq_refl]; grind
  simp [alikeB, bareE, bareOk, k0, k1, k2, k3, k4, k5, k6]; grind
set_option maxHeartbeats 8000000 in
theorem expr_ref (x : ExprS) (hx : Fit x) (d : Int) (hd : 0 ≤ d ∧ d ≤ 60) : ACalls Tryd.prog 9 [.agg (exprA x), .c (.int .i64 d)] [] (fun _ => false) (fun r h' => r = .c (.bool (rightE d x)) ∧ h' = []) := by
  induction x using ExprS.ind generalizing d with
  | _ x ih =>
  refine acallsC [14] mixed Tryd.func9 rfl Tryd.ntmps9 rfl fun E hE hst hho => ?_
  have hl := hx.len
  rw [rightE_eq d x]
  by_cases h60 : d = 60
  · simp (maxSteps := 1000000) [hho, noHo, exprA, h60, -List.reduceReplicate]
    exact Ret.drop (by rfl) ⟨by simp, rfl⟩
  have hlt : decide (d < 60) = true := by simp; omega
  rw [hlt, Bool.true_and]
  simp (maxSteps := 1000000) [hho, noHo, exprA, h60, -List.reduceReplicate]
  refine loop_kc [14] mixed (fun j : Nat => ⟨slotsOf 203 [(1, .c (.int .i64 d)), (2, .ptr 0 0 13), (12, .fs 13 x.kids.length (exprsA x.kids)), (13, .c (.int .i64 x.kids.length)), (14, .c (.int .i64 (j : Nat)))], [.o .box (exprA x)]⟩) (fun j => x.kids.length - j) (fun j => j ≤ x.kids.length ∧ ∀ k (hk : k < x.kids.length), k < j → rightE (d + 1) x.kids[k] = true) 0 ⟨Nat.zero_le _, fun k _ h => by omega⟩ ?_ ?_
  · exact wk_eq (by simp [hE, lens]) (by simp [exprA]) (by simp [livH, livO, AV.livL, AV.liv, wkL, wkV, List.range', slotsOf])
  · rintro j ⟨hj, hI⟩
    by_cases hjl : j < x.kids.length
    · have hat := exprsA_at x.kids j hjl
      have ew : IntKind.i64.wrap ((j : Int) + 1) = (j + 1 : Nat) := by rw [IntWalk.i64_in _ (by omega)]; rfl
      have ewd : IntKind.i64.wrap (d + 1) = d + 1 := IntWalk.i64_in _ (by omega)
      have e0 : j * 13 + 13 ≤ x.kids.length * 13 := by omega
      have hc := ih _ (List.getElem_mem hjl) (hx.kid _ (List.getElem_mem hjl)) (d + 1) (by omega)
      have hall : rightE (d + 1) x.kids[j] = false → x.kids.all (rightE (d + 1)) = false := fun h => by
        rw [Bool.eq_false_iff]
        intro ha
        rw [List.all_eq_true.1 ha _ (List.getElem_mem hjl)] at h; cases h
      have hI1 : rightE (d + 1) x.kids[j] = true → ∀ k (hk : k < x.kids.length), k < j + 1 → rightE (d + 1) x.kids[k] = true := fun h k hk hkj => by
        by_cases e : k = j
        · subst e; exact h
        · exact hI k hk (by omega)
      obtain ⟨y, hy⟩ : ∃ y, y = x.kids[j] := ⟨_, rfl⟩
      rw [← hy] at hat hc hall hI1
      cases hC : rightE (d + 1) y with
      | false =>
        rw [hC] at hc
        simp (maxSteps := 1000000) [slotsOf, hho, noHo, hjl, hat, e0, exprA, ewd, -List.reduceReplicate]
        refine call_x [] hc rfl rfl ⟨rfl, rfl⟩ hho (by simp) (by decide) (by simp) (by simp) ?_
        simp (maxSteps := 1000000) [hho, noHo, ew, -List.reduceReplicate]
        exact Ret.drop (by rfl) ⟨by rw [hall hC, Bool.and_false], rfl⟩
      | true =>
        rw [hC] at hc
        simp (maxSteps := 1000000) [slotsOf, hho, noHo, hjl, hat, e0, exprA, ewd, -List.reduceReplicate]
        refine call_x [] hc rfl rfl ⟨rfl, rfl⟩ hho (by simp) (by decide) (by simp) (by simp) ?_
        simp (maxSteps := 1000000) [hho, noHo, ew, -List.reduceReplicate]
        refine round_next (j + 1) ⟨by omega, hI1 hC⟩ (by omega) ?_
        exact wk_of 1 1 (by simp) (by simp [hE, lens]) (by simp [exprA]) (by simp [livH, livO, AV.livL, AV.liv, wkL, wkV, List.range']) (by simp [livH, livO, AV.livL, AV.liv, wkL, wkV, List.range', slotsOf])
    · obtain rfl : j = x.kids.length := by omega
      have hall : x.kids.all (rightE (d + 1)) = true := by
        rw [List.all_eq_true]
        intro y hy
        obtain ⟨i, hi, rfl⟩ := List.getElem_of_mem hy
        exact hI i hi hi
      rw [hall, Bool.and_true]
      clear hall hI ih hj hjl hlt hd
      have ho : ownOk x = (kindOk x && bareOk x) := by rw [ownOk, alike_bare]
      have hem : ByteArray.empty = { data := #[] } := rfl
      simp (maxSteps := 1000000) [slotsOf, hho, noHo, exprA, undef, onGP_none, condG_false, -List.reduceReplicate]
      refine ⟨by grind, by grind, by grind, by grind, by grind, by grind, by grind, ?_⟩
      split
      · rename_i h
        have hB : bareOk x = false := by
          rw [Bool.eq_false_iff]; intro hB; simp [bareOk, valEq, typEq] at hB; grind
        exact Ret.drop (by rfl) ⟨by rw [ho, hB]; simp, rfl⟩
      rename_i hC
      refine seq_cut mixed [] (fun _ : Unit => ⟨slotsOf 203 [(2, .ptr 0 0 13), (7, .c (.int .i64 x.kids.length))], [.o .box (exprA x)]⟩) (fun _ => bareOk x = true) ?_ ?_
      · intro _ hB
        have hem : ByteArray.empty = { data := #[] } := rfl
        obtain ⟨he1, he2, he3, he4⟩ := hx.e9
        have j0 : ∀ n : Nat, ((x.kids.length : Int) = n) = (x.kids.length = n) := fun n => propext (by omega)
        have i1 : ((x.kids.length : Int) = 1) = (x.kids.length = 1) := propext (by omega)
        have i2 : ((x.kids.length : Int) = 2) = (x.kids.length = 2) := propext (by omega)
        by_cases k0 : x.kind = 0
        · rw [ho, hB, Bool.and_true]
          simp [bareOk, k0, valEq, typEq] at hB
          have o : x.op = { data := #[] } := by grind
          by_cases kd : x.kids = []
          · have hv := val_ref x.val he2
            have hk : (kindOk x && kidsOk x) = litOk x.val := by simp [kindOk, kidsOk, k0, kd]
            rw [hk]
            cases hV : valOk x.val with
            | false =>
              rw [hV] at hv
              simp (maxSteps := 1000000) [slotsOf, hho, noHo, exprA, undef, onGP_none, condG_false, k0, o, kd, -List.reduceReplicate]
              refine call_x [] hv rfl rfl ⟨rfl, rfl⟩ hho (by simp) (by decide) (by simp) (by simp) ?_
              simp (maxSteps := 1000000) [hho, noHo, undef, onGP_none, condG_false, -List.reduceReplicate]
              exact Ret.drop (by rfl) ⟨by simp [litOk, hV], rfl⟩
            | true =>
              rw [hV] at hv
              have hs : x.val.k = 3 → 0 ≤ x.val.s := fun h => by
                simp [valOk, h, scaleOk] at hV; omega
              by_cases v2 : x.val.k = 2
              · simp (maxSteps := 1000000) [slotsOf, hho, noHo, exprA, undef, onGP_none, condG_false, k0, o, kd, v2, -List.reduceReplicate]
                refine call_x [] hv rfl rfl ⟨by simp [valA, v2], rfl⟩ hho (by simp) (by decide) (by simp) (by simp) ?_
                by_cases n0 : x.val.n < 0
                · simp (maxSteps := 1000000) [hho, noHo, v2, n0, undef, onGP_none, condG_false, -List.reduceReplicate]
                  exact Ret.drop (by rfl) ⟨by simp [litOk, hV, v2]; omega, rfl⟩
                · simp (maxSteps := 1000000) [hho, noHo, v2, n0, undef, onGP_none, condG_false, -List.reduceReplicate]
                  exact Ret.drop (by rfl) ⟨by simp [litOk, hV, v2]; omega, rfl⟩
              · by_cases v3 : x.val.k = 3
                · have hs3 := hs v3
                  simp (maxSteps := 1000000) [slotsOf, hho, noHo, exprA, undef, onGP_none, condG_false, k0, o, kd, v3, -List.reduceReplicate]
                  refine call_x [] hv rfl rfl ⟨by simp [valA, v3], rfl⟩ hho (by simp) (by decide) (by simp) (by simp) ?_
                  by_cases n0 : x.val.n < 0
                  · simp (maxSteps := 1000000) [hho, noHo, v3, n0, undef, onGP_none, condG_false, -List.reduceReplicate]
                    exact Ret.drop (by rfl) ⟨by simp [litOk, hV, v3]; omega, rfl⟩
                  · by_cases s0 : x.val.s = 0
                    · simp (maxSteps := 1000000) [hho, noHo, v3, n0, s0, undef, onGP_none, condG_false, -List.reduceReplicate]
                      exact Ret.drop (by rfl) ⟨by simp [litOk, hV, v3, s0], rfl⟩
                    · have s1 : 0 < x.val.s := by omega
                      have n1 : 0 ≤ x.val.n := by omega
                      simp (maxSteps := 1000000) [hho, noHo, v3, n0, s0, undef, onGP_none, condG_false, -List.reduceReplicate]
                      exact Ret.drop (by rfl) ⟨by simp [litOk, hV, v3, s1, n1], rfl⟩
                · simp (maxSteps := 1000000) [slotsOf, hho, noHo, exprA, undef, onGP_none, condG_false, k0, o, kd, v2, v3, -List.reduceReplicate]
                  refine call_x [] hv rfl rfl ⟨rfl, rfl⟩ hho (by simp) (by decide) (by simp) (by simp) ?_
                  simp (maxSteps := 1000000) [hho, noHo, v2, v3, undef, onGP_none, condG_false, -List.reduceReplicate]
                  exact Ret.drop (by rfl) ⟨by simp [litOk, hV, v2, v3], rfl⟩
          · have hk : (kindOk x && kidsOk x) = false := by simp [kidsOk, k0, kd]
            rw [hk]
            simp (maxSteps := 1000000) [slotsOf, hho, noHo, exprA, undef, onGP_none, condG_false, k0, o, kd, -List.reduceReplicate]
            exact Ret.drop (by rfl) ⟨rfl, rfl⟩
        by_cases k1 : x.kind = 1
        · rw [ho, hB, Bool.and_true]
          simp [bareOk, k1, valEq, typEq] at hB
          have o : x.op = { data := #[] } := by grind
          have hl1 := name_ref x.name he4
          have hl2 := name_ref x.tab he3
          by_cases kd : x.kids = []
          · have hk : (kindOk x && kidsOk x) = (nameOk x.name && (decide (x.tab = ByteArray.empty) || nameOk x.tab)) := by simp [kindOk, kidsOk, k1, kd]
            rw [hk]
            cases hN : nameOk x.name with
            | false =>
              rw [hN] at hl1
              simp (maxSteps := 1000000) [slotsOf, hho, noHo, exprA, undef, onGP_none, condG_false, k1, o, kd, -List.reduceReplicate]
              refine call_x [] hl1 rfl rfl ⟨rfl, rfl⟩ hho (by simp) (by decide) (by simp) (by simp) ?_
              simp (maxSteps := 1000000) [hho, noHo, undef, onGP_none, condG_false, -List.reduceReplicate]
              exact Ret.drop (by rfl) ⟨by simp, rfl⟩
            | true =>
              rw [hN] at hl1
              by_cases hT : x.tab = { data := #[] }
              · have hT2 : x.tab = ByteArray.empty := hT
                simp (maxSteps := 1000000) [slotsOf, hho, noHo, exprA, undef, onGP_none, condG_false, k1, o, kd, hT, -List.reduceReplicate]
                refine call_x [] hl1 rfl rfl ⟨rfl, rfl⟩ hho (by simp) (by decide) (by simp) (by simp) ?_
                simp (maxSteps := 1000000) [hho, noHo, hT, undef, onGP_none, condG_false, -List.reduceReplicate]
                exact Ret.drop (by rfl) ⟨by simp; exact .inl rfl, rfl⟩
              · have hT2 : ¬ x.tab = ByteArray.empty := hT
                cases hN2 : nameOk x.tab with
                | false =>
                  rw [hN2] at hl2
                  simp (maxSteps := 1000000) [slotsOf, hho, noHo, exprA, undef, onGP_none, condG_false, k1, o, kd, hT, -List.reduceReplicate]
                  refine call_x [] hl1 rfl rfl ⟨rfl, rfl⟩ hho (by simp) (by decide) (by simp) (by simp) ?_
                  simp (maxSteps := 1000000) [hho, noHo, hT, undef, onGP_none, condG_false, -List.reduceReplicate]
                  refine call_x [] hl2 rfl rfl ⟨rfl, rfl⟩ hho (by simp) (by decide) (by simp) (by simp) ?_
                  simp (maxSteps := 1000000) [hho, noHo, hT, undef, onGP_none, condG_false, -List.reduceReplicate]
                  exact Ret.drop (by rfl) ⟨by simp [hT2], rfl⟩
                | true =>
                  rw [hN2] at hl2
                  simp (maxSteps := 1000000) [slotsOf, hho, noHo, exprA, undef, onGP_none, condG_false, k1, o, kd, hT, -List.reduceReplicate]
                  refine call_x [] hl1 rfl rfl ⟨rfl, rfl⟩ hho (by simp) (by decide) (by simp) (by simp) ?_
                  simp (maxSteps := 1000000) [hho, noHo, hT, undef, onGP_none, condG_false, -List.reduceReplicate]
                  refine call_x [] hl2 rfl rfl ⟨rfl, rfl⟩ hho (by simp) (by decide) (by simp) (by simp) ?_
                  simp (maxSteps := 1000000) [hho, noHo, hT, undef, onGP_none, condG_false, -List.reduceReplicate]
                  exact Ret.drop (by rfl) ⟨by simp [hT2], rfl⟩
          · have hk : (kindOk x && kidsOk x) = false := by simp [kidsOk, k1, kd]
            rw [hk]
            simp (maxSteps := 1000000) [slotsOf, hho, noHo, exprA, undef, onGP_none, condG_false, k1, o, kd, -List.reduceReplicate]
            exact Ret.drop (by rfl) ⟨rfl, rfl⟩
        by_cases k2 : x.kind = 2
        · rw [ho, hB, Bool.and_true]
          simp [bareOk, k2, valEq, typEq] at hB
          by_cases kd : x.kids.length = 1
          · have kdI : (x.kids.length : Int) = 1 := by omega
            by_cases o1 : x.op = { data := #[78, 79, 84] }
            · have hk : (kindOk x && kidsOk x) = true := by simp [kindOk, kidsOk, k2, kd, o1]
              rw [hk]
              simp (maxSteps := 1000000) [slotsOf, hho, noHo, exprA, undef, onGP_none, condG_false, k2, kdI, o1, -List.reduceReplicate]
              exact Ret.drop (by rfl) ⟨rfl, rfl⟩
            · by_cases o2 : x.op = { data := #[45] }
              · have hk : (kindOk x && kidsOk x) = true := by simp [kindOk, kidsOk, k2, kd, o2]
                rw [hk]
                simp (maxSteps := 1000000) [slotsOf, hho, noHo, exprA, undef, onGP_none, condG_false, k2, kdI, o2, -List.reduceReplicate]
                exact Ret.drop (by rfl) ⟨rfl, rfl⟩
              · have hk : (kindOk x && kidsOk x) = false := by simp [kindOk, kidsOk, k2, kd, o1, o2]
                rw [hk]
                simp (maxSteps := 1000000) [slotsOf, hho, noHo, exprA, undef, onGP_none, condG_false, k2, kdI, o1, o2, -List.reduceReplicate]
                exact Ret.drop (by rfl) ⟨rfl, rfl⟩
          · have kdI : ¬ (x.kids.length : Int) = 1 := by omega
            have hk : (kindOk x && kidsOk x) = false := by simp [kidsOk, k2, kd]
            rw [hk]
            simp (maxSteps := 1000000) [slotsOf, hho, noHo, exprA, undef, onGP_none, condG_false, k2, kdI, -List.reduceReplicate]
            exact Ret.drop (by rfl) ⟨rfl, rfl⟩
        by_cases k3 : x.kind = 3
        · rw [ho, hB, Bool.and_true]
          simp [bareOk, k3, valEq, typEq] at hB
          have hw := word_ref x.op binL (by decide)
          by_cases kd : x.kids.length = 2
          · have kdI : (x.kids.length : Int) = 2 := by omega
            have hk : (kindOk x && kidsOk x) = memS binL x.op := by simp [kindOk, kidsOk, k3, kd]
            rw [hk]
            simp (maxSteps := 1000000) [slotsOf, hho, noHo, exprA, undef, onGP_none, condG_false, k3, kdI, rowZ_13, -List.reduceReplicate]
            refine call_f [] (fun k => k == 1) hw rfl rfl ⟨rfl, rfl⟩ hho (by simp) (by decide) (by simp) ?_ (by simp) ?_
            · simp; unfold maxLen; decide
            simp (maxSteps := 1000000) [hho, noHo, undef, onGP_none, condG_false, -List.reduceReplicate]
            refine Ret.sel [] (fun _ => false) (ho := by rfl) (ha := by rfl) ?_ ?_ (by decide) (by simp) (by simp) ⟨rfl, rfl⟩ <;> simp
          · have kdI : ¬ (x.kids.length : Int) = 2 := by omega
            have hk : (kindOk x && kidsOk x) = false := by simp [kidsOk, k3, kd]
            rw [hk]
            simp (maxSteps := 1000000) [slotsOf, hho, noHo, exprA, undef, onGP_none, condG_false, k3, kdI, -List.reduceReplicate]
            exact Ret.drop (by rfl) ⟨rfl, rfl⟩
        by_cases k4 : x.kind = 4
        · rw [ho, hB, Bool.and_true]
          simp [bareOk, k4, valEq, typEq] at hB
          have o : x.op = { data := #[] } := by grind
          have hk : (kindOk x && kidsOk x) = decide ((x.kids.length : Int) = 1) := by simp only [kindOk, kidsOk, k4, i1]; simp
          rw [hk]
          simp (maxSteps := 1000000) [slotsOf, hho, noHo, exprA, undef, onGP_none, condG_false, k4, o, -List.reduceReplicate]
          exact Ret.drop (by rfl) ⟨rfl, rfl⟩
        by_cases k5 : x.kind = 5
        · rw [ho, hB, Bool.and_true]
          simp [bareOk, k5, valEq, typEq] at hB
          have hw := word_ref x.op callL (by decide)
          by_cases kd : x.kids.length = 1
          · have kdI : (x.kids.length : Int) = 1 := by omega
            have hk : (kindOk x && kidsOk x) = memS callL x.op := by simp [kindOk, kidsOk, k5, kd]
            rw [hk]
            cases hW : memS callL x.op with
            | false =>
              rw [hW] at hw
              simp (maxSteps := 1000000) [slotsOf, hho, noHo, exprA, undef, onGP_none, condG_false, k5, kdI, -List.reduceReplicate]
              refine call_f [] (fun k => k == 1) hw rfl rfl ⟨rfl, rfl⟩ hho (by simp) (by decide) (by simp) ?_ (by simp) ?_
              · simp; unfold maxLen; decide
              simp (maxSteps := 1000000) [hho, noHo, kdI, undef, onGP_none, condG_false, -List.reduceReplicate]
              refine Ret.sel [] (fun _ => false) (ho := by rfl) (ha := by rfl) ?_ ?_ (by decide) (by simp) (by simp) ⟨rfl, rfl⟩ <;> simp
            | true =>
              rw [hW] at hw
              simp (maxSteps := 1000000) [slotsOf, hho, noHo, exprA, undef, onGP_none, condG_false, k5, kdI, -List.reduceReplicate]
              refine call_f [] (fun k => k == 1) hw rfl rfl ⟨rfl, rfl⟩ hho (by simp) (by decide) (by simp) ?_ (by simp) ?_
              · simp; unfold maxLen; decide
              simp (maxSteps := 1000000) [hho, noHo, kdI, undef, onGP_none, condG_false, -List.reduceReplicate]
              refine Ret.sel [] (fun _ => false) (ho := by rfl) (ha := by rfl) ?_ ?_ (by decide) (by simp) (by simp) ⟨rfl, rfl⟩ <;> simp
          · have kdI : ¬ (x.kids.length : Int) = 1 := by omega
            by_cases k0' : x.kids = []
            · by_cases o1 : x.op = { data := #[67, 79, 85, 78, 84] }
              · have hW : memS callL x.op = true := by rw [o1]; decide
                have hk : (kindOk x && kidsOk x) = true := by simp [kindOk, kidsOk, k5, k0', hW, o1]; decide
                rw [hk]
                rw [hW] at hw
                simp (maxSteps := 1000000) [slotsOf, hho, noHo, exprA, undef, onGP_none, condG_false, k5, kdI, -List.reduceReplicate]
                refine call_f [] (fun k => k == 1) hw rfl rfl ⟨rfl, rfl⟩ hho (by simp) (by decide) (by simp) ?_ (by simp) ?_
                · simp; unfold maxLen; decide
                simp (maxSteps := 1000000) [hho, noHo, kdI, k0', o1, undef, onGP_none, condG_false, -List.reduceReplicate]
                refine Ret.sel [] (fun _ => false) (ho := by rfl) (ha := by rfl) ?_ ?_ (by decide) (by simp) (by simp) ⟨rfl, rfl⟩ <;> simp
              · have hk : (kindOk x && kidsOk x) = false := by simp [kindOk, kidsOk, k5, k0', o1]
                rw [hk]
                cases hW : memS callL x.op with
                | false =>
                  rw [hW] at hw
                  simp (maxSteps := 1000000) [slotsOf, hho, noHo, exprA, undef, onGP_none, condG_false, k5, kdI, -List.reduceReplicate]
                  refine call_f [] (fun k => k == 1) hw rfl rfl ⟨rfl, rfl⟩ hho (by simp) (by decide) (by simp) ?_ (by simp) ?_
                  · simp; unfold maxLen; decide
                  simp (maxSteps := 1000000) [hho, noHo, kdI, k0', o1, undef, onGP_none, condG_false, -List.reduceReplicate]
                  refine Ret.sel [] (fun _ => false) (ho := by rfl) (ha := by rfl) ?_ ?_ (by decide) (by simp) (by simp) ⟨rfl, rfl⟩ <;> simp
                | true =>
                  rw [hW] at hw
                  simp (maxSteps := 1000000) [slotsOf, hho, noHo, exprA, undef, onGP_none, condG_false, k5, kdI, -List.reduceReplicate]
                  refine call_f [] (fun k => k == 1) hw rfl rfl ⟨rfl, rfl⟩ hho (by simp) (by decide) (by simp) ?_ (by simp) ?_
                  · simp; unfold maxLen; decide
                  simp (maxSteps := 1000000) [hho, noHo, kdI, k0', o1, undef, onGP_none, condG_false, -List.reduceReplicate]
                  refine Ret.sel [] (fun _ => false) (ho := by rfl) (ha := by rfl) ?_ ?_ (by decide) (by simp) (by simp) ⟨rfl, rfl⟩ <;> simp
            · have hk : (kindOk x && kidsOk x) = false := by simp [kindOk, kidsOk, k5, k0', kd]
              rw [hk]
              cases hW : memS callL x.op with
              | false =>
                rw [hW] at hw
                simp (maxSteps := 1000000) [slotsOf, hho, noHo, exprA, undef, onGP_none, condG_false, k5, kdI, -List.reduceReplicate]
                refine call_f [] (fun k => k == 1) hw rfl rfl ⟨rfl, rfl⟩ hho (by simp) (by decide) (by simp) ?_ (by simp) ?_
                · simp; unfold maxLen; decide
                simp (maxSteps := 1000000) [hho, noHo, kdI, k0', undef, onGP_none, condG_false, -List.reduceReplicate]
                refine Ret.sel [] (fun _ => false) (ho := by rfl) (ha := by rfl) ?_ ?_ (by decide) (by simp) (by simp) ⟨rfl, rfl⟩ <;> simp
              | true =>
                rw [hW] at hw
                simp (maxSteps := 1000000) [slotsOf, hho, noHo, exprA, undef, onGP_none, condG_false, k5, kdI, -List.reduceReplicate]
                refine call_f [] (fun k => k == 1) hw rfl rfl ⟨rfl, rfl⟩ hho (by simp) (by decide) (by simp) ?_ (by simp) ?_
                · simp; unfold maxLen; decide
                simp (maxSteps := 1000000) [hho, noHo, kdI, k0', undef, onGP_none, condG_false, -List.reduceReplicate]
                refine Ret.sel [] (fun _ => false) (ho := by rfl) (ha := by rfl) ?_ ?_ (by decide) (by simp) (by simp) ⟨rfl, rfl⟩ <;> simp
        by_cases k6 : x.kind = 6
        · rw [ho, hB, Bool.and_true]
          simp [bareOk, k6, valEq, typEq] at hB
          have o : x.op = { data := #[] } := by grind
          have ht := type_ref x.ty
          by_cases kd : x.kids.length = 1
          · have kdI : (x.kids.length : Int) = 1 := by omega
            have hk : (kindOk x && kidsOk x) = typOk x.ty := by simp [kindOk, kidsOk, k6, kd]
            rw [hk]
            simp (maxSteps := 1000000) [slotsOf, hho, noHo, exprA, undef, onGP_none, condG_false, k6, kdI, o, -List.reduceReplicate]
            refine call_x [] ht rfl rfl ⟨rfl, rfl⟩ hho (by simp) (by decide) (by simp) (by simp) ?_
            simp (maxSteps := 1000000) [hho, noHo, undef, onGP_none, condG_false, -List.reduceReplicate]
            exact Ret.drop (by rfl) ⟨rfl, rfl⟩
          · have kdI : ¬ (x.kids.length : Int) = 1 := by omega
            have hk : (kindOk x && kidsOk x) = false := by simp [kidsOk, k6, kd]
            rw [hk]
            simp (maxSteps := 1000000) [slotsOf, hho, noHo, exprA, undef, onGP_none, condG_false, k6, kdI, o, -List.reduceReplicate]
            exact Ret.drop (by rfl) ⟨rfl, rfl⟩
        have hk : (ownOk x && kidsOk x) = false := by simp [ownOk, kindOk, k0, k1, k2, k3, k4, k5, k6]
        rw [hk]
        simp (maxSteps := 1000000) [slotsOf, hho, noHo, exprA, undef, onGP_none, condG_false, k0, k1, k2, k3, k4, k5, k6, -List.reduceReplicate]
        exact Ret.drop (by rfl) ⟨rfl, rfl⟩
      · simp (maxSteps := 1000000) [slotsOf, hho, noHo, exprA, undef, onGP_none, condG_false, -List.reduceReplicate]
        split
        · rename_i h
          have hB : bareOk x = false := by
            rw [Bool.eq_false_iff]; intro hB; simp [bareOk, valEq, typEq] at hB; grind
          exact Ret.drop (by rfl) ⟨by rw [ho, hB]; simp, rfl⟩
        · rename_i h
          refine cut_to () (by simp only [bareOk, valEq, typEq, Bool.and_eq_true, Bool.or_eq_true, decide_eq_true_eq]; grind) ?_
          exact wk_eq (by simp [hE, lens]) (by simp [exprA]) (by simp [livH, livO, AV.livL, AV.liv, wkL, wkV, List.range', slotsOf])
end Go.Proofs.YtlepkpfbejfpiaaDoor
