import Derived.Test.YtlepkpfbejfpiaaDoorH8
namespace Go.Proofs.YtlepkpfbejfpiaaDoor
set_option linter.unusedVariables false
set_option linter.unusedSimpArgs false
open Go.RowKit
attribute [local simp] isCut_nil isCut_region isCut_seq isCut_block isCut_loop isCut_cond isCut_skip isCut_exit isCut_ret isCut_range swapK putK altK condK_bool pickP_bool stepP stepO onPure_some onPure_none onImpl_some onImpl_none stepC onGP_some onGP_none onGV_some condG mkG onIt_it nextP_ptr takeP_eq takeV_some takeV_none takeU_some takeU_none takeQ takeW_some takeN_none takeN_some takeG_some takeO_some altO_some pureV binV2 eqF eqOp ovlV ovl2 rowAt capV binV intBin strBin isSh shV fldV ixV sliceV slice3V loadAV nilV lenV callV unV convV viewS cellsH loadV fldCut AV.ung AV.ungs AV.gc AV.cells AS.ev AS.put anyS gcsV lens lnO gV guardV retK RetP_eq resV oneV anyRo loIx hiIx implO callP_clo evL gcsL clearV storeAV AS.push AS.setO appV appZ shortS copyV buildV partsV fillV srcV fzO okV isCell_c isCell_ptr isCell_sl isCell_fs isCell_fp isCell_clo rowZ_one rowZ_zero rowZ_2 rowZ_3 rowZ_4 rowZ_5 rowZ_6 rowZ_7 rowZ_8 rowZ_9 rowZ_10 rowZ_11 rowZ_12 noHo Value.oneCell' max2V min2V afterH putBack frzFrom frzO rebO backIx nilEq_sl nilEq_fs nilOp_eql nilOp_neq AV.reb AV.rebL
attribute [local simp ↓] runK_skip runK_region runK_draw runK_seq runK_cut runK_cond runK_block runK_loop runK_exit runK_label runK_goto runK_ret runK_range contK_nil contK_seq contK_seq_ret contK_seq_exit contK_seq_goto contK_block contK_block_ret contK_block_goto contK_block_exit runO_nil runO_cons roundK_exit roundK_ret roundK_goto exitK_ret cutK_ret cutK_exit runE_done runE_nil runE_take runE_alt condG_true condG_false
set_option maxRecDepth 10000
/-! ## Equal; Same -/
def strEq (x y : ByteArray) : Bool := decide (x = y)
def srcEq (x y : SrcS) : Bool := decide (x.tab = y.tab) && decide (x.as_ = y.as_)
def colEq (x y : ColS) : Bool := decide (x.id = y.id) && (decide (x.name = y.name) && (decide (x.ty.k = y.ty.k) && (decide (x.ty.s = y.ty.s) && (decide (x.nn = y.nn) && (decide (x.dft.k = y.dft.k) && (decide (x.dft.n = y.dft.n) && (decide (x.dft.s = y.dft.s) && (decide (x.dft.t = y.dft.t) && decide (x.st = y.st)))))))))
set_option maxHeartbeats 8000000 in
theorem eq_str (l m : List (ByteArray)) (hl : l.length ≤ 5864062014805) : ACalls Tryd.prog 35 [.fs 1 l.length (strsA l), .fs 1 m.length (strsA m)] [] (fun _ => false) (fun r h' => r = .c (.bool (eqL strEq l m)) ∧ h' = []) := by
  refine acalls mixed Tryd.func35 rfl Tryd.ntmps35 rfl fun E hE hst hho => ?_
  by_cases hlen : l.length = m.length
  · have hlenI : (l.length : Int) = m.length := by omega
    simp (maxSteps := 1000000) [hho, noHo, hlen, -List.reduceReplicate]
    refine loop_k mixed (fun j : Nat => ⟨slotsOf 26 [(0, .fs 1 l.length (strsA l)), (1, .fs 1 m.length (strsA m)), (11, .fs 1 l.length (strsA l)), (12, .c (.int .i64 l.length)), (13, .c (.int .i64 (j : Nat)))], []⟩) (fun j => l.length - j) (fun j => j ≤ l.length ∧ ∀ k (h1 : k < l.length) (h2 : k < m.length), k < j → strEq l[k] m[k] = true) 0 ⟨Nat.zero_le _, fun k _ _ h => by omega⟩ ?_ ?_
    · exact wk_eq (by simp [hE, lens]) (by simp) (by simp [livH, livO, AV.livL, AV.liv, wkL, wkV, List.range', slotsOf, hlen])
    · rintro j ⟨hj, hI⟩
      by_cases hjl : j < l.length
      · have hjm : j < m.length := by omega
        have h1 := strsA_at l j hjl
        have h2 := strsA_at m j hjm
        have ew : IntKind.i64.wrap ((j : Int) + 1) = (j + 1 : Nat) := by rw [IntWalk.i64_in _ (by omega)]; rfl
        have e1 : j * 1 + 1 ≤ l.length * 1 := by omega
        have e2 : j * 1 + 1 ≤ m.length * 1 := by omega
        have hp0 := @eqL_false _ strEq l m j hjl hjm
        have hI1 : strEq l[j] m[j] = true → ∀ k (h1 : k < l.length) (h2 : k < m.length), k < j + 1 → strEq l[k] m[k] = true := fun h k hk hk2 hkj => by
          by_cases e : k = j
          · subst e; exact h
          · exact hI k hk hk2 (by omega)
        obtain ⟨x, hxe⟩ : ∃ x, x = l[j] := ⟨_, rfl⟩
        obtain ⟨y, hye⟩ : ∃ y, y = m[j] := ⟨_, rfl⟩
        rw [← hxe, ← hye] at hp0 hI1
        rw [← hxe] at h1
        rw [← hye] at h2
        have g1 : (strsA l)[j]'(by simp; omega) = .c (.string x) := by rw [hxe]; exact strsA_get l j hjl
        have g2 : (strsA m)[j]'(by simp; omega) = .c (.string y) := by rw [hye]; exact strsA_get m j hjm
        cases hp : strEq x y with
        | true =>
          have hI2 := hI1 hp
          simp [strEq] at hp
          simp (maxSteps := 1000000) [slotsOf, hho, noHo, hjl, hjm, h1, h2, e1, e2, g1, g2, -List.reduceReplicate]
          refine draw_k hho (.take 0 (.take 1 (.take 2 (.take 3 (.take 4 (.take 5 (.take 6 (.take 7 (.take 8 (.done)))))))))) [] [] (by decide +kernel) (by simp) ?_
          simp (maxSteps := 1000000) [hho, h1, h2, e1, e2, hjl, hjm, g1, g2, ew, roOf, holdOf, wrOf, altK, heldOk, Region.binds, -List.reduceReplicate]
          first | (refine ⟨by omega, by omega, ?_⟩) | skip
          first | rw [if_neg (by grind)] | rw [if_pos (by grind)] | skip
          refine round_next (j + 1) ⟨by omega, hI2⟩ (by omega) ?_
          exact wk_eq (by simp [hE, lens]) (by simp) (by simp [livH, livO, AV.livL, AV.liv, wkL, wkV, List.range', slotsOf])
        | false =>
          have hI2 := hp0 hp
          simp [strEq] at hp
          simp (maxSteps := 1000000) [slotsOf, hho, noHo, hjl, hjm, h1, h2, e1, e2, g1, g2, -List.reduceReplicate]
          refine draw_k hho (.take 0 (.take 1 (.take 2 (.take 3 (.take 4 (.take 5 (.take 6 (.take 7 (.take 8 (.done)))))))))) [] [] (by decide +kernel) (by simp) ?_
          simp (maxSteps := 1000000) [hho, h1, h2, e1, e2, hjl, hjm, g1, g2, ew, roOf, holdOf, wrOf, altK, heldOk, Region.binds, -List.reduceReplicate]
          first | (refine ⟨by omega, by omega, ?_⟩) | skip
          first | rw [if_pos (by grind)] | rw [if_neg (by grind)] | skip
          exact Ret.same ⟨by rw [hI2], rfl⟩
      · obtain rfl : j = l.length := by omega
        simp (maxSteps := 1000000) [slotsOf, hho, noHo, -List.reduceReplicate]
        exact Ret.same ⟨by rw [eqL_true hlen fun k h1 h2 => hI k h1 h2 h1], rfl⟩
  · have hlenI : ¬ (l.length : Int) = m.length := by omega
    simp (maxSteps := 1000000) [hho, noHo, hlen, hlenI, -List.reduceReplicate]
    exact Ret.same ⟨by rw [eqL_len hlen], rfl⟩
set_option maxHeartbeats 8000000 in
theorem eq_src (l m : List (SrcS)) (hl : l.length ≤ 5864062014805) : ACalls Tryd.prog 37 [.fs 2 l.length (srcsA l), .fs 2 m.length (srcsA m)] [] (fun _ => false) (fun r h' => r = .c (.bool (eqL srcEq l m)) ∧ h' = []) := by
  refine acalls mixed Tryd.func37 rfl Tryd.ntmps37 rfl fun E hE hst hho => ?_
  by_cases hlen : l.length = m.length
  · have hlenI : (l.length : Int) = m.length := by omega
    simp (maxSteps := 1000000) [hho, noHo, hlen, -List.reduceReplicate]
    refine loop_k mixed (fun j : Nat => ⟨slotsOf 26 [(0, .fs 2 l.length (srcsA l)), (1, .fs 2 m.length (srcsA m)), (11, .fs 2 l.length (srcsA l)), (12, .c (.int .i64 l.length)), (13, .c (.int .i64 (j : Nat)))], []⟩) (fun j => l.length - j) (fun j => j ≤ l.length ∧ ∀ k (h1 : k < l.length) (h2 : k < m.length), k < j → srcEq l[k] m[k] = true) 0 ⟨Nat.zero_le _, fun k _ _ h => by omega⟩ ?_ ?_
    · exact wk_eq (by simp [hE, lens]) (by simp) (by simp [livH, livO, AV.livL, AV.liv, wkL, wkV, List.range', slotsOf, hlen])
    · rintro j ⟨hj, hI⟩
      by_cases hjl : j < l.length
      · have hjm : j < m.length := by omega
        have h1 := srcsA_at l j hjl
        have h2 := srcsA_at m j hjm
        have ew : IntKind.i64.wrap ((j : Int) + 1) = (j + 1 : Nat) := by rw [IntWalk.i64_in _ (by omega)]; rfl
        have e1 : j * 2 + 2 ≤ l.length * 2 := by omega
        have e2 : j * 2 + 2 ≤ m.length * 2 := by omega
        have hp0 := @eqL_false _ srcEq l m j hjl hjm
        have hI1 : srcEq l[j] m[j] = true → ∀ k (h1 : k < l.length) (h2 : k < m.length), k < j + 1 → srcEq l[k] m[k] = true := fun h k hk hk2 hkj => by
          by_cases e : k = j
          · subst e; exact h
          · exact hI k hk hk2 (by omega)
        obtain ⟨x, hxe⟩ : ∃ x, x = l[j] := ⟨_, rfl⟩
        obtain ⟨y, hye⟩ : ∃ y, y = m[j] := ⟨_, rfl⟩
        rw [← hxe, ← hye] at hp0 hI1
        rw [← hxe] at h1
        rw [← hye] at h2
        cases hp : srcEq x y with
        | true =>
          have hI2 := hI1 hp
          simp [srcEq] at hp
          simp (maxSteps := 1000000) [slotsOf, hho, noHo, hjl, hjm, h1, h2, e1, e2, srcA, -List.reduceReplicate]
          refine draw_k hho (.take 0 (.take 1 (.take 2 (.take 3 (.take 4 (.take 5 (.take 6 (.take 7 (.take 8 (.done)))))))))) [] [] (by decide +kernel) (by simp) ?_
          simp (maxSteps := 1000000) [hho, h1, h2, e1, e2, hjl, hjm, srcA, ew, roOf, holdOf, wrOf, altK, heldOk, Region.binds, -List.reduceReplicate]
          first | (refine ⟨by omega, by omega, ?_⟩) | skip
          first | rw [if_neg (by grind)] | rw [if_pos (by grind)] | skip
          refine round_next (j + 1) ⟨by omega, hI2⟩ (by omega) ?_
          exact wk_eq (by simp [hE, lens]) (by simp) (by simp [livH, livO, AV.livL, AV.liv, wkL, wkV, List.range', slotsOf])
        | false =>
          have hI2 := hp0 hp
          simp [srcEq] at hp
          simp (maxSteps := 1000000) [slotsOf, hho, noHo, hjl, hjm, h1, h2, e1, e2, srcA, -List.reduceReplicate]
          refine draw_k hho (.take 0 (.take 1 (.take 2 (.take 3 (.take 4 (.take 5 (.take 6 (.take 7 (.take 8 (.done)))))))))) [] [] (by decide +kernel) (by simp) ?_
          simp (maxSteps := 1000000) [hho, h1, h2, e1, e2, hjl, hjm, srcA, ew, roOf, holdOf, wrOf, altK, heldOk, Region.binds, -List.reduceReplicate]
          first | (refine ⟨by omega, by omega, ?_⟩) | skip
          first | rw [if_pos (by grind)] | rw [if_neg (by grind)] | skip
          exact Ret.same ⟨by rw [hI2], rfl⟩
      · obtain rfl : j = l.length := by omega
        simp (maxSteps := 1000000) [slotsOf, hho, noHo, -List.reduceReplicate]
        exact Ret.same ⟨by rw [eqL_true hlen fun k h1 h2 => hI k h1 h2 h1], rfl⟩
  · have hlenI : ¬ (l.length : Int) = m.length := by omega
    simp (maxSteps := 1000000) [hho, noHo, hlen, hlenI, -List.reduceReplicate]
    exact Ret.same ⟨by rw [eqL_len hlen], rfl⟩
set_option maxHeartbeats 8000000 in
theorem eq_col (l m : List (ColS)) (hl : l.length ≤ 5864062014805) : ACalls Tryd.prog 36 [.fs 10 l.length (colsA l), .fs 10 m.length (colsA m)] [] (fun _ => false) (fun r h' => r = .c (.bool (eqL colEq l m)) ∧ h' = []) := by
  refine acalls mixed Tryd.func36 rfl Tryd.ntmps36 rfl fun E hE hst hho => ?_
  by_cases hlen : l.length = m.length
  · have hlenI : (l.length : Int) = m.length := by omega
    simp (maxSteps := 1000000) [hho, noHo, hlen, -List.reduceReplicate]
    refine loop_k mixed (fun j : Nat => ⟨slotsOf 26 [(0, .fs 10 l.length (colsA l)), (1, .fs 10 m.length (colsA m)), (11, .fs 10 l.length (colsA l)), (12, .c (.int .i64 l.length)), (13, .c (.int .i64 (j : Nat)))], []⟩) (fun j => l.length - j) (fun j => j ≤ l.length ∧ ∀ k (h1 : k < l.length) (h2 : k < m.length), k < j → colEq l[k] m[k] = true) 0 ⟨Nat.zero_le _, fun k _ _ h => by omega⟩ ?_ ?_
    · exact wk_eq (by simp [hE, lens]) (by simp) (by simp [livH, livO, AV.livL, AV.liv, wkL, wkV, List.range', slotsOf, hlen])
    · rintro j ⟨hj, hI⟩
      by_cases hjl : j < l.length
      · have hjm : j < m.length := by omega
        have h1 := colsA_at l j hjl
        have h2 := colsA_at m j hjm
        have ew : IntKind.i64.wrap ((j : Int) + 1) = (j + 1 : Nat) := by rw [IntWalk.i64_in _ (by omega)]; rfl
        have e1 : j * 10 + 10 ≤ l.length * 10 := by omega
        have e2 : j * 10 + 10 ≤ m.length * 10 := by omega
        have hp0 := @eqL_false _ colEq l m j hjl hjm
        have hI1 : colEq l[j] m[j] = true → ∀ k (h1 : k < l.length) (h2 : k < m.length), k < j + 1 → colEq l[k] m[k] = true := fun h k hk hk2 hkj => by
          by_cases e : k = j
          · subst e; exact h
          · exact hI k hk hk2 (by omega)
        obtain ⟨x, hxe⟩ : ∃ x, x = l[j] := ⟨_, rfl⟩
        obtain ⟨y, hye⟩ : ∃ y, y = m[j] := ⟨_, rfl⟩
        rw [← hxe, ← hye] at hp0 hI1
        rw [← hxe] at h1
        rw [← hye] at h2
        cases hp : colEq x y with
        | true =>
          have hI2 := hI1 hp
          simp [colEq] at hp
          simp (maxSteps := 1000000) [slotsOf, hho, noHo, hjl, hjm, h1, h2, e1, e2, colA, -List.reduceReplicate]
          refine draw_k hho (.take 0 (.take 1 (.take 2 (.take 3 (.take 4 (.take 5 (.take 6 (.take 7 (.take 8 (.done)))))))))) [] [] (by decide +kernel) (by simp) ?_
          simp (maxSteps := 1000000) [hho, h1, h2, e1, e2, hjl, hjm, colA, ew, roOf, holdOf, wrOf, altK, heldOk, Region.binds, -List.reduceReplicate]
          first | (refine ⟨by omega, by omega, ?_⟩) | skip
          first | rw [if_neg (by grind)] | rw [if_pos (by grind)] | skip
          refine round_next (j + 1) ⟨by omega, hI2⟩ (by omega) ?_
          exact wk_eq (by simp [hE, lens]) (by simp) (by simp [livH, livO, AV.livL, AV.liv, wkL, wkV, List.range', slotsOf])
        | false =>
          have hI2 := hp0 hp
          simp [colEq] at hp
          simp (maxSteps := 1000000) [slotsOf, hho, noHo, hjl, hjm, h1, h2, e1, e2, colA, -List.reduceReplicate]
          refine draw_k hho (.take 0 (.take 1 (.take 2 (.take 3 (.take 4 (.take 5 (.take 6 (.take 7 (.take 8 (.done)))))))))) [] [] (by decide +kernel) (by simp) ?_
          simp (maxSteps := 1000000) [hho, h1, h2, e1, e2, hjl, hjm, colA, ew, roOf, holdOf, wrOf, altK, heldOk, Region.binds, -List.reduceReplicate]
          first | (refine ⟨by omega, by omega, ?_⟩) | skip
          first | rw [if_pos (by grind)] | rw [if_neg (by grind)] | skip
          exact Ret.same ⟨by rw [hI2], rfl⟩
      · obtain rfl : j = l.length := by omega
        simp (maxSteps := 1000000) [slotsOf, hho, noHo, -List.reduceReplicate]
        exact Ret.same ⟨by rw [eqL_true hlen fun k h1 h2 => hI k h1 h2 h1], rfl⟩
  · have hlenI : ¬ (l.length : Int) = m.length := by omega
    simp (maxSteps := 1000000) [hho, noHo, hlen, hlenI, -List.reduceReplicate]
    exact Ret.same ⟨by rw [eqL_len hlen], rfl⟩
def setEq (x y : SetS) : Bool := decide (x.name = y.name) && sameE false x.val y.val
set_option maxHeartbeats 8000000 in
theorem setEq_w (x y : SetS) (hx : Fit x.val) : ACalls Tryd.prog 41 [.agg (setA x), .agg (setA y)] [] (fun _ => false) (fun r h' => r = .c (.bool (setEq x y)) ∧ h' = []) := by
  refine acalls mixed Tryd.func41 rfl Tryd.ntmps41 rfl fun E hE hst hho => ?_
  have hs := sameExpr_w x.val hx y.val
  by_cases h : x.name = y.name
  · simp (maxSteps := 1000000) [hho, noHo, setA, exprA, h, undef, onGP_none, condG_false, -List.reduceReplicate]
    refine call_x [] hs rfl rfl ⟨rfl, rfl⟩ hho (by simp) (by decide) (by simp) (by simp) ?_
    simp (maxSteps := 1000000) [hho, noHo, undef, onGP_none, condG_false, -List.reduceReplicate]
    exact Ret.drop (by rfl) ⟨by simp [setEq, h], rfl⟩
  · simp (maxSteps := 1000000) [hho, noHo, setA, exprA, h, undef, onGP_none, condG_false, -List.reduceReplicate]
    exact Ret.drop (by rfl) ⟨by simp [setEq, h], rfl⟩
def itemEq (x y : ItemS) : Bool := decide (x.as_ = y.as_) && sameE false x.val y.val
set_option maxHeartbeats 8000000 in
theorem itemEq_w (x y : ItemS) (hx : Fit x.val) : ACalls Tryd.prog 44 [.agg (itemA x), .agg (itemA y)] [] (fun _ => false) (fun r h' => r = .c (.bool (itemEq x y)) ∧ h' = []) := by
  refine acalls mixed Tryd.func44 rfl Tryd.ntmps44 rfl fun E hE hst hho => ?_
  have hs := sameExpr_w x.val hx y.val
  by_cases h : x.as_ = y.as_
  · simp (maxSteps := 1000000) [hho, noHo, itemA, exprA, h, undef, onGP_none, condG_false, -List.reduceReplicate]
    refine call_x [] hs rfl rfl ⟨rfl, rfl⟩ hho (by simp) (by decide) (by simp) (by simp) ?_
    simp (maxSteps := 1000000) [hho, noHo, undef, onGP_none, condG_false, -List.reduceReplicate]
    exact Ret.drop (by rfl) ⟨by simp [itemEq, h], rfl⟩
  · simp (maxSteps := 1000000) [hho, noHo, itemA, exprA, h, undef, onGP_none, condG_false, -List.reduceReplicate]
    exact Ret.drop (by rfl) ⟨by simp [itemEq, h], rfl⟩
def ordEq (x y : OrdS) : Bool := decide (x.desc = y.desc) && sameE false x.val y.val
set_option maxHeartbeats 8000000 in
theorem ordEq_w (x y : OrdS) (hx : Fit x.val) : ACalls Tryd.prog 46 [.agg (ordA x), .agg (ordA y)] [] (fun _ => false) (fun r h' => r = .c (.bool (ordEq x y)) ∧ h' = []) := by
  refine acalls mixed Tryd.func46 rfl Tryd.ntmps46 rfl fun E hE hst hho => ?_
  have hs := sameExpr_w x.val hx y.val
  by_cases h : x.desc = y.desc
  · simp (maxSteps := 1000000) [hho, noHo, ordA, exprA, h, undef, onGP_none, condG_false, -List.reduceReplicate]
    refine call_x [] hs rfl rfl ⟨rfl, rfl⟩ hho (by simp) (by decide) (by simp) (by simp) ?_
    simp (maxSteps := 1000000) [hho, noHo, undef, onGP_none, condG_false, -List.reduceReplicate]
    exact Ret.drop (by rfl) ⟨by simp [ordEq, h], rfl⟩
  · simp (maxSteps := 1000000) [hho, noHo, ordA, exprA, h, undef, onGP_none, condG_false, -List.reduceReplicate]
    exact Ret.drop (by rfl) ⟨by simp [ordEq, h], rfl⟩
end Go.Proofs.YtlepkpfbejfpiaaDoor
