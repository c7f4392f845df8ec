import Derived.Test.YtglhmhpaoebifaaBG
namespace Go.Proofs.Ytglhmhpaoebifaa
set_option linter.unusedVariables false
set_option linter.unusedSimpArgs false
open Go.RowKit
attribute [local simp] isCut_nil isCut_region isCut_seq isCut_block isCut_loop isCut_cond isCut_skip isCut_exit isCut_ret isCut_range swapK putK altK condK_bool pickP_bool stepP stepO onPure_some onPure_none onImpl_some onImpl_none stepC onGP_some onGP_none onGV_some condG mkG onIt_it nextP_ptr takeP_eq takeV_some takeN_none takeN_some takeG_some takeO_some altO_some pureV binV2 eqF eqOp ovlV ovl2 rowAt capV binV intBin strBin isSh shV fldV ixV sliceV slice3V loadAV nilV lenV callV unV convV viewS cellsH loadV fldCut AV.ung AV.ungs AV.gc AV.cells AS.ev AS.put anyS gcsV lens lnO gV guardV retK RetP_eq resV oneV anyRo loIx hiIx implO callP_clo evL gcsL clearV storeAV AS.push AS.setO appV appZ shortS copyV buildV partsV fillV srcV fzO okV isCell_c isCell_ptr isCell_sl isCell_fs isCell_fp isCell_clo rowZ_one rowZ_zero rowZ_2 rowZ_3 rowZ_4 rowZ_5 rowZ_6 rowZ_7 rowZ_8 rowZ_9 rowZ_10 rowZ_11 rowZ_12 noHo Value.oneCell' max2V min2V afterH putBack frzFrom frzO rebO backIx nilEq_sl nilEq_fs nilOp_eql nilOp_neq AV.reb AV.rebL
attribute [local simp ↓] runK_skip runK_region runK_draw runK_seq runK_cut runK_cond runK_block runK_loop runK_exit runK_label runK_goto runK_ret runK_range contK_nil contK_seq contK_seq_ret contK_seq_exit contK_seq_goto contK_block contK_block_ret contK_block_goto contK_block_exit runO_nil runO_cons roundK_exit roundK_ret roundK_goto exitK_ret cutK_ret cutK_exit runE_done runE_nil runE_take runE_alt condG_true condG_false
set_option maxRecDepth 10000
/-! ## A session's place -/
def keyLt (l : List LeaseS) (k : Int) (h : Nat) : Bool := match l[h]? with
  | some x => decide (x.s < k)
  | none => false
def findI (l : List LeaseS) (k : Int) : Nat := bsF (keyLt l k) l.length 0 l.length
def findH (l : List LeaseS) (k : Int) : Bool := match l[findI l k]? with
  | some x => decide (x.s = k)
  | none => false
theorem findI_le (l : List LeaseS) (k : Int) : findI l k ≤ l.length := bsF_le _ _ _ _ (Nat.zero_le _)
theorem cmpI_zero (a b : Int) : cmpI a b = 0 ↔ a = b := by
  unfold cmpI
  repeat' split
  all_goals omega
set_option maxHeartbeats 4000000 in
theorem search_lease (l : List LeaseS) (n : Nat) (hn : n = l.length) (hl : n ≤ 5864062014805) (t : LeaseS) : ACalls Try.prog 58 [.sl 0 3 0 n (n * 3), .agg (leaseA t), cloBy] [rowL l] (fun k => decide (k < 1)) (fun r h' => r = .tup [.c (.int .i64 (findI l t.s)), .c (.bool (findH l t.s))] ∧ h' = [rowL l]) := by
  refine acalls mixed Try.func58 rfl Try.ntmps58 rfl fun E hE hst hho => ?_
  obtain ⟨T, hT⟩ : ∃ T, T = findI l t.s := ⟨_, rfl⟩
  have hT2 : T ≤ n := by rw [hT, hn]; exact findI_le _ _
  have h3t : List.take 3 (leaseA t) = leaseA t := rfl
  rw [← hT]
  simp [rowL, cloBy, hho, -List.reduceReplicate]
  refine ⟨by omega, ?_⟩
  refine loop_k2 mixed (fun x : Nat × Nat × Nat => ⟨slotsOf 49 [(0, .sl 0 3 0 n (n * 3)), (2, cloBy), (4, .ptr 1 0 3), (8, .c (.int .i64 n)), (9, .c (.int .i64 (x.1 : Int))), (10, .c (.int .i64 (x.2.1 : Int)))], [rowL l, .o .box (leaseA t)]⟩) (fun x => x.2.1 - x.1) (fun x => x.1 ≤ x.2.1 ∧ x.2.1 ≤ n ∧ x.2.1 - x.1 ≤ x.2.2 ∧ bsF (keyLt l t.s) x.2.2 x.1 x.2.1 = T) (0, n, n)
    (fun _ : Unit => ⟨slotsOf 49 [(0, .sl 0 3 0 n (n * 3)), (2, cloBy), (4, .ptr 1 0 3), (8, .c (.int .i64 n)), (9, .c (.int .i64 (T : Int)))], [rowL l, .o .box (leaseA t)]⟩) (fun _ => True) 0 ⟨Nat.zero_le _, Nat.le_refl _, Nat.le_refl _, by simp only; rw [hT, findI, ← hn]⟩ ?_ ?_ ?_
  · exact wk_eq (by simp [hE, rowL, lens]) (by simp [rowL]) (by simp [livH, livO, AV.livL, AV.liv, wkL, wkV, List.range', slotsOf, cloBy])
  · rintro _ _
    by_cases hTn : T < n
    · have hTl : T < l.length := by omega
      have hTi : (T : Int) < n := by omega
      have hat := leasesA_at l T hTl
      obtain ⟨x, hx⟩ : ∃ x, x = l[T] := ⟨_, rfl⟩
      rw [← hx] at hat
      have hF : findH l t.s = decide (x.s = t.s) := by unfold findH; rw [← hT, List.getElem?_eq_getElem hTl, ← hx]
      have el : T * 3 + 3 ≤ n * 3 := by omega
      simp (maxSteps := 1000000) [rowL, cloBy, slotsOf, hho, -List.reduceReplicate]
      refine draw_k hho (.take 0 (.take 1 (.take 2 (.take 3 (.take 4 (.take 5 (.take 6 (.take 7 (.take 8 (.take 9 (.take 10 (.alt 11 (.take 12 (.take 13 (.take 14 (.take 15 (.done))))) (.nil))))))))))))) [0, 1] [] (by decide +kernel) (by simp) ?_
      simp (maxSteps := 1000000) [hho, ← hn, hTn, hTi, hat, el, h3t, roOf, holdOf, wrOf, altK, heldOk, Region.binds, -List.reduceReplicate]
      intro E1
      refine call_plain (fun _ => false) (bySession_lease x t) (ha := by rfl) (by simp) ?_
      rintro r h' ⟨rfl, rfl⟩
      refine ⟨rfl, ?_⟩
      by_cases hxt : x.s = t.s
      · have hc := (cmpI_zero _ _).2 hxt
        simp (maxSteps := 1000000) [hho, hc, roOf, holdOf, wrOf, altK, heldOk, Region.binds, -List.reduceReplicate]
        refine Ret.sel [0] (fun _ => false) (ho := by rfl) (ha := by rfl) ?_ ?_ (by decide) (by simp) (fun i _ h => ?_) ⟨?_, ?_⟩
        · simp
        · simp
        · have e : i = 0 := of_decide_eq_true h
          subst e; rfl
        · simp [hF, hxt]
        · rfl
      · have hc : ¬ cmpI x.s t.s = 0 := fun h => hxt ((cmpI_zero _ _).1 h)
        simp (maxSteps := 1000000) [hho, hc, roOf, holdOf, wrOf, altK, heldOk, Region.binds, -List.reduceReplicate]
        refine Ret.sel [0] (fun _ => false) (ho := by rfl) (ha := by rfl) ?_ ?_ (by decide) (by simp) (fun i _ h => ?_) ⟨?_, ?_⟩
        · simp
        · simp
        · have e : i = 0 := of_decide_eq_true h
          subst e; rfl
        · simp [hF, hxt]
        · rfl
    · obtain rfl : T = n := by omega
      have hF : findH l t.s = false := by unfold findH; rw [← hT, List.getElem?_eq_none (by omega)]
      simp (maxSteps := 1000000) [rowL, cloBy, slotsOf, hho, -List.reduceReplicate]
      refine draw_k hho (.take 0 (.take 1 (.take 2 (.take 3 (.take 4 (.take 5 (.take 6 (.take 7 (.take 8 (.take 9 (.take 10 (.alt 11 (.take 14 (.alt 12 (.alt 13 (.take 15 (.done)) (.nil)) (.nil))) (.nil))))))))))))) [0, 1] [] (by decide +kernel) (by simp) ?_
      simp (maxSteps := 1000000) [hho, ← hn, h3t, undef, onGP_none, condG_false, roOf, holdOf, wrOf, altK, heldOk, Region.binds, -List.reduceReplicate]
      intros
      refine Ret.sel [0] (fun _ => false) (ho := by rfl) (ha := by rfl) ?_ ?_ (by decide) (by simp) (fun i _ h => ?_) ⟨?_, ?_⟩
      · simp
      · simp
      · have e : i = 0 := of_decide_eq_true h
        subst e; rfl
      · simp [hF]
      · rfl
  · rintro ⟨i, j, g⟩ ⟨h1, h2, h4, h5⟩
    simp only at h1 h2 h4 h5
    by_cases hij : i < j
    · have eh : IntKind.i64.wrap ((IntKind.u64.wrap (IntKind.i64.wrap ((i : Int) + j))).fdiv (2 ^ min 1 IntKind.u64.bits)) = ((i + j) / 2 : Nat) := by rw [half_w _ (by omega) (by omega)]; omega
      obtain ⟨J, hJ⟩ : ∃ J, J = (i + j) / 2 := ⟨_, rfl⟩
      rw [← hJ] at eh
      rw [bsF_step _ _ _ _ hij h4, ← hJ] at h5
      have ewJ : IntKind.i64.wrap ((J : Int) + 1) = (J + 1 : Nat) := by rw [IntWalk.i64_in _ (by omega)]; rfl
      have hJl : J < l.length := by omega
      have hJn : J < n := by omega
      have hat := leasesA_at l J hJl
      obtain ⟨x, hx⟩ : ∃ x, x = l[J] := ⟨_, rfl⟩
      rw [← hx] at hat
      have hlt : keyLt l t.s J = decide (x.s < t.s) := by unfold keyLt; rw [List.getElem?_eq_getElem hJl, ← hx]
      have el : J * 3 + 3 ≤ n * 3 := by omega
      simp (maxSteps := 1000000) [rowL, cloBy, slotsOf, hho, hij, eh, -List.reduceReplicate]
      refine draw_k hho (.take 0 (.take 1 (.take 2 (.take 3 (.take 4 (.take 5 (.alt 6 (.take 7 (.done)) (.nil)))))))) [0, 1] [] (by decide +kernel) (by simp) ?_
      simp (maxSteps := 1000000) [hho, ← hn, hJn, hat, el, h3t, roOf, holdOf, wrOf, altK, heldOk, Region.binds, -List.reduceReplicate]
      intro E1
      refine call_plain (fun _ => false) (bySession_lease x t) (ha := by rfl) (by simp) ?_
      rintro r h' ⟨rfl, rfl⟩
      refine ⟨rfl, ?_⟩
      by_cases hxy : x.s < t.s
      · have hc : cmpI x.s t.s < 0 := (cmpI_neg _ _).2 hxy
        rw [if_pos (by rw [hlt]; simpa using hxy)] at h5
        simp (maxSteps := 1000000) [hho, hc, ewJ, roOf, holdOf, wrOf, altK, heldOk, Region.binds, -List.reduceReplicate]
        refine round_next (J + 1, j, g - 1) ⟨by simp only; omega, h2, by simp only; omega, h5⟩ (by simp only; omega) ?_
        exact wk_eq (by simp [hE, rowL, lens]) (by simp [rowL]) (by simp [livH, livO, AV.livL, AV.liv, wkL, wkV, List.range', slotsOf, cloBy])
      · have hc : ¬ cmpI x.s t.s < 0 := fun h => hxy ((cmpI_neg _ _).1 h)
        rw [if_neg (by rw [hlt]; simpa using hxy)] at h5
        simp (maxSteps := 1000000) [hho, hc, ewJ, roOf, holdOf, wrOf, altK, heldOk, Region.binds, -List.reduceReplicate]
        refine round_next (i, J, g - 1) ⟨by simp only; omega, by simp only; omega, by simp only; omega, h5⟩ (by simp only; omega) ?_
        exact wk_eq (by simp [hE, rowL, lens]) (by simp [rowL]) (by simp [livH, livO, AV.livL, AV.liv, wkL, wkV, List.range', slotsOf, cloBy])
    · rw [bsF_done _ _ _ _ hij] at h5
      subst h5
      simp (maxSteps := 1000000) [rowL, cloBy, slotsOf, hho, hij, -List.reduceReplicate]
      exact exit_to () trivial (wk_eq (by simp [hE, rowL, lens]) (by simp [rowL]) (by simp [livH, livO, AV.livL, AV.liv, wkL, wkV, List.range', slotsOf, cloBy]))
end Go.Proofs.Ytglhmhpaoebifaa
