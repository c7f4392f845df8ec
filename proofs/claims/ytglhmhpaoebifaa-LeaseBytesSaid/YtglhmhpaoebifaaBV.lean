import Derived.Test.YtglhmhpaoebifaaBB
-- 
namespace Go.Proofs.Ytglhmhpaoebifaa
set_option linter.unusedVariables false
set_option linter.unusedSimpArgs false
open Go.RowKit
attribute [local simp] isCut_nil isCut_region isCut_seq isCut_block isCut_loop isCut_cond isCut_skip isCut_exit isCut_ret isCut_range swapK putK altK condK_bool pickP_bool stepP stepO onPure_some onPure_none onImpl_some onImpl_none stepC onGP_some onGP_none onGV_some condG mkG onIt_it nextP_ptr takeP_eq takeV_some takeN_none takeN_some takeG_some takeO_some altO_some pureV binV2 eqF eqOp ovlV ovl2 rowAt capV binV intBin strBin isSh shV fldV ixV sliceV slice3V loadAV nilV lenV callV unV convV viewS cellsH loadV fldCut AV.ung AV.ungs AV.gc AV.cells AS.ev AS.put anyS gcsV lens lnO gV guardV retK RetP_eq resV oneV anyRo loIx hiIx implO callP_clo evL gcsL clearV storeAV AS.push AS.setO appV appZ shortS copyV buildV partsV fillV srcV fzO okV isCell_c isCell_ptr isCell_sl isCell_fs isCell_fp isCell_clo rowZ_one rowZ_zero rowZ_2 rowZ_3 rowZ_4 rowZ_5 rowZ_6 rowZ_7 rowZ_8 rowZ_9 rowZ_10 rowZ_11 rowZ_12 noHo Value.oneCell' max2V min2V afterH putBack frzFrom frzO rebO backIx nilEq_sl nilEq_fs nilOp_eql nilOp_neq AV.reb AV.rebL
attribute [local simp ↓] runK_skip runK_region runK_draw runK_seq runK_cut runK_cond runK_block runK_loop runK_exit runK_label runK_goto runK_ret runK_range contK_nil contK_seq contK_seq_ret contK_seq_exit contK_seq_goto contK_block contK_block_ret contK_block_goto contK_block_exit runO_nil runO_cons roundK_exit roundK_ret roundK_goto exitK_ret cutK_ret cutK_exit runE_done runE_nil runE_take runE_alt condG_true condG_false runYK_skip runYK_region runYK_draw runYK_seq runYK_cond runYK_block runYK_loop runYK_exit runYK_ret contYK_nil contYK_seq contYK_seq_ret contYK_seq_exit contYK_block contYK_block_ret contYK_block_exit runYO_nil runYO_cons finY_normal finY_ret roundY_ret roundY_exit
attribute [local simp] condYK_bool onYI_some onYP_some onYP_none onYA_some onYA_none onYD_some onYD_none ixD stepY yldArgs AS.clean keepV hoN hnY rebI setPs heldH
set_option maxRecDepth 10000
/-! ## Values, collect -/
theorem rangeFG_w' {P : Program} {E : Env} {s s' : AS} {c : Code} {Q : Exit → AS → Prop} (hw : Wk E s s') (h : RangeFG P E c s' Q) : RangeFG P E c s Q := fun a w hs => h a w (hw a w hs)
def itemL (l : List LeaseS) (j : Nat) : List AV := match l[j]? with
  | some x => [.agg (leaseA x)]
  | none => [.agg []]
theorem values_lease (l : List LeaseS) : ACalls Try.prog 32 [.fs 3 l.length (leasesA l)] [] (fun _ => false) (fun r h' => r = .clo (.func 56) [] [.ptr 0 0 1] ∧ h' = [.o .box [.fs 3 l.length (leasesA l)]]) := by
  refine acalls mixed Try.func32 rfl Try.ntmps32 rfl fun E hE _ hho => ?_
  simp [hho, -List.reduceReplicate]
  exact Ret.same ⟨rfl, rfl⟩
theorem itemL_ok (l : List LeaseS) (j : Nat) : ∀ x ∈ itemL l j, itemOk 1 x = true := by
  unfold itemL
  split <;> simp [itemOk, plainV, leaseA, -List.all_eq_true]
theorem itemL_len (l : List LeaseS) (j : Nat) : (itemL l j).length = 1 := by unfold itemL; split <;> rfl
theorem values_seq (l : List LeaseS) (hl : l.length ≤ 9000000000000000) : ASeq0 Try.prog [.o .box [.fs 3 l.length (leasesA l)]] l.length (itemL l) 56 [.ptr 0 0 1] := by
  refine aseq0_data fun v => ?_
  by_cases hv : ∃ A c, v = .slice A l.length c
  rotate_left
  · intro G F w vs hh hfc hdt
    have hD : RepD F w (.fs 3 l.length (leasesA l)) v := hdt (_, _) (by simp)
    refine absurd ?_ hv
    generalize hn : l.length = n at hD
    generalize leasesA l = cs at hD
    cases hD with
    | fs0 _ A c h => exact ⟨A, c, rfl⟩
    | fs _ _ b o c _ f => exact ⟨_, c, rfl⟩
  obtain ⟨A, c, hv⟩ := hv
  refine aseq0_k mixed Try.func56 rfl Try.ntmps56 rfl fun y => ?_
  rw [hv]
  simp [-List.reduceReplicate]
  refine loopY_k mixed (fun j : Nat => ⟨slotsOf 16 [(0, .clo (.yield y) [] []), (1, .ptr 0 0 1), (5, .c (.slice A l.length c)), (6, .c (.int .i64 l.length)), (7, .c (.int .i64 (j : Int)))], [.o .box [.c (.slice A l.length c)]]⟩) (fun j => j) (fun j => l.length - j) (fun j => j ≤ l.length) 0 (by simp) rfl ?_ ?_
  · intro E hE
    refine wk_of 1 0 (by simp) (by simpa using hE) rfl (by simp [livH, livO, AV.livL, AV.liv, wkL, wkV, List.range']) ?_
    simp [slotsOf, livH, livO, AV.livL, AV.liv, wkL, wkV, List.range']
  · intro j hj
    have e2 : IntKind.i64.wrap ((j : Int) + 1) = (j + 1 : Nat) := by rw [IntWalk.i64_in _ (by omega)]; rfl
    by_cases hjl : j < l.length
    · have hat := leasesA_at l j hjl
      have h3 : List.take 3 (leaseA l[j]) = leaseA l[j] := rfl
      simp [slotsOf, hjl, hat, h3, e2, -List.reduceReplicate]
      refine ⟨by simp [itemL, hjl], itemL_ok l j, ?_, hjl⟩
      exact roundY_next (j + 1) rfl (by omega) (by omega) rfl fun E hE => wk_of 1 0 (by simp) (by simpa using hE) rfl (by simp [livH, livO, AV.livL, AV.liv, wkL, wkV, List.range']) (by simp [livH, livO, AV.livL, AV.liv, wkL, wkV, List.range', slotsOf])
    · simp [slotsOf, hjl, -List.reduceReplicate]
      omega
theorem appendSeq_lease (l : List LeaseS) (hl : l.length ≤ 5864062014805) : ACalls Try.prog 67 [.c (.slice none 0 0), .clo (.func 56) [] [.ptr 0 0 1]] [.o .box [.fs 3 l.length (leasesA l)]] (fun k => decide (k < 1)) (fun r h' => r = .sl 1 3 0 l.length (l.length * 3) ∧ h' = [.o .box [.fs 3 l.length (leasesA l)], rowL l]) := by
  refine acallsM mixed Try.func67 rfl Try.ntmps67 rfl fun E hE hst hho hmk => ?_
  simp [hho, -List.reduceReplicate]
  refine rangeFG_w' (wk_virtC 1 0 48 3 rfl rfl) ?_
  refine range_k mixed [0] (values_seq l (by omega)) hho hmk ⟨by simp, rfl⟩ rfl rfl rfl (by simp) (by decide) (fun j => ⟨by simpa using itemL_ok l j, itemL_len l j⟩) rfl (by simp) (fun _ => True) trivial (fun j => [.o .box [.fs 3 l.length (leasesA l)], .o .box [.sl 2 3 0 j (j * 3)], rowL (l.take j)]) (by simp [rowL, leasesA]) (by intro j _ k hk; simp at hk; subst hk; rfl) ?_ ?_
  · intro j hj _ E' hho' hE' hst'
    have hi : itemL l j = [.agg (leaseA l[j])] := by simp [itemL, hj]
    have h3 : List.take 3 (leaseA l[j]) = leaseA l[j] := rfl
    simp (maxSteps := 1000000) [hi, rowL, hho', rebI, -List.reduceReplicate]
    refine ⟨by simp [heldH, lens, lnO], fun E2 ho2 ln2 st2 => ?_⟩
    have hm : min j l.length = j := by omega
    simp (maxSteps := 1000000) [ho2, h3, hm, -List.reduceReplicate]
    refine ⟨by omega, range_next 3 2 trivial rfl (by simpa using ln2) ?_ ?_⟩
    · have e : leasesA (l.take (j + 1)) = leasesA (l.take j) ++ leaseA l[j] := by
        unfold leasesA
        rw [List.take_succ_eq_append_getElem hj, List.flatMap_append]
        simp only [List.flatMap_cons, List.flatMap_nil, List.append_nil]
      simp [e, Nat.add_mul]
    · simp [livH, livO, AV.livL, AV.liv, wkL, wkV, List.range']
  · intro _
    simp (maxSteps := 1000000) [rowL, hho, -List.reduceReplicate]
    refine Ret.sel [0, 2] (fun _ => false) (ho := by rfl) (ha := by rfl) ?_ ?_ (by decide) (by simp) (fun i _ h => by have e : i = 0 := (by simpa using h); subst e; rfl) ⟨rfl, ?_⟩
    · simp
    · simp
    · simp [rowL]
theorem collect_lease (l : List LeaseS) (hl : l.length ≤ 5864062014805) : ACalls Try.prog 54 [.clo (.func 56) [] [.ptr 0 0 1]] [.o .box [.fs 3 l.length (leasesA l)]] (fun k => decide (k < 1)) (fun r h' => r = .sl 1 3 0 l.length (l.length * 3) ∧ h' = [.o .box [.fs 3 l.length (leasesA l)], rowL l]) := by
  refine acalls mixed Try.func54 rfl Try.ntmps54 rfl fun E hE hst hho => ?_
  simp [hho, -List.reduceReplicate]
  refine call_x [0] (appendSeq_lease l hl) rfl rfl ⟨rfl, rfl⟩ hho (by simp) (by decide) (by simp) (by simp) ?_
  simp [rowL, hho, -List.reduceReplicate]
  exact Ret.same ⟨rfl, by simp [rowL]⟩
end Go.Proofs.Ytglhmhpaoebifaa
