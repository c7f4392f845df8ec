import Derived.Test.YtglhmhpaoebifaaBH
import Derived.Test.YtglhmhpaoebifaaBI
namespace Go.Proofs.Ytglhmhpaoebifaa
set_option linter.unusedVariables false
set_option linter.unusedSimpArgs false
open Go.RowKit
attribute [local simp] isCut_nil isCut_region isCut_seq isCut_block isCut_loop isCut_cond isCut_skip isCut_exit isCut_ret isCut_range swapK putK altK condK_bool pickP_bool stepP stepO onPure_some onPure_none onImpl_some onImpl_none stepC onGP_some onGP_none onGV_some condG mkG onIt_it nextP_ptr takeP_eq takeV_some takeN_none takeN_some takeG_some takeO_some altO_some pureV binV2 eqF eqOp ovlV ovl2 rowAt capV binV intBin strBin isSh shV fldV ixV sliceV slice3V loadAV nilV lenV callV unV convV viewS cellsH loadV fldCut AV.ung AV.ungs AV.gc AV.cells AS.ev AS.put anyS gcsV lens lnO gV guardV retK RetP_eq resV oneV anyRo loIx hiIx implO callP_clo evL gcsL clearV storeAV AS.push AS.setO appV appZ shortS copyV buildV partsV fillV srcV fzO okV isCell_c isCell_ptr isCell_sl isCell_fs isCell_fp isCell_clo rowZ_one rowZ_zero rowZ_2 rowZ_3 rowZ_4 rowZ_5 rowZ_6 rowZ_7 rowZ_8 rowZ_9 rowZ_10 rowZ_11 rowZ_12 noHo Value.oneCell' max2V min2V afterH putBack frzFrom frzO rebO backIx nilEq_sl nilEq_fs nilOp_eql nilOp_neq AV.reb AV.rebL
attribute [local simp ↓] runK_skip runK_region runK_draw runK_seq runK_cut runK_cond runK_block runK_loop runK_exit runK_label runK_goto runK_ret runK_range contK_nil contK_seq contK_seq_ret contK_seq_exit contK_seq_goto contK_block contK_block_ret contK_block_goto contK_block_exit runO_nil runO_cons roundK_exit roundK_ret roundK_goto exitK_ret cutK_ret cutK_exit runE_done runE_nil runE_take runE_alt condG_true condG_false
set_option maxRecDepth 10000
theorem st2 : ∀ (n i : Nat), i < n → decide (i < 2) = true → ([0, 1] : List Nat)[i]? = some i := by
  intro n i _ h
  match i, h with
  | 0, _ => rfl
  | 1, _ => rfl
  | i + 2, h => exact absurd (of_decide_eq_true h : i + 2 < 2) (by omega)
theorem find_book (l : List LeaseS) (hl : l.length ≤ 5864062014805) (k : Int) : ACalls Try.prog 36 [.ptr 0 0 1, .c (.int .i64 k)] (bookO l) (fun k => decide (k < 2)) (fun r h' => r = .tup [.c (.int .i64 (findI l k)), .c (.bool (findH l k))] ∧ h' = bookO l) := by
  refine acalls mixed Try.func36 rfl Try.ntmps36 rfl fun E hE hst hho => ?_
  simp (maxSteps := 1000000) [bookO, rowL, hho, noHo, -List.reduceReplicate]
  refine call_x [1] (search_lease l l.length rfl hl ⟨k, 0, 0⟩) rfl rfl ⟨rfl, rfl⟩ hho (by simp) (by decide) (by simp) (by simp) ?_
  simp (maxSteps := 1000000) [rowL, hho, -List.reduceReplicate]
  exact Ret.same ⟨rfl, rfl⟩
theorem get_book (l : List LeaseS) (hl : l.length ≤ 5864062014805) (k now : Int) (x : LeaseS) (hF : findH l k = true) (hx : l[findI l k]? = some x) : ACalls Try.prog 16 [.ptr 0 0 1, .c (.int .i64 k), .c (.int .i64 now)] (bookO l) (fun k => decide (k < 2)) (fun r h' => r = .tup [.c (.int .i64 (if now < x.u then x.v else 0)), .c (.bool (decide (now < x.u)))] ∧ h' = bookO l) := by
  refine acalls mixed Try.func16 rfl Try.ntmps16 rfl fun E hE hst hho => ?_
  obtain ⟨hil, hxe⟩ := List.getElem?_eq_some_iff.1 hx
  have hat := leasesA_at l _ hil
  obtain ⟨i, hi⟩ : ∃ i, i = findI l k := ⟨_, rfl⟩
  simp (maxSteps := 1000000) [bookO, rowL, hho, noHo, -List.reduceReplicate]
  refine call_x [0, 1] (find_book l hl k) rfl rfl ⟨rfl, rfl⟩ hho (by simp) (by decide) (by simp) (by simp [bookO]) ?_
  rw [hF]
  simp only [hxe] at hat
  rw [← hi] at hat hil ⊢
  have hii : (i : Int) < l.length := by omega
  have el : i * 3 + 3 ≤ l.length * 3 := by omega
  have h3 : List.take 3 (leaseA x) = leaseA x := rfl
  have hv : (leasesA l)[i * 3 + 1]? = some (.c (.int .i64 x.v)) := by
    have h2 : (List.take 3 (List.drop (i * 3) (leasesA l)))[1]? = (leaseA x)[1]? := by rw [hat]
    rw [List.getElem?_take, if_pos (by decide), List.getElem?_drop] at h2
    exact h2
  simp (maxSteps := 1000000) [bookO, rowL, hho, hii, hil, hat, el, h3, -List.reduceReplicate]
  refine call_plain (fun _ => false) (lives_lease x now) (ha := by rfl) (by simp) ?_
  rintro r h' ⟨rfl, rfl⟩
  refine ⟨rfl, ?_⟩
  by_cases hg : now < x.u
  · simp (maxSteps := 1000000) [hho, hg, hii, hil, hv, el, -List.reduceReplicate]
    refine ⟨by omega, ?_⟩
    exact Ret.same ⟨by simp, rfl⟩
  · simp (maxSteps := 1000000) [hho, hg, -List.reduceReplicate]
    exact Ret.same ⟨by simp, rfl⟩
theorem give_none (l : List LeaseS) (hl : l.length ≤ 5864062014805) (k : Int) (hF : findH l k = false) : ACalls Try.prog 17 [.ptr 0 0 1, .c (.int .i64 k)] (bookO l) (fun k => decide (k < 2)) (fun r h' => r = .c (.bool false) ∧ h' = bookO l) := by
  refine acalls mixed Try.func17 rfl Try.ntmps17 rfl fun E hE hst hho => ?_
  simp (maxSteps := 1000000) [bookO, rowL, hho, noHo, -List.reduceReplicate]
  refine call_x [0, 1] (find_book l hl k) rfl rfl ⟨rfl, rfl⟩ hho (by simp) (by decide) (by simp) (by simp [bookO]) ?_
  rw [hF]
  simp (maxSteps := 1000000) [bookO, rowL, hho, -List.reduceReplicate]
  exact Ret.same ⟨rfl, rfl⟩
theorem take_has (l : List LeaseS) (hl : l.length ≤ 5864062014805) (y x : LeaseS) (hr : rightL y = true) (hF : findH l y.s = true) (hx : l[findI l y.s]? = some x) : ACalls Try.prog 11 [.ptr 0 0 1, .c (.int .i64 y.s), .c (.int .i64 y.v), .c (.int .i64 y.u)] (bookO l) (fun k => decide (k < 2)) (fun r h' => r = .c (.int .i64 (if y.v < x.v then 122 else 0)) ∧ h' = bookO (if y.v < x.v then l else l.set (findI l y.s) y)) := by
  refine acallsC [] mixed Try.func11 rfl Try.ntmps11 rfl fun E hE hst hho => ?_
  obtain ⟨hil, hxe⟩ := List.getElem?_eq_some_iff.1 hx
  have hat := leasesA_at l _ hil
  obtain ⟨i, hi⟩ : ∃ i, i = findI l y.s := ⟨_, rfl⟩
  simp (maxSteps := 1000000) [bookO, rowL, hho, noHo, -List.reduceReplicate]
  refine call_x [0, 1] (find_book l hl y.s) rfl rfl ⟨rfl, rfl⟩ hho (by simp) (by decide) (by simp) (by simp [bookO]) ?_
  rw [hF]
  simp only [hxe] at hat
  rw [← hi] at hat hil ⊢
  have hii : (i : Int) < l.length := by omega
  have el : i * 3 + 3 ≤ l.length * 3 := by omega
  have hv : (leasesA l)[i * 3 + 1]? = some (.c (.int .i64 x.v)) := by
    have h2 : (List.take 3 (List.drop (i * 3) (leasesA l)))[1]? = (leaseA x)[1]? := by rw [hat]
    rw [List.getElem?_take, if_pos (by decide), List.getElem?_drop] at h2
    exact h2
  simp (maxSteps := 1000000) [bookO, rowL, hho, -List.reduceReplicate]
  refine call_plain (fun _ => false) (right_lease y) (ha := by rfl) (by simp) ?_
  rintro r h' ⟨rfl, rfl⟩
  refine ⟨rfl, ?_⟩
  have hs := leasesA_set' l i hil y
  by_cases hg : y.v < x.v
  · simp (maxSteps := 1000000) [hho, hr, hg, hii, hil, hv, el, -List.reduceReplicate]
    refine ⟨by omega, ?_⟩
    refine Ret.sel [0, 1] (fun _ => false) (ho := by rfl) (ha := by rfl) ?_ ?_ (by decide) (by simp) (st2 _) ⟨by simp, rfl⟩
    · simp
    · simp
  · simp (maxSteps := 1000000) [hho, hr, hg, hii, hil, hv, el, -List.reduceReplicate]
    refine ⟨by omega, ?_⟩
    refine draw_k hho (.take 0 (.take 1 (.take 2 (.take 3 (.take 4 (.take 5 (.take 6 (.alt 7 (.done) (.nil))))))))) [0, 2] [(7, [1])] (by decide +kernel) (by simp) ?_
    simp only [leaseA, List.cons_append, List.nil_append] at hs
    simp (maxSteps := 1000000) [hho, hii, hil, hs, el, roOf, holdOf, wrOf, altK, heldOk, Region.binds, -List.reduceReplicate]
    intro _
    refine Ret.sel [0, 1] (fun _ => false) (ho := by rfl) (ha := by rfl) ?_ ?_ (by decide) (by simp) (st2 _) ⟨rfl, ?_⟩
    · simp
    · simp
    · simp
theorem expire_book (l : List LeaseS) (hl : l.length ≤ 5864062014805) (now : Int) : ACalls Try.prog 12 [.ptr 0 0 1, .c (.int .i64 now)] (bookO l) (fun k => decide (k = 0)) (fun r h' => r = .c (.int .i64 ((l.length : Int) - (liveL l now).length)) ∧ h' = bookO (liveL l now)) := by
  refine acalls mixed Try.func12 rfl Try.ntmps12 rfl fun E hE hst hho => ?_
  simp (maxSteps := 1000000) [bookO, rowL, hho, noHo, -List.reduceReplicate]
  refine callG_less 0 [.any] (slotsOf 29 [(0, .ptr 0 0 1), (3, .ptr 2 0 1), (5, .c (.int .i64 l.length)), (13, .ptr 0 0 1)]) rfl (by simp [livH, livO, AV.livL, AV.liv, wkL, wkV, List.range']) (by simp [livH, livO, AV.livL, AV.liv, wkL, wkV, List.range', slotsOf]) ?_
  refine call_d [1, 2] (fun _ => false) [1] (deleteFunc_lease l l.length rfl hl now) rfl rfl ⟨rfl, rfl⟩ hho (fun i k h => ?_) (by simp [livH, livO, AV.livL, AV.liv, wkL, wkV, List.range', slotsOf]) (by simp [livH, livO, AV.livL, AV.liv, wkL, wkV, List.range']) (by simp [hst]) (by decide) (by decide) (by simp) (by simp) ?_
  · match i, h with
    | 0, h => simp at h; subst h; exact .inr (by simp)
    | 1, h => exact .inl rfl
    | i + 2, h => simp at h
  have hle : (liveL l now).length ≤ l.length := List.length_filter_le _ _
  have ew : IntKind.i64.wrap ((l.length : Int) - (liveL l now).length) = (l.length : Int) - (liveL l now).length := IntWalk.i64_in _ (by omega)
  simp (maxSteps := 1000000) [rowL, nowO, slotsOf, hho, ew, -List.reduceReplicate]
  refine Ret.sel [0, 1] (fun _ => false) (ho := by rfl) (ha := by rfl) ?_ ?_ (by decide) (by simp) (fun i _ h => ?_) ⟨rfl, ?_⟩
  · simp
  · simp
  · have e : i = 0 := of_decide_eq_true h
    subst e; rfl
  · simp
end Go.Proofs.Ytglhmhpaoebifaa
