import Derived.Test.YtglhmhpaoebifaaBU
import Derived.Test.YtglhmhpaoebifaaBQ
namespace Go.Proofs.Ytglhmhpaoebifaa
set_option linter.unusedVariables false
set_option linter.unusedSimpArgs false
open Go.RowKit
attribute [local simp] isCut_nil isCut_region isCut_seq isCut_block isCut_loop isCut_cond isCut_skip isCut_exit isCut_ret isCut_range swapK putK altK condK_bool pickP_bool stepP stepO onPure_some onPure_none onImpl_some onImpl_none stepC onGP_some onGP_none onGV_some condG mkG onIt_it nextP_ptr takeP_eq takeV_some takeN_none takeN_some takeG_some takeO_some altO_some pureV binV2 eqF eqOp ovlV ovl2 rowAt capV binV intBin strBin isSh shV fldV ixV sliceV slice3V loadAV nilV lenV callV unV convV viewS cellsH loadV fldCut AV.ung AV.ungs AV.gc AV.cells AS.ev AS.put anyS gcsV lens lnO gV guardV retK RetP_eq resV oneV anyRo loIx hiIx implO callP_clo evL gcsL clearV storeAV AS.push AS.setO appV appZ shortS copyV buildV partsV fillV srcV fzO okV isCell_c isCell_ptr isCell_sl isCell_fs isCell_fp isCell_clo rowZ_one rowZ_zero rowZ_2 rowZ_3 rowZ_4 rowZ_5 rowZ_6 rowZ_7 rowZ_8 rowZ_9 rowZ_10 rowZ_11 rowZ_12 noHo Value.oneCell' max2V min2V afterH putBack frzFrom frzO rebO backIx nilEq_sl nilEq_fs nilOp_eql nilOp_neq AV.reb AV.rebL
attribute [local simp ↓] runK_skip runK_region runK_draw runK_seq runK_cut runK_cond runK_block runK_loop runK_exit runK_label runK_goto runK_ret runK_range contK_nil contK_seq contK_seq_ret contK_seq_exit contK_seq_goto contK_block contK_block_ret contK_block_goto contK_block_exit runO_nil runO_cons roundK_exit roundK_ret roundK_goto exitK_ret cutK_ret cutK_exit runE_done runE_nil runE_take runE_alt condG_true condG_false
set_option maxRecDepth 10000
/-! ## A book's acts, whole -/
def valO : Option LeaseS → Int
  | some x => x.v
  | none => 0
theorem get_none (l : List LeaseS) (hl : l.length ≤ 5864062014805) (k now : Int) (hF : findH l k = false) : ACalls Try.prog 16 [.ptr 0 0 1, .c (.int .i64 k), .c (.int .i64 now)] (bookO l) (fun k => decide (k < 2)) (fun r h' => r = .tup [.c (.int .i64 0), .c (.bool false)] ∧ h' = bookO l) := by
  refine acalls mixed Try.func16 rfl Try.ntmps16 rfl fun E hE hst hho => ?_
  obtain ⟨i, hi⟩ : ∃ i, i = findI l k := ⟨_, rfl⟩
  simp (maxSteps := 1000000) [bookO, rowL, hho, noHo, -List.reduceReplicate]
  refine call_x [0, 1] (find_book l hl k) rfl rfl ⟨rfl, rfl⟩ hho (by simp) (by decide) (by simp) (by simp [bookO]) ?_
  rw [hF, ← hi]
  simp (maxSteps := 1000000) [bookO, rowL, hho, undef, onGP_none, condG_false, -List.reduceReplicate]
  exact Ret.same ⟨rfl, rfl⟩
theorem get_any (l : List LeaseS) (h : BookOk l) (k now : Int) : ACalls Try.prog 16 [.ptr 0 0 1, .c (.int .i64 k), .c (.int .i64 now)] (bookO l) (fun k => decide (k < 2)) (fun r h' => r = .tup [.c (.int .i64 (valO (getL (liveL l now) k))), .c (.bool (getL (liveL l now) k).isSome)] ∧ h' = bookO l) := by
  have hl := book_len h
  cases hF : findH l k with
  | true =>
    obtain ⟨x, hs, hx, _, _, hg⟩ := find_split h.sorted hF
    have := get_book l (by omega) k now x hF hx
    rw [getL_live h.sorted k now hg]
    by_cases hn : now < x.u
    · rw [if_pos hn] at this ⊢
      simpa [valO, hn] using this
    · rw [if_neg hn] at this ⊢
      simpa [valO, hn] using this
  | false =>
    rw [getL_live_none (find_none h.sorted hF).2]
    exact get_none l (by omega) k now hF
theorem take_bad (l : List LeaseS) (hl : l.length ≤ 5864062014805) (y : LeaseS) (hr : rightL y = false) : ACalls Try.prog 11 [.ptr 0 0 1, .c (.int .i64 y.s), .c (.int .i64 y.v), .c (.int .i64 y.u)] (bookO l) (fun k => decide (k < 2)) (fun r h' => r = .c (.int .i64 2) ∧ h' = bookO l) := by
  refine acallsC [] mixed Try.func11 rfl Try.ntmps11 rfl fun E hE hst hho => ?_
  simp (maxSteps := 1000000) [bookO, rowL, hho, noHo, -List.reduceReplicate]
  refine call_x [0, 1] (find_book l hl y.s) rfl rfl ⟨rfl, rfl⟩ hho (by simp) (by decide) (by simp) (by simp [bookO]) ?_
  simp (maxSteps := 1000000) [bookO, rowL, hho, -List.reduceReplicate]
  refine call_plain (fun _ => false) (right_lease y) (ha := by rfl) (by simp) ?_
  rintro r h' ⟨rfl, rfl⟩
  refine ⟨rfl, ?_⟩
  simp (maxSteps := 1000000) [hho, hr, -List.reduceReplicate]
  refine Ret.sel [0, 1] (fun _ => false) (ho := by rfl) (ha := by rfl) ?_ ?_ (by decide) (by simp) (st2 _) ⟨rfl, rfl⟩
  · simp
  · simp
/-- what Take answers, and the book behind it -/
def takeE (l : List LeaseS) (y : LeaseS) : Int := if rightL y = true then (match getL l y.s with | some x => if y.v < x.v then 122 else 0 | none => 0) else 2
def takeL (l : List LeaseS) (y : LeaseS) : List LeaseS := if takeE l y = 0 then putL l y else l
theorem take_any (l : List LeaseS) (h : BookOk l) (y : LeaseS) : ACalls Try.prog 11 [.ptr 0 0 1, .c (.int .i64 y.s), .c (.int .i64 y.v), .c (.int .i64 y.u)] (bookO l) (fun k => decide (k < 2)) (fun r h' => r = .c (.int .i64 (takeE l y)) ∧ h' = bookO (takeL l y)) := by
  have hl := book_len h
  unfold takeL takeE
  cases hr : rightL y with
  | false => simpa using take_bad l (by omega) y hr
  | true =>
    cases hF : findH l y.s with
    | true =>
      obtain ⟨x, hs, hx, _, _, hg⟩ := find_split h.sorted hF
      have := take_has l (by omega) y x hr hF hx
      rw [hg]
      by_cases hv : y.v < x.v
      · simpa [hv] using this
      · simpa [hv, putL, hF] using this
    | false =>
      have := take_new l (by omega) y hr hF
      rw [(find_none h.sorted hF).2]
      simpa [putL, hF, insAt] using this
theorem give_any (l : List LeaseS) (h : BookOk l) (k : Int) : ACalls Try.prog 17 [.ptr 0 0 1, .c (.int .i64 k)] (bookO l) (fun k => decide (k = 0)) (fun r h' => r = .c (.bool (getL l k).isSome) ∧ h' = bookO (l.filter fun y => decide (y.s ≠ k))) := by
  have hl := book_len h
  cases hF : findH l k with
  | true =>
    obtain ⟨x, hs, hx, _, hf, hg⟩ := find_split h.sorted hF
    rw [hf, hg]
    exact give_has l (by omega) k hF
  | false =>
    obtain ⟨h1, h2⟩ := find_none h.sorted hF
    rw [h1, h2]
    have := give_none l (by omega) k hF
    intro G F w vs a b c
    refine (this G F w vs a b c).mono fun e w' ⟨x, r, h', G', F', e1, e2, e3, e4, e5⟩ => ⟨x, r, h', G', F', e1, ⟨e2.heap, e2.mod, e2.sup, e2.fsup, e2.f0, e2.fc⟩, e3, fun i m hi hm => e4 i m (by
      have hi : i = 0 := of_decide_eq_true hi
      subst hi; rfl) hm, e5⟩
theorem leasesA_setv (l : List LeaseS) (j : Nat) (hj : j < l.length) : List.take (j * 3 + 1) (leasesA l) ++ ((AV.c (.int .i64 77)) :: List.drop (j * 3 + 1 + 1) (leasesA l)) = leasesA (l.set j ⟨l[j].s, 77, l[j].u⟩) := by
  have e : leasesA l = (leasesA (l.take j) ++ [AV.c (.int .i64 l[j].s)]) ++ (AV.c (.int .i64 l[j].v) :: ([AV.c (.int .i64 l[j].u)] ++ leasesA (l.drop (j + 1)))) := by
    conv => lhs; rw [← List.take_append_drop j l, ← List.getElem_cons_drop hj, leasesA_app, leasesA_cons]
    simp [leaseA]
  have h1 : (leasesA (l.take j) ++ [AV.c (.int .i64 l[j].s)]).length = j * 3 + 1 := by simp; omega
  have h2 : List.take (j * 3 + 1) (leasesA l) = leasesA (l.take j) ++ [AV.c (.int .i64 l[j].s)] := by rw [e, List.take_left' h1]
  have h3 : List.drop (j * 3 + 1 + 1) (leasesA l) = [AV.c (.int .i64 l[j].u)] ++ leasesA (l.drop (j + 1)) := by
    rw [← List.drop_drop, e, List.drop_left' h1]; rfl
  rw [h2, h3, List.set_eq_take_append_cons_drop, if_pos hj, leasesA_app, leasesA_cons]
  simp [leaseA]
end Go.Proofs.Ytglhmhpaoebifaa
