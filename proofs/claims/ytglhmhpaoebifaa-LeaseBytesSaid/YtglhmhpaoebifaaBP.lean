import Derived.Test.YtglhmhpaoebifaaBN
import Derived.Test.YtglhmhpaoebifaaBO
namespace Go.Proofs.Ytglhmhpaoebifaa
set_option linter.unusedVariables false
set_option linter.unusedSimpArgs false
open Go.RowKit
attribute [local simp] isCut_nil isCut_region isCut_seq isCut_block isCut_loop isCut_cond isCut_skip isCut_exit isCut_ret isCut_range swapK putK altK condK_bool pickP_bool stepP stepO onPure_some onPure_none onImpl_some onImpl_none stepC onGP_some onGP_none onGV_some condG mkG onIt_it nextP_ptr takeP_eq takeV_some takeN_none takeN_some takeG_some takeO_some altO_some pureV binV2 eqF eqOp ovlV ovl2 rowAt capV binV intBin strBin isSh shV fldV ixV sliceV slice3V loadAV nilV lenV callV unV convV viewS cellsH loadV fldCut AV.ung AV.ungs AV.gc AV.cells AS.ev AS.put anyS gcsV lens lnO gV guardV retK RetP_eq resV oneV anyRo loIx hiIx implO callP_clo evL gcsL clearV storeAV AS.push AS.setO appV appZ shortS copyV buildV partsV fillV srcV fzO okV isCell_c isCell_ptr isCell_sl isCell_fs isCell_fp isCell_clo rowZ_one rowZ_zero rowZ_2 rowZ_3 rowZ_4 rowZ_5 rowZ_6 rowZ_7 rowZ_8 rowZ_9 rowZ_10 rowZ_11 rowZ_12 noHo Value.oneCell' max2V min2V afterH putBack frzFrom frzO rebO backIx nilEq_sl nilEq_fs nilOp_eql nilOp_neq AV.reb AV.rebL
attribute [local simp ↓] runK_skip runK_region runK_draw runK_seq runK_cut runK_cond runK_block runK_loop runK_exit runK_label runK_goto runK_ret runK_range contK_nil contK_seq contK_seq_ret contK_seq_exit contK_seq_goto contK_block contK_block_ret contK_block_goto contK_block_exit runO_nil runO_cons roundK_exit roundK_ret roundK_goto exitK_ret cutK_ret cutK_exit runE_done runE_nil runE_take runE_alt condG_true condG_false
set_option maxRecDepth 10000
/-! ## Take, Give -/
theorem ACalls.grow {P : Program} {f : FuncId} {args : List AV} {h : List AObj} {st st' : Nat → Bool} {Post : AV → List AObj → Prop} (hc : ACalls P f args h st Post)
    (hs : ∀ i, st' i = true → st i = true ∨ ∀ r h', Post r h' → ∀ m, (lens h)[i]? = some m → ∃ m', (lens h')[i]? = some m' ∧ m < m') : ACalls P f args h st' Post := by
  intro G F w vs hh hf hr
  refine (hc G F w vs hh hf hr).mono fun e w' ⟨x, r, h', G', F', e1, e2, e3, e4, e5⟩ => ⟨x, r, h', G', F', e1, ⟨e2.heap, e2.mod, e2.sup, e2.fsup, e2.f0, e2.fc⟩, e3, fun i m hi hm => ?_, e5⟩
  rcases hs i hi with h1 | h1
  · exact e4 i m h1 hm
  · exact .inr (h1 r h' e5 m hm)
def insAt (l : List LeaseS) (i : Nat) (x : LeaseS) : List LeaseS := l.take i ++ x :: l.drop i
theorem insAt_length (l : List LeaseS) (i : Nat) (x : LeaseS) (hi : i ≤ l.length) : (insAt l i x).length = l.length + 1 := by simp [insAt]; omega
theorem insert_lease (l : List LeaseS) (x : LeaseS) (i : Nat) (hi : i ≤ l.length) (hl : l.length ≤ 5864062014804) : ACalls Try.prog 37 [.sl 0 3 0 l.length (l.length * 3), .c (.int .i64 (i : Int)), .sl 1 3 0 1 3] [rowL l, rowL [x]] (fun k => decide (k < 2)) (fun q h' => q = .sl 0 3 0 (l.length + 1) ((l.length + 1) * 3) ∧ h' = [rowL (insAt l i x), rowL [x]]) := by
  have key : ACalls Try.prog 37 [.sl 0 3 0 l.length (l.length * 3), .c (.int .i64 (i : Int)), .sl 1 3 0 1 3] [rowL l, rowL [x]] (fun k => decide (k = 1)) (fun q h' => q = .sl 0 3 0 (l.length + 1) ((l.length + 1) * 3) ∧ h' = [rowL (insAt l i x), rowL [x]]) := by
    rcases Nat.lt_or_ge i l.length with h | h
    · have := insert_mid (l.take i) (l.drop i) x i (l.length - i - 1) l.length (by simp; omega) (by simp; omega) (by omega) hl
      rw [List.take_append_drop] at this
      exact this
    · obtain rfl : i = l.length := by omega
      have e : insAt l l.length x = l ++ [x] := by simp [insAt]
      rw [e]
      rcases Nat.eq_zero_or_pos l.length with h0 | h0
      · obtain rfl : l = [] := List.eq_nil_of_length_eq_zero h0
        exact insert_nil x
      · exact insert_end l x l.length rfl h0 hl
  refine key.grow fun k hk => ?_
  have hk : k < 2 := of_decide_eq_true hk
  match k, hk with
  | 0, _ =>
    refine .inr fun r h' ⟨_, e⟩ m hm => ?_
    subst e
    simp [lens, lnO, rowL, insAt_length l i x hi] at hm ⊢
    omega
  | 1, _ => exact .inl rfl
set_option maxHeartbeats 4000000 in
theorem take_new (l : List LeaseS) (hl : l.length ≤ 5864062014804) (y : LeaseS) (hr : rightL y = true) (hF : findH l y.s = false) : ACalls Try.prog 11 [.ptr 0 0 1, .c (.int .i64 y.s), .c (.int .i64 y.v), .c (.int .i64 y.u)] (bookO l) (fun k => decide (k < 2)) (fun r h' => r = .c (.int .i64 0) ∧ h' = bookO (insAt l (findI l y.s) y)) := by
  refine acallsC [] mixed Try.func11 rfl Try.ntmps11 rfl fun E hE hst hho => ?_
  have hle := findI_le l y.s
  have hil := insAt_length l (findI l y.s) y hle
  obtain ⟨i, hi⟩ : ∃ i, i = findI l y.s := ⟨_, rfl⟩
  simp (maxSteps := 1000000) [bookO, rowL, hho, noHo, -List.reduceReplicate]
  refine call_x [0, 1] (find_book l (by omega) y.s) rfl rfl ⟨rfl, rfl⟩ hho (by simp) (by decide) (by simp) (by simp [bookO]) ?_
  rw [hF]
  rw [← hi] at hle hil ⊢
  simp (maxSteps := 1000000) [bookO, rowL, hho, -List.reduceReplicate]
  refine call_plain (fun _ => false) (right_lease y) (ha := by rfl) (by simp) ?_
  rintro r h' ⟨rfl, rfl⟩
  refine ⟨rfl, ?_⟩
  have hcell : (∃ v : Int, (leasesA l)[i * 3 + 1]? = some (.c (.int .i64 v))) ∨ (leasesA l)[i * 3 + 1]? = none := by
    rcases Nat.lt_or_ge i l.length with h | h
    · left
      have hat := leasesA_at l i h
      have h2 : (List.take 3 (List.drop (i * 3) (leasesA l)))[1]? = (leaseA l[i])[1]? := by rw [hat]
      rw [List.getElem?_take, if_pos (by decide), List.getElem?_drop] at h2
      exact ⟨_, h2⟩
    · right
      exact List.getElem?_eq_none (by simp; omega)
  rcases hcell with ⟨v, hv⟩ | hv
  · simp (maxSteps := 1000000) [hho, hr, hv, undef, onGP_none, condG_false, -List.reduceReplicate]
    refine draw_k hho (.take 0 (.take 1 (.take 2 (.take 3 (.take 4 (.take 5 (.take 6 (.alt 7 (.alt 8 (.take 9 (.take 10 (.alt 11 (.done) (.nil)))) (.nil)) (.nil))))))))) [0, 2] [(8, [1]), (11, [0])] (by decide +kernel) (by simp) ?_
    simp (maxSteps := 1000000) [hho, roOf, holdOf, wrOf, altK, heldOk, Region.binds, -List.reduceReplicate]
    intro E1 E2
    refine call_h [1, 3] (insert_lease l y i hle hl) rfl rfl ⟨rfl, rfl⟩ (by simp) (by simp) (by decide) (by simp) (by simp) ?_
    simp (maxSteps := 1000000) [hho, rowL, roOf, holdOf, wrOf, altK, heldOk, Region.binds, -List.reduceReplicate]
    intro _
    rw [hil]
    refine Ret.sel [0, 1] (fun _ => false) (ho := by rfl) (ha := by rfl) ?_ ?_ (by decide) (by simp) (st2 _) ⟨rfl, rfl⟩
    · simp
    · simp
  · simp (maxSteps := 1000000) [hho, hr, hv, undef, onGP_none, condG_false, -List.reduceReplicate]
    refine draw_k hho (.take 0 (.take 1 (.take 2 (.take 3 (.take 4 (.take 5 (.take 6 (.alt 7 (.alt 8 (.take 9 (.take 10 (.alt 11 (.done) (.nil)))) (.nil)) (.nil))))))))) [0, 2] [(8, [1]), (11, [0])] (by decide +kernel) (by simp) ?_
    simp (maxSteps := 1000000) [hho, roOf, holdOf, wrOf, altK, heldOk, Region.binds, -List.reduceReplicate]
    intro E1 E2
    refine call_h [1, 3] (insert_lease l y i hle hl) rfl rfl ⟨rfl, rfl⟩ (by simp) (by simp) (by decide) (by simp) (by simp) ?_
    simp (maxSteps := 1000000) [hho, rowL, roOf, holdOf, wrOf, altK, heldOk, Region.binds, -List.reduceReplicate]
    intro _
    rw [hil]
    refine Ret.sel [0, 1] (fun _ => false) (ho := by rfl) (ha := by rfl) ?_ ?_ (by decide) (by simp) (st2 _) ⟨rfl, rfl⟩
    · simp
    · simp
theorem take_put (l : List LeaseS) (hl : l.length ≤ 5864062014804) (y : LeaseS) (hr : rightL y = true) (hv : ∀ x, findH l y.s = true → l[findI l y.s]? = some x → x.v ≤ y.v) : ACalls Try.prog 11 [.ptr 0 0 1, .c (.int .i64 y.s), .c (.int .i64 y.v), .c (.int .i64 y.u)] (bookO l) (fun k => decide (k < 2)) (fun r h' => r = .c (.int .i64 0) ∧ h' = bookO (putL l y)) := by
  cases hF : findH l y.s with
  | true =>
    obtain ⟨x, hx, hs⟩ := findH_at hF
    have h := take_has l (by omega) y x hr hF hx
    have hvx := hv x hF hx
    rw [if_neg (by omega), if_neg (by omega)] at h
    unfold putL
    rw [if_pos hF]
    exact h
  | false =>
    have h := take_new l hl y hr hF
    unfold putL
    rw [if_neg (by rw [hF]; decide)]
    exact h
end Go.Proofs.Ytglhmhpaoebifaa
