import Derived.Test.YtglhmhpaoebifaaBK
import Derived.Test.YtglhmhpaoebifaaBL
import Derived.Test.YtglhmhpaoebifaaRch
namespace Go.Proofs.Ytglhmhpaoebifaa
set_option linter.unusedVariables false
set_option linter.unusedSimpArgs false
open Go.RowKit
attribute [local simp] isCut_nil isCut_region isCut_seq isCut_block isCut_loop isCut_cond isCut_skip isCut_exit isCut_ret isCut_range swapK putK altK condK_bool pickP_bool stepP stepO onPure_some onPure_none onImpl_some onImpl_none stepC onGP_some onGP_none onGV_some condG mkG onIt_it nextP_ptr takeP_eq takeV_some takeN_none takeN_some takeG_some takeO_some altO_some pureV binV2 eqF eqOp ovlV ovl2 rowAt capV binV intBin strBin isSh shV fldV ixV sliceV slice3V loadAV nilV lenV callV unV convV viewS cellsH loadV fldCut AV.ung AV.ungs AV.gc AV.cells AS.ev AS.put anyS gcsV lens lnO gV guardV retK RetP_eq resV oneV anyRo loIx hiIx implO callP_clo evL gcsL clearV storeAV AS.push AS.setO appV appZ shortS copyV buildV partsV fillV srcV fzO okV isCell_c isCell_ptr isCell_sl isCell_fs isCell_fp isCell_clo rowZ_one rowZ_zero rowZ_2 rowZ_3 rowZ_4 rowZ_5 rowZ_6 rowZ_7 rowZ_8 rowZ_9 rowZ_10 rowZ_11 rowZ_12 noHo Value.oneCell' max2V min2V afterH putBack frzFrom frzO rebO backIx nilEq_sl nilEq_fs nilOp_eql nilOp_neq AV.reb AV.rebL
attribute [local simp ↓] runK_skip runK_region runK_draw runK_seq runK_cut runK_cond runK_block runK_loop runK_exit runK_label runK_goto runK_ret runK_range contK_nil contK_seq contK_seq_ret contK_seq_exit contK_seq_goto contK_block contK_block_ret contK_block_goto contK_block_exit runO_nil runO_cons roundK_exit roundK_ret roundK_goto exitK_ret cutK_ret cutK_exit runE_done runE_nil runE_take runE_alt condG_true condG_false
set_option maxRecDepth 10000
def opnLease : Opn Try.prog 48 LeaseS :=
  (opnStruct Try.underlying48 rfl (opnCons 1 (opnInt .i64 Try.underlying3 (by kernel_rfl)) (by kernel_rfl) rfl (opnCons 1 (opnInt .i64 Try.underlying3 (by kernel_rfl)) (by kernel_rfl) rfl (opnCons 1 (opnInt .i64 Try.underlying3 (by kernel_rfl)) (by kernel_rfl) rfl (opnNil 3)))) (by kernel_rfl)).map
    (fun x : Int × Int × Int × Unit => (⟨x.1, x.2.1, x.2.2.1⟩ : LeaseS)) leaseA i64L (fun _ => rfl) (fun x h => ⟨bounds_i64 h.1, bounds_i64 h.2.1, bounds_i64 h.2.2.1⟩) fun _ => by kernel_rfl
def opnLeases : Opn Try.prog 22 (List LeaseS) :=
  (opnSlice opnLease 3 Try.underlying22 (by kernel_rfl) (by kernel_rfl) (by decide)).map id (fun l => [.fs 3 l.length (leasesA l)]) (fun l => l.length ≤ maxLen ∧ ∀ x ∈ l, i64L x) (fun _ => rfl) (fun l h => h) fun _ => by kernel_rfl
set_option maxHeartbeats 8000000 in
theorem waits_walk (l : List LeaseS) (hl : l.length ≤ 5864062014805) (hx : ∀ x ∈ l, i64L x) (version : Int) (hv : i64ok version) (now : Int) : ACalls Try.prog 3 [.fs 3 l.length (leasesA l), .c (.int .i64 version), .c (.int .i64 now)] [] (fun _ => false) (fun r h' => r = .c (.bool true)) := by
  refine acalls mixed Try.func3 rfl Try.ntmps3 rfl fun E hE hst hho => ?_
  simp (maxSteps := 1000000) [hho, -List.reduceReplicate]
  refine call_plain (fun _ => false) first_lease (ha := by rfl) (by simp) ?_
  rintro r h' ⟨rfl, rfl⟩
  refine ⟨rfl, ?_⟩
  simp (maxSteps := 1000000) [hho, -List.reduceReplicate]
  obtain ⟨d, hd⟩ : ∃ d, d = stabS ltL l := ⟨_, rfl⟩
  have hdl : d.length ≤ 5864062014805 := by rw [hd]; simpa using hl
  by_cases hok : NewOk d
  · have hnew := new_core l hl (fun r h' => r = .tup [.ptr 0 0 1, .c (.int .i64 0)] ∧ h' = bookO d) (fun _ => ⟨rfl, by rw [hd]⟩) fun h => absurd (by rw [← hd]; exact hok) h
    refine call_x [] hnew rfl rfl ⟨rfl, rfl⟩ hho (by simp) (by decide) (by simp) (by simp) ?_
    by_cases hnow : now < 0 ∨ 1125899906842624 < now
    · rcases hnow with hn0 | hn1
      · simp (maxSteps := 1000000) [bookO, rowL, hho, hn0, -List.reduceReplicate]
        exact Ret.drop (by rfl) rfl
      · have hn0 : ¬ now < 0 := by omega
        simp (maxSteps := 1000000) [bookO, rowL, hho, hn0, hn1, -List.reduceReplicate]
        exact Ret.drop (by rfl) rfl
    · have hn0 : ¬ now < 0 := fun h => hnow (.inl h)
      have hn1 : ¬ 1125899906842624 < now := fun h => hnow (.inr h)
      simp (maxSteps := 1000000) [bookO, rowL, hho, hn0, hn1, -List.reduceReplicate]
      refine call_x [0, 1] (wait_book d hdl version now hv) rfl rfl ⟨rfl, rfl⟩ hho (by simp) (by decide) (by simp) (by simp [bookO]) ?_
      obtain ⟨w, hw⟩ : ∃ w, w = waitS d version now := ⟨_, rfl⟩
      have hb : ∀ x ∈ d, x.u ≤ 9223372036854775807 := by
        rw [hd]
        exact stabS_all ltL (Q := fun x => x.u ≤ 9223372036854775807) fun x h => (hx x h).2.2.2
      obtain ⟨w1, w2⟩ := wait_law d version now (by omega) hb w hw
      rw [← hw]
      by_cases hw0 : w = 0
      · simp (maxSteps := 1000000) [bookO, rowL, hho, hw0, -List.reduceReplicate]
        refine call_x [0, 1] (may_book d hdl version now hv) rfl rfl ⟨rfl, rfl⟩ hho (by simp) (by decide) (by simp) (by simp [bookO]) ?_
        rw [w1 hw0]
        simp (maxSteps := 1000000) [bookO, rowL, hho, -List.reduceReplicate]
        exact Ret.drop (by rfl) rfl
      · obtain ⟨a1, a2, a3, a4, a5⟩ := w2 hw0
        have eww : IntKind.i64.wrap (w - 1) = w - 1 := IntWalk.i64_in _ (by omega)
        simp (maxSteps := 1000000) [bookO, rowL, hho, hw0, a1, -List.reduceReplicate]
        refine call_x [0, 1] (may_book d hdl version now hv) rfl rfl ⟨rfl, rfl⟩ hho (by simp) (by decide) (by simp) (by simp [bookO]) ?_
        rw [a3]
        simp (maxSteps := 1000000) [bookO, rowL, hho, -List.reduceReplicate]
        refine call_x [0, 1] (may_book d hdl version w hv) rfl rfl ⟨rfl, rfl⟩ hho (by simp) (by decide) (by simp) (by simp [bookO]) ?_
        rw [a4]
        simp (maxSteps := 1000000) [bookO, rowL, hho, eww, -List.reduceReplicate]
        refine call_x [0, 1] (may_book d hdl version (w - 1) hv) rfl rfl ⟨rfl, rfl⟩ hho (by simp) (by decide) (by simp) (by simp [bookO]) ?_
        rw [a5]
        simp (maxSteps := 1000000) [bookO, rowL, hho, -List.reduceReplicate]
        exact Ret.drop (by rfl) rfl
  · have hnew := new_core l hl (fun r h' => r = .tup [.c (.pointer none), .c (.int .i64 2)] ∧ h' = []) (fun h => absurd (by rw [← hd] at h; exact h) hok) fun _ => ⟨rfl, rfl⟩
    refine call_x [] hnew rfl rfl ⟨rfl, rfl⟩ hho (by simp) (by decide) (by simp) (by simp) ?_
    simp (maxSteps := 1000000) [hho, undef, onGP_none, condG_false, -List.reduceReplicate]
    exact Ret.drop (by rfl) rfl
theorem waits_of (l : List LeaseS) (h : l.length ≤ maxLen ∧ ∀ x ∈ l, i64L x) (hr : l.length * Try.prog.bytesOf 48 ≤ reachBytes) (version : Int) (hv : i64ok version) (now : Int) (_ : i64ok now) : ACalls Try.prog 3 [.fs 3 l.length (leasesA l), .c (.int .i64 version), .c (.int .i64 now)] [] (fun _ => false) (fun r h' => r = .c (.bool true)) :=
  waits_walk l (by rw [show Try.prog.bytesOf 48 = 24 from by kernel_rfl] at hr; unfold reachBytes at hr; omega) h.2 version hv now
end Go.Proofs.Ytglhmhpaoebifaa
