import Derived.Test.YtlepkpfbejfpiaaDoorH3
import Derived.Test.YtlepkpfbejfpiaaDoorH2
import Derived.Test.YtlepkpfbejfpiaaDoorYV4
import Derived.Test.YtlepkpfbejfpiaaDoorYV5
import Derived.Test.YtlepkpfbejfpiaaDoorYV6
namespace Go.Proofs.YtlepkpfbejfpiaaDoor
set_option linter.unusedVariables false
set_option linter.unusedSimpArgs false
open Go.RowKit
attribute [local simp] isCut_nil isCut_region isCut_seq isCut_block isCut_loop isCut_cond isCut_skip isCut_exit isCut_ret isCut_range swapK putK altK condK_bool pickP_bool stepP stepO onPure_some onPure_none onImpl_some onImpl_none stepC onGP_some onGP_none onGV_some condG mkG onIt_it nextP_ptr takeP_eq takeV_some takeV_none takeU_some takeU_none takeQ takeW_some takeN_none takeN_some takeG_some takeO_some altO_some pureV binV2 eqF eqOp ovlV ovl2 rowAt capV binV intBin strBin isSh shV fldV ixV sliceV slice3V loadAV nilV lenV callV unV convV viewS cellsH loadV fldCut AV.ung AV.ungs AV.gc AV.cells AS.ev AS.put anyS gcsV lens lnO gV guardV retK RetP_eq resV oneV anyRo loIx hiIx implO callP_clo evL gcsL clearV storeAV AS.push AS.setO appV appZ shortS copyV buildV partsV fillV srcV fzO okV isCell_c isCell_ptr isCell_sl isCell_fs isCell_fp isCell_clo rowZ_one rowZ_zero rowZ_2 rowZ_3 rowZ_4 rowZ_5 rowZ_6 rowZ_7 rowZ_8 rowZ_9 rowZ_10 rowZ_11 rowZ_12 noHo Value.oneCell' max2V min2V afterH putBack frzFrom frzO rebO backIx nilEq_sl nilEq_fs nilOp_eql nilOp_neq AV.reb AV.rebL
attribute [local simp ↓] runK_skip runK_region runK_draw runK_seq runK_cut runK_cond runK_block runK_loop runK_exit runK_label runK_goto runK_ret runK_range contK_nil contK_seq contK_seq_ret contK_seq_exit contK_seq_goto contK_block contK_block_ret contK_block_goto contK_block_exit runO_nil runO_cons roundK_exit roundK_ret roundK_goto exitK_ret cutK_ret cutK_exit runE_done runE_nil runE_take runE_alt condG_true condG_false
set_option maxRecDepth 10000
set_option maxHeartbeats 8000000 in
theorem rightRef_w (s : StmtS) (h : FitS s) : ACalls Tryd.prog 19 [.agg (stmtA s)] [] (fun _ => false) (fun r h' => r = .c (.bool (rightS s)) ∧ h' = []) := by
  refine acallsE mixed Tryd.func19 rfl Tryd.ntmps19 rfl fun E hE hst hho => ?_
  refine ew_cut mixed 3 (fun _ : Unit => ⟨slotsOf 376 [(1, .ptr 0 0 15), (3, .c (.int .i64 s.kind))], [.o .box (stmtA s)]⟩) (fun _ => 0 ≤ s.kind ∧ s.kind ≤ 9 ∧ LenP s) rfl ?_ (OnC.out (rr_0 s h hE hho) rfl)
  rintro _ ⟨hk0, hk9, hL⟩
  obtain ⟨a1, a2, a3, a4, a5, a6, a7, a8, a9, a10⟩ := id hL
  refine ew_cut mixed 1 (fun _ : Unit => ⟨slotsOf 376 [(1, .ptr 0 0 15), (3, .c (.int .i64 s.kind))], [.o .box (stmtA s)]⟩) (fun _ => (s.kind = 9 ↔ s.tab = { data := #[] }) ∧ (s.kind ≠ 9 → nameOk s.tab = true)) rfl ?_ (OnC.out (rr_1 s h hk0 hk9 hL hE hho) rfl)
  rintro _ ⟨ft1, ft2⟩
  refine ew_cut mixed 1 (fun _ : Unit => ⟨slotsOf 376 [(1, .ptr 0 0 15), (3, .c (.int .i64 s.kind)), (4, .c (.bool (decide (named s.kind))))], [.o .box (stmtA s)]⟩) (fun _ => True) rfl ?_ (OnC.out (rr_2 s h hk0 hk9 hL hE hho) rfl)
  intro _ _
  refine ew_cut mixed 1 (fun _ : Unit => ⟨slotsOf 376 [(1, .ptr 0 0 15), (3, .c (.int .i64 s.kind)), (4, .c (.bool (decide (named s.kind))))], [.o .box (stmtA s)]⟩) (fun _ => (named s.kind ↔ ¬ s.name = { data := #[] }) ∧ (named s.kind → nameOk s.name = true) ∧ (s.uniq = true → s.kind = 1)) rfl ?_ (OnC.out (rr_3 s h hk0 hk9 hL hE hho) rfl)
  rintro _ ⟨fn1, fn2, fn3⟩
  refine ew_cut mixed 1 (fun _ : Unit => ⟨slotsOf 376 [(1, .ptr 0 0 15), (3, .c (.int .i64 s.kind)), (4, .c (.bool (decide (named s.kind))))], [.o .box (stmtA s)]⟩) (fun _ => (s.kind = 1 ∨ s.kind = 6) ↔ 0 < s.names.length) rfl ?_ (OnC.out (rr_4 s h hk0 hk9 hL hE hho) rfl)
  intro _ fl1
  refine ew_cut mixed 1 (fun _ : Unit => ⟨slotsOf 376 [(1, .ptr 0 0 15), (3, .c (.int .i64 s.kind)), (4, .c (.bool (decide (named s.kind))))], [.o .box (stmtA s)]⟩) (fun _ => ∀ x ∈ s.names, nameOk x = true) rfl ?_ (OnC.out (rr_5 s h hk0 hk9 hL hE hho) rfl)
  intro _ fl2
  refine ew_cut mixed 1 (fun _ : Unit => ⟨slotsOf 376 [(1, .ptr 0 0 15), (3, .c (.int .i64 s.kind)), (4, .c (.bool (decide (named s.kind))))], [.o .box (stmtA s)]⟩) (fun _ => ((s.kind = 0 ∨ s.kind = 3 ∨ s.kind = 5) ↔ 0 < s.cols.length) ∧ ((s.kind = 3 ∨ s.kind = 5) → s.cols.length = 1)) rfl ?_ (OnC.out (rr_6 s h hk0 hk9 hL hE hho) rfl)
  rintro _ ⟨fc1, fc2⟩
  refine ew_cut mixed 1 (fun _ : Unit => ⟨slotsOf 376 [(1, .ptr 0 0 15), (3, .c (.int .i64 s.kind)), (4, .c (.bool (decide (named s.kind))))], [.o .box (stmtA s)]⟩) (fun _ => ∀ x ∈ s.cols, colK s.kind x = true) rfl ?_ (OnC.out (rr_7 s h hk0 hk9 hL hE hho) rfl)
  intro _ fc3
  refine ew_cut mixed 1 (fun _ : Unit => ⟨slotsOf 376 [(1, .ptr 0 0 15), (3, .c (.int .i64 s.kind)), (4, .c (.bool (decide (named s.kind))))], [.o .box (stmtA s)]⟩) (fun _ => (s.kind = 6 ↔ 0 < s.rows.length) ∧ (s.kind = 7 ↔ 0 < s.sets.length) ∧ (0 < s.wher.length → 7 ≤ s.kind)) rfl ?_ (OnC.out (rr_8 s h hk0 hk9 hL hE hho) rfl)
  rintro _ ⟨fr1, fr2, fr3⟩
  refine ew_cut mixed 1 (fun _ : Unit => ⟨slotsOf 376 [(1, .ptr 0 0 15), (3, .c (.int .i64 s.kind)), (4, .c (.bool (decide (named s.kind))))], [.o .box (stmtA s)]⟩) (fun _ => ∀ x ∈ s.rows, (rowP s) x = true) rfl ?_ (OnC.out (rr_9 s h hk0 hk9 hL hE hho) rfl)
  intro _ fr4
  refine ew_cut mixed 1 (fun _ : Unit => ⟨slotsOf 376 [(1, .ptr 0 0 15), (3, .c (.int .i64 s.kind)), (4, .c (.bool (decide (named s.kind))))], [.o .box (stmtA s)]⟩) (fun _ => ∀ x ∈ s.sets, (fun x : SetS => nameOk x.name) x = true) rfl ?_ (OnC.out (rr_10 s h hk0 hk9 hL hE hho) rfl)
  intro _ fr5
  refine ew_cut mixed 1 (fun _ : Unit => ⟨slotsOf 376 [(1, .ptr 0 0 15), (3, .c (.int .i64 s.kind)), (4, .c (.bool (decide (named s.kind))))], [.o .box (stmtA s)]⟩) (fun _ => (s.kind ≠ 9 → s.items.length + s.from_.length + s.on_.length + s.group.length + s.order.length = 0) ∧ (s.kind ≠ 9 → s.limit = -1)) rfl ?_ (OnC.out (rr_11 s h hk0 hk9 hL hE hho) rfl)
  rintro _ ⟨fq1, fq2⟩
  refine ew_cut mixed 1 (fun _ : Unit => ⟨slotsOf 376 [(1, .ptr 0 0 15), (3, .c (.int .i64 s.kind)), (4, .c (.bool (decide (named s.kind))))], [.o .box (stmtA s)]⟩) (fun _ => (s.kind = 9 → s.from_.length = 1 + s.on_.length) ∧ (s.kind = 9 → -1 ≤ s.limit ∧ s.limit ≤ 1000000)) rfl ?_ (OnC.out (rr_12 s h hk0 hk9 hL hE hho) rfl)
  rintro _ ⟨fq3, fq4⟩
  refine ew_cut mixed 1 (fun _ : Unit => ⟨slotsOf 376 [(1, .ptr 0 0 15), (3, .c (.int .i64 s.kind)), (4, .c (.bool (decide (named s.kind))))], [.o .box (stmtA s)]⟩) (fun _ => ∀ x ∈ s.from_, srcOk x = true) rfl ?_ (OnC.out (rr_13 s h hk0 hk9 hL hE hho) rfl)
  intro _ ff1
  refine ew_cut mixed 1 (fun _ : Unit => ⟨slotsOf 376 [(1, .ptr 0 0 15), (3, .c (.int .i64 s.kind)), (4, .c (.bool (decide (named s.kind))))], [.o .box (stmtA s)]⟩) (fun _ => ∀ x ∈ s.items, (fun x : ItemS => optOk x.as_) x = true) rfl ?_ (OnC.out (rr_14 s h hk0 hk9 hL hE hho) rfl)
  intro _ ff2
  refine ew_cut mixed 1 (fun _ : Unit => ⟨slotsOf 376 [(1, .ptr 0 0 15), (3, .c (.int .i64 s.kind)), (4, .c (.bool (decide (named s.kind))))], [.o .box (stmtA s)]⟩) (fun _ => ∀ x ∈ exprsS s, (fun x => rightE 0 x) x = true) rfl ?_ (OnC.out (rr_15 s h hk0 hk9 hL hE hho) rfl)
  intro _ fe1
  refine ew_run mixed [] ?_
  have hS : rightS s = true := (right_iff s).2 ⟨hk0, hk9, ⟨a1, a2, a3, a4, a5, a6, a7, a8, a9, a10⟩, ft1, ft2, fn1, fn2, fn3, fl1, fl2, fc1, fc2, fc3, fr1, fr2, fr3, fun r hr => of_decide_eq_true (fr4 r hr), fr5, fq1, fq2, fq3, fq4, ff1, ff2, fe1⟩
  simp (maxSteps := 1000000) [hho, noHo, slotsOf, stmtA, undef, onGP_none, condG_false, -List.reduceReplicate]
  exact Ret.drop (by rfl) ⟨by rw [hS], rfl⟩
end Go.Proofs.YtlepkpfbejfpiaaDoor
