import Derived.Test.YtglhmhpaoebifaaWb
import Derived.Test.YtglhmhpaoebifaaBW
namespace Go.Proofs.Ytglhmhpaoebifaa
set_option linter.unusedVariables false
set_option linter.unusedSimpArgs false
open Go.RowKit
attribute [local simp] isCut_nil isCut_region isCut_seq isCut_block isCut_loop isCut_cond isCut_skip isCut_exit isCut_ret isCut_range swapK putK altK condK_bool pickP_bool stepP stepO onPure_some onPure_none onImpl_some onImpl_none stepC onGP_some onGP_none onGV_some condG mkG onIt_it nextP_ptr takeP_eq takeV_some takeN_none takeN_some takeG_some takeO_some altO_some pureV binV2 eqF eqOp ovlV ovl2 rowAt capV binV intBin strBin isSh shV fldV ixV sliceV slice3V loadAV nilV lenV callV unV convV viewS cellsH loadV fldCut AV.ung AV.ungs AV.gc AV.cells AS.ev AS.put anyS gcsV lens lnO gV guardV retK RetP_eq resV oneV anyRo loIx hiIx implO callP_clo evL gcsL clearV storeAV AS.push AS.setO appV appZ shortS copyV buildV partsV fillV srcV fzO okV isCell_c isCell_ptr isCell_sl isCell_fs isCell_fp isCell_clo rowZ_one rowZ_zero rowZ_2 rowZ_3 rowZ_4 rowZ_5 rowZ_6 rowZ_7 rowZ_8 rowZ_9 rowZ_10 rowZ_11 rowZ_12 noHo Value.oneCell' max2V min2V afterH putBack frzFrom frzO rebO backIx nilEq_sl nilEq_fs nilOp_eql nilOp_neq AV.reb AV.rebL
attribute [local simp ↓] runK_skip runK_region runK_draw runK_seq runK_cut runK_cond runK_block runK_loop runK_exit runK_label runK_goto runK_ret runK_range contK_nil contK_seq contK_seq_ret contK_seq_exit contK_seq_goto contK_block contK_block_ret contK_block_goto contK_block_exit runO_nil runO_cons roundK_exit roundK_ret roundK_goto exitK_ret cutK_ret cutK_exit runE_done runE_nil runE_take runE_alt condG_true condG_false
set_option maxRecDepth 10000
/-! ## A book's bytes -/
def recB (x : LeaseS) : List UInt8 := num x.s ++ (num x.v ++ num x.u)
def bookB (l : List LeaseS) : List UInt8 := num l.length ++ l.flatMap recB
def wrP (b : List UInt8) : List AObj := [.o .box [.sl 3 1 0 b.length b.length], .o (.row 5 1) (u8av b)]
theorem recB_len {x : LeaseS} (h : i64L x) : (recB x).length ≤ 27 := by
  obtain ⟨h1, h2, h3⟩ := h
  have a := num_len x.s h1.1 h1.2
  have b := num_len x.v h2.1 h2.2
  have c := num_len x.u h3.1 h3.2
  simp [recB]; omega
theorem recs_len (l : List LeaseS) (h : ∀ x ∈ l, i64L x) : (l.flatMap recB).length ≤ 27 * l.length := by
  induction l with
  | nil => simp
  | cons x l ih =>
    have h1 := recB_len (h x List.mem_cons_self)
    have h2 := ih fun y hy => h y (List.mem_cons_of_mem _ hy)
    simp only [List.flatMap_cons, List.length_append, List.length_cons]
    omega
theorem recs_succ (l : List LeaseS) (j : Nat) (hj : j < l.length) : (l.take (j + 1)).flatMap recB = (l.take j).flatMap recB ++ recB l[j] := by rw [List.take_succ_eq_append_getElem hj, List.flatMap_append]; simp [List.flatMap_cons]
set_option maxHeartbeats 8000000 in
theorem bytes_book (l : List LeaseS) (hl : l.length ≤ 1000000) (hi : ∀ x ∈ l, i64L x) : ACalls Try.prog 19 [.ptr 0 0 1] (bookO l) (fun k => decide (k < 2)) (fun r h' => r = .fs 1 (bookB l).length (u8av (bookB l)) ∧ h' = bookO l) := by
  refine acallsC [4] mixed Try.func19 rfl Try.ntmps19 rfl fun E hE hst hho => ?_
  simp (maxSteps := 1000000) [bookO, rowL, hho, noHo, -List.reduceReplicate]
  have hnl := num_len (l.length : Int) (by omega) (by omega)
  refine seq_cut mixed [] (fun _ : Unit => ⟨slotsOf 41 [(0, .ptr 0 0 1), (3, .ptr 2 0 1)], bookO l ++ wrP []⟩) (fun _ => True) ?_ ?_
  · intro _ _
    simp (maxSteps := 1000000) [slotsOf, bookO, wrP, rowL, hho, -List.reduceReplicate]
    refine call_x [2, 3] (number_w [] (by simp) l.length (by omega) (by omega)) rfl rfl ⟨rfl, rfl⟩ hho (by simp) (by decide) (by simp) (by simp [wrO]) ?_
    simp (maxSteps := 1000000) [wrO, slotsOf, hho, -List.reduceReplicate]
    refine loop_k mixed (fun j : Nat => ⟨slotsOf 41 [(0, .ptr 0 0 1), (3, .ptr 2 0 1), (20, .sl 1 3 0 l.length (l.length * 3)), (21, .c (.int .i64 l.length)), (22, .c (.int .i64 (j : Int)))], bookO l ++ wrP (num l.length ++ (l.take j).flatMap recB)⟩) (fun j => l.length - j) (fun j => j ≤ l.length) 0 (Nat.zero_le _) ?_ ?_
    · exact wk_eq (by simp [hE, lens, bookO]) (by simp [bookO, wrP, rowL]) (by simp [livH, livO, AV.livL, AV.liv, wkL, wkV, List.range', slotsOf])
    · intro j hj
      by_cases hjl : j < l.length
      · have hat := leasesA_at l j hjl
        have ew : IntKind.i64.wrap ((j : Int) + 1) = (j + 1 : Nat) := by rw [IntWalk.i64_in _ (by omega)]; rfl
        have el : j * 3 + 3 ≤ l.length * 3 := by omega
        have hs := recs_succ l j hjl
        have hbl := recs_len (l.take j) fun y hy => hi y (List.mem_of_mem_take hy)
        rw [List.length_take] at hbl
        have hxi := hi l[j] (List.getElem_mem hjl)
        obtain ⟨x, hx⟩ : ∃ x, x = l[j] := ⟨_, rfl⟩
        rw [← hx] at hat hs hxi
        obtain ⟨b, hb⟩ : ∃ b, b = num l.length ++ (l.take j).flatMap recB := ⟨_, rfl⟩
        have hbl2 : b.length ≤ 27000100 := by rw [hb, List.length_append]; omega
        have h1 := num_len x.s hxi.1.1 hxi.1.2
        have h2 := num_len x.v hxi.2.1.1 hxi.2.1.2
        rw [← hb]
        simp (maxSteps := 1000000) [slotsOf, bookO, wrP, rowL, leaseA, hho, hjl, hat, el, -List.reduceReplicate]
        refine call_x [2, 3] (number_w b (by omega) x.s hxi.1.1 hxi.1.2) rfl rfl ⟨rfl, rfl⟩ hho (by simp) (by decide) (by simp) (by simp [wrO]) ?_
        obtain ⟨b1, hb1⟩ : ∃ b1, b1 = b ++ num x.s := ⟨_, rfl⟩
        have hbl3 : b1.length ≤ 27000200 := by rw [hb1, List.length_append]; omega
        rw [← hb1]
        simp (maxSteps := 1000000) [wrO, slotsOf, hho, -List.reduceReplicate]
        refine call_x [2, 3] (number_w b1 (by omega) x.v hxi.2.1.1 hxi.2.1.2) rfl rfl ⟨rfl, rfl⟩ hho (by simp) (by decide) (by simp) (by simp [wrO]) ?_
        obtain ⟨b2, hb2⟩ : ∃ b2, b2 = b1 ++ num x.v := ⟨_, rfl⟩
        have hbl4 : b2.length ≤ 27000300 := by rw [hb2, List.length_append]; omega
        rw [← hb2]
        simp (maxSteps := 1000000) [wrO, slotsOf, hho, -List.reduceReplicate]
        refine call_x [2, 3] (number_w b2 (by omega) x.u hxi.2.2.1 hxi.2.2.2) rfl rfl ⟨rfl, rfl⟩ hho (by simp) (by decide) (by simp) (by simp [wrO]) ?_
        obtain ⟨b3, hb3⟩ : ∃ b3, b3 = b2 ++ num x.u := ⟨_, rfl⟩
        rw [← hb3]
        simp (maxSteps := 1000000) [wrO, slotsOf, hho, ew, -List.reduceReplicate]
        refine round_next (j + 1) (by omega) (by omega) ?_
        have hbe : num l.length ++ (l.take (j + 1)).flatMap recB = b3 := by rw [hs, hb3, hb2, hb1, hb]; simp [recB]
        exact wk_of 4 1 (by simp) (by simp [hE, lens, bookO]) (by simp [bookO, wrP, rowL, hbe]; rw [← hbe]; simp) (by simp [livH, livO, AV.livL, AV.liv, wkL, wkV, List.range', rowL]) (by simp [livH, livO, AV.livL, AV.liv, wkL, wkV, List.range', slotsOf])
      · obtain rfl : j = l.length := by omega
        rw [List.take_length]
        have hbl := recs_len l hi
        have hbe : num l.length ++ l.flatMap recB = bookB l := rfl
        have hbp : 0 < (bookB l).length := by rw [← hbe, List.length_append]; simp [num]; omega
        have hbl2 : (bookB l).length ≤ 27000100 := by rw [← hbe, List.length_append]; omega
        rw [hbe]
        obtain ⟨b, hb⟩ : ∃ b, b = bookB l := ⟨_, rfl⟩
        rw [← hb] at hbp hbl2 ⊢
        simp (maxSteps := 1000000) [slotsOf, bookO, wrP, rowL, hho, -List.reduceReplicate]
        refine call_x [2, 3] (bytes_w b hbp (by omega)) rfl rfl ⟨rfl, rfl⟩ hho (by simp) (by decide) (by simp) (by simp [wrO]) ?_
        simp (maxSteps := 1000000) [wrO, slotsOf, hho, -List.reduceReplicate]
        refine Ret.sel [0, 1] (fun k => k == 4) (ho := by rfl) (ha := by rfl) ?_ ?_ (by decide) (by simp) (st2 _) ⟨?_, rfl⟩
        · simp
        · simp
          exact ⟨by unfold maxLen; omega, fun x hx => (u8av_all b).2 trivial x (List.mem_of_mem_take hx)⟩
        · simp [List.take_of_length_le]
  · simp (maxSteps := 1000000) [hho, -List.reduceReplicate]
    refine cut_to () trivial ?_
    refine Wk.trans (wk_virtC 2 0 5 1 rfl rfl) ?_
    exact wk_eq (by simp [hE, lens, bookO]) (by simp [bookO, wrP, rowL]) (by simp [livH, livO, AV.livL, AV.liv, wkL, wkV, List.range', slotsOf])
end Go.Proofs.Ytglhmhpaoebifaa
