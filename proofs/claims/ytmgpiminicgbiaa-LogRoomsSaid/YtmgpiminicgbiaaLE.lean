import Derived.Test.YtmgpiminicgbiaaLD
namespace Go.Proofs.Ytmgpiminicgbiaa
set_option linter.unusedVariables false
set_option linter.unusedSimpArgs false
open Go.RowKit
attribute [local simp] isCut_nil isCut_region isCut_seq isCut_block isCut_loop isCut_cond isCut_skip isCut_exit isCut_ret isCut_range swapK putK altK condK_bool pickP_bool stepP stepO onPure_some onPure_none onImpl_some onImpl_none stepC onGP_some onGP_none onGV_some condG mkG onIt_it nextP_ptr takeP_eq takeV_some takeN_none takeN_some takeG_some takeO_some altO_some pureV binV intBin strBin isSh shV fldV ixV sliceV loadAV nilV lenV callV unV convV viewS cellsH loadV fldCut AV.ung AV.gc AV.cells AS.ev AS.put anyS gcsV lens lnO gV guardV retK RetP_eq resV oneV anyRo loIx hiIx implO callP_clo evL gcsL storeAV AS.push AS.setO appV copyV buildV partsV fillV srcV fzO okV isCell_c isCell_ptr isCell_sl isCell_fs isCell_fp isCell_clo rowZ_one rowZ_zero rowZ_2 rowZ_3 rowZ_4 rowZ_5 rowZ_6 rowZ_7 rowZ_8 rowZ_9 rowZ_10 rowZ_11 rowZ_12 noHo Value.oneCell' max2V min2V afterH putBack frzFrom frzO rebO backIx nilEq_sl nilEq_fs nilOp_eql nilOp_neq AV.reb AV.rebL
attribute [local simp ↓] runK_skip runK_region runK_draw runK_seq runK_cut runK_cond runK_block runK_loop runK_exit runK_label runK_goto runK_ret runK_range contK_nil contK_seq contK_seq_ret contK_seq_exit contK_seq_goto contK_block contK_block_ret contK_block_goto contK_block_exit runO_nil runO_cons roundK_exit roundK_ret roundK_goto exitK_ret cutK_ret cutK_exit runE_done runE_nil runE_take runE_alt condG_true condG_false
set_option maxRecDepth 10000
/-! ## Reading the heads -/
/-- the bytes of a sector now -/
def secL (D : DevS) (i : Nat) : List UInt8 := (curS D i).1
theorem secL_length (D : DevS) (i : Nat) : (secL D i).length = 64 := (curS D i).2
/-- the head that counts more -/
def headStep (D : DevS) (h : HeadS) (i : Nat) : HeadS := match parseH (secL D i) i with
  | some g => if h.n < g.n then g else h
  | none => h
def headsTo (D : DevS) (h : HeadS) : Nat → HeadS
  | 0 => h
  | i + 1 => headStep D (headsTo D h i) i
theorem parse_body {l : List UInt8} {i : Int} {h : HeadS} (hp : parseH l i = some h) : h.body.length ≤ 32 := by
  unfold parseH at hp
  split at hp
  · cases hp
  · injection hp with hp; subst hp
    simp only [List.length_take]; omega
theorem readHead_ok (D : DevS) (hD : D.Ok) (L : LogS) (hc : ∀ i : Nat, i < 2 → checkS D i 0 = 0) : ACalls Try.prog 33 [.ptr 0 0 9] (logO D L) (fun k => decide (k < 5)) (fun r h' => r = .c (.int .i64 0) ∧ h' = logO D { L with h := headsTo D L.h 2 }) := by
  refine acallsC [10] mixed Try.func33 rfl Try.ntmps33 rfl fun E hE _ hho => ?_
  simp [logO, logB, batR, devAt, hho, noHo, -List.reduceReplicate]
  refine loop_kc [10] mixed (fun i : Nat => ⟨slotsOf 45 [(0, .ptr 0 0 9), (8, .c (.int .i64 (i : Int)))], logO D { L with h := headsTo D L.h i }⟩) (fun i => 2 - i) (fun i => i ≤ 2) 0 (Nat.zero_le _) ?_ ?_
  · exact wk_all (by simp [hE, logO, devAt, lens]) (by simp [logO, logB, batR, devAt, headsTo]) (by simp [livH, livO, AV.livL, AV.liv, wkL, wkV, List.range', slotsOf])
  · intro i hi
    by_cases hi2 : i < 2
    · have hii : (i : Int) < 2 := by omega
      have ew : IntKind.i64.wrap ((i : Int) + 1) = (i + 1 : Nat) := by rw [IntWalk.i64_in _ (by omega)]; rfl
      obtain ⟨H, hH⟩ : ∃ H, H = headsTo D L.h i := ⟨_, rfl⟩
      simp (maxSteps := 1000000) [logO, logB, batR, devAt, slotsOf, hho, hii, hi2, ← hH, -List.reduceReplicate]
      refine seq_cut mixed [] (fun _ : Unit => ⟨slotsOf 45 [(0, .ptr 0 0 9), (8, .c (.int .i64 (i : Int)))], logO D { L with h := headsTo D L.h (i + 1) }⟩) (fun _ => True) ?_ ?_
      · rintro _ _
        simp (maxSteps := 1000000) [logO, logB, batR, devAt, slotsOf, hho, ew, -List.reduceReplicate]
        refine round_next (i + 1) (by omega) (by omega) ?_
        exact wk_all (by simp [hE, logO, devAt, lens]) (by simp [logO, logB, batR, devAt]) (by simp [livH, livO, AV.livL, AV.liv, wkL, wkV, List.range', slotsOf])
      · simp (maxSteps := 1000000) [logO, logB, batR, devAt, slotsOf, hho, -List.reduceReplicate]
        refine call_x [1, 2, 3] (read_ok D hD i (hc i hi2)) rfl rfl ⟨rfl, rfl⟩ hho (by simp) (by decide) (by simp) (by simp [devO]) ?_
        have es : u8av (curS D (i : Int).toNat).1 = u8av (secL D i) := by rw [Int.toNat_natCast]; rfl
        rw [es]
        simp (maxSteps := 1000000) [hho, devO, -List.reduceReplicate]
        refine call_d [5] (fun _ => false) [] (parse_row (secL D i) (secL_length D i) i 5) rfl rfl ⟨rfl, rfl⟩ hho (by intro a b h; cases a with | zero => exact .inl rfl | succ a => simp at h) (livL_none _) (livH_none _ _ _) (by simp) (by decide) (by decide) (by simp) (by simp) ?_
        cases hP : parseH (secL D i) i with
        | none =>
          have e1 : headsTo D L.h (i + 1) = H := by simp only [headsTo, headStep, hP]; exact hH.symm
          simp (maxSteps := 1000000) [hho, parseR, head0, -List.reduceReplicate]
          refine draw_k hho (.take 0 (.take 1 (.take 2 (.take 3 (.take 4 (.take 5 (.take 6 (.take 7 (.take 8 (.take 9 (.take 10 (.done)))))))))))) [0, 6] [] (by decide +kernel) (by simp) ?_
          simp (maxSteps := 1000000) [hho, roOf, holdOf, wrOf, altK, heldOk, Region.binds, -List.reduceReplicate]
          refine cut_to () trivial ?_
          rw [e1]
          exact wk_of 5 2 (by simp) (by simp [hE, logO, devAt, lens]) (by simp [logO, logB, batR, devAt]) (by simp [livH, livO, AV.livL, AV.liv, wkL, wkV, List.range', logO, logB, batR, devAt, batchA_liv]) (by simp [livH, livO, AV.livL, AV.liv, wkL, wkV, List.range', slotsOf])
        | some g =>
          have e1 : headsTo D L.h (i + 1) = if H.n < g.n then g else H := by simp only [headsTo, headStep, hP]; rw [← hH]
          simp (maxSteps := 1000000) [hho, parseR, headA, -List.reduceReplicate]
          refine draw_k hho (.take 0 (.take 1 (.take 2 (.take 3 (.take 4 (.take 5 (.take 6 (.take 7 (.take 8 (.take 9 (.take 10 (.done)))))))))))) [0, 6] [] (by decide +kernel) (by simp) ?_
          by_cases hn : H.n < g.n
          · rw [if_pos hn] at e1
            simp (maxSteps := 1000000) [hho, roOf, holdOf, wrOf, altK, heldOk, Region.binds, hn, -List.reduceReplicate]
            refine cut_to () trivial ?_
            rw [e1]
            exact wk_of 5 2 (by simp) (by simp [hE, logO, devAt, lens]) (by simp [logO, logB, batR, devAt]) (by simp [livH, livO, AV.livL, AV.liv, wkL, wkV, List.range', logO, logB, batR, devAt, batchA_liv]) (by simp [livH, livO, AV.livL, AV.liv, wkL, wkV, List.range', slotsOf])
          · rw [if_neg hn] at e1
            simp (maxSteps := 1000000) [hho, roOf, holdOf, wrOf, altK, heldOk, Region.binds, hn, -List.reduceReplicate]
            refine cut_to () trivial ?_
            rw [e1]
            exact wk_of 5 2 (by simp) (by simp [hE, logO, devAt, lens]) (by simp [logO, logB, batR, devAt]) (by simp [livH, livO, AV.livL, AV.liv, wkL, wkV, List.range', logO, logB, batR, devAt, batchA_liv]) (by simp [livH, livO, AV.livL, AV.liv, wkL, wkV, List.range', slotsOf])
    · obtain rfl : i = 2 := by omega
      simp (maxSteps := 1000000) [logO, logB, batR, devAt, slotsOf, hho, -List.reduceReplicate]
      exact Ret.same ⟨rfl, rfl⟩
theorem readHead_err (D : DevS) (hD : D.Ok) (L : LogS) (hc : checkS D 0 0 ≠ 0) : ACalls Try.prog 33 [.ptr 0 0 9] (logO D L) (fun k => decide (k < 5)) (fun r h' => r = .c (.int .i64 (checkS D 0 0)) ∧ h' = logO D L) := by
  refine acalls mixed Try.func33 rfl Try.ntmps33 rfl fun E hE _ hho => ?_
  simp [logO, logB, batR, devAt, hho, noHo, -List.reduceReplicate]
  refine loop_k mixed (fun _ : Unit => ⟨slotsOf 45 [(0, .ptr 0 0 9), (8, .c (.int .i64 0))], logO D L⟩) (fun _ => 0) (fun _ => True) () trivial ?_ ?_
  · exact wk_all (by simp [hE, logO, devAt, lens]) (by simp [logO, logB, batR, devAt]) (by simp [livH, livO, AV.livL, AV.liv, wkL, wkV, List.range', slotsOf])
  · rintro _ _
    simp (maxSteps := 1000000) [logO, logB, batR, devAt, slotsOf, hho, -List.reduceReplicate]
    refine call_x [1, 2, 3] (read_err D 0 hc) rfl rfl ⟨rfl, rfl⟩ hho (by simp) (by decide) (by simp) (by simp [devO]) ?_
    simp (maxSteps := 1000000) [hho, devO, hc, -List.reduceReplicate]
    exact Ret.same ⟨rfl, rfl⟩
/-! ## Reading the frames -/
structure FSt where
  least : Int
  within : Bool
  batch : List UInt8
  bs : List (List UInt8)
  at_ : Int
/-- a frame of the log's is taken up; none: here the log ends -/
def frameStep (D : DevS) (epoch : Int) (x : FSt) (k : Nat) : Option FSt := match unframeF (secL D (2 + k)) k with
  | some f => if f.epoch < x.least ∨ epoch < f.epoch ∨ (x.within = true ∧ f.epoch ≠ x.least) then none
    else if f.last = true then some ⟨f.epoch, false, [], x.bs ++ [x.batch ++ f.body], k + 1⟩ else some ⟨f.epoch, true, x.batch ++ f.body, x.bs, x.at_⟩
  | none => none
def framesTo (D : DevS) (epoch : Int) (x : FSt) : Nat → Nat → FSt
  | _, 0 => x
  | k, n + 1 => match frameStep D epoch x k with
    | some y => framesTo D epoch y (k + 1) n
    | none => x
end Go.Proofs.Ytmgpiminicgbiaa
