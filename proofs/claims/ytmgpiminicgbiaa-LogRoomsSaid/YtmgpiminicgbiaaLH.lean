-- 
import Derived.Test.YtmgpiminicgbiaaLG
namespace Go.Proofs.Ytmgpiminicgbiaa
set_option linter.unusedVariables false
set_option linter.unusedSimpArgs false
open Go.RowKit
attribute [local simp] isCut_nil isCut_region isCut_seq isCut_block isCut_loop isCut_cond isCut_skip isCut_exit isCut_ret isCut_range swapK putK altK condK_bool pickP_bool stepP stepO onPure_some onPure_none onImpl_some onImpl_none stepC onGP_some onGP_none onGV_some condG mkG onIt_it nextP_ptr takeP_eq takeV_some takeN_none takeN_some takeG_some takeO_some altO_some pureV binV intBin strBin isSh shV fldV ixV sliceV loadAV nilV lenV callV unV convV viewS cellsH loadV fldCut AV.ung AV.gc AV.cells AS.ev AS.put anyS gcsV lens lnO gV guardV retK RetP_eq resV oneV anyRo loIx hiIx implO callP_clo evL gcsL storeAV AS.push AS.setO appV copyV buildV partsV fillV srcV fzO okV isCell_c isCell_ptr isCell_sl isCell_fs isCell_fp isCell_clo rowZ_one rowZ_zero rowZ_2 rowZ_3 rowZ_4 rowZ_5 rowZ_6 rowZ_7 rowZ_8 rowZ_9 rowZ_10 rowZ_11 rowZ_12 noHo Value.oneCell' max2V min2V afterH putBack frzFrom frzO rebO backIx nilEq_sl nilEq_fs nilOp_eql nilOp_neq AV.reb AV.rebL
attribute [local simp ↓] runK_skip runK_region runK_draw runK_seq runK_cut runK_cond runK_block runK_loop runK_exit runK_label runK_goto runK_ret runK_range contK_nil contK_seq contK_seq_ret contK_seq_exit contK_seq_goto contK_block contK_block_ret contK_block_goto contK_block_exit runO_nil runO_cons roundK_exit roundK_ret roundK_goto exitK_ret cutK_ret cutK_exit runE_done runE_nil runE_take runE_alt condG_true condG_false runYK_skip runYK_region runYK_draw runYK_seq runYK_cond runYK_block runYK_loop runYK_exit runYK_ret contYK_nil contYK_seq contYK_seq_ret contYK_seq_exit contYK_block contYK_block_ret contYK_block_exit runYO_nil runYO_cons finY_normal finY_ret roundY_ret roundY_exit
attribute [local simp] condYK_bool onYI_some onYP_some onYP_none onYA_some onYA_none stepY yldArgs AS.clean keepV hoN hnY rebI setPs heldH
set_option maxRecDepth 10000
/-! ## Laying frames -/
def framesA (l : List FrameS) : List AV := l.flatMap frameA
@[simp] theorem frameA_length (f : FrameS) : (frameA f).length = 4 := rfl
@[simp] theorem framesA_length (l : List FrameS) : (framesA l).length = l.length * 4 := flat_length frameA 4 (by simp) l
@[simp] theorem framesA_all (l : List FrameS) : (∀ x ∈ framesA l, isD x = true) ↔ True := iff_true_intro <| by
  intro x hx
  simp only [framesA, List.mem_flatMap, frameA, List.mem_cons, List.not_mem_nil, or_false] at hx
  obtain ⟨b, _, rfl | rfl | rfl | rfl⟩ := hx <;> rfl
@[simp] theorem framesA_cell (l : List FrameS) : (∀ x ∈ framesA l, isCell x = true) ↔ True := iff_true_intro <| by
  intro x hx
  simp only [framesA, List.mem_flatMap, frameA, List.mem_cons, List.not_mem_nil, or_false] at hx
  obtain ⟨b, _, rfl | rfl | rfl | rfl⟩ := hx <;> rfl
theorem framesA_at (l : List FrameS) (j : Nat) (hj : j < l.length) : List.take 4 (List.drop (j * 4) (framesA l)) = frameA l[j] := flat_at frameA 4 (by simp) l j hj
/-- frames are laid, and flushed: the error, the device -/
def layS : DevS → List FrameS → Int × DevS
  | D, [] => (checkS D 0 0, flushS D)
  | D, f :: r => if checkS D (2 + f.k) 64 ≠ 0 then (checkS D (2 + f.k) 64, D) else layS (writeS D (2 + f.k) (frameL f)) r
set_option maxHeartbeats 4000000 in
theorem lay_ok (D : DevS) (hD : D.Ok) (hcl : D.calls ≤ 50000) (hwl : D.wait.length ≤ 50000) (L : LogS) (fs : List FrameS) (hf : fs.length ≤ 2000) (hk : ∀ f ∈ fs, 0 ≤ f.k ∧ f.k ≤ 1000000 ∧ f.body.length ≤ 1000000) :
    ACalls Try.prog 39 [.ptr 0 0 9, .sl 5 4 0 fs.length (fs.length * 4)] (logO D L ++ [.o (.row 90 4) (framesA fs)]) (fun k => [0, 1, 2, 4, 5].contains k) (fun r h' => r = .c (.int .i64 (layS D fs).1) ∧ h' = logO (layS D fs).2 L ++ [.o (.row 90 4) (framesA fs)]) := by
  refine acalls mixed Try.func39 rfl Try.ntmps39 rfl fun E hE hst hho => ?_
  simp (maxSteps := 1000000) [logO, logB, batR, devAt, hho, -List.reduceReplicate]
  refine loop_k mixed (fun x : Nat × DevS => ⟨slotsOf 33 [(0, .ptr 0 0 9), (8, .sl 5 4 0 fs.length (fs.length * 4)), (9, .c (.int .i64 fs.length)), (10, .c (.int .i64 (x.1 : Int)))], logO x.2 L ++ [.o (.row 90 4) (framesA fs)]⟩) (fun x => fs.length - x.1) (fun x => x.1 ≤ fs.length ∧ layS D fs = layS x.2 (fs.drop x.1) ∧ x.2.Ok ∧ x.2.calls ≤ 50000 + x.1 ∧ x.2.wait.length ≤ 50000 + x.1) (0, D) ⟨Nat.zero_le _, rfl, hD, by simpa using hcl, by simpa using hwl⟩ ?_ ?_
  · exact wk_all (by simp [hE, logO, devAt, lens]) (by simp [logO, logB, batR, devAt]) (by simp [livH, livO, AV.livL, AV.liv, wkL, wkV, List.range', slotsOf])
  · rintro ⟨j, D1⟩ ⟨hj, hI, hD1, hc1, hw1⟩
    simp only at hj hI hD1 hc1 hw1
    by_cases hjl : j < fs.length
    · obtain ⟨f, hff⟩ : ∃ f, f = fs[j] := ⟨_, rfl⟩
      obtain ⟨k1, k2, k3⟩ := hk f (by rw [hff]; exact List.getElem_mem hjl)
      have hat : List.take 4 (List.drop (j * 4) (framesA fs)) = frameA f := by rw [hff]; exact framesA_at fs j hjl
      have ew : IntKind.i64.wrap ((j : Int) + 1) = (j + 1 : Nat) := by rw [IntWalk.i64_in _ (by omega)]; rfl
      have e2k : IntKind.i64.wrap (2 + f.k) = 2 + f.k := IntWalk.i64_in _ (by omega)
      have el : j * 4 + 4 ≤ fs.length * 4 := by omega
      rw [List.drop_eq_getElem_cons hjl, ← hff, layS] at hI
      simp (maxSteps := 1000000) [logO, logB, batR, devAt, slotsOf, hho, hjl, hat, el, frameA, -List.reduceReplicate]
      refine draw_k hho (.take 0 (.take 1 (.take 2 (.take 3 (.take 4 (.take 5 (.take 6 (.take 7 (.alt 8 (.alt 9 (.take 10 (.done)) (.nil)) (.nil)))))))))) [0, 6] [] (by decide +kernel) (by simp) ?_
      simp (maxSteps := 1000000) [hho, e2k, roOf, holdOf, wrOf, altK, heldOk, Region.binds, -List.reduceReplicate]
      intro E1
      refine call_h [] (frameSector_row f k3) rfl rfl ⟨rfl, rfl⟩ (by simp) (by simp) (by decide) (by simp) (by simp) ?_
      simp (maxSteps := 1000000) [hho, roOf, holdOf, wrOf, altK, heldOk, Region.binds, -List.reduceReplicate]
      intro E2
      have hgl := frameL_length f
      have hws := write_sl D1 hD1 (2 + f.k) (frameL f) 5
      rw [hgl] at hws
      refine call_h [1, 2, 3, 7] hws rfl rfl ⟨rfl, rfl⟩ (by simp) (by simp) (by decide) (by simp) (by simp [devO]) ?_
      have hD2 : (writeS D1 (2 + f.k) (frameL f)).Ok := write_Ok hD1 (by omega) (by omega)
      have hcw : (writeS D1 (2 + f.k) (frameL f)).calls ≤ D1.calls + 1 ∧ (writeS D1 (2 + f.k) (frameL f)).wait.length ≤ D1.wait.length + 1 := by
        unfold writeS; split <;> simp [countS] <;> omega
      obtain ⟨D2, e2⟩ : ∃ D2, D2 = writeS D1 (2 + f.k) (frameL f) := ⟨_, rfl⟩
      rw [← e2] at hI hD2 hcw ⊢
      by_cases hc : checkS D1 (2 + f.k) 64 = 0
      · rw [if_neg (by rw [hc]; decide)] at hI
        simp (maxSteps := 1000000) [hho, hc, ew, devO, roOf, holdOf, wrOf, altK, heldOk, Region.binds, -List.reduceReplicate]
        refine round_next (j + 1, D2) ⟨by simp only; omega, hI, hD2, by simp only; omega, by simp only; omega⟩ (by simp only; omega) ?_
        exact wk_of 6 2 (by simp) (by simp [hE, logO, devAt, lens]) (by simp [logO, logB, batR, devAt]) (by simp [livH, livO, AV.livL, AV.liv, wkL, wkV, List.range', logO, logB, batR, devAt, batchA_liv]) (by simp [livH, livO, AV.livL, AV.liv, wkL, wkV, List.range', slotsOf])
      · rw [if_pos hc] at hI
        have eD : D2 = D1 := by rw [e2]; unfold writeS; rw [if_neg (by rw [hgl]; exact hc)]
        rw [hI, eD]
        simp (maxSteps := 1000000) [hho, hc, devO, roOf, holdOf, wrOf, altK, heldOk, Region.binds, -List.reduceReplicate]
        refine Ret.sel [0, 1, 2, 3, 4, 5] (fun _ => false) (ho := by rfl) (ha := by rfl) ?_ ?_ (by decide) (by simp) (by intro i _ h; simp at h; rcases h with rfl | rfl | rfl | rfl | rfl <;> rfl) ⟨rfl, ?_⟩
        · simp
        · simp
        · rfl
    · obtain rfl : j = fs.length := by omega
      rw [List.drop_length, layS] at hI
      simp (maxSteps := 1000000) [logO, logB, batR, devAt, slotsOf, hho, -List.reduceReplicate]
      refine call_d [1, 2, 3] (fun _ => false) [3] (flush_dev D1 hD1) rfl rfl ⟨rfl, rfl⟩ hho (st12 1) (by simp [livH, livO, AV.livL, AV.liv, wkL, wkV, List.range']) (by simp [livH, livO, AV.livL, AV.liv, wkL, wkV, List.range', batchA_liv]) (by simp [hst]) (by decide) (by decide) (by simp) (by simp [devO]) ?_
      rw [hI]
      simp (maxSteps := 1000000) [hho, devO, -List.reduceReplicate]
      refine Ret.sel [0, 1, 2, 3, 4, 5] (fun _ => false) (ho := by rfl) (ha := by rfl) ?_ ?_ (by decide) (by simp) (by intro i _ h; simp at h; rcases h with rfl | rfl | rfl | rfl | rfl <;> rfl) ⟨rfl, ?_⟩
      · simp
      · simp
      · rfl
/-! ## Chunks -/
def chunkN (l : List UInt8) : Nat := (l.length + 45) / 46
def chunkI (l : List UInt8) (j : Nat) : List AV := [.fs 1 ((l.drop (46 * j)).take 46).length (u8av ((l.drop (46 * j)).take 46))]
theorem chunkI_ok (l : List UInt8) (j : Nat) : ∀ x ∈ chunkI l j, itemOk 2 x = true := by simp [chunkI, itemOk, plainV]
theorem chunk_call (l : List UInt8) : ACalls Try.prog 38 [.fs 1 l.length (u8av l), .c (.int .i64 46)] [] (fun _ => false) (fun r h' => r = .clo (.func 55) [] [.ptr 0 0 1, .ptr 1 0 1] ∧ h' = [.o .box [.fs 1 l.length (u8av l)], .o .box [.c (.int .i64 46)]]) := by
  refine acalls mixed Try.func38 rfl Try.ntmps38 rfl fun E hE hst hho => ?_
  simp (maxSteps := 1000000) [hho, -List.reduceReplicate]
  exact Ret.same ⟨rfl, rfl⟩
theorem chunk_seq (l : List UInt8) (hl : l.length ≤ 1000000) : ASeq0 Try.prog [.o .box [.fs 1 l.length (u8av l)], .o .box [.c (.int .i64 46)]] (chunkN l) (chunkI l) 55 [.ptr 0 0 1, .ptr 1 0 1] := by
  refine aseq0_k mixed Try.func55 rfl Try.ntmps55 rfl fun y => ?_
  simp (maxSteps := 1000000) [-List.reduceReplicate]
  refine loopY_k mixed (fun j : Nat => ⟨slotsOf 31 [(0, .clo (.yield y) [] []), (1, .ptr 0 0 1), (2, .ptr 1 0 1), (4, .c (.int .i64 ((46 * j : Nat) : Int)))], [.o .box [.fs 1 l.length (u8av l)], .o .box [.c (.int .i64 46)]]⟩) (fun j => j) (fun j => chunkN l - j) (fun j => j ≤ chunkN l) 0 (by simp) rfl ?_ ?_
  · intro E hE
    exact wk_all (by simpa using hE) rfl (by simp [livH, livO, AV.livL, AV.liv, wkL, wkV, List.range', slotsOf])
  · intro j hj
    by_cases hlt : 46 * j < l.length
    · have hlti : 46 * (j : Int) < l.length := by omega
      have hjN : j < chunkN l := by unfold chunkN; omega
      simp (maxSteps := 1000000) [slotsOf, hlti, -List.reduceReplicate]
      refine drawY_k (.take 0 (.take 1 (.take 2 (.take 3 (.take 4 (.take 5 (.take 6 (.done)))))))) (by decide) [0, 1] (by simp) (by decide +kernel) ?_
      obtain ⟨m, hm⟩ : ∃ m, m = min 46 (l.length - 46 * j) := ⟨_, rfl⟩
      have ht : (46 * (j : Int)).toNat = 46 * j := by omega
      have emin : min 46 ((l.length - 46 * j : Nat) : Int) = (m : Int) := by omega
      have eadd : IntKind.i64.wrap (46 * (j : Int) + m) = 46 * (j : Int) + m := IntWalk.i64_in _ (by omega)
      have e46 : IntKind.i64.wrap (46 * (j : Int) + 46) = 46 * (j : Int) + 46 := IntWalk.i64_in _ (by omega)
      have hlen : ((l.drop (46 * j)).take 46).length = m := by simp; omega
      have htm : ((46 * (j : Int)) + m).toNat - 46 * j = m := by omega
      simp (maxSteps := 1000000) [roOf, holdOf, wrOf, altK, heldOk, Region.binds, hlti, ht, emin, eadd, htm, e46, slice3V, -List.reduceReplicate]
      refine ⟨by omega, by omega, hjN, ?_, chunkI_ok l j, ?_, by omega⟩
      · simp only [chunkI, hlen]
        have : List.take m (List.drop (46 * j) l) = List.take 46 (List.drop (46 * j) l) := by
          rw [hm]; rw [List.take_eq_take_iff]; simp
        rw [this]
      · refine roundY_next (j + 1) rfl (by omega) (by omega) rfl fun E hE => wk_all (by simpa using hE) rfl (by simp [livH, livO, AV.livL, AV.liv, wkL, wkV, List.range']; omega)
    · have hlti : ¬ 46 * (j : Int) < l.length := by omega
      have hjN : j = chunkN l := by unfold chunkN at hj ⊢; omega
      simp (maxSteps := 1000000) [slotsOf, hlti, -List.reduceReplicate]
      exact hjN
end Go.Proofs.Ytmgpiminicgbiaa
