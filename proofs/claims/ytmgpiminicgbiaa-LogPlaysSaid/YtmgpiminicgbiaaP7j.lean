import Derived.Test.YtmgpiminicgbiaaP7h
-- 
namespace Go.Proofs.Ytmgpiminicgbiaa
set_option linter.unusedVariables false
set_option linter.unusedSimpArgs false
open Go.RowKit
attribute [local simp] isCut_nil isCut_region isCut_seq isCut_block isCut_loop isCut_cond isCut_skip isCut_exit isCut_ret isCut_range swapK putK altK condK_bool pickP_bool stepP stepO onPure_some onPure_none onImpl_some onImpl_none stepC onGP_some onGP_none onGV_some condG mkG onIt_it nextP_ptr takeP_eq takeV_some takeV_none takeU_some takeU_none takeQ takeW_some takeN_none takeN_some takeG_some takeO_some altO_some pureV binV2 eqF eqOp ovlV ovl2 rowAt capV binV intBin strBin isSh shV fldV ixV sliceV slice3V loadAV nilV lenV callV unV convV viewS cellsH loadV fldCut AV.ung AV.ungs AV.gc AV.cells AS.ev AS.put anyS gcsV gcO lens lnO gV guardV retK RetP_eq resV oneV anyRo loIx hiIx implO callP_clo evL gcsL clearV storeAV AS.push AS.setO appV appZ shortS copyV buildV partsV fillV srcV fzO okV isCell_c isCell_ptr isCell_sl isCell_fs isCell_fp isCell_clo rowZ_one rowZ_zero rowZ_2 rowZ_3 rowZ_4 rowZ_5 rowZ_6 rowZ_7 rowZ_8 rowZ_9 rowZ_10 rowZ_11 rowZ_12 noHo Value.oneCell' max2V min2V lookV updV updK updW cvals mkAt basV lenM msAt afterH putBack frzFrom frzO rebO backIx nilEq_sl nilEq_fs nilEq_ifn nilEq_ifh ifOp_eql ifOp_neq isLit nilOp_eql nilOp_neq AV.reb AV.rebL
attribute [local simp ↓] runK_skip runK_region runK_draw runK_seq runK_cut runK_cond runK_block runK_loop runK_exit runK_label runK_goto runK_ret runK_range contK_nil contK_seq contK_seq_ret contK_seq_exit contK_seq_goto contK_block contK_block_ret contK_block_goto contK_block_exit runO_nil runO_cons roundK_exit roundK_ret roundK_goto exitK_ret cutK_ret cutK_exit runE_done runE_nil runE_take runE_alt condG_true condG_false runYK_skip runYK_region runYK_draw runYK_seq runYK_cond runYK_block runYK_loop runYK_exit runYK_ret contYK_nil contYK_seq contYK_seq_ret contYK_seq_exit contYK_block contYK_block_ret contYK_block_exit runYO_nil runYO_cons finY_normal finY_ret roundY_ret roundY_exit
attribute [local simp] condYK_bool onYI_some onYP_some onYP_none onYA_some onYA_none onYD_some onYD_none ixD stepY yldArgs AS.clean keepV hoN hnY rebI setPs heldH
set_option maxRecDepth 10000
/-! ## Append and Reset on a row that lives -/
def frameX (own m : Nat) (f : FrameS) : Option Nat → List AV
  | none => frameA f
  | some off => [.c (.int .i64 f.epoch), .c (.int .i64 f.k), .c (.bool f.last), .sl own 1 off f.body.length m]
@[simp] theorem frameX_length (own m : Nat) (f : FrameS) (o : Option Nat) : (frameX own m f o).length = 4 := by cases o <;> rfl
theorem frameSector_sl (f : FrameS) (b : List UInt8) (off m : Nat) (e0 : TypeId) (hm : b.length = m) (hm2 : m ≤ 1000000) (ho : off + f.body.length ≤ m) (hfb : f.body = (b.drop off).take f.body.length) : ACalls Try.prog 56 [.agg (frameX 0 m f (some off))] [.o (.row e0 1) (u8av b)] (fun k => decide (k < 1)) (fun r h' => r = .sl 1 1 0 64 64 ∧ h' = [.o (.row e0 1) (u8av b), .o (.row 5 1) (u8av (frameL f))]) := by
  have l1 := putN_length z64 0 f.epoch 4 4 (by rw [z64_length]; decide)
  have l2 := putN_length (putN z64 0 f.epoch 4 4) 4 f.k 4 4 (by rw [l1, z64_length]; decide)
  rw [l1, z64_length] at l2; rw [z64_length] at l1
  obtain ⟨p1, e1⟩ : ∃ p1, p1 = putN z64 0 f.epoch 4 4 := ⟨_, rfl⟩
  obtain ⟨p2, e2⟩ : ∃ p2, p2 = putN p1 4 f.k 4 4 := ⟨_, rfl⟩
  rw [← e1] at l1 l2; rw [← e2] at l2
  refine acallsC [6] mixed Try.func56 rfl Try.ntmps56 rfl fun E hE _ hho => ?_
  have hz : rowZ 64 [Value.int IntKind.u8 0] = u8av z64 := rfl
  simp (maxSteps := 1000000) [hho, frameX, hz, -List.reduceReplicate]
  refine call_x [2] (put_row 0 64 64 f.epoch 4 z64 rfl (by decide) (by decide) (by decide)) rfl rfl ⟨rfl, rfl⟩ hho (by simp) (by decide) (by simp) (by simp) ?_
  rw [← e1]
  simp (maxSteps := 1000000) [hho, -List.reduceReplicate]
  refine draw_k hho (.take 0 (.take 1 (.take 2 (.take 3 (.alt 4 (.done) (.nil)))))) [1] [] (by decide +kernel) (by simp) ?_
  simp (maxSteps := 1000000) [roOf, holdOf, wrOf, altK, heldOk, Region.binds, l1, -List.reduceReplicate]
  intro E1
  refine call_h [2] (put_row 4 60 64 f.k 4 p1 l1 (by decide) (by decide) (by decide)) rfl rfl ⟨rfl, rfl⟩ (by simp) (by simp) (by decide) (by simp) (by simp) ?_
  rw [← e2]
  obtain ⟨p3, e3⟩ : ∃ p3, p3 = if f.last then p2.set 8 1 else p2 := ⟨_, rfl⟩
  have l3 : p3.length = 64 := by rw [e3]; split <;> simp [l2]
  simp (maxSteps := 1000000) [hho, roOf, holdOf, wrOf, altK, heldOk, Region.binds, l1, l2, -List.reduceReplicate]
  refine seq_cut mixed [] (fun _ : Unit => ⟨slotsOf 35 [(1, .ptr 1 0 4), (3, .sl 2 1 0 64 64)], [.o (.row e0 1) (u8av b), .o .box (frameX 0 m f (some off)), .o (.row 5 1) (u8av p3)]⟩) (fun _ => True) ?_ ?_
  · rintro _ _
    simp (maxSteps := 1000000) [slotsOf, frameX, hm, hho, l3, -List.reduceReplicate]
    obtain ⟨p4, e4⟩ : ∃ p4, p4 = p3.set 9 (byteOf f.body.length) := ⟨_, rfl⟩
    have l4 : p4.length = 64 := by rw [e4, List.length_set, l3]
    simp only [u8_of_wrap]
    have ep4 := u8av_put p3 9 (byteOf f.body.length) (by omega)
    unfold byteOf at ep4 e4
    rw [ep4, ← e4]
    refine draw_k hho (.take 0 (.take 1 (.take 2 (.take 3 (.alt 4 (.done) (.nil)))))) [1] [] (by decide +kernel) (by simp) ?_
    simp (maxSteps := 1000000) [roOf, holdOf, wrOf, altK, heldOk, Region.binds, hm, ho, l4, -List.reduceReplicate]
    have ec : u8av (List.take 10 p4) ++ (u8av (List.take 54 f.body) ++ u8av (List.drop (10 + min 54 f.body.length) p4)) = u8av (setB p4 10 f.body) := by
      unfold setB
      rw [l4, u8av_app, u8av_app, List.append_assoc, Nat.min_comm]
    intro E3
    rw [← hfb, show min f.body.length (m - off) = f.body.length by omega, ec]
    obtain ⟨p5, e5⟩ : ∃ p5, p5 = setB p4 10 f.body := ⟨_, rfl⟩
    have l5 : p5.length = 64 := by rw [e5, setB_length _ _ _ (by omega), l4]
    rw [← e5]
    refine draw_k hho (.take 0 (.take 1 (.take 2 (.take 3 (.alt 4 (.done) (.nil)))))) [] [] (by decide +kernel) (by simp) ?_
    simp (maxSteps := 1000000) [roOf, holdOf, wrOf, altK, heldOk, Region.binds, hm, ho, l5, -List.reduceReplicate]
    intro E4
    have ee : u8av (List.take 56 p5) ++ (u8av (List.take 8 (List.take 8 p5)) ++ u8av (List.drop 64 p5)) = u8av (setB p5 56 (p5.take 8)) := by
      have : min (List.take 8 p5).length 8 = 8 := by simp [l5]
      unfold setB
      rw [l5, this, u8av_app, u8av_app, List.append_assoc]
    rw [ee]
    have e6 : p5 = frameP f := by rw [e5, e4, e3, e2, e1]; rfl
    refine Ret.sel [0, 2] (fun _ => false) (ho := by rfl) (ha := by rfl) ?_ ?_ (by decide) (by simp) (by intro i _ h; have : i = 0 := of_decide_eq_true h; subst this; rfl) ⟨?_, ?_⟩
    · simp
    · simp
    · rfl
    · rw [e6]; rfl
  · cases hfl : f.last
    · simp (maxSteps := 1000000) [slotsOf, frameX, hm, hho, hfl, -List.reduceReplicate]
      refine cut_to () trivial ?_
      exact wk_all (by simp [hE, lens]) (by simp [frameX, hm, e3, hfl]) (by simp [livH, livO, AV.livL, AV.liv, wkL, wkV, List.range', slotsOf])
    · simp (maxSteps := 1000000) [slotsOf, frameX, hm, hho, hfl, l2, -List.reduceReplicate]
      refine cut_to () trivial ?_
      have ep3 := u8av_put p2 8 1 (by omega)
      exact wk_all (by simp [hE, lens]) (by simp [frameX, hm, e3, hfl, ← ep3, u8_one]) (by simp [livH, livO, AV.livL, AV.liv, wkL, wkV, List.range', slotsOf])
def ownR (e0 : TypeId) (l : List UInt8) : AObj := .o (.row e0 1) (u8av l)
def chunkX (l : List UInt8) (j : Nat) : List AV := [.sl 0 1 (46 * j) (min 46 (l.length - 46 * j)) l.length]
theorem chunkX_ok (l : List UInt8) (j : Nat) : ∀ x ∈ chunkX l j, itemOk 3 x = true := by simp [chunkX, itemOk]
theorem chunk_call_sl (l : List UInt8) (e0 : TypeId) : ACalls Try.prog 38 [.sl 0 1 0 l.length l.length, .c (.int .i64 46)] [ownR e0 l] (fun k => decide (k < 1)) (fun r h' => r = .clo (.func 55) [] [.ptr 1 0 1, .ptr 2 0 1] ∧ h' = [ownR e0 l, .o .box [.sl 0 1 0 l.length l.length], .o .box [.c (.int .i64 46)]]) := by
  refine acalls mixed Try.func38 rfl Try.ntmps38 rfl fun E hE hst hho => ?_
  simp (maxSteps := 1000000) [hho, ownR, -List.reduceReplicate]
  exact Ret.same ⟨rfl, rfl⟩
theorem chunk_seq_sl (l : List UInt8) (e0 : TypeId) (hl : l.length ≤ 1000000) : ASeq0 Try.prog [ownR e0 l, .o .box [.sl 0 1 0 l.length l.length], .o .box [.c (.int .i64 46)]] (chunkN l) (chunkX l) 55 [.ptr 1 0 1, .ptr 2 0 1] := by
  refine aseq0_k mixed Try.func55 rfl Try.ntmps55 rfl fun y => ?_
  simp (maxSteps := 1000000) [ownR, -List.reduceReplicate]
  refine loopY_k mixed (fun j : Nat => ⟨slotsOf 31 [(0, .clo (.yield y) [] []), (1, .ptr 1 0 1), (2, .ptr 2 0 1), (4, .c (.int .i64 ((46 * j : Nat) : Int)))], [ownR e0 l, .o .box [.sl 0 1 0 l.length l.length], .o .box [.c (.int .i64 46)]]⟩) (fun j => j) (fun j => chunkN l - j) (fun j => j ≤ chunkN l) 0 (by simp) rfl ?_ ?_
  · intro E hE
    exact wk_all (by simpa using hE) rfl (by simp [livH, livO, AV.livL, AV.liv, wkL, wkV, List.range', slotsOf])
  · intro j hj
    by_cases hlt : 46 * j < l.length
    · have hlti : 46 * (j : Int) < l.length := by omega
      have hjN : j < chunkN l := by unfold chunkN; omega
      simp (maxSteps := 1000000) [slotsOf, ownR, hlti, -List.reduceReplicate]
      refine drawY_k (.take 0 (.take 1 (.take 2 (.take 3 (.take 4 (.take 5 (.take 6 (.done)))))))) (by decide) [1, 2] (by simp) (by decide +kernel) ?_
      obtain ⟨m, hm⟩ : ∃ m, m = min 46 (l.length - 46 * j) := ⟨_, rfl⟩
      have ht : (46 * (j : Int)).toNat = 46 * j := by omega
      have emin : min 46 ((l.length - 46 * j : Nat) : Int) = (m : Int) := by omega
      have eadd : IntKind.i64.wrap (46 * (j : Int) + m) = 46 * (j : Int) + m := IntWalk.i64_in _ (by omega)
      have e46 : IntKind.i64.wrap (46 * (j : Int) + 46) = 46 * (j : Int) + 46 := IntWalk.i64_in _ (by omega)
      have hlen : ((l.drop (46 * j)).take 46).length = m := by simp; omega
      have htm : ((46 * (j : Int)) + m).toNat - 46 * j = m := by omega
      simp (maxSteps := 1000000) [roOf, holdOf, wrOf, altK, heldOk, Region.binds, hlti, ht, emin, eadd, htm, e46, slice3V, -List.reduceReplicate]
      refine ⟨by omega, by omega, hjN, ?_, chunkX_ok l j, ?_, by omega⟩
      · simp only [chunkX, hm]
      · refine roundY_next (j + 1) rfl (by omega) (by omega) rfl fun E hE => wk_all (by simpa using hE) rfl (by simp [livH, livO, AV.livL, AV.liv, wkL, wkV, List.range']; omega)
    · have hlti : ¬ 46 * (j : Int) < l.length := by omega
      have hjN : j = chunkN l := by unfold chunkN at hj ⊢; omega
      simp (maxSteps := 1000000) [slotsOf, ownR, hlti, -List.reduceReplicate]
      exact hjN
end Go.Proofs.Ytmgpiminicgbiaa
