import Derived.Test.YtmgpiminicgbiaaP7j
import Derived.Test.YtmgpiminicgbiaaHDp
namespace Go.Proofs.Ytmgpiminicgbiaa
set_option linter.unusedVariables false
set_option linter.unusedSimpArgs false
open Go.RowKit
attribute [local simp] isCut_nil isCut_region isCut_seq isCut_block isCut_loop isCut_cond isCut_skip isCut_exit isCut_ret isCut_range swapK putK altK condK_bool pickP_bool stepP stepO onPure_some onPure_none onImpl_some onImpl_none stepC onGP_some onGP_none onGV_some condG mkG onIt_it nextP_ptr takeP_eq takeV_some takeV_none takeU_some takeU_none takeQ takeW_some takeN_none takeN_some takeG_some takeO_some altO_some pureV binV2 eqF eqOp ovlV ovl2 rowAt capV binV intBin strBin isSh shV fldV ixV sliceV slice3V loadAV nilV lenV callV unV convV viewS cellsH loadV fldCut AV.ung AV.ungs AV.gc AV.cells AS.ev AS.put anyS gcsV gcO lens lnO gV guardV retK RetP_eq resV oneV anyRo loIx hiIx implO callP_clo evL gcsL clearV storeAV AS.push AS.setO appV appZ shortS copyV buildV partsV fillV srcV fzO okV isCell_c isCell_ptr isCell_sl isCell_fs isCell_fp isCell_clo rowZ_one rowZ_zero rowZ_2 rowZ_3 rowZ_4 rowZ_5 rowZ_6 rowZ_7 rowZ_8 rowZ_9 rowZ_10 rowZ_11 rowZ_12 noHo Value.oneCell' max2V min2V lookV updV updK updW cvals mkAt basV lenM msAt afterH putBack frzFrom frzO rebO backIx nilEq_sl nilEq_fs nilEq_ifn nilEq_ifh ifOp_eql ifOp_neq isLit nilOp_eql nilOp_neq AV.reb AV.rebL
attribute [local simp ↓] runK_skip runK_region runK_draw runK_seq runK_cut runK_cond runK_block runK_loop runK_exit runK_label runK_goto runK_ret runK_range contK_nil contK_seq contK_seq_ret contK_seq_exit contK_seq_goto contK_block contK_block_ret contK_block_goto contK_block_exit runO_nil runO_cons roundK_exit roundK_ret roundK_goto exitK_ret cutK_ret cutK_exit runE_done runE_nil runE_take runE_alt condG_true condG_false
set_option maxRecDepth 10000
/-! ## Laying frames whose bytes lie in a row that lives -/
def framesX (own m : Nat) (l : List (FrameS × Option Nat)) : List AV := l.flatMap fun x => frameX own m x.1 x.2
@[simp] theorem framesX_length (own m : Nat) (l : List (FrameS × Option Nat)) : (framesX own m l).length = l.length * 4 := flat_length (fun x : FrameS × Option Nat => frameX own m x.1 x.2) 4 (by simp) l
theorem framesX_at (own m : Nat) (l : List (FrameS × Option Nat)) (j : Nat) (hj : j < l.length) : List.take 4 (List.drop (j * 4) (framesX own m l)) = frameX own m l[j].1 l[j].2 := flat_at (fun x : FrameS × Option Nat => frameX own m x.1 x.2) 4 (by simp) l j hj
theorem framesX_liv (dead : List Nat) (own m : Nat) (h : dead.contains own = false) (l : List (FrameS × Option Nat)) : AV.livL dead (framesX own m l) = true := by
  induction l with
  | nil => rfl
  | cons x l ih =>
    have e : framesX own m (x :: l) = frameX own m x.1 x.2 ++ framesX own m l := rfl
    rw [e, livL_app, ih, Bool.and_true]
    cases x.2 with
    | none => rfl
    | some off => simp [frameX, AV.livL, AV.liv, h]; simpa using h
/-- at the end of a list of blocks some are dropped -/
def tailF (n m k : Nat) : Nat := if k < n then k else k + m
theorem wk_tail {E : Env} (n m : Nat) {A D : List AObj} {T T' : List AV} (hE : E.ho = noHo) (hst : ∀ k, n ≤ k → k < E.ln0.length → E.st k = false) (hA : A.length = n) (hD : D.length = m) (ht : T = AV.rebL (tailF n m) T') (hA2 : ∀ x ∈ A, rebO (tailF n m) x = x) : Wk E ⟨T, A ++ D⟩ ⟨T', A⟩ := by
  have hobj : ∀ k x, A[k]? = some x → (A ++ D)[tailF n m k]? = some (rebO (tailF n m) x) := by
    intro k x hk
    have hkn : k < n := by have := (List.getElem?_eq_some_iff.1 hk).1; omega
    rw [hA2 x (List.mem_of_getElem? hk), tailF, if_pos hkn, List.getElem?_append_left (by omega)]; exact hk
  refine wk_pick (tailF n m) hE (fun k => ?_) (fun j k _ _ h => by unfold tailF at h; split at h <;> split at h <;> omega) hobj ht (fun k hk hs => by
    by_cases h : k < n
    · simp [tailF, h]
    · rw [hst k (by omega) hk] at hs; cases hs)
  simp only [lens, List.getElem?_map]
  cases hk : A[k]? with
  | some x => rw [hobj k x hk, Option.map_some, Option.map_some, rebO_ln]
  | none =>
    have hkl := List.getElem?_eq_none_iff.1 hk
    rw [tailF, if_neg (by omega), List.getElem?_eq_none_iff.2 (by simp; omega)]
theorem reb_row {f : Nat → Nat} {e : TypeId} {sz : Nat} {l : List AV} (h : ∀ x ∈ l, isD x = true) : rebO f (.o (.row e sz) l) = .o (.row e sz) l := by rw [rebO_eq, rebL_isD (List.all_eq_true.2 h)]
theorem framesX_reb (f : Nat → Nat) (own m : Nat) (h : f own = own) (l : List (FrameS × Option Nat)) : AV.rebL f (framesX own m l) = framesX own m l := by
  have app : ∀ a b : List AV, AV.rebL f (a ++ b) = AV.rebL f a ++ AV.rebL f b := by
    intro a b
    induction a with
    | nil => rfl
    | cons x a ih => simp [AV.rebL, ih]
  induction l with
  | nil => rfl
  | cons x l ih =>
    have e : framesX own m (x :: l) = frameX own m x.1 x.2 ++ framesX own m l := rfl
    rw [e, app, ih]
    cases x.2 with
    | none => rfl
    | some off => simp [frameX, AV.rebL, AV.reb, h]
/-- the blocks of Append while it lays frames -/
def layX (D : DevS) (L : LogS) (e0 : TypeId) (b : List UInt8) (xs : List (FrameS × Option Nat)) : List AObj := logO D L ++ [ownR e0 b, .o .box [.ptr 0 0 9], .o .box [.sl 10 4 0 xs.length (xs.length * 4)], .o .box [.sl 5 1 0 b.length b.length], .o .box [.c (.int .i64 46)], .o (.row 90 4) (framesX 5 b.length xs)]
theorem layX_tail {E : Env} {D1 : DevS} {L : LogS} {e0 : TypeId} {b : List UInt8} {xs : List (FrameS × Option Nat)} {Dd : List AObj} {v : Value} (h2 : E.ho = noHo) (hst : ∀ k, 11 ≤ k → k < E.ln0.length → E.st k = false) (hD : Dd.length = 2) : Wk E ⟨[.c v], layX D1 L e0 b xs ++ Dd⟩ ⟨[.c v], layX D1 L e0 b xs⟩ := by
  refine wk_tail 11 2 h2 hst (by simp [layX, logO, devAt]) hD rfl ?_
  intro x hx
  simp only [layX, logO, devAt, logB, batR, ownR, List.cons_append, List.nil_append, List.mem_cons, List.not_mem_nil, or_false] at hx
  rcases hx with rfl | rfl | rfl | rfl | rfl | rfl | rfl | rfl | rfl | rfl | rfl
  · simp [rebO_eq, AV.rebL, AV.reb, tailF]
  · simp [rebO_eq, AV.rebL, AV.reb, tailF]
  · exact reb_row (by simp)
  · exact reb_row (by simp)
  · exact reb_row (by simp)
  · exact reb_row (by simp)
  · simp [rebO_eq, AV.rebL, AV.reb, tailF]
  · simp [rebO_eq, AV.rebL, AV.reb, tailF]
  · simp [rebO_eq, AV.rebL, AV.reb, tailF]
  · simp [rebO_eq, AV.rebL, AV.reb, tailF]
  · rw [rebO_eq, framesX_reb _ _ _ (by simp [tailF])]
set_option maxHeartbeats 4000000 in
theorem lay_sl (D : DevS) (hD : D.Ok) (hcl : D.calls ≤ 50000) (hwl : D.wait.length ≤ 50000) (L : LogS) (b : List UInt8) (hb : b.length ≤ 1000000) (e0 : TypeId) (xs : List (FrameS × Option Nat)) (hf : xs.length ≤ 2000) (hk : ∀ x ∈ xs, 0 ≤ x.1.k ∧ x.1.k ≤ 1000000 ∧ x.1.body.length ≤ 1000000 ∧ ∀ off, x.2 = some off → off + x.1.body.length ≤ b.length ∧ x.1.body = (b.drop off).take x.1.body.length) :
    ACalls Try.prog 39 [.ptr 0 0 9, .sl 10 4 0 xs.length (xs.length * 4)] (layX D L e0 b xs) (fun k => [0, 1, 2, 4, 5, 6, 7, 8, 9, 10].contains k) (fun r h' => r = .c (.int .i64 (layS D (xs.map (·.1))).1) ∧ h' = layX (layS D (xs.map (·.1))).2 L e0 b xs) := by
  refine acalls mixed Try.func39 rfl Try.ntmps39 rfl fun E hE hst hho => ?_
  simp (maxSteps := 1000000) [layX, logO, logB, batR, devAt, ownR, hho, -List.reduceReplicate]
  refine loop_k mixed (fun x : Nat × DevS => ⟨slotsOf 33 [(0, .ptr 0 0 9), (8, .sl 10 4 0 xs.length (xs.length * 4)), (9, .c (.int .i64 xs.length)), (10, .c (.int .i64 (x.1 : Int)))], layX x.2 L e0 b xs⟩) (fun x => xs.length - x.1) (fun x => x.1 ≤ xs.length ∧ layS D (xs.map (·.1)) = layS x.2 ((xs.map (·.1)).drop x.1) ∧ x.2.Ok ∧ x.2.calls ≤ 50000 + x.1 ∧ x.2.wait.length ≤ 50000 + x.1) (0, D) ⟨Nat.zero_le _, rfl, hD, by simpa using hcl, by simpa using hwl⟩ ?_ ?_
  · exact wk_all (by simp [hE, layX, logO, devAt, lens]) (by simp [layX, logO, logB, batR, devAt, ownR]) (by simp [livH, livO, AV.livL, AV.liv, wkL, wkV, List.range', slotsOf])
  · rintro ⟨j, D1⟩ ⟨hj, hI, hD1, hc1, hw1⟩
    simp only at hj hI hD1 hc1 hw1
    by_cases hjl : j < xs.length
    · obtain ⟨f, o, hfo⟩ : ∃ f o, xs[j] = (f, o) := ⟨_, _, rfl⟩
      obtain ⟨k1, k2, k3, k4⟩ := hk _ (List.getElem_mem hjl)
      rw [hfo] at k1 k2 k3 k4
      simp only at k1 k2 k3 k4
      have hat := framesX_at 5 b.length xs j hjl
      rw [hfo] at hat
      rw [List.drop_eq_getElem_cons (by simpa using hjl), List.getElem_map, hfo, layS] at hI
      have ew : IntKind.i64.wrap ((j : Int) + 1) = (j + 1 : Nat) := by rw [IntWalk.i64_in _ (by omega)]; rfl
      have e2k : IntKind.i64.wrap (2 + f.k) = 2 + f.k := IntWalk.i64_in _ (by omega)
      have el : j * 4 + 4 ≤ xs.length * 4 := by omega
      rcases o with _ | off
      · simp only at hat
        simp (maxSteps := 1000000) [layX, logO, logB, batR, devAt, ownR, slotsOf, hho, hjl, hat, el, frameX, frameA, -List.reduceReplicate]
        refine draw_k hho (.take 0 (.take 1 (.take 2 (.take 3 (.take 4 (.take 5 (.take 6 (.take 7 (.alt 8 (.alt 9 (.take 10 (.done)) (.nil)) (.nil)))))))))) [0, 11] [] (by decide +kernel) (by simp) ?_
        simp (maxSteps := 1000000) [hho, e2k, roOf, holdOf, wrOf, altK, heldOk, Region.binds, -List.reduceReplicate]
        intro E1
        refine call_h [] (frameSector_row f k3) rfl rfl ⟨rfl, rfl⟩ (by simp) (by simp) (by decide) (by simp) (by simp) ?_
        simp (maxSteps := 1000000) [hho, roOf, holdOf, wrOf, altK, heldOk, Region.binds, -List.reduceReplicate]
        intro E2
        have hgl := frameL_length f
        have hws := write_sl D1 hD1 (2 + f.k) (frameL f) 5
        rw [hgl] at hws
        refine call_h [1, 2, 3, 12] hws rfl rfl ⟨rfl, rfl⟩ (by simp) (by simp) (by decide) (by simp) (by simp [devO]) ?_
        have hD2 : (writeS D1 (2 + f.k) (frameL f)).Ok := write_Ok hD1 (by omega) (by omega)
        have hcw : (writeS D1 (2 + f.k) (frameL f)).calls ≤ D1.calls + 1 ∧ (writeS D1 (2 + f.k) (frameL f)).wait.length ≤ D1.wait.length + 1 := by
          unfold writeS; split <;> simp [countS] <;> omega
        obtain ⟨D2, e2⟩ : ∃ D2, D2 = writeS D1 (2 + f.k) (frameL f) := ⟨_, rfl⟩
        rw [← e2] at hI hD2 hcw ⊢
        by_cases hc : checkS D1 (2 + f.k) 64 = 0
        · rw [if_neg (by rw [hc]; decide)] at hI
          simp (maxSteps := 1000000) [hho, hc, ew, devO, roOf, holdOf, wrOf, altK, heldOk, Region.binds, -List.reduceReplicate]
          refine round_next (j + 1, D2) ⟨by simp only; omega, hI, hD2, by simp only; omega, by simp only; omega⟩ (by simp only; omega) ?_
          exact wk_of 11 2 (by simp) (by simp [hE, layX, logO, devAt, lens]) (by simp [layX, logO, logB, batR, devAt, ownR]) (by simp [livH, livO, AV.livL, AV.liv, wkL, wkV, List.range', layX, logO, logB, batR, devAt, ownR, batchA_liv, framesX_liv]) (by simp [livH, livO, AV.livL, AV.liv, wkL, wkV, List.range', slotsOf])
        · rw [if_pos hc] at hI
          have eD : D2 = D1 := by rw [e2]; unfold writeS; rw [if_neg (by rw [hgl]; exact hc)]
          rw [hI, eD]
          simp (maxSteps := 1000000) [hho, hc, devO, roOf, holdOf, wrOf, altK, heldOk, Region.binds, -List.reduceReplicate]
          refine Ret.wkS (r2 := .c (.int .i64 (checkS D1 (2 + f.k) 64))) (h2 := layX D1 L e0 b xs) (fun E1 h1 h2 h3 => ?_) (Ret.same ⟨rfl, by simp [layX, logO, logB, batR, devAt, ownR]⟩)
          refine layX_tail h2 (fun k hk _ => ?_) rfl
          rw [h3]; simp; omega
      · simp only at hat
        obtain ⟨kx1, kx2⟩ := k4 off rfl
        simp (maxSteps := 1000000) [layX, logO, logB, batR, devAt, ownR, slotsOf, hho, hjl, hat, el, frameX, -List.reduceReplicate]
        refine draw_k hho (.take 0 (.take 1 (.take 2 (.take 3 (.take 4 (.take 5 (.take 6 (.take 7 (.alt 8 (.alt 9 (.take 10 (.done)) (.nil)) (.nil)))))))))) [0, 11] [] (by decide +kernel) (by simp) ?_
        simp (maxSteps := 1000000) [hho, e2k, roOf, holdOf, wrOf, altK, heldOk, Region.binds, -List.reduceReplicate]
        intro E1
        refine call_h [5] (frameSector_sl f b off b.length e0 rfl hb kx1 kx2) rfl rfl ⟨rfl, rfl⟩ (by simp) (by simp) (by decide) (by simp) (by simp) ?_
        simp (maxSteps := 1000000) [hho, roOf, holdOf, wrOf, altK, heldOk, Region.binds, -List.reduceReplicate]
        intro E2
        have hgl := frameL_length f
        have hws := write_sl D1 hD1 (2 + f.k) (frameL f) 5
        rw [hgl] at hws
        refine call_h [1, 2, 3, 12] hws rfl rfl ⟨rfl, rfl⟩ (by simp) (by simp) (by decide) (by simp) (by simp [devO]) ?_
        have hD2 : (writeS D1 (2 + f.k) (frameL f)).Ok := write_Ok hD1 (by omega) (by omega)
        have hcw : (writeS D1 (2 + f.k) (frameL f)).calls ≤ D1.calls + 1 ∧ (writeS D1 (2 + f.k) (frameL f)).wait.length ≤ D1.wait.length + 1 := by
          unfold writeS; split <;> simp [countS] <;> omega
        obtain ⟨D2, e2⟩ : ∃ D2, D2 = writeS D1 (2 + f.k) (frameL f) := ⟨_, rfl⟩
        rw [← e2] at hI hD2 hcw ⊢
        by_cases hc : checkS D1 (2 + f.k) 64 = 0
        · rw [if_neg (by rw [hc]; decide)] at hI
          simp (maxSteps := 1000000) [hho, hc, ew, devO, roOf, holdOf, wrOf, altK, heldOk, Region.binds, -List.reduceReplicate]
          refine round_next (j + 1, D2) ⟨by simp only; omega, hI, hD2, by simp only; omega, by simp only; omega⟩ (by simp only; omega) ?_
          exact wk_of 11 2 (by simp) (by simp [hE, layX, logO, devAt, lens]) (by simp [layX, logO, logB, batR, devAt, ownR]) (by simp [livH, livO, AV.livL, AV.liv, wkL, wkV, List.range', layX, logO, logB, batR, devAt, ownR, batchA_liv, framesX_liv]) (by simp [livH, livO, AV.livL, AV.liv, wkL, wkV, List.range', slotsOf])
        · rw [if_pos hc] at hI
          have eD : D2 = D1 := by rw [e2]; unfold writeS; rw [if_neg (by rw [hgl]; exact hc)]
          rw [hI, eD]
          simp (maxSteps := 1000000) [hho, hc, devO, roOf, holdOf, wrOf, altK, heldOk, Region.binds, -List.reduceReplicate]
          refine Ret.wkS (r2 := .c (.int .i64 (checkS D1 (2 + f.k) 64))) (h2 := layX D1 L e0 b xs) (fun E1 h1 h2 h3 => ?_) (Ret.same ⟨rfl, by simp [layX, logO, logB, batR, devAt, ownR]⟩)
          refine layX_tail h2 (fun k hk _ => ?_) rfl
          rw [h3]; simp; omega
    · obtain rfl : j = xs.length := by omega
      rw [List.drop_eq_nil_of_le (by simp), layS] at hI
      simp (maxSteps := 1000000) [layX, logO, logB, batR, devAt, ownR, slotsOf, hho, -List.reduceReplicate]
      refine call_d [1, 2, 3] (fun _ => false) [3] (flush_dev D1 hD1) rfl rfl ⟨rfl, rfl⟩ hho (st12 1) (by simp [livH, livO, AV.livL, AV.liv, wkL, wkV, List.range']) (by simp [livH, livO, AV.livL, AV.liv, wkL, wkV, List.range', batchA_liv, framesX_liv]) (by simp [hst]) (by decide) (by decide) (by simp) (by simp [devO]) ?_
      rw [hI]
      simp (maxSteps := 1000000) [hho, devO, -List.reduceReplicate]
      exact Ret.same ⟨rfl, by simp [layX, logO, logB, batR, devAt, ownR]⟩
end Go.Proofs.Ytmgpiminicgbiaa
