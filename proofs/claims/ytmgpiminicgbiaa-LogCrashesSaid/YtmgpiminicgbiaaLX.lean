import Derived.Test.YtmgpiminicgbiaaLW
namespace Go.Proofs.Ytmgpiminicgbiaa
set_option linter.unusedVariables false
set_option linter.unusedSimpArgs false
open Go.RowKit
attribute [local simp] isCut_nil isCut_region isCut_seq isCut_block isCut_loop isCut_cond isCut_skip isCut_exit isCut_ret isCut_range swapK putK altK condK_bool pickP_bool stepP stepO onPure_some onPure_none onImpl_some onImpl_none stepC onGP_some onGP_none onGV_some condG mkG onIt_it nextP_ptr takeP_eq takeV_some takeN_none takeN_some takeG_some takeO_some altO_some pureV binV intBin strBin isSh shV fldV ixV sliceV loadAV nilV lenV callV unV convV viewS cellsH loadV fldCut AV.ung AV.gc AV.cells AS.ev AS.put anyS gcsV lens lnO gV guardV retK RetP_eq resV oneV anyRo loIx hiIx implO callP_clo evL gcsL storeAV AS.push AS.setO appV copyV buildV partsV fillV srcV fzO okV isCell_c isCell_ptr isCell_sl isCell_fs isCell_fp isCell_clo rowZ_one rowZ_zero rowZ_2 rowZ_3 rowZ_4 rowZ_5 rowZ_6 rowZ_7 rowZ_8 rowZ_9 rowZ_10 rowZ_11 rowZ_12 noHo Value.oneCell' max2V min2V afterH putBack frzFrom frzO rebO backIx nilEq_sl nilEq_fs nilOp_eql nilOp_neq AV.reb AV.rebL
attribute [local simp ↓] runK_skip runK_region runK_draw runK_seq runK_cut runK_cond runK_block runK_loop runK_exit runK_label runK_goto runK_ret runK_range contK_nil contK_seq contK_seq_ret contK_seq_exit contK_seq_goto contK_block contK_block_ret contK_block_goto contK_block_exit runO_nil runO_cons roundK_exit roundK_ret roundK_goto exitK_ret cutK_ret cutK_exit runE_done runE_nil runE_take runE_alt condG_true condG_false
set_option maxRecDepth 10000
/-! ## What LogCrashes asks besides -/
def longS (o : Op7) : Int := if (400 < o.b.length ∧ o.b.length ≤ 65536) ∨ 200 < o.tears.length then 2000 else o.tears.length
theorem long7 (o : Op7) : ACalls Try.prog 10 [.agg (op7A o)] [] (fun _ => false) (fun r h' => r = .c (.int .i64 (longS o))) := by
  refine acalls mixed Try.func10 rfl Try.ntmps10 rfl fun E hE hst hho => ?_
  by_cases h1 : 400 < o.b.length
  · have h1i : (400 : Int) < o.b.length := by omega
    by_cases h2 : o.b.length ≤ 65536
    · have h2i : (o.b.length : Int) ≤ 65536 := by omega
      have hl : longS o = 2000 := by unfold longS; rw [if_pos (.inl ⟨h1, h2⟩)]
      rw [hl]
      simp (maxSteps := 1000000) [op7A, hho, h1, h1i, h2, h2i, -List.reduceReplicate]
      exact Ret.drop (by decide) rfl
    · have h2i : ¬ (o.b.length : Int) ≤ 65536 := by omega
      by_cases h3 : 200 < o.tears.length
      · have h3i : (200 : Int) < o.tears.length := by omega
        have hl : longS o = 2000 := by unfold longS; rw [if_pos (.inr h3)]
        rw [hl]
        simp (maxSteps := 1000000) [op7A, hho, h1, h1i, h2, h2i, h3, h3i, -List.reduceReplicate]
        exact Ret.drop (by decide) rfl
      · have h3i : ¬ (200 : Int) < o.tears.length := by omega
        have hl : longS o = o.tears.length := by unfold longS; rw [if_neg (by omega)]
        rw [hl]
        simp (maxSteps := 1000000) [op7A, hho, h1, h1i, h2, h2i, h3, h3i, -List.reduceReplicate]
        exact Ret.drop (by rfl) rfl
  · have h1i : ¬ (400 : Int) < o.b.length := by omega
    by_cases h3 : 200 < o.tears.length
    · have h3i : (200 : Int) < o.tears.length := by omega
      have hl : longS o = 2000 := by unfold longS; rw [if_pos (.inr h3)]
      rw [hl]
      simp (maxSteps := 1000000) [op7A, hho, h1, h1i, h3, h3i, -List.reduceReplicate]
      exact Ret.drop (by decide) rfl
    · have h3i : ¬ (200 : Int) < o.tears.length := by omega
      have hl : longS o = o.tears.length := by unfold longS; rw [if_neg (by omega)]
      rw [hl]
      simp (maxSteps := 1000000) [op7A, hho, h1, h1i, h3, h3i, -List.reduceReplicate]
      exact Ret.drop (by rfl) rfl
theorem texts_log (a : List (List UInt8)) (ha : a.length ≤ 1000000) : ACalls Try.prog 17 [.fs 1 a.length (batchA a)] [] (fun _ => false) (fun r h' => r = .fs 1 a.length (strA a) ∧ h' = []) := by
  refine acalls mixed Try.func17 rfl Try.ntmps17 rfl fun E hE hst hho => ?_
  simp (maxSteps := 1000000) [hho, -List.reduceReplicate]
  refine loop_k mixed (fun j : Nat => ⟨slotsOf 19 [(3, .sl 0 1 0 j j), (6, .fs 1 a.length (batchA a)), (7, .c (.int .i64 a.length)), (8, .c (.int .i64 (j : Int)))], [.o (.row 9 1) (strA (a.take j))]⟩) (fun j => a.length - j) (fun j => j ≤ a.length) 0 (Nat.zero_le _) ?_ ?_
  · refine Wk.trans (wk_virt 3 9 1 rfl) ?_
    exact wk_all (by simp [hE, lens]) (by simp [strA]) (by simp [livH, livO, AV.livL, AV.liv, wkL, wkV, List.range', slotsOf])
  · intro j hj
    by_cases hjl : j < a.length
    · have hg := batchA_get0 a j hjl
      have hm : min j a.length = j := by omega
      have ew : IntKind.i64.wrap ((j : Int) + 1) = (j + 1 : Nat) := by rw [IntWalk.i64_in _ (by omega)]; rfl
      simp (maxSteps := 1000000) [hho, slotsOf, hjl, hg, hm, ew, bytesOf_str, -List.reduceReplicate]
      refine ⟨by omega, isU8_all _, by omega, ?_⟩
      refine round_next (j + 1) (by omega) (by omega) ?_
      have e : strA (a.take (j + 1)) = strA (a.take j) ++ [.c (.string (str a[j]))] := by rw [List.take_succ_eq_append_getElem hjl, strA_snoc]
      exact wk_of 1 1 (by simp) (by simp [hE, lens]) (by rw [e]; rfl) (by simp [livH, livO, AV.livL, AV.liv, wkL, wkV, List.range']) (by simp [livH, livO, AV.livL, AV.liv, wkL, wkV, List.range', slotsOf])
    · obtain rfl : j = a.length := by omega
      simp (maxSteps := 1000000) [hho, slotsOf, -List.reduceReplicate]
      refine Ret.sel [] (fun k => k == 0) (ho := by rfl) (ha := by rfl) ?_ ?_ (by decide) (by simp) ?_ ⟨?_, ?_⟩
      · simp
      · refine ⟨by simp, by omega, by simp [maxLen]; omega, by rw [List.drop_zero, List.take_of_length_le (by simp), List.all_eq_true]; exact (strA_all a).2 trivial⟩
      · intro i _ h; cases h
      · simp [List.take_of_length_le]
      · rfl
/-! ## What is known between a crash and the next -/
structure CutS where
  D : DevS
  have_ : List (List UInt8)
  head : List UInt8
  was : List (List UInt8)
  old : List UInt8
/-- whatever this crash leaves: what all calls did, and perhaps the one under way -/
def Pend (tears : List Int) (c M j : Nat) (y : CutS) : Prop :=
  DOk 38 c y.D ∧ y.have_.length ≤ j + 1 ∧ y.was.length ≤ j + 1 ∧
  ∃ N B body bs at_ least, N ≤ M ∧ RestC 38 (secL (crashS tears y.D)) N B body bs at_ least ∧ ((bs = y.have_ ∧ body = y.head) ∨ (bs = y.was ∧ body = y.old)) ∧ bs.length ≤ j + 1 ∧ ∀ b ∈ bs, b.length ≤ 400
/-- how a region that draws ends: in states of one form -/
def dcutK (E : Env) {Y : Type} (fs : Y → AS) (FI : Y → Prop) (s : AS) : Prop := ∃ y, FI y ∧ Wk E s (fs y)
theorem draw_cut {P : Program} {E : Env} {ops : Array Oper} {s : AS} {K : AS → Prop} {Y : Type} (fs : Y → AS) (FI : Y → Prop) (tail : ∀ y, FI y → K (fs y)) (h : DrawG P E ops s (dcutK E fs FI)) : DrawG P E ops s K := fun a w hs N hN => h a w hs N fun s' a' w' h1 ⟨y, h2, h3⟩ => hN _ a' w' (h3 a' w' h1) (tail y h2)
theorem dcut_to {E : Env} {Y : Type} {fs : Y → AS} {FI : Y → Prop} {s : AS} (y : Y) (h1 : FI y) (h2 : Wk E s (fs y)) : dcutK E fs FI s := ⟨y, h1, h2⟩
theorem open_fail (D : DevS) (hD : D.Ok) (hcl : D.calls ≤ 100000) (hwl : D.wait.length ≤ 100000) (n : Nat) (h1 : 1 ≤ n) (h2 : (n : Int) ≤ D.kept.length - 2) (W : Int × DevS × LogS) (hW : openS D n = W) (h0 : W.1 ≠ 0) :
    ACalls Try.prog 9 [.ptr 0 0 5, .c (.int .i64 n)] (devO D) (fun k => decide (k < 2)) (fun r h' => r = .tup [.c (.pointer none), .c (.int .i64 W.1)] ∧ h' = devO W.2.1) := by
  refine open_dev D hD hcl hwl n h1 h2 _ ⟨fun h => ?_, fun _ => ⟨by rw [hW], by rw [hW]⟩⟩
  rw [hW] at h
  exact absurd h h0
structure CrOk (j : Nat) (x : EpS) : Prop where
  u : UpC 38 (secL x.D) x.N x.B x.body x.bs x.at_ x.least
  d : DOk 38 (2 + 60 * j) x.D
  w : x.D.wait = []
  N : x.N ≤ 1 + 4 * j
  bl : x.bs.length ≤ j
  bb : ∀ b ∈ x.bs, b.length ≤ 400
set_option maxHeartbeats 8000000 in
theorem crashes_walk (sc : List Op7) (hs : sc.length ≤ maxLen ∧ ∀ o ∈ sc, o.Ok) (ts : List Int) (hts : ts.length ≤ maxLen ∧ ∀ x ∈ ts, i64ok x) : ACalls Try.prog 3 [.fs 4 sc.length (scriptA sc), .fs 1 ts.length (intAV ts)] [] (fun _ => false) (fun r h' => r = .c (.bool true)) := by
  refine acalls mixed Try.func3 rfl Try.ntmps3 rfl fun E hE hst hho => ?_
  simp (maxSteps := 1000000) [hho, -List.reduceReplicate]
  refine call_plain (fun _ => false) first_log (ha := by rfl) (by simp) ?_
  rintro r h' ⟨rfl, rfl⟩
  refine ⟨rfl, ?_⟩
  by_cases ht : 100 < ts.length
  · have hti : (100 : Int) < ts.length := by omega
    simp (maxSteps := 1000000) [hho, ht, hti, -List.reduceReplicate]
    exact Ret.drop (by decide) rfl
  have hti : ¬ (100 : Int) < ts.length := by omega
  simp (maxSteps := 1000000) [hho, ht, hti, -List.reduceReplicate]
  refine call_x [] (new_ok (40 : Nat) (by decide) (by decide)) rfl rfl ⟨rfl, rfl⟩ hho (by simp) (by decide) (by simp) (by simp) ?_
  rw [show ((40 : Nat) : Int).toNat = 38 + 2 from rfl]
  obtain ⟨w0, wd, ww, wb, wl, wu⟩ := start_of (by decide) start38
  simp (maxSteps := 1000000) [hho, devO, -List.reduceReplicate]
  obtain ⟨W, hW⟩ : ∃ W, W = openS (newS (38 + 2)) 38 := ⟨_, rfl⟩
  rw [← hW] at w0 wd ww wb wl wu
  refine call_d [0, 1, 2] (fun _ => false) [2] (open_is (newS (38 + 2)) (newS_ok (38 + 2) (by omega) (by omega)) (by simp [newS]) (by simp [newS]) 38 (by decide) (by simp [newS]) W hW.symm w0) rfl rfl ⟨rfl, rfl⟩ hho (st_dev2 0 1 2) (by simp [livH, livO, AV.livL, AV.liv, wkL, wkV, List.range']) (by simp [livH, livO, AV.livL, AV.liv, wkL, wkV, List.range']) (by simp [hst]) (by decide) (by decide) (by simp) (by simp [dlO, devO]) ?_
  simp (maxSteps := 1000000) [hho, dlO_eq, logB, batR, -List.reduceReplicate]
  refine loop_k2c [22, 25] mixed (fun x : Nat × EpS => ⟨slotsOf 176 [(1, .fs 1 ts.length (intAV ts)), (5, .ptr 0 0 5), (7, .ptr 3 0 9), (9, .fs 1 x.2.bs.length (strA x.2.bs)), (10, .c (.string (str x.2.body))), (33, .fs 4 sc.length (scriptA sc)), (34, .c (.int .i64 sc.length)), (35, .c (.int .i64 (x.1 : Int)))], dlO x.2.D (x.2.L 38)⟩) (fun x => sc.length - x.1) (fun x => x.1 ≤ sc.length ∧ x.1 ≤ 25 ∧ CrOk x.1 x.2) (0, ⟨1, 0, [], [], 0, 0, W.2.1⟩)
    (fun x : EpS => ⟨slotsOf 176 [], dlO x.D (x.L 38)⟩) (fun x => True) 0 ⟨Nat.zero_le _, Nat.zero_le _, ⟨wu, wd, ww, by simp, by simp, by simp⟩⟩ ?_ ?_ ?_
  · refine Wk.trans (wk_slot 9 rfl fun G F w v _ h => nil_fs0 1 h) ?_
    exact wk_all (by simp [hE, lens]) (by simp [dlO_eq, logB, batR, EpS.L, wl]) (by simp [livH, livO, AV.livL, AV.liv, wkL, wkV, List.range', slotsOf, wl, strA, str])
  · rintro x _
    simp (maxSteps := 1000000) [hho, slotsOf, -List.reduceReplicate]
    exact Ret.drop (by decide) rfl
  · rintro ⟨j, x⟩ ⟨hj, hj25, hx⟩
    simp only at hj hj25 hx
    by_cases hlt : j < sc.length
    · obtain ⟨o, ho⟩ : ∃ o, o = sc[j] := ⟨_, rfl⟩
      have hoo : o.Ok := by rw [ho]; exact hs.2 _ (List.getElem_mem hlt)
      have hat : List.take 4 (List.drop (j * 4) (scriptA sc)) = op7A o := by rw [ho]; exact flat_at op7A 4 (by simp) sc j hlt
      by_cases h25 : j < 25
      · have h25i : ¬ (25 : Int) ≤ j := by omega
        simp (maxSteps := 1000000) [dlO_eq, logB, batR, slotsOf, hho, hlt, hat, op7A, h25, h25i, -List.reduceReplicate]
        refine call_plain (fun _ => false) (long7 o) (ha := by rfl) (by simp [op7A]) ?_
        rintro r h' rfl
        refine ⟨rfl, ?_⟩
        by_cases hlg : 1000 < longS o
        · simp (maxSteps := 1000000) [hho, hlg, undef, onGP_none, condG_false, -List.reduceReplicate]
          exact exit_to x trivial (wk_of 5 1 (by simp) (by simp [hE, lens]) (by simp [dlO_eq, logB, batR]) (by simp [livH, livO, AV.livL, AV.liv, wkL, wkV, List.range', batchA_liv]) (by simp [livH, livO, AV.livL, AV.liv, wkL, wkV, List.range', slotsOf]))
        by_cases hbb : 400 < o.b.length
        · have hbi : (400 : Int) < o.b.length := by omega
          simp (maxSteps := 1000000) [hho, hlg, hbb, hbi, -List.reduceReplicate]
          exact exit_to x trivial (wk_of 5 1 (by simp) (by simp [hE, lens]) (by simp [dlO_eq, logB, batR]) (by simp [livH, livO, AV.livL, AV.liv, wkL, wkV, List.range', batchA_liv]) (by simp [livH, livO, AV.livL, AV.liv, wkL, wkV, List.range', slotsOf]))
        have hbi : ¬ (400 : Int) < o.b.length := by omega
        obtain ⟨a, ha, a0, a1⟩ : ∃ a, IntKind.i64.wrap ((IntKind.u64.wrap o.i).tmod 12) = a ∧ 0 ≤ a ∧ a < 12 := ⟨_, rfl, ixU_range 12 (by decide) (by decide) o.i⟩
        obtain ⟨a', ha', b0, b1⟩ : ∃ a', IntKind.i64.wrap ((IntKind.u64.wrap o.i).tmod 3) = a' ∧ 0 ≤ a' ∧ a' < 3 := ⟨_, rfl, ixU_range 3 (by decide) (by decide) o.i⟩
        simp (maxSteps := 1000000) [hho, hlg, hbb, hbi, ha, -List.reduceReplicate]
        refine call_x [0, 1, 2] (limit_dev x.D a) rfl rfl ⟨rfl, rfl⟩ hho (by simp) (by decide) (by simp) (by simp [devO]) ?_
        obtain ⟨D1, hD1⟩ : ∃ D1, D1 = { x.D with bound := true, left := max a 0 } := ⟨_, rfl⟩
        have h1d : DOk 38 (2 + 60 * j) D1 := by rw [hD1]; exact hx.d.limit a (by omega)
        have h1w : D1.wait = [] := by rw [hD1]; exact hx.w
        have h1u : UpC 38 (secL D1) x.N x.B x.body x.bs x.at_ x.least := by rw [hD1, secL_limit]; exact hx.u
        rw [← hD1]
        simp (maxSteps := 1000000) [hho, devO, -List.reduceReplicate]
        refine seq_cut mixed [] (fun y : CutS => ⟨slotsOf 176 [(1, .fs 1 ts.length (intAV ts)), (5, .ptr 0 0 5), (9, .fs 1 y.have_.length (strA y.have_)), (10, .c (.string (str y.head))), (12, .ptr 3 0 4), (13, .fs 1 y.was.length (strA y.was)), (14, .c (.string (str y.old))), (33, .fs 4 sc.length (scriptA sc)), (34, .c (.int .i64 sc.length)), (35, .c (.int .i64 (j : Int)))], devO y.D ++ [.o .box (op7A o)]⟩) (fun y => Pend ts (2 + 60 * j + 39) (2 + 4 * j) j y) ?_ ?_
        · intro y hy
          obtain ⟨hyd, hyh, hyw, N, B, body, bs, at_, least, hN, hR, hor, hbl, hbb2⟩ := hy
          simp (maxSteps := 1000000) [devO, slotsOf, hho, op7A, -List.reduceReplicate]
          refine call_d [0, 1, 2] (fun _ => false) [2] (crash_dev y.D hyd.ok ts) rfl rfl ⟨rfl, rfl⟩ hho (st_dev2 0 1 2) (by simp [livH, livO, AV.livL, AV.liv, wkL, wkV, List.range']) (by simp [livH, livO, AV.livL, AV.liv, wkL, wkV, List.range']) (by simp [hst]) (by decide) (by decide) (by simp) (by simp [devO]) ?_
          obtain ⟨D3, hD3⟩ : ∃ D3, D3 = crashS ts y.D := ⟨_, rfl⟩
          have h3d : DOk 38 (2 + 60 * j + 39) D3 := by rw [hD3]; exact hyd.crash ts
          have h3w : D3.wait = [] := by rw [hD3]; rfl
          rw [← hD3] at hR ⊢
          simp (maxSteps := 1000000) [hho, devO, ha', -List.reduceReplicate]
          refine call_x [0, 1, 2] (limit_dev D3 a') rfl rfl ⟨rfl, rfl⟩ hho (by simp) (by decide) (by simp) (by simp [devO]) ?_
          obtain ⟨D4, hD4⟩ : ∃ D4, D4 = { D3 with bound := true, left := max a' 0 } := ⟨_, rfl⟩
          have h4d : DOk 38 (2 + 60 * j + 39) D4 := by rw [hD4]; exact h3d.limit a' (by omega)
          have h4w : D4.wait = [] := by rw [hD4]; exact h3w
          have h4r : RestC 38 (secL D4) N B body bs at_ least := by rw [hD4, secL_limit]; exact hR
          rw [← hD4]
          simp (maxSteps := 1000000) [hho, devO, -List.reduceReplicate]
          refine seq_cut mixed [] (fun z : CutS => ⟨slotsOf 176 [(1, .fs 1 ts.length (intAV ts)), (5, .ptr 0 0 5), (9, .fs 1 z.have_.length (strA z.have_)), (10, .c (.string (str z.head))), (13, .fs 1 z.was.length (strA z.was)), (14, .c (.string (str z.old))), (33, .fs 4 sc.length (scriptA sc)), (34, .c (.int .i64 sc.length)), (35, .c (.int .i64 (j : Int)))], devO z.D⟩) (fun z => Pend ts (2 + 60 * j + 41) (3 + 4 * j) j z) ?_ ?_
          · intro z hz
            obtain ⟨hzd, hzh, hzw, N, B, body, bs, at_, least, hN, hR, hor, hbl, hbb2⟩ := hz
            simp (maxSteps := 1000000) [devO, slotsOf, hho, -List.reduceReplicate]
            refine call_d [0, 1, 2] (fun _ => false) [2] (crash_dev z.D hzd.ok ts) rfl rfl ⟨rfl, rfl⟩ hho (st_dev2 0 1 2) (by simp [livH, livO, AV.livL, AV.liv, wkL, wkV, List.range']) (by simp [livH, livO, AV.livL, AV.liv, wkL, wkV, List.range']) (by simp [hst]) (by decide) (by decide) (by simp) (by simp [devO]) ?_
            obtain ⟨D6, hD6⟩ : ∃ D6, D6 = crashS ts z.D := ⟨_, rfl⟩
            have h6d : DOk 38 (2 + 60 * j + 41) D6 := by rw [hD6]; exact hzd.crash ts
            have h6w : D6.wait = [] := by rw [hD6]; rfl
            have h6b : D6.bound = false := by rw [hD6]; rfl
            rw [← hD6] at hR ⊢
            have hcc6 := h6d.cc
            have hwl6 : D6.wait.length = 0 := by rw [h6w]; rfl
            obtain ⟨m1, m2, m3⟩ := open_dev2 hR (by omega) h6d h6w (by omega)
            have hom := open_is D6 h6d.ok (by omega) (by omega) 38 (by decide) (by rw [h6d.kn]; decide)
            obtain ⟨M, hM⟩ : ∃ M, M = openS D6 38 := ⟨_, rfl⟩
            rw [← hM] at m1 m2 m3
            have hom := hom M hM.symm
            rcases m3 with ⟨mv0, mw, ml, mu⟩ | ⟨_, hbd, _⟩
            · have hom := hom mv0
              rw [ml] at hom
              simp (maxSteps := 1000000) [hho, devO, -List.reduceReplicate]
              refine call_d [0, 1, 2] (fun _ => false) [2] hom rfl rfl ⟨rfl, rfl⟩ hho (st_dev2 0 1 2) (by simp [livH, livO, AV.livL, AV.liv, wkL, wkV, List.range']) (by simp [livH, livO, AV.livL, AV.liv, wkL, wkV, List.range']) (by simp [hst]) (by decide) (by decide) (by simp) (by simp [dlO_eq, devO]) ?_
              have hcm := m1.cc
              have hwlm : M.2.1.wait.length = 0 := by rw [mw]; rfl
              obtain ⟨p1, p2, p3⟩ := open_dev2 mu.r (by omega) m1 mw (by omega)
              have hop := open_is M.2.1 m1.ok (by omega) (by omega) 38 (by decide) (by rw [m1.kn]; decide)
              obtain ⟨P, hP⟩ : ∃ P, P = openS M.2.1 38 := ⟨_, rfl⟩
              rw [← hP] at p1 p2 p3
              have hop := hop P hP.symm
              rcases p3 with ⟨pv0, pw, pl, pu⟩ | ⟨_, hbd, _⟩
              · have hop := hop pv0
                rw [pl] at hop
                simp (maxSteps := 1000000) [hho, dlO_eq, logB, batR, -List.reduceReplicate]
                refine call_d [0, 1, 2] (fun _ => false) [2] hop rfl rfl ⟨rfl, rfl⟩ hho (st_dev2 0 1 2) (by simp [livH, livO, AV.livL, AV.liv, wkL, wkV, List.range']) (by simp [livH, livO, AV.livL, AV.liv, wkL, wkV, List.range', batchA_liv]) (by simp [hst]) (by decide) (by decide) (by simp) (by simp [dlO_eq, devO]) ?_
                simp (maxSteps := 1000000) [hho, dlO_eq, logB, batR, -List.reduceReplicate]
                let LM : LogS := ⟨(38 : Nat), ⟨((N + 1 : Nat) : Int), ((N + 1 : Nat) : Int), B, body⟩, at_, bs, false⟩
                let LP : LogS := ⟨(38 : Nat), ⟨((N + 1 + 1 : Nat) : Int), ((N + 1 + 1 : Nat) : Int), B, body⟩, at_, bs, false⟩
                have hbl3 := hR.bl
                have hb4 : ∀ b ∈ bs, b.length ≤ 1000000 := fun b hb => by have := hbb2 b hb; omega
                refine draw_cut (Y := Unit) (fun _ => ⟨(slotsOf 176 [(1, .fs 1 ts.length (intAV ts)), (5, .ptr 0 0 5), (9, .fs 1 z.have_.length (strA z.have_)), (10, .c (.string (str z.head))), (13, .fs 1 z.was.length (strA z.was)), (14, .c (.string (str z.old))), (15, .ptr 3 0 9), (17, .ptr 5 0 9), (33, .fs 4 sc.length (scriptA sc)), (34, .c (.int .i64 sc.length)), (35, .c (.int .i64 (j : Int))), (147, .c (.bool false))]), dlO P.2.1 LM ++ [logB LP 0 6, batR LP.bs]⟩) (fun _ => True) ?_ ?_
                · rintro _ _
                  have ew : IntKind.i64.wrap ((j : Int) + 1) = (j + 1 : Nat) := by rw [IntWalk.i64_in _ (by omega)]; rfl
                  simp (maxSteps := 1000000) [hho, slotsOf, dlO_eq, logB, batR, -List.reduceReplicate]
                  refine call_x [3, 0, 1, 2, 4] (batches_log P.2.1 LM hb4 (by show bs.length ≤ _; omega)) rfl rfl ⟨rfl, rfl⟩ hho (by simp) (by decide) (by simp) (by simp [logO, devAt]) ?_
                  simp (maxSteps := 1000000) [hho, logO, devAt, logB, batR, -List.reduceReplicate]
                  refine call_plain (fun _ => false) (same_log bs z.have_ (by omega) (by omega)) (ha := by rfl) (by simp) ?_
                  rintro r h' ⟨rfl, rfl⟩
                  refine ⟨rfl, ?_⟩
                  by_cases ex1 : bs = z.have_
                  · simp (maxSteps := 1000000) [hho, (eq_true ex1 : (bs = z.have_) = True), -List.reduceReplicate]
                    refine call_x [3, 0, 1, 2, 4] (head_log P.2.1 LM (by show body.length ≤ _; omega)) rfl rfl ⟨rfl, rfl⟩ hho (by simp) (by decide) (by simp) (by simp [logO, devAt]) ?_
                    by_cases ex2 : body = z.head
                    · have ex2' : str LM.h.body = str z.head := by rw [← ex2]
                      simp (maxSteps := 1000000) [hho, logO, devAt, logB, batR, bytesOf_str, ew, (eq_true ex2' : (str LM.h.body = str z.head) = True), -List.reduceReplicate]
                      refine ⟨isU8_all _, ?_⟩
                      refine round_next (j + 1, (⟨N + 1 + 1, B, body, bs, at_, least, P.2.1⟩ : EpS)) ⟨by simp only; omega, by simp only; omega, ⟨pu, p1.up (by omega), pw, by simp only; omega, hbl, hbb2⟩⟩ (by simp only; omega) ?_
                      refine wk_sel [0, 1, 2, 5, 6] (slotsOf 176 [(1, .fs 1 ts.length (intAV ts)), (5, .ptr 0 0 5), (7, .ptr 5 0 9), (9, .fs 1 bs.length (strA bs)), (10, .c (.string (str body))), (33, .fs 4 sc.length (scriptA sc)), (34, .c (.int .i64 sc.length)), (35, .c (.int .i64 (j + 1 : Nat)))]) hho (by simp [livH, livO, AV.livL, AV.liv, wkL, wkV, List.range', slotsOf, ex1, ex2]) rfl rfl ?_ ?_ (by decide) (by simp [hst]) (by simp [hE, lens]) ?_ ?_
                      · simp
                      · simp [slotsOf]
                      · rfl
                      · simp [dlO_eq, logB, batR, EpS.L, LP]

                    · have ex2' : ¬ str LM.h.body = str z.head := fun h => ex2 (str_inj.1 h)
                      simp (maxSteps := 1000000) [hho, logO, devAt, logB, batR, bytesOf_str, ew, (eq_false ex2' : (str LM.h.body = str z.head) = False), -List.reduceReplicate]
                      refine ⟨isU8_all _, ?_⟩
                      obtain ⟨ex1, ex2⟩ : bs = z.was ∧ body = z.old := hor.resolve_left fun h => ex2 h.2
                      have ex2' : str LM.h.body = str z.old := by rw [← ex2]
                      refine call_x [3, 0, 1, 2, 4] (batches_log P.2.1 LM hb4 (by show bs.length ≤ _; omega)) rfl rfl ⟨rfl, rfl⟩ hho (by simp) (by decide) (by simp) (by simp [logO, devAt]) ?_
                      simp (maxSteps := 1000000) [hho, logO, devAt, logB, batR, -List.reduceReplicate]
                      refine call_plain (fun _ => false) (same_log bs z.was (by omega) (by omega)) (ha := by rfl) (by simp) ?_
                      rintro r h' ⟨rfl, rfl⟩
                      refine ⟨rfl, ?_⟩
                      simp (maxSteps := 1000000) [hho, (eq_true ex1 : (bs = z.was) = True), -List.reduceReplicate]
                      refine call_x [3, 0, 1, 2, 4] (head_log P.2.1 LM (by show body.length ≤ _; omega)) rfl rfl ⟨rfl, rfl⟩ hho (by simp) (by decide) (by simp) (by simp [logO, devAt]) ?_
                      simp (maxSteps := 1000000) [hho, logO, devAt, logB, batR, bytesOf_str, ew, (eq_true ex2' : (str LM.h.body = str z.old) = True), -List.reduceReplicate]
                      refine ⟨isU8_all _, ?_⟩
                      refine round_next (j + 1, (⟨N + 1 + 1, B, body, bs, at_, least, P.2.1⟩ : EpS)) ⟨by simp only; omega, by simp only; omega, ⟨pu, p1.up (by omega), pw, by simp only; omega, hbl, hbb2⟩⟩ (by simp only; omega) ?_
                      refine wk_sel [0, 1, 2, 5, 6] (slotsOf 176 [(1, .fs 1 ts.length (intAV ts)), (5, .ptr 0 0 5), (7, .ptr 5 0 9), (9, .fs 1 bs.length (strA bs)), (10, .c (.string (str body))), (33, .fs 4 sc.length (scriptA sc)), (34, .c (.int .i64 sc.length)), (35, .c (.int .i64 (j + 1 : Nat)))]) hho (by simp [livH, livO, AV.livL, AV.liv, wkL, wkV, List.range', slotsOf, ex1, ex2]) rfl rfl ?_ ?_ (by decide) (by simp [hst]) (by simp [hE, lens]) ?_ ?_
                      · simp
                      · simp [slotsOf]
                      · rfl
                      · simp [dlO_eq, logB, batR, EpS.L, LP]

                  · simp (maxSteps := 1000000) [hho, (eq_false ex1 : (bs = z.have_) = False), undef, onGP_none, condG_false, -List.reduceReplicate]
                    obtain ⟨ex1, ex2⟩ : bs = z.was ∧ body = z.old := hor.resolve_left fun h => ex1 h.1
                    have ex2' : str LM.h.body = str z.old := by rw [← ex2]
                    refine call_x [3, 0, 1, 2, 4] (batches_log P.2.1 LM hb4 (by show bs.length ≤ _; omega)) rfl rfl ⟨rfl, rfl⟩ hho (by simp) (by decide) (by simp) (by simp [logO, devAt]) ?_
                    simp (maxSteps := 1000000) [hho, logO, devAt, logB, batR, -List.reduceReplicate]
                    refine call_plain (fun _ => false) (same_log bs z.was (by omega) (by omega)) (ha := by rfl) (by simp) ?_
                    rintro r h' ⟨rfl, rfl⟩
                    refine ⟨rfl, ?_⟩
                    simp (maxSteps := 1000000) [hho, (eq_true ex1 : (bs = z.was) = True), -List.reduceReplicate]
                    refine call_x [3, 0, 1, 2, 4] (head_log P.2.1 LM (by show body.length ≤ _; omega)) rfl rfl ⟨rfl, rfl⟩ hho (by simp) (by decide) (by simp) (by simp [logO, devAt]) ?_
                    simp (maxSteps := 1000000) [hho, logO, devAt, logB, batR, bytesOf_str, ew, (eq_true ex2' : (str LM.h.body = str z.old) = True), -List.reduceReplicate]
                    refine ⟨isU8_all _, ?_⟩
                    refine round_next (j + 1, (⟨N + 1 + 1, B, body, bs, at_, least, P.2.1⟩ : EpS)) ⟨by simp only; omega, by simp only; omega, ⟨pu, p1.up (by omega), pw, by simp only; omega, hbl, hbb2⟩⟩ (by simp only; omega) ?_
                    refine wk_sel [0, 1, 2, 5, 6] (slotsOf 176 [(1, .fs 1 ts.length (intAV ts)), (5, .ptr 0 0 5), (7, .ptr 5 0 9), (9, .fs 1 bs.length (strA bs)), (10, .c (.string (str body))), (33, .fs 4 sc.length (scriptA sc)), (34, .c (.int .i64 sc.length)), (35, .c (.int .i64 (j + 1 : Nat)))]) hho (by simp [livH, livO, AV.livL, AV.liv, wkL, wkV, List.range', slotsOf, ex1, ex2]) rfl rfl ?_ ?_ (by decide) (by simp [hst]) (by simp [hE, lens]) ?_ ?_
                    · simp
                    · simp [slotsOf]
                    · rfl
                    · simp [dlO_eq, logB, batR, EpS.L, LP]

                · refine draw_k hho (.take 0 (.take 1 (.take 2 (.take 3 (.take 4 (.take 5 (.take 6 (.take 7 (.take 9 (.alt 8 (.alt 10 (.alt 11 (.alt 12 (.take 13 (.take 14 (.take 15 (.take 16 (.take 19 (.alt 17 (.alt 18 (.alt 20 (.alt 21 (.take 22 (.take 23 (.done))) (.nil)) (.nil)) (.alt 20 (.alt 18 (.alt 21 (.take 22 (.take 23 (.done))) (.nil)) (.alt 21 (.alt 18 (.take 22 (.take 23 (.done))) (.nil)) (.nil))) (.nil))) (.nil))))))) (.nil)) (.nil)) (.nil)) (.nil))))))))))) [] [] (by decide +kernel) (by simp) ?_
                  simp (maxSteps := 1000000) [hho, roOf, holdOf, wrOf, altK, heldOk, Region.binds, -List.reduceReplicate]
                  intro E1
                  refine call_h [5, 0, 1, 2, 6] (batches_log P.2.1 LP hb4 (by show bs.length ≤ _; omega)) rfl rfl ⟨rfl, rfl⟩ (by simp) (by simp) (by decide) (by simp) (by simp [logO, devAt]) ?_
                  simp (maxSteps := 1000000) [hho, logO, devAt, logB, batR, roOf, holdOf, wrOf, altK, heldOk, Region.binds, -List.reduceReplicate]
                  intro E2
                  refine call_h [3, 0, 1, 2, 4] (batches_log P.2.1 LM hb4 (by show bs.length ≤ _; omega)) rfl rfl ⟨rfl, rfl⟩ (by simp) (by simp) (by decide) (by simp) (by simp [logO, devAt]) ?_
                  simp (maxSteps := 1000000) [hho, logO, devAt, logB, batR, roOf, holdOf, wrOf, altK, heldOk, Region.binds, -List.reduceReplicate]
                  intro E3
                  refine call_h [] (texts_log bs (by omega)) rfl rfl ⟨rfl, rfl⟩ (by simp) (by simp) (by decide) (by simp) (by simp) ?_
                  simp (maxSteps := 1000000) [hho, roOf, holdOf, wrOf, altK, heldOk, Region.binds, -List.reduceReplicate]
                  intro E4
                  refine call_plain (fun _ => false) (same_log bs bs (by omega) (by omega)) (ha := by rfl) (by simp) ?_
                  rintro r h' ⟨rfl, rfl⟩
                  refine ⟨rfl, ?_⟩
                  simp (maxSteps := 1000000) [hho, logO, devAt, logB, batR, roOf, holdOf, wrOf, altK, heldOk, Region.binds, -List.reduceReplicate]
                  intro E5
                  refine call_h [5, 0, 1, 2, 6] (head_log P.2.1 LP (by show body.length ≤ _; omega)) rfl rfl ⟨rfl, rfl⟩ (by simp) (by simp) (by decide) (by simp) (by simp [logO, devAt]) ?_
                  simp (maxSteps := 1000000) [hho, logO, devAt, logB, batR, roOf, holdOf, wrOf, altK, heldOk, Region.binds, -List.reduceReplicate]
                  refine ⟨fun E6 => ⟨isU8_all _, fun E7 => ?_⟩, fun E6 => ?_⟩
                  · refine call_h [3, 0, 1, 2, 4] (head_log P.2.1 LM (by show body.length ≤ _; omega)) rfl rfl ⟨rfl, rfl⟩ (by simp) (by simp) (by decide) (by simp) (by simp [logO, devAt]) ?_
                    simp (maxSteps := 1000000) [hho, logO, devAt, logB, batR, roOf, holdOf, wrOf, altK, heldOk, Region.binds, bytesOf_str, -List.reduceReplicate]
                    exact fun _ => ⟨isU8_all _, by refine dcut_to () trivial (wk_of 7 2 (by simp) (by simp [hE, lens]) (by simp [dlO_eq, logB, batR]) (by simp [livH, livO, AV.livL, AV.liv, wkL, wkV, List.range', dlO_eq, logB, batR, batchA_liv]) (by simp [livH, livO, AV.livL, AV.liv, wkL, wkV, List.range', slotsOf, LM, LP]))⟩
                  · refine call_h [3, 0, 1, 2, 4] (head_log P.2.1 LM (by show body.length ≤ _; omega)) rfl rfl ⟨rfl, rfl⟩ (by simp) (by simp) (by decide) (by simp) (by simp [logO, devAt]) ?_
                    simp (maxSteps := 1000000) [hho, logO, devAt, logB, batR, roOf, holdOf, wrOf, altK, heldOk, Region.binds, bytesOf_str, -List.reduceReplicate]
                    refine ⟨fun _ => ⟨isU8_all _, fun _ => ⟨isU8_all _, ?_⟩⟩, fun _ => ⟨isU8_all _, fun _ => ⟨isU8_all _, ?_⟩⟩⟩ <;> exact dcut_to () trivial (wk_of 7 2 (by simp) (by simp [hE, lens]) (by simp [dlO_eq, logB, batR]) (by simp [livH, livO, AV.livL, AV.liv, wkL, wkV, List.range', dlO_eq, logB, batR, batchA_liv]) (by simp [livH, livO, AV.livL, AV.liv, wkL, wkV, List.range', slotsOf, LM, LP]))
              · rw [m2, h6b] at hbd; cases hbd
            · rw [h6b] at hbd; cases hbd
          · have hcc4 := h4d.cc
            have hwl4 : D4.wait.length = 0 := by rw [h4w]; rfl
            obtain ⟨d1, d2, d3⟩ := open_dev2 h4r (by omega) h4d h4w (by omega)
            have hoi := open_is D4 h4d.ok (by omega) (by omega) 38 (by decide) (by rw [h4d.kn]; decide)
            have hof := open_fail D4 h4d.ok (by omega) (by omega) 38 (by decide) (by rw [h4d.kn]; decide)
            obtain ⟨V, hV⟩ : ∃ V, V = openS D4 38 := ⟨_, rfl⟩
            rw [← hV] at d1 d2 d3
            have hoi := hoi V hV.symm
            have hof := hof V hV.symm
            simp (maxSteps := 1000000) [hho, -List.reduceReplicate]
            rcases d3 with ⟨v0, vw, vl, vu⟩ | ⟨v0, _, hcr⟩
            · refine call_d [0, 1, 2] (fun _ => false) [2] (hoi v0) rfl rfl ⟨rfl, rfl⟩ hho (st_dev2 0 1 2) (by simp [livH, livO, AV.livL, AV.liv, wkL, wkV, List.range']) (by simp [livH, livO, AV.livL, AV.liv, wkL, wkV, List.range']) (by simp [hst]) (by decide) (by decide) (by simp) (by simp [dlO_eq, devO]) ?_
              simp (maxSteps := 1000000) [hho, dlO_eq, logB, batR, -List.reduceReplicate]
              have ec : secL (crashS ts V.2.1) = secL V.2.1 := funext fun i => crash_dry ts V.2.1 vw i
              refine cut_to (⟨V.2.1, y.have_, y.head, y.was, y.old⟩ : CutS) ⟨d1.up (by omega), hyh, hyw, N + 1, B, body, bs, at_, least, by omega, by simp only; rw [ec]; exact vu.r, hor, hbl, hbb2⟩ ?_
              exact wk_of 3 3 (by simp) (by simp [hE, lens]) (by simp [devO]) (by simp [livH, livO, AV.livL, AV.liv, wkL, wkV, List.range', devO, batchA_liv]) (by simp [livH, livO, AV.livL, AV.liv, wkL, wkV, List.range', slotsOf])
            · refine call_d [0, 1, 2] (fun _ => false) [2] (hof v0) rfl rfl ⟨rfl, rfl⟩ hho (st_dev2 0 1 2) (by simp [livH, livO, AV.livL, AV.liv, wkL, wkV, List.range']) (by simp [livH, livO, AV.livL, AV.liv, wkL, wkV, List.range']) (by simp [hst]) (by decide) (by decide) (by simp) (by simp [devO]) ?_
              simp (maxSteps := 1000000) [hho, devO, -List.reduceReplicate]
              obtain ⟨N', n1, n2, hr'⟩ := hcr ts
              refine cut_to (⟨V.2.1, y.have_, y.head, y.was, y.old⟩ : CutS) ⟨d1.up (by omega), hyh, hyw, N', B, body, bs, at_, least, by omega, hr', hor, hbl, hbb2⟩ ?_
              exact wk_of 3 1 (by simp) (by simp [hE, lens]) (by simp [devO]) (by simp [livH, livO, AV.livL, AV.liv, wkL, wkV, List.range', devO, batchA_liv]) (by simp [livH, livO, AV.livL, AV.liv, wkL, wkV, List.range', slotsOf])
        · obtain ⟨q, hq⟩ : ∃ q, q = (IntKind.u64.wrap o.kind).tmod 6 := ⟨_, rfl⟩
          have hxN := hx.N; have hxb := hx.bl
          have hLe : (x.L 38).h.epoch = x.N := rfl
          have hLn : (x.L 38).h.n = x.N := rfl
          have hLb : (x.L 38).bs = x.bs := rfl
          have hLh : (x.L 38).h.body = x.body := rfl
          have hal := h1u.r.al
          have hcc := h1d.cc
          have hww : D1.wait.length = 0 := by rw [h1w]; rfl
          have hq' := hq.symm
          have ec : ∀ V : DevS, V.wait = [] → secL (crashS ts V) = secL V := fun V h => funext fun i => crash_dry ts V h i
          by_cases q1 : q = 1
          · simp (maxSteps := 1000000) [hho, hq', q1, -List.reduceReplicate]
            have hre := reset_fs D1 h1d.ok (by omega) (by omega) (x.L 38) o.b (by unfold maxLen; omega) (by rw [hLn]; omega) (by rw [hLe]; omega)
            obtain ⟨d1, d2, d3⟩ := res_dev h1u.r (by omega) h1d h1w (by omega) o.b
            rw [show (⟨(38 : Nat), ⟨x.N, x.N, x.B, x.body⟩, x.at_, x.bs, false⟩ : LogS) = x.L 38 from rfl] at d1 d2 d3
            obtain ⟨V, hV⟩ : ∃ V, V = resS D1 (x.L 38) o.b := ⟨_, rfl⟩
            rw [← hV] at hre d1 d2 d3
            refine call_d [3, 0, 1, 2, 4] (fun _ => false) [2, 4] hre rfl rfl ⟨rfl, rfl⟩ hho (st_log3 3 0 1 2 4) (by simp [livH, livO, AV.livL, AV.liv, wkL, wkV, List.range']) (by simp [livH, livO, AV.livL, AV.liv, wkL, wkV, List.range']) (by simp [hst]) (by decide) (by decide) (by simp) (by simp [logO, devAt]) ?_
            rcases d3 with ⟨hv0, vw, vb, vl, vu⟩ | ⟨hv0, hrest⟩
            · simp (maxSteps := 1000000) [hho, hv0, logO, devAt, logB, batR, -List.reduceReplicate]
              refine draw_k hho (.take 0 (.take 1 (.take 2 (.take 3 (.take 4 (.done)))))) [5] [] (by decide +kernel) (by simp) ?_
              simp (maxSteps := 1000000) [hho, roOf, holdOf, wrOf, altK, heldOk, Region.binds, bytesOf_str, -List.reduceReplicate]
              refine ⟨isU8_all _, ?_⟩
              refine draw_k hho (.take 0 (.take 1 (.take 2 (.take 3 (.take 4 (.done)))))) [5] [] (by decide +kernel) (by simp) ?_
              simp (maxSteps := 1000000) [hho, roOf, holdOf, wrOf, altK, heldOk, Region.binds, bytesOf_str, -List.reduceReplicate]
              refine ⟨isU8_all _, ?_⟩
              refine cut_to (⟨V.2.1, [], o.b, [], o.b⟩ : CutS) ⟨d1.up (by omega), by simp, by simp, x.N + 1, x.N + 1, o.b, [], 0, x.N + 1, by omega, by simp only; rw [ec _ vw]; exact vu.r, .inl ⟨rfl, rfl⟩, by simp, by simp⟩ ?_
              refine Wk.trans (wk_slot 9 rfl fun G F w v _ h => nil_fs0 1 h) ?_
              refine Wk.trans (wk_slot 13 rfl fun G F w v _ h => nil_fs0 1 h) ?_
              refine wk_sel [0, 1, 2, 5] (slotsOf 176 [(1, .fs 1 ts.length (intAV ts)), (5, .ptr 0 0 5), (9, .fs 1 ([] : List (List UInt8)).length (strA ([] : List (List UInt8)))), (10, .c (.string (str o.b))), (12, .ptr 5 0 4), (13, .fs 1 ([] : List (List UInt8)).length (strA ([] : List (List UInt8)))), (14, .c (.string (str o.b))), (33, .fs 4 sc.length (scriptA sc)), (34, .c (.int .i64 sc.length)), (35, .c (.int .i64 (j : Int)))]) hho (by simp [livH, livO, AV.livL, AV.liv, wkL, wkV, List.range', slotsOf, hLb, hLh, strA_snoc, strA, str]) rfl rfl ?_ ?_ (by decide) (by simp [hst]) (by simp [hE, lens]) ?_ ?_
              · simp
              · simp [slotsOf]
              · simp [slotsOf]
              · simp [devO, op7A]
            · have hpd : Pend ts (2 + 60 * j + 39) (2 + 4 * j) j (⟨V.2.1, x.bs, x.body, [], o.b⟩ : CutS) := by
                refine ⟨d1.up (by omega), by simp only; omega, by simp, ?_⟩
                rcases hrest with ⟨vd, vl⟩ | ⟨_, _, hb32, hcr⟩
                · exact ⟨x.N, x.B, x.body, x.bs, x.at_, x.least, by omega, by simp only; rw [vd, ec _ h1w]; exact h1u.r, .inl ⟨rfl, rfl⟩, by omega, hx.bb⟩
                · rcases hcr ts with hr | hr
                  · exact ⟨x.N, x.B, x.body, x.bs, x.at_, x.least, by omega, hr, .inl ⟨rfl, rfl⟩, by omega, hx.bb⟩
                  · exact ⟨x.N + 1, x.N + 1, o.b, [], 0, x.N + 1, by omega, hr, .inr ⟨rfl, rfl⟩, by simp, by simp⟩
              simp (maxSteps := 1000000) [hho, hv0, logO, devAt, logB, batR, -List.reduceReplicate]
              refine draw_k hho (.take 0 (.take 1 (.take 2 (.take 3 (.take 4 (.done)))))) [5] [] (by decide +kernel) (by simp) ?_
              simp (maxSteps := 1000000) [hho, roOf, holdOf, wrOf, altK, heldOk, Region.binds, bytesOf_str, -List.reduceReplicate]
              refine ⟨isU8_all _, ?_⟩
              refine cut_to (⟨V.2.1, x.bs, x.body, [], o.b⟩ : CutS) hpd ?_
              refine Wk.trans (wk_slot 13 rfl fun G F w v _ h => nil_fs0 1 h) ?_
              refine wk_sel [0, 1, 2, 5] (slotsOf 176 [(1, .fs 1 ts.length (intAV ts)), (5, .ptr 0 0 5), (9, .fs 1 x.bs.length (strA x.bs)), (10, .c (.string (str x.body))), (12, .ptr 5 0 4), (13, .fs 1 ([] : List (List UInt8)).length (strA ([] : List (List UInt8)))), (14, .c (.string (str o.b))), (33, .fs 4 sc.length (scriptA sc)), (34, .c (.int .i64 sc.length)), (35, .c (.int .i64 (j : Int)))]) hho (by simp [livH, livO, AV.livL, AV.liv, wkL, wkV, List.range', slotsOf, hLb, hLh, strA_snoc, strA, str]) rfl rfl ?_ ?_ (by decide) (by simp [hst]) (by simp [hE, lens]) ?_ ?_
              · simp
              · simp [slotsOf]
              · simp [slotsOf]
              · simp [devO, op7A]
          · simp (maxSteps := 1000000) [hho, hq', q1, -List.reduceReplicate]
            have hap := append_fs D1 h1d.ok (by omega) (by omega) (x.L 38) o.b (by unfold maxLen; omega) (by show 0 ≤ ((38 : Nat) : Int) ∧ ((38 : Nat) : Int) ≤ _; decide) (by show 0 ≤ ((x.at_ : Nat) : Int) ∧ ((x.at_ : Nat) : Int) ≤ ((38 : Nat) : Int); omega) (by rw [hLb]; omega)
            obtain ⟨d1, d2, d3⟩ := app_dev h1u h1d h1w (by decide) (by omega) o.b
            rw [show (⟨(38 : Nat), ⟨x.N, x.N, x.B, x.body⟩, x.at_, x.bs, false⟩ : LogS) = x.L 38 from rfl] at d1 d2 d3
            obtain ⟨V, hV⟩ : ∃ V, V = appS D1 (x.L 38) o.b := ⟨_, rfl⟩
            rw [← hV] at hap d1 d2 d3
            refine call_d [3, 0, 1, 2, 4] (fun _ => false) [2, 4] hap rfl rfl ⟨rfl, rfl⟩ hho (st_log3 3 0 1 2 4) (by simp [livH, livO, AV.livL, AV.liv, wkL, wkV, List.range']) (by simp [livH, livO, AV.livL, AV.liv, wkL, wkV, List.range']) (by simp [hst]) (by decide) (by decide) (by simp) (by simp [logO, devAt]) ?_
            have hl1 : x.bs.length ≤ 1000000000 := by omega
            have hl2 : x.bs.length ≤ 999999999 := by omega
            have hl3 : (strA x.bs ++ [AV.c (Value.string (str o.b))]).length = x.bs.length + 1 := by simp
            have hl4 : x.bs.length + 1 ≤ maxLen := by unfold maxLen; omega
            have hl5 : (strA x.bs ++ [AV.c (Value.string (str o.b))]).all isD = true := by simp [strA, isD]
            have hbA : ∀ b ∈ x.bs ++ [o.b], b.length ≤ 400 := fun b hb => by simp only [List.mem_append, List.mem_singleton] at hb; exact hb.elim (hx.bb b) fun e => by rw [e]; omega
            have hblA : (x.bs ++ [o.b]).length ≤ j + 1 := by simp; omega
            rcases d3 with ⟨hv0, vw, a', vl, vu⟩ | ⟨hv0, hrest⟩
            · simp (maxSteps := 1000000) [hho, hv0, logO, devAt, logB, batR, -List.reduceReplicate]
              refine draw_k hho (.take 1 (.take 3 (.take 4 (.take 5 (.alt 0 (.alt 2 (.alt 6 (.alt 7 (.take 8 (.done)) (.nil)) (.nil)) (.alt 6 (.alt 2 (.alt 7 (.take 8 (.done)) (.nil)) (.nil)) (.nil))) (.alt 6 (.alt 0 (.alt 2 (.alt 7 (.take 8 (.done)) (.nil)) (.nil)) (.nil)) (.nil))))))) [5] [] (by decide +kernel) (by simp) ?_
              simp (maxSteps := 1000000) [hho, roOf, holdOf, wrOf, altK, heldOk, Region.binds, bytesOf_str, -List.reduceReplicate]
              refine ⟨isU8_all _, ?_⟩
              (repeat' (first | apply And.intro | split | intro _)) <;> (try first | exact hl1 | exact hl2)
              all_goals refine cut_to (⟨V.2.1, x.bs ++ [o.b], x.body, x.bs, x.body⟩ : CutS) ⟨d1.up (by omega), hblA, by simp only; omega, x.N, x.B, x.body, x.bs ++ [o.b], a', x.N, by omega, by simp only; rw [ec _ vw]; exact vu.r, .inl ⟨rfl, rfl⟩, hblA, hbA⟩ ?_
              all_goals
                first
                | refine Wk.trans (wk_frozen 9 6 rfl rfl hho hl3 hl4 hl5) ?_
                | refine Wk.trans (wk_frozen 9 7 rfl rfl hho hl3 hl4 hl5) ?_
              all_goals
                refine wk_sel [0, 1, 2, 5] (slotsOf 176 [(1, .fs 1 ts.length (intAV ts)), (5, .ptr 0 0 5), (9, .fs 1 (x.bs ++ [o.b]).length (strA (x.bs ++ [o.b]))), (10, .c (.string (str x.body))), (12, .ptr 5 0 4), (13, .fs 1 x.bs.length (strA x.bs)), (14, .c (.string (str x.body))), (33, .fs 4 sc.length (scriptA sc)), (34, .c (.int .i64 sc.length)), (35, .c (.int .i64 (j : Int)))]) hho (by simp [livH, livO, AV.livL, AV.liv, wkL, wkV, List.range', slotsOf, hLb, hLh, strA_snoc, strA, str]) rfl rfl ?_ ?_ (by decide) (by simp [hst]) (by simp [hE, lens]) ?_ ?_
                · simp
                · simp [slotsOf]
                · simp [slotsOf]
                · simp [devO, op7A]
            · have hpd : Pend ts (2 + 60 * j + 39) (2 + 4 * j) j (⟨V.2.1, x.bs, x.body, x.bs ++ [o.b], x.body⟩ : CutS) := by
                refine ⟨d1.up (by omega), by simp only; omega, hblA, ?_⟩
                rcases hrest with ⟨vd, vl⟩ | ⟨_, _, hcr⟩
                · exact ⟨x.N, x.B, x.body, x.bs, x.at_, x.least, by omega, by simp only; rw [vd, ec _ h1w]; exact h1u.r, .inl ⟨rfl, rfl⟩, by omega, hx.bb⟩
                · rcases hcr ts with hr | ⟨at', hr⟩
                  · exact ⟨x.N, x.B, x.body, x.bs, x.at_, x.least, by omega, hr, .inl ⟨rfl, rfl⟩, by omega, hx.bb⟩
                  · exact ⟨x.N, x.B, x.body, x.bs ++ [o.b], at', x.N, by omega, hr, .inr ⟨rfl, rfl⟩, hblA, hbA⟩
              simp (maxSteps := 1000000) [hho, hv0, logO, devAt, logB, batR, -List.reduceReplicate]
              refine draw_k hho (.take 1 (.take 3 (.take 4 (.take 5 (.alt 0 (.alt 2 (.alt 6 (.alt 7 (.take 8 (.done)) (.nil)) (.nil)) (.alt 6 (.alt 2 (.alt 7 (.take 8 (.done)) (.nil)) (.nil)) (.nil))) (.alt 6 (.alt 0 (.alt 2 (.alt 7 (.take 8 (.done)) (.nil)) (.nil)) (.nil)) (.nil))))))) [5] [] (by decide +kernel) (by simp) ?_
              simp (maxSteps := 1000000) [hho, roOf, holdOf, wrOf, altK, heldOk, Region.binds, bytesOf_str, -List.reduceReplicate]
              refine ⟨isU8_all _, ?_⟩
              (repeat' (first | apply And.intro | split | intro _)) <;> (try first | exact hl1 | exact hl2)
              all_goals refine cut_to (⟨V.2.1, x.bs, x.body, x.bs ++ [o.b], x.body⟩ : CutS) hpd ?_
              all_goals
                first
                | refine Wk.trans (wk_frozen 13 6 rfl rfl hho hl3 hl4 hl5) ?_
                | refine Wk.trans (wk_frozen 13 7 rfl rfl hho hl3 hl4 hl5) ?_
              all_goals
                refine wk_sel [0, 1, 2, 5] (slotsOf 176 [(1, .fs 1 ts.length (intAV ts)), (5, .ptr 0 0 5), (9, .fs 1 x.bs.length (strA x.bs)), (10, .c (.string (str x.body))), (12, .ptr 5 0 4), (13, .fs 1 (x.bs ++ [o.b]).length (strA (x.bs ++ [o.b]))), (14, .c (.string (str x.body))), (33, .fs 4 sc.length (scriptA sc)), (34, .c (.int .i64 sc.length)), (35, .c (.int .i64 (j : Int)))]) hho (by simp [livH, livO, AV.livL, AV.liv, wkL, wkV, List.range', slotsOf, hLb, hLh, strA_snoc, strA, str]) rfl rfl ?_ ?_ (by decide) (by simp [hst]) (by simp [hE, lens]) ?_ ?_
                · simp
                · simp [slotsOf]
                · simp [slotsOf]
                · simp [devO, op7A]
      · have h25i : (25 : Int) ≤ j := by omega
        have h25n : 25 ≤ j := by omega
        simp (maxSteps := 1000000) [dlO_eq, logB, batR, slotsOf, hho, hlt, hat, op7A, h25n, h25i, undef, onGP_none, condG_false, -List.reduceReplicate]
        exact exit_to x trivial (wk_of 5 1 (by simp) (by simp [hE, lens]) (by simp [dlO_eq, logB, batR]) (by simp [livH, livO, AV.livL, AV.liv, wkL, wkV, List.range', batchA_liv]) (by simp [livH, livO, AV.livL, AV.liv, wkL, wkV, List.range', slotsOf]))
    · simp (maxSteps := 1000000) [dlO_eq, logB, batR, slotsOf, hho, hlt, -List.reduceReplicate]
      exact exit_to x trivial (wk_all (by simp [hE, lens]) (by simp [dlO_eq, logB, batR]) (by simp [livH, livO, AV.livL, AV.liv, wkL, wkV, List.range', slotsOf]))
end Go.Proofs.Ytmgpiminicgbiaa
