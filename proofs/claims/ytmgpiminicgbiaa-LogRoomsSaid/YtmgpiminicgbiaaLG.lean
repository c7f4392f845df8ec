import Derived.Test.YtmgpiminicgbiaaLF
namespace Go.Proofs.Ytmgpiminicgbiaa
set_option linter.unusedVariables false
set_option linter.unusedSimpArgs false
open Go.RowKit
attribute [local simp] isCut_nil isCut_region isCut_seq isCut_block isCut_loop isCut_cond isCut_skip isCut_exit isCut_ret isCut_range swapK putK altK condK_bool pickP_bool stepP stepO onPure_some onPure_none onImpl_some onImpl_none stepC onGP_some onGP_none onGV_some condG mkG onIt_it nextP_ptr takeP_eq takeV_some takeN_none takeN_some takeG_some takeO_some altO_some pureV binV intBin strBin isSh shV fldV ixV sliceV loadAV nilV lenV callV unV convV viewS cellsH loadV fldCut AV.ung AV.gc AV.cells AS.ev AS.put anyS gcsV lens lnO gV guardV retK RetP_eq resV oneV anyRo loIx hiIx implO callP_clo evL gcsL storeAV AS.push AS.setO appV copyV buildV partsV fillV srcV fzO okV isCell_c isCell_ptr isCell_sl isCell_fs isCell_fp isCell_clo rowZ_one rowZ_zero rowZ_2 rowZ_3 rowZ_4 rowZ_5 rowZ_6 rowZ_7 rowZ_8 rowZ_9 rowZ_10 rowZ_11 rowZ_12 noHo Value.oneCell' max2V min2V afterH putBack frzFrom frzO rebO backIx nilEq_sl nilEq_fs nilOp_eql nilOp_neq AV.reb AV.rebL
attribute [local simp ↓] runK_skip runK_region runK_draw runK_seq runK_cut runK_cond runK_block runK_loop runK_exit runK_label runK_goto runK_ret runK_range contK_nil contK_seq contK_seq_ret contK_seq_exit contK_seq_goto contK_block contK_block_ret contK_block_goto contK_block_exit runO_nil runO_cons roundK_exit roundK_ret roundK_goto exitK_ret cutK_ret cutK_exit runE_done runE_nil runE_take runE_alt condG_true condG_false
set_option maxRecDepth 10000
/-! ## Writing the head -/
def nextH (L : LogS) (h : HeadS) : HeadS := ⟨L.h.n + 1, L.h.epoch + 1, if h.base < 0 then L.h.epoch + 1 else h.base, h.body⟩
def wrH (D : DevS) (g : HeadS) : DevS := writeS D (g.n.tmod 2) (headL g)
/-- the error, the device, the log behind the writing of a head -/
def whS (D : DevS) (L : LogS) (h : HeadS) : Int × DevS × LogS :=
  if 4294967295 < L.h.epoch + 1 then (70, D, L)
  else if checkS D ((nextH L h).n.tmod 2) 64 ≠ 0 then (checkS D ((nextH L h).n.tmod 2) 64, D, L)
  else if checkS (wrH D (nextH L h)) 0 0 ≠ 0 then (checkS (wrH D (nextH L h)) 0 0, wrH D (nextH L h), L)
  else (0, flushS (wrH D (nextH L h)), { L with h := nextH L h })
theorem st12 : ∀ (c : Nat) (i q : Nat), ([c, c + 1, c + 2] : List Nat)[i]? = some q → decide (i < 2) = true ∨ q ∈ [c + 2] := by
  intro c i q h
  match i, h with
  | 0, _ => exact .inl rfl
  | 1, _ => exact .inl rfl
  | 2, h => simp at h; exact .inr (by simp [h])
  | i + 3, h => simp at h
set_option maxHeartbeats 4000000 in
theorem writeHead_ok (D : DevS) (hD : D.Ok) (hcl : D.calls ≤ 100000) (hwl : D.wait.length ≤ 100000) (L : LogS) (h : HeadS) (hb : h.body.length ≤ 1000000) (h1 : 0 ≤ L.h.n ∧ L.h.n < 4611686018427387904) (h2 : 0 ≤ L.h.epoch ∧ L.h.epoch ≤ 4294967296) :
    ACalls Try.prog 35 [.ptr 0 0 9, .agg (headA h)] (logO D L) (fun k => decide (k < 3)) (fun r h' => r = .c (.int .i64 (whS D L h).1) ∧ h' = logO (whS D L h).2.1 (whS D L h).2.2) := by
  refine acallsC [4] mixed Try.func35 rfl Try.ntmps35 rfl fun E hE hst hho => ?_
  have en : IntKind.i64.wrap (L.h.n + 1) = L.h.n + 1 := IntWalk.i64_in _ (by omega)
  have ee : IntKind.i64.wrap (L.h.epoch + 1) = L.h.epoch + 1 := IntWalk.i64_in _ (by omega)
  simp (maxSteps := 1000000) [logO, logB, batR, devAt, headA, hho, -List.reduceReplicate]
  refine draw_k hho (.take 0 (.take 1 (.take 2 (.take 3 (.take 4 (.take 5 (.take 6 (.take 7 (.take 8 (.take 9 (.take 10 (.take 11 (.take 12 (.alt 13 (.take 14 (.alt 15 (.done) (.nil))) (.nil)))))))))))))))  [0] [] (by decide +kernel) (by simp) ?_
  simp (maxSteps := 1000000) [hho, en, ee, roOf, holdOf, wrOf, altK, heldOk, Region.binds, -List.reduceReplicate]
  intro _ _
  refine seq_cut mixed [] (fun _ : Unit => ⟨slotsOf 55 [(0, .ptr 0 0 9), (3, .ptr 5 0 4)], logO D L ++ [.o .box (headA (nextH L h))]⟩) (fun _ => True) ?_ ?_
  · rintro _ _
    obtain ⟨g, hg⟩ : ∃ g, g = nextH L h := ⟨_, rfl⟩
    have hge : g.epoch = L.h.epoch + 1 := by rw [hg]; rfl
    have hgn : g.n = L.h.n + 1 := by rw [hg]; rfl
    have hgb : g.body = h.body := by rw [hg]; rfl
    rw [← hg]
    by_cases hfull : 4294967295 < g.epoch
    · have hw : whS D L h = (70, D, L) := by unfold whS; rw [← hge, if_pos hfull]
      rw [hw]
      simp (maxSteps := 1000000) [logO, logB, batR, devAt, headA, slotsOf, hho, hfull, -List.reduceReplicate]
      refine Ret.sel [0, 1, 2, 3, 4] (fun _ => false) (ho := by rfl) (ha := by rfl) ?_ ?_ (by decide) (by simp) (st_pre 3 [3, 4] _) ⟨rfl, ?_⟩
      · simp
      · simp
      · rfl
    · simp (maxSteps := 1000000) [logO, logB, batR, devAt, headA, slotsOf, hho, hfull, -List.reduceReplicate]
      refine draw_k hho (.take 0 (.take 1 (.take 2 (.take 3 (.take 4 (.take 5 (.take 6 (.take 7 (.alt 8 (.alt 9 (.take 10 (.done)) (.nil)) (.nil)))))))))) [0, 5] [] (by decide +kernel) (by simp) ?_
      simp (maxSteps := 1000000) [hho, roOf, holdOf, wrOf, altK, heldOk, Region.binds, -List.reduceReplicate]
      intro E1
      refine call_h [] (headSector_row g (by rw [hgb]; exact hb)) rfl rfl ⟨rfl, rfl⟩ (by simp) (by simp) (by decide) (by simp) (by simp) ?_
      simp (maxSteps := 1000000) [hho, roOf, holdOf, wrOf, altK, heldOk, Region.binds, -List.reduceReplicate]
      intro E2
      have hgl := headL_length g
      have hws := write_sl D hD (g.n.tmod 2) (headL g) 5
      rw [hgl] at hws
      refine call_h [1, 2, 3, 6] hws rfl rfl ⟨rfl, rfl⟩ (by simp) (by simp) (by decide) (by simp) (by simp [devO]) ?_
      have hD1 : (wrH D g).Ok := write_Ok hD hcl hwl
      obtain ⟨D1, e1⟩ : ∃ D1, D1 = wrH D g := ⟨_, rfl⟩
      have e1' : writeS D (g.n.tmod 2) (headL g) = D1 := e1.symm
      rw [e1'] 
      rw [← e1] at hD1
      by_cases hc : checkS D (g.n.tmod 2) 64 = 0
      · simp (maxSteps := 1000000) [hho, hc, devO, roOf, holdOf, wrOf, altK, heldOk, Region.binds, -List.reduceReplicate]
        refine call_d [1, 2, 3] (fun _ => false) [3] (flush_dev D1 hD1) rfl rfl ⟨rfl, rfl⟩ hho (st12 1) (by simp [livH, livO, AV.livL, AV.liv, wkL, wkV, List.range']) (by simp [livH, livO, AV.livL, AV.liv, wkL, wkV, List.range', batchA_liv]) (by simp [hst]) (by decide) (by decide) (by simp) (by simp [devO]) ?_
        by_cases hc2 : checkS D1 0 0 = 0
        · have hw : whS D L h = (0, flushS D1, { L with h := g }) := by unfold whS; rw [← hge, if_neg hfull, ← hg, if_neg (by rw [hc]; decide), ← e1, if_neg (by rw [hc2]; decide)]
          rw [hw]
          simp (maxSteps := 1000000) [hho, hc2, devO, -List.reduceReplicate]
          refine Ret.sel [0, 1, 2, 3, 4] (fun _ => false) (ho := by rfl) (ha := by rfl) ?_ ?_ (by decide) (by simp) (st_pre 3 [3, 4] _) ⟨rfl, ?_⟩
          · simp
          · simp
          · rfl
        · have hw : whS D L h = (checkS D1 0 0, D1, L) := by unfold whS; rw [← hge, if_neg hfull, ← hg, if_neg (by rw [hc]; decide), ← e1, if_pos hc2]
          have ef : flushS D1 = D1 := by unfold flushS; rw [if_neg hc2]
          rw [hw, ef]
          simp (maxSteps := 1000000) [hho, hc2, devO, -List.reduceReplicate]
          refine Ret.sel [0, 1, 2, 3, 4] (fun _ => false) (ho := by rfl) (ha := by rfl) ?_ ?_ (by decide) (by simp) (st_pre 3 [3, 4] _) ⟨rfl, ?_⟩
          · simp
          · simp
          · rfl
      · have hw : whS D L h = (checkS D (g.n.tmod 2) 64, D, L) := by unfold whS; rw [← hge, if_neg hfull, ← hg, if_pos hc]
        have eD : D1 = D := by rw [e1]; unfold wrH writeS; rw [if_neg (by rw [hgl]; exact hc)]
        rw [hw, eD]
        simp (maxSteps := 1000000) [hho, hc, devO, roOf, holdOf, wrOf, altK, heldOk, Region.binds, -List.reduceReplicate]
        refine Ret.sel [0, 1, 2, 3, 4] (fun _ => false) (ho := by rfl) (ha := by rfl) ?_ ?_ (by decide) (by simp) (st_pre 3 [3, 4] _) ⟨rfl, ?_⟩
        · simp
        · simp
        · rfl
  · by_cases hbs : h.base < 0
    · have hg : nextH L h = ⟨L.h.n + 1, L.h.epoch + 1, L.h.epoch + 1, h.body⟩ := by unfold nextH; rw [if_pos hbs]
      simp (maxSteps := 1000000) [hho, hbs, -List.reduceReplicate]
      refine cut_to () trivial ?_
      exact wk_all (by simp [hE, logO, devAt, lens]) (by simp [logO, logB, batR, devAt, headA, hg]) (by simp [livH, livO, AV.livL, AV.liv, wkL, wkV, List.range', slotsOf])
    · have hg : nextH L h = ⟨L.h.n + 1, L.h.epoch + 1, h.base, h.body⟩ := by unfold nextH; rw [if_neg hbs]
      simp (maxSteps := 1000000) [hho, hbs, -List.reduceReplicate]
      refine cut_to () trivial ?_
      exact wk_all (by simp [hE, logO, devAt, lens]) (by simp [logO, logB, batR, devAt, headA, hg]) (by simp [livH, livO, AV.livL, AV.liv, wkL, wkV, List.range', slotsOf])
/-! ## Opening -/
def log0 (n : Nat) : LogS := ⟨n, ⟨0, 0, 0, []⟩, 0, [], false⟩
/-- the log as it is read -/
def readL (D : DevS) (n : Nat) : LogS := withF { log0 n with h := headsTo D ⟨0, 0, 0, []⟩ 2 } (framesTo D (headsTo D ⟨0, 0, 0, []⟩ 2).epoch ⟨(headsTo D ⟨0, 0, 0, []⟩ 2).base, false, [], [], 0⟩ 0 n)
theorem open_arg (D : DevS) (hD : D.Ok) (i : Int) (h : i < 1 ∨ (D.kept.length : Int) - 2 < i) : ACalls Try.prog 9 [.ptr 0 0 5, .c (.int .i64 i)] (devO D) (fun _ => true) (fun r h' => r = .tup [.c (.pointer none), .c (.int .i64 2)] ∧ h' = devO D) := by
  refine acalls mixed Try.func9 rfl Try.ntmps9 rfl fun E hE hst hho => ?_
  have e2 : IntKind.i64.wrap ((D.kept.length : Int) - 2) = D.kept.length - 2 := IntWalk.i64_in _ (by have := hD.k2; omega)
  by_cases hi : i < 1
  · have hi' : ¬ 1 ≤ i := by omega
    simp (maxSteps := 1000000) [devO, hho, hi, hi', undef, onGP_none, condG_false, -List.reduceReplicate]
    exact Ret.same ⟨rfl, rfl⟩
  · have hi2 : (D.kept.length : Int) - 2 < i := by omega
    have hi1 : 1 ≤ i := by omega
    simp (maxSteps := 1000000) [devO, hho, hi, hi1, -List.reduceReplicate]
    refine call_x [0, 1, 2] (sectors_dev D) rfl rfl ⟨rfl, rfl⟩ hho (by simp) (by decide) (by simp) (by simp [devO]) ?_
    simp (maxSteps := 1000000) [devO, hho, e2, hi2, -List.reduceReplicate]
    exact Ret.same ⟨rfl, rfl⟩
/-- the device with a log on it -/
def dlO (D : DevS) (L : LogS) : List AObj := devO D ++ [logB L 0 4, batR L.bs]
/-- opening: the error, the device, the log -/
def openS (D : DevS) (n : Nat) : Int × DevS × LogS := if checkS D 0 0 ≠ 0 then (checkS D 0 0, D, log0 n) else whS D (readL D n) (readL D n).h
/-- what a head that was read is -/
theorem parse_n {l : List UInt8} {i : Int} {h : HeadS} (hp : parseH l i = some h) : 0 < h.n ∧ h.n < 4611686018427387904 ∧ h.base ≤ h.epoch ∧ h.epoch = getI l 8 4 ∧ h.base = getI l 12 4 := by
  unfold parseH at hp
  split at hp
  · cases hp
  · injection hp with hp; subst hp
    simp only
    exact ⟨by omega, by omega, by omega, by trivial, by trivial⟩
theorem getU_lt (l : List UInt8) (n : Nat) (hn : l.length ≤ n) (h8 : n ≤ 7) : getU l < 256 ^ n := by
  have key : ∀ (l : List UInt8) (u m : Nat), u < 256 ^ m → l.length + m ≤ 7 → l.foldl getStep u < 256 ^ (l.length + m) := by
    intro l
    induction l with
    | nil => intro u m h _; simpa using h
    | cons c l ih =>
      intro u m h hm
      simp only [List.length_cons] at hm
      rw [List.foldl_cons]
      have hs : getStep u c < 256 ^ (m + 1) := by
        unfold getStep
        have := c.toNat_lt
        have : (u * 256 + c.toNat) % 18446744073709551616 ≤ u * 256 + c.toNat := Nat.mod_le _ _
        rw [Nat.pow_succ]
        have : u + 1 ≤ 256 ^ m := h
        have := Nat.mul_le_mul_right 256 this
        omega
      have := ih (getStep u c) (m + 1) hs (by omega)
      simp only [List.length_cons]
      have e : l.length + 1 + m = l.length + (m + 1) := by omega
      rw [e]; exact this
  have := key l 0 0 (by decide) (by omega)
  simp only [Nat.add_zero] at this
  exact Nat.lt_of_lt_of_le this (Nat.pow_le_pow_right (by decide) hn)
theorem getI4_range (l : List UInt8) (off : Nat) : 0 ≤ getI l off 4 ∧ getI l off 4 < 4294967296 := by
  have h := getU_lt ((l.drop off).take 4) 4 (by simp; omega) (by decide)
  have e : (256 : Nat) ^ 4 = 4294967296 := by decide
  rw [e] at h
  unfold getI
  rw [IntWalk.i64_in _ (by omega)]
  omega
structure HeadS.Ok (h : HeadS) : Prop where
  n0 : 0 ≤ h.n
  n1 : h.n < 4611686018427387904
  e0 : 0 ≤ h.epoch
  e1 : h.epoch ≤ 4294967295
  b : h.body.length ≤ 32
theorem headsTo_ok (D : DevS) (h : HeadS) (hh : h.Ok) : ∀ i, (headsTo D h i).Ok := by
  intro i
  induction i with
  | zero => exact hh
  | succ i ih =>
    simp only [headsTo, headStep]
    split
    · rename_i g hg
      split
      · obtain ⟨a, b, c, d, e⟩ := parse_n hg
        have := getI4_range (secL D i) 8
        exact ⟨by omega, b, by omega, by omega, parse_body hg⟩
      · exact ih
    · exact ih
theorem read0_ok (D : DevS) : (headsTo D ⟨0, 0, 0, []⟩ 2).Ok := headsTo_ok D _ ⟨by decide, by decide, by decide, by decide, by decide⟩ 2
theorem chk_all {D : DevS} (hc : checkS D 0 0 = 0) (i : Nat) (hi : i < D.kept.length) : checkS D i 0 = 0 := by
  obtain ⟨_, _, _, h⟩ := check_ok hc
  unfold checkS
  rw [if_neg (by omega), if_neg (by rintro ⟨a, b⟩; exact h a b)]
set_option maxHeartbeats 4000000 in
theorem open_dev (D : DevS) (hD : D.Ok) (hcl : D.calls ≤ 100000) (hwl : D.wait.length ≤ 100000) (n : Nat) (h1 : 1 ≤ n) (h2 : (n : Int) ≤ D.kept.length - 2) (Post : AV → List AObj → Prop)
    (hP : ((openS D n).1 = 0 → Post (.tup [.ptr 3 0 9, .c (.int .i64 0)]) (dlO (openS D n).2.1 (openS D n).2.2)) ∧ ((openS D n).1 ≠ 0 → Post (.tup [.c (.pointer none), .c (.int .i64 (openS D n).1)]) (devO (openS D n).2.1))) : ACalls Try.prog 9 [.ptr 0 0 5, .c (.int .i64 n)] (devO D) (fun k => decide (k < 2)) Post := by
  obtain ⟨hP1, hP2⟩ := hP
  refine acallsC [6] mixed Try.func9 rfl Try.ntmps9 rfl fun E hE hst hho => ?_
  have e2 : IntKind.i64.wrap ((D.kept.length : Int) - 2) = D.kept.length - 2 := IntWalk.i64_in _ (by have := hD.k2; omega)
  have hi : ¬ ((n : Int) < 1) := by omega
  have hi1 : 1 ≤ n := h1
  have hi2 : ¬ ((D.kept.length : Int) - 2 < n) := by omega
  have hn0 : ¬ n = 0 := by omega
  have hi1i : 1 ≤ (n : Int) := by omega
  simp (maxSteps := 1000000) [devO, hho, hi, hi1, hi1i, hn0, -List.reduceReplicate]
  refine call_x [0, 1, 2] (sectors_dev D) rfl rfl ⟨rfl, rfl⟩ hho (by simp) (by decide) (by simp) (by simp [devO]) ?_
  simp (maxSteps := 1000000) [devO, hho, e2, hi2, -List.reduceReplicate]
  refine seq_cut mixed [] (fun _ : Unit => ⟨slotsOf 47 [(0, .ptr 0 0 5), (6, .ptr 3 0 9)], dlO D (log0 n)⟩) (fun _ => True) ?_ ?_
  · rintro _ _
    simp (maxSteps := 1000000) [dlO, devO, logB, batR, log0, slotsOf, hho, -List.reduceReplicate]
    by_cases hc : checkS D 0 0 = 0
    · have ho : openS D n = whS D (readL D n) (readL D n).h := by unfold openS; rw [if_neg (by rw [hc]; decide)]
      have hR := read0_ok D
      refine call_x [3, 0, 1, 2, 4] (readHead_ok D hD (log0 n) fun i hi => chk_all hc i (by omega)) rfl rfl ⟨rfl, rfl⟩ hho (by simp) (by decide) (by simp [log0]) (by simp [logO, devAt]) ?_
      obtain ⟨H, hH⟩ : ∃ H, H = headsTo D ⟨0, 0, 0, []⟩ 2 := ⟨_, rfl⟩
      have hH' : headsTo D (log0 n).h 2 = H := hH.symm
      rw [hH']
      rw [← hH] at hR
      simp (maxSteps := 1000000) [hho, logO, logB, batR, devAt, log0, -List.reduceReplicate]
      refine call_d [3, 0, 1, 2, 4] (fun _ => false) [4] (readFrames_ok D hD { log0 n with h := H } n rfl (by have := hD.k2; omega) rfl rfl fun k hk => chk_all hc (2 + k) (by omega)) rfl rfl ⟨rfl, rfl⟩ hho ?_ (by simp [livH, livO, AV.livL, AV.liv, wkL, wkV, List.range']) (by simp [livH, livO, AV.livL, AV.liv, wkL, wkV, List.range']) (by simp [hst]) (by decide) (by decide) (by simp [log0]) (by simp [logO, devAt]) ?_
      · intro i q h
        match i, h with
        | 0, _ => exact .inl rfl
        | 1, _ => exact .inl rfl
        | 2, _ => exact .inl rfl
        | 3, _ => exact .inl rfl
        | 4, h => simp at h; exact .inr (by simp [h])
        | i + 5, h => simp at h
      have eR : withF { log0 n with h := H } (framesTo D H.epoch ⟨H.base, false, [], [], 0⟩ 0 n) = readL D n := by rw [hH]; rfl
      have eRh : (readL D n).h = H := by rw [hH]; rfl
      rw [eR]
      obtain ⟨R, hRR⟩ : ∃ R, R = readL D n := ⟨_, rfl⟩
      rw [← hRR] at eRh ho ⊢
      simp (maxSteps := 1000000) [hho, logO, logB, batR, devAt, -List.reduceReplicate]
      have eA : ([AV.c (.int .i64 R.h.n), AV.c (.int .i64 R.h.epoch), AV.c (.int .i64 R.h.base), AV.fs 1 R.h.body.length (u8av R.h.body)] : List AV) = headA R.h := rfl
      rw [← eRh] at hR
      refine call_d [3, 0, 1, 2, 4] (fun _ => false) [2, 4] (writeHead_ok D hD hcl hwl R R.h (by have := hR.b; omega) ⟨hR.n0, hR.n1⟩ ⟨hR.e0, by have := hR.e1; omega⟩) rfl rfl ⟨rfl, rfl⟩ hho ?_ (by simp [livH, livO, AV.livL, AV.liv, wkL, wkV, List.range']) (by simp [livH, livO, AV.livL, AV.liv, wkL, wkV, List.range']) (by simp [hst]) (by decide) (by decide) (by simp) (by simp [logO, devAt]) ?_
      · intro i q h
        match i, h with
        | 0, _ => exact .inl rfl
        | 1, _ => exact .inl rfl
        | 2, _ => exact .inl rfl
        | 3, h => simp at h; exact .inr (by simp [h])
        | 4, h => simp at h; exact .inr (by simp [h])
        | i + 5, h => simp at h
      obtain ⟨W, hW⟩ : ∃ W, W = whS D R R.h := ⟨_, rfl⟩
      rw [← hW] at ho ⊢
      rw [ho] at hP1 hP2
      by_cases hw0 : W.1 = 0
      · rw [hw0]
        simp (maxSteps := 1000000) [hho, logO, logB, batR, devAt, -List.reduceReplicate]
        refine Ret.sel [0, 1, 2, 3, 4] (fun _ => false) (ho := by rfl) (ha := by rfl) ?_ ?_ (by decide) (by simp) (st_pre 2 [2, 3, 4] _) (hP1 hw0)
        · simp
        · simp
      · simp (maxSteps := 1000000) [hho, hw0, logO, logB, batR, devAt, -List.reduceReplicate]
        refine Ret.sel [0, 1, 2] (fun _ => false) (ho := by rfl) (ha := by rfl) ?_ ?_ (by decide) (by simp) (st_pre 2 [2] _) (hP2 hw0)
        · simp
        · simp
    · have ho : openS D n = (checkS D 0 0, D, log0 n) := by unfold openS; rw [if_pos hc]
      rw [ho] at hP1 hP2
      refine call_x [3, 0, 1, 2, 4] (readHead_err D hD (log0 n) hc) rfl rfl ⟨rfl, rfl⟩ hho (by simp) (by decide) (by simp [log0]) (by simp [logO, devAt]) ?_
      simp (maxSteps := 1000000) [hho, hc, logO, logB, batR, devAt, -List.reduceReplicate]
      refine Ret.sel [0, 1, 2] (fun _ => false) (ho := by rfl) (ha := by rfl) ?_ ?_ (by decide) (by simp) (st_pre 2 [2] _) (hP2 hc)
      · simp
      · simp
  · simp (maxSteps := 1000000) [hho, -List.reduceReplicate]
    refine cut_to () trivial ?_
    refine Wk.trans (wk_cell 3 5 rfl rfl fun G F w v _ h => nil_fs0 1 h) ?_
    refine Wk.trans (wk_virtC 3 7 33 1 rfl rfl) ?_
    exact wk_all (by simp [hE, devO, lens]) (by simp [dlO, devO, logB, batR, log0, batchA]) (by simp [livH, livO, AV.livL, AV.liv, wkL, wkV, List.range', slotsOf])
end Go.Proofs.Ytmgpiminicgbiaa
