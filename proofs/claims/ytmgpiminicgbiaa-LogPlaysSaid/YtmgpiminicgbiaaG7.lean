import Derived.Test.YtmgpiminicgbiaaG6
namespace Go.Proofs.Ytmgpiminicgbiaa
set_option linter.unusedVariables false
set_option linter.unusedSimpArgs false
open Go.RowKit
attribute [local simp] isCut_nil isCut_region isCut_seq isCut_block isCut_loop isCut_cond isCut_skip isCut_exit isCut_ret isCut_range swapK putK altK condK_bool pickP_bool stepP stepO onPure_some onPure_none onImpl_some onImpl_none stepC onGP_some onGP_none onGV_some condG mkG onIt_it nextP_ptr takeP_eq takeV_some takeV_none takeU_some takeU_none takeQ takeW_some takeN_none takeN_some takeG_some takeO_some altO_some pureV binV2 eqF eqOp ovlV ovl2 rowAt capV binV intBin strBin isSh shV fldV ixV sliceV slice3V loadAV nilV lenV callV unV convV viewS cellsH loadV fldCut AV.ung AV.ungs AV.gc AV.cells AS.ev AS.put anyS gcsV gcO lens lnO gV guardV retK RetP_eq resV oneV anyRo loIx hiIx implO callP_clo evL gcsL clearV storeAV AS.push AS.setO appV appZ shortS copyV buildV partsV fillV srcV fzO okV isCell_c isCell_ptr isCell_sl isCell_fs isCell_fp isCell_clo rowZ_one rowZ_zero rowZ_2 rowZ_3 rowZ_4 rowZ_5 rowZ_6 rowZ_7 rowZ_8 rowZ_9 rowZ_10 rowZ_11 rowZ_12 noHo Value.oneCell' max2V min2V lookV updV updK updW cvals mkAt basV lenM msAt afterH putBack frzFrom frzO rebO backIx nilEq_sl nilEq_fs nilEq_ifn nilEq_ifh ifOp_eql ifOp_neq isLit nilOp_eql nilOp_neq AV.reb AV.rebL
attribute [local simp ↓] runK_skip runK_region runK_draw runK_seq runK_cut runK_cond runK_block runK_loop runK_exit runK_label runK_goto runK_ret runK_range contK_nil contK_seq contK_seq_ret contK_seq_exit contK_seq_goto contK_block contK_block_ret contK_block_goto contK_block_exit runO_nil runO_cons roundK_exit roundK_ret roundK_goto exitK_ret cutK_ret cutK_exit runE_done runE_nil runE_take runE_alt condG_true condG_false
set_option maxRecDepth 10000
/-! ## Writing the head -/
def nextH (L : LogS) (h : HeadS) : HeadS := ⟨L.h.n + 1, L.h.epoch + 1, if h.base < 0 then L.h.epoch + 1 else h.base, h.body⟩
def wrH (D : DevS) (g : HeadS) : DevS := writeS D (g.n.tmod 2) (headL g)
/-- the error, the device, the log behind the writing of a head -/
def whS (D : DevS) (L : LogS) (h : HeadS) : Int × DevS × LogS :=
  if 4294967295 < L.h.epoch + 1 then (70, D, L)
  else if checkS D ((nextH L h).n.tmod 2) 64 ≠ 0 then (checkS D ((nextH L h).n.tmod 2) 64, D, L)
  else if checkS (wrH D (nextH L h)) 0 0 ≠ 0 then (checkS (wrH D (nextH L h)) 0 0, wrH D (nextH L h), L)
  else (0, flushS (wrH D (nextH L h)), { L with h := nextH L h })
theorem st12 : ∀ (c : Nat) (i q : Nat), ([c, c + 1, c + 2] : List Nat)[i]? = some q → decide (i < 2) = true ∨ q ∈ [c + 2] := by
  intro c i q h
  match i, h with
  | 0, _ => exact .inl rfl
  | 1, _ => exact .inl rfl
  | 2, h => simp at h; exact .inr (by simp [h])
  | i + 3, h => simp at h
set_option maxHeartbeats 4000000 in
theorem writeHead_ok (D : DevS) (hD : D.Ok) (hcl : D.calls ≤ 100000) (hwl : D.wait.length ≤ 100000) (L : LogS) (h : HeadS) (hb : h.body.length ≤ 1000000) (h1 : 0 ≤ L.h.n ∧ L.h.n < 9000000000000000000) (h2 : 0 ≤ L.h.epoch ∧ L.h.epoch ≤ 4294967296) :
    ACalls Try.prog 35 [.ptr 0 0 9, .agg (headA h)] (logO D L) (fun k => decide (k < 3)) (fun r h' => r = .c (.int .i64 (whS D L h).1) ∧ h' = logO (whS D L h).2.1 (whS D L h).2.2) := by
  refine acallsC [4] mixed Try.func35 rfl Try.ntmps35 rfl fun E hE hst hho => ?_
  have en : IntKind.i64.wrap (L.h.n + 1) = L.h.n + 1 := IntWalk.i64_in _ (by omega)
  have ee : IntKind.i64.wrap (L.h.epoch + 1) = L.h.epoch + 1 := IntWalk.i64_in _ (by omega)
  simp (maxSteps := 1000000) [logO, logB, batR, devAt, headA, hho, -List.reduceReplicate]
  refine draw_k hho (.take 0 (.take 1 (.take 2 (.take 3 (.take 4 (.take 5 (.take 6 (.take 7 (.take 8 (.take 9 (.take 10 (.take 11 (.take 12 (.alt 13 (.take 14 (.alt 15 (.done) (.nil))) (.nil)))))))))))))))  [0] [] (by decide +kernel) (by simp) ?_
  simp (maxSteps := 1000000) [hho, en, ee, roOf, holdOf, wrOf, altK, heldOk, Region.binds, -List.reduceReplicate]
  intro _ _
  refine seq_cut mixed [] (fun _ : Unit => ⟨slotsOf 55 [(0, .ptr 0 0 9), (3, .ptr 5 0 4)], logO D L ++ [.o .box (headA (nextH L h))]⟩) (fun _ => True) ?_ ?_
  · rintro _ _
    obtain ⟨g, hg⟩ : ∃ g, g = nextH L h := ⟨_, rfl⟩
    have hge : g.epoch = L.h.epoch + 1 := by rw [hg]; rfl
    have hgn : g.n = L.h.n + 1 := by rw [hg]; rfl
    have hgb : g.body = h.body := by rw [hg]; rfl
    rw [← hg]
    by_cases hfull : 4294967295 < g.epoch
    · have hw : whS D L h = (70, D, L) := by unfold whS; rw [← hge, if_pos hfull]
      rw [hw]
      simp (maxSteps := 1000000) [logO, logB, batR, devAt, headA, slotsOf, hho, hfull, -List.reduceReplicate]
      refine Ret.sel [0, 1, 2, 3, 4] (fun _ => false) (ho := by rfl) (ha := by rfl) ?_ ?_ (by decide) (by simp) (st_pre 3 [3, 4] _) ⟨rfl, ?_⟩
      · simp
      · simp
      · rfl
    · simp (maxSteps := 1000000) [logO, logB, batR, devAt, headA, slotsOf, hho, hfull, -List.reduceReplicate]
      refine draw_k hho (.take 0 (.take 1 (.take 2 (.take 3 (.take 4 (.take 5 (.take 6 (.take 7 (.alt 8 (.alt 9 (.take 10 (.done)) (.nil)) (.nil)))))))))) [0, 5] [] (by decide +kernel) (by simp) ?_
      simp (maxSteps := 1000000) [hho, roOf, holdOf, wrOf, altK, heldOk, Region.binds, -List.reduceReplicate]
      intro E1
      refine call_h [] (headSector_row g (by rw [hgb]; exact hb)) rfl rfl ⟨rfl, rfl⟩ (by simp) (by simp) (by decide) (by simp) (by simp) ?_
      simp (maxSteps := 1000000) [hho, roOf, holdOf, wrOf, altK, heldOk, Region.binds, -List.reduceReplicate]
      intro E2
      have hgl := headL_length g
      have hws := write_sl D hD (g.n.tmod 2) (headL g) 5
      rw [hgl] at hws
      refine call_h [1, 2, 3, 6] hws rfl rfl ⟨rfl, rfl⟩ (by simp) (by simp) (by decide) (by simp) (by simp [devO]) ?_
      have hD1 : (wrH D g).Ok := write_Ok hD hcl hwl
      obtain ⟨D1, e1⟩ : ∃ D1, D1 = wrH D g := ⟨_, rfl⟩
      have e1' : writeS D (g.n.tmod 2) (headL g) = D1 := e1.symm
      rw [e1'] 
      rw [← e1] at hD1
      by_cases hc : checkS D (g.n.tmod 2) 64 = 0
      · simp (maxSteps := 1000000) [hho, hc, devO, roOf, holdOf, wrOf, altK, heldOk, Region.binds, -List.reduceReplicate]
        refine call_d [1, 2, 3] (fun _ => false) [3] (flush_dev D1 hD1) rfl rfl ⟨rfl, rfl⟩ hho (st12 1) (by simp [livH, livO, AV.livL, AV.liv, wkL, wkV, List.range']) (by simp [livH, livO, AV.livL, AV.liv, wkL, wkV, List.range', batchA_liv]) (by simp [hst]) (by decide) (by decide) (by simp) (by simp [devO]) ?_
        by_cases hc2 : checkS D1 0 0 = 0
        · have hw : whS D L h = (0, flushS D1, { L with h := g }) := by unfold whS; rw [← hge, if_neg hfull, ← hg, if_neg (by rw [hc]; decide), ← e1, if_neg (by rw [hc2]; decide)]
          rw [hw]
          simp (maxSteps := 1000000) [hho, hc2, devO, -List.reduceReplicate]
          refine Ret.sel [0, 1, 2, 3, 4] (fun _ => false) (ho := by rfl) (ha := by rfl) ?_ ?_ (by decide) (by simp) (st_pre 3 [3, 4] _) ⟨rfl, ?_⟩
          · simp
          · simp
          · rfl
        · have hw : whS D L h = (checkS D1 0 0, D1, L) := by unfold whS; rw [← hge, if_neg hfull, ← hg, if_neg (by rw [hc]; decide), ← e1, if_pos hc2]
          have ef : flushS D1 = D1 := by unfold flushS; rw [if_neg hc2]
          rw [hw, ef]
          simp (maxSteps := 1000000) [hho, hc2, devO, -List.reduceReplicate]
          refine Ret.sel [0, 1, 2, 3, 4] (fun _ => false) (ho := by rfl) (ha := by rfl) ?_ ?_ (by decide) (by simp) (st_pre 3 [3, 4] _) ⟨rfl, ?_⟩
          · simp
          · simp
          · rfl
      · have hw : whS D L h = (checkS D (g.n.tmod 2) 64, D, L) := by unfold whS; rw [← hge, if_neg hfull, ← hg, if_pos hc]
        have eD : D1 = D := by rw [e1]; unfold wrH writeS; rw [if_neg (by rw [hgl]; exact hc)]
        rw [hw, eD]
        simp (maxSteps := 1000000) [hho, hc, devO, roOf, holdOf, wrOf, altK, heldOk, Region.binds, -List.reduceReplicate]
        refine Ret.sel [0, 1, 2, 3, 4] (fun _ => false) (ho := by rfl) (ha := by rfl) ?_ ?_ (by decide) (by simp) (st_pre 3 [3, 4] _) ⟨rfl, ?_⟩
        · simp
        · simp
        · rfl
  · by_cases hbs : h.base < 0
    · have hg : nextH L h = ⟨L.h.n + 1, L.h.epoch + 1, L.h.epoch + 1, h.body⟩ := by unfold nextH; rw [if_pos hbs]
      simp (maxSteps := 1000000) [hho, hbs, -List.reduceReplicate]
      refine cut_to () trivial ?_
      exact wk_all (by simp [hE, logO, devAt, lens]) (by simp [logO, logB, batR, devAt, headA, hg]) (by simp [livH, livO, AV.livL, AV.liv, wkL, wkV, List.range', slotsOf])
    · have hg : nextH L h = ⟨L.h.n + 1, L.h.epoch + 1, h.base, h.body⟩ := by unfold nextH; rw [if_neg hbs]
      simp (maxSteps := 1000000) [hho, hbs, -List.reduceReplicate]
      refine cut_to () trivial ?_
      exact wk_all (by simp [hE, logO, devAt, lens]) (by simp [logO, logB, batR, devAt, headA, hg]) (by simp [livH, livO, AV.livL, AV.liv, wkL, wkV, List.range', slotsOf])
/-! ## Opening -/
def log0 (n : Nat) : LogS := ⟨n, ⟨0, 0, 0, []⟩, 0, [], false⟩
/-- the log as it is read -/
def readL (D : DevS) (n : Nat) : LogS := withF { log0 n with h := headsTo D ⟨0, 0, 0, []⟩ 2 } (framesTo D (headsTo D ⟨0, 0, 0, []⟩ 2).epoch ⟨(headsTo D ⟨0, 0, 0, []⟩ 2).base, false, [], [], 0⟩ 0 n)
theorem open_arg (D : DevS) (hD : D.Ok) (i : Int) (h : i < 1 ∨ (D.kept.length : Int) - 2 < i) : ACalls Try.prog 9 [.ptr 0 0 5, .c (.int .i64 i)] (devO D) (fun _ => true) (fun r h' => r = .tup [.c (.pointer none), .c (.int .i64 2)] ∧ h' = devO D) := by
  refine acalls mixed Try.func9 rfl Try.ntmps9 rfl fun E hE hst hho => ?_
  have e2 : IntKind.i64.wrap ((D.kept.length : Int) - 2) = D.kept.length - 2 := IntWalk.i64_in _ (by have := hD.k2; omega)
  by_cases hi : i < 1
  · have hi' : ¬ 1 ≤ i := by omega
    simp (maxSteps := 1000000) [devO, hho, hi, hi', undef, onGP_none, condG_false, -List.reduceReplicate]
    exact Ret.same ⟨rfl, rfl⟩
  · have hi2 : (D.kept.length : Int) - 2 < i := by omega
    have hi1 : 1 ≤ i := by omega
    simp (maxSteps := 1000000) [devO, hho, hi, hi1, -List.reduceReplicate]
    refine call_x [0, 1, 2] (sectors_dev D) rfl rfl ⟨rfl, rfl⟩ hho (by simp) (by decide) (by simp) (by simp [devO]) ?_
    simp (maxSteps := 1000000) [devO, hho, e2, hi2, -List.reduceReplicate]
    exact Ret.same ⟨rfl, rfl⟩
/-- the device with a log on it -/
def dlO (D : DevS) (L : LogS) : List AObj := devO D ++ [logB L 0 4, batR L.bs]
/-- opening: the error, the device, the log -/
def openS (D : DevS) (n : Nat) : Int × DevS × LogS := if checkS D 0 0 ≠ 0 then (checkS D 0 0, D, log0 n) else whS D (readL D n) (readL D n).h
/-- what a head that was read is -/
theorem parse_n {l : List UInt8} {i : Int} {h : HeadS} (hp : parseH l i = some h) : 0 < h.n ∧ h.n < 4611686018427387904 ∧ h.base ≤ h.epoch ∧ h.epoch = getI l 8 4 ∧ h.base = getI l 12 4 := by
  unfold parseH at hp
  split at hp
  · cases hp
  · injection hp with hp; subst hp
    simp only
    exact ⟨by omega, by omega, by omega, by trivial, by trivial⟩
theorem getU_lt (l : List UInt8) (n : Nat) (hn : l.length ≤ n) (h8 : n ≤ 7) : getU l < 256 ^ n := by
  have key : ∀ (l : List UInt8) (u m : Nat), u < 256 ^ m → l.length + m ≤ 7 → l.foldl getStep u < 256 ^ (l.length + m) := by
    intro l
    induction l with
    | nil => intro u m h _; simpa using h
    | cons c l ih =>
      intro u m h hm
      simp only [List.length_cons] at hm
      rw [List.foldl_cons]
      have hs : getStep u c < 256 ^ (m + 1) := by
        unfold getStep
        have := c.toNat_lt
        have : (u * 256 + c.toNat) % 18446744073709551616 ≤ u * 256 + c.toNat := Nat.mod_le _ _
        rw [Nat.pow_succ]
        have : u + 1 ≤ 256 ^ m := h
        have := Nat.mul_le_mul_right 256 this
        omega
      have := ih (getStep u c) (m + 1) hs (by omega)
      simp only [List.length_cons]
      have e : l.length + 1 + m = l.length + (m + 1) := by omega
      rw [e]; exact this
  have := key l 0 0 (by decide) (by omega)
  simp only [Nat.add_zero] at this
  exact Nat.lt_of_lt_of_le this (Nat.pow_le_pow_right (by decide) hn)
theorem getI4_range (l : List UInt8) (off : Nat) : 0 ≤ getI l off 4 ∧ getI l off 4 < 4294967296 := by
  have h := getU_lt ((l.drop off).take 4) 4 (by simp; omega) (by decide)
  have e : (256 : Nat) ^ 4 = 4294967296 := by decide
  rw [e] at h
  unfold getI
  rw [IntWalk.i64_in _ (by omega)]
  omega
structure HeadS.Ok (h : HeadS) : Prop where
  n0 : 0 ≤ h.n
  n1 : h.n < 4611686018427387904
  e0 : 0 ≤ h.epoch
  e1 : h.epoch ≤ 4294967295
  b : h.body.length ≤ 32
theorem headsTo_ok (D : DevS) (h : HeadS) (hh : h.Ok) : ∀ i, (headsTo D h i).Ok := by
  intro i
  induction i with
  | zero => exact hh
  | succ i ih =>
    simp only [headsTo, headStep]
    split
    · rename_i g hg
      split
      · obtain ⟨a, b, c, d, e⟩ := parse_n hg
        have := getI4_range (secL D i) 8
        exact ⟨by omega, b, by omega, by omega, parse_body hg⟩
      · exact ih
    · exact ih
theorem read0_ok (D : DevS) : (headsTo D ⟨0, 0, 0, []⟩ 2).Ok := headsTo_ok D _ ⟨by decide, by decide, by decide, by decide, by decide⟩ 2
theorem chk_all {D : DevS} (hc : checkS D 0 0 = 0) (i : Nat) (hi : i < D.kept.length) : checkS D i 0 = 0 := by
  obtain ⟨_, _, _, h⟩ := check_ok hc
  unfold checkS
  rw [if_neg (by omega), if_neg (by rintro ⟨a, b⟩; exact h a b)]
set_option maxHeartbeats 4000000 in
theorem open_dev (D : DevS) (hD : D.Ok) (hcl : D.calls ≤ 100000) (hwl : D.wait.length ≤ 100000) (n : Nat) (h1 : 1 ≤ n) (h2 : (n : Int) ≤ D.kept.length - 2) (Post : AV → List AObj → Prop)
    (hP : ((openS D n).1 = 0 → Post (.tup [.ptr 3 0 9, .c (.int .i64 0)]) (dlO (openS D n).2.1 (openS D n).2.2)) ∧ ((openS D n).1 ≠ 0 → Post (.tup [.c (.pointer none), .c (.int .i64 (openS D n).1)]) (devO (openS D n).2.1))) : ACalls Try.prog 9 [.ptr 0 0 5, .c (.int .i64 n)] (devO D) (fun k => decide (k < 2)) Post := by
  obtain ⟨hP1, hP2⟩ := hP
  refine acallsC [6] mixed Try.func9 rfl Try.ntmps9 rfl fun E hE hst hho => ?_
  have e2 : IntKind.i64.wrap ((D.kept.length : Int) - 2) = D.kept.length - 2 := IntWalk.i64_in _ (by have := hD.k2; omega)
  have hi : ¬ ((n : Int) < 1) := by omega
  have hi1 : 1 ≤ n := h1
  have hi2 : ¬ ((D.kept.length : Int) - 2 < n) := by omega
  have hn0 : ¬ n = 0 := by omega
  have hi1i : 1 ≤ (n : Int) := by omega
  simp (maxSteps := 1000000) [devO, hho, hi, hi1, hi1i, hn0, -List.reduceReplicate]
  refine call_x [0, 1, 2] (sectors_dev D) rfl rfl ⟨rfl, rfl⟩ hho (by simp) (by decide) (by simp) (by simp [devO]) ?_
  simp (maxSteps := 1000000) [devO, hho, e2, hi2, -List.reduceReplicate]
  refine seq_cut mixed [] (fun _ : Unit => ⟨slotsOf 47 [(0, .ptr 0 0 5), (6, .ptr 3 0 9)], dlO D (log0 n)⟩) (fun _ => True) ?_ ?_
  · rintro _ _
    simp (maxSteps := 1000000) [dlO, devO, logB, batR, log0, slotsOf, hho, -List.reduceReplicate]
    by_cases hc : checkS D 0 0 = 0
    · have ho : openS D n = whS D (readL D n) (readL D n).h := by unfold openS; rw [if_neg (by rw [hc]; decide)]
      have hR := read0_ok D
      refine call_x [3, 0, 1, 2, 4] (readHead_ok D hD (log0 n) fun i hi => chk_all hc i (by omega)) rfl rfl ⟨rfl, rfl⟩ hho (by simp) (by decide) (by simp [log0]) (by simp [logO, devAt]) ?_
      obtain ⟨H, hH⟩ : ∃ H, H = headsTo D ⟨0, 0, 0, []⟩ 2 := ⟨_, rfl⟩
      have hH' : headsTo D (log0 n).h 2 = H := hH.symm
      rw [hH']
      rw [← hH] at hR
      simp (maxSteps := 1000000) [hho, logO, logB, batR, devAt, log0, -List.reduceReplicate]
      refine call_d [3, 0, 1, 2, 4] (fun _ => false) [4] (readFrames_ok D hD { log0 n with h := H } n rfl (by have := hD.k2; omega) rfl rfl fun k hk => chk_all hc (2 + k) (by omega)) rfl rfl ⟨rfl, rfl⟩ hho ?_ (by simp [livH, livO, AV.livL, AV.liv, wkL, wkV, List.range']) (by simp [livH, livO, AV.livL, AV.liv, wkL, wkV, List.range']) (by simp [hst]) (by decide) (by decide) (by simp [log0]) (by simp [logO, devAt]) ?_
      · intro i q h
        match i, h with
        | 0, _ => exact .inl rfl
        | 1, _ => exact .inl rfl
        | 2, _ => exact .inl rfl
        | 3, _ => exact .inl rfl
        | 4, h => simp at h; exact .inr (by simp [h])
        | i + 5, h => simp at h
      have eR : withF { log0 n with h := H } (framesTo D H.epoch ⟨H.base, false, [], [], 0⟩ 0 n) = readL D n := by rw [hH]; rfl
      have eRh : (readL D n).h = H := by rw [hH]; rfl
      rw [eR]
      obtain ⟨R, hRR⟩ : ∃ R, R = readL D n := ⟨_, rfl⟩
      rw [← hRR] at eRh ho ⊢
      simp (maxSteps := 1000000) [hho, logO, logB, batR, devAt, -List.reduceReplicate]
      have eA : ([AV.c (.int .i64 R.h.n), AV.c (.int .i64 R.h.epoch), AV.c (.int .i64 R.h.base), AV.fs 1 R.h.body.length (u8av R.h.body)] : List AV) = headA R.h := rfl
      rw [← eRh] at hR
      refine call_d [3, 0, 1, 2, 4] (fun _ => false) [2, 4] (writeHead_ok D hD hcl hwl R R.h (by have := hR.b; omega) ⟨hR.n0, by have := hR.n1; omega⟩ ⟨hR.e0, by have := hR.e1; omega⟩) rfl rfl ⟨rfl, rfl⟩ hho ?_ (by simp [livH, livO, AV.livL, AV.liv, wkL, wkV, List.range']) (by simp [livH, livO, AV.livL, AV.liv, wkL, wkV, List.range']) (by simp [hst]) (by decide) (by decide) (by simp) (by simp [logO, devAt]) ?_
      · intro i q h
        match i, h with
        | 0, _ => exact .inl rfl
        | 1, _ => exact .inl rfl
        | 2, _ => exact .inl rfl
        | 3, h => simp at h; exact .inr (by simp [h])
        | 4, h => simp at h; exact .inr (by simp [h])
        | i + 5, h => simp at h
      obtain ⟨W, hW⟩ : ∃ W, W = whS D R R.h := ⟨_, rfl⟩
      rw [← hW] at ho ⊢
      rw [ho] at hP1 hP2
      by_cases hw0 : W.1 = 0
      · rw [hw0]
        simp (maxSteps := 1000000) [hho, logO, logB, batR, devAt, -List.reduceReplicate]
        refine Ret.sel [0, 1, 2, 3, 4] (fun _ => false) (ho := by rfl) (ha := by rfl) ?_ ?_ (by decide) (by simp) (st_pre 2 [2, 3, 4] _) (hP1 hw0)
        · simp
        · simp
      · simp (maxSteps := 1000000) [hho, hw0, logO, logB, batR, devAt, -List.reduceReplicate]
        refine Ret.sel [0, 1, 2] (fun _ => false) (ho := by rfl) (ha := by rfl) ?_ ?_ (by decide) (by simp) (st_pre 2 [2] _) (hP2 hw0)
        · simp
        · simp
    · have ho : openS D n = (checkS D 0 0, D, log0 n) := by unfold openS; rw [if_pos hc]
      rw [ho] at hP1 hP2
      refine call_x [3, 0, 1, 2, 4] (readHead_err D hD (log0 n) hc) rfl rfl ⟨rfl, rfl⟩ hho (by simp) (by decide) (by simp [log0]) (by simp [logO, devAt]) ?_
      simp (maxSteps := 1000000) [hho, hc, logO, logB, batR, devAt, -List.reduceReplicate]
      refine Ret.sel [0, 1, 2] (fun _ => false) (ho := by rfl) (ha := by rfl) ?_ ?_ (by decide) (by simp) (st_pre 2 [2] _) (hP2 hc)
      · simp
      · simp
  · simp (maxSteps := 1000000) [hho, -List.reduceReplicate]
    refine cut_to () trivial ?_
    refine Wk.trans (wk_cell 3 5 rfl rfl fun G F w v _ h => nil_fs0 1 h) ?_
    refine Wk.trans (wk_virtC 3 7 33 1 rfl rfl) ?_
    exact wk_all (by simp [hE, devO, lens]) (by simp [dlO, devO, logB, batR, log0, batchA]) (by simp [livH, livO, AV.livL, AV.liv, wkL, wkV, List.range', slotsOf])
end Go.Proofs.Ytmgpiminicgbiaa
-- 
namespace Go.Proofs.Ytmgpiminicgbiaa
set_option linter.unusedVariables false
set_option linter.unusedSimpArgs false
open Go.RowKit
attribute [local simp] isCut_nil isCut_region isCut_seq isCut_block isCut_loop isCut_cond isCut_skip isCut_exit isCut_ret isCut_range swapK putK altK condK_bool pickP_bool stepP stepO onPure_some onPure_none onImpl_some onImpl_none stepC onGP_some onGP_none onGV_some condG mkG onIt_it nextP_ptr takeP_eq takeV_some takeV_none takeU_some takeU_none takeQ takeW_some takeN_none takeN_some takeG_some takeO_some altO_some pureV binV2 eqF eqOp ovlV ovl2 rowAt capV binV intBin strBin isSh shV fldV ixV sliceV slice3V loadAV nilV lenV callV unV convV viewS cellsH loadV fldCut AV.ung AV.ungs AV.gc AV.cells AS.ev AS.put anyS gcsV gcO lens lnO gV guardV retK RetP_eq resV oneV anyRo loIx hiIx implO callP_clo evL gcsL clearV storeAV AS.push AS.setO appV appZ shortS copyV buildV partsV fillV srcV fzO okV isCell_c isCell_ptr isCell_sl isCell_fs isCell_fp isCell_clo rowZ_one rowZ_zero rowZ_2 rowZ_3 rowZ_4 rowZ_5 rowZ_6 rowZ_7 rowZ_8 rowZ_9 rowZ_10 rowZ_11 rowZ_12 noHo Value.oneCell' max2V min2V lookV updV updK updW cvals mkAt basV lenM msAt afterH putBack frzFrom frzO rebO backIx nilEq_sl nilEq_fs nilEq_ifn nilEq_ifh ifOp_eql ifOp_neq isLit nilOp_eql nilOp_neq AV.reb AV.rebL
attribute [local simp ↓] runK_skip runK_region runK_draw runK_seq runK_cut runK_cond runK_block runK_loop runK_exit runK_label runK_goto runK_ret runK_range contK_nil contK_seq contK_seq_ret contK_seq_exit contK_seq_goto contK_block contK_block_ret contK_block_goto contK_block_exit runO_nil runO_cons roundK_exit roundK_ret roundK_goto exitK_ret cutK_ret cutK_exit runE_done runE_nil runE_take runE_alt condG_true condG_false runYK_skip runYK_region runYK_draw runYK_seq runYK_cond runYK_block runYK_loop runYK_exit runYK_ret contYK_nil contYK_seq contYK_seq_ret contYK_seq_exit contYK_block contYK_block_ret contYK_block_exit runYO_nil runYO_cons finY_normal finY_ret roundY_ret roundY_exit
attribute [local simp] condYK_bool onYI_some onYP_some onYP_none onYA_some onYA_none onYD_some onYD_none ixD stepY yldArgs AS.clean keepV hoN hnY rebI setPs heldH
set_option maxRecDepth 10000
/-! ## Laying frames -/
def framesA (l : List FrameS) : List AV := l.flatMap frameA
@[simp] theorem frameA_length (f : FrameS) : (frameA f).length = 4 := rfl
@[simp] theorem framesA_length (l : List FrameS) : (framesA l).length = l.length * 4 := flat_length frameA 4 (by simp) l
@[simp] theorem framesA_all (l : List FrameS) : (∀ x ∈ framesA l, isD x = true) ↔ True := iff_true_intro <| by
  intro x hx
  simp only [framesA, List.mem_flatMap, frameA, List.mem_cons, List.not_mem_nil, or_false] at hx
  obtain ⟨b, _, rfl | rfl | rfl | rfl⟩ := hx <;> rfl
@[simp] theorem framesA_cell (l : List FrameS) : (∀ x ∈ framesA l, isCell x = true) ↔ True := iff_true_intro <| by
  intro x hx
  simp only [framesA, List.mem_flatMap, frameA, List.mem_cons, List.not_mem_nil, or_false] at hx
  obtain ⟨b, _, rfl | rfl | rfl | rfl⟩ := hx <;> rfl
theorem framesA_at (l : List FrameS) (j : Nat) (hj : j < l.length) : List.take 4 (List.drop (j * 4) (framesA l)) = frameA l[j] := flat_at frameA 4 (by simp) l j hj
/-- frames are laid, and flushed: the error, the device -/
def layS : DevS → List FrameS → Int × DevS
  | D, [] => (checkS D 0 0, flushS D)
  | D, f :: r => if checkS D (2 + f.k) 64 ≠ 0 then (checkS D (2 + f.k) 64, D) else layS (writeS D (2 + f.k) (frameL f)) r
set_option maxHeartbeats 4000000 in
theorem lay_ok (D : DevS) (hD : D.Ok) (hcl : D.calls ≤ 50000) (hwl : D.wait.length ≤ 50000) (L : LogS) (fs : List FrameS) (hf : fs.length ≤ 2000) (hk : ∀ f ∈ fs, 0 ≤ f.k ∧ f.k ≤ 1000000 ∧ f.body.length ≤ 1000000) :
    ACalls Try.prog 39 [.ptr 0 0 9, .sl 5 4 0 fs.length (fs.length * 4)] (logO D L ++ [.o (.row 90 4) (framesA fs)]) (fun k => [0, 1, 2, 4, 5].contains k) (fun r h' => r = .c (.int .i64 (layS D fs).1) ∧ h' = logO (layS D fs).2 L ++ [.o (.row 90 4) (framesA fs)]) := by
  refine acalls mixed Try.func39 rfl Try.ntmps39 rfl fun E hE hst hho => ?_
  simp (maxSteps := 1000000) [logO, logB, batR, devAt, hho, -List.reduceReplicate]
  refine loop_k mixed (fun x : Nat × DevS => ⟨slotsOf 33 [(0, .ptr 0 0 9), (8, .sl 5 4 0 fs.length (fs.length * 4)), (9, .c (.int .i64 fs.length)), (10, .c (.int .i64 (x.1 : Int)))], logO x.2 L ++ [.o (.row 90 4) (framesA fs)]⟩) (fun x => fs.length - x.1) (fun x => x.1 ≤ fs.length ∧ layS D fs = layS x.2 (fs.drop x.1) ∧ x.2.Ok ∧ x.2.calls ≤ 50000 + x.1 ∧ x.2.wait.length ≤ 50000 + x.1) (0, D) ⟨Nat.zero_le _, rfl, hD, by simpa using hcl, by simpa using hwl⟩ ?_ ?_
  · exact wk_all (by simp [hE, logO, devAt, lens]) (by simp [logO, logB, batR, devAt]) (by simp [livH, livO, AV.livL, AV.liv, wkL, wkV, List.range', slotsOf])
  · rintro ⟨j, D1⟩ ⟨hj, hI, hD1, hc1, hw1⟩
    simp only at hj hI hD1 hc1 hw1
    by_cases hjl : j < fs.length
    · obtain ⟨f, hff⟩ : ∃ f, f = fs[j] := ⟨_, rfl⟩
      obtain ⟨k1, k2, k3⟩ := hk f (by rw [hff]; exact List.getElem_mem hjl)
      have hat : List.take 4 (List.drop (j * 4) (framesA fs)) = frameA f := by rw [hff]; exact framesA_at fs j hjl
      have ew : IntKind.i64.wrap ((j : Int) + 1) = (j + 1 : Nat) := by rw [IntWalk.i64_in _ (by omega)]; rfl
      have e2k : IntKind.i64.wrap (2 + f.k) = 2 + f.k := IntWalk.i64_in _ (by omega)
      have el : j * 4 + 4 ≤ fs.length * 4 := by omega
      rw [List.drop_eq_getElem_cons hjl, ← hff, layS] at hI
      simp (maxSteps := 1000000) [logO, logB, batR, devAt, slotsOf, hho, hjl, hat, el, frameA, -List.reduceReplicate]
      refine draw_k hho (.take 0 (.take 1 (.take 2 (.take 3 (.take 4 (.take 5 (.take 6 (.take 7 (.alt 8 (.alt 9 (.take 10 (.done)) (.nil)) (.nil)))))))))) [0, 6] [] (by decide +kernel) (by simp) ?_
      simp (maxSteps := 1000000) [hho, e2k, roOf, holdOf, wrOf, altK, heldOk, Region.binds, -List.reduceReplicate]
      intro E1
      refine call_h [] (frameSector_row f k3) rfl rfl ⟨rfl, rfl⟩ (by simp) (by simp) (by decide) (by simp) (by simp) ?_
      simp (maxSteps := 1000000) [hho, roOf, holdOf, wrOf, altK, heldOk, Region.binds, -List.reduceReplicate]
      intro E2
      have hgl := frameL_length f
      have hws := write_sl D1 hD1 (2 + f.k) (frameL f) 5
      rw [hgl] at hws
      refine call_h [1, 2, 3, 7] hws rfl rfl ⟨rfl, rfl⟩ (by simp) (by simp) (by decide) (by simp) (by simp [devO]) ?_
      have hD2 : (writeS D1 (2 + f.k) (frameL f)).Ok := write_Ok hD1 (by omega) (by omega)
      have hcw : (writeS D1 (2 + f.k) (frameL f)).calls ≤ D1.calls + 1 ∧ (writeS D1 (2 + f.k) (frameL f)).wait.length ≤ D1.wait.length + 1 := by
        unfold writeS; split <;> simp [countS] <;> omega
      obtain ⟨D2, e2⟩ : ∃ D2, D2 = writeS D1 (2 + f.k) (frameL f) := ⟨_, rfl⟩
      rw [← e2] at hI hD2 hcw ⊢
      by_cases hc : checkS D1 (2 + f.k) 64 = 0
      · rw [if_neg (by rw [hc]; decide)] at hI
        simp (maxSteps := 1000000) [hho, hc, ew, devO, roOf, holdOf, wrOf, altK, heldOk, Region.binds, -List.reduceReplicate]
        refine round_next (j + 1, D2) ⟨by simp only; omega, hI, hD2, by simp only; omega, by simp only; omega⟩ (by simp only; omega) ?_
        exact wk_of 6 2 (by simp) (by simp [hE, logO, devAt, lens]) (by simp [logO, logB, batR, devAt]) (by simp [livH, livO, AV.livL, AV.liv, wkL, wkV, List.range', logO, logB, batR, devAt, batchA_liv]) (by simp [livH, livO, AV.livL, AV.liv, wkL, wkV, List.range', slotsOf])
      · rw [if_pos hc] at hI
        have eD : D2 = D1 := by rw [e2]; unfold writeS; rw [if_neg (by rw [hgl]; exact hc)]
        rw [hI, eD]
        simp (maxSteps := 1000000) [hho, hc, devO, roOf, holdOf, wrOf, altK, heldOk, Region.binds, -List.reduceReplicate]
        refine Ret.sel [0, 1, 2, 3, 4, 5] (fun _ => false) (ho := by rfl) (ha := by rfl) ?_ ?_ (by decide) (by simp) (by intro i _ h; simp at h; rcases h with rfl | rfl | rfl | rfl | rfl <;> rfl) ⟨rfl, ?_⟩
        · simp
        · simp
        · rfl
    · obtain rfl : j = fs.length := by omega
      rw [List.drop_length, layS] at hI
      simp (maxSteps := 1000000) [logO, logB, batR, devAt, slotsOf, hho, -List.reduceReplicate]
      refine call_d [1, 2, 3] (fun _ => false) [3] (flush_dev D1 hD1) rfl rfl ⟨rfl, rfl⟩ hho (st12 1) (by simp [livH, livO, AV.livL, AV.liv, wkL, wkV, List.range']) (by simp [livH, livO, AV.livL, AV.liv, wkL, wkV, List.range', batchA_liv]) (by simp [hst]) (by decide) (by decide) (by simp) (by simp [devO]) ?_
      rw [hI]
      simp (maxSteps := 1000000) [hho, devO, -List.reduceReplicate]
      refine Ret.sel [0, 1, 2, 3, 4, 5] (fun _ => false) (ho := by rfl) (ha := by rfl) ?_ ?_ (by decide) (by simp) (by intro i _ h; simp at h; rcases h with rfl | rfl | rfl | rfl | rfl <;> rfl) ⟨rfl, ?_⟩
      · simp
      · simp
      · rfl
/-! ## Chunks -/
def chunkN (l : List UInt8) : Nat := (l.length + 45) / 46
def chunkI (l : List UInt8) (j : Nat) : List AV := [.fs 1 ((l.drop (46 * j)).take 46).length (u8av ((l.drop (46 * j)).take 46))]
theorem chunkI_ok (l : List UInt8) (j : Nat) : ∀ x ∈ chunkI l j, itemOk 2 x = true := by simp [chunkI, itemOk, plainV]
theorem chunk_call (l : List UInt8) : ACalls Try.prog 38 [.fs 1 l.length (u8av l), .c (.int .i64 46)] [] (fun _ => false) (fun r h' => r = .clo (.func 55) [] [.ptr 0 0 1, .ptr 1 0 1] ∧ h' = [.o .box [.fs 1 l.length (u8av l)], .o .box [.c (.int .i64 46)]]) := by
  refine acalls mixed Try.func38 rfl Try.ntmps38 rfl fun E hE hst hho => ?_
  simp (maxSteps := 1000000) [hho, -List.reduceReplicate]
  exact Ret.same ⟨rfl, rfl⟩
theorem chunk_seq (l : List UInt8) (hl : l.length ≤ 1000000) : ASeq0 Try.prog [.o .box [.fs 1 l.length (u8av l)], .o .box [.c (.int .i64 46)]] (chunkN l) (chunkI l) 55 [.ptr 0 0 1, .ptr 1 0 1] := by
  refine aseq0_k mixed Try.func55 rfl Try.ntmps55 rfl fun y => ?_
  simp (maxSteps := 1000000) [-List.reduceReplicate]
  refine loopY_k mixed (fun j : Nat => ⟨slotsOf 31 [(0, .clo (.yield y) [] []), (1, .ptr 0 0 1), (2, .ptr 1 0 1), (4, .c (.int .i64 ((46 * j : Nat) : Int)))], [.o .box [.fs 1 l.length (u8av l)], .o .box [.c (.int .i64 46)]]⟩) (fun j => j) (fun j => chunkN l - j) (fun j => j ≤ chunkN l) 0 (by simp) rfl ?_ ?_
  · intro E hE
    exact wk_all (by simpa using hE) rfl (by simp [livH, livO, AV.livL, AV.liv, wkL, wkV, List.range', slotsOf])
  · intro j hj
    by_cases hlt : 46 * j < l.length
    · have hlti : 46 * (j : Int) < l.length := by omega
      have hjN : j < chunkN l := by unfold chunkN; omega
      simp (maxSteps := 1000000) [slotsOf, hlti, -List.reduceReplicate]
      refine drawY_k (.take 0 (.take 1 (.take 2 (.take 3 (.take 4 (.take 5 (.take 6 (.done)))))))) (by decide) [0, 1] (by simp) (by decide +kernel) ?_
      obtain ⟨m, hm⟩ : ∃ m, m = min 46 (l.length - 46 * j) := ⟨_, rfl⟩
      have ht : (46 * (j : Int)).toNat = 46 * j := by omega
      have emin : min 46 ((l.length - 46 * j : Nat) : Int) = (m : Int) := by omega
      have eadd : IntKind.i64.wrap (46 * (j : Int) + m) = 46 * (j : Int) + m := IntWalk.i64_in _ (by omega)
      have e46 : IntKind.i64.wrap (46 * (j : Int) + 46) = 46 * (j : Int) + 46 := IntWalk.i64_in _ (by omega)
      have hlen : ((l.drop (46 * j)).take 46).length = m := by simp; omega
      have htm : ((46 * (j : Int)) + m).toNat - 46 * j = m := by omega
      simp (maxSteps := 1000000) [roOf, holdOf, wrOf, altK, heldOk, Region.binds, hlti, ht, emin, eadd, htm, e46, slice3V, -List.reduceReplicate]
      refine ⟨by omega, by omega, hjN, ?_, chunkI_ok l j, ?_, by omega⟩
      · simp only [chunkI, hlen]
        have : List.take m (List.drop (46 * j) l) = List.take 46 (List.drop (46 * j) l) := by
          rw [hm]; rw [List.take_eq_take_iff]; simp
        rw [this]
      · refine roundY_next (j + 1) rfl (by omega) (by omega) rfl fun E hE => wk_all (by simpa using hE) rfl (by simp [livH, livO, AV.livL, AV.liv, wkL, wkV, List.range']; omega)
    · have hlti : ¬ 46 * (j : Int) < l.length := by omega
      have hjN : j = chunkN l := by unfold chunkN at hj ⊢; omega
      simp (maxSteps := 1000000) [slotsOf, hlti, -List.reduceReplicate]
      exact hjN
end Go.Proofs.Ytmgpiminicgbiaa
-- 
namespace Go.Proofs.Ytmgpiminicgbiaa
set_option linter.unusedVariables false
set_option linter.unusedSimpArgs false
open Go.RowKit
attribute [local simp] isCut_nil isCut_region isCut_seq isCut_block isCut_loop isCut_cond isCut_skip isCut_exit isCut_ret isCut_range swapK putK altK condK_bool pickP_bool stepP stepO onPure_some onPure_none onImpl_some onImpl_none stepC onGP_some onGP_none onGV_some condG mkG onIt_it nextP_ptr takeP_eq takeV_some takeV_none takeU_some takeU_none takeQ takeW_some takeN_none takeN_some takeG_some takeO_some altO_some pureV binV2 eqF eqOp ovlV ovl2 rowAt capV binV intBin strBin isSh shV fldV ixV sliceV slice3V loadAV nilV lenV callV unV convV viewS cellsH loadV fldCut AV.ung AV.ungs AV.gc AV.cells AS.ev AS.put anyS gcsV gcO lens lnO gV guardV retK RetP_eq resV oneV anyRo loIx hiIx implO callP_clo evL gcsL clearV storeAV AS.push AS.setO appV appZ shortS copyV buildV partsV fillV srcV fzO okV isCell_c isCell_ptr isCell_sl isCell_fs isCell_fp isCell_clo rowZ_one rowZ_zero rowZ_2 rowZ_3 rowZ_4 rowZ_5 rowZ_6 rowZ_7 rowZ_8 rowZ_9 rowZ_10 rowZ_11 rowZ_12 noHo Value.oneCell' max2V min2V lookV updV updK updW cvals mkAt basV lenM msAt afterH putBack frzFrom frzO rebO backIx nilEq_sl nilEq_fs nilEq_ifn nilEq_ifh ifOp_eql ifOp_neq isLit nilOp_eql nilOp_neq AV.reb AV.rebL
attribute [local simp ↓] runK_skip runK_region runK_draw runK_seq runK_cut runK_cond runK_block runK_loop runK_exit runK_label runK_goto runK_ret runK_range contK_nil contK_seq contK_seq_ret contK_seq_exit contK_seq_goto contK_block contK_block_ret contK_block_goto contK_block_exit runO_nil runO_cons roundK_exit roundK_ret roundK_goto exitK_ret cutK_ret cutK_exit runE_done runE_nil runE_take runE_alt condG_true condG_false runYK_skip runYK_region runYK_draw runYK_seq runYK_cond runYK_block runYK_loop runYK_exit runYK_ret contYK_nil contYK_seq contYK_seq_ret contYK_seq_exit contYK_block contYK_block_ret contYK_block_exit runYO_nil runYO_cons finY_normal finY_ret roundY_ret roundY_exit
attribute [local simp] condYK_bool onYI_some onYP_some onYP_none onYA_some onYA_none onYD_some onYD_none ixD stepY yldArgs AS.clean keepV hoN hnY rebI setPs heldH
set_option maxRecDepth 10000
/-! ## Appending a batch -/
def chunkB (b : List UInt8) (j : Nat) : List UInt8 := (b.drop (46 * j)).take 46
/-- the frames of a batch, none marked as the last -/
def chunkF (L : LogS) (b : List UInt8) (n : Nat) : List FrameS := (List.range n).map fun (j : Nat) => ⟨L.h.epoch, L.at_ + (j : Int), false, chunkB b j⟩
@[simp] theorem chunkF_length (L : LogS) (b : List UInt8) (n : Nat) : (chunkF L b n).length = n := by simp [chunkF]
theorem chunkF_succ (L : LogS) (b : List UInt8) (n : Nat) : framesA (chunkF L b (n + 1)) = framesA (chunkF L b n) ++ [.c (.int .i64 L.h.epoch), .c (.int .i64 (L.at_ + (n : Int))), .c (.bool false), .fs 1 (chunkB b n).length (u8av (chunkB b n))] := by
  simp [chunkF, List.range_succ, framesA, frameA]
/-- the last one marked -/
def markL (l : List FrameS) : List FrameS := match l.getLast? with
  | some f => l.dropLast ++ [{ f with last := true }]
  | none => []
def framesOf (L : LogS) (b : List UInt8) : List FrameS := if b.length = 0 then [⟨L.h.epoch, L.at_, false, []⟩] else chunkF L b (chunkN b)
/-- the error, the device, the log behind Append -/
def appS (D : DevS) (L : LogS) (b : List UInt8) : Int × DevS × LogS :=
  if L.down = true then (60, D, L)
  else if 65536 < b.length then (2, D, L)
  else if roomL L < (framesOf L b).length then (70, D, L)
  else if (layS D (markL (framesOf L b))).1 ≠ 0 then ((layS D (markL (framesOf L b))).1, (layS D (markL (framesOf L b))).2, { L with down := true })
  else (0, (layS D (markL (framesOf L b))).2, { L with at_ := L.at_ + (framesOf L b).length, bs := L.bs ++ [b] })
theorem st_3 {l : List Nat} {st : Nat → Bool} {n : Nat} (hst : st = fun k => decide (k < 3)) : ∀ i, i < n → st i = true → (0 :: 1 :: 2 :: l)[i]? = some i := by
  intro i _ h
  subst hst
  have h : i < 3 := by simpa using h
  match i, h with
  | 0, _ => rfl
  | 1, _ => rfl
  | 2, _ => rfl
theorem framesA_app (a b : List FrameS) : framesA (a ++ b) = framesA a ++ framesA b := by simp [framesA]
theorem mark_put (l : List FrameS) (hl : 1 ≤ l.length) : List.take ((l.length - 1) * 4 + 2) (framesA l) ++ AV.c (.bool true) :: List.drop ((l.length - 1) * 4 + 2 + 1) (framesA l) = framesA (markL l) := by
  have hne : l ≠ [] := by intro h; subst h; simp at hl
  obtain ⟨i, f, rfl⟩ : ∃ i f, l = i ++ [f] := ⟨l.dropLast, l.getLast hne, (List.dropLast_concat_getLast hne).symm⟩
  have e1 : (i ++ [f]).length - 1 = i.length := by simp
  have e2 : markL (i ++ [f]) = i ++ [{ f with last := true }] := by simp [markL]
  rw [e1, e2, framesA_app, framesA_app]
  have hi : (framesA i).length = i.length * 4 := by simp
  rw [List.take_append, List.drop_append, hi, List.take_of_length_le (by omega), List.drop_eq_nil_of_le (by omega)]
  have e3 : i.length * 4 + 2 - i.length * 4 = 2 := by omega
  have e4 : i.length * 4 + 2 + 1 - i.length * 4 = 3 := by omega
  rw [e3, e4]
  simp [framesA, frameA]
theorem markL_length (l : List FrameS) : (markL l).length = l.length := by
  unfold markL
  cases h : l.getLast? with
  | none => rw [List.getLast?_eq_none_iff] at h; subst h; rfl
  | some f =>
    have : l ≠ [] := by intro h'; subst h'; simp at h
    have := List.length_pos_iff.2 this
    simp; omega
theorem markL_mem (l : List FrameS) (f : FrameS) (hf : f ∈ markL l) : ∃ g ∈ l, f.k = g.k ∧ f.body = g.body := by
  unfold markL at hf
  cases h : l.getLast? with
  | none => rw [h] at hf; cases hf
  | some g =>
    rw [h] at hf
    simp only [List.mem_append, List.mem_singleton] at hf
    rcases hf with hf | rfl
    · exact ⟨f, List.dropLast_subset _ hf, rfl, rfl⟩
    · exact ⟨g, List.mem_of_getLast? h, rfl, rfl⟩
theorem framesOf_len (L : LogS) (b : List UInt8) : 1 ≤ (framesOf L b).length ∧ (framesOf L b).length ≤ chunkN b + 1 := by
  unfold framesOf
  split
  · simp
  · simp [chunkN]; omega
theorem framesOf_ok (L : LogS) (b : List UInt8) (hb : b.length ≤ 65536) (ha : 0 ≤ L.at_ ∧ L.at_ ≤ 100000) : ∀ f ∈ framesOf L b, 0 ≤ f.k ∧ f.k ≤ 1000000 ∧ f.body.length ≤ 1000000 := by
  intro f hf
  unfold framesOf at hf
  split at hf
  · simp only [List.mem_singleton] at hf; subst hf
    exact ⟨ha.1, by simp only; omega, by simp⟩
  · simp only [chunkF, List.mem_map, List.mem_range] at hf
    obtain ⟨j, hj, rfl⟩ := hf
    have : chunkN b ≤ 1426 := by unfold chunkN; omega
    exact ⟨by simp only; omega, by simp only; omega, by simp [chunkB]; omega⟩
theorem isD_fs (z n : Nat) (l : List AV) : isD (.fs z n l) = true := rfl
theorem rangeFG_wk {P : Program} {E : Env} {c : Code} {s s' : AS} {Q : Exit → AS → Prop} (hw : Wk E s s') (h : RangeFG P E c s' Q) : RangeFG P E c s Q := fun a w hs => h a w (hw a w hs)
set_option maxHeartbeats 8000000 in
theorem append_fs (D : DevS) (hD : D.Ok) (hcl : D.calls ≤ 50000) (hwl : D.wait.length ≤ 50000) (L : LogS) (b : List UInt8) (hb : b.length ≤ maxLen) (hfr : 0 ≤ L.frames ∧ L.frames ≤ 100000) (hat : 0 ≤ L.at_ ∧ L.at_ ≤ L.frames) (hbl : L.bs.length ≤ 100000) :
    ACalls Try.prog 13 [.ptr 0 0 9, .fs 1 b.length (u8av b)] (logO D L) (fun k => decide (k < 3)) (fun r h' => r = .c (.int .i64 (appS D L b).1) ∧ h' = logO (appS D L b).2.1 (appS D L b).2.2) := by
  refine acallsMC [12] mixed Try.func13 rfl Try.ntmps13 rfl fun E hE hst hho hmk => ?_
  simp (maxSteps := 1000000) [logO, logB, batR, devAt, hho, -List.reduceReplicate]
  refine call_x [0, 1, 2, 3, 4] (up_log D L) rfl rfl ⟨rfl, rfl⟩ hho (by simp) (by decide) (by simp) (by simp [logO, devAt]) ?_
  by_cases hdn : L.down = true
  · have hA : appS D L b = (60, D, L) := by unfold appS; rw [if_pos hdn]
    rw [hA]
    simp (maxSteps := 1000000) [hho, hdn, logO, logB, batR, devAt, -List.reduceReplicate]
    refine Ret.sel [0, 1, 2, 3, 4] (fun _ => false) (ho := by rfl) (ha := by rfl) ?_ ?_ (by decide) (by simp) (st_pre 3 [3, 4] _) ⟨rfl, ?_⟩
    · simp
    · simp
    · simp [hdn]
  have hdn' : L.down = false := by simpa using hdn
  by_cases hbig : 65536 < b.length
  · have hA : appS D L b = (2, D, L) := by unfold appS; rw [if_neg hdn, if_pos hbig]
    have hbi : (65536 : Int) < b.length := by omega
    rw [hA]
    simp (maxSteps := 1000000) [hho, hdn', hbig, hbi, logO, logB, batR, devAt, -List.reduceReplicate]
    refine Ret.sel [0, 1, 2, 3, 4] (fun _ => false) (ho := by rfl) (ha := by rfl) ?_ ?_ (by decide) (by simp) (st_pre 3 [3, 4] _) ⟨rfl, ?_⟩
    · simp
    · simp
    · simp [hdn']
  have hbi : ¬ (65536 : Int) < b.length := by omega
  simp (maxSteps := 1000000) [hho, hdn', hbig, hbi, logO, logB, batR, devAt, -List.reduceReplicate]
  refine call_x [] (chunk_call b) rfl rfl ⟨rfl, rfl⟩ hho (by simp) (by decide) (by simp) (by simp) ?_
  simp (maxSteps := 1000000) [hho, -List.reduceReplicate]
  obtain ⟨hb0, hhb0⟩ : ∃ hb0, hb0 = logO D L := ⟨_, rfl⟩
  have hL0 : logO D L = [logB L 1 4, .o .box [.sl 2 64 0 D.kept.length (D.kept.length * 64), .sl 3 65 0 D.wait.length (D.wait.length * 65), .c (.bool D.bound), .c (.int .i64 D.left), .c (.int .i64 D.calls)], .o (.row 93 64) (keptA D.kept), .o (.row 95 65) (waitA D.wait), batR L.bs] := rfl
  have hN : chunkN b ≤ 1426 := by unfold chunkN; omega
  refine rangeFG_wk (wk_virtC 6 0 90 4 rfl rfl) ?_
  refine range_k mixed [7, 8] (chunk_seq b (by omega)) hho hmk ⟨by simp, rfl⟩ rfl rfl rfl (by simp) (by decide) (fun j => ⟨by simpa using chunkI_ok b j, rfl⟩) rfl (by simp) (fun _ => True) trivial (fun j => logO D L ++ [.o .box [.ptr 0 0 9], .o .box [.sl 9 4 0 j (j * 4)], .o .box [.fs 1 b.length (u8av b)], .o .box [.c (.int .i64 46)], .o (.row 90 4) (framesA (chunkF L b j))]) (by simp [hL0, logB, batR, hdn', chunkF, framesA]) (by intro j _ k hk; simp at hk; rcases hk with rfl | rfl <;> rfl) ?_ ?_
  · intro j hj _ E' hho' hE' hst'
    simp (maxSteps := 1000000) [chunkI, hL0, logB, batR, hho', rebI, -List.reduceReplicate]
    refine ⟨by simp [heldH, lens, lnO], fun E2 ho2 ln2 st2 => ?_⟩
    simp (maxSteps := 1000000) [ho2, -List.reduceReplicate]
    refine draw_h (fun k => [7, 8].contains k) ho2 (.take 0 (.take 1 (.take 2 (.take 3 (.take 4 (.take 5 (.take 6 (.take 7 (.take 8 (.take 9 (.take 10 (.take 11 (.take 12 (.take 13 (.take 14 (.alt 15 (.alt 16 (.alt 17 (.done) (.nil)) (.nil)) (.nil))))))))))))))))) [0, 5, 6] [(17, [6])] (by decide +kernel) (by simp) ?_
    have eat : IntKind.i64.wrap (L.at_ + (j : Int)) = L.at_ + j := IntWalk.i64_in _ (by omega)
    simp (maxSteps := 1000000) [ho2, eat, roOf, holdOf, wrOf, altK, heldOk, Region.binds, -List.reduceReplicate]
    have ecs := chunkF_succ L b j
    unfold chunkB at ecs
    refine fun _ _ => ⟨by omega, fun _ => range_next 10 1 trivial rfl (by simpa using ln2) ?_ ?_⟩
    · simp [ecs, Nat.add_mul]
    · simp [livH, livO, AV.livL, AV.liv, wkL, wkV, List.range', batchA_liv]
  · intro _
    simp (maxSteps := 1000000) [hL0, logB, batR, hho, -List.reduceReplicate]
    obtain ⟨fs, hfs⟩ : ∃ fs, fs = framesOf L b := ⟨_, rfl⟩
    refine seq_cut mixed [] (fun _ : Unit => ⟨slotsOf 91 [(1, .fs 1 b.length (u8av b)), (2, .ptr 5 0 1), (6, .ptr 6 0 1)], logO D L ++ [.o .box [.ptr 0 0 9], .o .box [.sl 7 4 0 fs.length (fs.length * 4)], .o (.row 90 4) (framesA fs)]⟩) (fun _ => True) ?_ ?_
    · rintro _ _
      simp (maxSteps := 1000000) [hL0, logB, batR, slotsOf, hho, -List.reduceReplicate]
      refine draw_k hho (.take 0 (.take 1 (.take 2 (.alt 3 (.take 4 (.done)) (.nil))))) [5, 6] [] (by decide +kernel) (by simp) ?_
      simp (maxSteps := 1000000) [hho, roOf, holdOf, wrOf, altK, heldOk, Region.binds, -List.reduceReplicate]
      intro E1
      refine call_h [0, 1, 2, 3, 4] (room_log D L (by omega) (by omega)) rfl rfl ⟨rfl, rfl⟩ (by simp) (by simp) (by decide) (by simp) (by simp [logO, devAt]) ?_
      obtain ⟨hf1, hf2⟩ := framesOf_len L b
      have hfo := framesOf_ok L b (by omega) ⟨hat.1, by omega⟩
      rw [← hfs] at hf1 hf2 hfo
      by_cases hroom : roomL L < fs.length
      · have hA : appS D L b = (70, D, L) := by unfold appS; rw [if_neg hdn, if_neg hbig, ← hfs, if_pos hroom]
        rw [hA]
        simp (maxSteps := 1000000) [hho, hroom, hL0, logB, batR, roOf, holdOf, wrOf, altK, heldOk, Region.binds, -List.reduceReplicate]
        refine Ret.sel [0, 1, 2, 3, 4] (fun _ => false) (ho := by rfl) (ha := by rfl) ?_ ?_ (by decide) (by simp) (st_pre 3 [3, 4] _) ⟨rfl, ?_⟩
        · simp
        · simp
        · rfl
      have en1 : IntKind.i64.wrap ((fs.length : Int) - 1) = ((fs.length - 1 : Nat) : Int) := by rw [IntWalk.i64_in _ (by omega)]; omega
      simp (maxSteps := 1000000) [hho, hroom, hL0, logB, batR, en1, roOf, holdOf, wrOf, altK, heldOk, Region.binds, -List.reduceReplicate]
      rw [mark_put fs hf1]
      obtain ⟨ms, hms⟩ : ∃ ms, ms = markL fs := ⟨_, rfl⟩
      have hml : ms.length = fs.length := by rw [hms]; exact markL_length fs
      rw [← hms, ← hml]
      refine ⟨by omega, by omega, ?_⟩
      refine call_d [0, 1, 2, 3, 4, 7] (fun _ => false) [3] (lay_ok D hD hcl hwl L ms (by omega) fun f hf => by obtain ⟨g, g1, g2, g3⟩ := markL_mem fs f (by rw [← hms]; exact hf); rw [g2, g3]; exact hfo g g1) rfl rfl ⟨rfl, rfl⟩ hho ?_ (by simp [livH, livO, AV.livL, AV.liv, wkL, wkV, List.range']) (by simp [livH, livO, AV.livL, AV.liv, wkL, wkV, List.range', batchA_liv]) (by simp [hst]) (by decide) (by decide) (by simp) (by simp [logO, devAt]) ?_
      · intro i q h
        match i, h with
        | 0, _ => exact .inl rfl
        | 1, _ => exact .inl rfl
        | 2, _ => exact .inl rfl
        | 3, h => simp at h; exact .inr (by simp [h])
        | 4, _ => exact .inl rfl
        | 5, _ => exact .inl rfl
        | i + 6, h => simp at h
      obtain ⟨W, hW⟩ : ∃ W, W = layS D ms := ⟨_, rfl⟩
      rw [← hW]
      have hL1 : ∀ D : DevS, logO D L = [logB L 1 4, .o .box [.sl 2 64 0 D.kept.length (D.kept.length * 64), .sl 3 65 0 D.wait.length (D.wait.length * 65), .c (.bool D.bound), .c (.int .i64 D.left), .c (.int .i64 D.calls)], .o (.row 93 64) (keptA D.kept), .o (.row 95 65) (waitA D.wait), batR L.bs] := fun _ => rfl
      by_cases hw0 : W.1 = 0
      · have hA : appS D L b = (0, W.2, { L with at_ := L.at_ + fs.length, bs := L.bs ++ [b] }) := by unfold appS; rw [if_neg hdn, if_neg hbig, ← hfs, if_neg hroom, ← hms, ← hW, if_neg (by rw [hw0]; decide)]
        rw [hA, hw0]
        simp (maxSteps := 1000000) [hho, hL1, logB, batR, -List.reduceReplicate]
        have eat : IntKind.i64.wrap (L.at_ + (ms.length : Int)) = L.at_ + fs.length := by rw [hml]; exact IntWalk.i64_in _ (by omega)
        refine draw_k hho (.take 0 (.take 1 (.take 2 (.take 3 (.take 4 (.take 5 (.take 6 (.take 7 (.take 8 (.alt 9 (.done) (.nil))))))))))) [0, 5, 6] [(9, [0])] (by decide +kernel) (by simp) ?_
        simp (maxSteps := 1000000) [hho, eat, roOf, holdOf, wrOf, altK, heldOk, Region.binds, -List.reduceReplicate]
        intro _
        refine draw_k hho (.take 0 (.take 1 (.take 2 (.take 3 (.take 4 (.take 5 (.alt 6 (.alt 7 (.alt 8 (.take 9 (.take 10 (.alt 11 (.done) (.nil)))) (.nil)) (.nil)) (.nil)))))))) [0, 5] [(11, [0])] (by decide +kernel) (by simp) ?_
        simp (maxSteps := 1000000) [hho, roOf, holdOf, wrOf, altK, heldOk, Region.binds, -List.reduceReplicate]
        intro E3
        refine call_h [] (clone8_fs b.length (u8av b) (by simp) (by omega) (by simp)) rfl rfl ⟨rfl, rfl⟩ (by simp) (by simp) (by decide) (by simp) (by simp) ?_
        simp (maxSteps := 1000000) [hho, roOf, holdOf, wrOf, altK, heldOk, Region.binds, -List.reduceReplicate]
        refine fun _ _ => ⟨by omega, fun _ => ?_⟩
        refine Ret.wkh (fun E hEo hEl => wk_data 4 L.bs.length 8 (kd := .row 33 1) (cs := batchA L.bs ++ [.sl 8 1 0 b.length b.length]) (l := u8av b) (e := 5) (sz := 1) (n := b.length) (m := b.length) (by rw [hEo]; rfl) (by decide) rfl (by rw [List.getElem?_append_right (by simp)]; simp) rfl (by simp) (by simp) (by simp [maxLen]; omega) (by simp)) ?_
        have est : (batchA L.bs ++ [AV.sl 8 1 0 b.length b.length]).set L.bs.length (.fs 1 b.length (u8av b)) = batchA (L.bs ++ [b]) := by
          have hlj : (batchA L.bs).length = L.bs.length := by simp
          rw [List.set_append_right _ _ (by omega), hlj, Nat.sub_self, batchA_snoc]; rfl
        rw [est]
        refine Ret.sel [0, 1, 2, 3, 4] (fun _ => false) (ho := by rfl) (ha := by rfl) ?_ ?_ (by decide) (by simp) (st_pre 3 [3, 4] _) ⟨rfl, ?_⟩
        · simp
        · simp
        · rfl
      · have hA : appS D L b = (W.1, W.2, { L with down := true }) := by unfold appS; rw [if_neg hdn, if_neg hbig, ← hfs, if_neg hroom, ← hms, ← hW, if_pos hw0]
        rw [hA]
        simp (maxSteps := 1000000) [hho, hw0, hL1, logB, batR, -List.reduceReplicate]
        refine Ret.sel [0, 1, 2, 3, 4] (fun _ => false) (ho := by rfl) (ha := by rfl) ?_ ?_ (by decide) (by simp) (st_pre 3 [3, 4] _) ⟨rfl, ?_⟩
        · simp
        · simp
        · rfl
    · by_cases hb0 : b.length = 0
      · have hc0 : chunkN b = 0 := by unfold chunkN; omega
        simp (maxSteps := 1000000) [hho, hc0, -List.reduceReplicate]
        refine draw_k hho (.take 0 (.take 1 (.take 2 (.take 3 (.take 4 (.take 5 (.take 6 (.take 7 (.take 8 (.take 9 (.alt 10 (.alt 11 (.done) (.nil)) (.nil)))))))))))) [0, 5] [] (by decide +kernel) (by simp) ?_
        simp (maxSteps := 1000000) [hho, roOf, holdOf, wrOf, altK, heldOk, Region.binds, -List.reduceReplicate]
        intro _ _
        refine cut_to () trivial ?_
        have hfe : fs = [⟨L.h.epoch, L.at_, false, []⟩] := by rw [hfs]; unfold framesOf; rw [if_pos hb0]
        refine Wk.trans (wk_cell 10 3 rfl rfl fun G F w v _ h => nil_fs0 1 h) ?_
        refine wk_sel [0, 1, 2, 3, 4, 5, 6, 10] (slotsOf 91 [(1, .fs 1 b.length (u8av b)), (2, .ptr 5 0 1), (6, .ptr 6 0 1)]) hho (by simp [livH, livO, AV.livL, AV.liv, wkL, wkV, List.range', slotsOf]) rfl rfl ?_ ?_ (by decide) ?_ (by simp [hE, logO, devAt, lens]) ?_ ?_
        · simp [isD_fs]
        · simp [slotsOf]
        · exact st_3 hst
        · rfl
        · simp [hL0, logB, batR, hfe, framesA, frameA]
      · have hc0 : ¬ chunkN b = 0 := by unfold chunkN; omega
        simp (maxSteps := 1000000) [hho, hc0, -List.reduceReplicate]
        refine cut_to () trivial ?_
        have hfe : fs = chunkF L b (chunkN b) := by rw [hfs]; unfold framesOf; rw [if_neg hb0]
        refine wk_sel [0, 1, 2, 3, 4, 5, 6, 9] (slotsOf 91 [(1, .fs 1 b.length (u8av b)), (2, .ptr 5 0 1), (6, .ptr 6 0 1)]) hho (by simp [livH, livO, AV.livL, AV.liv, wkL, wkV, List.range', slotsOf]) rfl rfl ?_ ?_ (by decide) ?_ (by simp [hE, logO, devAt, lens]) ?_ ?_
        · simp
        · simp [slotsOf]
        · exact st_3 hst
        · rfl
        · simp [hL0, logB, batR, hfe]
end Go.Proofs.Ytmgpiminicgbiaa
namespace Go.Proofs.Ytmgpiminicgbiaa
set_option linter.unusedVariables false
set_option linter.unusedSimpArgs false
open Go.RowKit
attribute [local simp] isCut_nil isCut_region isCut_seq isCut_block isCut_loop isCut_cond isCut_skip isCut_exit isCut_ret isCut_range swapK putK altK condK_bool pickP_bool stepP stepO onPure_some onPure_none onImpl_some onImpl_none stepC onGP_some onGP_none onGV_some condG mkG onIt_it nextP_ptr takeP_eq takeV_some takeV_none takeU_some takeU_none takeQ takeW_some takeN_none takeN_some takeG_some takeO_some altO_some pureV binV2 eqF eqOp ovlV ovl2 rowAt capV binV intBin strBin isSh shV fldV ixV sliceV slice3V loadAV nilV lenV callV unV convV viewS cellsH loadV fldCut AV.ung AV.ungs AV.gc AV.cells AS.ev AS.put anyS gcsV gcO lens lnO gV guardV retK RetP_eq resV oneV anyRo loIx hiIx implO callP_clo evL gcsL clearV storeAV AS.push AS.setO appV appZ shortS copyV buildV partsV fillV srcV fzO okV isCell_c isCell_ptr isCell_sl isCell_fs isCell_fp isCell_clo rowZ_one rowZ_zero rowZ_2 rowZ_3 rowZ_4 rowZ_5 rowZ_6 rowZ_7 rowZ_8 rowZ_9 rowZ_10 rowZ_11 rowZ_12 noHo Value.oneCell' max2V min2V lookV updV updK updW cvals mkAt basV lenM msAt afterH putBack frzFrom frzO rebO backIx nilEq_sl nilEq_fs nilEq_ifn nilEq_ifh ifOp_eql ifOp_neq isLit nilOp_eql nilOp_neq AV.reb AV.rebL
attribute [local simp ↓] runK_skip runK_region runK_draw runK_seq runK_cut runK_cond runK_block runK_loop runK_exit runK_label runK_goto runK_ret runK_range contK_nil contK_seq contK_seq_ret contK_seq_exit contK_seq_goto contK_block contK_block_ret contK_block_goto contK_block_exit runO_nil runO_cons roundK_exit roundK_ret roundK_goto exitK_ret cutK_ret cutK_exit runE_done runE_nil runE_take runE_alt condG_true condG_false
set_option maxRecDepth 10000
/-! ## Resetting -/
def resS (D : DevS) (L : LogS) (b : List UInt8) : Int × DevS × LogS :=
  if L.down = true then (60, D, L)
  else if 32 < b.length then (2, D, L)
  else if (whS D L ⟨0, 0, -1, b⟩).1 ≠ 0 then ((whS D L ⟨0, 0, -1, b⟩).1, (whS D L ⟨0, 0, -1, b⟩).2.1, { (whS D L ⟨0, 0, -1, b⟩).2.2 with down := decide ((whS D L ⟨0, 0, -1, b⟩).1 ≠ 70) })
  else (0, (whS D L ⟨0, 0, -1, b⟩).2.1, { (whS D L ⟨0, 0, -1, b⟩).2.2 with at_ := 0, bs := [] })
theorem whS_bs (D : DevS) (L : LogS) (h : HeadS) : (whS D L h).2.2.bs = L.bs ∧ (whS D L h).2.2.down = L.down ∧ (whS D L h).2.2.frames = L.frames ∧ (whS D L h).2.2.at_ = L.at_ := by
  unfold whS
  split
  · exact ⟨rfl, rfl, rfl, rfl⟩
  · split
    · exact ⟨rfl, rfl, rfl, rfl⟩
    · split <;> exact ⟨rfl, rfl, rfl, rfl⟩
set_option maxHeartbeats 8000000 in
theorem reset_fs (D : DevS) (hD : D.Ok) (hcl : D.calls ≤ 50000) (hwl : D.wait.length ≤ 50000) (L : LogS) (b : List UInt8) (hb : b.length ≤ maxLen) (h1 : 0 ≤ L.h.n ∧ L.h.n < 9000000000000000000) (h2 : 0 ≤ L.h.epoch ∧ L.h.epoch ≤ 4294967296) :
    ACalls Try.prog 12 [.ptr 0 0 9, .fs 1 b.length (u8av b)] (logO D L) (fun k => decide (k < 3)) (fun r h' => r = .c (.int .i64 (resS D L b).1) ∧ h' = logO (resS D L b).2.1 (resS D L b).2.2) := by
  refine acalls mixed Try.func12 rfl Try.ntmps12 rfl fun E hE hst hho => ?_
  simp (maxSteps := 1000000) [logO, logB, batR, devAt, hho, -List.reduceReplicate]
  refine call_x [0, 1, 2, 3, 4] (up_log D L) rfl rfl ⟨rfl, rfl⟩ hho (by simp) (by decide) (by simp) (by simp [logO, devAt]) ?_
  by_cases hdn : L.down = true
  · have hA : resS D L b = (60, D, L) := by unfold resS; rw [if_pos hdn]
    rw [hA]
    simp (maxSteps := 1000000) [hho, hdn, logO, logB, batR, devAt, -List.reduceReplicate]
    refine Ret.sel [0, 1, 2, 3, 4] (fun _ => false) (ho := by rfl) (ha := by rfl) ?_ ?_ (by decide) (by simp) (st_pre 3 [3, 4] _) ⟨rfl, ?_⟩
    · simp
    · simp
    · simp [hdn]
  have hdn' : L.down = false := by simpa using hdn
  by_cases hbig : 32 < b.length
  · have hA : resS D L b = (2, D, L) := by unfold resS; rw [if_neg hdn, if_pos hbig]
    have hbi : (32 : Int) < b.length := by omega
    rw [hA]
    simp (maxSteps := 1000000) [hho, hdn', hbig, hbi, logO, logB, batR, devAt, -List.reduceReplicate]
    refine Ret.sel [0, 1, 2, 3, 4] (fun _ => false) (ho := by rfl) (ha := by rfl) ?_ ?_ (by decide) (by simp) (st_pre 3 [3, 4] _) ⟨rfl, ?_⟩
    · simp
    · simp
    · simp [hdn']
  have hbi : ¬ (32 : Int) < b.length := by omega
  have hL1 : ∀ (D : DevS) (L : LogS), logO D L = [logB L 1 4, .o .box [.sl 2 64 0 D.kept.length (D.kept.length * 64), .sl 3 65 0 D.wait.length (D.wait.length * 65), .c (.bool D.bound), .c (.int .i64 D.left), .c (.int .i64 D.calls)], .o (.row 93 64) (keptA D.kept), .o (.row 95 65) (waitA D.wait), batR L.bs] := fun _ _ => rfl
  simp (maxSteps := 1000000) [hho, hdn', hbig, hbi, hL1, logB, batR, -List.reduceReplicate]
  refine call_x [] (clone8_fs b.length (u8av b) (by simp) (by omega) (by simp)) rfl rfl ⟨rfl, rfl⟩ hho (by simp) (by decide) (by simp) (by simp) ?_
  simp (maxSteps := 1000000) [hho, -List.reduceReplicate]
  have hwh := writeHead_ok D hD (by omega) (by omega) L ⟨0, 0, -1, b⟩ (by simp only; omega) h1 h2
  obtain ⟨W, hW⟩ : ∃ W, W = whS D L ⟨0, 0, -1, b⟩ := ⟨_, rfl⟩
  rw [← hW] at hwh
  have hk := whS_bs D L ⟨0, 0, -1, b⟩
  rw [← hW] at hk
  obtain ⟨hk1, hk2, hk3, hk4⟩ := hk
  refine call_d [0, 1, 2, 3, 4] (fun k => k == 5) [3, 4] hwh rfl rfl ⟨?_, ?_⟩ hho ?_ (by simp [livH, livO, AV.livL, AV.liv, wkL, wkV, List.range']) (by simp [livH, livO, AV.livL, AV.liv, wkL, wkV, List.range', batchA_liv]) (by simp [hst]) (by decide) (by decide) ?_ (by simp [logO, devAt]) ?_
  · simp [headA]
  · simp [hL1, logB, batR, hdn']
  · intro i q h
    match i, h with
    | 0, _ => exact .inl rfl
    | 1, _ => exact .inl rfl
    | 2, _ => exact .inl rfl
    | 3, h => simp at h; exact .inr (by simp [h])
    | 4, h => simp at h; exact .inr (by simp [h])
    | i + 5, h => simp at h
  · simp [maxLen]; omega
  by_cases hw0 : W.1 = 0
  · have hA : resS D L b = (0, W.2.1, { W.2.2 with at_ := 0, bs := [] }) := by unfold resS; rw [if_neg hdn, if_neg hbig, ← hW, if_neg (by rw [hw0]; decide)]
    rw [hA, hw0]
    simp (maxSteps := 1000000) [hho, hL1, logB, batR, -List.reduceReplicate]
    refine Ret.wk (fun E hE => wk_virtC 0 7 33 1 rfl rfl) ?_
    refine Ret.sel [0, 1, 2, 3, 6] (fun _ => false) (ho := by rfl) (ha := by rfl) ?_ ?_ (by decide) (by simp) (st_pre 3 [3, 6] _) ⟨rfl, ?_⟩
    · simp
    · simp
    · simp [batchA]
  · have hA : resS D L b = (W.1, W.2.1, { W.2.2 with down := decide (W.1 ≠ 70) }) := by unfold resS; rw [if_neg hdn, if_neg hbig, ← hW, if_pos hw0]
    rw [hA]
    simp (maxSteps := 1000000) [hho, hw0, hL1, logB, batR, hk2, hdn', -List.reduceReplicate]
    refine Ret.sel [0, 1, 2, 3, 4] (fun _ => false) (ho := by rfl) (ha := by rfl) ?_ ?_ (by decide) (by simp) (st_pre 3 [3, 4] _) ⟨rfl, ?_⟩
    · simp
    · simp
    · simp
end Go.Proofs.Ytmgpiminicgbiaa
namespace Go.Proofs.Ytmgpiminicgbiaa
set_option linter.unusedVariables false
set_option linter.unusedSimpArgs false
open Go.RowKit
/-! ## The states of law 7's first -/
def okB (D : DevS) : Bool := D.wait.all (fun x => decide (x.1 < D.kept.length)) && decide (1 ≤ D.kept.length) && decide (D.kept.length ≤ 65536) && decide (0 ≤ D.left) && decide (D.left ≤ 9223372036854775807) && decide (0 ≤ D.calls) && decide (D.calls ≤ 1000) && decide (D.wait.length ≤ 1000)
theorem okB_ok {D : DevS} (h : okB D = true) : D.Ok ∧ D.calls ≤ 1000 ∧ D.wait.length ≤ 1000 := by
  simp only [okB, Bool.and_eq_true, decide_eq_true_eq, List.all_eq_true] at h
  obtain ⟨⟨⟨⟨⟨⟨⟨a, b⟩, c⟩, d⟩, e⟩, f⟩, g⟩, i⟩ := h
  exact ⟨⟨fun x hx => a x hx, b, c, d, e, f, by omega, by omega⟩, g, i⟩
def fW1 : Int × DevS × LogS := openS (newS 12) 10
def fW2 : Int × DevS × LogS := appS fW1.2.1 fW1.2.2 [97]
def fD3 : DevS := { fW2.2.1 with bound := true, left := max 3 0 }
def fW4 : Int × DevS × LogS := appS fD3 fW2.2.2 (List.replicate 100 0)
def fD5 : DevS := crashS [64, 0, 64] fW4.2.1
def fW6 : Int × DevS × LogS := openS fD5 10
def fW7 : Int × DevS × LogS := resS fW6.2.1 fW6.2.2 [104, 101, 97, 100]
theorem f1 : fW1.1 = 0 ∧ okB fW1.2.1 = true ∧ fW1.2.2.frames = 10 ∧ fW1.2.2.at_ = 0 ∧ fW1.2.2.bs = [] := by decide +kernel
theorem f2 : fW2.1 = 0 ∧ okB fW2.2.1 = true ∧ roomL fW2.2.2 = 9 ∧ fW2.2.2.frames = 10 ∧ fW2.2.2.at_ = 1 ∧ fW2.2.2.bs.length = 1 := by decide +kernel
theorem f3 : okB fD3 = true := by decide +kernel
theorem f4 : fW4.1 = 60 ∧ okB fW4.2.1 = true := by decide +kernel
theorem f5 : okB fD5 = true := by decide +kernel
theorem f6 : fW6.1 = 0 ∧ okB fW6.2.1 = true ∧ fW6.2.2.bs = [[97]] ∧ fW6.2.2.h.n = 2 ∧ fW6.2.2.h.epoch = 2 := by decide +kernel
theorem f7 : fW7.1 = 0 ∧ okB fW7.2.1 = true ∧ fW7.2.2.bs = [] ∧ fW7.2.2.h.body = [104, 101, 97, 100] ∧ roomL fW7.2.2 = 10 ∧ fW7.2.2.h.epoch = 3 ∧ fW7.2.2.frames = 10 ∧ fW7.2.2.at_ = 0 := by decide +kernel
end Go.Proofs.Ytmgpiminicgbiaa
namespace Go.Proofs.Ytmgpiminicgbiaa
set_option linter.unusedVariables false
set_option linter.unusedSimpArgs false
open Go.RowKit
attribute [local simp] isCut_nil isCut_region isCut_seq isCut_block isCut_loop isCut_cond isCut_skip isCut_exit isCut_ret isCut_range swapK putK altK condK_bool pickP_bool stepP stepO onPure_some onPure_none onImpl_some onImpl_none stepC onGP_some onGP_none onGV_some condG mkG onIt_it nextP_ptr takeP_eq takeV_some takeV_none takeU_some takeU_none takeQ takeW_some takeN_none takeN_some takeG_some takeO_some altO_some pureV binV2 eqF eqOp ovlV ovl2 rowAt capV binV intBin strBin isSh shV fldV ixV sliceV slice3V loadAV nilV lenV callV unV convV viewS cellsH loadV fldCut AV.ung AV.ungs AV.gc AV.cells AS.ev AS.put anyS gcsV gcO lens lnO gV guardV retK RetP_eq resV oneV anyRo loIx hiIx implO callP_clo evL gcsL clearV storeAV AS.push AS.setO appV appZ shortS copyV buildV partsV fillV srcV fzO okV isCell_c isCell_ptr isCell_sl isCell_fs isCell_fp isCell_clo rowZ_one rowZ_zero rowZ_2 rowZ_3 rowZ_4 rowZ_5 rowZ_6 rowZ_7 rowZ_8 rowZ_9 rowZ_10 rowZ_11 rowZ_12 noHo Value.oneCell' max2V min2V lookV updV updK updW cvals mkAt basV lenM msAt afterH putBack frzFrom frzO rebO backIx nilEq_sl nilEq_fs nilEq_ifn nilEq_ifh ifOp_eql ifOp_neq isLit nilOp_eql nilOp_neq AV.reb AV.rebL
attribute [local simp ↓] runK_skip runK_region runK_draw runK_seq runK_cut runK_cond runK_block runK_loop runK_exit runK_label runK_goto runK_ret runK_range contK_nil contK_seq contK_seq_ret contK_seq_exit contK_seq_goto contK_block contK_block_ret contK_block_goto contK_block_exit runO_nil runO_cons roundK_exit roundK_ret roundK_goto exitK_ret cutK_ret cutK_exit runE_done runE_nil runE_take runE_alt condG_true condG_false
set_option maxRecDepth 10000
theorem open_is (D : DevS) (hD : D.Ok) (hcl : D.calls ≤ 100000) (hwl : D.wait.length ≤ 100000) (n : Nat) (h1 : 1 ≤ n) (h2 : (n : Int) ≤ D.kept.length - 2) (W : Int × DevS × LogS) (hW : openS D n = W) (h0 : W.1 = 0) :
    ACalls Try.prog 9 [.ptr 0 0 5, .c (.int .i64 n)] (devO D) (fun k => decide (k < 2)) (fun r h' => r = .tup [.ptr 3 0 9, .c (.int .i64 0)] ∧ h' = dlO W.2.1 W.2.2) := by
  refine open_dev D hD hcl hwl n h1 h2 _ ⟨fun _ => ⟨rfl, by rw [hW]⟩, fun h => ?_⟩
  rw [hW] at h
  exact absurd h0 h
theorem st_log3 : ∀ (a b c d e : Nat) (i q : Nat), ([a, b, c, d, e] : List Nat)[i]? = some q → decide (i < 3) = true ∨ q ∈ [d, e] := by
  intro a b c d e i q h
  match i, h with
  | 0, _ => exact .inl rfl
  | 1, _ => exact .inl rfl
  | 2, _ => exact .inl rfl
  | 3, h => simp at h; exact .inr (by simp [h])
  | 4, h => simp at h; exact .inr (by simp [h])
  | i + 5, h => simp at h
theorem st_dev2 : ∀ (a b c : Nat) (i q : Nat), ([a, b, c] : List Nat)[i]? = some q → decide (i < 2) = true ∨ q ∈ [c] := by
  intro a b c i q h
  match i, h with
  | 0, _ => exact .inl rfl
  | 1, _ => exact .inl rfl
  | 2, h => simp at h; exact .inr (by simp [h])
  | i + 3, h => simp at h
set_option maxHeartbeats 8000000 in
theorem first_log : ACalls Try.prog 7 [] [] (fun _ => false) (fun r h' => r = .c (.bool true) ∧ h' = []) := by
  obtain ⟨a1, a2, a3, a4, a5⟩ := f1
  obtain ⟨b1, b2, b3, b4, b5, b6⟩ := f2
  have c1 := f3
  obtain ⟨d1, d2⟩ := f4
  have e1 := f5
  obtain ⟨g1, g2, g3, g4, g5⟩ := f6
  obtain ⟨k1, k2, k3, k4, k5, k6, k7, k8⟩ := f7
  obtain ⟨a2, a2', a2''⟩ := okB_ok a2
  obtain ⟨b2, b2', b2''⟩ := okB_ok b2
  obtain ⟨c1, c1', c1''⟩ := okB_ok c1
  obtain ⟨d2, d2', d2''⟩ := okB_ok d2
  obtain ⟨e1, e1', e1''⟩ := okB_ok e1
  obtain ⟨g2, g2', g2''⟩ := okB_ok g2
  obtain ⟨k2, k2', k2''⟩ := okB_ok k2
  refine acalls mixed Try.func7 rfl Try.ntmps7 rfl fun E hE hst hho => ?_
  simp (maxSteps := 1000000) [hho, -List.reduceReplicate]
  refine call_x [] (new_ok 12 (by decide) (by decide)) rfl rfl ⟨rfl, rfl⟩ hho (by simp) (by decide) (by simp) (by simp) ?_
  rw [show (12 : Int).toNat = 12 from rfl]
  simp (maxSteps := 1000000) [hho, devO, -List.reduceReplicate]
  refine call_d [0, 1, 2] (fun _ => false) [2] (open_is (newS 12) (newS_ok 12 (by decide) (by decide)) (by decide) (by decide) 10 (by decide) (by decide) fW1 rfl a1) rfl rfl ⟨rfl, rfl⟩ hho (st_dev2 0 1 2) (by simp [livH, livO, AV.livL, AV.liv, wkL, wkV, List.range']) (by simp [livH, livO, AV.livL, AV.liv, wkL, wkV, List.range']) (by simp [hst]) (by decide) (by decide) (by simp) (by simp [dlO, devO]) ?_
  simp (maxSteps := 1000000) [hho, dlO, devO, logB, batR, -List.reduceReplicate]
  have wh := fun (l : List Nat) (q : Prop) => q
  refine call_d [3, 0, 1, 2, 4] (fun _ => false) [2, 4] (append_fs fW1.2.1 a2 (by omega) (by omega) fW1.2.2 [97] (by decide) (by omega) (by omega) (by rw [a5]; decide)) rfl rfl ⟨rfl, rfl⟩ hho (st_log3 3 0 1 2 4) (by simp [livH, livO, AV.livL, AV.liv, wkL, wkV, List.range']) (by simp [livH, livO, AV.livL, AV.liv, wkL, wkV, List.range']) (by simp [hst]) (by decide) (by decide) (by simp) (by simp [logO, devAt]) ?_
  have eW2 : appS fW1.2.1 fW1.2.2 [97] = fW2 := rfl
  rw [eW2, b1]
  simp (maxSteps := 1000000) [hho, logO, devAt, logB, batR, -List.reduceReplicate]
  refine call_x [3, 0, 1, 2, 4] (room_log fW2.2.1 fW2.2.2 (by omega) (by omega)) rfl rfl ⟨rfl, rfl⟩ hho (by simp) (by decide) (by simp) (by simp [logO, devAt]) ?_
  rw [b3]
  simp (maxSteps := 1000000) [hho, logO, devAt, logB, batR, -List.reduceReplicate]
  refine call_x [0, 1, 2] (limit_dev fW2.2.1 3) rfl rfl ⟨rfl, rfl⟩ hho (by simp) (by decide) (by simp) (by simp [devO]) ?_
  have eD3 : ({ fW2.2.1 with bound := true, left := max 3 0 } : DevS) = fD3 := rfl
  rw [eD3]
  simp (maxSteps := 1000000) [hho, devO, -List.reduceReplicate]
  have hz : rowZ 100 [Value.int IntKind.u8 0] = u8av (List.replicate 100 0) := rfl
  rw [hz]
  refine call_d [3, 0, 1, 2, 4] (fun k => k == 6) [2, 4] (append_fs fD3 c1 (by omega) (by omega) fW2.2.2 (List.replicate 100 0) (by decide) (by omega) (by omega) (by omega)) rfl rfl ⟨rfl, rfl⟩ hho (st_log3 3 0 1 2 4) (by simp [livH, livO, AV.livL, AV.liv, wkL, wkV, List.range', -List.reduceReplicate]) (by simp [livH, livO, AV.livL, AV.liv, wkL, wkV, List.range', -List.reduceReplicate]) (by simp [hst]) (by decide) (by decide) (by simp [maxLen, -List.reduceReplicate]) (by simp [logO, devAt]) ?_
  have eW4 : appS fD3 fW2.2.2 (List.replicate 100 0) = fW4 := rfl
  rw [eW4, d1]
  simp (maxSteps := 1000000) [hho, logO, devAt, logB, batR, -List.reduceReplicate]
  refine call_d [0, 1, 2] (fun k => k == 7) [2] (crash_dev fW4.2.1 d2 [64, 0, 64]) rfl rfl ⟨rfl, rfl⟩ hho (st_dev2 0 1 2) (by simp [livH, livO, AV.livL, AV.liv, wkL, wkV, List.range']) (by simp [livH, livO, AV.livL, AV.liv, wkL, wkV, List.range', batchA_liv]) (by simp [hst]) (by decide) (by decide) (by simp [isD_c, maxLen]) (by simp [devO]) ?_
  have hk5 : fD5.kept.length = 12 := by decide +kernel
  have eD5 : crashS [64, 0, 64] fW4.2.1 = fD5 := rfl
  rw [eD5]
  simp (maxSteps := 1000000) [hho, devO, -List.reduceReplicate]
  refine call_d [0, 1, 2] (fun _ => false) [2] (open_is fD5 e1 (by omega) (by omega) 10 (by decide) (by rw [hk5]; decide) fW6 rfl g1) rfl rfl ⟨rfl, rfl⟩ hho (st_dev2 0 1 2) (by simp [livH, livO, AV.livL, AV.liv, wkL, wkV, List.range']) (by simp [livH, livO, AV.livL, AV.liv, wkL, wkV, List.range', batchA_liv]) (by simp [hst]) (by decide) (by decide) (by simp) (by simp [dlO, devO]) ?_
  simp (maxSteps := 1000000) [hho, dlO, devO, logB, batR, -List.reduceReplicate]
  refine call_x [8, 0, 1, 2, 9] (batches_log fW6.2.1 fW6.2.2 (by rw [g3]; decide) (by rw [g3]; decide)) rfl rfl ⟨rfl, rfl⟩ hho (by simp) (by decide) (by simp) (by simp [logO, devAt]) ?_
  rw [g3]
  simp (maxSteps := 1000000) [hho, logO, devAt, logB, batR, -List.reduceReplicate]
  have hgn : 0 ≤ fW6.2.2.h.n ∧ fW6.2.2.h.n < 9000000000000000000 := by rw [g4]; decide
  have hge : 0 ≤ fW6.2.2.h.epoch ∧ fW6.2.2.h.epoch ≤ 4294967296 := by rw [g5]; decide
  refine call_d [8, 0, 1, 2, 9] (fun _ => false) [2, 9] (reset_fs fW6.2.1 g2 (by omega) (by omega) fW6.2.2 [104, 101, 97, 100] (by decide) hgn hge) rfl rfl ⟨rfl, rfl⟩ hho (st_log3 8 0 1 2 9) (by simp [livH, livO, AV.livL, AV.liv, wkL, wkV, List.range']) (by simp [livH, livO, AV.livL, AV.liv, wkL, wkV, List.range', batchA_liv, -List.reduceReplicate]) (by simp [hst]) (by decide) (by decide) (by simp) (by simp [logO, devAt]) ?_
  have eW7 : resS fW6.2.1 fW6.2.2 [104, 101, 97, 100] = fW7 := rfl
  rw [eW7, k1]
  have eba : batchA [[97]] = [.fs 1 1 (u8av [97])] := rfl
  have ey1 : bytesOf (u8av [97]) = ⟨#[97]⟩ := by rw [bytesOf_u8]
  have ey2 : bytesOf (u8av [104, 101, 97, 100]) = ⟨#[104, 101, 97, 100]⟩ := by rw [bytesOf_u8]
  have hu1 : ∀ x ∈ u8av [97], isU8 x = true := isU8_all _
  have hu2 : ∀ x ∈ u8av [104, 101, 97, 100], isU8 x = true := isU8_all _
  simp (maxSteps := 1000000) [hho, logO, devAt, logB, batR, eba, ey1, -List.reduceReplicate]
  refine ⟨hu1, ?_⟩
  refine call_x [8, 0, 1, 2, 9] (head_log fW7.2.1 fW7.2.2 (by rw [k4]; decide)) rfl rfl ⟨rfl, rfl⟩ hho (by simp) (by decide) (by simp) (by simp [logO, devAt]) ?_
  rw [k4]
  simp (maxSteps := 1000000) [hho, logO, devAt, logB, batR, ey2, -List.reduceReplicate]
  refine ⟨hu2, ?_⟩
  refine call_x [8, 0, 1, 2, 9] (batches_log fW7.2.1 fW7.2.2 (by rw [k3]; simp) (by rw [k3]; decide)) rfl rfl ⟨rfl, rfl⟩ hho (by simp) (by decide) (by simp) (by simp [logO, devAt]) ?_
  rw [k3]
  simp (maxSteps := 1000000) [hho, logO, devAt, logB, batR, -List.reduceReplicate]
  refine call_x [8, 0, 1, 2, 9] (room_log fW7.2.1 fW7.2.2 (by omega) (by omega)) rfl rfl ⟨rfl, rfl⟩ hho (by simp) (by decide) (by simp) (by simp [logO, devAt]) ?_
  rw [k5]
  simp (maxSteps := 1000000) [hho, logO, devAt, logB, batR, -List.reduceReplicate]
  refine call_x [8, 0, 1, 2, 9] (epoch_log fW7.2.1 fW7.2.2) rfl rfl ⟨rfl, rfl⟩ hho (by simp) (by decide) (by simp) (by simp [logO, devAt]) ?_
  rw [k6]
  simp (maxSteps := 1000000) [hho, logO, devAt, logB, batR, -List.reduceReplicate]
  exact Ret.drop (by decide) ⟨rfl, rfl⟩
end Go.Proofs.Ytmgpiminicgbiaa
namespace Go.Proofs.Ytmgpiminicgbiaa
set_option linter.unusedVariables false
set_option linter.unusedSimpArgs false
open Go.RowKit
/-! ## A device without a bound -/
structure Free (n c : Nat) (D : DevS) : Prop where
  ok : D.Ok
  bd : D.bound = false
  kn : D.kept.length = n + 2
  cc : D.calls ≤ c
  wl : D.wait.length ≤ c
theorem Free.chk {n c : Nat} {D : DevS} (h : Free n c D) (i : Int) (hi : 0 ≤ i ∧ i < n + 2) (m : Nat) (hm : m ≤ 64) : checkS D i m = 0 := by
  unfold checkS
  rw [if_neg (by rw [h.kn]; omega), if_neg (by rw [h.bd]; simp)]
theorem Free.write {n c : Nat} {D : DevS} (h : Free n c D) (hc : c ≤ 50000) (i : Int) (hi : 0 ≤ i ∧ i < n + 2) (l : List UInt8) (hl : l.length ≤ 64) : Free n (c + 1) (writeS D i l) := by
  have h1 := h.cc; have h2 := h.wl
  have hch := h.chk i hi _ hl
  refine ⟨write_Ok h.ok (by omega) (by omega), ?_, by rw [writeS_kept]; exact h.kn, ?_, ?_⟩
  · unfold writeS; rw [if_pos hch]; exact h.bd
  · unfold writeS; rw [if_pos hch]; simp only [countS]; omega
  · unfold writeS; rw [if_pos hch]; simp [countS]; omega
theorem Free.flush {n c : Nat} {D : DevS} (h : Free n c D) (hc : c ≤ 50000) : Free n (c + 1) (flushS D) := by
  have h1 := h.cc; have h2 := h.wl; have h0 := h.ok.c1
  have hch := h.chk 0 (by omega) 0 (by decide)
  unfold flushS; rw [if_pos hch]
  have hk := h.kn; have hk2 := h.ok.k2; have hb := h.bd
  exact ⟨⟨by simp [countS], by simp [countS, hk], by simp [countS]; omega, by simp only [countS, hb]; exact h.ok.l1, by simp only [countS, hb]; exact h.ok.l2, by simp only [countS]; omega, by simp only [countS]; omega, by simp [countS]⟩, h.bd, by simp [countS, hk], by simp only [countS]; omega, by simp [countS]⟩
theorem Free.lay {n : Nat} : ∀ (fs : List FrameS) (c : Nat) (D : DevS), Free n c D → c + fs.length ≤ 40000 → (∀ f ∈ fs, 0 ≤ f.k ∧ f.k < n) → (layS D fs).1 = 0 ∧ Free n (c + fs.length + 1) (layS D fs).2 := by
  intro fs
  induction fs with
  | nil =>
    intro c D h hc _
    have := h.chk 0 (by omega) 0 (by decide)
    exact ⟨this, h.flush (by simp at hc; omega)⟩
  | cons f r ih =>
    intro c D h hc hf
    obtain ⟨f1, f2⟩ := hf f (by simp)
    simp only [List.length_cons] at hc
    simp only [layS]
    rw [if_neg (by rw [h.chk (2 + f.k) (by omega) 64 (by decide)]; decide)]
    have hw := h.write (by omega) (2 + f.k) (by omega) (frameL f) (by rw [frameL_length]; decide)
    obtain ⟨a, b⟩ := ih (c + 1) _ hw (by omega) fun g hg => hf g (List.mem_cons_of_mem _ hg)
    refine ⟨a, ?_⟩
    have e : c + (f :: r).length + 1 = c + 1 + r.length + 1 := by simp; omega
    rw [e]; exact b
/-- what is known of the log in LogRooms -/
structure RmOk (n c : Nat) (D : DevS) (L : LogS) : Prop where
  d : Free n c D
  fr : L.frames = n
  a0 : 0 ≤ L.at_
  a1 : L.at_ ≤ n
  dn : L.down = false
  bl : L.bs.length ≤ c
  bb : ∀ b ∈ L.bs, b.length ≤ 700
  h1 : L.h.n = 1
  h2 : L.h.epoch = 1
def need (k : Nat) : Nat := max 1 ((k + 45) / 46)
theorem need_len (L : LogS) (b : List UInt8) : (framesOf L b).length = need b.length := by
  unfold framesOf need
  split
  · rename_i h; rw [h]; rfl
  · simp [chunkN]; omega
theorem RmOk.app {n c : Nat} {D : DevS} {L : LogS} (h : RmOk n c D L) (hn : n ≤ 60) (hc : c ≤ 10000) (b : List UInt8) (hb : b.length < 700) :
    (need b.length ≤ n - L.at_ → (appS D L b).1 = 0 ∧ (appS D L b).2.2.at_ = L.at_ + need b.length ∧ (appS D L b).2.2.bs.length = L.bs.length + 1 ∧ RmOk n (c + 20) (appS D L b).2.1 (appS D L b).2.2) ∧ (¬ (need b.length : Int) ≤ n - L.at_ → appS D L b = (70, D, L)) := by
  have hdn : ¬ L.down = true := by rw [h.dn]; decide
  have hrm : roomL L = n - L.at_ := by unfold roomL; rw [if_neg hdn, h.fr]
  have hnl := need_len L b
  have hnb : need b.length ≤ 16 := by unfold need; omega
  have hn1 : 1 ≤ need b.length := by unfold need; omega
  have ha0 := h.a0; have ha1 := h.a1
  constructor
  · intro hr
    have hks : ∀ f ∈ markL (framesOf L b), 0 ≤ f.k ∧ f.k < n := by
      intro f hf
      obtain ⟨g, hg, e1, _⟩ := markL_mem _ f hf
      rw [e1]
      unfold framesOf at hg hnl
      split at hg
      · rename_i h0
        rw [if_pos h0] at hnl
        simp only [List.mem_singleton] at hg; subst hg
        simp only [List.length_singleton] at hnl
        exact ⟨ha0, by simp only; omega⟩
      · rename_i h0
        rw [if_neg h0] at hnl
        rw [chunkF_length] at hnl
        simp only [chunkF, List.mem_map, List.mem_range] at hg
        obtain ⟨j, hj, rfl⟩ := hg
        exact ⟨by simp only; omega, by simp only; omega⟩
    obtain ⟨l1, l2⟩ := Free.lay (markL (framesOf L b)) c D h.d (by rw [markL_length, hnl]; omega) hks
    have hA : appS D L b = (0, (layS D (markL (framesOf L b))).2, { L with at_ := L.at_ + (framesOf L b).length, bs := L.bs ++ [b] }) := by
      unfold appS; rw [if_neg hdn, if_neg (by omega), if_neg (by rw [hrm, hnl]; omega), if_neg (by rw [l1]; decide)]
    rw [hA]
    rw [markL_length, hnl] at l2
    refine ⟨rfl, by simp only; rw [hnl], by simp, ⟨⟨l2.ok, l2.bd, l2.kn, by have := l2.cc; simp only; omega, by have := l2.wl; simp only; omega⟩, h.fr, by simp only; omega, by simp only; rw [hnl]; omega, h.dn, by have := h.bl; simp; omega, ?_, h.h1, h.h2⟩⟩
    intro x hx
    simp only [List.mem_append, List.mem_singleton] at hx
    rcases hx with hx | rfl
    · exact h.bb x hx
    · omega
  · intro hr
    unfold appS; rw [if_neg hdn, if_neg (by omega), if_pos (by rw [hrm, hnl]; omega)]
def roomsB (n : Nat) : Bool := let W := openS (newS (n + 2)) n
  decide (W.1 = 0) && okB W.2.1 && !W.2.1.bound && decide (W.2.1.kept.length = n + 2) && decide (W.2.1.calls ≤ 10) && decide (W.2.1.wait.length ≤ 10) && decide (W.2.2.frames = n) && decide (W.2.2.at_ = 0) && !W.2.2.down && W.2.2.bs.isEmpty && decide (W.2.2.h.n = 1) && decide (W.2.2.h.epoch = 1)
theorem roomsB_all : ∀ n : _root_.Fin 60, roomsB (n.1 + 1) = true := by decide +kernel
theorem rooms_start (n : Nat) (h1 : 1 ≤ n) (h2 : n ≤ 60) : (openS (newS (n + 2)) n).1 = 0 ∧ RmOk n 10 (openS (newS (n + 2)) n).2.1 (openS (newS (n + 2)) n).2.2 ∧ (openS (newS (n + 2)) n).2.2.at_ = 0 ∧ (openS (newS (n + 2)) n).2.2.bs.length = 0 := by
  have h := roomsB_all ⟨n - 1, by omega⟩
  simp only at h
  rw [Nat.sub_add_cancel h1] at h
  simp only [roomsB, Bool.and_eq_true, decide_eq_true_eq, Bool.not_eq_true', List.isEmpty_iff] at h
  obtain ⟨⟨⟨⟨⟨⟨⟨⟨⟨⟨⟨a, b⟩, c⟩, d⟩, e⟩, f⟩, g⟩, i⟩, j⟩, k⟩, l⟩, m⟩ := h
  obtain ⟨b1, _, _⟩ := okB_ok b
  exact ⟨a, ⟨⟨b1, c, d, by omega, f⟩, g, by omega, by omega, j, by rw [k]; simp, by rw [k]; simp, l, m⟩, i, by rw [k]; rfl⟩
end Go.Proofs.Ytmgpiminicgbiaa
