import Derived.Test.YtmgpiminicgbiaaP7f
namespace Go.Proofs.Ytmgpiminicgbiaa
set_option linter.unusedVariables false
set_option linter.unusedSimpArgs false
open Go.RowKit
attribute [local simp] isCut_nil isCut_region isCut_seq isCut_block isCut_loop isCut_cond isCut_skip isCut_exit isCut_ret isCut_range swapK putK altK condK_bool pickP_bool stepP stepO onPure_some onPure_none onImpl_some onImpl_none stepC onGP_some onGP_none onGV_some condG mkG onIt_it nextP_ptr takeP_eq takeV_some takeV_none takeU_some takeU_none takeQ takeW_some takeN_none takeN_some takeG_some takeO_some altO_some pureV binV2 eqF eqOp ovlV ovl2 rowAt capV binV intBin strBin isSh shV fldV ixV sliceV slice3V loadAV nilV lenV callV unV convV viewS cellsH loadV fldCut AV.ung AV.ungs AV.gc AV.cells AS.ev AS.put anyS gcsV gcO lens lnO gV guardV retK RetP_eq resV oneV anyRo loIx hiIx implO callP_clo evL gcsL clearV storeAV AS.push AS.setO appV appZ shortS copyV buildV partsV fillV srcV fzO okV isCell_c isCell_ptr isCell_sl isCell_fs isCell_fp isCell_clo rowZ_one rowZ_zero rowZ_2 rowZ_3 rowZ_4 rowZ_5 rowZ_6 rowZ_7 rowZ_8 rowZ_9 rowZ_10 rowZ_11 rowZ_12 noHo Value.oneCell' max2V min2V lookV updV updK updW cvals mkAt basV lenM msAt afterH putBack frzFrom frzO rebO backIx nilEq_sl nilEq_fs nilEq_ifn nilEq_ifh ifOp_eql ifOp_neq isLit nilOp_eql nilOp_neq AV.reb AV.rebL
attribute [local simp ↓] runK_skip runK_region runK_draw runK_seq runK_cut runK_cond runK_block runK_loop runK_exit runK_label runK_goto runK_ret runK_range contK_nil contK_seq contK_seq_ret contK_seq_exit contK_seq_goto contK_block contK_block_ret contK_block_goto contK_block_exit runO_nil runO_cons roundK_exit roundK_ret roundK_goto exitK_ret cutK_ret cutK_exit runE_done runE_nil runE_take runE_alt condG_true condG_false
set_option maxRecDepth 10000
/-! ## The reference's Open, walked -/
/-- the reference's device with a log on it -/
def dlR (D : DevS) (L : LogS) : List AObj := refO D ++ [rlogB L 0 4, rstR L.bs]
theorem open7_arg (D : DevS) (hD : D.Ok) (i : Int) (h : i < 1 ∨ (D.kept.length : Int) - 2 < i) : ACalls Try.prog 22 [.ptr 0 0 4, .c (.int .i64 i)] (refO D) (fun _ => true) (fun r h' => r = .tup [.c (.pointer none), .c (.int .i64 2)] ∧ h' = refO D) := by
  refine acalls mixed Try.func22 rfl Try.ntmps22 rfl fun E hE hst hho => ?_
  have e2 : IntKind.i64.wrap ((D.kept.length : Int) - 2) = D.kept.length - 2 := IntWalk.i64_in _ (by have := hD.k2; omega)
  by_cases hi : i < 1
  · have hi' : ¬ 1 ≤ i := by omega
    simp (maxSteps := 1000000) [hho, noHo, refO, hi, hi', undef, onGP_none, condG_false, -List.reduceReplicate]
    exact Ret.same ⟨rfl, rfl⟩
  · have hi2 : (D.kept.length : Int) - 2 < i := by omega
    have hi1 : 1 ≤ i := by omega
    simp (maxSteps := 1000000) [hho, noHo, refO, hi, hi1, e2, hi2, -List.reduceReplicate]
    exact Ret.same ⟨rfl, rfl⟩
theorem emp_eq : (⟨#[]⟩ : ByteArray) = ByteArray.empty := rfl
theorem str_nil : str [] = ByteArray.empty := rfl
theorem read7 (D : DevS) (hD : D.Ok) (i : Nat) (hc : checkS D i 0 = 0) : ACalls Try.prog 31 [.ptr 0 0 4, .c (.int .i64 (i : Int))] (refO D) (fun k => decide (k < 3)) (fun r h' => r = .tup [.c (.string (str (secL D i))), .c (.int .i64 0)] ∧ h' = refO D) := by
  have := r6read_ref D hD i
  rw [hc, if_pos rfl] at this
  exact this
theorem read7e (D : DevS) (hD : D.Ok) (hc : checkS D 0 0 ≠ 0) : ACalls Try.prog 31 [.ptr 0 0 4, .c (.int .i64 0)] (refO D) (fun k => decide (k < 3)) (fun r h' => r = .tup [.c (.string ByteArray.empty), .c (.int .i64 (checkS D 0 0))] ∧ h' = refO D) := by
  have := r6read_ref D hD 0
  rw [if_neg hc] at this
  exact this
theorem heads_base (D : DevS) (h : HeadS) (hh : h.base ≤ h.epoch) : ∀ i, (headsTo D h i).base ≤ (headsTo D h i).epoch := by
  intro i
  induction i with
  | zero => exact hh
  | succ i ih =>
    simp only [headsTo, headStep]
    split
    · rename_i g hg
      split
      · exact (parse_n hg).2.2.1
      · exact ih
    · exact ih
theorem unframe_ref (l : List UInt8) (h : l.length = 64) (k : Int) : unframeF l k = if l.take 8 ≠ l.drop 56 ∨ numR (win l 4 4) ≠ k ∨ 1 < (at8 l 8).toNat ∨ 46 < (at8 l 9).toNat ∨ numR (win l 0 4) < 1 then none else some ⟨numR (win l 0 4), numR (win l 4 4), decide ((at8 l 8).toNat = 1), (l.drop 10).take (at8 l 9).toNat⟩ := by
  unfold unframeF; rw [num4 l 4 (by omega), num4 l 0 (by omega)]
set_option maxHeartbeats 8000000 in
theorem open7 (D : DevS) (hD : D.Ok) (hcl : D.calls ≤ 100000) (hwl : D.wait.length ≤ 100000) (n : Nat) (h1 : 1 ≤ n) (h2 : (n : Int) ≤ D.kept.length - 2) (Post : AV → List AObj → Prop)
    (hP : ((openS D n).1 = 0 → Post (.tup [.ptr 3 0 9, .c (.int .i64 0)]) (dlR (openS D n).2.1 (openS D n).2.2)) ∧ ((openS D n).1 ≠ 0 → Post (.tup [.c (.pointer none), .c (.int .i64 (openS D n).1)]) (refO (openS D n).2.1))) : ACalls Try.prog 22 [.ptr 0 0 4, .c (.int .i64 n)] (refO D) (fun k => decide (k < 2)) Post := by
  obtain ⟨hP1, hP2⟩ := hP
  refine acalls mixed Try.func22 rfl Try.ntmps22 rfl fun E hE hst hho => ?_
  have e2 : IntKind.i64.wrap ((D.kept.length : Int) - 2) = D.kept.length - 2 := IntWalk.i64_in _ (by have := hD.k2; omega)
  have hi : ¬ ((n : Int) < 1) := by omega
  have hi1 : 1 ≤ n := h1
  have hi2 : ¬ ((D.kept.length : Int) - 2 < n) := by omega
  have hn0 : ¬ n = 0 := by omega
  have hi1i : 1 ≤ (n : Int) := by omega
  have hkn := hD.k2
  have hsl := secL_length D
  simp (maxSteps := 1000000) [hho, noHo, refO, hi, hi1, hi2, hn0, hi1i, e2, -List.reduceReplicate]
  by_cases hc : checkS D 0 0 = 0
  · have ho : openS D n = whS D (readL D n) (readL D n).h := by unfold openS; rw [if_neg (by rw [hc]; decide)]
    have hR := read0_ok D
    refine loop_k mixed (fun i : Nat => ⟨slotsOf 187 [(0, .ptr 0 0 4), (1, .c (.int .i64 n)), (6, .ptr 3 0 9), (7, .c (.int .i64 (i : Int)))], dlR D { log0 n with h := headsTo D ⟨0, 0, 0, []⟩ i }⟩) (fun i => 2 - i) (fun i => i ≤ 2) 0 (Nat.zero_le _) ?_ ?_
    · refine Wk.trans (wk_virtC 3 6 9 1 rfl rfl) ?_
      exact wk_all (by simp [hE, refO, lens]) (by simp [dlR, refO, rlogB, rstR, log0, headsTo, strA, str_nil]) (by simp [livH, livO, AV.livL, AV.liv, wkL, wkV, List.range', slotsOf])
    · intro i hi
      by_cases hi2 : i < 2
      · have hii : (i : Int) < 2 := by omega
        have ew : IntKind.i64.wrap ((i : Int) + 1) = (i + 1 : Nat) := by rw [IntWalk.i64_in _ (by omega)]; rfl
        obtain ⟨H, hH⟩ : ∃ H, H = headsTo D ⟨0, 0, 0, []⟩ i := ⟨_, rfl⟩
        simp (maxSteps := 1000000) [hho, noHo, dlR, refO, rlogB, rstR, log0, slotsOf, hii, hi2, ← hH, -List.reduceReplicate]
        refine call_x [0, 1, 2] (read7 D hD i (chk_all hc i (by omega))) rfl rfl ⟨rfl, rfl⟩ hho (by simp) (by decide) (by simp) (by simp [refO]) ?_
        simp (maxSteps := 1000000) [hho, noHo, refO, -List.reduceReplicate]
        refine call_0 (readHead7 (secL D i) (hsl i) i) rfl rfl hho (by simp) ?_
        cases hP : parseH (secL D i) i with
        | none =>
          have e1 : headsTo D ⟨0, 0, 0, []⟩ (i + 1) = H := by simp only [headsTo, headStep, hP]; exact hH.symm
          simp (maxSteps := 1000000) [hho, noHo, headR7, head70, ew, -List.reduceReplicate]
          refine draw_k hho (.take 0 (.take 1 (.take 2 (.take 3 (.take 4 (.take 5 (.take 6 (.take 7 (.take 8 (.take 9 (.take 10 (.done)))))))))))) [3, 5] [] (by decide +kernel) (by simp) ?_
          simp (maxSteps := 1000000) [hho, noHo, ew, roOf, holdOf, wrOf, altK, heldOk, Region.binds, -List.reduceReplicate]
          refine round_next (i + 1) (by omega) (by omega) ?_
          exact wk_of 5 1 (by simp) (by simp [hE, refO, lens]) (by simp [dlR, refO, rlogB, rstR, log0, e1]) (by simp [livH, livO, AV.livL, AV.liv, wkL, wkV, List.range', dlR, refO, rlogB, rstR, log0, strA_liv, refK_liv, refW_liv]) (by simp [livH, livO, AV.livL, AV.liv, wkL, wkV, List.range', slotsOf])
        | some g =>
          have e1 : headsTo D ⟨0, 0, 0, []⟩ (i + 1) = if H.n < g.n then g else H := by simp only [headsTo, headStep, hP]; rw [← hH]
          simp (maxSteps := 1000000) [hho, noHo, headR7, head7, ew, -List.reduceReplicate]
          refine draw_k hho (.take 0 (.take 1 (.take 2 (.take 3 (.take 4 (.take 5 (.take 6 (.take 7 (.take 8 (.take 9 (.take 10 (.done)))))))))))) [3, 5] [] (by decide +kernel) (by simp) ?_
          by_cases hn : H.n < g.n
          · rw [if_pos hn] at e1
            simp (maxSteps := 1000000) [hho, noHo, ew, hn, roOf, holdOf, wrOf, altK, heldOk, Region.binds, -List.reduceReplicate]
            refine round_next (i + 1) (by omega) (by omega) ?_
            exact wk_of 5 1 (by simp) (by simp [hE, refO, lens]) (by simp [dlR, refO, rlogB, rstR, log0, e1]) (by simp [livH, livO, AV.livL, AV.liv, wkL, wkV, List.range', dlR, refO, rlogB, rstR, log0, strA_liv, refK_liv, refW_liv]) (by simp [livH, livO, AV.livL, AV.liv, wkL, wkV, List.range', slotsOf])
          · rw [if_neg hn] at e1
            simp (maxSteps := 1000000) [hho, noHo, ew, hn, roOf, holdOf, wrOf, altK, heldOk, Region.binds, -List.reduceReplicate]
            refine round_next (i + 1) (by omega) (by omega) ?_
            exact wk_of 5 1 (by simp) (by simp [hE, refO, lens]) (by simp [dlR, refO, rlogB, rstR, log0, e1]) (by simp [livH, livO, AV.livL, AV.liv, wkL, wkV, List.range', dlR, refO, rlogB, rstR, log0, strA_liv, refK_liv, refW_liv]) (by simp [livH, livO, AV.livL, AV.liv, wkL, wkV, List.range', slotsOf])
      · obtain rfl : i = 2 := by omega
        obtain ⟨H, hH⟩ : ∃ H, H = headsTo D ⟨0, 0, 0, []⟩ 2 := ⟨_, rfl⟩
        rw [← hH] at hR
        simp (maxSteps := 1000000) [hho, noHo, dlR, refO, rlogB, rstR, log0, slotsOf, ← hH, -List.reduceReplicate]
        obtain ⟨L0, hL0⟩ : ∃ L0 : LogS, L0 = ⟨n, H, 0, [], false⟩ := ⟨_, rfl⟩
        obtain ⟨x0, hx0⟩ : ∃ x0 : FSt, x0 = ⟨H.base, false, [], [], 0⟩ := ⟨_, rfl⟩
        have eR : withF L0 (framesTo D H.epoch x0 0 n) = readL D n := by rw [hL0, hx0, hH]; rfl
        refine loop_k2 mixed (fun y : Nat × FSt => ⟨slotsOf 187 [(0, .ptr 0 0 4), (1, .c (.int .i64 n)), (6, .ptr 3 0 9), (12, .c (.int .i64 y.2.least)), (13, .c (.bool y.2.within)), (14, .c (.string (str y.2.batch))), (15, .c (.int .i64 (y.1 : Int)))], dlR D (withF L0 y.2)⟩) (fun y => n - y.1)
          (fun y => y.1 ≤ n ∧ framesTo D H.epoch y.2 y.1 (n - y.1) = framesTo D H.epoch x0 0 n ∧ y.2.batch.length ≤ 46 * y.1 ∧ y.2.bs.length ≤ y.1 ∧ 0 ≤ y.2.at_ ∧ y.2.at_ ≤ y.1) (0, x0)
          (fun _ : Unit => ⟨slotsOf 187 [(0, .ptr 0 0 4), (1, .c (.int .i64 n)), (6, .ptr 3 0 9)], dlR D (readL D n)⟩) (fun _ => True) 2 ⟨Nat.zero_le _, rfl, by rw [hx0]; simp, by rw [hx0]; simp, by rw [hx0]; simp, by rw [hx0]; simp⟩ ?_ ?_ ?_
        · exact wk_all (by simp [hE, refO, lens]) (by simp [dlR, refO, rlogB, rstR, withF, hL0, hx0, log0, strA]) (by simp [livH, livO, AV.livL, AV.liv, wkL, wkV, List.range', slotsOf, hx0, str_nil, emp_eq])
        · rintro _ _
          obtain ⟨R, hRR⟩ : ∃ R, R = readL D n := ⟨_, rfl⟩
          have eRh : R.h = H := by rw [hRR, ← eR, hL0]; rfl
          rw [← hRR] at ho ⊢
          have hbe : R.h.base ≤ R.h.epoch := by rw [eRh, hH]; exact heads_base D _ (by simp) 2
          rw [← eRh] at hR
          simp (maxSteps := 1000000) [hho, noHo, dlR, refO, rlogB, rstR, slotsOf, -List.reduceReplicate]
          refine draw_k hho (.take 0 (.take 1 (.take 2 (.take 3 (.take 4 (.take 5 (.take 6 (.take 7 (.take 8 (.take 9 (.take 10 (.alt 11 (.take 12 (.done)) (.nil)))))))))))))  [3] [(11, [3])] (by decide +kernel) (by simp) ?_
          simp (maxSteps := 1000000) [hho, noHo, roOf, holdOf, wrOf, altK, heldOk, Region.binds, -List.reduceReplicate]
          intro E1
          obtain ⟨W, hW⟩ : ∃ W, W = whS D R R.h := ⟨_, rfl⟩
          have hRb := hR.b
          have hnx := next7h D hD hcl hwl R R.h hR.b ⟨hR.n0, by have := hR.n1; omega⟩ ⟨hR.e0, by have := hR.e1; omega⟩ (by have := hR.e1; omega)
          by_cases hwr : wroteS D R R.h
          · have hnx := hnx (fun r h' => r = .c (.int .i64 W.1) ∧ h' = rlogV D W.2.1 W.2.2) ⟨fun h => absurd hwr h, fun _ => by rw [hW]; exact ⟨rfl, rfl⟩⟩
            refine call_h [3, 0, 1, 2, 4] hnx rfl rfl ⟨rfl, rfl⟩ (by simp) (by simp) (by decide) (by simp) (by simp [rlogV]) ?_
            rw [← hW] at ho
            rw [ho] at hP1 hP2
            simp (maxSteps := 1000000) [hho, noHo, rlogV, rlogB, rstR, roOf, holdOf, wrOf, altK, heldOk, Region.binds, -List.reduceReplicate]
            by_cases hw0 : W.1 = 0
            · rw [if_pos hw0]
              refine Ret.sel [0, 1, 5, 3, 4] (fun _ => false) (ho := by rfl) (ha := by rfl) ?_ ?_ (by decide) (by simp) (st_pre 2 [5, 3, 4] _) (hP1 hw0)
              · simp
              · simp
            · rw [if_neg hw0]
              refine Ret.sel [0, 1, 5] (fun _ => false) (ho := by rfl) (ha := by rfl) ?_ ?_ (by decide) (by simp) (st_pre 2 [5] _) (hP2 hw0)
              · simp
              · simp
          · have hnx := hnx (fun r h' => r = .c (.int .i64 W.1) ∧ h' = rlogO D R) ⟨fun h => by rw [hW]; exact ⟨rfl, rfl⟩, fun h => absurd h hwr⟩
            obtain ⟨hw1, hw2⟩ := whS_not hwr
            rw [← hW] at ho hw1 hw2
            rw [ho] at hP1 hP2
            refine call_h [3, 0, 1, 2, 4] hnx rfl rfl ⟨rfl, rfl⟩ (by simp) (by simp) (by decide) (by simp) (by simp [rlogO, refAt]) ?_
            simp (maxSteps := 1000000) [hho, noHo, rlogO, rlogB, rstR, refAt, hw1, roOf, holdOf, wrOf, altK, heldOk, Region.binds, -List.reduceReplicate]
            have hP := hP2 hw1
            rw [hw2] at hP
            refine Ret.sel [0, 1, 2] (fun _ => false) (ho := by rfl) (ha := by rfl) ?_ ?_ (by decide) (by simp) (st_pre 2 [2] _) hP
            · simp
            · simp
        · rintro ⟨k, x⟩ ⟨hk, hI, hb, hl, ha0, ha⟩
          simp only at hk hI hb hl ha0 ha
          by_cases hkn : k < n
          · have e2k : IntKind.i64.wrap (2 + (k : Int)) = ((2 + k : Nat) : Int) := by rw [IntWalk.i64_in _ (by omega)]; rfl
            have ew : IntKind.i64.wrap ((k : Int) + 1) = (k + 1 : Nat) := by rw [IntWalk.i64_in _ (by omega)]; rfl
            have en : n - k = (n - (k + 1)) + 1 := by omega
            rw [en, framesTo] at hI
            simp (maxSteps := 1000000) [hho, noHo, dlR, refO, rlogB, rstR, withF, slotsOf, hkn, e2k, -List.reduceReplicate]
            refine call_x [0, 1, 2] (read7 D hD (2 + k) (chk_all hc (2 + k) (by omega))) rfl rfl ⟨rfl, rfl⟩ hho (by simp) (by decide) (by simp) (by simp [refO]) ?_
            have hsk := hsl (2 + k)
            obtain ⟨l, hl0⟩ : ∃ l, l = secL D (2 + k) := ⟨_, rfl⟩
            rw [← hl0] at hsk ⊢
            have hfs : frameStep D H.epoch x k = match unframeF l k with
              | some f => if f.epoch < x.least ∨ H.epoch < f.epoch ∨ (x.within = true ∧ f.epoch ≠ x.least) then none
                else if f.last = true then some ⟨f.epoch, false, [], x.bs ++ [x.batch ++ f.body], k + 1⟩ else some ⟨f.epoch, true, x.batch ++ f.body, x.bs, x.at_⟩
              | none => none := by rw [hl0]; rfl
            rw [unframe_ref l hsk] at hfs
            have w4 : l.take 4 = win l 0 4 := by simp [win]
            have w8 : (l.take 8).drop 4 = win l 4 4 := by simp [win, List.drop_take]
            have n1 := num7 (win l 0 4) (by simp [win]; omega)
            have n2 := num7 (win l 4 4) (by simp [win]; omega)
            simp (maxSteps := 1000000) [hho, noHo, refO, str_ext, w4, hsk, -List.reduceReplicate]
            refine call_0 (n1) rfl rfl hho (by simp) ?_
            obtain ⟨ep, hep⟩ : ∃ ep, ep = numR (win l 0 4) := ⟨_, rfl⟩
            obtain ⟨kk, hkk⟩ : ∃ ep, ep = numR (win l 4 4) := ⟨_, rfl⟩
            obtain ⟨sz, hsz⟩ : ∃ sz, sz = (at8 l 9).toNat := ⟨_, rfl⟩
            obtain ⟨lb, hlb⟩ : ∃ sz, sz = (at8 l 8).toNat := ⟨_, rfl⟩
            have hsz8 := (at8 l 9).toNat_lt
            have hlb8 := (at8 l 8).toNat_lt
            rw [← hsz] at hsz8; rw [← hlb] at hlb8
            have ez : IntKind.i64.wrap (sz : Int) = sz := IntWalk.i64_in _ (by omega)
            rw [← hep, ← hkk, ← hsz, ← hlb] at hfs
            rw [← hep]
            rw [← hkk] at n2
            simp (maxSteps := 1000000) [hho, noHo, str_get, hsk, ← hsz, ez, -List.reduceReplicate]
            refine draw_k hho (.take 0 (.take 1 (.take 2 (.take 3 (.take 4 (.take 5 (.take 6 (.take 7 (.take 9 (.alt 8 (.take 10 (.take 11 (.take 12 (.take 13 (.take 14 (.take 15 (.take 16 (.take 17 (.take 18 (.take 19 (.take 20 (.take 21 (.take 22 (.take 23 (.take 24 (.take 25 (.take 26 (.take 27 (.take 28 (.take 29 (.take 30 (.take 31 (.take 32 (.take 33 (.take 34 (.take 35 (.take 36 (.take 37 (.take 38 (.take 39 (.take 40 (.take 41 (.take 42 (.take 43 (.take 44 (.take 45 (.take 46 (.done)))))))))))))))))))))))))))))))))))))) (.nil))))))))))) [3] [] (by decide +kernel) (by simp) ?_
            have eif : (str (List.take 8 l) = str (List.drop 56 l)) ↔ l.take 8 = l.drop 56 := str_inj
            obtain ⟨Q, hQ⟩ : ∃ Q : Prop, Q = (l.take 8 = l.drop 56) := ⟨_, rfl⟩
            rw [← hQ] at eif
            obtain ⟨fst, hst2⟩ : ∃ st, st = frameStep D H.epoch x k := ⟨_, rfl⟩
            rw [← hst2] at hfs hI
            have hHe : H.epoch = L0.h.epoch := by rw [hL0]
            rw [hHe] at hfs
            have e10 : IntKind.i64.wrap (10 + (sz : Int)) = 10 + (sz : Int) := IntWalk.i64_in _ (by omega)
            have et : ((10 : Int) + (sz : Int)).toNat = 10 + sz := by omega
            have ed : List.drop 10 (List.take (10 + sz) l) = (l.drop 10).take sz := by rw [List.drop_take]; congr 1; omega
            by_cases hq : Q
            · have hq' : l.take 8 = l.drop 56 := by rw [← hQ]; exact hq
              simp (maxSteps := 1000000) [hho, noHo, hsk, str_ext, List.take_of_length_le, w8, eif, hq, roOf, holdOf, wrOf, altK, heldOk, Region.binds, -List.reduceReplicate]
              intro E1
              refine call_h [] n2 rfl rfl ⟨rfl, rfl⟩ (by simp) (by simp) (by decide) (by simp) (by simp) ?_
              simp (maxSteps := 1000000) [hho, noHo, hsk, str_ext, List.take_of_length_le, str_get, ← hlb, e10, et, ed, str_app, roOf, holdOf, wrOf, altK, heldOk, Region.binds, -List.reduceReplicate]
              refine ⟨fun a b c d e f => ⟨⟨⟨⟨⟨⟨a, b⟩, c⟩, d⟩, e⟩, f⟩, fun g => ⟨⟨⟨⟨⟨⟨a, b⟩, c⟩, d⟩, e⟩, f⟩, g⟩⟩, ?_⟩
              by_cases hbad : (((((¬ kk = (k : Int) ∨ 1 < (lb : Int)) ∨ 46 < (sz : Int)) ∨ ep < 1) ∨ ep < x.least) ∨ L0.h.epoch < ep) ∨ x.within = true ∧ ¬ ep = x.least
              · have hn : fst = none := by
                  rw [hfs]
                  by_cases h1 : l.take 8 ≠ l.drop 56 ∨ kk ≠ (k : Int) ∨ 1 < lb ∨ 46 < sz ∨ ep < 1
                  · rw [if_pos h1]
                  · rw [if_neg h1]
                    simp only
                    rw [if_pos]
                    rcases hbad with ((((((h | h) | h) | h) | h) | h) | h)
                    · exact absurd (.inr (.inl h)) h1
                    · exact absurd (.inr (.inr (.inl (by omega)))) h1
                    · exact absurd (.inr (.inr (.inr (.inl (by omega))))) h1
                    · exact absurd (.inr (.inr (.inr (.inr h)))) h1
                    · exact .inl h
                    · exact .inr (.inl h)
                    · exact .inr (.inr h)
                rw [hn] at hI
                simp only at hI
                rw [if_pos hbad]
                refine exit_to () trivial ?_
                rw [← eR, ← hI]
                exact wk_all (by simp [hE, refO, lens]) (by simp [dlR, refO, rlogB, rstR, withF]) (by simp [livH, livO, AV.livL, AV.liv, wkL, wkV, List.range', slotsOf])
              · have hs : fst = if lb = 1 then some ⟨ep, false, [], x.bs ++ [x.batch ++ (l.drop 10).take sz], k + 1⟩ else some ⟨ep, true, x.batch ++ (l.drop 10).take sz, x.bs, x.at_⟩ := by
                  rw [hfs, if_neg (by rintro (h | h | h | h | h); exact h hq'; exact hbad (.inl (.inl (.inl (.inl (.inl (.inl h)))))); exact hbad (.inl (.inl (.inl (.inl (.inl (.inr (by omega))))))); exact hbad (.inl (.inl (.inl (.inl (.inr (by omega)))))); exact hbad (.inl (.inl (.inl (.inr h)))))]
                  simp only
                  rw [if_neg (by rintro (h | h | h); exact hbad (.inl (.inl (.inr h))); exact hbad (.inl (.inr h)); exact hbad (.inr h))]
                  simp only [decide_eq_true_eq]
                have h46 : sz ≤ 46 := by
                  rcases Nat.lt_or_ge 46 sz with h | h
                  · exact absurd (.inl (.inl (.inl (.inl (.inr (by omega)))))) hbad
                  · exact h
                have hl1 : lb ≤ 1 := by
                  rcases Nat.lt_or_ge 1 lb with h | h
                  · exact absurd (.inl (.inl (.inl (.inl (.inl (.inr (by omega))))))) hbad
                  · exact h
                have hbl : ((l.drop 10).take sz).length = sz := by simp [hsk]; omega
                rw [if_neg hbad]
                obtain ⟨bd, hbd⟩ : ∃ bd, bd = (l.drop 10).take sz := ⟨_, rfl⟩
                rw [← hbd] at hs hbl ⊢
                refine ⟨⟨by omega, by omega⟩, by omega, ?_⟩
                by_cases hlb0 : lb = 0
                · rw [if_neg (by omega)] at hs
                  rw [hs] at hI
                  simp only at hI
                  rw [if_pos hlb0]
                  refine round_next (k + 1, ⟨ep, true, x.batch ++ bd, x.bs, x.at_⟩) ⟨by simp only; omega, hI, by simp; omega, by simp only; omega, ha0, by simp only; omega⟩ (by simp only; omega) ?_
                  rw [ew]
                  exact wk_all (by simp [hE, refO, lens]) (by simp [dlR, refO, rlogB, rstR, withF]) (by simp [livH, livO, AV.livL, AV.liv, wkL, wkV, List.range', slotsOf, hlb0])
                · have hlb1 : lb = 1 := by omega
                  rw [if_pos hlb1] at hs
                  rw [hs] at hI
                  simp only at hI
                  rw [if_neg hlb0]
                  refine ⟨by omega, ?_⟩
                  refine round_next (k + 1, ⟨ep, false, [], x.bs ++ [x.batch ++ bd], k + 1⟩) ⟨by simp only; omega, hI, by simp, by simp; omega, by simp only; omega, by simp only; omega⟩ (by simp only; omega) ?_
                  rw [ew]
                  exact wk_of 5 1 (by simp) (by simp [hE, refO, lens]) (by simp [dlR, refO, rlogB, rstR, withF, strA_snoc]) (by simp [livH, livO, AV.livL, AV.liv, wkL, wkV, List.range', dlR, refO, rlogB, rstR, withF, strA_liv, refK_liv, refW_liv]) (by simp [livH, livO, AV.livL, AV.liv, wkL, wkV, List.range', slotsOf, hlb1, str_nil, emp_eq])
            · have hn : fst = none := by rw [hfs, if_pos (.inl fun h => hq (by rw [hQ]; exact h))]
              rw [hn] at hI
              simp only at hI
              simp (maxSteps := 1000000) [hho, noHo, hsk, str_ext, List.take_of_length_le, w8, eif, hq, undef, onGP_none, condG_false, roOf, holdOf, wrOf, altK, heldOk, Region.binds, -List.reduceReplicate]
              intro E1
              refine exit_to () trivial ?_
              rw [← eR, ← hI]
              exact wk_all (by simp [hE, refO, lens]) (by simp [dlR, refO, rlogB, rstR, withF]) (by simp [livH, livO, AV.livL, AV.liv, wkL, wkV, List.range', slotsOf])
          · obtain rfl : k = n := by omega
            rw [Nat.sub_self, framesTo] at hI
            simp (maxSteps := 1000000) [hho, noHo, dlR, refO, rlogB, rstR, withF, slotsOf, -List.reduceReplicate]
            refine exit_to () trivial ?_
            rw [← eR, ← hI]
            exact wk_all (by simp [hE, refO, lens]) (by simp [dlR, refO, rlogB, rstR, withF]) (by simp [livH, livO, AV.livL, AV.liv, wkL, wkV, List.range', slotsOf])
  · have ho : openS D n = (checkS D 0 0, D, log0 n) := by unfold openS; rw [if_pos hc]
    rw [ho] at hP1 hP2
    refine loop_k mixed (fun _ : Unit => ⟨slotsOf 187 [(0, .ptr 0 0 4), (7, .c (.int .i64 0))], refO D⟩) (fun _ => 0) (fun _ => True) () trivial ?_ ?_
    · exact wk_of 3 1 (by simp) (by simp [hE, refO, lens]) (by simp [refO]) (by simp [livH, livO, AV.livL, AV.liv, wkL, wkV, List.range', refO, refK_liv, refW_liv]) (by simp [livH, livO, AV.livL, AV.liv, wkL, wkV, List.range', slotsOf])
    · rintro _ _
      simp (maxSteps := 1000000) [hho, noHo, refO, slotsOf, -List.reduceReplicate]
      refine call_x [0, 1, 2] (read7e D hD hc) rfl rfl ⟨rfl, rfl⟩ hho (by simp) (by decide) (by simp) (by simp [refO]) ?_
      simp (maxSteps := 1000000) [hho, noHo, refO, hc, -List.reduceReplicate]
      exact Ret.same (hP2 hc)
end Go.Proofs.Ytmgpiminicgbiaa
