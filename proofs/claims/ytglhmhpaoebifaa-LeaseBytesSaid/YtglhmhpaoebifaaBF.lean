import Derived.Test.YtglhmhpaoebifaaBB
namespace Go.Proofs.Ytglhmhpaoebifaa
set_option linter.unusedVariables false
set_option linter.unusedSimpArgs false
open Go.RowKit
attribute [local simp] isCut_nil isCut_region isCut_seq isCut_block isCut_loop isCut_cond isCut_skip isCut_exit isCut_ret isCut_range swapK putK altK condK_bool pickP_bool stepP stepO onPure_some onPure_none onImpl_some onImpl_none stepC onGP_some onGP_none onGV_some condG mkG onIt_it nextP_ptr takeP_eq takeV_some takeN_none takeN_some takeG_some takeO_some altO_some pureV binV2 eqF eqOp ovlV ovl2 rowAt capV binV intBin strBin isSh shV fldV ixV sliceV slice3V loadAV nilV lenV callV unV convV viewS cellsH loadV fldCut AV.ung AV.ungs AV.gc AV.cells AS.ev AS.put anyS gcsV lens lnO gV guardV retK RetP_eq resV oneV anyRo loIx hiIx implO callP_clo evL gcsL clearV storeAV AS.push AS.setO appV appZ shortS copyV buildV partsV fillV srcV fzO okV isCell_c isCell_ptr isCell_sl isCell_fs isCell_fp isCell_clo rowZ_one rowZ_zero rowZ_2 rowZ_3 rowZ_4 rowZ_5 rowZ_6 rowZ_7 rowZ_8 rowZ_9 rowZ_10 rowZ_11 rowZ_12 noHo Value.oneCell' max2V min2V afterH putBack frzFrom frzO rebO backIx nilEq_sl nilEq_fs nilOp_eql nilOp_neq AV.reb AV.rebL
attribute [local simp ↓] runK_skip runK_region runK_draw runK_seq runK_cut runK_cond runK_block runK_loop runK_exit runK_label runK_goto runK_ret runK_range contK_nil contK_seq contK_seq_ret contK_seq_exit contK_seq_goto contK_block contK_block_ret contK_block_goto contK_block_exit runO_nil runO_cons roundK_exit roundK_ret roundK_goto exitK_ret cutK_ret cutK_exit runE_done runE_nil runE_take runE_alt condG_true condG_false
set_option maxRecDepth 10000
/-! ## A book: what is asked of it -/
def rightL (x : LeaseS) : Bool := decide (0 ≤ x.s) && decide (x.s < 16) && decide (0 ≤ x.v) && decide (0 ≤ x.u)
theorem right_lease (x : LeaseS) : ACalls Try.prog 34 [.agg (leaseA x)] [] (fun _ => false) (fun r h' => r = .c (.bool (rightL x)) ∧ h' = []) := by
  refine acalls mixed Try.func34 rfl Try.ntmps34 rfl fun E hE _ hho => ?_
  simp [leaseA, hho, -List.reduceReplicate]
  refine Ret.drop (by rfl) ⟨?_, rfl⟩
  unfold rightL
  by_cases h1 : 0 ≤ x.s <;> by_cases h2 : x.s < 16 <;> by_cases h3 : 0 ≤ x.v <;> by_cases h4 : 0 ≤ x.u <;> simp [h1, h2, h3, h4]
theorem lives_lease (x : LeaseS) (now : Int) : ACalls Try.prog 35 [.agg (leaseA x), .c (.int .i64 now)] [] (fun _ => false) (fun r h' => r = .c (.bool (decide (now < x.u))) ∧ h' = []) := by
  refine acalls mixed Try.func35 rfl Try.ntmps35 rfl fun E hE _ hho => ?_
  simp [leaseA, hho, -List.reduceReplicate]
  exact Ret.drop (by rfl) ⟨rfl, rfl⟩
def bookO (l : List LeaseS) : List AObj := [.o .box [.sl 1 3 0 l.length (l.length * 3)], rowL l]
def intAV (l : List Int) : List AV := l.map fun x => .c (.int .i64 x)
@[simp] theorem intAV_length (l : List Int) : (intAV l).length = l.length := by simp [intAV]
@[simp] theorem intAV_all (l : List Int) : (∀ x ∈ intAV l, isD x = true) ↔ True := iff_true_intro <| by simp [intAV, isD]
@[simp] theorem intAV_cell (l : List Int) : (∀ x ∈ intAV l, isCell x = true) ↔ True := iff_true_intro <| by simp [intAV, isCell_c, Value.oneCell']
theorem intAV_get0 (l : List Int) (j : Nat) (hj : j < l.length) : (List.drop j (intAV l))[0]? = some (.c (.int .i64 l[j])) := by rw [List.getElem?_drop, Nat.add_zero]; simp [intAV, hj]
theorem intAV_snoc (l : List Int) (b : Int) : intAV (l ++ [b]) = intAV l ++ [.c (.int .i64 b)] := by simp [intAV]
def versL (l : List LeaseS) (now : Int) : List Int := (l.filter fun x => decide (now < x.u)).map (·.v)
theorem versL_succ (l : List LeaseS) (now : Int) (j : Nat) (hj : j < l.length) : versL (l.take (j + 1)) now = versL (l.take j) now ++ (if now < l[j].u then [l[j].v] else []) := by
  unfold versL
  rw [List.take_succ_eq_append_getElem hj, List.filter_append, List.map_append]
  congr 1
  by_cases h : now < l[j].u <;> simp [List.filter_cons, h]
theorem versL_len (l : List LeaseS) (now : Int) : (versL l now).length ≤ l.length := by unfold versL; rw [List.length_map]; exact List.length_filter_le _ _
set_option maxHeartbeats 4000000 in
theorem versions_book (l : List LeaseS) (hl : l.length ≤ 5864062014805) (now : Int) : ACalls Try.prog 40 [.ptr 0 0 1, .c (.int .i64 now)] (bookO l) (fun k => decide (k < 2)) (fun r h' => r = .fs 1 (versL l now).length (intAV (versL l now)) ∧ h' = bookO l) := by
  refine acalls mixed Try.func40 rfl Try.ntmps40 rfl fun E hE hst hho => ?_
  simp [bookO, rowL, hho, noHo, -List.reduceReplicate]
  refine loop_k mixed (fun j : Nat => ⟨slotsOf 29 [(0, .ptr 0 0 1), (1, .c (.int .i64 now)), (5, .sl 2 1 0 (versL (l.take j) now).length (versL (l.take j) now).length), (13, .sl 1 3 0 l.length (l.length * 3)), (14, .c (.int .i64 l.length)), (15, .c (.int .i64 (j : Int)))], bookO l ++ [.o (.row 3 1) (intAV (versL (l.take j) now))]⟩) (fun j => l.length - j) (fun j => j ≤ l.length) 0 (Nat.zero_le _) ?_ ?_
  · refine Wk.trans (wk_virt 5 3 1 rfl) ?_
    exact wk_eq (by simp [hE, lens, bookO]) (by simp [bookO, rowL, versL, intAV]) (by simp [livH, livO, AV.livL, AV.liv, wkL, wkV, List.range', slotsOf, versL])
  · intro j hj
    by_cases hjl : j < l.length
    · have hat := leasesA_at l j hjl
      have h3 : List.take 3 (leaseA l[j]) = leaseA l[j] := rfl
      have ew : IntKind.i64.wrap ((j : Int) + 1) = (j + 1 : Nat) := by rw [IntWalk.i64_in _ (by omega)]; rfl
      have el : j * 3 + 3 ≤ l.length * 3 := by omega
      have hvl := versL_len (l.take j) now
      have hvl2 : (versL (l.take j) now).length ≤ j := by rw [List.length_take] at hvl; omega
      obtain ⟨x, hx⟩ : ∃ x, x = l[j] := ⟨_, rfl⟩
      have hv2 := versL_succ l now j hjl
      rw [← hx] at hat h3 hv2
      simp (maxSteps := 1000000) [bookO, rowL, slotsOf, hho, hjl, hat, h3, el, -List.reduceReplicate]
      refine call_plain (fun _ => false) (lives_lease x now) (ha := by rfl) (by simp) ?_
      rintro r h' ⟨rfl, rfl⟩
      refine ⟨rfl, ?_⟩
      by_cases hnow : now < x.u
      · rw [if_pos hnow] at hv2
        simp (maxSteps := 1000000) [hho, hnow, ew, leaseA, -List.reduceReplicate]
        refine ⟨by omega, round_next (j + 1) (by omega) (by omega) ?_⟩
        exact wk_of 3 2 (by simp) (by simp [hE, lens, bookO]) (by simp [bookO, rowL, hv2, intAV_snoc]) (by simp [livH, livO, AV.livL, AV.liv, wkL, wkV, List.range', bookO, rowL]) (by simp [livH, livO, AV.livL, AV.liv, wkL, wkV, List.range', slotsOf, hv2])
      · rw [if_neg hnow, List.append_nil] at hv2
        simp (maxSteps := 1000000) [hho, hnow, ew, -List.reduceReplicate]
        refine round_next (j + 1) (by omega) (by omega) ?_
        exact wk_of 3 1 (by simp) (by simp [hE, lens, bookO]) (by simp [bookO, rowL, hv2]) (by simp [livH, livO, AV.livL, AV.liv, wkL, wkV, List.range', bookO, rowL]) (by simp [livH, livO, AV.livL, AV.liv, wkL, wkV, List.range', slotsOf, hv2])
    · obtain rfl : j = l.length := by omega
      simp (maxSteps := 1000000) [bookO, rowL, slotsOf, hho, -List.reduceReplicate]
      have hvl := versL_len l now
      refine Ret.sel [0, 1] (fun k => k == 2) (ho := by rfl) (ha := by rfl) ?_ ?_ (by decide) (by simp) ?_ ⟨?_, ?_⟩
      · simp
      · refine ⟨by simp, by omega, by unfold maxLen; omega, by rw [List.drop_zero, List.take_of_length_le (by simp), List.all_eq_true]; exact (intAV_all _).2 trivial⟩
      · intro i _ h
        match i, h with
        | 0, _ => rfl
        | 1, _ => rfl
        | i + 2, h => exact absurd (of_decide_eq_true h : i + 2 < 2) (by omega)
      · simp [List.take_of_length_le]
      · rfl
def minL : List Int → Int
  | [] => 0
  | x :: l => l.foldl min x
def maxL : List Int → Int
  | [] => 0
  | x :: l => l.foldl max x
theorem foldl_take_succ (f : Int → Int → Int) (x : Int) (l : List Int) (j : Nat) (hj : j < l.length) : (l.take (j + 1)).foldl f x = f ((l.take j).foldl f x) l[j] := by
  rw [List.take_succ_eq_append_getElem hj, List.foldl_append]; rfl
theorem min_ints (x : Int) (l : List Int) (hl : l.length ≤ 9000000000000000) : ACalls Try.prog 41 [.fs 1 (l.length + 1) (intAV (x :: l))] [] (fun _ => false) (fun r h' => r = .c (.int .i64 (minL (x :: l))) ∧ h' = []) := by
  refine acalls mixed Try.func41 rfl Try.ntmps41 rfl fun E hE _ hho => ?_
  have h1 : ¬ ((l.length + 1 : Nat) : Int) < 1 := by omega
  obtain ⟨n, hn⟩ : ∃ n, n = l.length + 1 := ⟨_, rfl⟩
  have hg0 := intAV_get0 (x :: l) 0 (by simp)
  simp only [List.drop_zero, List.getElem_cons_zero] at hg0
  obtain ⟨cs, hcs⟩ : ∃ cs, cs = intAV (x :: l) := ⟨_, rfl⟩
  rw [← hcs] at hg0 ⊢
  rw [← hn] at h1 ⊢
  have hn0 : 0 < n := by omega
  have hn0i : (0 : Int) < n := by omega
  have hcl : cs.length = n := by rw [hcs, hn]; simp
  simp [hho, h1, hg0, hn0, hn0i, -List.reduceReplicate]
  refine ⟨by omega, ?_⟩
  refine loop_k mixed (fun j : Nat => ⟨slotsOf 25 [(0, .fs 1 n cs), (3, .c (.int .i64 ((l.take j).foldl min x))), (4, .c (.int .i64 ((j + 1 : Nat) : Int)))], []⟩) (fun j => l.length - j) (fun j => j ≤ l.length) 0 (Nat.zero_le _) ?_ ?_
  · exact wk_eq (by simp [hE, lens]) (by simp) (by simp [livH, livO, AV.livL, AV.liv, wkL, wkV, List.range', slotsOf])
  · intro j hj
    have ew : IntKind.i64.wrap ((j : Int) + 1 + 1) = ((j + 1 + 1 : Nat) : Int) := by rw [IntWalk.i64_in _ (by omega)]; omega
    by_cases hjl : j < l.length
    · have hg := intAV_get0 (x :: l) (j + 1) (by simpa using hjl)
      rw [← hcs] at hg
      simp only [List.getElem_cons_succ] at hg
      have z1 : (j : Int) + 1 < n := by omega
      have z2 : j + 1 < n := by omega
      have ef := foldl_take_succ min x l j hjl
      have ez : ((j : Int) + 1).toNat = j + 1 := by omega
      simp (maxSteps := 1000000) [slotsOf, hho, z1, z2, ez, hg, ew, -List.reduceReplicate]
      refine ⟨by omega, by omega, ?_⟩
      refine round_next (j + 1) (by omega) (by omega) ?_
      exact wk_eq (by simp [hE, lens]) (by simp) (by simp [livH, livO, AV.livL, AV.liv, wkL, wkV, List.range', slotsOf, ef])
    · obtain rfl : j = l.length := by omega
      have z1 : ¬ (l.length : Int) + 1 < n := by omega
      simp (maxSteps := 1000000) [slotsOf, hho, z1, -List.reduceReplicate]
      exact Ret.drop (by rfl) ⟨by simp [minL], rfl⟩
theorem max_ints (x : Int) (l : List Int) (hl : l.length ≤ 9000000000000000) : ACalls Try.prog 42 [.fs 1 (l.length + 1) (intAV (x :: l))] [] (fun _ => false) (fun r h' => r = .c (.int .i64 (maxL (x :: l))) ∧ h' = []) := by
  refine acalls mixed Try.func42 rfl Try.ntmps42 rfl fun E hE _ hho => ?_
  have h1 : ¬ ((l.length + 1 : Nat) : Int) < 1 := by omega
  obtain ⟨n, hn⟩ : ∃ n, n = l.length + 1 := ⟨_, rfl⟩
  have hg0 := intAV_get0 (x :: l) 0 (by simp)
  simp only [List.drop_zero, List.getElem_cons_zero] at hg0
  obtain ⟨cs, hcs⟩ : ∃ cs, cs = intAV (x :: l) := ⟨_, rfl⟩
  rw [← hcs] at hg0 ⊢
  rw [← hn] at h1 ⊢
  have hn0 : 0 < n := by omega
  have hn0i : (0 : Int) < n := by omega
  have hcl : cs.length = n := by rw [hcs, hn]; simp
  simp [hho, h1, hg0, hn0, hn0i, -List.reduceReplicate]
  refine ⟨by omega, ?_⟩
  refine loop_k mixed (fun j : Nat => ⟨slotsOf 25 [(0, .fs 1 n cs), (3, .c (.int .i64 ((l.take j).foldl max x))), (4, .c (.int .i64 ((j + 1 : Nat) : Int)))], []⟩) (fun j => l.length - j) (fun j => j ≤ l.length) 0 (Nat.zero_le _) ?_ ?_
  · exact wk_eq (by simp [hE, lens]) (by simp) (by simp [livH, livO, AV.livL, AV.liv, wkL, wkV, List.range', slotsOf])
  · intro j hj
    have ew : IntKind.i64.wrap ((j : Int) + 1 + 1) = ((j + 1 + 1 : Nat) : Int) := by rw [IntWalk.i64_in _ (by omega)]; omega
    by_cases hjl : j < l.length
    · have hg := intAV_get0 (x :: l) (j + 1) (by simpa using hjl)
      rw [← hcs] at hg
      simp only [List.getElem_cons_succ] at hg
      have z1 : (j : Int) + 1 < n := by omega
      have z2 : j + 1 < n := by omega
      have ef := foldl_take_succ max x l j hjl
      have ez : ((j : Int) + 1).toNat = j + 1 := by omega
      simp (maxSteps := 1000000) [slotsOf, hho, z1, z2, ez, hg, ew, -List.reduceReplicate]
      refine ⟨by omega, by omega, ?_⟩
      refine round_next (j + 1) (by omega) (by omega) ?_
      exact wk_eq (by simp [hE, lens]) (by simp) (by simp [livH, livO, AV.livL, AV.liv, wkL, wkV, List.range', slotsOf, ef])
    · obtain rfl : j = l.length := by omega
      have z1 : ¬ (l.length : Int) + 1 < n := by omega
      simp (maxSteps := 1000000) [slotsOf, hho, z1, -List.reduceReplicate]
      exact Ret.drop (by rfl) ⟨by simp [maxL], rfl⟩
theorem oldest_book (l : List LeaseS) (hl : l.length ≤ 5864062014805) (now : Int) : ACalls Try.prog 13 [.ptr 0 0 1, .c (.int .i64 now)] (bookO l) (fun k => decide (k < 2)) (fun r h' => r = .tup [.c (.int .i64 (minL (versL l now))), .c (.bool (decide (versL l now ≠ [])))] ∧ h' = bookO l) := by
  refine acalls mixed Try.func13 rfl Try.ntmps13 rfl fun E hE hst hho => ?_
  simp [bookO, rowL, hho, noHo, -List.reduceReplicate]
  refine call_x [0, 1] (versions_book l hl now) rfl rfl ⟨rfl, rfl⟩ hho (by simp) (by decide) (by simp) (by simp [bookO]) ?_
  have hvl := versL_len l now
  simp (maxSteps := 1000000) [bookO, rowL, hho, -List.reduceReplicate]
  cases hv : versL l now with
  | nil =>
    simp (maxSteps := 1000000) [hho, -List.reduceReplicate]
    refine Ret.same ⟨by simp [minL], rfl⟩
  | cons x vs =>
    have hvs : vs.length ≤ 9000000000000000 := by rw [hv] at hvl; simp at hvl; omega
    have z : ¬ (vs.length : Int) + 1 = 0 := by omega
    simp (maxSteps := 1000000) [hho, z, -List.reduceReplicate]
    refine call_plain (fun _ => false) (min_ints x vs hvs) (ha := by rfl) (by simp) ?_
    rintro r h' ⟨rfl, rfl⟩
    refine ⟨rfl, ?_⟩
    simp (maxSteps := 1000000) [hho, -List.reduceReplicate]
    exact Ret.same ⟨by simp, rfl⟩
theorem newest_book (l : List LeaseS) (hl : l.length ≤ 5864062014805) (now : Int) : ACalls Try.prog 14 [.ptr 0 0 1, .c (.int .i64 now)] (bookO l) (fun k => decide (k < 2)) (fun r h' => r = .tup [.c (.int .i64 (maxL (versL l now))), .c (.bool (decide (versL l now ≠ [])))] ∧ h' = bookO l) := by
  refine acalls mixed Try.func14 rfl Try.ntmps14 rfl fun E hE hst hho => ?_
  simp [bookO, rowL, hho, noHo, -List.reduceReplicate]
  refine call_x [0, 1] (versions_book l hl now) rfl rfl ⟨rfl, rfl⟩ hho (by simp) (by decide) (by simp) (by simp [bookO]) ?_
  have hvl := versL_len l now
  simp (maxSteps := 1000000) [bookO, rowL, hho, -List.reduceReplicate]
  cases hv : versL l now with
  | nil =>
    simp (maxSteps := 1000000) [hho, -List.reduceReplicate]
    refine Ret.same ⟨by simp [maxL], rfl⟩
  | cons x vs =>
    have hvs : vs.length ≤ 9000000000000000 := by rw [hv] at hvl; simp at hvl; omega
    have z : ¬ (vs.length : Int) + 1 = 0 := by omega
    simp (maxSteps := 1000000) [hho, z, -List.reduceReplicate]
    refine call_plain (fun _ => false) (max_ints x vs hvs) (ha := by rfl) (by simp) ?_
    rintro r h' ⟨rfl, rfl⟩
    refine ⟨rfl, ?_⟩
    simp (maxSteps := 1000000) [hho, -List.reduceReplicate]
    exact Ret.same ⟨by simp, rfl⟩
def i64ok (n : Int) : Prop := -9223372036854775808 ≤ n ∧ n ≤ 9223372036854775807
def mayS (l : List LeaseS) (version now : Int) : Bool := decide (versL l now = []) || decide (version ≤ 0) || decide (version - 1 ≤ minL (versL l now))
theorem may_book (l : List LeaseS) (hl : l.length ≤ 5864062014805) (version now : Int) (hv : i64ok version) : ACalls Try.prog 10 [.ptr 0 0 1, .c (.int .i64 version), .c (.int .i64 now)] (bookO l) (fun k => decide (k < 2)) (fun r h' => r = .c (.bool (mayS l version now)) ∧ h' = bookO l) := by
  refine acalls mixed Try.func10 rfl Try.ntmps10 rfl fun E hE hst hho => ?_
  simp [bookO, rowL, hho, noHo, -List.reduceReplicate]
  refine call_x [0, 1] (oldest_book l hl now) rfl rfl ⟨rfl, rfl⟩ hho (by simp) (by decide) (by simp) (by simp [bookO]) ?_
  by_cases h1 : versL l now = []
  · simp (maxSteps := 1000000) [bookO, rowL, hho, h1, -List.reduceReplicate]
    exact Ret.same ⟨by simp [mayS, h1], rfl⟩
  · by_cases h2 : version ≤ 0
    · simp (maxSteps := 1000000) [bookO, rowL, hho, h1, h2, -List.reduceReplicate]
      exact Ret.same ⟨by simp [mayS, h2], rfl⟩
    · have ew : IntKind.i64.wrap (version - 1) = version - 1 := IntWalk.i64_in _ (by unfold i64ok at hv; omega)
      simp (maxSteps := 1000000) [bookO, rowL, hho, h1, h2, ew, -List.reduceReplicate]
      exact Ret.same ⟨by simp [mayS, h1, h2], rfl⟩
def waitT (version now : Int) (u : Int) (x : LeaseS) : Int := if now < x.u ∧ x.v < version - 1 then max u x.u else u
def waitS (l : List LeaseS) (version now : Int) : Int := if mayS l version now = true then 0 else l.foldl (waitT version now) 0
theorem waitT_succ (l : List LeaseS) (version now : Int) (j : Nat) (hj : j < l.length) : (l.take (j + 1)).foldl (waitT version now) 0 = waitT version now ((l.take j).foldl (waitT version now) 0) l[j] := by
  rw [List.take_succ_eq_append_getElem hj, List.foldl_append]; rfl
set_option maxHeartbeats 4000000 in
theorem wait_book (l : List LeaseS) (hl : l.length ≤ 5864062014805) (version now : Int) (hv : i64ok version) : ACalls Try.prog 9 [.ptr 0 0 1, .c (.int .i64 version), .c (.int .i64 now)] (bookO l) (fun k => decide (k < 2)) (fun r h' => r = .c (.int .i64 (waitS l version now)) ∧ h' = bookO l) := by
  refine acalls mixed Try.func9 rfl Try.ntmps9 rfl fun E hE hst hho => ?_
  simp [bookO, rowL, hho, noHo, -List.reduceReplicate]
  refine call_x [0, 1] (may_book l hl version now hv) rfl rfl ⟨rfl, rfl⟩ hho (by simp) (by decide) (by simp) (by simp [bookO]) ?_
  unfold waitS
  by_cases h1 : mayS l version now = true
  · simp (maxSteps := 1000000) [bookO, rowL, hho, h1, -List.reduceReplicate]
    exact Ret.same ⟨rfl, rfl⟩
  rw [if_neg h1]
  have hvp : 0 < version := by
    simp only [mayS, Bool.or_eq_true, decide_eq_true_eq, not_or] at h1
    omega
  have ewv : IntKind.i64.wrap (version - 1) = version - 1 := IntWalk.i64_in _ (by unfold i64ok at hv; omega)
  simp (maxSteps := 1000000) [bookO, rowL, hho, h1, -List.reduceReplicate]
  refine loop_k mixed (fun j : Nat => ⟨slotsOf 39 [(0, .ptr 0 0 1), (1, .c (.int .i64 version)), (2, .c (.int .i64 now)), (7, .c (.int .i64 ((l.take j).foldl (waitT version now) 0))), (17, .sl 1 3 0 l.length (l.length * 3)), (18, .c (.int .i64 l.length)), (19, .c (.int .i64 (j : Int)))], bookO l⟩) (fun j => l.length - j) (fun j => j ≤ l.length) 0 (Nat.zero_le _) ?_ ?_
  · exact wk_eq (by simp [hE, lens, bookO]) (by simp [bookO, rowL]) (by simp [livH, livO, AV.livL, AV.liv, wkL, wkV, List.range', slotsOf])
  · intro j hj
    by_cases hjl : j < l.length
    · have hat := leasesA_at l j hjl
      have h3 : List.take 3 (leaseA l[j]) = leaseA l[j] := rfl
      have ew : IntKind.i64.wrap ((j : Int) + 1) = (j + 1 : Nat) := by rw [IntWalk.i64_in _ (by omega)]; rfl
      have el : j * 3 + 3 ≤ l.length * 3 := by omega
      have hs := waitT_succ l version now j hjl
      obtain ⟨u, hu⟩ : ∃ u, u = (l.take j).foldl (waitT version now) 0 := ⟨_, rfl⟩
      obtain ⟨x, hx⟩ : ∃ x, x = l[j] := ⟨_, rfl⟩
      rw [← hx] at hat h3 hs
      rw [← hu] at hs ⊢
      simp (maxSteps := 1000000) [bookO, rowL, slotsOf, hho, hjl, hat, h3, el, -List.reduceReplicate]
      refine call_plain (fun _ => false) (lives_lease x now) (ha := by rfl) (by simp) ?_
      rintro r h' ⟨rfl, rfl⟩
      refine ⟨rfl, ?_⟩
      by_cases hnow : now < x.u
      · by_cases hxv : x.v < version - 1
        · have e : waitT version now u x = max u x.u := by unfold waitT; rw [if_pos ⟨hnow, hxv⟩]
          simp (maxSteps := 1000000) [hho, hnow, hxv, ew, ewv, leaseA, -List.reduceReplicate]
          refine round_next (j + 1) (by omega) (by omega) ?_
          exact wk_of 2 1 (by simp) (by simp [hE, lens, bookO]) (by simp [bookO, rowL]) (by simp [livH, livO, AV.livL, AV.liv, wkL, wkV, List.range', bookO, rowL]) (by simp [livH, livO, AV.livL, AV.liv, wkL, wkV, List.range', slotsOf, hs, e])
        · have e : waitT version now u x = u := by unfold waitT; rw [if_neg (fun h => hxv h.2)]
          simp (maxSteps := 1000000) [hho, hnow, hxv, ew, ewv, leaseA, -List.reduceReplicate]
          refine round_next (j + 1) (by omega) (by omega) ?_
          exact wk_of 2 1 (by simp) (by simp [hE, lens, bookO]) (by simp [bookO, rowL]) (by simp [livH, livO, AV.livL, AV.liv, wkL, wkV, List.range', bookO, rowL]) (by simp [livH, livO, AV.livL, AV.liv, wkL, wkV, List.range', slotsOf, hs, e])
      · have e : waitT version now u x = u := by unfold waitT; rw [if_neg (fun h => hnow h.1)]
        simp (maxSteps := 1000000) [hho, hnow, ew, leaseA, undef, onGP_none, condG_false, -List.reduceReplicate]
        refine round_next (j + 1) (by omega) (by omega) ?_
        exact wk_of 2 1 (by simp) (by simp [hE, lens, bookO]) (by simp [bookO, rowL]) (by simp [livH, livO, AV.livL, AV.liv, wkL, wkV, List.range', bookO, rowL]) (by simp [livH, livO, AV.livL, AV.liv, wkL, wkV, List.range', slotsOf, hs, e])
    · obtain rfl : j = l.length := by omega
      simp (maxSteps := 1000000) [bookO, rowL, slotsOf, hho, -List.reduceReplicate]
      refine Ret.same ⟨by simp [List.take_of_length_le], rfl⟩
end Go.Proofs.Ytglhmhpaoebifaa
