import Derived.Test.YtglhmhpaoebifaaBP
import Derived.Test.YtglhmhpaoebifaaBM
import Derived.Test.YtglhmhpaoebifaaSrt
import Derived.Test.YtglhmhpaoebifaaLnd
namespace Go.Proofs.Ytglhmhpaoebifaa
set_option linter.unusedVariables false
set_option linter.unusedSimpArgs false
open Go.RowKit
attribute [local simp] isCut_nil isCut_region isCut_seq isCut_block isCut_loop isCut_cond isCut_skip isCut_exit isCut_ret isCut_range swapK putK altK condK_bool pickP_bool stepP stepO onPure_some onPure_none onImpl_some onImpl_none stepC onGP_some onGP_none onGV_some condG mkG onIt_it nextP_ptr takeP_eq takeV_some takeN_none takeN_some takeG_some takeO_some altO_some pureV binV2 eqF eqOp ovlV ovl2 rowAt capV binV intBin strBin isSh shV fldV ixV sliceV slice3V loadAV nilV lenV callV unV convV viewS cellsH loadV fldCut AV.ung AV.ungs AV.gc AV.cells AS.ev AS.put anyS gcsV lens lnO gV guardV retK RetP_eq resV oneV anyRo loIx hiIx implO callP_clo evL gcsL clearV storeAV AS.push AS.setO appV appZ shortS copyV buildV partsV fillV srcV fzO okV isCell_c isCell_ptr isCell_sl isCell_fs isCell_fp isCell_clo rowZ_one rowZ_zero rowZ_2 rowZ_3 rowZ_4 rowZ_5 rowZ_6 rowZ_7 rowZ_8 rowZ_9 rowZ_10 rowZ_11 rowZ_12 noHo Value.oneCell' max2V min2V afterH putBack frzFrom frzO rebO backIx nilEq_sl nilEq_fs nilOp_eql nilOp_neq AV.reb AV.rebL
attribute [local simp ↓] runK_skip runK_region runK_draw runK_seq runK_cut runK_cond runK_block runK_loop runK_exit runK_label runK_goto runK_ret runK_range contK_nil contK_seq contK_seq_ret contK_seq_exit contK_seq_goto contK_block contK_block_ret contK_block_goto contK_block_exit runO_nil runO_cons roundK_exit roundK_ret roundK_goto exitK_ret cutK_ret cutK_exit runE_done runE_nil runE_take runE_alt condG_true condG_false
set_option maxRecDepth 10000
/-! ## The document's answer: lists of leases -/
theorem leasesA_snoc (l : List LeaseS) (x : LeaseS) : leasesA (l ++ [x]) = leasesA l ++ [.c (.int .i64 x.s), .c (.int .i64 x.v), .c (.int .i64 x.u)] := by simp [leasesA, leaseA]
theorem flt_succ (p : LeaseS → Bool) (l : List LeaseS) (j : Nat) (hj : j < l.length) : (l.take (j + 1)).filter p = (l.take j).filter p ++ (if p l[j] = true then [l[j]] else []) := by
  rw [List.take_succ_eq_append_getElem hj, List.filter_append]
  congr 1
  by_cases h : p l[j] = true <;> simp [List.filter_cons, h]
theorem flt_len (p : LeaseS → Bool) (l : List LeaseS) (j : Nat) : ((l.take j).filter p).length ≤ j := Nat.le_trans (List.length_filter_le _ _) (List.length_take_le _ _)
theorem right_ref (x : LeaseS) : ACalls Try.prog 21 [.agg (leaseA x)] [] (fun _ => false) (fun r h' => r = .c (.bool (rightL x)) ∧ h' = []) := by
  refine acalls mixed Try.func21 rfl Try.ntmps21 rfl fun E hE hst hho => ?_
  have h3 : List.take 3 (leaseA x) = leaseA x := rfl
  simp (maxSteps := 1000000) [h3, hho, leaseA, -List.reduceReplicate]
  refine Ret.drop (by rfl) ⟨?_, rfl⟩
  simp [rightL, Bool.and_assoc]
set_option maxHeartbeats 4000000 in
theorem drop_gen (l : List LeaseS) (hl : l.length ≤ 1000) (k : Int) (st : Nat → Bool) (Post : AV → List AObj → Prop) (hpost : Ret st Post [rowL (l.filter fun x => decide (x.s ≠ k))] (.sl 0 3 0 (l.filter fun x => decide (x.s ≠ k)).length ((l.filter fun x => decide (x.s ≠ k)).length * 3))) : ACalls Try.prog 23 [.fs 3 l.length (leasesA l), .c (.int .i64 k)] [] st Post := by
  refine acalls mixed Try.func23 rfl Try.ntmps23 rfl fun E hE hst hho => ?_
  obtain ⟨p, hp⟩ : ∃ p : LeaseS → Bool, p = fun x => decide (x.s ≠ k) := ⟨_, rfl⟩
  rw [← hp] at hpost
  simp (maxSteps := 1000000) [hho, -List.reduceReplicate]
  refine loop_k mixed (fun j : Nat => ⟨slotsOf 24 [(0, .fs 3 l.length (leasesA l)), (1, .c (.int .i64 k)), (5, .sl 0 3 0 ((l.take j).filter p).length (((l.take j).filter p).length * 3)), (8, .fs 3 l.length (leasesA l)), (9, .c (.int .i64 l.length)), (10, .c (.int .i64 (j : Int)))], [rowL ((l.take j).filter p)]⟩) (fun j => l.length - j) (fun j => j ≤ l.length) 0 (Nat.zero_le _) ?_ ?_
  · refine Wk.trans (wk_virt 5 48 3 rfl) ?_
    exact wk_eq (by simp [hE, lens]) (by simp [rowL, leasesA]) (by simp [livH, livO, AV.livL, AV.liv, wkL, wkV, List.range', slotsOf])
  · intro j hj
    by_cases hjl : j < l.length
    · have hat := leasesA_at l j hjl
      have ew : IntKind.i64.wrap ((j : Int) + 1) = (j + 1 : Nat) := by rw [IntWalk.i64_in _ (by omega)]; rfl
      have el : j * 3 + 3 ≤ l.length * 3 := by omega
      have hfl := flt_len p l j
      obtain ⟨x, hx⟩ : ∃ x, x = l[j] := ⟨_, rfl⟩
      have hv2 := flt_succ p l j hjl
      rw [← hx] at hat hv2
      by_cases hpx : x.s ≠ k
      · have hpx' : p x = true := by rw [hp]; exact decide_eq_true hpx
        rw [if_pos hpx'] at hv2
        simp (maxSteps := 1000000) [rowL, slotsOf, hho, hjl, hat, el, leaseA, hpx, ew, -List.reduceReplicate]
        refine ⟨by omega, round_next (j + 1) (by omega) (by omega) ?_⟩
        exact wk_of 1 2 (by simp) (by simp [hE, lens]) (by simp [rowL, hv2, leasesA_snoc]) (by simp [livH, livO, AV.livL, AV.liv, wkL, wkV, List.range', rowL]) (by simp [livH, livO, AV.livL, AV.liv, wkL, wkV, List.range', slotsOf, hv2, Nat.add_mul])
      · have hpx' : p x = false := by rw [hp]; exact decide_eq_false hpx
        rw [if_neg (by rw [hpx']; decide), List.append_nil] at hv2
        have hpn := hpx
        simp only [ne_eq, Decidable.not_not] at hpn
        simp (maxSteps := 1000000) [rowL, slotsOf, hho, hjl, hat, el, leaseA, hpn, ew, -List.reduceReplicate]
        refine round_next (j + 1) (by omega) (by omega) ?_
        exact wk_of 1 1 (by simp) (by simp [hE, lens]) (by simp [rowL, hv2]) (by simp [livH, livO, AV.livL, AV.liv, wkL, wkV, List.range', rowL]) (by simp [livH, livO, AV.livL, AV.liv, wkL, wkV, List.range', slotsOf, hv2])
    · obtain rfl : j = l.length := by omega
      rw [List.take_length]
      simp (maxSteps := 1000000) [rowL, slotsOf, hho, -List.reduceReplicate]
      exact hpost
set_option maxHeartbeats 4000000 in
theorem living_gen (l : List LeaseS) (hl : l.length ≤ 1000) (k : Int) (st : Nat → Bool) (Post : AV → List AObj → Prop) (hpost : Ret st Post [rowL (l.filter fun x => decide (k < x.u))] (.sl 0 3 0 (l.filter fun x => decide (k < x.u)).length ((l.filter fun x => decide (k < x.u)).length * 3))) : ACalls Try.prog 24 [.fs 3 l.length (leasesA l), .c (.int .i64 k)] [] st Post := by
  refine acalls mixed Try.func24 rfl Try.ntmps24 rfl fun E hE hst hho => ?_
  obtain ⟨p, hp⟩ : ∃ p : LeaseS → Bool, p = fun x => decide (k < x.u) := ⟨_, rfl⟩
  rw [← hp] at hpost
  simp (maxSteps := 1000000) [hho, -List.reduceReplicate]
  refine loop_k mixed (fun j : Nat => ⟨slotsOf 24 [(0, .fs 3 l.length (leasesA l)), (1, .c (.int .i64 k)), (5, .sl 0 3 0 ((l.take j).filter p).length (((l.take j).filter p).length * 3)), (8, .fs 3 l.length (leasesA l)), (9, .c (.int .i64 l.length)), (10, .c (.int .i64 (j : Int)))], [rowL ((l.take j).filter p)]⟩) (fun j => l.length - j) (fun j => j ≤ l.length) 0 (Nat.zero_le _) ?_ ?_
  · refine Wk.trans (wk_virt 5 48 3 rfl) ?_
    exact wk_eq (by simp [hE, lens]) (by simp [rowL, leasesA]) (by simp [livH, livO, AV.livL, AV.liv, wkL, wkV, List.range', slotsOf])
  · intro j hj
    by_cases hjl : j < l.length
    · have hat := leasesA_at l j hjl
      have ew : IntKind.i64.wrap ((j : Int) + 1) = (j + 1 : Nat) := by rw [IntWalk.i64_in _ (by omega)]; rfl
      have el : j * 3 + 3 ≤ l.length * 3 := by omega
      have hfl := flt_len p l j
      obtain ⟨x, hx⟩ : ∃ x, x = l[j] := ⟨_, rfl⟩
      have hv2 := flt_succ p l j hjl
      rw [← hx] at hat hv2
      by_cases hpx : k < x.u
      · have hpx' : p x = true := by rw [hp]; exact decide_eq_true hpx
        rw [if_pos hpx'] at hv2
        simp (maxSteps := 1000000) [rowL, slotsOf, hho, hjl, hat, el, leaseA, hpx, ew, -List.reduceReplicate]
        refine ⟨by omega, round_next (j + 1) (by omega) (by omega) ?_⟩
        exact wk_of 1 2 (by simp) (by simp [hE, lens]) (by simp [rowL, hv2, leasesA_snoc]) (by simp [livH, livO, AV.livL, AV.liv, wkL, wkV, List.range', rowL]) (by simp [livH, livO, AV.livL, AV.liv, wkL, wkV, List.range', slotsOf, hv2, Nat.add_mul])
      · have hpx' : p x = false := by rw [hp]; exact decide_eq_false hpx
        rw [if_neg (by rw [hpx']; decide), List.append_nil] at hv2
        have hpn := hpx
        simp (maxSteps := 1000000) [rowL, slotsOf, hho, hjl, hat, el, leaseA, hpn, ew, -List.reduceReplicate]
        refine round_next (j + 1) (by omega) (by omega) ?_
        exact wk_of 1 1 (by simp) (by simp [hE, lens]) (by simp [rowL, hv2]) (by simp [livH, livO, AV.livL, AV.liv, wkL, wkV, List.range', rowL]) (by simp [livH, livO, AV.livL, AV.liv, wkL, wkV, List.range', slotsOf, hv2])
    · obtain rfl : j = l.length := by omega
      rw [List.take_length]
      simp (maxSteps := 1000000) [rowL, slotsOf, hho, -List.reduceReplicate]
      exact hpost
/-- a row told as data at a call's end -/
theorem Ret.row_data {q : List LeaseS} (hq : q.length ≤ 100000) (Post : AV → List AObj → Prop) (hp : Post (.fs 3 q.length (leasesA q)) []) : Ret (fun _ => false) Post [rowL q] (.sl 0 3 0 q.length (q.length * 3)) := by
  refine Ret.sel [] (fun k => k == 0) (ho := by rfl) (ha := by rfl) ?_ ?_ (by decide) (by simp) (by simp) ?_
  · simp
  · refine ⟨by simp [rowL], by simp, by unfold maxLen; omega, by rw [List.drop_zero, List.take_of_length_le (by simp), List.all_eq_true]; exact (leasesA_all _).2 trivial⟩
  · simpa [List.take_of_length_le] using hp
theorem drop_ref (l : List LeaseS) (hl : l.length ≤ 1000) (k : Int) : ACalls Try.prog 23 [.fs 3 l.length (leasesA l), .c (.int .i64 k)] [] (fun _ => false) (fun r h' => r = .fs 3 (l.filter fun x => decide (x.s ≠ k)).length (leasesA (l.filter fun x => decide (x.s ≠ k))) ∧ h' = []) :=
  drop_gen l hl k _ _ (Ret.row_data (Nat.le_trans (List.length_filter_le _ _) (by omega)) _ ⟨rfl, rfl⟩)
theorem drop_row (l : List LeaseS) (hl : l.length ≤ 1000) (k : Int) : ACalls Try.prog 23 [.fs 3 l.length (leasesA l), .c (.int .i64 k)] [] (fun _ => false) (fun r h' => r = .sl 0 3 0 (l.filter fun x => decide (x.s ≠ k)).length ((l.filter fun x => decide (x.s ≠ k)).length * 3) ∧ h' = [rowL (l.filter fun x => decide (x.s ≠ k))]) :=
  drop_gen l hl k _ _ (Ret.same ⟨rfl, rfl⟩)
theorem living_ref (l : List LeaseS) (hl : l.length ≤ 1000) (now : Int) : ACalls Try.prog 24 [.fs 3 l.length (leasesA l), .c (.int .i64 now)] [] (fun _ => false) (fun r h' => r = .fs 3 (liveL l now).length (leasesA (liveL l now)) ∧ h' = []) :=
  living_gen l hl now _ _ (Ret.row_data (Nat.le_trans (List.length_filter_le _ _) (by omega)) _ ⟨rfl, rfl⟩)
def getL (l : List LeaseS) (k : Int) : Option LeaseS := l.find? fun x => decide (x.s = k)
def getR : Option LeaseS → AV
  | some x => .tup [.agg (leaseA x), .c (.bool true)]
  | none => .tup [.agg (leaseA ⟨0, 0, 0⟩), .c (.bool false)]
theorem getL_at {l : List LeaseS} {k : Int} {j : Nat} (hj : j < l.length) (h1 : ∀ i (hi : i < l.length), i < j → l[i].s ≠ k) (h2 : l[j].s = k) : getL l k = some l[j] := by
  unfold getL
  rw [List.find?_eq_some_iff_getElem]
  exact ⟨by simpa using h2, j, hj, rfl, fun i hi => by simpa using h1 i (by omega) hi⟩
theorem getL_none {l : List LeaseS} {k : Int} (h1 : ∀ i (hi : i < l.length), l[i].s ≠ k) : getL l k = none := by
  unfold getL
  rw [List.find?_eq_none]
  intro x hx
  obtain ⟨i, hi, rfl⟩ := List.getElem_of_mem hx
  simpa using h1 i hi
set_option maxHeartbeats 4000000 in
theorem get_ref (l : List LeaseS) (hl : l.length ≤ 1000) (k : Int) : ACalls Try.prog 20 [.fs 3 l.length (leasesA l), .c (.int .i64 k)] [] (fun _ => false) (fun r h' => r = getR (getL l k) ∧ h' = []) := by
  refine acalls mixed Try.func20 rfl Try.ntmps20 rfl fun E hE hst hho => ?_
  simp (maxSteps := 1000000) [hho, -List.reduceReplicate]
  refine loop_k mixed (fun j : Nat => ⟨slotsOf 21 [(0, .fs 3 l.length (leasesA l)), (1, .c (.int .i64 k)), (4, .ptr 0 0 3), (5, .c (.bool false)), (8, .fs 3 l.length (leasesA l)), (9, .c (.int .i64 l.length)), (10, .c (.int .i64 (j : Int)))], [.o .box (leaseA ⟨0, 0, 0⟩)]⟩) (fun j => l.length - j) (fun j => j ≤ l.length ∧ ∀ i (hi : i < l.length), i < j → l[i].s ≠ k) 0 ⟨Nat.zero_le _, fun i _ h => by omega⟩ ?_ ?_
  · exact wk_eq (by simp [hE, lens]) (by simp [leaseA]) (by simp [livH, livO, AV.livL, AV.liv, wkL, wkV, List.range', slotsOf])
  · rintro j ⟨hj, hI⟩
    by_cases hjl : j < l.length
    · have hat := leasesA_at l j hjl
      have ew : IntKind.i64.wrap ((j : Int) + 1) = (j + 1 : Nat) := by rw [IntWalk.i64_in _ (by omega)]; rfl
      have el : j * 3 + 3 ≤ l.length * 3 := by omega
      obtain ⟨x, hx⟩ : ∃ x, x = l[j] := ⟨_, rfl⟩
      rw [← hx] at hat
      by_cases hpx : x.s = k
      · have hg := getL_at hjl hI (by rw [← hx]; exact hpx)
        rw [← hx] at hg
        simp (maxSteps := 1000000) [slotsOf, hho, hjl, hat, el, leaseA, hpx, -List.reduceReplicate]
        rw [hg]
        refine Ret.sel [] (fun _ => false) (ho := by rfl) (ha := by rfl) ?_ ?_ (by decide) (by simp) (by simp) ⟨by simp [getR, leaseA, hpx], rfl⟩
        · simp
        · simp
      · simp (maxSteps := 1000000) [slotsOf, hho, hjl, hat, el, leaseA, hpx, ew, -List.reduceReplicate]
        refine round_next (j + 1) ⟨by omega, fun i hi hij => ?_⟩ (by omega) ?_
        · by_cases e : i = j
          · subst e; rw [← hx]; exact hpx
          · exact hI i hi (by omega)
        · exact wk_of 1 1 (by simp) (by simp [hE, lens]) (by simp [leaseA]) (by simp [livH, livO, AV.livL, AV.liv, wkL, wkV, List.range', leaseA]) (by simp [livH, livO, AV.livL, AV.liv, wkL, wkV, List.range', slotsOf])
    · obtain rfl : j = l.length := by omega
      simp (maxSteps := 1000000) [slotsOf, hho, leaseA, -List.reduceReplicate]
      rw [getL_none fun i hi => hI i hi hi]
      refine Ret.sel [] (fun _ => false) (ho := by rfl) (ha := by rfl) ?_ ?_ (by decide) (by simp) (by simp) ⟨by simp [getR, leaseA], rfl⟩
      · simp
      · simp
theorem minL_snoc (m : List Int) (v : Int) : minL (m ++ [v]) = if m = [] then v else min (minL m) v := by
  cases m with
  | nil => simp [minL]
  | cons x m => simp [minL, List.foldl_append]
theorem maxL_snoc (m : List Int) (v : Int) : maxL (m ++ [v]) = if m = [] then v else max (maxL m) v := by
  cases m with
  | nil => simp [maxL]
  | cons x m => simp [maxL, List.foldl_append]
def vsL (l : List LeaseS) : List Int := l.map (·.v)
theorem vsL_succ (l : List LeaseS) (j : Nat) (hj : j < l.length) : vsL (l.take (j + 1)) = vsL (l.take j) ++ [l[j].v] := by unfold vsL; rw [List.take_succ_eq_append_getElem hj, List.map_append]; rfl
set_option maxHeartbeats 4000000 in
theorem ends_ref (l : List LeaseS) (hl : l.length ≤ 1000) : ACalls Try.prog 25 [.fs 3 l.length (leasesA l)] [] (fun _ => false) (fun r h' => r = .tup [.c (.int .i64 (minL (vsL l))), .c (.int .i64 (maxL (vsL l))), .c (.bool (decide (0 < l.length)))] ∧ h' = []) := by
  refine acalls mixed Try.func25 rfl Try.ntmps25 rfl fun E hE hst hho => ?_
  simp (maxSteps := 1000000) [hho, -List.reduceReplicate]
  refine loop_k mixed (fun j : Nat => ⟨slotsOf 42 [(0, .fs 3 l.length (leasesA l)), (5, .c (.int .i64 (minL (vsL (l.take j))))), (6, .c (.int .i64 (maxL (vsL (l.take j))))), (9, .fs 3 l.length (leasesA l)), (10, .c (.int .i64 l.length)), (11, .c (.int .i64 (j : Int)))], []⟩) (fun j => l.length - j) (fun j => j ≤ l.length) 0 (Nat.zero_le _) ?_ ?_
  · have e0 : vsL (l.take 0) = [] := by simp [vsL]
    rw [e0]
    exact wk_eq (by simp [hE, lens]) (by simp) (by simp [livH, livO, AV.livL, AV.liv, wkL, wkV, List.range', slotsOf, minL, maxL])
  · intro j hj
    by_cases hjl : j < l.length
    · have hat := leasesA_at l j hjl
      have ew : IntKind.i64.wrap ((j : Int) + 1) = (j + 1 : Nat) := by rw [IntWalk.i64_in _ (by omega)]; rfl
      have el : j * 3 + 3 ≤ l.length * 3 := by omega
      obtain ⟨x, hx⟩ : ∃ x, x = l[j] := ⟨_, rfl⟩
      have hv2 := vsL_succ l j hjl
      rw [← hx] at hat hv2
      have hmn := minL_snoc (vsL (l.take j)) x.v
      have hmx := maxL_snoc (vsL (l.take j)) x.v
      rw [← hv2] at hmn hmx
      by_cases hj0 : j = 0
      · subst hj0
        have e0 : vsL (l.take 0) = [] := by simp [vsL]
        rw [e0, if_pos rfl] at hmn hmx
        rw [e0]
        have hat0 : List.take 3 (leasesA l) = leaseA x := by simpa using hat
        have hat1 : List.take 3 (leaseA x) = leaseA x := rfl
        have hv0 : ∃ h, (leasesA l)[1]'h = .c (.int .i64 x.v) := by
          have h2 : (List.take 3 (leasesA l))[1]? = (leaseA x)[1]? := by rw [hat0]
          rw [List.getElem?_take, if_pos (by decide)] at h2
          exact List.getElem?_eq_some_iff.1 h2
        obtain ⟨_, hv1⟩ := hv0
        have el0 : 3 ≤ l.length * 3 := by omega
        have hm0 : minL ([] : List Int) = 0 := rfl
        have hM0 : maxL ([] : List Int) = 0 := rfl
        have ew0 : IntKind.i64.wrap 1 = 1 := by decide
        simp (maxSteps := 1000000) [slotsOf, hho, hjl, hat0, hat1, hv1, el0, leaseA, hm0, hM0, ew0, -List.reduceReplicate]
        refine round_next 1 (by omega) (by omega) ?_
        have hmn' : minL (vsL (l.take 1)) = x.v := hmn
        have hmx' : maxL (vsL (l.take 1)) = x.v := hmx
        rw [hmn', hmx']
        exact wk_of 0 1 (by simp) (by simp [hE, lens]) (by simp) (by simp [livH, livO, AV.livL, AV.liv, wkL, wkV, List.range']) (by simp [livH, livO, AV.livL, AV.liv, wkL, wkV, List.range', slotsOf])
      · have hne : vsL (l.take j) ≠ [] := by
          intro h
          have h2 : (vsL (l.take j)).length = j := by unfold vsL; rw [List.length_map, List.length_take]; omega
          rw [h] at h2
          simp at h2
          omega
        rw [if_neg hne] at hmn hmx
        have hj1 : ¬ (j : Int) = 0 := by omega
        have hmn2 : minL (vsL (l.take (j + 1))) = if x.v < minL (vsL (l.take j)) then x.v else minL (vsL (l.take j)) := by
          rw [hmn, Int.min_def]; repeat' split
          all_goals omega
        have hmx2 : maxL (vsL (l.take (j + 1))) = if maxL (vsL (l.take j)) < x.v then x.v else maxL (vsL (l.take j)) := by
          rw [hmx, Int.max_def]; repeat' split
          all_goals omega
        by_cases c1 : x.v < minL (vsL (l.take j)) <;> by_cases c2 : maxL (vsL (l.take j)) < x.v
        all_goals
          simp (maxSteps := 1000000) [slotsOf, hho, hjl, hat, el, leaseA, hj0, hj1, c1, c2, ew, -List.reduceReplicate]
          refine round_next (j + 1) (by omega) (by omega) ?_
          rw [hmn2, hmx2]
          exact wk_of 0 1 (by simp) (by simp [hE, lens]) (by simp) (by simp [livH, livO, AV.livL, AV.liv, wkL, wkV, List.range']) (by simp [livH, livO, AV.livL, AV.liv, wkL, wkV, List.range', slotsOf, c1, c2])
    · obtain rfl : j = l.length := by omega
      simp (maxSteps := 1000000) [slotsOf, hho, -List.reduceReplicate]
      exact Ret.drop (by rfl) ⟨by simp, rfl⟩
end Go.Proofs.Ytglhmhpaoebifaa
