import Derived.Test.YtglhmhpaoebifaaBF
import Derived.Test.YtglhmhpaoebifaaCut
namespace Go.Proofs.Ytglhmhpaoebifaa
set_option linter.unusedVariables false
set_option linter.unusedSimpArgs false
open Go.RowKit
attribute [local simp] isCut_nil isCut_region isCut_seq isCut_block isCut_loop isCut_cond isCut_skip isCut_exit isCut_ret isCut_range swapK putK altK condK_bool pickP_bool stepP stepO onPure_some onPure_none onImpl_some onImpl_none stepC onGP_some onGP_none onGV_some condG mkG onIt_it nextP_ptr takeP_eq takeV_some takeN_none takeN_some takeG_some takeO_some altO_some pureV binV2 eqF eqOp ovlV ovl2 rowAt capV binV intBin strBin isSh shV fldV ixV sliceV slice3V loadAV nilV lenV callV unV convV viewS cellsH loadV fldCut AV.ung AV.ungs AV.gc AV.cells AS.ev AS.put anyS gcsV lens lnO gV guardV retK RetP_eq resV oneV anyRo loIx hiIx implO callP_clo evL gcsL clearV storeAV AS.push AS.setO appV appZ shortS copyV buildV partsV fillV srcV fzO okV isCell_c isCell_ptr isCell_sl isCell_fs isCell_fp isCell_clo rowZ_one rowZ_zero rowZ_2 rowZ_3 rowZ_4 rowZ_5 rowZ_6 rowZ_7 rowZ_8 rowZ_9 rowZ_10 rowZ_11 rowZ_12 noHo Value.oneCell' max2V min2V afterH putBack frzFrom frzO rebO backIx nilEq_sl nilEq_fs nilOp_eql nilOp_neq AV.reb AV.rebL
attribute [local simp ↓] runK_skip runK_region runK_draw runK_seq runK_cut runK_cond runK_block runK_loop runK_exit runK_label runK_goto runK_ret runK_range contK_nil contK_seq contK_seq_ret contK_seq_exit contK_seq_goto contK_block contK_block_ret contK_block_goto contK_block_exit runO_nil runO_cons roundK_exit roundK_ret roundK_goto exitK_ret cutK_ret cutK_exit runE_done runE_nil runE_take runE_alt condG_true condG_false
set_option maxRecDepth 10000
/-! ## Expire -/
theorem expire1_lease (x : LeaseS) (now : Int) : ACalls Try.prog 39 [.agg (leaseA x), .ptr 0 0 1] [.o .box [.c (.int .i64 now)]] (fun k => decide (k < 1)) (fun r h' => r = .c (.bool (!decide (now < x.u))) ∧ h' = [.o .box [.c (.int .i64 now)]]) := by
  refine acalls mixed Try.func39 rfl Try.ntmps39 rfl fun E hE hst hho => ?_
  have h3 : List.take 3 (leaseA x) = leaseA x := rfl
  simp [h3, hho, -List.reduceReplicate]
  refine call_plain (fun _ => false) (lives_lease x now) (ha := by rfl) (by simp) ?_
  rintro r h' ⟨rfl, rfl⟩
  refine ⟨rfl, ?_⟩
  simp [hho, -List.reduceReplicate]
  refine Ret.sel [0] (fun _ => false) (ho := by rfl) (ha := by rfl) ?_ ?_ (by decide) (by simp) (fun i _ h => ?_) ⟨?_, rfl⟩
  · simp
  · simp
  · have e : i = 0 := of_decide_eq_true h
    subst e; rfl
  · simp
def goneB (now : Int) (x : LeaseS) : Bool := !decide (now < x.u)
def nowO (now : Int) : AObj := .o .box [.c (.int .i64 now)]
/-- the first that is gone, or -1 -/
def IdxAt (l : List LeaseS) (now : Int) (v : Int) : Prop := (∃ i : Nat, ∃ hi : i < l.length, v = i ∧ (∀ k (hk : k < l.length), k < i → goneB now l[k] = false) ∧ goneB now l[i] = true) ∨ (v = -1 ∧ ∀ k (hk : k < l.length), goneB now l[k] = false)
theorem idx_ex (l : List LeaseS) (now : Int) : ∃ v, IdxAt l now v := by
  have key : ∀ n, n ≤ l.length → (∃ i : Nat, ∃ hi : i < l.length, (∀ k (hk : k < l.length), k < i → goneB now l[k] = false) ∧ goneB now l[i] = true) ∨ ∀ k (hk : k < l.length), k < n → goneB now l[k] = false := by
    intro n
    induction n with
    | zero => intro _; exact .inr fun k _ h => by omega
    | succ n ih =>
      intro hn
      rcases ih (by omega) with h | h
      · exact .inl h
      · cases hg : goneB now l[n] with
        | true => exact .inl ⟨n, by omega, h, hg⟩
        | false =>
          refine .inr fun k hk hkn => ?_
          by_cases e : k = n
          · subst e; exact hg
          · exact h k hk (by omega)
  rcases key l.length (Nat.le_refl _) with ⟨i, hi, h1, h2⟩ | h
  · exact ⟨i, .inl ⟨i, hi, rfl, h1, h2⟩⟩
  · exact ⟨-1, .inr ⟨rfl, fun k hk => h k hk hk⟩⟩
theorem indexFunc_lease (l : List LeaseS) (n : Nat) (hn : n = l.length) (hl : n ≤ 5864062014805) (now : Int) (v : Int) (hv : IdxAt l now v) : ACalls Try.prog 61 [.sl 0 3 0 n (n * 3), .clo (.func 39) [] [.ptr 1 0 1]] [rowL l, nowO now] (fun k => decide (k < 2)) (fun r h' => r = .c (.int .i64 v) ∧ h' = [rowL l, nowO now]) := by
  refine acalls mixed Try.func61 rfl Try.ntmps61 rfl fun E hE hst hho => ?_
  simp [rowL, nowO, hho, -List.reduceReplicate]
  refine ⟨by omega, ?_⟩
  refine loop_k mixed (fun j : Nat => ⟨slotsOf 19 [(0, .sl 0 3 0 n (n * 3)), (1, .clo (.func 39) [] [.ptr 1 0 1]), (7, .c (.int .i64 n)), (8, .c (.int .i64 (j : Int)))], [rowL l, nowO now]⟩) (fun j => n - j) (fun j => j ≤ n ∧ ∀ k (hk : k < l.length), k < j → goneB now l[k] = false) 0 ⟨Nat.zero_le _, fun k _ h => by omega⟩ ?_ ?_
  · exact wk_eq (by simp [hE, rowL, lens]) (by simp [rowL, nowO]) (by simp [livH, livO, AV.livL, AV.liv, wkL, wkV, List.range', slotsOf])
  · rintro j ⟨hj, hI⟩
    by_cases hjl : j < n
    · have hjl' : j < l.length := by omega
      have hat := leasesA_at l j hjl'
      have ew : IntKind.i64.wrap ((j : Int) + 1) = (j + 1 : Nat) := by rw [IntWalk.i64_in _ (by omega)]; rfl
      have el : j * 3 + 3 ≤ n * 3 := by omega
      obtain ⟨x, hx⟩ : ∃ x, x = l[j] := ⟨_, rfl⟩
      rw [← hx] at hat
      have hln : l.length * 3 = n * 3 := by omega
      simp (maxSteps := 1000000) [rowL, nowO, slotsOf, hho, hjl, hat, hln, el, -List.reduceReplicate]
      refine call_x [1] (expire1_lease x now) rfl rfl ⟨rfl, rfl⟩ hho (by simp) (by decide) (by simp) (by simp) ?_
      by_cases hg : now < x.u
      · simp (maxSteps := 1000000) [hho, hg, ew, -List.reduceReplicate]
        refine round_next (j + 1) ⟨by omega, fun k hk hkj => ?_⟩ (by omega) ?_
        · by_cases e : k = j
          · subst e; rw [← hx]; simp [goneB, hg]
          · exact hI k hk (by omega)
        · exact wk_eq (by simp [hE, rowL, lens]) (by simp [rowL, nowO]) (by simp [livH, livO, AV.livL, AV.liv, wkL, wkV, List.range', slotsOf])
      · have hgx : goneB now l[j] = true := by rw [← hx]; simp [goneB, hg]
        have hvj : v = j := by
          rcases hv with ⟨i, hi, e, h1, h2⟩ | ⟨_, h1⟩
          · rcases Nat.lt_trichotomy i j with h | h | h
            · rw [hI i hi h] at h2; cases h2
            · rw [e, h]
            · rw [h1 j hjl' h] at hgx; cases hgx
          · rw [h1 j hjl'] at hgx; cases hgx
        simp (maxSteps := 1000000) [hho, hg, ew, -List.reduceReplicate]
        exact Ret.same ⟨by rw [hvj], rfl⟩
    · obtain rfl : j = n := by omega
      have hvm : v = -1 := by
        rcases hv with ⟨i, hi, e, h1, h2⟩ | ⟨e, _⟩
        · rw [hI i hi (by omega)] at h2; cases h2
        · exact e
      simp (maxSteps := 1000000) [rowL, nowO, slotsOf, hho, -List.reduceReplicate]
      exact Ret.same ⟨by rw [hvm], rfl⟩
theorem filter_none (now : Int) (l : List LeaseS) (h : ∀ k (hk : k < l.length), goneB now l[k] = false) : l.filter (fun x => decide (now < x.u)) = l := by
  rw [List.filter_eq_self]
  intro a ha
  obtain ⟨i, hi, rfl⟩ := List.getElem_of_mem ha
  simpa [goneB] using h i hi
def liveL (l : List LeaseS) (now : Int) : List LeaseS := l.filter fun x => decide (now < x.u)
theorem liveL_succ (l : List LeaseS) (now : Int) (j : Nat) (hj : j < l.length) : liveL (l.take (j + 1)) now = liveL (l.take j) now ++ (if now < l[j].u then [l[j]] else []) := by
  unfold liveL
  rw [List.take_succ_eq_append_getElem hj, List.filter_append]
  congr 1
  by_cases h : now < l[j].u <;> simp [List.filter_cons, h]
theorem leasesA_cut (l : List LeaseS) (j : Nat) : List.take (j * 3) (leasesA l) = leasesA (l.take j) := flat_take leaseA 3 (by simp) l j
set_option maxHeartbeats 4000000 in
theorem deleteFunc_lease (l : List LeaseS) (n : Nat) (hn : n = l.length) (hl : n ≤ 5864062014805) (now : Int) : ACalls Try.prog 38 [.sl 0 3 0 n (n * 3), .clo (.func 39) [] [.ptr 1 0 1]] [rowL l, nowO now] (fun k => decide (k = 1)) (fun r h' => r = .sl 0 3 0 (liveL l now).length ((liveL l now).length * 3) ∧ h' = [rowL (liveL l now), nowO now]) := by
  refine acalls mixed Try.func38 rfl Try.ntmps38 rfl fun E hE hst hho => ?_
  simp [rowL, nowO, hho, -List.reduceReplicate]
  obtain ⟨v, hv⟩ := idx_ex l now
  refine call_x [0, 1] (indexFunc_lease l n hn hl now v hv) rfl rfl ⟨rfl, rfl⟩ hho (by simp) (by decide) (by simp) (by simp) ?_
  rcases hv with ⟨i0, hi0, rfl, h1, h2⟩ | ⟨rfl, h1⟩
  · have hin : i0 < n := by omega
    have ew0 : IntKind.i64.wrap ((i0 : Int) + 1) = (i0 + 1 : Nat) := by rw [IntWalk.i64_in _ (by omega)]; rfl
    have hne : ¬ (i0 : Int) = -1 := by omega
    simp (maxSteps := 1000000) [rowL, nowO, hho, hne, ew0, -List.reduceReplicate]
    have hpre : liveL (l.take i0) now = l.take i0 := filter_none now _ fun k hk => by
      rw [List.length_take] at hk
      rw [List.getElem_take]
      exact h1 k (by omega) (by omega)
    have hgi : ¬ now < l[i0].u := by simpa [goneB] using h2
    have hpre1 : liveL (l.take (i0 + 1)) now = l.take i0 := by rw [liveL_succ l now i0 hi0, if_neg hgi, List.append_nil, hpre]
    refine loop_k2 mixed (fun x : Nat × Nat × List LeaseS => ⟨slotsOf 42 [(0, .sl 0 3 0 n (n * 3)), (1, .clo (.func 39) [] [.ptr 1 0 1]), (5, .c (.int .i64 (x.1 : Int))), (6, .c (.int .i64 (x.2.1 : Int)))], [rowL x.2.2, nowO now]⟩) (fun x => n - x.2.1) (fun x => x.1 < x.2.1 ∧ x.2.1 ≤ n ∧ x.2.2.length = n ∧ x.2.2.take x.1 = liveL (l.take x.2.1) now ∧ x.2.2.drop x.2.1 = l.drop x.2.1) (i0, i0 + 1, l)
      (fun x : Nat × List LeaseS => ⟨slotsOf 42 [(0, .sl 0 3 0 n (n * 3)), (5, .c (.int .i64 (x.1 : Int)))], [rowL x.2, nowO now]⟩) (fun x => x.1 < n ∧ x.2.length = n ∧ x.2.take x.1 = liveL l now) 0 ⟨by simp only; omega, by simp only; omega, hn.symm, hpre1.symm, rfl⟩ ?_ ?_ ?_
    · exact wk_eq (by simp [hE, rowL, lens]) (by simp [rowL, nowO]) (by simp [livH, livO, AV.livL, AV.liv, wkL, wkV, List.range', slotsOf])
    · rintro ⟨i, l1⟩ ⟨g1, g2, g3⟩
      simp only at g1 g2 g3
      have gi : (i : Int) < n := by omega
      have hin2 : i ≤ n := by omega
      simp (maxSteps := 1000000) [rowL, nowO, slotsOf, hho, g1, g2, hin2, -List.reduceReplicate]
      have hlen : (liveL l now).length = i := by rw [← g3, List.length_take]; omega
      have hrz : (rowZ (n - i) [Value.int .i64 0, Value.int .i64 0, Value.int .i64 0]).length = (n - i) * 3 := by rw [rowZ_length]; rfl
      have hL : (leasesA l1).length = n * 3 := by simp [g2]
      refine ⟨by omega, by rw [hrz]; omega, ?_⟩
      refine Ret.cut 0 i rfl ?_ (by omega) rfl ?_ ?_ ?_
      · simp only [List.length_append, List.length_take, List.length_drop, hrz, hL]; omega
      · rw [List.all_eq_true]
        intro v hv
        simp only [List.mem_append] at hv
        rcases hv with hv | hv | hv
        · exact (leasesA_all l1).2 trivial v (List.mem_of_mem_take hv)
        · obtain ⟨q, hq⟩ := List.getElem?_of_mem hv
          obtain ⟨u, _, rfl⟩ := rowZ_at _ _ _ _ hq
          rfl
        · exact (leasesA_all l1).2 trivial v (List.mem_of_mem_drop hv)
      · simp [livH, livO, AV.livL, AV.liv]
      · refine Ret.same ⟨by rw [hlen], ?_⟩
        have e : List.take (i * 3) (List.take (i * 3) (leasesA l1) ++ (rowZ (n - i) [Value.int .i64 0, Value.int .i64 0, Value.int .i64 0] ++ List.drop (i * 3 + (n - i) * 3) (leasesA l1))) = leasesA (liveL l now) := by
          rw [List.take_append_of_le_length (by rw [List.length_take, hL]; omega), List.take_take, Nat.min_self, leasesA_cut, g3]
        simp only [List.set_cons_zero, e]
    · rintro ⟨i, j, l1⟩ ⟨g1, g2, g3, g4, g5⟩
      simp only at g1 g2 g3 g4 g5
      by_cases hjn : j < n
      · have hjl : j < l.length := by omega
        have hjl1 : j < l1.length := by omega
        have hil1 : i < l1.length := by omega
        have hin : i < n := by omega
        have hini : (i : Int) < n := by omega
        have ewj : IntKind.i64.wrap ((j : Int) + 1) = (j + 1 : Nat) := by rw [IntWalk.i64_in _ (by omega)]; rfl
        have ewi : IntKind.i64.wrap ((i : Int) + 1) = (i + 1 : Nat) := by rw [IntWalk.i64_in _ (by omega)]; rfl
        have hat := leasesA_at l1 j hjl1
        have hx : l1[j] = l[j] := by
          have := congrArg (fun z => z[0]?) g5
          simp only [List.getElem?_drop, Nat.add_zero] at this
          rw [List.getElem?_eq_getElem hjl1, List.getElem?_eq_getElem hjl] at this
          injection this
        obtain ⟨x, hx1⟩ : ∃ x, x = l[j] := ⟨_, rfl⟩
        rw [hx, ← hx1] at hat
        have h3 : List.take 3 (leaseA x) = leaseA x := rfl
        have el : j * 3 + 3 ≤ n * 3 := by omega
        have hs := leasesA_set' l1 i hil1 x
        have hlv := liveL_succ l now j hjl
        rw [← hx1] at hlv
        have hdrop : l.drop (j + 1) = l1.drop (j + 1) := by
          have := congrArg (List.drop 1) g5
          rw [List.drop_drop, List.drop_drop] at this
          exact this.symm
        simp (maxSteps := 1000000) [rowL, nowO, slotsOf, hho, hjn, g3, hat, h3, el, -List.reduceReplicate]
        refine call_x [1] (expire1_lease x now) rfl rfl ⟨rfl, rfl⟩ hho (by simp) (by decide) (by simp) (by simp) ?_
        by_cases hg : now < x.u
        · rw [if_pos hg] at hlv
          simp (maxSteps := 1000000) [hho, hg, ewj, ewi, g3, h3, hin, hini, hs, -List.reduceReplicate]
          refine ⟨by omega, ?_⟩
          refine round_next (i + 1, j + 1, l1.set i x) ⟨by simp only; omega, by simp only; omega, by simp [g3], ?_, ?_⟩ (by simp only; omega) ?_
          · simp only
            rw [hlv, ← g4, List.take_succ_eq_append_getElem (by simpa using hil1), List.take_set, List.getElem_set_self]
            congr 1
            rw [List.set_eq_of_length_le (by rw [List.length_take]; omega)]
          · simp only
            rw [List.drop_set_of_lt (by omega)]
            exact hdrop.symm
          · exact wk_of 2 1 (by simp) (by simp [hE, rowL, lens]) (by simp [rowL, nowO]) (by simp [livH, livO, AV.livL, AV.liv, wkL, wkV, List.range', rowL]) (by simp [livH, livO, AV.livL, AV.liv, wkL, wkV, List.range', slotsOf])
        · rw [if_neg hg, List.append_nil] at hlv
          simp (maxSteps := 1000000) [hho, hg, ewj, -List.reduceReplicate]
          refine round_next (i, j + 1, l1) ⟨by simp only; omega, by simp only; omega, g3, by simp only; rw [g4, hlv], by simp only; exact hdrop.symm⟩ (by simp only; omega) ?_
          exact wk_of 2 1 (by simp) (by simp [hE, rowL, lens]) (by simp [rowL, nowO]) (by simp [livH, livO, AV.livL, AV.liv, wkL, wkV, List.range', rowL]) (by simp [livH, livO, AV.livL, AV.liv, wkL, wkV, List.range', slotsOf])
      · simp (maxSteps := 1000000) [rowL, nowO, slotsOf, hho, hjn, g3, -List.reduceReplicate]
        obtain rfl : j = n := by omega
        refine exit_to (i, l1) ⟨by simp only; omega, g3, by simp only; rw [g4, hn, List.take_length]⟩ ?_
        exact wk_eq (by simp [hE, rowL, lens]) (by simp [rowL, nowO]) (by simp [livH, livO, AV.livL, AV.liv, wkL, wkV, List.range', slotsOf])
  · have hlv : liveL l now = l := filter_none now l h1
    rw [hlv, ← hn]
    simp (maxSteps := 1000000) [rowL, nowO, hho, -List.reduceReplicate]
    refine Ret.sel [0, 1] (fun _ => false) (ho := by rfl) (ha := by rfl) ?_ ?_ (by decide) (by simp) (fun i _ h => ?_) ⟨rfl, rfl⟩
    · simp
    · simp
    · have e : i = 1 := of_decide_eq_true h
      subst e; rfl
end Go.Proofs.Ytglhmhpaoebifaa
