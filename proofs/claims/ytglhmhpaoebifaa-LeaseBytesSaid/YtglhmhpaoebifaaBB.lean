import Derived.Test.YtglhmhpaoebifaaBA
import Derived.Test.YtglhmhpaoebifaaWk
namespace Go.Proofs.Ytglhmhpaoebifaa
set_option linter.unusedVariables false
set_option linter.unusedSimpArgs false
open Go.RowKit
attribute [local simp] isCut_nil isCut_region isCut_seq isCut_block isCut_loop isCut_cond isCut_skip isCut_exit isCut_ret isCut_range swapK putK altK condK_bool pickP_bool stepP stepO onPure_some onPure_none onImpl_some onImpl_none stepC onGP_some onGP_none onGV_some condG mkG onIt_it nextP_ptr takeP_eq takeV_some takeN_none takeN_some takeG_some takeO_some altO_some pureV binV2 eqF eqOp ovlV ovl2 rowAt capV binV intBin strBin isSh shV fldV ixV sliceV slice3V loadAV nilV lenV callV unV convV viewS cellsH loadV fldCut AV.ung AV.ungs AV.gc AV.cells AS.ev AS.put anyS gcsV lens lnO gV guardV retK RetP_eq resV oneV anyRo loIx hiIx implO callP_clo evL gcsL clearV storeAV AS.push AS.setO appV appZ shortS copyV buildV partsV fillV srcV fzO okV isCell_c isCell_ptr isCell_sl isCell_fs isCell_fp isCell_clo rowZ_one rowZ_zero rowZ_2 rowZ_3 rowZ_4 rowZ_5 rowZ_6 rowZ_7 rowZ_8 rowZ_9 rowZ_10 rowZ_11 rowZ_12 noHo Value.oneCell' max2V min2V afterH putBack frzFrom frzO rebO backIx nilEq_sl nilEq_fs nilOp_eql nilOp_neq AV.reb AV.rebL
attribute [local simp ↓] runK_skip runK_region runK_draw runK_seq runK_cut runK_cond runK_block runK_loop runK_exit runK_label runK_goto runK_ret runK_range contK_nil contK_seq contK_seq_ret contK_seq_exit contK_seq_goto contK_block contK_block_ret contK_block_goto contK_block_exit runO_nil runO_cons roundK_exit roundK_ret roundK_goto exitK_ret cutK_ret cutK_exit runE_done runE_nil runE_take runE_alt condG_true condG_false
set_option maxRecDepth 10000
/-! ## Leases, and their sort -/
structure LeaseS where
  s : Int
  v : Int
  u : Int

def leaseA (x : LeaseS) : List AV := [.c (.int .i64 x.s), .c (.int .i64 x.v), .c (.int .i64 x.u)]
@[simp] theorem leaseA_length (x : LeaseS) : (leaseA x).length = 3 := rfl
def leasesA (l : List LeaseS) : List AV := l.flatMap leaseA
@[simp] theorem leasesA_length (l : List LeaseS) : (leasesA l).length = l.length * 3 := flat_length leaseA 3 (by simp) l
theorem leasesA_at (l : List LeaseS) (j : Nat) (hj : j < l.length) : List.take 3 (List.drop (j * 3) (leasesA l)) = leaseA l[j] := flat_at leaseA 3 (by simp) l j hj
theorem leasesA_set (l : List LeaseS) (j : Nat) (hj : j < l.length) (y : LeaseS) : List.take (j * 3) (leasesA l) ++ leaseA y ++ List.drop (j * 3 + 3) (leasesA l) = leasesA (l.set j y) := flat_set leaseA 3 (by simp) l j hj y
theorem leasesA_set' (l : List LeaseS) (j : Nat) (hj : j < l.length) (y : LeaseS) : List.take (j * 3) (leasesA l) ++ (leaseA y ++ List.drop (j * 3 + 3) (leasesA l)) = leasesA (l.set j y) := by rw [← leasesA_set l j hj y, List.append_assoc]
@[simp] theorem leaseA_all (x : LeaseS) : (∀ a ∈ leaseA x, isD a = true) ↔ True := iff_true_intro <| by simp [leaseA, isD]
@[simp] theorem leaseA_cell (x : LeaseS) : (∀ a ∈ leaseA x, isCell a = true) ↔ True := iff_true_intro <| by simp [leaseA, isCell_c, Value.oneCell']
@[simp] theorem leasesA_all (l : List LeaseS) : (∀ x ∈ leasesA l, isD x = true) ↔ True := iff_true_intro <| by
  intro x hx
  simp only [leasesA, List.mem_flatMap, leaseA, List.mem_cons, List.not_mem_nil, or_false] at hx
  obtain ⟨b, _, rfl | rfl | rfl⟩ := hx <;> rfl
@[simp] theorem leasesA_cell (l : List LeaseS) : (∀ x ∈ leasesA l, isCell x = true) ↔ True := iff_true_intro <| by
  intro x hx
  simp only [leasesA, List.mem_flatMap, leaseA, List.mem_cons, List.not_mem_nil, or_false] at hx
  obtain ⟨b, _, rfl | rfl | rfl⟩ := hx <;> rfl
def rowL (l : List LeaseS) : AObj := .o (.row 48 3) (leasesA l)
def cmpI (a b : Int) : Int := if a < b then -1 else if b < a then 1 else 0
def ltL (x y : LeaseS) : Bool := decide (x.s < y.s)
theorem cmpI_neg (a b : Int) : cmpI a b < 0 ↔ a < b := by
  unfold cmpI
  repeat' split
  all_goals omega
theorem isNaN_int (a : Int) : ACalls Try.prog 69 [.c (.int .i64 a)] [] (fun _ => false) (fun r h' => r = .c (.bool false) ∧ h' = []) := by
  refine acalls mixed Try.func69 rfl Try.ntmps69 rfl fun E hE _ hho => ?_
  simp [hho, -List.reduceReplicate]
  exact Ret.same ⟨rfl, rfl⟩
theorem compare_int (a b : Int) : ACalls Try.prog 57 [.c (.int .i64 a), .c (.int .i64 b)] [] (fun _ => false) (fun r h' => r = .c (.int .i64 (cmpI a b)) ∧ h' = []) := by
  refine acalls mixed Try.func57 rfl Try.ntmps57 rfl fun E hE _ hho => ?_
  simp [hho, -List.reduceReplicate]
  refine call_plain (fun _ => false) (isNaN_int a) (ha := by rfl) (by simp) ?_
  rintro r h' ⟨rfl, rfl⟩
  refine ⟨rfl, ?_⟩
  simp [hho, -List.reduceReplicate]
  refine call_plain (fun _ => false) (isNaN_int b) (ha := by rfl) (by simp) ?_
  rintro r h' ⟨rfl, rfl⟩
  refine ⟨rfl, ?_⟩
  simp [hho, -List.reduceReplicate]
  split
  · rename_i h
    exact Ret.same ⟨by simp [cmpI, h], rfl⟩
  · rename_i h
    split
    · rename_i h2
      exact Ret.same ⟨by simp [cmpI, h, h2], rfl⟩
    · rename_i h2
      exact Ret.same ⟨by simp [cmpI, h, h2], rfl⟩
theorem bySession_lease (x y : LeaseS) : ACalls Try.prog 33 [.agg (leaseA x), .agg (leaseA y)] [] (fun _ => false) (fun r h' => r = .c (.int .i64 (cmpI x.s y.s)) ∧ h' = []) := by
  refine acalls mixed Try.func33 rfl Try.ntmps33 rfl fun E hE _ hho => ?_
  simp [leaseA, hho, -List.reduceReplicate]
  refine call_plain (fun _ => false) (compare_int x.s y.s) (ha := by rfl) (by simp) ?_
  rintro r h' ⟨rfl, rfl⟩
  refine ⟨rfl, ?_⟩
  simp [hho, -List.reduceReplicate]
  exact Ret.drop (by rfl) ⟨rfl, rfl⟩
def cloBy : AV := .clo (.func 33) [] []
set_option maxHeartbeats 4000000 in
theorem insSort_lease (d : List LeaseS) (n : Nat) (hn : n = d.length) (hd : n ≤ 9000000000000000) (a b : Nat) (ha : a ≤ n) (hb : b ≤ n) :
    ACalls Try.prog 71 [.sl 0 3 0 n (n * 3), .c (.int .i64 a), .c (.int .i64 b), cloBy] [rowL d] (fun k => decide (k < 1)) (fun r h' => r = .tup [] ∧ h' = [rowL (insS ltL d a b)]) := by
  refine acalls mixed Try.func71 rfl Try.ntmps71 rfl fun E hE hst hho => ?_
  have ewa : IntKind.i64.wrap ((a : Int) + 1) = (a + 1 : Nat) := by rw [IntWalk.i64_in _ (by omega)]; rfl
  simp [rowL, cloBy, hho, ewa, ← hn, -List.reduceReplicate]
  refine loop_k mixed (fun x : Nat × List LeaseS => ⟨slotsOf 53 [(0, .sl 0 3 0 n (n * 3)), (1, .c (.int .i64 a)), (2, .c (.int .i64 b)), (3, cloBy), (8, .c (.int .i64 (x.1 : Int)))], [rowL x.2]⟩) (fun x => b - x.1) (fun x => a + 1 ≤ x.1 ∧ x.2.length = n ∧ insF ltL x.2 a x.1 (b - x.1) = insS ltL d a b ∧ x.1 ≤ 9000000000000001) (a + 1, d) ⟨Nat.le_refl _, hn.symm, rfl, by simp only; omega⟩ ?_ ?_
  · exact wk_eq (by simp [hE, rowL, lens]) (by simp [rowL]) (by simp [livH, livO, AV.livL, AV.liv, wkL, wkV, List.range', slotsOf, cloBy])
  · rintro ⟨i, d1⟩ ⟨h1, h2, h3, h4⟩
    simp only at h1 h2 h3 h4
    by_cases hib : i < b
    · have hin : i < n := by omega
      simp [rowL, cloBy, slotsOf, hho, hib, -List.reduceReplicate]
      have ewi : IntKind.i64.wrap ((i : Int) + 1) = (i + 1 : Nat) := by rw [IntWalk.i64_in _ (by omega)]; rfl
      refine loop_k2 mixed (fun x : Nat × List LeaseS => ⟨slotsOf 53 [(0, .sl 0 3 0 n (n * 3)), (1, .c (.int .i64 a)), (2, .c (.int .i64 b)), (3, cloBy), (8, .c (.int .i64 (i : Int))), (9, .c (.int .i64 (x.1 : Int)))], [rowL x.2]⟩) (fun x => x.1) (fun x => x.1 ≤ i ∧ a ≤ x.1 ∧ x.2.length = n ∧ sink ltL x.2 a x.1 = sink ltL d1 a i) (i, d1)
        (fun y : List LeaseS => ⟨slotsOf 53 [(0, .sl 0 3 0 n (n * 3)), (1, .c (.int .i64 a)), (2, .c (.int .i64 b)), (3, cloBy), (8, .c (.int .i64 (i : Int)))], [rowL y]⟩) (fun y => y = sink ltL d1 a i) 2 ⟨Nat.le_refl _, by simp only; omega, h2, rfl⟩ ?_ ?_ ?_
      · exact wk_eq (by simp [hE, rowL, lens]) (by simp [rowL]) (by simp [livH, livO, AV.livL, AV.liv, wkL, wkV, List.range', slotsOf, cloBy])
      · rintro y rfl
        simp [rowL, cloBy, slotsOf, hho, ewi, -List.reduceReplicate]
        refine round_next (i + 1, sink ltL d1 a i) ⟨by simp only; omega, by simp [h2], ?_, by simp only; omega⟩ (by simp only; omega) ?_
        · rw [← h3]
          obtain ⟨k, hk⟩ : ∃ k, b - i = k + 1 := ⟨b - i - 1, by omega⟩
          rw [hk, insF, show b - (i + 1) = k from by omega]
        · exact wk_eq (by simp [hE, rowL, lens]) (by simp [rowL]) (by simp [livH, livO, AV.livL, AV.liv, wkL, wkV, List.range', slotsOf, cloBy])
      · rintro ⟨j, d2⟩ ⟨g1, g2, g3, g4⟩
        simp only at g1 g2 g3 g4
        by_cases hja : a < j
        · have hjai : (a : Int) < j := by omega
          obtain ⟨k, rfl⟩ : ∃ k, j = k + 1 := ⟨j - 1, by omega⟩
          have hk1 : k + 1 < d2.length := by omega
          have hk0 : k < d2.length := by omega
          have e1 := leasesA_at d2 (k + 1) hk1
          have e0 := leasesA_at d2 k hk0
          have ewj : IntKind.i64.wrap (((k + 1 : Nat) : Int) - 1) = (k : Nat) := by rw [IntWalk.i64_in _ (by omega)]; omega
          obtain ⟨x, hx⟩ : ∃ x, x = d2[k + 1] := ⟨_, rfl⟩
          obtain ⟨y, hy⟩ : ∃ y, y = d2[k] := ⟨_, rfl⟩
          rw [← hx] at e1
          rw [← hy] at e0
          have el1 : (k + 1) * 3 + 3 ≤ n * 3 := by omega
          have el0 : k * 3 + 3 ≤ n * 3 := by omega
          obtain ⟨J, hJ⟩ : ∃ J, J = k + 1 := ⟨_, rfl⟩
          rw [← hJ] at e1 el1 ewj hja hjai hk1 g4 ⊢
          simp [rowL, cloBy, slotsOf, hho, -List.reduceReplicate]
          have hk0' : (k : Int) < n := by omega
          have hjk : (J : Int) < n := by omega
          refine draw_k hho (.take 0 (.take 1 (.take 2 (.take 3 (.take 4 (.take 5 (.take 6 (.take 7 (.take 8 (.take 9 (.take 10 (.take 11 (.take 12 (.take 13 (.alt 14 (.take 15 (.take 16 (.done))) (.nil)))))))))))))))) [0] [] (by decide +kernel) (by simp) ?_
          simp (maxSteps := 1000000) [hho, hjk, hja, hjai, ewj, e0, e1, el0, el1, hk1, hk0', undef, onGP_none, condG_false, roOf, holdOf, wrOf, altK, heldOk, Region.binds, -List.reduceReplicate]
          refine ⟨by omega, ⟨by omega, by omega⟩, by omega, ⟨by omega, by omega⟩, ?_⟩
          intro E1
          refine call_plain (fun _ => false) (bySession_lease x y) (ha := by rfl) (by simp) ?_
          rintro r h' ⟨rfl, rfl⟩
          refine ⟨rfl, ?_⟩
          have hlt : ltAt ltL d2 (k + 1) k = decide (x.s < y.s) := by rw [ltAt_at _ _ (by omega) hk0, ← hy]; subst hJ; rw [← hx]; rfl
          by_cases hxy : x.s < y.s
          · have hc : cmpI x.s y.s < 0 := (cmpI_neg _ _).2 hxy
            simp (maxSteps := 1000000) [hho, hc, roOf, holdOf, wrOf, altK, heldOk, Region.binds, -List.reduceReplicate]
            refine draw_k hho (.take 0 (.take 1 (.take 2 (.take 3 (.take 4 (.take 5 (.take 6 (.take 7 (.take 8 (.take 9 (.take 10 (.take 11 (.take 12 (.take 13 (.take 14 (.alt 15 (.take 16 (.alt 17 (.done) (.nil))) (.nil))))))))))))))))) [0] [(15, [0]), (17, [0])] (by decide +kernel) (by simp) ?_
            have hs1 := leasesA_set' d2 J (by omega) y
            have hs2 := leasesA_set' (d2.set J y) k (by simp; omega) x
            simp (maxSteps := 1000000) [hho, g3, hjk, hk0', e0, e1, el0, el1, ewj, hs1, hs2, roOf, holdOf, wrOf, altK, heldOk, Region.binds, -List.reduceReplicate]
            intro E1 E2
            have hsw : swp d2 (k + 1) k = (d2.set J y).set k x := by rw [swp_at d2 (by omega) hk0, ← hx, ← hy, hJ]
            refine round_next (k, (d2.set J y).set k x) ⟨by simp only; omega, by simp only; omega, by simp [g3], ?_⟩ (by simp only; omega) ?_
            · show sink ltL ((d2.set J y).set k x) a k = _
              rw [← g4]
              conv => rhs; rw [hJ, sink, if_pos ⟨by omega, by rw [hlt]; simp [hxy]⟩, hsw]
            · exact wk_eq (by simp [hE, rowL, lens]) (by simp [rowL]) (by simp [livH, livO, AV.livL, AV.liv, wkL, wkV, List.range', slotsOf, cloBy])
          · have hc : ¬ cmpI x.s y.s < 0 := fun h => hxy ((cmpI_neg _ _).1 h)
            simp (maxSteps := 1000000) [hho, hc, roOf, holdOf, wrOf, altK, heldOk, Region.binds, -List.reduceReplicate]
            refine exit_to d2 ?_ ?_
            · rw [← g4, hJ, sink, if_neg (by rw [hlt]; simp [hxy])]
            · exact wk_eq (by simp [hE, rowL, lens]) (by simp [rowL]) (by simp [livH, livO, AV.livL, AV.liv, wkL, wkV, List.range', slotsOf, cloBy])
        · obtain rfl : a = j := by omega
          simp [rowL, cloBy, slotsOf, hho, -List.reduceReplicate]
          refine draw_k hho (.take 0 (.take 1 (.take 2 (.take 3 (.take 4 (.take 5 (.take 6 (.take 7 (.take 8 (.take 9 (.take 10 (.take 11 (.take 12 (.take 13 (.alt 14 (.alt 15 (.alt 16 (.done) (.nil)) (.nil)) (.nil)))))))))))))))) [0] [] (by decide +kernel) (by simp) ?_
          simp (maxSteps := 1000000) [hho, undef, onGP_none, condG_false, roOf, holdOf, wrOf, altK, heldOk, Region.binds, -List.reduceReplicate]
          intros
          refine exit_to d2 ?_ ?_
          · rw [← g4]
            cases a with
            | zero => rfl
            | succ a => rw [sink, if_neg (by omega)]
          · exact wk_eq (by simp [hE, rowL, lens]) (by simp [rowL]) (by simp [livH, livO, AV.livL, AV.liv, wkL, wkV, List.range', slotsOf, cloBy])
    · simp [rowL, cloBy, slotsOf, hho, hib, -List.reduceReplicate]
      have hz : b - i = 0 := by omega
      rw [hz] at h3
      refine Ret.same ⟨rfl, by rw [← h3]; rfl⟩
end Go.Proofs.Ytglhmhpaoebifaa
