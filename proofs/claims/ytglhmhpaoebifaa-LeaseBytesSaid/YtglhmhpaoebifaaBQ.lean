import Derived.Test.YtglhmhpaoebifaaBP
import Derived.Test.YtglhmhpaoebifaaBM
namespace Go.Proofs.Ytglhmhpaoebifaa
set_option linter.unusedVariables false
set_option linter.unusedSimpArgs false
open Go.RowKit
attribute [local simp] isCut_nil isCut_region isCut_seq isCut_block isCut_loop isCut_cond isCut_skip isCut_exit isCut_ret isCut_range swapK putK altK condK_bool pickP_bool stepP stepO onPure_some onPure_none onImpl_some onImpl_none stepC onGP_some onGP_none onGV_some condG mkG onIt_it nextP_ptr takeP_eq takeV_some takeN_none takeN_some takeG_some takeO_some altO_some pureV binV2 eqF eqOp ovlV ovl2 rowAt capV binV intBin strBin isSh shV fldV ixV sliceV slice3V loadAV nilV lenV callV unV convV viewS cellsH loadV fldCut AV.ung AV.ungs AV.gc AV.cells AS.ev AS.put anyS gcsV lens lnO gV guardV retK RetP_eq resV oneV anyRo loIx hiIx implO callP_clo evL gcsL clearV storeAV AS.push AS.setO appV appZ shortS copyV buildV partsV fillV srcV fzO okV isCell_c isCell_ptr isCell_sl isCell_fs isCell_fp isCell_clo rowZ_one rowZ_zero rowZ_2 rowZ_3 rowZ_4 rowZ_5 rowZ_6 rowZ_7 rowZ_8 rowZ_9 rowZ_10 rowZ_11 rowZ_12 noHo Value.oneCell' max2V min2V afterH putBack frzFrom frzO rebO backIx nilEq_sl nilEq_fs nilOp_eql nilOp_neq AV.reb AV.rebL
attribute [local simp ↓] runK_skip runK_region runK_draw runK_seq runK_cut runK_cond runK_block runK_loop runK_exit runK_label runK_goto runK_ret runK_range contK_nil contK_seq contK_seq_ret contK_seq_exit contK_seq_goto contK_block contK_block_ret contK_block_goto contK_block_exit runO_nil runO_cons roundK_exit roundK_ret roundK_goto exitK_ret cutK_ret cutK_exit runE_done runE_nil runE_take runE_alt condG_true condG_false
set_option maxRecDepth 10000
/-! ## LeaseTwo -/
structure Op15S where
  k : Int
  s : Int
  v : Int
  u : Int
def op15A (o : Op15S) : List AV := [.c (.int .i64 o.k), .c (.int .i64 o.s), .c (.int .i64 o.v), .c (.int .i64 o.u)]
@[simp] theorem op15A_length (o : Op15S) : (op15A o).length = 4 := rfl
@[simp] theorem op15A_cell (o : Op15S) : (∀ a ∈ op15A o, isCell a = true) ↔ True := iff_true_intro <| by simp [op15A, isCell_c, Value.oneCell']
def i64O (o : Op15S) : Prop := i64ok o.k ∧ i64ok o.s ∧ i64ok o.v ∧ i64ok o.u
def ops15A (l : List Op15S) : List AV := l.flatMap op15A
@[simp] theorem ops15A_length (l : List Op15S) : (ops15A l).length = l.length * 4 := flat_length op15A 4 (by simp) l
theorem ops15A_at (l : List Op15S) (j : Nat) (hj : j < l.length) : List.take 4 (List.drop (j * 4) (ops15A l)) = op15A l[j] := flat_at op15A 4 (by simp) l j hj
def opnOp15 : Opn Try.prog 33 Op15S :=
  (opnStruct Try.underlying33 rfl (opnCons 1 (opnInt .i64 Try.underlying3 (by kernel_rfl)) (by kernel_rfl) rfl (opnCons 1 (opnInt .i64 Try.underlying3 (by kernel_rfl)) (by kernel_rfl) rfl (opnCons 1 (opnInt .i64 Try.underlying3 (by kernel_rfl)) (by kernel_rfl) rfl (opnCons 1 (opnInt .i64 Try.underlying3 (by kernel_rfl)) (by kernel_rfl) rfl (opnNil 4))))) (by kernel_rfl)).map
    (fun x : Int × Int × Int × Int × Unit => (⟨x.1, x.2.1, x.2.2.1, x.2.2.2.1⟩ : Op15S)) op15A i64O (fun _ => rfl) (fun x h => ⟨bounds_i64 h.1, bounds_i64 h.2.1, bounds_i64 h.2.2.1, bounds_i64 h.2.2.2.1⟩) fun _ => by kernel_rfl
def opnScript15 : Opn Try.prog 31 (List Op15S) :=
  (opnSlice opnOp15 4 Try.underlying31 (by kernel_rfl) (by kernel_rfl) (by decide)).map id (fun l => [.fs 4 l.length (ops15A l)]) (fun l => l.length ≤ maxLen ∧ ∀ x ∈ l, i64O x) (fun _ => rfl) (fun l h => h) fun _ => by kernel_rfl
theorem u64_mod (k : Int) (c : Nat) (hc : 0 < c) : ∃ m : Nat, m < c ∧ (IntKind.u64.wrap k).tmod (c : Int) = (m : Int) := by
  have h0 : 0 ≤ IntKind.u64.wrap k := by
    show 0 ≤ k % 2 ^ 64
    exact Int.emod_nonneg _ (by decide)
  refine ⟨((IntKind.u64.wrap k).tmod (c : Int)).toNat, ?_, ?_⟩
  · have h1 := Int.tmod_lt_of_pos (IntKind.u64.wrap k) (show (0 : Int) < c by omega)
    have h2 := Int.tmod_nonneg (c : Int) h0
    omega
  · have h2 := Int.tmod_nonneg (c : Int) h0
    omega
theorem new_nil : ACalls Try.prog 8 [.fs 3 0 []] [] (fun _ => false) (fun r h' => r = .tup [.ptr 0 0 1, .c (.int .i64 0)] ∧ h' = bookO []) :=
  new_core [] (by decide) _ (fun _ => ⟨rfl, rfl⟩) fun h => absurd (fun i hi => by simp [stabS] at hi) h
structure St15 where
  l : List LeaseS
  ver : Int
  now : Int
structure Inv15 (j : Nat) (x : St15) : Prop where
  two : Two x.l x.ver x.now
  v0 : 0 ≤ x.ver
  v1 : x.ver ≤ j
  n0 : 0 ≤ x.now
  n1 : x.now ≤ 3 * j
  len : x.l.length ≤ j
def slots15 (sc : List Op15S) (j : Nat) (x : St15) : AS := ⟨slotsOf 109 [(0, .fs 4 sc.length (ops15A sc)), (3, .ptr 0 0 1), (5, .c (.int .i64 x.ver)), (6, .c (.int .i64 x.now)), (20, .fs 4 sc.length (ops15A sc)), (21, .c (.int .i64 sc.length)), (22, .c (.int .i64 (j : Int)))], bookO x.l⟩
set_option maxHeartbeats 8000000 in
theorem two_walk (sc : List Op15S) (hsc : sc.length ≤ maxLen) : ACalls Try.prog 4 [.fs 4 sc.length (ops15A sc)] [] (fun _ => false) (fun r h' => r = .c (.bool true)) := by
  refine acalls mixed Try.func4 rfl Try.ntmps4 rfl fun E hE hst hho => ?_
  simp (maxSteps := 1000000) [hho, -List.reduceReplicate]
  refine call_plain (fun _ => false) first_lease (ha := by rfl) (by simp) ?_
  rintro r h' ⟨rfl, rfl⟩
  refine ⟨rfl, ?_⟩
  simp (maxSteps := 1000000) [hho, -List.reduceReplicate]
  refine callG_nilAt 0 3 rfl ?_
  refine call_x [] new_nil rfl rfl ⟨rfl, rfl⟩ hho (by simp) (by decide) (by simp) (by simp) ?_
  simp (maxSteps := 1000000) [bookO, rowL, hho, -List.reduceReplicate]
  refine loop_k2c [20] mixed (fun x : Nat × St15 => slots15 sc x.1 x.2) (fun x => sc.length - x.1) (fun x => x.1 ≤ sc.length ∧ x.1 ≤ 150 ∧ Inv15 x.1 x.2) (0, ⟨[], 0, 0⟩) (fun x : St15 => ⟨slotsOf 109 [(3, .ptr 0 0 1), (5, .c (.int .i64 x.ver)), (6, .c (.int .i64 x.now))], bookO x.l⟩) (fun x => Inv15 150 x) 0 ⟨Nat.zero_le _, Nat.zero_le _, ⟨⟨List.Pairwise.nil, fun x h => by cases h⟩, by decide, by decide, by decide, by decide, Nat.le_refl _⟩⟩ ?_ ?_ ?_
  · exact wk_eq (by simp [hE, lens]) (by simp [slots15, bookO, rowL]) (by simp [livH, livO, AV.livL, AV.liv, wkL, wkV, List.range', slotsOf, slots15])
  · intro x hx
    have ew1 : IntKind.i64.wrap (x.ver + 1) = x.ver + 1 := IntWalk.i64_in _ (by have := hx.v0; have := hx.v1; omega)
    have ew2 : IntKind.i64.wrap (x.now + 9) = x.now + 9 := IntWalk.i64_in _ (by have := hx.n0; have := hx.n1; omega)
    have hv0 := hx.v0
    have hv1 := hx.v1
    have hlen := hx.len
    simp (maxSteps := 1000000) [slotsOf, bookO, rowL, hho, ew1, ew2, -List.reduceReplicate]
    refine call_x [0, 1] (may_book x.l (by omega) (x.ver + 1) (x.now + 9) ⟨by omega, by omega⟩) rfl rfl ⟨rfl, rfl⟩ hho (by simp) (by decide) (by simp) (by simp [bookO]) ?_
    rw [two_end hx.two]
    simp (maxSteps := 1000000) [slotsOf, bookO, rowL, hho, ew1, ew2, -List.reduceReplicate]
    exact Ret.drop (by rfl) rfl
  · rintro ⟨j, x⟩ ⟨h1, h2, h3⟩
    simp only at h1 h2 h3
    have hv0 := h3.v0
    have hv1 := h3.v1
    have hn0 := h3.n0
    have hn1 := h3.n1
    have hlen := h3.len
    by_cases hjn : j < sc.length
    · have hat := ops15A_at sc j hjn
      obtain ⟨o, ho⟩ : ∃ o, o = sc[j] := ⟨_, rfl⟩
      rw [← ho] at hat
      have el : j * 4 + 4 ≤ sc.length * 4 := by omega
      have h4 : List.take 4 (op15A o) = op15A o := rfl
      by_cases hj2 : (150 : Int) ≤ j
      · simp (maxSteps := 1000000) [slots15, slotsOf, bookO, rowL, hho, hjn, hat, el, h4, hj2, -List.reduceReplicate]
        obtain rfl : j = 150 := by omega
        refine exit_to x h3 ?_
        exact wk_of 2 1 (by simp) (by simp [hE, lens]) (by simp [bookO, rowL]) (by simp [livH, livO, AV.livL, AV.liv, wkL, wkV, List.range', rowL]) (by simp [livH, livO, AV.livL, AV.liv, wkL, wkV, List.range', slotsOf])
      · have hj3 : j < 150 := by omega
        obtain ⟨K, hK, eK⟩ := u64_mod o.k 4 (by decide)
        simp only [Int.cast_ofNat_Int] at eK
        simp (maxSteps := 1000000) [slots15, slotsOf, bookO, rowL, hho, hjn, hat, el, h4, hj2, eK, -List.reduceReplicate]
        refine seq_cut mixed [] (fun y : St15 => ⟨slotsOf 109 [(0, .fs 4 sc.length (ops15A sc)), (3, .ptr 0 0 1), (5, .c (.int .i64 y.ver)), (6, .c (.int .i64 y.now)), (20, .fs 4 sc.length (ops15A sc)), (21, .c (.int .i64 sc.length)), (22, .c (.int .i64 (j : Int)))], bookO y.l⟩) (fun y => Inv15 (j + 1) y) ?_ ?_
        · intro y hy
          have hylen := hy.len
          have ewj : IntKind.i64.wrap ((j : Int) + 1) = (j + 1 : Nat) := by rw [IntWalk.i64_in _ (by omega)]; rfl
          have ewv : IntKind.i64.wrap (y.ver - 1) = y.ver - 1 := IntWalk.i64_in _ (by have := hy.v0; have := hy.v1; omega)
          simp (maxSteps := 1000000) [slotsOf, bookO, rowL, hho, -List.reduceReplicate]
          refine call_x [0, 1] (oldest_book y.l (by omega) y.now) rfl rfl ⟨rfl, rfl⟩ hho (by simp) (by decide) (by simp) (by simp [bookO]) ?_
          simp (maxSteps := 1000000) [slotsOf, bookO, rowL, hho, -List.reduceReplicate]
          refine call_x [0, 1] (newest_book y.l (by omega) y.now) rfl rfl ⟨rfl, rfl⟩ hho (by simp) (by decide) (by simp) (by simp [bookO]) ?_
          by_cases hne : versL y.l y.now = []
          · simp (maxSteps := 1000000) [slotsOf, bookO, rowL, hho, hne, ewv, ewj, -List.reduceReplicate]
            refine round_next (j + 1, y) ⟨by simp only; omega, by simp only; omega, hy⟩ (by simp only; omega) ?_
            exact wk_eq (by simp [hE, lens]) (by simp [slots15, bookO, rowL]) (by simp [livH, livO, AV.livL, AV.liv, wkL, wkV, List.range', slotsOf, slots15])
          · obtain ⟨e1, e2⟩ := two_ends hy.two hne
            have e1' : ¬ minL (versL y.l y.now) < y.ver - 1 := by omega
            have e2' : ¬ y.ver < maxL (versL y.l y.now) := by omega
            simp (maxSteps := 1000000) [slotsOf, bookO, rowL, hho, hne, ewv, ewj, e1', e2', -List.reduceReplicate]
            refine round_next (j + 1, y) ⟨by simp only; omega, by simp only; omega, hy⟩ (by simp only; omega) ?_
            exact wk_eq (by simp [hE, lens]) (by simp [slots15, bookO, rowL]) (by simp [livH, livO, AV.livL, AV.liv, wkL, wkV, List.range', slotsOf, slots15])
        · match K, hK with
          | 0, _ =>
            have eK' : (IntKind.u64.wrap o.k).tmod 4 = 0 := eK
            obtain ⟨S, hS, eS⟩ := u64_mod o.s 5 (by decide)
            obtain ⟨U, hU, eU⟩ := u64_mod o.u 9 (by decide)
            simp only [Int.cast_ofNat_Int] at eS eU
            have ewS : IntKind.i64.wrap (S : Int) = S := IntWalk.i64_in _ (by omega)
            have ewU : IntKind.i64.wrap (U : Int) = U := IntWalk.i64_in _ (by omega)
            have ewN : IntKind.i64.wrap (x.now + U) = x.now + U := IntWalk.i64_in _ (by omega)
            simp (maxSteps := 1000000) [slotsOf, bookO, rowL, op15A, hho, eK', eS, eU, ewS, ewU, ewN, -List.reduceReplicate]
            refine call_x [0, 1] (take_put x.l (by omega) ⟨S, x.ver, x.now + U⟩ (by simp [rightL]; omega) (fun z _ hz => (h3.two.all z (List.mem_of_getElem? hz)).1)) rfl rfl ⟨rfl, rfl⟩ hho (by simp) (by decide) (by simp) (by simp [bookO]) ?_
            have hpl := putL_len x.l ⟨S, x.ver, x.now + U⟩
            simp (maxSteps := 1000000) [slotsOf, bookO, rowL, hho, -List.reduceReplicate]
            refine cut_to ⟨putL x.l ⟨S, x.ver, x.now + U⟩, x.ver, x.now⟩ ⟨two_take h3.two _ rfl (by simp only; omega), by simp only; omega, by simp only; omega, by simp only; omega, by simp only; omega, by simp only; omega⟩ ?_
            exact wk_of 2 1 (by simp) (by simp [hE, lens]) (by simp [bookO, rowL]) (by simp [livH, livO, AV.livL, AV.liv, wkL, wkV, List.range', rowL]) (by simp [livH, livO, AV.livL, AV.liv, wkL, wkV, List.range', slotsOf])
          | 1, _ =>
            have eK' : (IntKind.u64.wrap o.k).tmod 4 = 1 := eK
            have ewV : IntKind.i64.wrap (x.ver + 1) = x.ver + 1 := IntWalk.i64_in _ (by omega)
            simp (maxSteps := 1000000) [slotsOf, bookO, rowL, op15A, hho, eK', ewV, -List.reduceReplicate]
            refine call_x [0, 1] (may_book x.l (by omega) (x.ver + 1) x.now ⟨by omega, by omega⟩) rfl rfl ⟨rfl, rfl⟩ hho (by simp) (by decide) (by simp) (by simp [bookO]) ?_
            cases hm : mayS x.l (x.ver + 1) x.now with
            | true =>
              simp (maxSteps := 1000000) [slotsOf, bookO, rowL, hho, ewV, -List.reduceReplicate]
              refine cut_to ⟨x.l, x.ver + 1, x.now⟩ ⟨two_may h3.two hv0 hm, by simp only; omega, by simp only; omega, by simp only; omega, by simp only; omega, by simp only; omega⟩ ?_
              exact wk_of 2 1 (by simp) (by simp [hE, lens]) (by simp [bookO, rowL]) (by simp [livH, livO, AV.livL, AV.liv, wkL, wkV, List.range', rowL]) (by simp [livH, livO, AV.livL, AV.liv, wkL, wkV, List.range', slotsOf])
            | false =>
              simp (maxSteps := 1000000) [slotsOf, bookO, rowL, hho, ewV, -List.reduceReplicate]
              refine cut_to x ⟨h3.two, by omega, by omega, by omega, by omega, by omega⟩ ?_
              exact wk_of 2 1 (by simp) (by simp [hE, lens]) (by simp [bookO, rowL]) (by simp [livH, livO, AV.livL, AV.liv, wkL, wkV, List.range', rowL]) (by simp [livH, livO, AV.livL, AV.liv, wkL, wkV, List.range', slotsOf])
          | 2, _ =>
            have eK' : (IntKind.u64.wrap o.k).tmod 4 = 2 := eK
            obtain ⟨U, hU, eU⟩ := u64_mod o.u 4 (by decide)
            simp only [Int.cast_ofNat_Int] at eU
            have ewU : IntKind.i64.wrap (U : Int) = U := IntWalk.i64_in _ (by omega)
            have ewN : IntKind.i64.wrap (x.now + U) = x.now + U := IntWalk.i64_in _ (by omega)
            have hll : (liveL x.l (x.now + U)).length ≤ x.l.length := List.length_filter_le _ _
            simp (maxSteps := 1000000) [slotsOf, bookO, rowL, op15A, hho, eK', eU, ewU, ewN, -List.reduceReplicate]
            refine call_d [0, 1] (fun _ => false) [1] (expire_book x.l (by omega) (x.now + U)) rfl rfl ⟨rfl, rfl⟩ hho (fun i k h => ?_) (by simp [livH, livO, AV.livL, AV.liv, wkL, wkV, List.range']) (by simp [livH, livO, AV.livL, AV.liv, wkL, wkV, List.range']) (by simp [hst]) (by decide) (by decide) (by simp) (by simp [bookO]) ?_
            · match i, h with
              | 0, h => exact .inl rfl
              | 1, h => simp at h; subst h; exact .inr (by simp)
              | i + 2, h => simp at h
            simp (maxSteps := 1000000) [slotsOf, bookO, rowL, hho, -List.reduceReplicate]
            refine cut_to ⟨liveL x.l (x.now + U), x.ver, x.now + U⟩ ⟨two_expire h3.two (by omega), by simp only; omega, by simp only; omega, by simp only; omega, by simp only; omega, by simp only; omega⟩ ?_
            exact wk_of 2 1 (by simp) (by simp [hE, lens]) (by simp [bookO, rowL]) (by simp [livH, livO, AV.livL, AV.liv, wkL, wkV, List.range', rowL]) (by simp [livH, livO, AV.livL, AV.liv, wkL, wkV, List.range', slotsOf])
          | 3, _ =>
            have eK' : (IntKind.u64.wrap o.k).tmod 4 = 3 := eK
            simp (maxSteps := 1000000) [slotsOf, bookO, rowL, op15A, hho, eK', -List.reduceReplicate]
            refine cut_to x ⟨h3.two, by omega, by omega, by omega, by omega, by omega⟩ ?_
            exact wk_of 2 1 (by simp) (by simp [hE, lens]) (by simp [bookO, rowL]) (by simp [livH, livO, AV.livL, AV.liv, wkL, wkV, List.range', rowL]) (by simp [livH, livO, AV.livL, AV.liv, wkL, wkV, List.range', slotsOf])
    · obtain rfl : j = sc.length := by omega
      simp (maxSteps := 1000000) [slots15, slotsOf, bookO, rowL, hho, hjn, -List.reduceReplicate]
      refine exit_to x ⟨h3.two, h3.v0, by omega, h3.n0, by omega, by omega⟩ ?_
      exact wk_eq (by simp [hE, lens]) (by simp [bookO, rowL]) (by simp [livH, livO, AV.livL, AV.liv, wkL, wkV, List.range', slotsOf])
theorem two_of (sc : List Op15S) (h : sc.length ≤ maxLen ∧ ∀ x ∈ sc, i64O x) : ACalls Try.prog 4 [.fs 4 sc.length (ops15A sc)] [] (fun _ => false) (fun r h' => r = .c (.bool true)) := two_walk sc h.1
end Go.Proofs.Ytglhmhpaoebifaa
