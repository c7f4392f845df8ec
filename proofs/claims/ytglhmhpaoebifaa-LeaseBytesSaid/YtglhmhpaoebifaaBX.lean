import Derived.Test.YtglhmhpaoebifaaBW
namespace Go.Proofs.Ytglhmhpaoebifaa
set_option linter.unusedVariables false
set_option linter.unusedSimpArgs false
open Go.RowKit
attribute [local simp] isCut_nil isCut_region isCut_seq isCut_block isCut_loop isCut_cond isCut_skip isCut_exit isCut_ret isCut_range swapK putK altK condK_bool pickP_bool stepP stepO onPure_some onPure_none onImpl_some onImpl_none stepC onGP_some onGP_none onGV_some condG mkG onIt_it nextP_ptr takeP_eq takeV_some takeN_none takeN_some takeG_some takeO_some altO_some pureV binV2 eqF eqOp ovlV ovl2 rowAt capV binV intBin strBin isSh shV fldV ixV sliceV slice3V loadAV nilV lenV callV unV convV viewS cellsH loadV fldCut AV.ung AV.ungs AV.gc AV.cells AS.ev AS.put anyS gcsV lens lnO gV guardV retK RetP_eq resV oneV anyRo loIx hiIx implO callP_clo evL gcsL clearV storeAV AS.push AS.setO appV appZ shortS copyV buildV partsV fillV srcV fzO okV isCell_c isCell_ptr isCell_sl isCell_fs isCell_fp isCell_clo rowZ_one rowZ_zero rowZ_2 rowZ_3 rowZ_4 rowZ_5 rowZ_6 rowZ_7 rowZ_8 rowZ_9 rowZ_10 rowZ_11 rowZ_12 noHo Value.oneCell' max2V min2V afterH putBack frzFrom frzO rebO backIx nilEq_sl nilEq_fs nilOp_eql nilOp_neq AV.reb AV.rebL
attribute [local simp ↓] runK_skip runK_region runK_draw runK_seq runK_cut runK_cond runK_block runK_loop runK_exit runK_label runK_goto runK_ret runK_range contK_nil contK_seq contK_seq_ret contK_seq_exit contK_seq_goto contK_block contK_block_ret contK_block_goto contK_block_exit runO_nil runO_cons roundK_exit roundK_ret roundK_goto exitK_ret cutK_ret cutK_exit runE_done runE_nil runE_take runE_alt condG_true condG_false
set_option maxRecDepth 10000
/-! ## LeasePlays -/
theorem leasesD (l : List LeaseS) : (leasesA l).all isD = true := List.all_eq_true.2 ((leasesA_all _).2 trivial)
theorem leasesN (l : List LeaseS) : (leasesA l).all noFs1 = true := by
  induction l with
  | nil => rfl
  | cons x l ih => rw [leasesA_cons, List.all_append, ih]; rfl
/-- New on a row of the caller's -/
theorem new_row (l : List LeaseS) (hl : l.length ≤ 1000) (h : SrtOk l) : ACalls Try.prog 8 [.sl 0 3 0 l.length (l.length * 3)] [rowL l] (fun k => decide (k = 0)) (fun r h' => r = .tup [.ptr 1 0 1, .c (.int .i64 0)] ∧ h' = rowL l :: [.o .box [.sl 2 3 0 (stabS ltL l).length ((stabS ltL l).length * 3)], rowL (stabS ltL l)]) := by
  have := (new_core l (by omega) (fun r h' => r = .tup [.ptr 0 0 1, .c (.int .i64 0)] ∧ h' = bookO (stabS ltL l)) (fun _ => ⟨rfl, rfl⟩) fun hn => absurd ((newOk_iff l).2 h) hn).lend0 (e := 48) (by simp) (by unfold maxLen; omega) (leasesD l) rfl (by
    simp only [bookO, rowL, List.all_cons, List.all_nil, noFsO, Bool.and_true, leasesN]
    rfl)
  simp only [bookO, rowL, List.map_cons, List.map_nil, rebO_eq, rebL_isD (leasesD _)] at this
  exact this
theorem new_row_bad (l : List LeaseS) (hl : l.length ≤ 1000) (h : ¬ SrtOk l) : ACalls Try.prog 8 [.sl 0 3 0 l.length (l.length * 3)] [rowL l] (fun k => decide (k = 0)) (fun r h' => r = .tup [.c (.pointer none), .c (.int .i64 2)] ∧ h' = [rowL l]) := by
  have := (new_core l (by omega) (fun r h' => r = .tup [.c (.pointer none), .c (.int .i64 2)] ∧ h' = []) (fun hn => absurd ((newOk_iff l).1 hn) h) fun _ => ⟨rfl, rfl⟩).lend0 (e := 48) (by simp) (by unfold maxLen; omega) (leasesD l) rfl rfl
  exact this
def gD : Option LeaseS → LeaseS
  | some x => x
  | none => ⟨0, 0, 0⟩
theorem getR_eq (o : Option LeaseS) : getR o = .tup [.agg (leaseA (gD o)), .c (.bool o.isSome)] := by cases o <;> rfl
theorem valO_eq (o : Option LeaseS) : valO o = (gD o).v := by cases o <;> rfl
theorem leaseA_reb (β : Nat → Nat) (x : LeaseS) : AV.rebL β (leaseA x) = leaseA x := rebL_isD rfl
def blkP (o y : List LeaseS) : List AObj := [rowL o, .o .box [.sl 2 3 0 y.length (y.length * 3)], rowL y]
def slotsP (sc : List Op15S) (now : Int) (o : List LeaseS) (j : Nat) (y : List LeaseS) : AS := ⟨slotsOf 343 [(1, .fs 4 sc.length (ops15A sc)), (2, .c (.int .i64 now)), (8, .ptr 1 0 1), (10, .fs 3 y.length (leasesA y)), (143, .fs 4 sc.length (ops15A sc)), (144, .c (.int .i64 sc.length)), (145, .c (.int .i64 (j : Int)))], blkP o y⟩
set_option maxHeartbeats 8000000 in
theorem plays_walk (l : List LeaseS) (sc : List Op15S) (now : Int) (hlm : l.length ≤ maxLen) (hi : ∀ x ∈ l, i64L x) (hsc : sc.length ≤ maxLen) (hso : ∀ x ∈ sc, i64O x) : ACalls Try.prog 5 [.fs 3 l.length (leasesA l), .fs 4 sc.length (ops15A sc), .c (.int .i64 now)] [] (fun _ => false) (fun r h' => r = .c (.bool true)) := by
  refine acalls mixed Try.func5 rfl Try.ntmps5 rfl fun E hE hst hho => ?_
  simp (maxSteps := 1000000) [hho, -List.reduceReplicate]
  refine call_plain (fun _ => false) first_lease (ha := by rfl) (by simp) ?_
  rintro r h' ⟨rfl, rfl⟩
  refine ⟨rfl, ?_⟩
  by_cases h40 : (40 : Int) < l.length
  · simp (maxSteps := 1000000) [hho, h40, -List.reduceReplicate]
    exact Ret.drop (by rfl) rfl
  have hl : l.length ≤ 40 := by omega
  by_cases hok : SrtOk l
  · obtain ⟨hb, he⟩ := srtOk_new hok
    have hrow := new_row l (by omega) hok
    have hsr := sorted_ref l (by omega) (fun r h' => r = .tup [.fs 3 (srtP l 16).length (leasesA (srtP l 16)), .c (.bool true)] ∧ h' = []) (fun _ => ⟨rfl, rfl⟩) (fun h => absurd hok h)
    rw [he] at hsr
    obtain ⟨x, hx⟩ : ∃ x, x = stabS ltL l := ⟨_, rfl⟩
    rw [← hx] at hrow hsr hb
    simp (maxSteps := 1000000) [hho, h40, -List.reduceReplicate]
    refine ⟨by omega, ?_⟩
    refine call_x [0] hrow rfl rfl ⟨rfl, rfl⟩ hho (by simp) (by decide) (by simp) (by simp) ?_
    simp (maxSteps := 1000000) [rowL, hho, -List.reduceReplicate]
    refine call_x [] hsr rfl rfl ⟨rfl, rfl⟩ hho (by simp) (by decide) (by simp) (by simp) ?_
    simp (maxSteps := 1000000) [hho, -List.reduceReplicate]
    refine loop_k2c [] mixed (fun y : Nat × List LeaseS => ⟨slotsOf 343 [(1, .fs 4 sc.length (ops15A sc)), (2, .c (.int .i64 now)), (7, .sl 0 3 0 l.length (l.length * 3)), (8, .ptr 1 0 1), (9, .c (.int .i64 0)), (10, .fs 3 x.length (leasesA x)), (132, .c (.int .i64 l.length)), (133, .c (.int .i64 (y.1 : Int)))], [rowL y.2, .o .box [.sl 2 3 0 x.length (x.length * 3)], rowL x]⟩) (fun y => l.length - y.1) (fun y => y.1 ≤ l.length ∧ y.2.length = l.length) (0, l) (fun o : List LeaseS => ⟨slotsOf 343 [(1, .fs 4 sc.length (ops15A sc)), (2, .c (.int .i64 now)), (8, .ptr 1 0 1), (9, .c (.int .i64 0)), (10, .fs 3 x.length (leasesA x))], [rowL o, .o .box [.sl 2 3 0 x.length (x.length * 3)], rowL x]⟩) (fun _ => True) 0 ⟨Nat.zero_le _, rfl⟩ ?_ ?_ ?_
    · exact wk_eq (by simp [hE, lens]) (by simp [rowL]) (by simp [livH, livO, AV.livL, AV.liv, wkL, wkV, List.range', slotsOf])
    · intro o _
      simp (maxSteps := 1000000) [slotsOf, rowL, hho, -List.reduceReplicate]
      refine loop_k2c [46, 51] mixed (fun y : Nat × List LeaseS => slotsP sc now o y.1 y.2) (fun y => sc.length - y.1) (fun y => y.1 ≤ sc.length ∧ BookOk y.2) (0, x) (fun y : List LeaseS => ⟨slotsOf 343 [], blkP o y⟩) (fun _ => True) 2 ⟨Nat.zero_le _, hb⟩ ?_ ?_ ?_
      · exact wk_eq (by simp [hE, lens]) (by simp [slotsP, blkP, rowL]) (by simp [livH, livO, AV.livL, AV.liv, wkL, wkV, List.range', slotsOf, slotsP])
      · intro y _
        simp (maxSteps := 1000000) [slotsOf, blkP, rowL, hho, -List.reduceReplicate]
        exact Ret.drop (by rfl) rfl
      · rintro ⟨j, y⟩ ⟨hj, hy⟩
        simp only at hj hy
        have hyl := book_len hy
        by_cases hjn : j < sc.length
        · have hat := ops15A_at sc j hjn
          obtain ⟨p, hp⟩ : ∃ p, p = sc[j] := ⟨_, rfl⟩
          have hpo : i64O p := by rw [hp]; exact hso _ (List.getElem_mem hjn)
          rw [← hp] at hat
          have el : j * 4 + 4 ≤ sc.length * 4 := by omega
          have h4 : List.take 4 (op15A p) = op15A p := rfl
          by_cases hj2 : (80 : Int) ≤ j
          · simp (maxSteps := 1000000) [slotsP, slotsOf, blkP, rowL, hho, hjn, hat, el, h4, hj2, -List.reduceReplicate]
            refine exit_to y trivial ?_
            exact wk_of 3 1 (by simp) (by simp [hE, lens]) (by simp [blkP, rowL]) (by simp [livH, livO, AV.livL, AV.liv, wkL, wkV, List.range', rowL]) (by simp [livH, livO, AV.livL, AV.liv, wkL, wkV, List.range', slotsOf])
          · obtain ⟨K, hK, eK⟩ := u64_mod p.k 4 (by decide)
            simp only [Int.cast_ofNat_Int] at eK
            have hget := get_ref y (by omega) p.s
            rw [getR_eq] at hget
            obtain ⟨g, hg⟩ : ∃ g, g = getL y p.s := ⟨_, rfl⟩
            rw [← hg] at hget
            skip
            simp (maxSteps := 1000000) [slotsP, slotsOf, blkP, rowL, hho, hjn, hat, el, h4, hj2, op15A, -List.reduceReplicate]
            refine call_x [] hget rfl rfl ⟨rfl, rfl⟩ hho (by simp) (by decide) (by simp) (by simp) ?_
            simp (maxSteps := 1000000) [slotsOf, hho, leaseA, eK, -List.reduceReplicate]
            refine seq_cut mixed [] (fun y : List LeaseS => ⟨slotsOf 343 [(1, .fs 4 sc.length (ops15A sc)), (2, .c (.int .i64 now)), (8, .ptr 1 0 1), (10, .fs 3 y.length (leasesA y)), (21, .ptr 3 0 4), (143, .fs 4 sc.length (ops15A sc)), (144, .c (.int .i64 sc.length)), (145, .c (.int .i64 (j : Int)))], [rowL o, .o .box [.sl 2 3 0 y.length (y.length * 3)], rowL y, .o .box (op15A p)]⟩) (fun y => BookOk y) ?_ ?_
            · intro y hy
              have hyl := book_len hy
              have hlv := live_law hy now
              have hll := book_len hlv
              have ewj : IntKind.i64.wrap ((j : Int) + 1) = (j + 1 : Nat) := by rw [IntWalk.i64_in _ (by omega)]; rfl
              have hliv := living_ref y (by omega) now
              have hgl := get_ref (liveL y now) (by omega) p.s
              rw [getR_eq] at hgl
              have hend := ends_ref (liveL y now) (by omega)
              simp (maxSteps := 1000000) [slotsOf, rowL, hho, op15A, -List.reduceReplicate]
              refine call_x [] hliv rfl rfl ⟨rfl, rfl⟩ hho (by simp) (by decide) (by simp) (by simp) ?_
              simp (maxSteps := 1000000) [slotsOf, hho, -List.reduceReplicate]
              refine call_x [] hend rfl rfl ⟨rfl, rfl⟩ hho (by simp) (by decide) (by simp) (by simp) ?_
              simp (maxSteps := 1000000) [slotsOf, hho, -List.reduceReplicate]
              refine call_x [1, 2] (oldest_book y (by omega) now) rfl rfl ⟨rfl, rfl⟩ hho (by simp) (by decide) (by simp) (by simp [bookO]) ?_
              simp (maxSteps := 1000000) [slotsOf, bookO, rowL, hho, -List.reduceReplicate]
              refine call_x [1, 2] (newest_book y (by omega) now) rfl rfl ⟨rfl, rfl⟩ hho (by simp) (by decide) (by simp) (by simp [bookO]) ?_
              simp (maxSteps := 1000000) [slotsOf, bookO, rowL, hho, -List.reduceReplicate]
              refine call_x [1, 2] (get_any y hy p.s now) rfl rfl ⟨rfl, rfl⟩ hho (by simp) (by decide) (by simp) (by simp [bookO]) ?_
              simp (maxSteps := 1000000) [slotsOf, bookO, rowL, hho, -List.reduceReplicate]
              refine seq_cut mixed [] (fun _ : Unit => ⟨slotsOf 343 [(1, .fs 4 sc.length (ops15A sc)), (2, .c (.int .i64 now)), (8, .ptr 1 0 1), (10, .fs 3 y.length (leasesA y)), (21, .ptr 3 0 4), (27, .c (.int .i64 (minL (vsL (liveL y now))))), (28, .c (.int .i64 (maxL (vsL (liveL y now))))), (29, .c (.bool (decide (0 < (liveL y now).length)))), (30, .c (.int .i64 (minL (versL y now)))), (31, .c (.bool (!decide (versL y now = [])))), (32, .c (.int .i64 (maxL (versL y now)))), (33, .c (.bool (!decide (versL y now = [])))), (34, .c (.int .i64 (valO (getL (liveL y now) p.s)))), (35, .c (.bool (getL (liveL y now) p.s).isSome)), (36, .ptr 4 0 3), (37, .c (.bool (getL (liveL y now) p.s).isSome)), (143, .fs 4 sc.length (ops15A sc)), (144, .c (.int .i64 sc.length)), (145, .c (.int .i64 (j : Int)))], [rowL o, .o .box [.sl 2 3 0 y.length (y.length * 3)], rowL y, .o .box (op15A p), .o .box (leaseA (gD (getL (liveL y now) p.s)))]⟩) (fun _ => True) ?_ ?_
              · intro _ _
                have e1 : decide (0 < (liveL y now).length) = !decide (versL y now = []) := by
                  rw [Bool.eq_iff_iff]
                  simp only [decide_eq_true_eq, Bool.not_eq_true', decide_eq_false_iff_not]
                  show _ ↔ ¬ (liveL y now).map (·.v) = []
                  rw [List.map_eq_nil_iff, List.length_pos_iff]
                have e0 : vsL (liveL y now) = versL y now := rfl
                have hwr := wait_ref y (by omega) p.v now hpo.2.2.1
                rw [rw_wait] at hwr
                have hwb := wait_book y (by omega) p.v now hpo.2.2.1
                have hall := all_book y (by omega)
                have hsame := same_ref y y (by omega) (by omega) true (by simp)
                have hmay := may_book y (by omega) p.v now hpo.2.2.1
                rw [blk_may] at hmay
                simp only [e0, e1, valO_eq]
                obtain ⟨G, hG⟩ : ∃ G, G = gD (getL (liveL y now) p.s) := ⟨_, rfl⟩
                obtain ⟨V, hV⟩ : ∃ V, V = versL y now := ⟨_, rfl⟩
                obtain ⟨W, hW⟩ : ∃ W, W = waitS y p.v now := ⟨_, rfl⟩
                obtain ⟨d, hd⟩ : ∃ d, d = liveL y now := ⟨_, rfl⟩
                rw [← hG, ← hV, ← hd]
                rw [← hW] at hwr hwb
                rw [← hd] at hliv hll hmay
                simp (maxSteps := 1000000) [slotsOf, rowL, op15A, leaseA, hho, -List.reduceReplicate]
                refine call_x [] hwr rfl rfl ⟨rfl, rfl⟩ hho (by simp) (by decide) (by simp) (by simp) ?_
                simp (maxSteps := 1000000) [slotsOf, hho, -List.reduceReplicate]
                refine call_x [1, 2] hwb rfl rfl ⟨rfl, rfl⟩ hho (by simp) (by decide) (by simp) (by simp [bookO]) ?_
                simp (maxSteps := 1000000) [slotsOf, bookO, rowL, hho, -List.reduceReplicate]
                refine call_x [1, 2] hall rfl rfl ⟨rfl, rfl⟩ hho (by simp) (by decide) (by simp) (by simp [bookO]) ?_
                simp (maxSteps := 1000000) [slotsOf, bookO, rowL, hho, -List.reduceReplicate]
                refine call_x [] hsame rfl rfl ⟨rfl, rfl⟩ hho (by simp) (by decide) (by simp) (by simp) ?_
                simp (maxSteps := 1000000) [slotsOf, hho, -List.reduceReplicate]
                refine call_x [] hliv rfl rfl ⟨rfl, rfl⟩ hho (by simp) (by decide) (by simp) (by simp) ?_
                simp (maxSteps := 1000000) [slotsOf, hho, -List.reduceReplicate]
                refine loop_k2c [] mixed (fun i : Nat => ⟨slotsOf 343 [(1, .fs 4 sc.length (ops15A sc)), (2, .c (.int .i64 now)), (8, .ptr 1 0 1), (10, .fs 3 y.length (leasesA y)), (21, .ptr 3 0 4), (39, .c (.bool (blkS (d.take i) p.v))), (143, .fs 4 sc.length (ops15A sc)), (144, .c (.int .i64 sc.length)), (145, .c (.int .i64 (j : Int))), (314, .fs 3 d.length (leasesA d)), (315, .c (.int .i64 d.length)), (316, .c (.int .i64 (i : Int)))], [rowL o, .o .box [.sl 2 3 0 y.length (y.length * 3)], rowL y, .o .box (op15A p)]⟩) (fun i => d.length - i) (fun i => i ≤ d.length) 0 (fun _ : Unit => ⟨slotsOf 343 [(1, .fs 4 sc.length (ops15A sc)), (2, .c (.int .i64 now)), (8, .ptr 1 0 1), (10, .fs 3 y.length (leasesA y)), (21, .ptr 3 0 4), (39, .c (.bool (blkS d p.v))), (143, .fs 4 sc.length (ops15A sc)), (144, .c (.int .i64 sc.length)), (145, .c (.int .i64 (j : Int)))], [rowL o, .o .box [.sl 2 3 0 y.length (y.length * 3)], rowL y, .o .box (op15A p)]⟩) (fun _ => True) 5 (Nat.zero_le _) ?_ ?_ ?_
                · exact wk_of 4 1 (by simp) (by simp [hE, lens]) (by simp [rowL, op15A]) (by simp [livH, livO, AV.livL, AV.liv, wkL, wkV, List.range', rowL, op15A]) (by simp [livH, livO, AV.livL, AV.liv, wkL, wkV, List.range', slotsOf, blkS])
                · intro _ _
                  simp (maxSteps := 1000000) [slotsOf, rowL, op15A, hho, -List.reduceReplicate]
                  refine call_x [1, 2] hmay rfl rfl ⟨rfl, rfl⟩ hho (by simp) (by decide) (by simp) (by simp [bookO]) ?_
                  cases hB : blkS d p.v with
                  | true =>
                    simp (maxSteps := 1000000) [slotsOf, bookO, rowL, hho, ewj, -List.reduceReplicate]
                    refine round_next (j + 1, y) ⟨by simp only; omega, hy⟩ (by simp only; omega) ?_
                    exact wk_of 3 1 (by simp) (by simp [hE, lens]) (by simp [slotsP, blkP, rowL]) (by simp [livH, livO, AV.livL, AV.liv, wkL, wkV, List.range', rowL]) (by simp [livH, livO, AV.livL, AV.liv, wkL, wkV, List.range', slotsOf, slotsP])
                  | false =>
                    simp (maxSteps := 1000000) [slotsOf, bookO, rowL, hho, ewj, -List.reduceReplicate]
                    refine round_next (j + 1, y) ⟨by simp only; omega, hy⟩ (by simp only; omega) ?_
                    exact wk_of 3 1 (by simp) (by simp [hE, lens]) (by simp [slotsP, blkP, rowL]) (by simp [livH, livO, AV.livL, AV.liv, wkL, wkV, List.range', rowL]) (by simp [livH, livO, AV.livL, AV.liv, wkL, wkV, List.range', slotsOf, slotsP])
                · intro i hi
                  by_cases hil : i < d.length
                  · have hat := leasesA_at d i hil
                    have ewi : IntKind.i64.wrap ((i : Int) + 1) = (i + 1 : Nat) := by rw [IntWalk.i64_in _ (by omega)]; rfl
                    have ei : i * 3 + 3 ≤ d.length * 3 := by omega
                    obtain ⟨q, hq⟩ : ∃ q, q = d[i] := ⟨_, rfl⟩
                    rw [← hq] at hat
                    have hb2 : blkS (d.take (i + 1)) p.v = (blkS (d.take i) p.v || (decide (0 < p.v) && decide (q.v < p.v - 1))) := by
                      unfold blkS
                      rw [List.take_succ_eq_append_getElem hil, List.any_append, ← hq]
                      simp
                    obtain ⟨B, hB⟩ : ∃ B, B = blkS (d.take i) p.v := ⟨_, rfl⟩
                    rw [← hB] at hb2 ⊢
                    cases B with
                    | true =>
                      simp (maxSteps := 1000000) [slotsOf, rowL, op15A, leaseA, hho, hil, hat, ei, ewi, -List.reduceReplicate]
                      refine round_next (i + 1) (by omega) (by omega) ?_
                      exact wk_of 4 1 (by simp) (by simp [hE, lens]) (by simp [rowL, op15A]) (by simp [livH, livO, AV.livL, AV.liv, wkL, wkV, List.range', rowL, op15A]) (by simp [livH, livO, AV.livL, AV.liv, wkL, wkV, List.range', slotsOf, hb2])
                    | false =>
                      by_cases c0 : 0 < p.v
                      · have ev : IntKind.i64.wrap (p.v - 1) = p.v - 1 := IntWalk.i64_in _ (by have := hpo.2.2.1; unfold i64ok at this; omega)
                        simp (maxSteps := 1000000) [slotsOf, rowL, op15A, leaseA, hho, hil, hat, ei, ewi, c0, ev, -List.reduceReplicate]
                        refine round_next (i + 1) (by omega) (by omega) ?_
                        exact wk_of 4 1 (by simp) (by simp [hE, lens]) (by simp [rowL, op15A]) (by simp [livH, livO, AV.livL, AV.liv, wkL, wkV, List.range', rowL, op15A]) (by simp [livH, livO, AV.livL, AV.liv, wkL, wkV, List.range', slotsOf, hb2, c0])
                      · simp (maxSteps := 1000000) [slotsOf, rowL, op15A, leaseA, hho, hil, hat, ei, ewi, c0, -List.reduceReplicate]
                        refine round_next (i + 1) (by omega) (by omega) ?_
                        exact wk_of 4 1 (by simp) (by simp [hE, lens]) (by simp [rowL, op15A]) (by simp [livH, livO, AV.livL, AV.liv, wkL, wkV, List.range', rowL, op15A]) (by simp [livH, livO, AV.livL, AV.liv, wkL, wkV, List.range', slotsOf, hb2, c0])
                  · obtain rfl : i = d.length := by omega
                    simp (maxSteps := 1000000) [slotsOf, rowL, op15A, hho, -List.reduceReplicate]
                    refine exit_to () trivial ?_
                    exact wk_eq (by simp [hE, lens]) (by simp [rowL, op15A]) (by simp [livH, livO, AV.livL, AV.liv, wkL, wkV, List.range', slotsOf])
              · simp (maxSteps := 1000000) [slotsOf, bookO, rowL, hho, -List.reduceReplicate]
                refine draw_k hho (.take 0 (.take 1 (.take 3 (.take 4 (.alt 2 (.alt 5 (.take 6 (.take 7 (.take 8 (.alt 9 (.alt 10 (.take 11 (.done)) (.nil)) (.nil))))) (.alt 9 (.alt 5 (.take 6 (.take 7 (.take 8 (.alt 10 (.take 11 (.done)) (.nil))))) (.nil)) (.nil))) (.alt 9 (.alt 2 (.alt 5 (.take 6 (.take 7 (.take 8 (.alt 10 (.take 11 (.done)) (.nil))))) (.nil)) (.nil)) (.nil))))))) [3] [] (by decide +kernel) (by simp) ?_
                simp (maxSteps := 1000000) [slotsOf, bookO, rowL, hho, roOf, holdOf, wrOf, altK, heldOk, Region.binds, -List.reduceReplicate]
                constructor
                · intro E1
                  refine call_h [] hliv rfl rfl ⟨rfl, rfl⟩ (by simp) (by simp) (by decide) (by simp) (by simp) ?_
                  simp (maxSteps := 1000000) [hho, roOf, holdOf, wrOf, altK, heldOk, Region.binds, -List.reduceReplicate]
                  constructor
                  · intro E2
                    refine call_h [] hgl rfl rfl ⟨rfl, rfl⟩ (by simp) (by simp) (by decide) (by simp) (by simp) ?_
                    simp (maxSteps := 1000000) [hho, leaseA_reb, roOf, holdOf, wrOf, altK, heldOk, Region.binds, -List.reduceReplicate]
                    intros
                    refine cut_to () trivial ?_
                    exact wk_eq (by simp [hE, lens]) (by simp [op15A, rowL]) (by simp [livH, livO, AV.livL, AV.liv, wkL, wkV, List.range', slotsOf])
                  · intro E2 E3
                    refine call_h [] hgl rfl rfl ⟨rfl, rfl⟩ (by simp) (by simp) (by decide) (by simp) (by simp) ?_
                    simp (maxSteps := 1000000) [hho, leaseA_reb, roOf, holdOf, wrOf, altK, heldOk, Region.binds, -List.reduceReplicate]
                    intros
                    refine cut_to () trivial ?_
                    exact wk_eq (by simp [hE, lens]) (by simp [op15A, rowL]) (by simp [livH, livO, AV.livL, AV.liv, wkL, wkV, List.range', slotsOf])
                · intro E1 E2
                  refine call_h [] hliv rfl rfl ⟨rfl, rfl⟩ (by simp) (by simp) (by decide) (by simp) (by simp) ?_
                  simp (maxSteps := 1000000) [hho, roOf, holdOf, wrOf, altK, heldOk, Region.binds, -List.reduceReplicate]
                  intro E3
                  refine call_h [] hgl rfl rfl ⟨rfl, rfl⟩ (by simp) (by simp) (by decide) (by simp) (by simp) ?_
                  simp (maxSteps := 1000000) [hho, leaseA_reb, roOf, holdOf, wrOf, altK, heldOk, Region.binds, -List.reduceReplicate]
                  intros
                  refine cut_to () trivial ?_
                  exact wk_eq (by simp [hE, lens]) (by simp [op15A, rowL]) (by simp [livH, livO, AV.livL, AV.liv, wkL, wkV, List.range', slotsOf])
            · match K, hK with
              | 0, _ =>
                have eK' : (IntKind.u64.wrap p.k).tmod 4 = 0 := eK
                have hr := right_ref ⟨p.s, p.v, p.u⟩
                have htk := take_any y hy ⟨p.s, p.v, p.u⟩
                simp only [leaseA] at hr
                cases hR : rightL ⟨p.s, p.v, p.u⟩ with
                | false =>
                  rw [hR] at hr
                  have e1 : takeE y ⟨p.s, p.v, p.u⟩ = 2 := by simp [takeE, hR]
                  have e2 : takeL y ⟨p.s, p.v, p.u⟩ = y := by simp [takeL, e1]
                  rw [e1, e2] at htk
                  simp (maxSteps := 1000000) [slotsOf, rowL, hho, eK', -List.reduceReplicate]
                  refine call_x [] hr rfl rfl ⟨rfl, rfl⟩ hho (by simp) (by decide) (by simp) (by simp) ?_
                  simp (maxSteps := 1000000) [slotsOf, hho, -List.reduceReplicate]
                  refine call_x [1, 2] htk rfl rfl ⟨rfl, rfl⟩ hho (by simp) (by decide) (by simp) (by simp [bookO]) ?_
                  simp (maxSteps := 1000000) [slotsOf, bookO, rowL, hho, -List.reduceReplicate]
                  refine cut_to y hy ?_
                  exact wk_of 4 2 (by simp) (by simp [hE, lens]) (by simp [rowL, op15A]) (by simp [livH, livO, AV.livL, AV.liv, wkL, wkV, List.range', rowL, op15A]) (by simp [livH, livO, AV.livL, AV.liv, wkL, wkV, List.range', slotsOf])
                | true =>
                  rw [hR] at hr
                  obtain ⟨q1, q2, q3⟩ := put_law hy hR
                  have hpu := put_ref y (by omega) ⟨p.s, p.v, p.u⟩ q1
                  rw [q2] at hpu
                  simp only [leaseA] at hpu
                  have hput : takeE y ⟨p.s, p.v, p.u⟩ = 0 → takeL y ⟨p.s, p.v, p.u⟩ = putL y ⟨p.s, p.v, p.u⟩ := fun h => by simp [takeL, h]
                  obtain ⟨z, hz⟩ : ∃ z, z = putL y ⟨p.s, p.v, p.u⟩ := ⟨_, rfl⟩
                  rw [← hz] at hpu q3 hput
                  cases hG : g with
                  | none =>
                    have e1 : takeE y ⟨p.s, p.v, p.u⟩ = 0 := by simp [takeE, hR, ← hg, hG]
                    rw [e1, hput e1] at htk
                    simp (maxSteps := 1000000) [slotsOf, rowL, hho, eK', gD, -List.reduceReplicate]
                    refine call_x [] hr rfl rfl ⟨rfl, rfl⟩ hho (by simp) (by decide) (by simp) (by simp) ?_
                    simp (maxSteps := 1000000) [slotsOf, hho, -List.reduceReplicate]
                    refine call_x [] hpu rfl rfl ⟨rfl, rfl⟩ hho (by simp) (by decide) (by simp) (by simp) ?_
                    simp (maxSteps := 1000000) [slotsOf, hho, -List.reduceReplicate]
                    refine call_x [1, 2] htk rfl rfl ⟨rfl, rfl⟩ hho (by simp) (by decide) (by simp) (by simp [bookO]) ?_
                    simp (maxSteps := 1000000) [slotsOf, bookO, rowL, hho, -List.reduceReplicate]
                    refine cut_to z q3 ?_
                    exact wk_of 4 2 (by simp) (by simp [hE, lens]) (by simp [rowL, op15A]) (by simp [livH, livO, AV.livL, AV.liv, wkL, wkV, List.range', rowL, op15A]) (by simp [livH, livO, AV.livL, AV.liv, wkL, wkV, List.range', slotsOf])
                  | some r =>
                    by_cases hv : p.v < r.v
                    · have e1 : takeE y ⟨p.s, p.v, p.u⟩ = 122 := by simp [takeE, hR, ← hg, hG, hv]
                      have e2 : takeL y ⟨p.s, p.v, p.u⟩ = y := by simp [takeL, e1]
                      rw [e1, e2] at htk
                      simp (maxSteps := 1000000) [slotsOf, rowL, hho, eK', gD, -List.reduceReplicate]
                      refine call_x [] hr rfl rfl ⟨rfl, rfl⟩ hho (by simp) (by decide) (by simp) (by simp) ?_
                      simp (maxSteps := 1000000) [slotsOf, hho, hv, -List.reduceReplicate]
                      refine call_x [1, 2] htk rfl rfl ⟨rfl, rfl⟩ hho (by simp) (by decide) (by simp) (by simp [bookO]) ?_
                      simp (maxSteps := 1000000) [slotsOf, bookO, rowL, hho, -List.reduceReplicate]
                      refine cut_to y hy ?_
                      exact wk_of 4 2 (by simp) (by simp [hE, lens]) (by simp [rowL, op15A]) (by simp [livH, livO, AV.livL, AV.liv, wkL, wkV, List.range', rowL, op15A]) (by simp [livH, livO, AV.livL, AV.liv, wkL, wkV, List.range', slotsOf])
                    · have e1 : takeE y ⟨p.s, p.v, p.u⟩ = 0 := by simp [takeE, hR, ← hg, hG, hv]
                      rw [e1, hput e1] at htk
                      simp (maxSteps := 1000000) [slotsOf, rowL, hho, eK', gD, -List.reduceReplicate]
                      refine call_x [] hr rfl rfl ⟨rfl, rfl⟩ hho (by simp) (by decide) (by simp) (by simp) ?_
                      simp (maxSteps := 1000000) [slotsOf, hho, hv, -List.reduceReplicate]
                      refine call_x [] hpu rfl rfl ⟨rfl, rfl⟩ hho (by simp) (by decide) (by simp) (by simp) ?_
                      simp (maxSteps := 1000000) [slotsOf, hho, -List.reduceReplicate]
                      refine call_x [1, 2] htk rfl rfl ⟨rfl, rfl⟩ hho (by simp) (by decide) (by simp) (by simp [bookO]) ?_
                      simp (maxSteps := 1000000) [slotsOf, bookO, rowL, hho, -List.reduceReplicate]
                      refine cut_to z q3 ?_
                      exact wk_of 4 2 (by simp) (by simp [hE, lens]) (by simp [rowL, op15A]) (by simp [livH, livO, AV.livL, AV.liv, wkL, wkV, List.range', rowL, op15A]) (by simp [livH, livO, AV.livL, AV.liv, wkL, wkV, List.range', slotsOf])
              | 1, _ =>
                have eK' : (IntKind.u64.wrap p.k).tmod 4 = 1 := eK
                have hdr := drop_ref y (by omega) p.s
                have hgi := give_any y hy p.s
                have hdo := drop_law hy p.s
                rw [← hg] at hgi
                obtain ⟨z, hz⟩ : ∃ z, z = y.filter fun x => decide (x.s ≠ p.s) := ⟨_, rfl⟩
                rw [← hz] at hdr hgi hdo
                simp (maxSteps := 1000000) [slotsOf, rowL, hho, eK', -List.reduceReplicate]
                refine call_x [] hdr rfl rfl ⟨rfl, rfl⟩ hho (by simp) (by decide) (by simp) (by simp) ?_
                simp (maxSteps := 1000000) [slotsOf, hho, -List.reduceReplicate]
                refine call_d [1, 2] (fun _ => false) [2] hgi rfl rfl ⟨rfl, rfl⟩ hho (fun i k h => ?_) (by simp [livH, livO, AV.livL, AV.liv, wkL, wkV, List.range']) (by simp [livH, livO, AV.livL, AV.liv, wkL, wkV, List.range']) (by simp [hst]) (by decide) (by decide) (by simp) (by simp [bookO]) ?_
                · match i, h with
                  | 0, h => exact .inl rfl
                  | 1, h => simp at h; subst h; exact .inr (by simp)
                  | i + 2, h => simp at h
                simp (maxSteps := 1000000) [slotsOf, bookO, rowL, hho, -List.reduceReplicate]
                refine cut_to z hdo ?_
                exact wk_of 4 1 (by simp) (by simp [hE, lens]) (by simp [rowL, op15A]) (by simp [livH, livO, AV.livL, AV.liv, wkL, wkV, List.range', rowL, op15A]) (by simp [livH, livO, AV.livL, AV.liv, wkL, wkV, List.range', slotsOf])
              | 2, _ =>
                have eK' : (IntKind.u64.wrap p.k).tmod 4 = 2 := eK
                have hdr := living_ref y (by omega) p.u
                have hgi := expire_book y (by omega) p.u
                have hdo := live_law hy p.u
                have hdl := book_len hdo
                obtain ⟨z, hz⟩ : ∃ z, z = liveL y p.u := ⟨_, rfl⟩
                rw [← hz] at hdr hgi hdo hdl
                have ews : IntKind.i64.wrap ((y.length : Int) - z.length) = (y.length : Int) - z.length := IntWalk.i64_in _ (by omega)
                simp (maxSteps := 1000000) [slotsOf, rowL, hho, eK', -List.reduceReplicate]
                refine call_x [] hdr rfl rfl ⟨rfl, rfl⟩ hho (by simp) (by decide) (by simp) (by simp) ?_
                simp (maxSteps := 1000000) [slotsOf, hho, -List.reduceReplicate]
                refine call_d [1, 2] (fun _ => false) [2] hgi rfl rfl ⟨rfl, rfl⟩ hho (fun i k h => ?_) (by simp [livH, livO, AV.livL, AV.liv, wkL, wkV, List.range']) (by simp [livH, livO, AV.livL, AV.liv, wkL, wkV, List.range']) (by simp [hst]) (by decide) (by decide) (by simp) (by simp [bookO]) ?_
                · match i, h with
                  | 0, h => exact .inl rfl
                  | 1, h => simp at h; subst h; exact .inr (by simp)
                  | i + 2, h => simp at h
                simp (maxSteps := 1000000) [slotsOf, bookO, rowL, hho, ews, -List.reduceReplicate]
                refine cut_to z hdo ?_
                exact wk_of 4 1 (by simp) (by simp [hE, lens]) (by simp [rowL, op15A]) (by simp [livH, livO, AV.livL, AV.liv, wkL, wkV, List.range', rowL, op15A]) (by simp [livH, livO, AV.livL, AV.liv, wkL, wkV, List.range', slotsOf])
              | 3, _ =>
                have eK' : (IntKind.u64.wrap p.k).tmod 4 = 3 := eK
                simp (maxSteps := 1000000) [slotsOf, rowL, hho, eK', -List.reduceReplicate]
                refine cut_to y hy ?_
                exact wk_of 4 1 (by simp) (by simp [hE, lens]) (by simp [rowL, op15A]) (by simp [livH, livO, AV.livL, AV.liv, wkL, wkV, List.range', rowL, op15A]) (by simp [livH, livO, AV.livL, AV.liv, wkL, wkV, List.range', slotsOf])
        · obtain rfl : j = sc.length := by omega
          simp (maxSteps := 1000000) [slotsP, slotsOf, blkP, rowL, hho, -List.reduceReplicate]
          refine exit_to y trivial ?_
          exact wk_eq (by simp [hE, lens]) (by simp [blkP, rowL]) (by simp [livH, livO, AV.livL, AV.liv, wkL, wkV, List.range', slotsOf])
    · rintro ⟨j, q⟩ ⟨hj, hq⟩
      simp only at hj hq
      by_cases hjl : j < l.length
      · have hset := leasesA_setv q j (by omega)
        have ew : IntKind.i64.wrap ((j : Int) + 1) = (j + 1 : Nat) := by rw [IntWalk.i64_in _ (by omega)]; rfl
        simp (maxSteps := 1000000) [slotsOf, rowL, hho, hjl, hq, ew, -List.reduceReplicate]
        refine ⟨by omega, ?_⟩
        refine round_next (j + 1, q.set j ⟨q[j].s, 77, q[j].u⟩) ⟨by simp only; omega, by simp only [List.length_set]; omega⟩ (by simp only; omega) ?_
        exact wk_eq (by simp [hE, lens]) (by simp only [rowL]; rw [← hset]) (by simp [livH, livO, AV.livL, AV.liv, wkL, wkV, List.range', slotsOf])
      · obtain rfl : j = l.length := by omega
        simp (maxSteps := 1000000) [slotsOf, rowL, hho, -List.reduceReplicate]
        refine exit_to q trivial ?_
        exact wk_eq (by simp [hE, lens]) (by simp [rowL]) (by simp [livH, livO, AV.livL, AV.liv, wkL, wkV, List.range', slotsOf])
  · have hrow := new_row_bad l (by omega) hok
    have hsr := sorted_ref l (by omega) (fun r h' => r = .tup [.fs 3 0 [], .c (.bool false)] ∧ h' = []) (fun h => absurd h hok) (fun _ => ⟨rfl, rfl⟩)
    simp (maxSteps := 1000000) [hho, h40, -List.reduceReplicate]
    refine ⟨by omega, ?_⟩
    refine call_x [0] hrow rfl rfl ⟨rfl, rfl⟩ hho (by simp) (by decide) (by simp) (by simp) ?_
    simp (maxSteps := 1000000) [rowL, hho, -List.reduceReplicate]
    refine call_x [] hsr rfl rfl ⟨rfl, rfl⟩ hho (by simp) (by decide) (by simp) (by simp) ?_
    simp (maxSteps := 1000000) [hho, -List.reduceReplicate]
    refine call_x [] (get_nil 0 0) rfl rfl ⟨rfl, rfl⟩ hho (by simp) (by decide) (by simp) (by simp) ?_
    simp (maxSteps := 1000000) [hho, -List.reduceReplicate]
    refine call_x [] (oldest_nil 0) rfl rfl ⟨rfl, rfl⟩ hho (by simp) (by decide) (by simp) (by simp) ?_
    simp (maxSteps := 1000000) [hho, -List.reduceReplicate]
    refine call_x [] (newest_nil 0) rfl rfl ⟨rfl, rfl⟩ hho (by simp) (by decide) (by simp) (by simp) ?_
    simp (maxSteps := 1000000) [hho, -List.reduceReplicate]
    refine call_x [] (take_nil 0 0 0) rfl rfl ⟨rfl, rfl⟩ hho (by simp) (by decide) (by simp) (by simp) ?_
    simp (maxSteps := 1000000) [hho, -List.reduceReplicate]
    refine call_x [] (give_nil 0) rfl rfl ⟨rfl, rfl⟩ hho (by simp) (by decide) (by simp) (by simp) ?_
    simp (maxSteps := 1000000) [hho, -List.reduceReplicate]
    refine call_x [] (expire_nil 0) rfl rfl ⟨rfl, rfl⟩ hho (by simp) (by decide) (by simp) (by simp) ?_
    simp (maxSteps := 1000000) [hho, -List.reduceReplicate]
    refine call_x [] (may_nil 9 0) rfl rfl ⟨rfl, rfl⟩ hho (by simp) (by decide) (by simp) (by simp) ?_
    simp (maxSteps := 1000000) [hho, -List.reduceReplicate]
    refine call_x [] (wait_nil 9 0) rfl rfl ⟨rfl, rfl⟩ hho (by simp) (by decide) (by simp) (by simp) ?_
    simp (maxSteps := 1000000) [hho, -List.reduceReplicate]
    refine call_x [] (all_nil) rfl rfl ⟨rfl, rfl⟩ hho (by simp) (by decide) (by simp) (by simp) ?_
    simp (maxSteps := 1000000) [hho, -List.reduceReplicate]
    refine call_x [] (bytes_nil) rfl rfl ⟨rfl, rfl⟩ hho (by simp) (by decide) (by simp) (by simp) ?_
    simp (maxSteps := 1000000) [hho, -List.reduceReplicate]
    exact Ret.drop (by rfl) rfl
theorem plays_of (l : List LeaseS) (h : l.length ≤ maxLen ∧ ∀ x ∈ l, i64L x) (sc : List Op15S) (hs : sc.length ≤ maxLen ∧ ∀ x ∈ sc, i64O x) (now : Int) : ACalls Try.prog 5 [.fs 3 l.length (leasesA l), .fs 4 sc.length (ops15A sc), .c (.int .i64 now)] [] (fun _ => false) (fun r h' => r = .c (.bool true)) := plays_walk l sc now h.1 h.2 hs.1 hs.2
end Go.Proofs.Ytglhmhpaoebifaa
