import Derived.Test.YtglhmhpaoebifaaBF
import Derived.Test.YtglhmhpaoebifaaSlc
namespace Go.Proofs.Ytglhmhpaoebifaa
set_option linter.unusedVariables false
set_option linter.unusedSimpArgs false
open Go.RowKit
attribute [local simp] isCut_nil isCut_region isCut_seq isCut_block isCut_loop isCut_cond isCut_skip isCut_exit isCut_ret isCut_range swapK putK altK condK_bool pickP_bool stepP stepO onPure_some onPure_none onImpl_some onImpl_none stepC onGP_some onGP_none onGV_some condG mkG onIt_it nextP_ptr takeP_eq takeV_some takeN_none takeN_some takeG_some takeO_some altO_some pureV binV2 eqF eqOp ovlV ovl2 rowAt capV binV intBin strBin isSh shV fldV ixV sliceV slice3V loadAV nilV lenV callV unV convV viewS cellsH loadV fldCut AV.ung AV.ungs AV.gc AV.cells AS.ev AS.put anyS gcsV lens lnO gV guardV retK RetP_eq resV oneV anyRo loIx hiIx implO callP_clo evL gcsL clearV storeAV AS.push AS.setO appV appZ shortS copyV buildV partsV fillV srcV fzO okV isCell_c isCell_ptr isCell_sl isCell_fs isCell_fp isCell_clo rowZ_one rowZ_zero rowZ_2 rowZ_3 rowZ_4 rowZ_5 rowZ_6 rowZ_7 rowZ_8 rowZ_9 rowZ_10 rowZ_11 rowZ_12 noHo Value.oneCell' max2V min2V afterH putBack frzFrom frzO rebO backIx nilEq_sl nilEq_fs nilOp_eql nilOp_neq AV.reb AV.rebL
attribute [local simp ↓] runK_skip runK_region runK_draw runK_seq runK_cut runK_cond runK_block runK_loop runK_exit runK_label runK_goto runK_ret runK_range contK_nil contK_seq contK_seq_ret contK_seq_exit contK_seq_goto contK_block contK_block_ret contK_block_goto contK_block_exit runO_nil runO_cons roundK_exit roundK_ret roundK_goto exitK_ret cutK_ret cutK_exit runE_done runE_nil runE_take runE_alt condG_true condG_false
set_option maxRecDepth 10000
/-! ## slices.Delete of one lease, slices.Insert of one -/
theorem leasesA_app (a b : List LeaseS) : leasesA (a ++ b) = leasesA a ++ leasesA b := by simp [leasesA]
theorem leasesA_cons (x : LeaseS) (b : List LeaseS) : leasesA (x :: b) = leaseA x ++ leasesA b := by simp [leasesA]
/-- what stands behind one lease -/
theorem leasesA_cutR (pre post : List LeaseS) (x : LeaseS) (i r : Nat) (hi : pre.length = i) (hr : post.length = r) (z : List AV) : List.take (r * 3) (List.drop ((i + 1) * 3) (leasesA (pre ++ x :: post) ++ z)) = leasesA post := by
  have e : leasesA (pre ++ x :: post) ++ z = (leasesA pre ++ leaseA x) ++ (leasesA post ++ z) := by rw [leasesA_app, leasesA_cons]; simp
  rw [e, List.drop_append_of_le_length (by simp [hi]; omega), List.drop_eq_nil_of_le (by simp [hi]; omega), List.nil_append, List.take_append_of_le_length (by simp [hr]), List.take_of_length_le (by simp [hr])]
set_option maxHeartbeats 4000000 in
theorem delete_lease (pre post : List LeaseS) (x : LeaseS) (i r n : Nat) (hi : pre.length = i) (hr : post.length = r) (hn : n = i + (r + 1)) (hl : n ≤ 5864062014805) : ACalls Try.prog 43 [.sl 0 3 0 n (n * 3), .c (.int .i64 (i : Int)), .c (.int .i64 ((i + 1 : Nat) : Int))] [rowL (pre ++ x :: post)] (fun _ => false) (fun q h' => q = .sl 0 3 0 (i + r) ((i + r) * 3) ∧ h' = [rowL (pre ++ post)]) := by
  refine acalls_slc 0 0 (e := 48) (sz := 3) (n := n) (m := n * 3) (cs := leasesA (pre ++ x :: post)) mixed Try.func43 rfl Try.ntmps43 rfl rfl rfl (by simp [hi, hr, hn]) rfl (by omega) fun E hE hst hho c hc1 hc2 => ?_
  obtain ⟨C, hC⟩ : ∃ C, C = leasesA (pre ++ x :: post) ++ spare ((c - n) * 3) := ⟨_, rfl⟩
  have hCl : C.length = c * 3 := by rw [hC, List.length_append, spare_length]; simp [hi, hr]; omega
  show runK _ _ _ _ _ _ ⟨_, [.o (.row 48 3) (leasesA (pre ++ x :: post) ++ spare ((c - n) * 3))]⟩
  rw [← hC]
  have h1 : (i : Int) + 1 ≤ n := by omega
  have h2 : (0 : Int) ≤ (i : Int) + 1 := by omega
  have h3 : ((i : Int) + 1).toNat = i + 1 := by omega
  have h4 : i * 3 < n * 3 := by omega
  have h5 : (i : Int) < n := by omega
  have h6 : ¬ (i : Int) = (i : Int) + 1 := by omega
  have h7 : ¬ (i : Int) + 1 = 0 := by omega
  simp (maxSteps := 1000000) [hho, hCl, h1, h2, h3, h4, h5, h6, -List.reduceReplicate]
  refine ⟨by omega, ?_⟩
  refine draw_k hho (.take 0 (.take 1 (.take 2 (.take 3 (.take 4 (.take 5 (.alt 6 (.take 7 (.done)) (.nil)))))))) [0] [(6, [0])] (by decide +kernel) (by simp) ?_
  have h8 : n - (i + 1) = r := by omega
  have h9 : i * 3 ≤ c * 3 := by omega
  have h10 : n * 3 ≤ c * 3 := by omega
  by_cases hcl : (i + 1) * 3 < c * 3
  · have hroom : (i + r) * 3 ≤ c * 3 := by omega
    have h11 : (i + 1) * 3 + r * 3 ≤ c * 3 := by omega
    have h12 : ((i : Int) + r).toNat = i + r := by omega
    have h13 : i + r < c := by omega
    have h14 : n - (i + r) = 1 := by omega
    have h15 : min (r * 3) (c * 3 - (i + 1) * 3) = r * 3 := by omega
    have h16 : i * 3 + (r * 3 + (c * 3 - (i * 3 + r * 3))) = c * 3 := by omega
    have h17 : (i : Int) + r ≤ n := by omega
    have h18 : (0 : Int) ≤ (i : Int) + r := by omega
    have hcell : ∀ x ∈ List.take (r * 3) (List.drop ((i + 1) * 3) C), isCell x = true := by
      rw [hC, leasesA_cutR pre post x i r hi hr]
      exact (leasesA_cell post).2 trivial
    have hpre : List.take (i * 3) C = leasesA pre := by
      rw [hC, leasesA_app, List.append_assoc, List.take_append_of_le_length (by simp [hi]), List.take_of_length_le (by simp [hi])]
    have hrow : ∀ z, List.take ((i + r) * 3) (List.take ((i + r) * 3) (List.take (i * 3) C ++ (List.take (r * 3) (List.drop ((i + 1) * 3) C) ++ List.drop (i * 3 + r * 3) C)) ++ z) = leasesA (pre ++ post) := by
      intro z
      have e : List.take ((i + r) * 3) (List.take (i * 3) C ++ (List.take (r * 3) (List.drop ((i + 1) * 3) C) ++ List.drop (i * 3 + r * 3) C)) = leasesA (pre ++ post) := by
        rw [hpre, hC, leasesA_cutR pre post x i r hi hr, ← List.append_assoc, ← leasesA_app, List.take_append_of_le_length (by simp [hi, hr]), List.take_of_length_le (by simp [hi, hr])]
      rw [e, List.take_append_of_le_length (by simp [hi, hr]), List.take_of_length_le (by simp [hi, hr])]
    simp (maxSteps := 1000000) [hho, hCl, h1, h2, h3, h4, h5, h6, h7, h8, h9, h10, h11, h12, h13, h14, h15, h16, h17, h18, hcell, hcl, hroom, roOf, holdOf, wrOf, altK, heldOk, Region.binds, -List.reduceReplicate]
    intro _
    refine ⟨⟨by omega, hcell⟩, by omega, ?_⟩
    refine Ret.cutT 0 (i + r) rfl ?_ (by omega) rfl ?_ (by simp [livH, livO, AV.livL, AV.liv]) ?_
    · simp [hCl]; omega
    · rw [hrow]; exact List.all_eq_true.2 ((leasesA_all _).2 trivial)
    · refine Ret.same ⟨rfl, ?_⟩
      rw [hrow]
      rfl
  · have h13 : i < c := by omega
    have h14 : n - i = 1 := by omega
    have h15 : i ≤ n := by omega
    have hrow0 : ∀ z, List.take (i * 3) (List.take (i * 3) C ++ z) = leasesA pre := by
      intro z
      have e : List.take (i * 3) C = leasesA pre := by
        rw [hC, leasesA_app, List.append_assoc, List.take_append_of_le_length (by simp [hi]), List.take_of_length_le (by simp [hi])]
      rw [e, List.take_append_of_le_length (by simp [hi]), List.take_of_length_le (by simp [hi])]
    simp (maxSteps := 1000000) [hho, hCl, h1, h2, h3, h4, h5, h6, h7, h8, h9, h10, h13, h14, h15, hcl, roOf, holdOf, wrOf, altK, heldOk, Region.binds, -List.reduceReplicate]
    intro _
    obtain rfl : r = 0 := by omega
    refine ⟨by omega, by omega, ?_⟩
    obtain rfl : post = [] := List.eq_nil_of_length_eq_zero hr
    refine Ret.cutT 0 i rfl ?_ (by omega) rfl ?_ (by simp [livH, livO, AV.livL, AV.liv]) ?_
    · simp [hCl]; omega
    · rw [hrow0]; exact List.all_eq_true.2 ((leasesA_all _).2 trivial)
    · refine Ret.same ⟨rfl, ?_⟩
      rw [hrow0, List.append_nil]
      rfl
theorem rowL1 (x : LeaseS) : rowL [x] = .o (.row 48 3) (leaseA x) := by simp [rowL, leasesA]
theorem insert_nil (x : LeaseS) : ACalls Try.prog 37 [.sl 0 3 0 0 0, .c (.int .i64 0), .sl 1 3 0 1 3] [rowL [], rowL [x]] (fun k => decide (k = 1)) (fun q h' => q = .sl 0 3 0 1 3 ∧ h' = [rowL [x], rowL [x]]) := by
  refine acalls mixed Try.func37 rfl Try.ntmps37 rfl fun E hE hst hho => ?_
  have h3 : List.take 3 (leaseA x) = leaseA x := rfl
  have e0 : rowL [] = .o (.row 48 3) [] := rfl
  rw [rowL1, e0]
  simp (maxSteps := 1000000) [hho, h3, -List.reduceReplicate]
  exact Ret.same ⟨rfl, rfl⟩
set_option maxHeartbeats 4000000 in
theorem insert_end (l : List LeaseS) (x : LeaseS) (n : Nat) (hn : l.length = n) (h0 : 0 < n) (hl : n ≤ 5864062014804) : ACalls Try.prog 37 [.sl 0 3 0 n (n * 3), .c (.int .i64 (n : Int)), .sl 1 3 0 1 3] [rowL l, rowL [x]] (fun k => decide (k = 1)) (fun q h' => q = .sl 0 3 0 (n + 1) ((n + 1) * 3) ∧ h' = [rowL (l ++ [x]), rowL [x]]) := by
  refine acalls_slc 0 0 (e := 48) (sz := 3) (n := n) (m := n * 3) (cs := leasesA l) mixed Try.func37 rfl Try.ntmps37 rfl rfl rfl (by simp [hn]) rfl (by omega) fun E hE hst hho c hc1 hc2 => ?_
  obtain ⟨C, hC⟩ : ∃ C, C = leasesA l ++ spare ((c - n) * 3) := ⟨_, rfl⟩
  have hCl : C.length = c * 3 := by rw [hC, List.length_append, spare_length]; simp [hn]; omega
  show runK _ _ _ _ _ _ ⟨_, [.o (.row 48 3) (leasesA l ++ spare ((c - n) * 3)), rowL [x]]⟩
  rw [← hC, rowL1]
  have h3 : List.take 3 (leaseA x) = leaseA x := rfl
  have hpre : List.take (n * 3) C = leasesA l := by rw [hC, List.take_append_of_le_length (by simp [hn]), List.take_of_length_le (by simp [hn])]
  have h9 : n * 3 ≤ c * 3 := by omega
  have h0' : ¬ n = 0 := by omega
  have h1 : leasesA (l ++ [x]) = leasesA l ++ leaseA x := by simp [leasesA]
  by_cases hcap : n < c
  · have h10 : n * 3 < c * 3 := by omega
    have h11 : (n + 1) * 3 ≤ c * 3 := by omega
    simp (maxSteps := 1000000) [hho, hCl, h0', h3, h9, h10, h11, hcap, hpre, -List.reduceReplicate]
    refine ⟨by omega, ?_⟩
    refine Ret.cutT 0 (n + 1) rfl ?_ (by omega) rfl ?_ (by simp [livH, livO, AV.livL, AV.liv, leaseA]) ?_
    · simp [hCl, hn]; omega
    · rw [← List.append_assoc, ← h1, List.take_append_of_le_length (by simp [hn]), List.take_of_length_le (by simp [hn])]
      exact List.all_eq_true.2 ((leasesA_all _).2 trivial)
    · refine Ret.same ⟨rfl, ?_⟩
      simp only [List.set_cons_zero]
      rw [← List.append_assoc, ← h1, List.take_append_of_le_length (by simp [hn]), List.take_of_length_le (by simp [hn])]
      rfl
  · obtain rfl : c = n := by omega
    have h11 : ¬ (c + 1) * 3 ≤ c * 3 := by omega
    simp (maxSteps := 1000000) [hho, hCl, h0', h3, h9, h11, hpre, -List.reduceReplicate]
    refine ⟨by omega, ?_⟩
    refine Ret.sel [2, 1] (fun _ => false) (ho := by rfl) (ha := by rfl) ?_ ?_ (by decide) (by simp) (fun i _ h => ?_) ⟨rfl, ?_⟩
    · simp
    · simp
    · have e : i = 1 := of_decide_eq_true h
      subst e; rfl
    · rw [rowL, h1]
set_option maxHeartbeats 4000000 in
theorem insert_mid (pre post : List LeaseS) (x : LeaseS) (i r n : Nat) (hi : pre.length = i) (hr : post.length = r + 1) (hn : n = i + (r + 1)) (hl : n ≤ 5864062014804) : ACalls Try.prog 37 [.sl 0 3 0 n (n * 3), .c (.int .i64 (i : Int)), .sl 1 3 0 1 3] [rowL (pre ++ post), rowL [x]] (fun k => decide (k = 1)) (fun q h' => q = .sl 0 3 0 (n + 1) ((n + 1) * 3) ∧ h' = [rowL (pre ++ x :: post), rowL [x]]) := by
  refine acalls_slc 0 0 (e := 48) (sz := 3) (n := n) (m := n * 3) (cs := leasesA (pre ++ post)) mixed Try.func37 rfl Try.ntmps37 rfl rfl rfl (by simp [hi, hr, hn]) rfl (by omega) fun E hE hst hho c hc1 hc2 => ?_
  obtain ⟨C, hC⟩ : ∃ C, C = leasesA (pre ++ post) ++ spare ((c - n) * 3) := ⟨_, rfl⟩
  have hCl : C.length = c * 3 := by rw [hC, List.length_append, spare_length]; simp [hi, hr]; omega
  show runK _ _ _ _ _ _ ⟨_, [.o (.row 48 3) (leasesA (pre ++ post) ++ spare ((c - n) * 3)), rowL [x]]⟩
  rw [← hC, rowL1]
  have h3 : List.take 3 (leaseA x) = leaseA x := rfl
  obtain ⟨q, hq⟩ : ∃ q, q = r + 2 := ⟨_, rfl⟩
  have hw1 : IntKind.i64.wrap ((n : Int) + 1) = (n : Int) + 1 := IntWalk.i64_in _ (by omega)
  have hw2 : IntKind.i64.wrap ((n : Int) + 1 - i) = (q : Int) := by rw [IntWalk.i64_in _ (by omega)]; omega
  have hw3 : IntKind.i64.wrap ((i : Int) + 1) = (i : Int) + 1 := IntWalk.i64_in _ (by omega)
  have hiq : i + q = n + 1 := by omega
  have h5 : ¬ (i : Int) = n := by omega
  have h6 : c * 3 / 3 = c := by omega
  have h7 : i ≤ n := by omega
  have h8 : i * 3 < c * 3 := by omega
  have h9 : n * 3 ≤ c * 3 := by omega
  have g1 : (i : Int) < n + 1 := by omega
  have g2 : (i : Int) ≤ n + 1 := by omega
  have g3 : ((n : Int) + 1).toNat = n + 1 := by omega
  have g4 : ((i : Int) + 1).toNat = i + 1 := by omega
  have g5 : n + 1 - i = q := by omega
  have g6 : (0 : Int) ≤ (n : Int) + 1 := by omega
  have g7 : (0 : Int) ≤ (i : Int) + 1 := by omega
  have g8 : n + 1 - (i + 1) = r + 1 := by omega
  have g9 : (i : Int) + 1 ≤ (n : Int) + 1 := by omega
  have g10 : (i : Int) + 1 < (n : Int) + 1 := by omega
  have g11 : min (q * 3) 3 = 3 := by omega
  have g12 : i * 3 + q * 3 = (n + 1) * 3 := by omega
  have g13 : List.take (q * 3) (leaseA x) = leaseA x := List.take_of_length_le (by simp; omega)
  have g14 : (i + 1) * 3 + (r + 1) * 3 = (n + 1) * 3 := by omega
  have g15 : n - i = r + 1 := by omega
  have g16 : i * 3 ≤ c * 3 := by omega
  have g17 : 0 < q := by omega
  have hpre : List.take (i * 3) C = leasesA pre := by
    rw [hC, leasesA_app, List.append_assoc, List.take_append_of_le_length (by simp [hi]), List.take_of_length_le (by simp [hi])]
  have hpost : List.take ((r + 1) * 3) (List.drop (i * 3) C) = leasesA post := by
    rw [hC, leasesA_app, List.append_assoc, List.drop_append_of_le_length (by simp [hi]), List.drop_eq_nil_of_le (by simp [hi]), List.nil_append, List.take_append_of_le_length (by simp [hr]), List.take_of_length_le (by simp [hr])]
  have hpt : List.take ((r + 1) * 3) (leasesA post) = leasesA post := List.take_of_length_le (by simp [hr])
  by_cases hcap : (c : Int) < n + 1
  · obtain rfl : c = n := by omega
    have hz : (rowZ q [Value.int .i64 0, Value.int .i64 0, Value.int .i64 0]).length = q * 3 := by rw [rowZ_length]; rfl
    have k1 : c * 3 < (c + 1) * 3 := by omega
    have k2 : c + 1 ≤ 5864062014805 := by omega
    have k3 : i * 3 + (3 + (q * 3 - 3)) = (c + 1) * 3 := by omega
    simp (maxSteps := 1000000) [hho, hCl, h3, hw1, hw2, hw3, hiq, h5, h6, h7, h8, h9, g1, g2, g3, g4, g5, g6, g7, g8, g9, g10, g11, g12, g13, g14, g15, g16, g17, hz, k1, k2, k3, hcap, -List.reduceReplicate]
    refine ⟨by omega, ?_⟩
    refine draw_k hho (.take 0 (.take 1 (.take 2 (.take 3 (.take 4 (.take 5 (.take 6 (.take 7 (.alt 8 (.done) (.nil)))))))))) [0, 2] [(8, [2])] (by decide +kernel) (by simp) ?_
    obtain ⟨D, hD⟩ : ∃ D, D = List.take (i * 3) C ++ (leaseA x ++ List.drop (i * 3 + 3) (List.take (i * 3) C ++ rowZ q [Value.int .i64 0, Value.int .i64 0, Value.int .i64 0])) := ⟨_, rfl⟩
    have hDl : D.length = (c + 1) * 3 := by rw [hD]; simp only [List.length_append, List.length_take, List.length_drop, hCl, hz, leaseA_length]; omega
    have hDt : List.take ((i + 1) * 3) D = leasesA (pre ++ [x]) := by
      rw [hD, hpre, ← List.append_assoc, List.take_append_of_le_length (by simp [hi]; omega), List.take_of_length_le (by simp [hi]; omega), leasesA_app]
      simp [leasesA]
    rw [← hD]
    have k4 : min (r + 1) (r + 1) = r + 1 := Nat.min_self _
    have k5 : (i + 1) * 3 ≤ (c + 1) * 3 := by omega
    have k6 : min ((r + 1) * 3) (c * 3 - i * 3) = (r + 1) * 3 := by omega
    have k10 : i * 3 + (r + 1) * 3 ≤ c * 3 := by omega
    have k11 : (i + 1) * 3 + ((r + 1) * 3 + ((c + 1) * 3 - ((i + 1) * 3 + (r + 1) * 3))) = (c + 1) * 3 := by omega
    simp (maxSteps := 1000000) [hho, hCl, hDl, hr, hpt, h3, hw3, h6, h7, h8, h9, g1, g2, g3, g4, g5, g6, g7, g8, g9, g10, g12, g14, g15, g16, k4, k5, k6, k10, k11, hpost, roOf, holdOf, wrOf, altK, heldOk, Region.binds, -List.reduceReplicate]
    intro _
    have hrow : List.take ((i + 1) * 3) D ++ (leasesA post ++ List.drop ((c + 1) * 3) D) = leasesA (pre ++ x :: post) := by
      rw [hDt, List.drop_eq_nil_of_le (by omega), List.append_nil, ← leasesA_app]
      simp
    rw [hrow]
    refine Ret.sel [2, 1] (fun _ => false) (ho := by rfl) (ha := by rfl) ?_ ?_ (by decide) (by simp) (fun i _ h => ?_) ⟨rfl, rfl⟩
    · simp
    · simp
    · have e : i = 1 := of_decide_eq_true h
      subst e; rfl
  · have k1 : (n + 1) * 3 ≤ c * 3 := by omega
    have k2 : (i + 1) * 3 < c * 3 := by omega
    simp (maxSteps := 1000000) [hho, hCl, h3, hw1, hw2, hw3, hiq, h5, h6, h7, h8, h9, g1, g2, g3, g4, g5, g6, g7, g8, g9, g10, g11, g12, g13, g14, g15, g16, g17, k1, k2, hcap, -List.reduceReplicate]
    refine ⟨by omega, ?_⟩
    refine draw_k hho (.take 0 (.take 1 (.take 2 (.take 3 (.take 4 (.take 5 (.take 6 (.take 7 (.alt 8 (.done) (.nil)))))))))) [0] [(8, [0])] (by decide +kernel) (by simp) ?_
    have k4 : min q (r + 1) = r + 1 := by omega
    have k6 : min ((r + 1) * 3) (c * 3 - i * 3) = (r + 1) * 3 := by omega
    have k7 : (i + 1) * 3 ≤ c * 3 := by omega
    have k8 : i * 3 + q * 3 ≤ c * 3 := by omega
    have k9 : (i + 1) * 3 + (r + 1) * 3 ≤ c * 3 := by omega
    have k10 : i * 3 + (r + 1) * 3 ≤ c * 3 := by omega
    have k11 : (i + 1) * 3 + ((r + 1) * 3 + (c * 3 - (n + 1) * 3)) = c * 3 := by omega
    simp (maxSteps := 1000000) [hho, hCl, h3, hw3, h6, h7, h8, h9, g1, g2, g3, g4, g5, g6, g7, g8, g9, g10, g11, g12, g13, g14, g15, g16, g17, k1, k2, k4, k6, k7, k8, k9, k10, k11, hpost, hpt, hr, roOf, holdOf, wrOf, altK, heldOk, Region.binds, -List.reduceReplicate]
    intro _
    have hrow : List.take (i * 3) (List.take ((i + 1) * 3) C ++ (leasesA post ++ List.drop ((n + 1) * 3) C)) ++ (leaseA x ++ List.drop (i * 3 + 3) (List.take ((i + 1) * 3) C ++ (leasesA post ++ List.drop ((n + 1) * 3) C))) = leasesA (pre ++ x :: post) ++ List.drop ((n + 1) * 3) C := by
      have hl1 : (List.take ((i + 1) * 3) C).length = (i + 1) * 3 := by rw [List.length_take, hCl]; omega
      rw [List.take_append_of_le_length (by omega), List.take_take, show min (i * 3) ((i + 1) * 3) = i * 3 by omega, hpre, show i * 3 + 3 = (i + 1) * 3 by omega, List.drop_append_of_le_length (by omega), List.drop_eq_nil_of_le (by omega), leasesA_app, leasesA_cons]
      simp
    rw [hrow]
    have hlen : (leasesA (pre ++ x :: post)).length = (n + 1) * 3 := by simp [hi, hr]; omega
    refine Ret.cutT 0 (n + 1) rfl ?_ (by omega) rfl ?_ (by simp [livH, livO, AV.livL, AV.liv, leaseA]) ?_
    · rw [List.length_append, hlen, List.length_drop, hCl]; omega
    · rw [List.take_append_of_le_length (by omega), List.take_of_length_le (by omega)]
      exact List.all_eq_true.2 ((leasesA_all _).2 trivial)
    · refine Ret.same ⟨rfl, ?_⟩
      simp only [List.set_cons_zero]
      rw [List.take_append_of_le_length (by omega), List.take_of_length_le (by omega)]
      rfl
end Go.Proofs.Ytglhmhpaoebifaa
