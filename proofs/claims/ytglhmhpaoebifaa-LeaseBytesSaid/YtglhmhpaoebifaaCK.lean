import Derived.Test.YtglhmhpaoebifaaCJ
namespace Go.Proofs.Ytglhmhpaoebifaa
set_option linter.unusedVariables false
set_option linter.unusedSimpArgs false
open Go.RowKit
attribute [local simp] isCut_nil isCut_region isCut_seq isCut_block isCut_loop isCut_cond isCut_skip isCut_exit isCut_ret isCut_range swapK putK altK condK_bool pickP_bool stepP stepO onPure_some onPure_none onImpl_some onImpl_none stepC onGP_some onGP_none onGV_some condG mkG onIt_it nextP_ptr takeP_eq takeV_some takeN_none takeN_some takeG_some takeO_some altO_some pureV binV2 eqF eqOp ovlV ovl2 rowAt capV binV intBin strBin isSh shV fldV ixV sliceV slice3V loadAV nilV lenV callV unV convV viewS cellsH loadV fldCut AV.ung AV.ungs AV.gc AV.cells AS.ev AS.put anyS gcsV lens lnO gV guardV retK RetP_eq resV oneV anyRo loIx hiIx implO callP_clo evL gcsL clearV storeAV AS.push AS.setO appV appZ shortS copyV buildV partsV fillV srcV fzO okV isCell_c isCell_ptr isCell_sl isCell_fs isCell_fp isCell_clo rowZ_one rowZ_zero rowZ_2 rowZ_3 rowZ_4 rowZ_5 rowZ_6 rowZ_7 rowZ_8 rowZ_9 rowZ_10 rowZ_11 rowZ_12 noHo Value.oneCell' max2V min2V afterH putBack frzFrom frzO rebO backIx nilEq_sl nilEq_fs nilOp_eql nilOp_neq AV.reb AV.rebL
attribute [local simp ↓] runK_skip runK_region runK_draw runK_seq runK_cut runK_cond runK_block runK_loop runK_exit runK_label runK_goto runK_ret runK_range contK_nil contK_seq contK_seq_ret contK_seq_exit contK_seq_goto contK_block contK_block_ret contK_block_goto contK_block_exit runO_nil runO_cons roundK_exit roundK_ret roundK_goto exitK_ret cutK_ret cutK_exit runE_done runE_nil runE_take runE_alt condG_true condG_false
set_option maxRecDepth 10000
/-! ## LeaseBytes -/
theorem okBook {l : List LeaseS} (h : BookOk l) : SrtOk l := ok_of_perm (List.Perm.refl l) h
theorem inOrd_book {l : List LeaseS} (h : BookOk l) : inOrd l := by
  rw [inOrd_eq (okBook h)]; exact srtP_self h
theorem rdA_book (l : List LeaseS) (hi : ∀ x ∈ l, i64L x) (j : Nat) (hj : j ≤ l.length) : rdA (some (l.flatMap recB)) j = (l.take j, some ((l.drop j).flatMap recB)) := by
  induction j with
  | zero => simp [rdA]
  | succ j ih =>
    have hjl : j < l.length := by omega
    obtain ⟨h1, h2, h3⟩ := hi l[j] (List.getElem_mem hjl)
    have e1 : (l.drop j).flatMap recB = num l[j].s ++ (num l[j].v ++ (num l[j].u ++ (l.drop (j + 1)).flatMap recB)) := by
      rw [List.drop_eq_getElem_cons hjl, List.flatMap_cons]
      simp [recB]
    rw [rdA, ih (by omega)]
    simp only
    rw [e1, rnumS_num _ h1.1 h1.2]
    simp only
    rw [rnumS_num _ h2.1 h2.2]
    simp only
    rw [rnumS_num _ h3.1 h3.2, List.take_succ_eq_append_getElem hjl]
def listP (b : List UInt8) : List LeaseS := (rdA (rcountS (some b) 16).2 (rcountS (some b) 16).1.toNat).1
theorem parse_own {l : List LeaseS} (h : BookOk l) (hi : ∀ x ∈ l, i64L x) : ParseOk (bookB l) ∧ listP (bookB l) = l := by
  have hl := book_len h
  have e1 : rcountS (some (bookB l)) 16 = ((l.length : Int), some (l.flatMap recB)) := by
    unfold rcountS bookB
    rw [rnumS_num _ (by omega) (by omega)]
    simp only
    rw [if_neg (by omega)]
  have e2 := rdA_book l hi l.length (Nat.le_refl _)
  rw [List.take_length, List.drop_length] at e2
  unfold ParseOk listP
  rw [e1]
  simp only [Int.toNat_natCast]
  rw [e2]
  exact ⟨⟨rfl, okBook h, inOrd_book h⟩, rfl⟩
theorem flat_u8s (l : List UInt8) : l.flatMap (fun n => [AV.c (u8 n)]) = u8av l := by
  induction l with
  | nil => rfl
  | cons b l ih => rw [List.flatMap_cons, ih]; rfl
def opnRaw : Opn Try.prog 45 (List UInt8) :=
  (opnSlice (opnU8 Try.underlying5 (by kernel_rfl)) 1 Try.underlying45 (by kernel_rfl) (by kernel_rfl) (by decide)).map id (fun l => [.fs 1 l.length (u8av l)]) (fun l => l.length ≤ maxLen) (fun l => by simp only [opnSlice, opnU8, id]; rw [flat_u8s]) (fun l h => h.1) fun _ => by kernel_rfl
set_option maxHeartbeats 8000000 in
theorem bytes_walk (l : List LeaseS) (h : l.length ≤ maxLen ∧ ∀ x ∈ l, i64L x) (raw : List UInt8) (hr : raw.length ≤ maxLen) : ACalls Try.prog 6 [.fs 3 l.length (leasesA l), .fs 1 raw.length (u8av raw)] [] (fun _ => false) (fun r h' => r = .c (.bool true)) := by
  refine acallsC [9] mixed Try.func6 rfl Try.ntmps6 rfl fun E hE hst hho => ?_
  simp (maxSteps := 1000000) [hho, -List.reduceReplicate]
  refine call_plain (fun _ => false) first_lease (ha := by rfl) (by simp) ?_
  rintro r h' ⟨rfl, rfl⟩
  refine ⟨rfl, ?_⟩
  by_cases h40 : (40 : Int) < l.length
  · simp (maxSteps := 1000000) [hho, h40, undef, onGP_none, condG_false, -List.reduceReplicate]
    exact Ret.drop (by rfl) rfl
  by_cases h500 : (500 : Int) < raw.length
  · simp (maxSteps := 1000000) [hho, h40, h500, undef, onGP_none, condG_false, -List.reduceReplicate]
    exact Ret.drop (by rfl) rfl
  have hl : l.length ≤ 40 := by omega
  have hrw : raw.length ≤ 500 := by omega
  simp (maxSteps := 1000000) [hho, h40, h500, undef, onGP_none, condG_false, -List.reduceReplicate]
  by_cases hp : ParseOk raw
  · obtain ⟨x, hx⟩ : ∃ x, x = listP raw := ⟨_, rfl⟩
    have hx' : (rdA (rcountS (some raw) 16).2 (rcountS (some raw) 16).1.toNat).1 = x := hx.symm
    have hpb := parse_book raw (by omega) (fun r h' => r = .tup [.ptr 0 0 1, .c (.bool true)] ∧ h' = bookO x) (fun _ => ⟨rfl, by rw [hx']⟩) fun hn => absurd hp hn
    have hpr := parse_ref raw (by omega) (fun r h' => r = .tup [.fs 3 x.length (leasesA x), .c (.bool true)] ∧ h' = []) (fun _ => ⟨by rw [hx'], rfl⟩) fun hn => absurd hp hn
    have hxl := book_len (order_book hp.2.1 hp.2.2)
    rw [hx'] at hxl
    have hall := all_book x (by omega)
    have hsame := same_ref x x (by omega) (by omega) true (by simp)
    refine call_x [] hpb rfl rfl ⟨rfl, rfl⟩ hho (by simp) (by decide) (by simp) (by simp) ?_
    simp (maxSteps := 1000000) [bookO, rowL, hho, -List.reduceReplicate]
    refine call_x [] hpr rfl rfl ⟨rfl, rfl⟩ hho (by simp) (by decide) (by simp) (by simp) ?_
    simp (maxSteps := 1000000) [bookO, rowL, hho, -List.reduceReplicate]
    refine seq_cut mixed [] (fun _ : Unit => ⟨slotsOf 86 [(0, .fs 3 l.length (leasesA l))], []⟩) (fun _ => True) ?_ ?_
    · intro _ _
      by_cases hok : SrtOk l
      · obtain ⟨hb, he⟩ := srtOk_new hok
        have hnew := new_core l (by omega) (fun r h' => r = .tup [.ptr 0 0 1, .c (.int .i64 0)] ∧ h' = bookO (stabS ltL l)) (fun _ => ⟨rfl, rfl⟩) fun hn => absurd ((newOk_iff l).2 hok) hn
        have hsr := sorted_ref l (by omega) (fun r h' => r = .tup [.fs 3 (srtP l 16).length (leasesA (srtP l 16)), .c (.bool true)] ∧ h' = []) (fun _ => ⟨rfl, rfl⟩) (fun h => absurd hok h)
        rw [he] at hsr
        have hix : ∀ x ∈ stabS ltL l, i64L x := fun x hx => h.2 x ((stab_ok l).1.mem_iff.1 hx)
        obtain ⟨x, hx⟩ : ∃ x, x = stabS ltL l := ⟨_, rfl⟩
        rw [← hx] at hnew hsr hb hix
        have hxl := book_len hb
        obtain ⟨hp, hlp⟩ := parse_own hb hix
        have hbb := bytes_book x (by omega) hix
        have hbr := bytes_ref x (by omega) hix
        have hbl : (bookB x).length ≤ 1000000000 := by
          have := num_len (x.length : Int) (by omega) (by omega)
          have := recs_len x hix
          unfold bookB
          rw [List.length_append]
          omega
        have hpb := parse_book (bookB x) hbl (fun r h' => r = .tup [.ptr 0 0 1, .c (.bool true)] ∧ h' = bookO x) (fun _ => ⟨rfl, by rw [show (rdA (rcountS (some (bookB x)) 16).2 (rcountS (some (bookB x)) 16).1.toNat).1 = x from hlp]⟩) fun hn => absurd hp hn
        have hall := all_book x (by omega)
        have hsame := same_ref x x (by omega) (by omega) true (by simp)
        obtain ⟨B, hB⟩ : ∃ B, B = bookB x := ⟨_, rfl⟩
        rw [← hB] at hbb hbr hbl hpb
        simp (maxSteps := 1000000) [slotsOf, hho, -List.reduceReplicate]
        refine call_x [] hnew rfl rfl ⟨rfl, rfl⟩ hho (by simp) (by decide) (by simp) (by simp) ?_
        simp (maxSteps := 1000000) [bookO, rowL, hho, -List.reduceReplicate]
        refine call_x [] hsr rfl rfl ⟨rfl, rfl⟩ hho (by simp) (by decide) (by simp) (by simp) ?_
        simp (maxSteps := 1000000) [bookO, rowL, hho, -List.reduceReplicate]
        refine call_x [0, 1] hbb rfl rfl ⟨rfl, rfl⟩ hho (by simp) (by decide) (by simp) (by simp [bookO]) ?_
        simp (maxSteps := 1000000) [bookO, rowL, hho, -List.reduceReplicate]
        refine call_x [] hpb rfl rfl ⟨rfl, rfl⟩ hho (by simp) (by decide) (by simp) (by simp) ?_
        simp (maxSteps := 1000000) [bookO, rowL, hho, -List.reduceReplicate]
        refine draw_k hho (.take 0 (.take 3 (.alt 1 (.take 2 (.alt 4 (.take 5 (.take 6 (.take 7 (.take 8 (.take 9 (.take 10 (.take 12 (.alt 11 (.alt 13 (.take 14 (.take 15 (.done))) (.nil)) (.nil))))))))) (.nil))) (.nil)))) [] [] (by decide +kernel) (by simp) ?_
        simp (maxSteps := 1000000) [hho, roOf, holdOf, wrOf, altK, heldOk, Region.binds, -List.reduceReplicate]
        intro E1
        refine call_h [0, 1] hbb rfl rfl ⟨rfl, rfl⟩ (by simp) (by simp) (by decide) (by simp) (by simp [bookO]) ?_
        simp (maxSteps := 1000000) [bookO, rowL, hho, bytesOf_str, roOf, holdOf, wrOf, altK, heldOk, Region.binds, -List.reduceReplicate]
        intro E2
        refine call_h [] hbr rfl rfl ⟨rfl, rfl⟩ (by simp) (by simp) (by decide) (by simp) (by simp) ?_
        simp (maxSteps := 1000000) [bookO, rowL, hho, bytesOf_str, roOf, holdOf, wrOf, altK, heldOk, Region.binds, -List.reduceReplicate]
        intro E3
        refine call_h [2, 3] hall rfl rfl ⟨rfl, rfl⟩ (by simp) (by simp) (by decide) (by simp) (by simp [bookO]) ?_
        simp (maxSteps := 1000000) [bookO, rowL, hho, bytesOf_str, roOf, holdOf, wrOf, altK, heldOk, Region.binds, -List.reduceReplicate]
        intro E4
        refine call_h [] hsame rfl rfl ⟨rfl, rfl⟩ (by simp) (by simp) (by decide) (by simp) (by simp) ?_
        simp (maxSteps := 1000000) [bookO, rowL, hho, bytesOf_str, roOf, holdOf, wrOf, altK, heldOk, Region.binds, -List.reduceReplicate]
        exact Ret.drop (by rfl) rfl
      · have hnew := new_core l (by omega) (fun r h' => r = .tup [.c (.pointer none), .c (.int .i64 2)] ∧ h' = []) (fun hn => absurd ((newOk_iff l).1 hn) hok) fun _ => ⟨rfl, rfl⟩
        have hsr := sorted_ref l (by omega) (fun r h' => r = .tup [.fs 3 0 [], .c (.bool false)] ∧ h' = []) (fun h => absurd h hok) (fun _ => ⟨rfl, rfl⟩)
        simp (maxSteps := 1000000) [slotsOf, hho, -List.reduceReplicate]
        refine call_x [] hnew rfl rfl ⟨rfl, rfl⟩ hho (by simp) (by decide) (by simp) (by simp) ?_
        simp (maxSteps := 1000000) [hho, -List.reduceReplicate]
        refine call_x [] hsr rfl rfl ⟨rfl, rfl⟩ hho (by simp) (by decide) (by simp) (by simp) ?_
        simp (maxSteps := 1000000) [hho, -List.reduceReplicate]
        exact Ret.drop (by rfl) rfl
    · simp (maxSteps := 1000000) [bookO, rowL, hho, -List.reduceReplicate]
      refine call_x [0, 1] hall rfl rfl ⟨rfl, rfl⟩ hho (by simp) (by decide) (by simp) (by simp [bookO]) ?_
      simp (maxSteps := 1000000) [bookO, rowL, hho, -List.reduceReplicate]
      refine call_x [] hsame rfl rfl ⟨rfl, rfl⟩ hho (by simp) (by decide) (by simp) (by simp) ?_
      simp (maxSteps := 1000000) [bookO, rowL, hho, -List.reduceReplicate]
      refine cut_to () trivial ?_
      exact wk_of 0 2 (by simp) (by simp [hE, lens]) (by simp) (by simp [livH, livO, AV.livL, AV.liv, wkL, wkV, List.range']) (by simp [livH, livO, AV.livL, AV.liv, wkL, wkV, List.range', slotsOf])
  · have hpb := parse_book raw (by omega) (fun r h' => r = .tup [.c (.pointer none), .c (.bool false)] ∧ h' = []) (fun hn => absurd hn hp) fun _ => ⟨rfl, rfl⟩
    have hpr := parse_ref raw (by omega) (fun r h' => r = .tup [.fs 3 0 [], .c (.bool false)] ∧ h' = []) (fun hn => absurd hn hp) fun _ => ⟨rfl, rfl⟩
    have hsame : ACalls Try.prog 27 [.fs 3 0 [], .fs 3 0 []] [] (fun _ => false) (fun r h' => r = .c (.bool true) ∧ h' = []) := same_ref [] [] (by simp) (by simp) true (by simp)
    refine call_x [] hpb rfl rfl ⟨rfl, rfl⟩ hho (by simp) (by decide) (by simp) (by simp) ?_
    simp (maxSteps := 1000000) [hho, -List.reduceReplicate]
    refine call_x [] hpr rfl rfl ⟨rfl, rfl⟩ hho (by simp) (by decide) (by simp) (by simp) ?_
    simp (maxSteps := 1000000) [hho, -List.reduceReplicate]
    refine seq_cut mixed [] (fun _ : Unit => ⟨slotsOf 86 [(0, .fs 3 l.length (leasesA l))], []⟩) (fun _ => True) ?_ ?_
    · intro _ _
      by_cases hok : SrtOk l
      · obtain ⟨hb, he⟩ := srtOk_new hok
        have hnew := new_core l (by omega) (fun r h' => r = .tup [.ptr 0 0 1, .c (.int .i64 0)] ∧ h' = bookO (stabS ltL l)) (fun _ => ⟨rfl, rfl⟩) fun hn => absurd ((newOk_iff l).2 hok) hn
        have hsr := sorted_ref l (by omega) (fun r h' => r = .tup [.fs 3 (srtP l 16).length (leasesA (srtP l 16)), .c (.bool true)] ∧ h' = []) (fun _ => ⟨rfl, rfl⟩) (fun h => absurd hok h)
        rw [he] at hsr
        have hix : ∀ x ∈ stabS ltL l, i64L x := fun x hx => h.2 x ((stab_ok l).1.mem_iff.1 hx)
        obtain ⟨x, hx⟩ : ∃ x, x = stabS ltL l := ⟨_, rfl⟩
        rw [← hx] at hnew hsr hb hix
        have hxl := book_len hb
        obtain ⟨hp, hlp⟩ := parse_own hb hix
        have hbb := bytes_book x (by omega) hix
        have hbr := bytes_ref x (by omega) hix
        have hbl : (bookB x).length ≤ 1000000000 := by
          have := num_len (x.length : Int) (by omega) (by omega)
          have := recs_len x hix
          unfold bookB
          rw [List.length_append]
          omega
        have hpb := parse_book (bookB x) hbl (fun r h' => r = .tup [.ptr 0 0 1, .c (.bool true)] ∧ h' = bookO x) (fun _ => ⟨rfl, by rw [show (rdA (rcountS (some (bookB x)) 16).2 (rcountS (some (bookB x)) 16).1.toNat).1 = x from hlp]⟩) fun hn => absurd hp hn
        have hall := all_book x (by omega)
        have hsame := same_ref x x (by omega) (by omega) true (by simp)
        obtain ⟨B, hB⟩ : ∃ B, B = bookB x := ⟨_, rfl⟩
        rw [← hB] at hbb hbr hbl hpb
        simp (maxSteps := 1000000) [slotsOf, hho, -List.reduceReplicate]
        refine call_x [] hnew rfl rfl ⟨rfl, rfl⟩ hho (by simp) (by decide) (by simp) (by simp) ?_
        simp (maxSteps := 1000000) [bookO, rowL, hho, -List.reduceReplicate]
        refine call_x [] hsr rfl rfl ⟨rfl, rfl⟩ hho (by simp) (by decide) (by simp) (by simp) ?_
        simp (maxSteps := 1000000) [bookO, rowL, hho, -List.reduceReplicate]
        refine call_x [0, 1] hbb rfl rfl ⟨rfl, rfl⟩ hho (by simp) (by decide) (by simp) (by simp [bookO]) ?_
        simp (maxSteps := 1000000) [bookO, rowL, hho, -List.reduceReplicate]
        refine call_x [] hpb rfl rfl ⟨rfl, rfl⟩ hho (by simp) (by decide) (by simp) (by simp) ?_
        simp (maxSteps := 1000000) [bookO, rowL, hho, -List.reduceReplicate]
        refine draw_k hho (.take 0 (.take 3 (.alt 1 (.take 2 (.alt 4 (.take 5 (.take 6 (.take 7 (.take 8 (.take 9 (.take 10 (.take 12 (.alt 11 (.alt 13 (.take 14 (.take 15 (.done))) (.nil)) (.nil))))))))) (.nil))) (.nil)))) [] [] (by decide +kernel) (by simp) ?_
        simp (maxSteps := 1000000) [hho, roOf, holdOf, wrOf, altK, heldOk, Region.binds, -List.reduceReplicate]
        intro E1
        refine call_h [0, 1] hbb rfl rfl ⟨rfl, rfl⟩ (by simp) (by simp) (by decide) (by simp) (by simp [bookO]) ?_
        simp (maxSteps := 1000000) [bookO, rowL, hho, bytesOf_str, roOf, holdOf, wrOf, altK, heldOk, Region.binds, -List.reduceReplicate]
        intro E2
        refine call_h [] hbr rfl rfl ⟨rfl, rfl⟩ (by simp) (by simp) (by decide) (by simp) (by simp) ?_
        simp (maxSteps := 1000000) [bookO, rowL, hho, bytesOf_str, roOf, holdOf, wrOf, altK, heldOk, Region.binds, -List.reduceReplicate]
        intro E3
        refine call_h [2, 3] hall rfl rfl ⟨rfl, rfl⟩ (by simp) (by simp) (by decide) (by simp) (by simp [bookO]) ?_
        simp (maxSteps := 1000000) [bookO, rowL, hho, bytesOf_str, roOf, holdOf, wrOf, altK, heldOk, Region.binds, -List.reduceReplicate]
        intro E4
        refine call_h [] hsame rfl rfl ⟨rfl, rfl⟩ (by simp) (by simp) (by decide) (by simp) (by simp) ?_
        simp (maxSteps := 1000000) [bookO, rowL, hho, bytesOf_str, roOf, holdOf, wrOf, altK, heldOk, Region.binds, -List.reduceReplicate]
        exact Ret.drop (by rfl) rfl
      · have hnew := new_core l (by omega) (fun r h' => r = .tup [.c (.pointer none), .c (.int .i64 2)] ∧ h' = []) (fun hn => absurd ((newOk_iff l).1 hn) hok) fun _ => ⟨rfl, rfl⟩
        have hsr := sorted_ref l (by omega) (fun r h' => r = .tup [.fs 3 0 [], .c (.bool false)] ∧ h' = []) (fun h => absurd h hok) (fun _ => ⟨rfl, rfl⟩)
        simp (maxSteps := 1000000) [slotsOf, hho, -List.reduceReplicate]
        refine call_x [] hnew rfl rfl ⟨rfl, rfl⟩ hho (by simp) (by decide) (by simp) (by simp) ?_
        simp (maxSteps := 1000000) [hho, -List.reduceReplicate]
        refine call_x [] hsr rfl rfl ⟨rfl, rfl⟩ hho (by simp) (by decide) (by simp) (by simp) ?_
        simp (maxSteps := 1000000) [hho, -List.reduceReplicate]
        exact Ret.drop (by rfl) rfl
    · simp (maxSteps := 1000000) [hho, -List.reduceReplicate]
      refine call_x [] all_nil rfl rfl ⟨rfl, rfl⟩ hho (by simp) (by decide) (by simp) (by simp) ?_
      simp (maxSteps := 1000000) [hho, -List.reduceReplicate]
      refine callG_nilAt 0 3 rfl ?_
      refine call_x [] hsame rfl rfl ⟨rfl, rfl⟩ hho (by simp) (by decide) (by simp) (by simp) ?_
      simp (maxSteps := 1000000) [hho, -List.reduceReplicate]
      refine cut_to () trivial ?_
      exact wk_eq (by simp [hE, lens]) (by simp) (by simp [livH, livO, AV.livL, AV.liv, wkL, wkV, List.range', slotsOf])
end Go.Proofs.Ytglhmhpaoebifaa
