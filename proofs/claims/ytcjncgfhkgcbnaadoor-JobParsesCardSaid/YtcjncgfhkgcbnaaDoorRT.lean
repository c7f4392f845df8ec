import Derived.Test.YtcjncgfhkgcbnaaDoorHRh
import Derived.Test.YtcjncgfhkgcbnaaDoorHR3
import Derived.Test.YtcjncgfhkgcbnaaDoorHR5
namespace Go.Proofs.YtcjncgfhkgcbnaaDoor
set_option linter.unusedVariables false
set_option linter.unusedSimpArgs false
open Go.RowKit
attribute [local simp] isCut_nil isCut_region isCut_seq isCut_block isCut_loop isCut_cond isCut_skip isCut_exit isCut_ret isCut_range swapK putK altK condK_bool pickP_bool stepP stepO onPure_some onPure_none onImpl_some onImpl_none stepC onGP_some onGP_none onGV_some condG mkG onIt_it nextP_ptr takeP_eq takeV_some takeV_none takeU_some takeU_none takeQ takeW_some takeN_none takeN_some takeG_some takeO_some altO_some pureV binV2 eqF eqOp ovlV ovl2 rowAt capV binV intBin strBin isSh shV fldV ixV sliceV slice3V loadAV nilV lenV callV unV convV viewS cellsH loadV fldCut AV.ung AV.ungs AV.gc AV.cells AS.ev AS.put anyS gcsV gcO lens lnO gV guardV retK RetP_eq resV oneV anyRo loIx hiIx implO callP_clo evL gcsL clearV storeAV AS.push AS.setO appV appZ shortS copyV buildV partsV fillV srcV fzO okV isCell_c isCell_ptr isCell_sl isCell_fs isCell_fp isCell_clo rowZ_one rowZ_zero rowZ_2 rowZ_3 rowZ_4 rowZ_5 rowZ_6 rowZ_7 rowZ_8 rowZ_9 rowZ_10 rowZ_11 rowZ_12 noHo Value.oneCell' max2V min2V lookV updV lenM msAt afterH putBack frzFrom frzO rebO backIx nilEq_sl nilEq_fs nilOp_eql nilOp_neq AV.reb AV.rebL
attribute [local simp ↓] runK_skip runK_region runK_draw runK_seq runK_cut runK_cond runK_block runK_loop runK_exit runK_label runK_goto runK_ret runK_range contK_nil contK_seq contK_seq_ret contK_seq_exit contK_seq_goto contK_block contK_block_ret contK_block_goto contK_block_exit runO_nil runO_cons roundK_exit roundK_ret roundK_goto exitK_ret cutK_ret cutK_exit runE_done runE_nil runE_take runE_alt condG_true condG_false
set_option maxRecDepth 10000
theorem get_of (b : List UInt8) : (rnum b = none ∧ getS b = (0, 0)) ∨ ∃ x j, 0 < j ∧ j ≤ b.length ∧ getS b = (x, j) ∧ rnum b = some (x, b.drop j) := by
  cases h : rnum b with
  | none => exact .inl ⟨rfl, by simp [getS, h]⟩
  | some p =>
    obtain ⟨x, r⟩ := p
    have h1 := rnum_lt h
    have h2 := rnum_drop h
    exact .inr ⟨x, b.length - r.length, by omega, by omega, by simp [getS, h], by rw [← h2]⟩
theorem text_of (b : List UInt8) : ((rtextS (some b)).2 = none ∧ getTextS b = ([], 0)) ∨ ∃ j, 0 < j ∧ j ≤ b.length ∧ getTextS b = ((rtextS (some b)).1, j) ∧ (rtextS (some b)).2 = some (b.drop j) := by
  cases h : rnum b with
  | none => exact .inl ⟨by simp [rtextS, rnumS_bad h], by simp [getTextS, h]⟩
  | some p =>
    obtain ⟨x, r⟩ := p
    have h1 := rnum_lt h
    have h2 := rnum_drop h
    simp only [rtextS, rnumS_good h, getTextS, h]
    by_cases hx : x < 0 ∨ (r.length : Int) < x
    · exact .inl ⟨by rw [if_pos hx], by rw [if_pos hx]⟩
    · refine .inr ⟨b.length - r.length + x.toNat, by omega, by omega, by rw [if_neg hx, if_neg hx], ?_⟩
      rw [if_neg hx]
      conv => lhs; rw [h2]
      rw [List.drop_drop]
theorem readN_no {n i : Nat} {r0 r : List UInt8} {l : List CellS} (h : readN n r0 = (readN (n - i) r).bind fun q => some (l ++ q.1, q.2)) (hi : i < n) (hg : getL r = none) : readN n r0 = none := by
  rw [h, show n - i = n - (i + 1) + 1 by omega, readN, hg]; rfl
theorem readN_go {n i : Nat} {r0 r r' : List UInt8} {l : List CellS} {c : CellS} (h : readN n r0 = (readN (n - i) r).bind fun q => some (l ++ q.1, q.2)) (hi : i < n) (hg : getL r = some (c, r')) : readN n r0 = (readN (n - (i + 1)) r').bind fun q => some ((l ++ [c]) ++ q.1, q.2) := by
  rw [h, show n - i = n - (i + 1) + 1 by omega, readN, hg]
  simp only [Option.bind_some, Option.bind_assoc]
  congr 1
  funext q
  simp
def f3R (l : List Int) : List AV := l.map (fun x => AV.c (.int .i64 x)) ++ List.replicate (3 - l.length) (AV.c (.int .i64 0))
def cRow (v0 k : Int) (vs : List Int) : List AV := [.c (.int .i64 v0), .c (.int .i64 k), .c (.int .i64 (vs.getD 1 0)), .c (.int .i64 (vs.getD 0 0)), .c (.string ByteArray.empty)]
def cRow1 (v0 k : Int) (vs : List Int) : List AV := [.c (.int .i64 v0), .c (.int .i64 k), .c (.int .i64 (vs.getD 0 0)), .c (.int .i64 0), .c (.string ByteArray.empty)]
set_option maxHeartbeats 8000000 in
theorem parse_ref (b : List UInt8) (hb : b.length ≤ 100000) : ACalls Tryd.prog 44 [.fs 1 b.length (u8av b)] [] (fun _ => false) (fun r h' => r = rowParseA b ∧ h' = []) := by
  refine acalls mixed Tryd.func44 rfl Tryd.ntmps44 rfl fun E hE hst hho => ?_
  unfold rowParseA
  rw [parse_eq]
  have hfail : parseL b = none → (match parseL b with | some l => AV.tup [.fs 5 l.length (cellsA l), .c (.bool true)] | none => .tup [.c (.slice none 0 0), .c (.bool false)]) = .tup [.c (.slice none 0 0), .c (.bool false)] := fun h => by rw [h]
  have hg1 := ref1get_w b (by omega)
  rcases get_of b with ⟨hr, hg⟩ | ⟨x, a0, hj0, hjb, hg, hr⟩
  · rw [hg] at hg1
    have hN : parseL b = none := by simp [parseL, hr]
    simp (maxSteps := 1000000) [hho, noHo, -List.reduceReplicate]
    refine call_x [] hg1 rfl rfl ⟨rfl, rfl⟩ hho (by simp) (by decide) (by simp) (by simp) ?_
    simp (maxSteps := 1000000) [hho, noHo, undef, onGP_none, condG_false, -List.reduceReplicate]
    exact Ret.same ⟨(hfail hN).symm, rfl⟩
  rw [hg] at hg1
  have hx2 : ¬ a0 = 0 := by omega
  by_cases hx : x < 0
  · have hN : parseL b = none := by simp [parseL, hr, hx]
    simp (maxSteps := 1000000) [hho, noHo, -List.reduceReplicate]
    refine call_x [] hg1 rfl rfl ⟨rfl, rfl⟩ hho (by simp) (by decide) (by simp) (by simp) ?_
    simp (maxSteps := 1000000) [hho, noHo, undef, onGP_none, condG_false, hx, hx2, -List.reduceReplicate]
    exact Ret.same ⟨(hfail hN).symm, rfl⟩
  obtain ⟨n, rfl⟩ : ∃ n : Nat, x = (n : Int) := ⟨x.toNat, by omega⟩
  have hpl : parseL b = (readN n (b.drop a0)).bind fun y => if y.2 = [] ∧ okR (-1) y.1 = true then some y.1 else none := by simp [parseL, hr]; omega
  have hx1 : ¬ (n : Int) < 0 := hx
  have hNb : readN n (b.drop a0) = none → parseL b = none := fun h => by rw [hpl, h]; rfl
  simp (maxSteps := 1000000) [hho, noHo, -List.reduceReplicate]
  refine call_x [] hg1 rfl rfl ⟨rfl, rfl⟩ hho (by simp) (by decide) (by simp) (by simp) ?_
  simp (maxSteps := 1000000) [hho, noHo, undef, onGP_none, condG_false, hx1, hx2, -List.reduceReplicate]
  refine loop_k mixed (fun y : Nat × Nat × List CellS => ⟨slotsOf 137 [(0, .fs 1 b.length (u8av b)), (4, .c (.int .i64 n)), (5, .c (.int .i64 (y.2.1 : Nat))), (6, .sl 0 5 0 y.2.2.length (y.2.2.length * 5)), (7, .c (.int .i64 (y.1 : Nat)))], [rowC y.2.2]⟩) (fun y => n - y.1) (fun y => y.1 ≤ n ∧ y.1 ≤ y.2.1 ∧ y.2.1 ≤ b.length ∧ y.2.2.length = y.1 ∧ (∀ c ∈ y.2.2, c.v.t.size ≤ b.length) ∧ readN n (b.drop a0) = (readN (n - y.1) (b.drop y.2.1)).bind fun q => some (y.2.2 ++ q.1, q.2)) (0, a0, []) ⟨Nat.zero_le _, Nat.zero_le _, hjb, rfl, (fun c hc => by cases hc), (by show readN n (b.drop a0) = (readN (n - 0) (b.drop a0)).bind fun q => some ([] ++ q.1, q.2); rw [Nat.sub_zero]; cases readN n (b.drop a0) <;> rfl)⟩ ?_ ?_
  · refine Wk.trans (wk_virt 6 88 5 rfl) ?_
    exact wk_eq (by simp [hE, lens]) (by simp [rowC, cellsA]) (by simp [livH, livO, AV.livL, AV.liv, wkL, wkV, List.range', slotsOf])
  rintro ⟨j, at1, l⟩ ⟨hj, hja, ha1, hln, hsz, hrd⟩
  simp only at hj hja ha1 hln hsz hrd
  have ht1 : (b.drop at1).length = b.length - at1 := List.length_drop
  by_cases hjn : j < n
  · have hjI : (j : Int) < n := by omega
    have hno : getL (b.drop at1) = none → parseL b = none := fun h => hNb (readN_no hrd hjn h)
    simp (maxSteps := 1000000) [slotsOf, rowC, hho, noHo, hjn, -List.reduceReplicate]
    refine loop_k mixed (fun z : Nat × Nat × List Int => ⟨slotsOf 137 [(0, .fs 1 b.length (u8av b)), (4, .c (.int .i64 n)), (5, .c (.int .i64 (z.2.1 : Nat))), (6, .sl 0 5 0 l.length (l.length * 5)), (7, .c (.int .i64 (j : Nat))), (8, .ptr 1 0 3), (9, .c (.int .i64 (z.1 : Nat)))], [rowC l, .o .box (f3R z.2.2)]⟩) (fun z => 2 - z.1)
      (fun z => z.1 ≤ 2 ∧ at1 + z.1 ≤ z.2.1 ∧ z.2.1 ≤ b.length ∧ ((z.1 = 0 ∧ z.2.2 = [] ∧ z.2.1 = at1) ∨ (z.1 = 1 ∧ ∃ v0, z.2.2 = [v0] ∧ rnum (b.drop at1) = some (v0, b.drop z.2.1)) ∨ (z.1 = 2 ∧ ∃ v0 v1 r1, z.2.2 = [v0, v1] ∧ rnum (b.drop at1) = some (v0, r1) ∧ rnum r1 = some (v1, b.drop z.2.1)))) (0, at1, []) ⟨by omega, by simp, ha1, .inl ⟨rfl, rfl, rfl⟩⟩ ?_ ?_
    · exact wk_eq (by simp [hE, lens]) (by simp [rowC, f3R]) (by simp [livH, livO, AV.livL, AV.liv, wkL, wkV, List.range', slotsOf])
    rintro ⟨k, at2, vs⟩ ⟨hk, hk2, ha2, hI⟩
    simp only at hk hk2 ha2 hI
    have ht2 : (b.drop at2).length = b.length - at2 := List.length_drop
    have hgc := ref1get_w (b.drop at2) (by simp; omega)
    have w1 : IntKind.i64.wrap 1 = 1 := by decide
    have w2 : IntKind.i64.wrap 2 = 2 := by decide
    rcases hI with ⟨rfl, rfl, rfl⟩ | ⟨rfl, v0, rfl, hr0⟩ | ⟨rfl, v0, v1, r1, rfl, hr0, hr1⟩
    · rcases get_of (b.drop at2) with ⟨hr2, hg2⟩ | ⟨x2, a2, hj2, hjb2, hg2, hr2⟩
      · rw [hg2, ht2] at hgc
        have hN := hno (by simp [getL, hr2])
        simp (maxSteps := 1000000) [slotsOf, rowC, f3R, hho, noHo, -List.reduceReplicate]
        refine ⟨by omega, ?_⟩
        refine call_x [] hgc rfl rfl ⟨by simp [u8av]; exact List.take_of_length_le (by simp), rfl⟩ hho (by simp) (by decide) (by simp) (by simp) ?_
        simp (maxSteps := 1000000) [hho, noHo, undef, onGP_none, condG_false, -List.reduceReplicate]
        exact Ret.drop (by rfl) ⟨(hfail hN).symm, rfl⟩
      · rw [hg2, ht2] at hgc
        have hx2b : ¬ a2 = 0 := by omega
        rw [ht2] at hjb2
        rw [List.drop_drop] at hr2
        have ew : IntKind.i64.wrap ((at2 : Int) + a2) = (at2 + a2 : Nat) := by rw [IntWalk.i64_in _ (by omega)]; rfl
        simp (maxSteps := 1000000) [slotsOf, rowC, f3R, hho, noHo, -List.reduceReplicate]
        refine ⟨by omega, ?_⟩
        refine call_x [] hgc rfl rfl ⟨by simp [u8av]; exact List.take_of_length_le (by simp), rfl⟩ hho (by simp) (by decide) (by simp) (by simp) ?_
        simp (maxSteps := 1000000) [hho, noHo, undef, onGP_none, condG_false, hx2b, ew, -List.reduceReplicate]
        refine round_next (1, at2 + a2, [x2]) ⟨by simp, by simp only; omega, by simp only; omega, .inr (.inl ⟨rfl, x2, rfl, hr2⟩)⟩ (by simp only; omega) ?_
        exact wk_eq (by simp [hE, lens]) (by simp [rowC, f3R]) (by simp [livH, livO, AV.livL, AV.liv, wkL, wkV, List.range', slotsOf, w1, w2])
    · rcases get_of (b.drop at2) with ⟨hr2, hg2⟩ | ⟨x2, a2, hj2, hjb2, hg2, hr2⟩
      · rw [hg2, ht2] at hgc
        have hN := hno (by simp [getL, hr0, hr2])
        simp (maxSteps := 1000000) [slotsOf, rowC, f3R, hho, noHo, -List.reduceReplicate]
        refine ⟨by omega, ?_⟩
        refine call_x [] hgc rfl rfl ⟨by simp [u8av]; exact List.take_of_length_le (by simp), rfl⟩ hho (by simp) (by decide) (by simp) (by simp) ?_
        simp (maxSteps := 1000000) [hho, noHo, undef, onGP_none, condG_false, -List.reduceReplicate]
        exact Ret.drop (by rfl) ⟨(hfail hN).symm, rfl⟩
      · rw [hg2, ht2] at hgc
        have hx2b : ¬ a2 = 0 := by omega
        rw [ht2] at hjb2
        rw [List.drop_drop] at hr2
        have ew : IntKind.i64.wrap ((at2 : Int) + a2) = (at2 + a2 : Nat) := by rw [IntWalk.i64_in _ (by omega)]; rfl
        simp (maxSteps := 1000000) [slotsOf, rowC, f3R, hho, noHo, -List.reduceReplicate]
        refine ⟨by omega, ?_⟩
        refine call_x [] hgc rfl rfl ⟨by simp [u8av]; exact List.take_of_length_le (by simp), rfl⟩ hho (by simp) (by decide) (by simp) (by simp) ?_
        simp (maxSteps := 1000000) [hho, noHo, undef, onGP_none, condG_false, hx2b, ew, -List.reduceReplicate]
        refine round_next (2, at2 + a2, [v0, x2]) ⟨by simp, by simp only; omega, by simp only; omega, .inr (.inr ⟨rfl, v0, x2, rfl, _, hr0, hr2⟩)⟩ (by simp only; omega) ?_
        exact wk_eq (by simp [hE, lens]) (by simp [rowC, f3R]) (by simp [livH, livO, AV.livL, AV.liv, wkL, wkV, List.range', slotsOf, w1, w2])
    · have ewj : IntKind.i64.wrap ((j : Int) + 1) = (j + 1 : Nat) := by rw [IntWalk.i64_in _ (by omega)]; rfl
      by_cases k1 : v1 < 1
      · have hN := hno (by simp [getL, hr0, hr1, k1])
        simp (maxSteps := 1000000) [slotsOf, rowC, f3R, hho, noHo, k1, undef, onGP_none, condG_false, -List.reduceReplicate]
        exact Ret.drop (by rfl) ⟨(hfail hN).symm, rfl⟩
      by_cases k5 : 5 < v1
      · have hN := hno (by simp [getL, hr0, hr1, k5])
        simp (maxSteps := 1000000) [slotsOf, rowC, f3R, hho, noHo, k1, k5, undef, onGP_none, condG_false, -List.reduceReplicate]
        exact Ret.drop (by rfl) ⟨(hfail hN).symm, rfl⟩
      have k15 : ¬ (v1 < 1 ∨ 5 < v1) := by omega
      by_cases k3 : 3 < v1
      · have hgt := gettext_ref (b.drop at2) (by simp; omega)
        rcases text_of (b.drop at2) with ⟨hr2, hg2⟩ | ⟨a2, hj2, hjb2, hg2, hr2⟩
        · rw [hg2, ht2] at hgt
          have hN := hno (by simp [getL, hr0, hr1, k15, k3, hr2])
          simp (maxSteps := 1000000) [slotsOf, rowC, f3R, hho, noHo, k1, k5, k3, -List.reduceReplicate]
          refine ⟨by omega, ?_⟩
          refine call_x [] hgt rfl rfl ⟨by simp [u8av]; exact List.take_of_length_le (by simp), rfl⟩ hho (by simp) (by decide) (by simp) (by simp) ?_
          simp (maxSteps := 1000000) [hho, noHo, undef, onGP_none, condG_false, -List.reduceReplicate]
          exact Ret.drop (by rfl) ⟨(hfail hN).symm, rfl⟩
        · rw [hg2, ht2] at hgt
          have hx2b : ¬ a2 = 0 := by omega
          rw [ht2] at hjb2
          rw [List.drop_drop] at hr2
          have hgl : getL (b.drop at1) = some (⟨v0, ⟨v1, 0, 0, str (rtextS (some (b.drop at2))).1⟩⟩, b.drop (at2 + a2)) := by simp [getL, hr0, hr1, k15, k3, hr2]; rfl
          have hsn := cellsA_snoc l ⟨v0, ⟨v1, 0, 0, str (rtextS (some (b.drop at2))).1⟩⟩
          have hts : (str (rtextS (some (b.drop at2))).1).size ≤ b.length := by
            rw [str_size]
            have := (rtextS_lens (s := some (b.drop at2)) (m := b.length) fun l e => by injection e with e; subst e; omega).1
            exact this
          have ew : IntKind.i64.wrap ((at2 : Int) + a2) = (at2 + a2 : Nat) := by rw [IntWalk.i64_in _ (by omega)]; rfl
          have hgo := readN_go hrd hjn hgl
          obtain ⟨S, hS⟩ : ∃ S, S = str (rtextS (some (b.drop at2))).1 := ⟨_, rfl⟩
          rw [← hS] at hgt hsn hts hgo
          simp (maxSteps := 1000000) [slotsOf, rowC, f3R, hho, noHo, k1, k5, k3, -List.reduceReplicate]
          refine ⟨by omega, ?_⟩
          refine call_x [] hgt rfl rfl ⟨by simp [u8av]; exact List.take_of_length_le (by simp), rfl⟩ hho (by simp) (by decide) (by simp) (by simp) ?_
          simp (maxSteps := 1000000) [hho, noHo, undef, onGP_none, condG_false, hx2b, ew, ewj, hln, -List.reduceReplicate]
          refine ⟨by omega, round_next (j + 1, at2 + a2, l ++ [⟨v0, ⟨v1, 0, 0, S⟩⟩]) ⟨by simp only; omega, by simp only; omega, by simp only; omega, by simp [hln], fun c hc => ?_, hgo⟩ (by simp only; omega) ?_⟩
          · rcases List.mem_append.1 hc with hc | hc
            · exact hsz c hc
            · rw [List.mem_singleton.1 hc]; exact hts
          · exact wk_of 1 3 (by simp) (by simp [hE, lens]) (by simp [rowC, hsn, cellA, valA]) (by simp [livH, livO, AV.livL, AV.liv, wkL, wkV, List.range', rowC]) (by simp [livH, livO, AV.livL, AV.liv, wkL, wkV, List.range', slotsOf, Nat.add_mul, hln])
      by_cases k33 : v1 = 3
      · subst k33
        simp (maxSteps := 1000000) [slotsOf, rowC, f3R, hho, noHo, -List.reduceReplicate]
        refine loop_k mixed (fun z : Nat × Nat × List Int => ⟨slotsOf 137 [(0, .fs 1 b.length (u8av b)), (4, .c (.int .i64 n)), (5, .c (.int .i64 (z.2.1 : Nat))), (6, .sl 0 5 0 l.length (l.length * 5)), (7, .c (.int .i64 (j : Nat))), (8, .ptr 1 0 3), (12, .ptr 2 0 5), (15, .c (.int .i64 (z.1 : Nat)))], [rowC l, .o .box (f3R [v0, 3]), .o .box (cRow v0 3 z.2.2)]⟩) (fun z => 2 - z.1)
          (fun z => z.1 ≤ 2 ∧ at2 + z.1 ≤ z.2.1 ∧ z.2.1 ≤ b.length ∧ ((z.1 = 0 ∧ z.2.2 = [] ∧ z.2.1 = at2) ∨ (z.1 = 1 ∧ ∃ c0, z.2.2 = [c0] ∧ rnum (b.drop at2) = some (c0, b.drop z.2.1)) ∨ (z.1 = 2 ∧ ∃ c0 c1 r1, z.2.2 = [c0, c1] ∧ rnum (b.drop at2) = some (c0, r1) ∧ rnum r1 = some (c1, b.drop z.2.1)))) (0, at2, []) ⟨by omega, by simp, ha2, .inl ⟨rfl, rfl, rfl⟩⟩ ?_ ?_
        · exact wk_eq (by simp [hE, lens]) (by simp [rowC, f3R, cRow]) (by simp [livH, livO, AV.livL, AV.liv, wkL, wkV, List.range', slotsOf])
        rintro ⟨k, at3, vs⟩ ⟨hk, hk3, ha3, hI⟩
        simp only at hk hk3 ha3 hI
        have ht3 : (b.drop at3).length = b.length - at3 := List.length_drop
        have hgc := ref1get_w (b.drop at3) (by simp; omega)
        rcases hI with ⟨rfl, rfl, rfl⟩ | ⟨rfl, c0, rfl, hr2⟩ | ⟨rfl, c0, c1, r2, rfl, hr2, hr22⟩
        · skip
          rcases get_of (b.drop at3) with ⟨hr3, hg3⟩ | ⟨x3, a3, hj3, hjb3, hg3, hr3⟩
          · rw [hg3, ht3] at hgc
            have hN := hno (by simp [getL, hr0, hr1, hr0, hr3])
            simp (maxSteps := 1000000) [slotsOf, rowC, f3R, cRow, hho, noHo, undef, onGP_none, condG_false, -List.reduceReplicate]
            refine ⟨by omega, ?_⟩
            refine call_x [] hgc rfl rfl ⟨by simp [u8av]; exact List.take_of_length_le (by simp), rfl⟩ hho (by simp) (by decide) (by simp) (by simp) ?_
            simp (maxSteps := 1000000) [hho, noHo, undef, onGP_none, condG_false, -List.reduceReplicate]
            exact Ret.drop (by rfl) ⟨(hfail hN).symm, rfl⟩
          · rw [hg3, ht3] at hgc
            have hx3b : ¬ a3 = 0 := by omega
            rw [ht3] at hjb3
            rw [List.drop_drop] at hr3
            have ew : IntKind.i64.wrap ((at3 : Int) + a3) = (at3 + a3 : Nat) := by rw [IntWalk.i64_in _ (by omega)]; rfl
            simp (maxSteps := 1000000) [slotsOf, rowC, f3R, cRow, hho, noHo, undef, onGP_none, condG_false, -List.reduceReplicate]
            refine ⟨by omega, ?_⟩
            refine call_x [] hgc rfl rfl ⟨by simp [u8av]; exact List.take_of_length_le (by simp), rfl⟩ hho (by simp) (by decide) (by simp) (by simp) ?_
            simp (maxSteps := 1000000) [hho, noHo, undef, onGP_none, condG_false, hx3b, ew, -List.reduceReplicate]
            refine round_next (1, at3 + a3, [x3]) ⟨by simp, by simp only; omega, by simp only; omega, .inr (.inl ⟨rfl, x3, rfl, hr3⟩)⟩ (by simp only; omega) ?_
            exact wk_eq (by simp [hE, lens]) (by simp [rowC, f3R, cRow]) (by simp [livH, livO, AV.livL, AV.liv, wkL, wkV, List.range', slotsOf, w1, w2])
        · skip
          rcases get_of (b.drop at3) with ⟨hr3, hg3⟩ | ⟨x3, a3, hj3, hjb3, hg3, hr3⟩
          · rw [hg3, ht3] at hgc
            have hN := hno (by simp [getL, hr0, hr1, hr2, hr3])
            simp (maxSteps := 1000000) [slotsOf, rowC, f3R, cRow, hho, noHo, undef, onGP_none, condG_false, -List.reduceReplicate]
            refine ⟨by omega, ?_⟩
            refine call_x [] hgc rfl rfl ⟨by simp [u8av]; exact List.take_of_length_le (by simp), rfl⟩ hho (by simp) (by decide) (by simp) (by simp) ?_
            simp (maxSteps := 1000000) [hho, noHo, undef, onGP_none, condG_false, -List.reduceReplicate]
            exact Ret.drop (by rfl) ⟨(hfail hN).symm, rfl⟩
          · rw [hg3, ht3] at hgc
            have hx3b : ¬ a3 = 0 := by omega
            rw [ht3] at hjb3
            rw [List.drop_drop] at hr3
            have ew : IntKind.i64.wrap ((at3 : Int) + a3) = (at3 + a3 : Nat) := by rw [IntWalk.i64_in _ (by omega)]; rfl
            simp (maxSteps := 1000000) [slotsOf, rowC, f3R, cRow, hho, noHo, undef, onGP_none, condG_false, -List.reduceReplicate]
            refine ⟨by omega, ?_⟩
            refine call_x [] hgc rfl rfl ⟨by simp [u8av]; exact List.take_of_length_le (by simp), rfl⟩ hho (by simp) (by decide) (by simp) (by simp) ?_
            simp (maxSteps := 1000000) [hho, noHo, undef, onGP_none, condG_false, hx3b, ew, -List.reduceReplicate]
            refine round_next (2, at3 + a3, [c0, x3]) ⟨by simp, by simp only; omega, by simp only; omega, .inr (.inr ⟨rfl, c0, x3, rfl, _, hr2, hr3⟩)⟩ (by simp only; omega) ?_
            exact wk_eq (by simp [hE, lens]) (by simp [rowC, f3R, cRow]) (by simp [livH, livO, AV.livL, AV.liv, wkL, wkV, List.range', slotsOf, w1, w2])
        · skip
          have hgl : getL (b.drop at1) = some (⟨v0, ⟨3, c1, c0, ByteArray.empty⟩⟩, b.drop at3) := by simp [getL, hr0, hr1, hr2, hr22]
          have hsn := cellsA_snoc l ⟨v0, ⟨3, c1, c0, ByteArray.empty⟩⟩
          have hgo := readN_go hrd hjn hgl
          simp (maxSteps := 1000000) [slotsOf, rowC, f3R, cRow, hho, noHo, undef, onGP_none, condG_false, ewj, hln, -List.reduceReplicate]
          refine ⟨by omega, round_next (j + 1, at3, l ++ [⟨v0, ⟨3, c1, c0, ByteArray.empty⟩⟩]) ⟨by simp only; omega, by simp only; omega, by simp only; omega, by simp [hln], fun c hc => ?_, hgo⟩ (by simp only; omega) ?_⟩
          · rcases List.mem_append.1 hc with hc | hc
            · exact hsz c hc
            · rw [List.mem_singleton.1 hc]; exact Nat.zero_le _
          · exact wk_of 1 3 (by simp) (by simp [hE, lens]) (by simp [rowC, hsn, cellA, valA]) (by simp [livH, livO, AV.livL, AV.liv, wkL, wkV, List.range', rowC]) (by simp [livH, livO, AV.livL, AV.liv, wkL, wkV, List.range', slotsOf, Nat.add_mul, hln])
      · skip
        simp (maxSteps := 1000000) [slotsOf, rowC, f3R, hho, noHo, k1, k5, k3, k33, -List.reduceReplicate]
        refine loop_k mixed (fun z : Nat × Nat × List Int => ⟨slotsOf 137 [(0, .fs 1 b.length (u8av b)), (4, .c (.int .i64 n)), (5, .c (.int .i64 (z.2.1 : Nat))), (6, .sl 0 5 0 l.length (l.length * 5)), (7, .c (.int .i64 (j : Nat))), (8, .ptr 1 0 3), (12, .ptr 2 0 5), (15, .c (.int .i64 (z.1 : Nat)))], [rowC l, .o .box (f3R [v0, v1]), .o .box (cRow1 v0 v1 z.2.2)]⟩) (fun z => 1 - z.1)
          (fun z => z.1 ≤ 1 ∧ at2 + z.1 ≤ z.2.1 ∧ z.2.1 ≤ b.length ∧ ((z.1 = 0 ∧ z.2.2 = [] ∧ z.2.1 = at2) ∨ (z.1 = 1 ∧ ∃ c0, z.2.2 = [c0] ∧ rnum (b.drop at2) = some (c0, b.drop z.2.1)))) (0, at2, []) ⟨by omega, by simp, ha2, .inl ⟨rfl, rfl, rfl⟩⟩ ?_ ?_
        · exact wk_eq (by simp [hE, lens]) (by simp [rowC, f3R, cRow1]) (by simp [livH, livO, AV.livL, AV.liv, wkL, wkV, List.range', slotsOf])
        rintro ⟨k, at3, vs⟩ ⟨hk, hk3, ha3, hI⟩
        simp only at hk hk3 ha3 hI
        have ht3 : (b.drop at3).length = b.length - at3 := List.length_drop
        have hgc := ref1get_w (b.drop at3) (by simp; omega)
        rcases hI with ⟨rfl, rfl, rfl⟩ | ⟨rfl, c0, rfl, hr2⟩
        · skip
          rcases get_of (b.drop at3) with ⟨hr3, hg3⟩ | ⟨x3, a3, hj3, hjb3, hg3, hr3⟩
          · rw [hg3, ht3] at hgc
            have hN := hno (by simp [getL, hr0, hr1, k15, k3, k33, hr3])
            simp (maxSteps := 1000000) [slotsOf, rowC, f3R, cRow1, hho, noHo, k1, k5, k3, k33, undef, onGP_none, condG_false, -List.reduceReplicate]
            refine ⟨by omega, ?_⟩
            refine call_x [] hgc rfl rfl ⟨by simp [u8av]; exact List.take_of_length_le (by simp), rfl⟩ hho (by simp) (by decide) (by simp) (by simp) ?_
            simp (maxSteps := 1000000) [hho, noHo, undef, onGP_none, condG_false, -List.reduceReplicate]
            exact Ret.drop (by rfl) ⟨(hfail hN).symm, rfl⟩
          · rw [hg3, ht3] at hgc
            have hx3b : ¬ a3 = 0 := by omega
            rw [ht3] at hjb3
            rw [List.drop_drop] at hr3
            have ew : IntKind.i64.wrap ((at3 : Int) + a3) = (at3 + a3 : Nat) := by rw [IntWalk.i64_in _ (by omega)]; rfl
            simp (maxSteps := 1000000) [slotsOf, rowC, f3R, cRow1, hho, noHo, k1, k5, k3, k33, undef, onGP_none, condG_false, -List.reduceReplicate]
            refine ⟨by omega, ?_⟩
            refine call_x [] hgc rfl rfl ⟨by simp [u8av]; exact List.take_of_length_le (by simp), rfl⟩ hho (by simp) (by decide) (by simp) (by simp) ?_
            simp (maxSteps := 1000000) [hho, noHo, k1, k5, k3, k33, undef, onGP_none, condG_false, hx3b, ew, -List.reduceReplicate]
            refine round_next (1, at3 + a3, [x3]) ⟨by simp, by simp only; omega, by simp only; omega, .inr ⟨rfl, x3, rfl, hr3⟩⟩ (by simp only; omega) ?_
            exact wk_eq (by simp [hE, lens]) (by simp [rowC, f3R, cRow1]) (by simp [livH, livO, AV.livL, AV.liv, wkL, wkV, List.range', slotsOf, w1, w2])
        · skip
          have hgl : getL (b.drop at1) = some (⟨v0, ⟨v1, c0, 0, ByteArray.empty⟩⟩, b.drop at3) := by simp [getL, hr0, hr1, k15, k3, k33, hr2]
          have hsn := cellsA_snoc l ⟨v0, ⟨v1, c0, 0, ByteArray.empty⟩⟩
          have hgo := readN_go hrd hjn hgl
          simp (maxSteps := 1000000) [slotsOf, rowC, f3R, cRow1, hho, noHo, k1, k5, k3, k33, undef, onGP_none, condG_false, ewj, hln, -List.reduceReplicate]
          refine ⟨by omega, round_next (j + 1, at3, l ++ [⟨v0, ⟨v1, c0, 0, ByteArray.empty⟩⟩]) ⟨by simp only; omega, by simp only; omega, by simp only; omega, by simp [hln], fun c hc => ?_, hgo⟩ (by simp only; omega) ?_⟩
          · rcases List.mem_append.1 hc with hc | hc
            · exact hsz c hc
            · rw [List.mem_singleton.1 hc]; exact Nat.zero_le _
          · exact wk_of 1 3 (by simp) (by simp [hE, lens]) (by simp [rowC, hsn, cellA, valA]) (by simp [livH, livO, AV.livL, AV.liv, wkL, wkV, List.range', rowC]) (by simp [livH, livO, AV.livL, AV.liv, wkL, wkV, List.range', slotsOf, Nat.add_mul, hln])
  · obtain rfl : j = n := by omega
    have hR := right_rows l (by omega) fun c hc => Nat.le_trans (hsz c hc) (by omega)
    have hrd2 : readN j (b.drop a0) = some (l, b.drop at1) := by rw [hrd, Nat.sub_self]; simp [readN]
    have hLl : (cellsA l).length = l.length * 5 := cellsA_length l
    have htk : List.take (l.length * 5) (cellsA l) = cellsA l := List.take_of_length_le (by omega)
    have eR : AV.fs 5 l.length (cellsA l) = .fs 5 l.length (List.take (l.length * 5) (List.drop 0 (cellsA l))) := by rw [List.drop_zero, htk]
    by_cases hat : at1 = b.length
    · rw [eR] at hR
      have hpl2 : parseL b = if okR (-1) l = true then some l else none := by rw [hpl, hrd2]; simp [hat]
      simp (maxSteps := 1000000) [slotsOf, rowC, hho, noHo, hat, -List.reduceReplicate]
      refine call_plain (fun k => k == 0) hR (ha := by rfl) ?_ ?_
      · exact ⟨⟨hLl, by omega, by unfold maxLen; omega, by rw [List.drop_zero, htk]; exact List.all_eq_true.2 ((cellsA_all l).2 trivial)⟩, trivial⟩
      rintro r h' ⟨rfl, rfl⟩
      refine ⟨rfl, ?_⟩
      cases hok : okR (-1) l with
      | false =>
        rw [hok] at hpl2
        simp (maxSteps := 1000000) [rowC, hho, noHo, -List.reduceReplicate]
        exact Ret.drop (by rfl) ⟨(hfail hpl2).symm, rfl⟩
      | true =>
        rw [hok] at hpl2
        rw [hpl2]
        simp (maxSteps := 1000000) [rowC, hho, noHo, -List.reduceReplicate]
        refine Ret.sel [] (fun k => k == 0) (ho := by rfl) (ha := by rfl) ?_ ?_ (by decide) (by simp) (fun i _ h => by cases h) ⟨?_, rfl⟩
        · simp
        · simp [hLl]
          exact ⟨by unfold maxLen; omega, by rw [htk]; exact (cellsA_all l).2 trivial⟩
        · show AV.tup [AV.fs 5 l.length (List.take (l.length * 5) (List.drop 0 (cellsA l))), .c (.bool true)] = _
          rw [List.drop_zero, htk]
    · have hatI : ¬ (at1 : Int) = b.length := by omega
      have hdr : ¬ b.drop at1 = [] := by rw [List.drop_eq_nil_iff]; omega
      have hN : parseL b = none := by rw [hpl, hrd2]; simp; intro h; omega
      simp (maxSteps := 1000000) [slotsOf, rowC, hho, noHo, hat, hatI, undef, onGP_none, condG_false, -List.reduceReplicate]
      exact Ret.drop (by rfl) ⟨(hfail hN).symm, rfl⟩
end Go.Proofs.YtcjncgfhkgcbnaaDoor
