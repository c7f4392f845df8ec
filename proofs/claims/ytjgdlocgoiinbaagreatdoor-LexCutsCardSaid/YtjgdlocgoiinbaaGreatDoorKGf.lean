import Derived.Test.YtjgdlocgoiinbaaGreatDoorKG
namespace Go.Proofs.YtjgdlocgoiinbaaGreatDoor
set_option linter.unusedVariables false
set_option linter.unusedSimpArgs false
open Go.RowKit Go.Shelf Go.Lib
attribute [local simp] isCut_nil isCut_region isCut_seq isCut_block isCut_loop isCut_cond isCut_skip isCut_exit isCut_ret isCut_range swapK putK altK condK_bool pickP_bool stepP stepO onPure_some onPure_none onImpl_some onImpl_none stepC onGP_some onGP_none onGV_some condG mkG onIt_it nextP_ptr takeP_eq takeV_some takeV_none takeU_some takeU_none takeQ takeW_some takeN_none takeN_some takeG_some takeO_some altO_some pureV binV2 eqF eqOp ovlV ovl2 rowAt capV binV intBin strBin isSh shV fldV ixV sliceV slice3V loadAV nilV lenV callV unV convV viewS cellsH loadV fldCut AV.ung AV.ungs AV.gc AV.cells AS.ev AS.put anyS gcsV gcO lens lnO gV guardV retK RetP_eq resV oneV anyRo loIx hiIx implO callP_clo evL gcsL clearV storeAV AS.push AS.setO appV appZ shortS copyV buildV partsV fillV srcV fzO okV isCell_c isCell_ptr isCell_sl isCell_fs isCell_fp isCell_clo rowZ_one rowZ_zero rowZ_2 rowZ_3 rowZ_4 rowZ_5 rowZ_6 rowZ_7 rowZ_8 rowZ_9 rowZ_10 rowZ_11 rowZ_12 noHo Value.oneCell' max2V min2V lookV updV lenM msAt afterH putBack frzFrom frzO rebO backIx nilEq_sl nilEq_fs nilEq_ifn nilEq_ifh ifOp_eql ifOp_neq isLit nilOp_eql nilOp_neq AV.reb AV.rebL
attribute [local simp ↓] runK_skip runK_region runK_draw runK_seq runK_cut runK_cond runK_block runK_loop runK_exit runK_label runK_goto runK_ret runK_range contK_nil contK_seq contK_seq_ret contK_seq_exit contK_seq_goto contK_block contK_block_ret contK_block_goto contK_block_exit runO_nil runO_cons roundK_exit roundK_ret roundK_goto exitK_ret cutK_ret cutK_exit runE_done runE_nil runE_take runE_alt condG_true condG_false
set_option maxRecDepth 10000
set_option maxHeartbeats 64000000 in
theorem chain_KGf (E : Env) (hE : E.ln0 = lens []) (hho : E.ho = noHo) (s : ByteArray) (hs : s.size ≤ 2000) (acc : List TokS) (p x : Nat) (hpL : p < s.data.toList.length) (hx : x = (s.data.toList[p]).toNat) (hac : acc.length ≤ p) (hI : LexI s.data.toList p acc) (hnb : ¬ (s.data.toList[p] = 32 ∨ s.data.toList[p] = 10)) (Q : Exit → AS → Prop) (hret : RetG s p Q) (hnq : noQ s.data.toList p hpL) (x88 : ¬ x = 88) (hdig : isDig s.data.toList[p] = false) (hgr : isGreat s.data.toList[p] = true) : ChainG E s acc p x Q := by
  have ls : s.data.toList.length = s.size := rfl
  have hbat := fun (j : Nat) (h : j < s.data.toList.length) => byte_at (s := s) h
  have hbat2 := fun (j : Nat) (h : j < s.data.toList.length) => byte_at2 (s := s) h
  have h1 : p < s.size := hpL
  have h1i : (p : Int) < s.size := by omega
  have hx256 : x < 256 := by rw [hx]; exact UInt8.toNat_lt _
  have ew1 : IntKind.i64.wrap ((p : Int) + 1) = (p : Int) + 1 := IntWalk.i64_in _ (by omega)
  have ew2 : IntKind.i64.wrap ((p : Int) + 1 + 1) = (p : Int) + 1 + 1 := IntWalk.i64_in _ (by omega)
  refine OnC.mk rfl ?_
  have hn39 : ¬ s.data.toList[p] = 39 := hnq.1
  have x39 : ¬ x = 39 := fun e => hn39 (UInt8.toNat_inj.1 (by rw [← hx, e]; rfl))
  have x39i : ¬ (x : Int) = 39 := by omega
  have c66 := in_dig s.data.toList[p]
  have c67 := in_great s.data.toList[p]
  have c68 := in_low s.data.toList[p]
  rw [← hx] at c66 c67 c68
  have x88i : ¬ (x : Int) = 88 := by omega
  rw [hdig] at c66
  rw [hgr] at c67
  simp (maxSteps := 1000000) [hho, noHo, st40, slotsOf, slT7, rowT, tokA, x39, x39i, x88, x88i, undef, onGP_none, condG_false, -List.reduceReplicate]
  refine call_x [] (c66) rfl rfl ⟨rfl, rfl⟩ hho (by simp) (by decide) (by simp) (by simp) ?_
  simp (maxSteps := 1000000) [hho, noHo, undef, onGP_none, condG_false, -List.reduceReplicate]
  refine call_x [] (c67) rfl rfl ⟨rfl, rfl⟩ hho (by simp) (by decide) (by simp) (by simp) ?_
  simp (maxSteps := 1000000) [hho, noHo, undef, onGP_none, condG_false, -List.reduceReplicate]
  have htk := tokk_g hpL hnq hdig hgr
  refine loop_k2c [] mixed (st40 s acc p x) (fun i => s.size - i) (InvR isGreat s.data.toList p) p (st40 s acc p x) (RowTo isGreat s.data.toList p) 8 ⟨Nat.le_refl _, by rw [ls]; omega, AllP.start _ _ _⟩ ?_ ?_ ?_
  · exact wk_of 2 0 (by simp) (by simp [hE, lens]) (by simp [st40, rowT, tokA, vN]) (by simp [livH, livO, AV.livL, AV.liv, wkL, wkV, List.range', st40, rowT, tokA]) (by simp [livH, livO, AV.livL, AV.liv, wkL, wkV, List.range', st40, slotsOf, slT7])
  · rintro i hRow
    have w1 := hRow.le
    have w2 := hRow.ge
    rw [ls] at w2
    rw [hRow.tw] at htk
    have hext := ext_tok (s := s) p i
    obtain ⟨W, hW⟩ : ∃ W, W = (s.data.toList.drop p).take (i - p) := ⟨_, rfl⟩
    have hWl : W.length = i - p := by rw [hW, List.length_take, List.length_drop]; omega
    rw [← hW] at htk hext
    have c1 := r17Keys_w
    have hKl : keysB.length = 44 := rfl
    obtain ⟨K, hK⟩ : ∃ K, K = keysB := ⟨_, rfl⟩
    rw [← hK] at c1 hKl htk
    clear hK
    simp (maxSteps := 1000000) [hho, noHo, st40, slotsOf, slT7, rowT, tokA, undef, onGP_none, condG_false, -List.reduceReplicate]
    refine call_x [] (c1) rfl rfl ⟨rfl, rfl⟩ hho (by simp) (by decide) (by simp) (by simp) ?_
    simp (maxSteps := 1000000) [hho, noHo, undef, onGP_none, condG_false, -List.reduceReplicate]
    refine loop_k mixed (sk40 s acc p x i K) (fun y => 44 - y.1) (InvK K W) (0, false) ⟨Nat.zero_le _, by simp⟩ ?_ ?_
    · exact wk_of 2 0 (by simp) (by simp [hE, lens]) (by simp [sk40, rowT, tokA, vN]) (by simp [livH, livO, AV.livL, AV.liv, wkL, wkV, List.range', sk40, rowT, tokA]) (by simp [livH, livO, AV.livL, AV.liv, wkL, wkV, List.range', sk40, slotsOf, slT7])
    rintro ⟨j, kn⟩ ⟨hj, hkn⟩
    simp only at hj hkn
    by_cases g1 : j < 44
    case neg =>
      have g1i : ¬ (j : Int) < 44 := by omega
      rw [List.take_of_length_le (by omega)] at hkn
      rw [← hkn] at htk
      cases kn with
      | false =>
        rw [if_neg (by decide)] at htk
        have hbad := hI.bad hpL hnb htk
        simp (maxSteps := 1000000) [hho, noHo, sk40, slotsOf, slT7, rowT, tokA, g1, g1i, undef, onGP_none, condG_false, -List.reduceReplicate]
        exact hret hbad _ _ rfl rfl rfl
      | true =>
        rw [if_pos rfl] at htk
        have hnx := hI.tok hpL hnb htk
        have hn1 := (tokL_text htk).2.1
        rw [hWl] at hn1
        rw [hWl, show p + (i - p) = i by omega] at hnx
        simp (maxSteps := 1000000) [hho, noHo, sk40, slotsOf, slT7, rowT, tokA, g1, g1i, hext, undef, onGP_none, condG_false, -List.reduceReplicate]
        repeat (with_reducible refine And.intro (by omega) ?_)
        exact cut_to (⟨1, p, baL W, vN⟩, i) ⟨rfl, by simp only; omega, hnx⟩ (wk_of 2 0 (by simp) (by simp [hE, lens]) (by simp [se40, rowT, tokA, vN]) (by simp [livH, livO, AV.livL, AV.liv, wkL, wkV, List.range', se40, rowT, tokA]) (by simp [livH, livO, AV.livL, AV.liv, wkL, wkV, List.range', se40, slotsOf, slT7]))
    have g1i : (j : Int) < 44 := by omega
    have gj : j < K.length := by omega
    have tk := strsK_at K j gj
    have htk2 : K.take (j + 1) = K.take j ++ [K[j]] := List.take_succ_eq_append_getElem gj
    have ej : IntKind.i64.wrap ((j : Int) + 1) = (j + 1 : Nat) := by rw [IntWalk.i64_in _ (by omega)]; rfl
    obtain ⟨k0, hk0⟩ : ∃ k, k = K[j] := ⟨_, rfl⟩
    rw [← hk0] at tk htk2
    have hcon : (K.take (j + 1)).contains W = (kn || decide (k0 = W)) := by
      rw [htk2, hkn]
      by_cases e : k0 = W
      · subst e; simp
      · have e' : ¬ W = k0 := fun h => e h.symm
        simp [e, e']
    cases kn with
    | true =>
      simp (maxSteps := 1000000) [hho, noHo, sk40, slotsOf, slT7, rowT, tokA, g1, g1i, tk, undef, onGP_none, condG_false, -List.reduceReplicate]
      refine round_next (j + 1, true) ⟨by simp only; omega, by rw [hcon]; rfl⟩ (by simp only; omega) ?_
      exact wk_of 2 0 (by simp) (by simp [hE, lens]) (by simp [sk40, rowT, tokA, vN]) (by simp [livH, livO, AV.livL, AV.liv, wkL, wkV, List.range', sk40, rowT, tokA]) (by simp [livH, livO, AV.livL, AV.liv, wkL, wkV, List.range', sk40, slotsOf, slT7, ej])
    | false =>
      by_cases e : k0 = W
      · have e' : baL k0 = baL W := by rw [e]
        simp (maxSteps := 1000000) [hho, noHo, sk40, slotsOf, slT7, rowT, tokA, g1, g1i, tk, hext, e', undef, onGP_none, condG_false, -List.reduceReplicate]
        repeat (with_reducible refine And.intro (by omega) ?_)
        refine round_next (j + 1, true) ⟨by simp only; omega, by rw [hcon, decide_eq_true e]; rfl⟩ (by simp only; omega) ?_
        exact wk_of 2 0 (by simp) (by simp [hE, lens]) (by simp [sk40, rowT, tokA, vN]) (by simp [livH, livO, AV.livL, AV.liv, wkL, wkV, List.range', sk40, rowT, tokA]) (by simp [livH, livO, AV.livL, AV.liv, wkL, wkV, List.range', sk40, slotsOf, slT7, ej])
      · have e' : ¬ baL k0 = baL W := fun h => e (by have := congrArg (fun s : ByteArray => s.data.toList) h; exact this)
        simp (maxSteps := 1000000) [hho, noHo, sk40, slotsOf, slT7, rowT, tokA, g1, g1i, tk, hext, e', undef, onGP_none, condG_false, -List.reduceReplicate]
        repeat (with_reducible refine And.intro (by omega) ?_)
        refine round_next (j + 1, false) ⟨by simp only; omega, by rw [hcon, decide_eq_false e]; rfl⟩ (by simp only; omega) ?_
        exact wk_of 2 0 (by simp) (by simp [hE, lens]) (by simp [sk40, rowT, tokA, vN]) (by simp [livH, livO, AV.livL, AV.liv, wkL, wkV, List.range', sk40, rowT, tokA]) (by simp [livH, livO, AV.livL, AV.liv, wkL, wkV, List.range', sk40, slotsOf, slT7, ej])
  · rintro i ⟨r1, r2, r3⟩
    rw [ls] at r2
    have ei : IntKind.i64.wrap ((i : Int) + 1) = (i : Int) + 1 := IntWalk.i64_in _ (by omega)
    by_cases g1 : i < s.size
    case neg =>
      have g1i : ¬ (i : Int) < s.size := by omega
      simp (maxSteps := 1000000) [hho, noHo, st40, slotsOf, slT7, rowT, tokA, g1, g1i, undef, onGP_none, condG_false, -List.reduceReplicate]
      refine exit_to i (RowTo.of r1 (by rw [ls]; exact r2) r3 (fun h => absurd (show i < s.size from h) g1)) ?_
      exact wk_of 2 0 (by simp) (by simp [hE, lens]) (by simp [st40, rowT, tokA, vN]) (by simp [livH, livO, AV.livL, AV.liv, wkL, wkV, List.range', st40, rowT, tokA]) (by simp [livH, livO, AV.livL, AV.liv, wkL, wkV, List.range', st40, slotsOf, slT7])
    have g1i : (i : Int) < s.size := by omega
    have giL : i < s.data.toList.length := g1
    have bi := hbat i giL
    have bi2 := hbat2 i giL
    have c2 := in_great s.data.toList[i]
    obtain ⟨u, hu⟩ : ∃ u : Nat, u = (s.data.toList[i]).toNat := ⟨_, rfl⟩
    rw [← hu] at bi bi2 c2
    cases hq : isGreat s.data.toList[i] with
    | true =>
      rw [hq] at c2
      simp (maxSteps := 1000000) [hho, noHo, st40, slotsOf, slT7, rowT, tokA, g1, g1i, bi, bi2, undef, onGP_none, condG_false, -List.reduceReplicate]
      refine call_x [] (c2) rfl rfl ⟨rfl, rfl⟩ hho (by simp) (by decide) (by simp) (by simp) ?_
      simp (maxSteps := 1000000) [hho, noHo, undef, onGP_none, condG_false, -List.reduceReplicate]
      refine round_next (i + 1) ⟨by omega, by rw [ls]; omega, r3.next giL hq⟩ (by omega) ?_
      exact wk_of 2 0 (by simp) (by simp [hE, lens]) (by simp [st40, rowT, tokA, vN]) (by simp [livH, livO, AV.livL, AV.liv, wkL, wkV, List.range', st40, rowT, tokA]) (by simp [livH, livO, AV.livL, AV.liv, wkL, wkV, List.range', st40, slotsOf, slT7, ei])
    | false =>
      rw [hq] at c2
      simp (maxSteps := 1000000) [hho, noHo, st40, slotsOf, slT7, rowT, tokA, g1, g1i, bi, bi2, undef, onGP_none, condG_false, -List.reduceReplicate]
      refine call_x [] (c2) rfl rfl ⟨rfl, rfl⟩ hho (by simp) (by decide) (by simp) (by simp) ?_
      simp (maxSteps := 1000000) [hho, noHo, undef, onGP_none, condG_false, -List.reduceReplicate]
      refine exit_to i (RowTo.of r1 (by rw [ls]; exact r2) r3 (fun _ => hq)) ?_
      exact wk_of 2 0 (by simp) (by simp [hE, lens]) (by simp [st40, rowT, tokA, vN]) (by simp [livH, livO, AV.livL, AV.liv, wkL, wkV, List.range', st40, rowT, tokA]) (by simp [livH, livO, AV.livL, AV.liv, wkL, wkV, List.range', st40, slotsOf, slT7])
end Go.Proofs.YtjgdlocgoiinbaaGreatDoor
