import Derived.Test.YtjgdlocgoiinbaaGreatDoorKG
namespace Go.Proofs.YtjgdlocgoiinbaaGreatDoor
set_option linter.unusedVariables false
set_option linter.unusedSimpArgs false
open Go.RowKit Go.Shelf Go.Lib
attribute [local simp] isCut_nil isCut_region isCut_seq isCut_block isCut_loop isCut_cond isCut_skip isCut_exit isCut_ret isCut_range swapK putK altK condK_bool pickP_bool stepP stepO onPure_some onPure_none onImpl_some onImpl_none stepC onGP_some onGP_none onGV_some condG mkG onIt_it nextP_ptr takeP_eq takeV_some takeV_none takeU_some takeU_none takeQ takeW_some takeN_none takeN_some takeG_some takeO_some altO_some pureV binV2 eqF eqOp ovlV ovl2 rowAt capV binV intBin strBin isSh shV fldV ixV sliceV slice3V loadAV nilV lenV callV unV convV viewS cellsH loadV fldCut AV.ung AV.ungs AV.gc AV.cells AS.ev AS.put anyS gcsV gcO lens lnO gV guardV retK RetP_eq resV oneV anyRo loIx hiIx implO callP_clo evL gcsL clearV storeAV AS.push AS.setO appV appZ shortS copyV buildV partsV fillV srcV fzO okV isCell_c isCell_ptr isCell_sl isCell_fs isCell_fp isCell_clo rowZ_one rowZ_zero rowZ_2 rowZ_3 rowZ_4 rowZ_5 rowZ_6 rowZ_7 rowZ_8 rowZ_9 rowZ_10 rowZ_11 rowZ_12 noHo Value.oneCell' max2V min2V lookV updV lenM msAt afterH putBack frzFrom frzO rebO backIx nilEq_sl nilEq_fs nilEq_ifn nilEq_ifh ifOp_eql ifOp_neq isLit nilOp_eql nilOp_neq AV.reb AV.rebL
attribute [local simp ↓] runK_skip runK_region runK_draw runK_seq runK_cut runK_cond runK_block runK_loop runK_exit runK_label runK_goto runK_ret runK_range contK_nil contK_seq contK_seq_ret contK_seq_exit contK_seq_goto contK_block contK_block_ret contK_block_goto contK_block_exit runO_nil runO_cons roundK_exit roundK_ret roundK_goto exitK_ret cutK_ret cutK_exit runE_done runE_nil runE_take runE_alt condG_true condG_false
set_option maxRecDepth 10000
set_option maxHeartbeats 64000000 in
theorem chain_KGh (E : Env) (hE : E.ln0 = lens []) (hho : E.ho = noHo) (s : ByteArray) (hs : s.size ≤ 2000) (acc : List TokS) (p x : Nat) (hpL : p < s.data.toList.length) (hx : x = (s.data.toList[p]).toNat) (hac : acc.length ≤ p) (hI : LexI s.data.toList p acc) (hnb : ¬ (s.data.toList[p] = 32 ∨ s.data.toList[p] = 10)) (Q : Exit → AS → Prop) (hret : RetG s p Q) (hnq : noQ s.data.toList p hpL) (x88 : ¬ x = 88) (hdig : isDig s.data.toList[p] = false) (hgr : isGreat s.data.toList[p] = false) (hlo : isLow s.data.toList[p] = false) : ChainG E s acc p x Q := by
  have ls : s.data.toList.length = s.size := rfl
  have hbat := fun (j : Nat) (h : j < s.data.toList.length) => byte_at (s := s) h
  have hbat2 := fun (j : Nat) (h : j < s.data.toList.length) => byte_at2 (s := s) h
  have h1 : p < s.size := hpL
  have h1i : (p : Int) < s.size := by omega
  have hx256 : x < 256 := by rw [hx]; exact UInt8.toNat_lt _
  have ew1 : IntKind.i64.wrap ((p : Int) + 1) = (p : Int) + 1 := IntWalk.i64_in _ (by omega)
  have ew2 : IntKind.i64.wrap ((p : Int) + 1 + 1) = (p : Int) + 1 + 1 := IntWalk.i64_in _ (by omega)
  refine OnC.mk rfl ?_
  have hn39 : ¬ s.data.toList[p] = 39 := hnq.1
  have x39 : ¬ x = 39 := fun e => hn39 (UInt8.toNat_inj.1 (by rw [← hx, e]; rfl))
  have x39i : ¬ (x : Int) = 39 := by omega
  have c66 := in_dig s.data.toList[p]
  have c67 := in_great s.data.toList[p]
  have c68 := in_low s.data.toList[p]
  rw [← hx] at c66 c67 c68
  have x88i : ¬ (x : Int) = 88 := by omega
  rw [hdig] at c66
  rw [hgr] at c67
  rw [hlo] at c68
  simp (maxSteps := 1000000) [hho, noHo, st40, slotsOf, slT7, rowT, tokA, x39, x39i, x88, x88i, undef, onGP_none, condG_false, -List.reduceReplicate]
  refine call_x [] (c66) rfl rfl ⟨rfl, rfl⟩ hho (by simp) (by decide) (by simp) (by simp) ?_
  simp (maxSteps := 1000000) [hho, noHo, undef, onGP_none, condG_false, -List.reduceReplicate]
  refine call_x [] (c67) rfl rfl ⟨rfl, rfl⟩ hho (by simp) (by decide) (by simp) (by simp) ?_
  simp (maxSteps := 1000000) [hho, noHo, undef, onGP_none, condG_false, -List.reduceReplicate]
  refine call_x [] (c68) rfl rfl ⟨rfl, rfl⟩ hho (by simp) (by decide) (by simp) (by simp) ?_
  have htk := tokk_s hpL hnq hdig hgr hlo
  have htwo := twos_iff hpL
  have hx1 := ext_tok (s := s) p (p + 1)
  have hx2 := ext_tok (s := s) p (p + 2)
  rw [show p + 1 - p = 1 by omega, List.drop_eq_getElem_cons hpL] at hx1
  rw [show p + 2 - p = 2 by omega] at hx2
  have hx1 : s.extract p (p + 1) = baL [s.data.toList[p]] := hx1
  have hsg := signs_iff s.data.toList[p]
  obtain ⟨T2, hT2⟩ : ∃ T, T = (s.data.toList.drop p).take 2 := ⟨_, rfl⟩
  rw [← hT2] at htk htwo hx2
  obtain ⟨c, hc⟩ : ∃ c, c = s.data.toList[p] := ⟨_, rfl⟩
  rw [← hc] at htk htwo hx1 hx hsg
  rw [← hx] at htwo hsg
  obtain ⟨nx, hnxt⟩ : ∃ n, n = nextB s.data.toList p := ⟨_, rfl⟩
  rw [← hnxt] at htwo
  have hnx256 : nx < 256 := by
    rw [hnxt]; unfold nextB
    split
    · exact UInt8.toNat_lt _
    · omega
  have ts1 : ((p : Int) + 1).toNat = p + 1 := by omega
  have ts2 : ((p : Int) + 1 + 1).toNat = p + 1 + 1 := by omega
  have zz3 : (0 : Int) ≤ (p : Int) + 1 := by omega
  simp (maxSteps := 1000000) [hho, noHo, undef, onGP_none, condG_false, -List.reduceReplicate]
  refine seq_cut mixed [] (fun _ : Unit => sn40 s acc p x nx) (fun _ => True) ?_ ?_
  case refine_2 =>
    unfold nextB at hnxt
    by_cases g2 : p + 1 < s.size
    · have g2i : (p : Int) + 1 < s.size := by omega
      have g2L : p + 1 < s.data.toList.length := g2
      have bj := hbat (p + 1) g2L
      have bj2 := hbat2 (p + 1) g2L
      rw [dif_pos g2L] at hnxt
      rw [← hnxt] at bj bj2
      simp (maxSteps := 1000000) [hho, noHo, g2, g2i, ew1, ts1, zz3, bj, bj2, undef, onGP_none, condG_false, -List.reduceReplicate]
      refine cut_to () trivial ?_
      exact wk_of 2 0 (by simp) (by simp [hE, lens]) (by simp [sn40, rowT, tokA, vN]) (by simp [livH, livO, AV.livL, AV.liv, wkL, wkV, List.range', sn40, rowT, tokA]) (by simp [livH, livO, AV.livL, AV.liv, wkL, wkV, List.range', sn40, slotsOf, slT7])
    · have g2i : ¬ (p : Int) + 1 < s.size := by omega
      rw [dif_neg (show ¬ p + 1 < s.data.toList.length from g2)] at hnxt
      simp (maxSteps := 1000000) [hho, noHo, g2, g2i, ew1, undef, onGP_none, condG_false, -List.reduceReplicate]
      refine cut_to () trivial ?_
      exact wk_of 2 0 (by simp) (by simp [hE, lens]) (by simp [sn40, rowT, tokA, vN]) (by simp [livH, livO, AV.livL, AV.liv, wkL, wkV, List.range', sn40, rowT, tokA]) (by simp [livH, livO, AV.livL, AV.liv, wkL, wkV, List.range', sn40, slotsOf, slT7, hnxt])
  rintro ⟨⟩ -
  by_cases h2 : twosL.contains T2 = true
  · rw [if_pos h2] at htk
    have hnx := hI.tok hpL hnb htk
    have hlen2 := (tokL_text htk).2.2
    rw [List.length_drop, ls] at hlen2
    have hx2b : s.extract p (p + 1 + 1) = baL T2 := hx2
    have hp2s : (p : Int) + 1 + 1 ≤ s.size := by omega
    have hp2n : p + 1 + 1 ≤ s.size := by omega
    rcases htwo.1 h2 with ⟨rfl, h | h⟩ | ⟨rfl, h⟩
    · subst h
      simp (maxSteps := 1000000) [hho, noHo, sn40, slotsOf, slT7, rowT, tokA, ew1, ew2, ts2, hx2b, undef, onGP_none, condG_false, -List.reduceReplicate]
      repeat (with_reducible refine And.intro (by omega) ?_)
      refine cut_to (⟨3, p, baL T2, vN⟩, p + 2) ⟨rfl, by simp only; omega, hnx⟩ ?_
      exact wk_of 2 0 (by simp) (by simp [hE, lens]) (by simp [se40, rowT, tokA, vN]) (by simp [livH, livO, AV.livL, AV.liv, wkL, wkV, List.range', se40, rowT, tokA]) (by simp [livH, livO, AV.livL, AV.liv, wkL, wkV, List.range', se40, slotsOf, slT7, ew1, ew2, Int.add_assoc])
    · subst h
      simp (maxSteps := 1000000) [hho, noHo, sn40, slotsOf, slT7, rowT, tokA, ew1, ew2, ts2, hx2b, undef, onGP_none, condG_false, -List.reduceReplicate]
      repeat (with_reducible refine And.intro (by omega) ?_)
      refine cut_to (⟨3, p, baL T2, vN⟩, p + 2) ⟨rfl, by simp only; omega, hnx⟩ ?_
      exact wk_of 2 0 (by simp) (by simp [hE, lens]) (by simp [se40, rowT, tokA, vN]) (by simp [livH, livO, AV.livL, AV.liv, wkL, wkV, List.range', se40, rowT, tokA]) (by simp [livH, livO, AV.livL, AV.liv, wkL, wkV, List.range', se40, slotsOf, slT7, ew1, ew2, Int.add_assoc])
    · subst h
      simp (maxSteps := 1000000) [hho, noHo, sn40, slotsOf, slT7, rowT, tokA, ew1, ew2, ts2, hx2b, undef, onGP_none, condG_false, -List.reduceReplicate]
      repeat (with_reducible refine And.intro (by omega) ?_)
      refine cut_to (⟨3, p, baL T2, vN⟩, p + 2) ⟨rfl, by simp only; omega, hnx⟩ ?_
      exact wk_of 2 0 (by simp) (by simp [hE, lens]) (by simp [se40, rowT, tokA, vN]) (by simp [livH, livO, AV.livL, AV.liv, wkL, wkV, List.range', se40, rowT, tokA]) (by simp [livH, livO, AV.livL, AV.liv, wkL, wkV, List.range', se40, slotsOf, slT7, ew1, ew2, Int.add_assoc])
  rw [if_neg h2] at htk
  have h2' : ¬ ((x = 60 ∧ (nx = 61 ∨ nx = 62)) ∨ (x = 62 ∧ nx = 61)) := fun h => h2 (htwo.2 h)
  by_cases h1 : signsL.contains c = true
  · rw [if_pos h1] at htk
    have hnx := hI.tok hpL hnb htk
    by_cases x60 : x = 60
    · subst x60
      have a1 : ¬ (nx : Int) = 61 := fun h => h2' (.inl ⟨rfl, .inl (by omega)⟩)
      have a2 : ¬ (nx : Int) = 62 := fun h => h2' (.inl ⟨rfl, .inr (by omega)⟩)
      have a1n : ¬ nx = 61 := by omega
      have a2n : ¬ nx = 62 := by omega
      simp (maxSteps := 1000000) [hho, noHo, sn40, slotsOf, slT7, rowT, tokA, ew1, ts1, hx1, a1, a2, a1n, a2n, undef, onGP_none, condG_false, -List.reduceReplicate]
      repeat (with_reducible refine And.intro (by omega) ?_)
      refine cut_to (⟨3, p, baL [c], vN⟩, p + 1) ⟨rfl, by simp only; omega, hnx⟩ ?_
      exact wk_of 2 0 (by simp) (by simp [hE, lens]) (by simp [se40, rowT, tokA, vN]) (by simp [livH, livO, AV.livL, AV.liv, wkL, wkV, List.range', se40, rowT, tokA]) (by simp [livH, livO, AV.livL, AV.liv, wkL, wkV, List.range', se40, slotsOf, slT7, ew1])
    by_cases x62 : x = 62
    · subst x62
      have a1 : ¬ (nx : Int) = 61 := fun h => h2' (.inr ⟨rfl, by omega⟩)
      have a1n : ¬ nx = 61 := by omega
      simp (maxSteps := 1000000) [hho, noHo, sn40, slotsOf, slT7, rowT, tokA, ew1, ts1, hx1, a1, a1n, undef, onGP_none, condG_false, -List.reduceReplicate]
      repeat (with_reducible refine And.intro (by omega) ?_)
      refine cut_to (⟨3, p, baL [c], vN⟩, p + 1) ⟨rfl, by simp only; omega, hnx⟩ ?_
      exact wk_of 2 0 (by simp) (by simp [hE, lens]) (by simp [se40, rowT, tokA, vN]) (by simp [livH, livO, AV.livL, AV.liv, wkL, wkV, List.range', se40, rowT, tokA]) (by simp [livH, livO, AV.livL, AV.liv, wkL, wkV, List.range', se40, slotsOf, slT7, ew1])
    rcases hsg.1 h1 with h | h | h | h | h | h | h | h | h | h | h | h
    all_goals first | exact absurd h x60 | exact absurd h x62 | skip
    all_goals subst h
    all_goals simp (maxSteps := 1000000) [hho, noHo, sn40, slotsOf, slT7, rowT, tokA, ew1, ts1, hx1, undef, onGP_none, condG_false, -List.reduceReplicate]
    all_goals repeat (with_reducible refine And.intro (by omega) ?_)
    all_goals refine cut_to (⟨3, p, baL [c], vN⟩, p + 1) ⟨rfl, by simp only; omega, hnx⟩ ?_
    all_goals exact wk_of 2 0 (by simp) (by simp [hE, lens]) (by simp [se40, rowT, tokA, vN]) (by simp [livH, livO, AV.livL, AV.liv, wkL, wkV, List.range', se40, rowT, tokA]) (by simp [livH, livO, AV.livL, AV.liv, wkL, wkV, List.range', se40, slotsOf, slT7, ew1])
  · rw [if_neg h1] at htk
    have hbad := hI.bad hpL hnb htk
    have hno : ∀ v : Nat, (v = 40 ∨ v = 41 ∨ v = 44 ∨ v = 46 ∨ v = 43 ∨ v = 45 ∨ v = 42 ∨ v = 47 ∨ v = 37 ∨ v = 61 ∨ v = 60 ∨ v = 62) → ¬ (x : Int) = v := by
      intro v hv e
      have : x = v := by omega
      subst this
      exact h1 (hsg.2 hv)
    have m60 : ¬ (x : Int) = 60 := hno 60 (by simp)
    have m62 : ¬ (x : Int) = 62 := hno 62 (by simp)
    have m40 : ¬ (x : Int) = 40 := hno 40 (by simp)
    have m41 : ¬ (x : Int) = 41 := hno 41 (by simp)
    have m44 : ¬ (x : Int) = 44 := hno 44 (by simp)
    have m46 : ¬ (x : Int) = 46 := hno 46 (by simp)
    have m43 : ¬ (x : Int) = 43 := hno 43 (by simp)
    have m45 : ¬ (x : Int) = 45 := hno 45 (by simp)
    have m42 : ¬ (x : Int) = 42 := hno 42 (by simp)
    have m47 : ¬ (x : Int) = 47 := hno 47 (by simp)
    have m37 : ¬ (x : Int) = 37 := hno 37 (by simp)
    have m61 : ¬ (x : Int) = 61 := hno 61 (by simp)
    simp (maxSteps := 1000000) [hho, noHo, sn40, slotsOf, slT7, rowT, tokA, ew1, m60, m62, m40, m41, m44, m46, m43, m45, m42, m47, m37, m61, undef, onGP_none, condG_false, -List.reduceReplicate]
    exact hret hbad _ _ rfl rfl rfl
end Go.Proofs.YtjgdlocgoiinbaaGreatDoor
