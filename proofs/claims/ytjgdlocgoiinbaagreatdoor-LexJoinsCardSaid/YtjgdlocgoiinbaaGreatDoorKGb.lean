import Derived.Test.YtjgdlocgoiinbaaGreatDoorKG
namespace Go.Proofs.YtjgdlocgoiinbaaGreatDoor
set_option linter.unusedVariables false
set_option linter.unusedSimpArgs false
open Go.RowKit Go.Shelf Go.Lib
attribute [local simp] isCut_nil isCut_region isCut_seq isCut_block isCut_loop isCut_cond isCut_skip isCut_exit isCut_ret isCut_range swapK putK altK condK_bool pickP_bool stepP stepO onPure_some onPure_none onImpl_some onImpl_none stepC onGP_some onGP_none onGV_some condG mkG onIt_it nextP_ptr takeP_eq takeV_some takeV_none takeU_some takeU_none takeQ takeW_some takeN_none takeN_some takeG_some takeO_some altO_some pureV binV2 eqF eqOp ovlV ovl2 rowAt capV binV intBin strBin isSh shV fldV ixV sliceV slice3V loadAV nilV lenV callV unV convV viewS cellsH loadV fldCut AV.ung AV.ungs AV.gc AV.cells AS.ev AS.put anyS gcsV gcO lens lnO gV guardV retK RetP_eq resV oneV anyRo loIx hiIx implO callP_clo evL gcsL clearV storeAV AS.push AS.setO appV appZ shortS copyV buildV partsV fillV srcV fzO okV isCell_c isCell_ptr isCell_sl isCell_fs isCell_fp isCell_clo rowZ_one rowZ_zero rowZ_2 rowZ_3 rowZ_4 rowZ_5 rowZ_6 rowZ_7 rowZ_8 rowZ_9 rowZ_10 rowZ_11 rowZ_12 noHo Value.oneCell' max2V min2V lookV updV lenM msAt afterH putBack frzFrom frzO rebO backIx nilEq_sl nilEq_fs nilEq_ifn nilEq_ifh ifOp_eql ifOp_neq isLit nilOp_eql nilOp_neq AV.reb AV.rebL
attribute [local simp ↓] runK_skip runK_region runK_draw runK_seq runK_cut runK_cond runK_block runK_loop runK_exit runK_label runK_goto runK_ret runK_range contK_nil contK_seq contK_seq_ret contK_seq_exit contK_seq_goto contK_block contK_block_ret contK_block_goto contK_block_exit runO_nil runO_cons roundK_exit roundK_ret roundK_goto exitK_ret cutK_ret cutK_exit runE_done runE_nil runE_take runE_alt condG_true condG_false
set_option maxRecDepth 10000
set_option maxHeartbeats 64000000 in
theorem chain_KGb (E : Env) (hE : E.ln0 = lens []) (hho : E.ho = noHo) (s : ByteArray) (hs : s.size ≤ 2000) (acc : List TokS) (p x : Nat) (hpL : p < s.data.toList.length) (hx : x = (s.data.toList[p]).toNat) (hac : acc.length ≤ p) (hI : LexI s.data.toList p acc) (hnb : ¬ (s.data.toList[p] = 32 ∨ s.data.toList[p] = 10)) (Q : Exit → AS → Prop) (hret : RetG s p Q) (x88 : x = 88) (hp2 : p + 1 < s.size) (hnx : nextB s.data.toList p = 39) : ChainG E s acc p x Q := by
  have ls : s.data.toList.length = s.size := rfl
  have hbat := fun (j : Nat) (h : j < s.data.toList.length) => byte_at (s := s) h
  have hbat2 := fun (j : Nat) (h : j < s.data.toList.length) => byte_at2 (s := s) h
  have h1 : p < s.size := hpL
  have h1i : (p : Int) < s.size := by omega
  have hx256 : x < 256 := by rw [hx]; exact UInt8.toNat_lt _
  have ew1 : IntKind.i64.wrap ((p : Int) + 1) = (p : Int) + 1 := IntWalk.i64_in _ (by omega)
  have ew2 : IntKind.i64.wrap ((p : Int) + 1 + 1) = (p : Int) + 1 + 1 := IntWalk.i64_in _ (by omega)
  refine OnC.mk rfl ?_
  have x39 : ¬ x = 39 := by omega
  have x39i : ¬ (x : Int) = 39 := by omega
  have x88i : (x : Int) = 88 := by omega
  have hp2L : p + 1 < s.data.toList.length := hp2
  have hp2i : (p : Int) + 1 < s.size := by omega
  have hc88 : s.data.toList[p] = 88 := UInt8.toNat_inj.1 (by rw [← hx, x88]; rfl)
  unfold nextB at hnx
  rw [dif_pos hp2L] at hnx
  have hd39 : s.data.toList[p + 1] = 39 := UInt8.toNat_inj.1 (by rw [hnx]; rfl)
  have bj := hbat (p + 1) hp2L
  have bj2 := hbat2 (p + 1) hp2L
  rw [hnx] at bj bj2
  have ts1 : ((p : Int) + 1).toNat = p + 1 := by omega
  have zz3 : (0 : Int) ≤ (p : Int) + 1 := by omega
  simp (maxSteps := 1000000) [hho, noHo, st40, slotsOf, slT7, rowT, tokA, x39, x39i, x88, x88i, hp2, hp2i, ew1, ew2, ts1, zz3, bj, bj2, undef, onGP_none, condG_false, -List.reduceReplicate]
  have hsc := ScanI.start s.data.toList (a := p + 2) (by rw [ls]; omega)
  have htk := tokk_x hpL hp2L hc88 hd39
  refine loop_k2c [] mixed (st40 s acc p 88) (fun i => s.size + 1 - i) (fun i => ScanI s.data.toList (p + 2) i) (p + 2) (st40 s acc p 88) (FIq s.data.toList (p + 2)) 2 hsc ?_ ?_ ?_
  · exact wk_of 2 0 (by simp) (by simp [hE, lens]) (by simp [st40, rowT, tokA, vN]) (by simp [livH, livO, AV.livL, AV.liv, wkL, wkV, List.range', st40, rowT, tokA]) (by simp [livH, livO, AV.livL, AV.liv, wkL, wkV, List.range', st40, slotsOf, slT7, ew1, ew2, Int.add_assoc])
  · rintro i ⟨q1, q2, q3⟩
    rw [ls] at q2 q3
    rcases q3 with ⟨q3, q4⟩ | ⟨q3, q4⟩
    · rw [q4] at htk
      have hbad := hI.bad hpL hnb htk
      have q3i : (s.size : Int) ≤ i := by omega
      simp (maxSteps := 1000000) [hho, noHo, st40, slotsOf, slT7, rowT, tokA, q3, q3i, undef, onGP_none, condG_false, -List.reduceReplicate]
      exact hret hbad _ _ rfl rfl rfl
    · rw [q4, Option.bind_some, show i - (p + 2) + 1 + 2 = i + 1 - p by omega] at htk
      have q3i : ¬ (s.size : Int) ≤ i := by omega
      have q3n : ¬ s.size ≤ i := by omega
      have ei : IntKind.i64.wrap ((i : Int) + 1) = (i : Int) + 1 := IntWalk.i64_in _ (by omega)
      have ti : ((i : Int) + 1).toNat = i + 1 := by omega
      have hext := ext_tok (s := s) p (i + 1)
      obtain ⟨W, hW⟩ : ∃ W, W = (s.data.toList.drop p).take (i + 1 - p) := ⟨_, rfl⟩
      have hWl : W.length = i + 1 - p := by rw [hW, List.length_take, List.length_drop]; omega
      rw [← hW] at htk hext
      unfold litS at htk
      have c1 := r3Parse_w (baL W) (by rw [ba_size]; omega)
      rw [toL_ba] at c1
      cases hpr : parseR W with
      | none =>
        rw [hpr] at htk c1
        have hbad := hI.bad hpL hnb htk
        simp only [pvR] at c1
        simp (maxSteps := 1000000) [hho, noHo, st40, slotsOf, slT7, rowT, tokA, q3i, q3n, ei, ti, hext, undef, onGP_none, condG_false, -List.reduceReplicate]
        repeat (with_reducible refine And.intro (by omega) ?_)
        refine call_x [] (c1) rfl rfl ⟨rfl, rfl⟩ hho (by simp) (by decide) (by simp) (by simp) ?_
        simp (maxSteps := 1000000) [hho, noHo, valA, vN, undef, onGP_none, condG_false, -List.reduceReplicate]
        exact hret hbad _ _ rfl rfl rfl
      | some v =>
        rw [hpr, Option.map_some] at htk
        rw [hpr] at c1
        have hnx := hI.tok hpL hnb htk
        rw [hWl, show p + (i + 1 - p) = i + 1 by omega] at hnx
        simp only [pvR] at c1
        simp (maxSteps := 1000000) [hho, noHo, st40, slotsOf, slT7, rowT, tokA, q3i, q3n, ei, ti, hext, undef, onGP_none, condG_false, -List.reduceReplicate]
        repeat (with_reducible refine And.intro (by omega) ?_)
        refine call_x [] (c1) rfl rfl ⟨rfl, rfl⟩ hho (by simp) (by decide) (by simp) (by simp) ?_
        simp (maxSteps := 1000000) [hho, noHo, valA, vN, undef, onGP_none, condG_false, -List.reduceReplicate]
        exact cut_to (⟨2, p, ByteArray.empty, v⟩, i + 1) ⟨rfl, by simp only; omega, hnx⟩ (wk_of 2 1 (by simp) (by simp [hE, lens]) (by simp [se40, rowT, tokA, vN]) (by simp [livH, livO, AV.livL, AV.liv, wkL, wkV, List.range', se40, rowT, tokA]) (by simp [livH, livO, AV.livL, AV.liv, wkL, wkV, List.range', se40, slotsOf, slT7, ei]))
  · rintro i hS
    have r1 := hS.1
    have r2 := hS.2.1
    rw [ls] at r2
    have ei : IntKind.i64.wrap ((i : Int) + 1) = (i : Int) + 1 := IntWalk.i64_in _ (by omega)
    have ei2 : IntKind.i64.wrap ((i : Int) + 1 + 1) = (i : Int) + 1 + 1 := IntWalk.i64_in _ (by omega)
    have ti : ((i : Int) + 1).toNat = i + 1 := by omega
    have z3 : (0 : Int) ≤ (i : Int) + 1 := by omega
    by_cases g1 : i < s.size
    case neg =>
      have g1i : ¬ (i : Int) < s.size := by omega
      simp (maxSteps := 1000000) [hho, noHo, st40, slotsOf, slT7, rowT, tokA, g1, g1i, undef, onGP_none, condG_false, -List.reduceReplicate]
      refine exit_to i ⟨r1, by rw [ls]; exact r2, .inl ⟨by rw [ls]; omega, hS.none (by rw [ls]; omega)⟩⟩ ?_
      exact wk_of 2 0 (by simp) (by simp [hE, lens]) (by simp [st40, rowT, tokA, vN]) (by simp [livH, livO, AV.livL, AV.liv, wkL, wkV, List.range', st40, rowT, tokA]) (by simp [livH, livO, AV.livL, AV.liv, wkL, wkV, List.range', st40, slotsOf, slT7])
    have g1i : (i : Int) < s.size := by omega
    have giL : i < s.data.toList.length := g1
    have bi := hbat i giL
    have bi2 := hbat2 i giL
    obtain ⟨u, hu⟩ : ∃ u : Nat, u = (s.data.toList[i]).toNat := ⟨_, rfl⟩
    rw [← hu] at bi bi2
    by_cases u39 : u = 39
    case neg =>
      have u39i : ¬ (u : Int) = 39 := by omega
      have hne : s.data.toList[i] ≠ 39 := fun e => u39 (by rw [hu, e]; rfl)
      simp (maxSteps := 1000000) [hho, noHo, st40, slotsOf, slT7, rowT, tokA, g1, g1i, bi, bi2, u39, u39i, undef, onGP_none, condG_false, -List.reduceReplicate]
      refine round_next (i + 1) (hS.other giL hne) (by omega) ?_
      exact wk_of 2 0 (by simp) (by simp [hE, lens]) (by simp [st40, rowT, tokA, vN]) (by simp [livH, livO, AV.livL, AV.liv, wkL, wkV, List.range', st40, rowT, tokA]) (by simp [livH, livO, AV.livL, AV.liv, wkL, wkV, List.range', st40, slotsOf, slT7, ei])
    have u39i : (u : Int) = 39 := by omega
    have he : s.data.toList[i] = 39 := UInt8.toNat_inj.1 (by rw [← hu, u39]; rfl)
    by_cases g2 : i + 1 < s.size
    · have g2i : (i : Int) + 1 < s.size := by omega
      have giL2 : i + 1 < s.data.toList.length := g2
      have bj := hbat (i + 1) giL2
      have bj2 := hbat2 (i + 1) giL2
      obtain ⟨w, hw⟩ : ∃ u : Nat, u = (s.data.toList[i + 1]).toNat := ⟨_, rfl⟩
      rw [← hw] at bj bj2
      by_cases w39 : w = 39
      · have w39i : (w : Int) = 39 := by omega
        have he2 : s.data.toList[i + 1] = 39 := UInt8.toNat_inj.1 (by rw [← hw, w39]; rfl)
        simp (maxSteps := 1000000) [hho, noHo, st40, slotsOf, slT7, rowT, tokA, g1, g1i, g2, g2i, bi, bi2, bj, bj2, u39, u39i, w39, w39i, ei, ti, z3, undef, onGP_none, condG_false, -List.reduceReplicate]
        refine round_next (i + 1 + 1) (hS.two giL giL2 he he2) (by omega) ?_
        exact wk_of 2 0 (by simp) (by simp [hE, lens]) (by simp [st40, rowT, tokA, vN]) (by simp [livH, livO, AV.livL, AV.liv, wkL, wkV, List.range', st40, rowT, tokA]) (by simp [livH, livO, AV.livL, AV.liv, wkL, wkV, List.range', st40, slotsOf, slT7, ei, ei2])
      · have w39i : ¬ (w : Int) = 39 := by omega
        have hne2 : s.data.toList[i + 1] ≠ 39 := fun e => w39 (by rw [hw, e]; rfl)
        simp (maxSteps := 1000000) [hho, noHo, st40, slotsOf, slT7, rowT, tokA, g1, g1i, g2, g2i, bi, bi2, bj, bj2, u39, u39i, w39, w39i, ei, ti, z3, undef, onGP_none, condG_false, -List.reduceReplicate]
        refine exit_to i ⟨r1, by rw [ls]; exact r2, .inr ⟨giL, hS.fin giL he (fun _ => hne2)⟩⟩ ?_
        exact wk_of 2 0 (by simp) (by simp [hE, lens]) (by simp [st40, rowT, tokA, vN]) (by simp [livH, livO, AV.livL, AV.liv, wkL, wkV, List.range', st40, rowT, tokA]) (by simp [livH, livO, AV.livL, AV.liv, wkL, wkV, List.range', st40, slotsOf, slT7])
    · have g2i : ¬ (i : Int) + 1 < s.size := by omega
      simp (maxSteps := 1000000) [hho, noHo, st40, slotsOf, slT7, rowT, tokA, g1, g1i, g2, g2i, bi, bi2, u39, u39i, ei, ti, z3, undef, onGP_none, condG_false, -List.reduceReplicate]
      refine exit_to i ⟨r1, by rw [ls]; exact r2, .inr ⟨giL, hS.fin giL he (fun h => absurd (show i + 1 < s.size from h) g2)⟩⟩ ?_
      exact wk_of 2 0 (by simp) (by simp [hE, lens]) (by simp [st40, rowT, tokA, vN]) (by simp [livH, livO, AV.livL, AV.liv, wkL, wkV, List.range', st40, rowT, tokA]) (by simp [livH, livO, AV.livL, AV.liv, wkL, wkV, List.range', st40, slotsOf, slT7])
end Go.Proofs.YtjgdlocgoiinbaaGreatDoor
