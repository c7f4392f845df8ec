import Derived.Test.YtjgdlocgoiinbaaGreatDoorKGa
import Derived.Test.YtjgdlocgoiinbaaGreatDoorKGb
import Derived.Test.YtjgdlocgoiinbaaGreatDoorKGc
import Derived.Test.YtjgdlocgoiinbaaGreatDoorKGd
import Derived.Test.YtjgdlocgoiinbaaGreatDoorKGe
import Derived.Test.YtjgdlocgoiinbaaGreatDoorKGf
import Derived.Test.YtjgdlocgoiinbaaGreatDoorKGg
import Derived.Test.YtjgdlocgoiinbaaGreatDoorKGh
namespace Go.Proofs.YtjgdlocgoiinbaaGreatDoor
set_option linter.unusedVariables false
set_option linter.unusedSimpArgs false
open Go.RowKit Go.Shelf Go.Lib
attribute [local simp] isCut_nil isCut_region isCut_seq isCut_block isCut_loop isCut_cond isCut_skip isCut_exit isCut_ret isCut_range swapK putK altK condK_bool pickP_bool stepP stepO onPure_some onPure_none onImpl_some onImpl_none stepC onGP_some onGP_none onGV_some condG mkG onIt_it nextP_ptr takeP_eq takeV_some takeV_none takeU_some takeU_none takeQ takeW_some takeN_none takeN_some takeG_some takeO_some altO_some pureV binV2 eqF eqOp ovlV ovl2 rowAt capV binV intBin strBin isSh shV fldV ixV sliceV slice3V loadAV nilV lenV callV unV convV viewS cellsH loadV fldCut AV.ung AV.ungs AV.gc AV.cells AS.ev AS.put anyS gcsV gcO lens lnO gV guardV retK RetP_eq resV oneV anyRo loIx hiIx implO callP_clo evL gcsL clearV storeAV AS.push AS.setO appV appZ shortS copyV buildV partsV fillV srcV fzO okV isCell_c isCell_ptr isCell_sl isCell_fs isCell_fp isCell_clo rowZ_one rowZ_zero rowZ_2 rowZ_3 rowZ_4 rowZ_5 rowZ_6 rowZ_7 rowZ_8 rowZ_9 rowZ_10 rowZ_11 rowZ_12 noHo Value.oneCell' max2V min2V lookV updV lenM msAt afterH putBack frzFrom frzO rebO backIx nilEq_sl nilEq_fs nilEq_ifn nilEq_ifh ifOp_eql ifOp_neq isLit nilOp_eql nilOp_neq AV.reb AV.rebL
attribute [local simp ↓] runK_skip runK_region runK_draw runK_seq runK_cut runK_cond runK_block runK_loop runK_exit runK_label runK_goto runK_ret runK_range contK_nil contK_seq contK_seq_ret contK_seq_exit contK_seq_goto contK_block contK_block_ret contK_block_goto contK_block_exit runO_nil runO_cons roundK_exit roundK_ret roundK_goto exitK_ret cutK_ret cutK_exit runE_done runE_nil runE_take runE_alt condG_true condG_false
set_option maxRecDepth 10000
set_option maxHeartbeats 16000000 in
theorem r17Lex_w (s : ByteArray) (hs : s.size ≤ 2000) : ACalls Tryz.prog 40 [.c (.string s)] [] (fun _ => false) (fun r h' => (∃ ts, lexG 0 s.data.toList = (some ts, 0) ∧ r = .tup [slT7 0 ts.length, .c (.int .i64 0), .c (.bool true)] ∧ h' = [rowT ts]) ∨ (∃ p : Nat, lexG 0 s.data.toList = (none, p) ∧ r = .tup [.c (.slice none 0 0), .c (.int .i64 (p : Nat)), .c (.bool false)] ∧ h' = [])) := by
  refine acallsC [82] mixed Tryz.func40 rfl Tryz.ntmps40 rfl fun E hE hst hho => ?_
  have ls : s.data.toList.length = s.size := rfl
  have h0 : ¬ (2000 : Int) < s.size := by omega
  have h0n : ¬ 2000 < s.size := by omega
  simp (maxSteps := 1000000) [hho, noHo, h0, h0n, -List.reduceReplicate]
  refine loop_kc [82] mixed (so40 s) (fun y => s.size - y.1) (InvL s.data.toList) (0, []) ⟨Nat.le_refl _, LexI.start _⟩ ?_ ?_
  · refine Wk.trans (wk_virt 5 59 7 rfl) ?_
    exact wk_eq (by simp [hE, lens]) (by simp [so40, rowT, toksA]) (by simp [livH, livO, AV.livL, AV.liv, wkL, wkV, List.range', so40, slotsOf, slT7])
  rintro ⟨p, acc⟩ ⟨hac, hI⟩
  simp only at hac hI
  have hp := hI.1
  rw [ls] at hp
  by_cases h1 : p < s.size
  case neg =>
    have h1i : ¬ (p : Int) < s.size := by omega
    have hfin := hI.fin (by rw [ls]; exact h1)
    simp (maxSteps := 1000000) [hho, noHo, so40, slotsOf, h1, h1i, slT7, rowT, undef, onGP_none, condG_false, -List.reduceReplicate]
    refine Ret.sel [0] (fun _ => false) (ho := by rfl) (ha := by rfl) (by simp) (by simp) (by decide) (by simp) (fun i _ h => by cases h) ?_
    exact .inl ⟨acc, hfin, rfl, rfl⟩
  have h1i : (p : Int) < s.size := by omega
  have hpL : p < s.data.toList.length := h1
  have ba := byte_at (s := s) hpL
  have ba2 := byte_at2 (s := s) hpL
  obtain ⟨x, hx⟩ : ∃ x : Nat, x = (s.data.toList[p]).toNat := ⟨_, rfl⟩
  rw [← hx] at ba ba2
  have hb1 : s.data.toList[p] = 32 ↔ x = 32 := ⟨fun e => by rw [hx, e]; rfl, fun e => UInt8.toNat_inj.1 (by rw [← hx, e]; rfl)⟩
  have hb2 : s.data.toList[p] = 10 ↔ x = 10 := ⟨fun e => by rw [hx, e]; rfl, fun e => UInt8.toNat_inj.1 (by rw [← hx, e]; rfl)⟩
  have ew1 : IntKind.i64.wrap ((p : Int) + 1) = (p : Int) + 1 := IntWalk.i64_in _ (by omega)
  by_cases x32 : x = 32
  · have x32i : (x : Int) = 32 := by omega
    simp (maxSteps := 1000000) [hho, noHo, so40, slotsOf, h1, h1i, ba, ba2, x32, x32i, undef, onGP_none, condG_false, -List.reduceReplicate]
    refine round_next (p + 1, acc) ⟨by simp only; omega, hI.blank hpL (.inl (hb1.2 x32))⟩ (by simp only; omega) ?_
    exact wk_of 1 0 (by simp) (by simp [hE, lens]) (by simp [so40]) (by simp [livH, livO, AV.livL, AV.liv, wkL, wkV, List.range', so40, rowT]) (by simp [livH, livO, AV.livL, AV.liv, wkL, wkV, List.range', so40, slotsOf, ew1, slT7])
  have x32i : ¬ (x : Int) = 32 := by omega
  by_cases x10 : x = 10
  · have x10i : (x : Int) = 10 := by omega
    simp (maxSteps := 1000000) [hho, noHo, so40, slotsOf, h1, h1i, ba, ba2, x32, x32i, x10, x10i, undef, onGP_none, condG_false, -List.reduceReplicate]
    refine round_next (p + 1, acc) ⟨by simp only; omega, hI.blank hpL (.inr (hb2.2 x10))⟩ (by simp only; omega) ?_
    exact wk_of 1 0 (by simp) (by simp [hE, lens]) (by simp [so40]) (by simp [livH, livO, AV.livL, AV.liv, wkL, wkV, List.range', so40, rowT]) (by simp [livH, livO, AV.livL, AV.liv, wkL, wkV, List.range', so40, slotsOf, ew1, slT7])
  have x10i : ¬ (x : Int) = 10 := by omega
  have hnb : ¬ (s.data.toList[p] = 32 ∨ s.data.toList[p] = 10) := fun h => h.elim (fun h => x32 (hb1.1 h)) fun h => x10 (hb2.1 h)
  simp (maxSteps := 1000000) [hho, noHo, so40, slotsOf, h1, h1i, ba, ba2, x32, x32i, x10, x10i, undef, onGP_none, condG_false, -List.reduceReplicate]
  refine seq_cutW mixed [34, 63] (se40 s acc) (FI82 s.data.toList acc p) (st40 s acc p x p) ?_ ?_ ?_
  · exact wk_of 2 0 (by simp) (by simp [hE, lens]) (by simp [st40, rowT, tokA, vN]) (by simp [livH, livO, AV.livL, AV.liv, wkL, wkV, List.range', st40, rowT, tokA]) (by simp [livH, livO, AV.livL, AV.liv, wkL, wkV, List.range', st40, slotsOf, slT7])
  · rintro ⟨t, i⟩ ⟨ht, hi, hLI⟩
    simp only at ht hi hLI
    have hi2 := hLI.1
    rw [ls] at hi2
    have hlen : (toksA acc).length = acc.length * 7 := toksA_length acc
    simp (maxSteps := 1000000) [hho, noHo, se40, slotsOf, slT7, rowT, tokA, undef, onGP_none, condG_false, -List.reduceReplicate]
    repeat (with_reducible refine And.intro (by omega) ?_)
    refine round_next (i, acc ++ [t]) ⟨by simp; omega, hLI⟩ (by simp only; omega) ?_
    exact wk_of 1 2 (by simp) (by simp [hE, lens]) (by simp [so40, rowT, toksA_snoc, tokA]) (by simp [livH, livO, AV.livL, AV.liv, wkL, wkV, List.range', so40, rowT]) (by simp [livH, livO, AV.livL, AV.liv, wkL, wkV, List.range', so40, slotsOf, slT7, Nat.add_mul])
  have hret : RetG s p (contK Tryz.prog E [82] [] (fun _ _ => True)) := fun _ _ _ _ _ _ => trivial
  clear hret ba ba2
  have key : ∀ Q, RetG s p Q → ChainG E s acc p x Q := by
    intro Q hret
    by_cases x39 : x = 39
    · exact chain_KGa E hE hho s hs acc p x hpL hx hac hI hnb Q hret x39
    by_cases hX : x = 88 ∧ p + 1 < s.size ∧ nextB s.data.toList p = 39
    · exact chain_KGb E hE hho s hs acc p x hpL hx hac hI hnb Q hret hX.1 hX.2.1 hX.2.2
    have hn39 : ¬ s.data.toList[p] = 39 := fun e => x39 (by rw [hx, e]; rfl)
    have hnq : noQ s.data.toList p hpL := ⟨hn39, fun h => hX (by
      have x88 : x = 88 := by rw [hx, h.1]; rfl
      have h2 := h.2
      by_cases hp2 : p + 1 < s.data.toList.length
      · refine ⟨x88, hp2, ?_⟩
        rw [List.drop_eq_getElem_cons hp2] at h2
        injection h2 with h2
        unfold nextB
        rw [dif_pos hp2, h2]; rfl
      · rw [List.drop_eq_nil_of_le (by omega)] at h2
        cases h2)⟩
    by_cases x88 : x = 88
    · by_cases hp2 : p + 1 < s.size
      · exact chain_KGc E hE hho s hs acc p x hpL hx hac hI hnb Q hret hnq x88 hp2
      · exact chain_KGd E hE hho s hs acc p x hpL hx hac hI hnb Q hret hnq x88 hp2
    cases hdig : isDig s.data.toList[p] with
    | true => exact chain_KGe E hE hho s hs acc p x hpL hx hac hI hnb Q hret hnq x88 hdig
    | false =>
      cases hgr : isGreat s.data.toList[p] with
      | true => exact chain_KGf E hE hho s hs acc p x hpL hx hac hI hnb Q hret hnq x88 hdig hgr
      | false =>
        cases hlo : isLow s.data.toList[p] with
        | true => exact chain_KGg E hE hho s hs acc p x hpL hx hac hI hnb Q hret hnq x88 hdig hgr hlo
        | false => exact chain_KGh E hE hho s hs acc p x hpL hx hac hI hnb Q hret hnq x88 hdig hgr hlo
  refine (key _ ?_).out rfl
  intro hbad t h e2 e3 e4
  simp [hho, noHo, AS.ev, e2, e3, e4]
  exact Ret.drop (by rfl) (.inr ⟨p, hbad, rfl, rfl⟩)
end Go.Proofs.YtjgdlocgoiinbaaGreatDoor
