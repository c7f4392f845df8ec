import Derived.Test.YtcjncgfhkgcbnaaDoorHS
import Derived.Test.YtcjncgfhkgcbnaaDoorRT
import Derived.Test.YtcjncgfhkgcbnaaDoorG4
import Derived.Test.YtcjncgfhkgcbnaaDoorHZ1
namespace Go.Proofs.YtcjncgfhkgcbnaaDoor
set_option linter.unusedVariables false
set_option linter.unusedSimpArgs false
open Go.RowKit
attribute [local simp] isCut_nil isCut_region isCut_seq isCut_block isCut_loop isCut_cond isCut_skip isCut_exit isCut_ret isCut_range swapK putK altK condK_bool pickP_bool stepP stepO onPure_some onPure_none onImpl_some onImpl_none stepC onGP_some onGP_none onGV_some condG mkG onIt_it nextP_ptr takeP_eq takeV_some takeV_none takeU_some takeU_none takeQ takeW_some takeN_none takeN_some takeG_some takeO_some altO_some pureV binV2 eqF eqOp ovlV ovl2 rowAt capV binV intBin strBin isSh shV fldV ixV sliceV slice3V loadAV nilV lenV callV unV convV viewS cellsH loadV fldCut AV.ung AV.ungs AV.gc AV.cells AS.ev AS.put anyS gcsV gcO lens lnO gV guardV retK RetP_eq resV oneV anyRo loIx hiIx implO callP_clo evL gcsL clearV storeAV AS.push AS.setO appV appZ shortS copyV buildV partsV fillV srcV fzO okV isCell_c isCell_ptr isCell_sl isCell_fs isCell_fp isCell_clo rowZ_one rowZ_zero rowZ_2 rowZ_3 rowZ_4 rowZ_5 rowZ_6 rowZ_7 rowZ_8 rowZ_9 rowZ_10 rowZ_11 rowZ_12 noHo Value.oneCell' max2V min2V lookV updV lenM msAt afterH putBack frzFrom frzO rebO backIx nilEq_sl nilEq_fs nilOp_eql nilOp_neq AV.reb AV.rebL
attribute [local simp ↓] runK_skip runK_region runK_draw runK_seq runK_cut runK_cond runK_block runK_loop runK_exit runK_label runK_goto runK_ret runK_range contK_nil contK_seq contK_seq_ret contK_seq_exit contK_seq_goto contK_block contK_block_ret contK_block_goto contK_block_exit runO_nil runO_cons roundK_exit roundK_ret roundK_goto exitK_ret cutK_ret cutK_exit runE_done runE_nil runE_take runE_alt condG_true condG_false
set_option maxRecDepth 10000
def tpC (t : TSt) : List AV := [.fs 1 t.1.length (u8av t.1), .c (.bool t.2)]
theorem num_t (t : TSt) (hb : t.1.length ≤ 100000000) : ACalls Tryd.prog 41 [.ptr 0 0 2] [.o .box (tpC t)] (fun k => decide (k < 1)) (fun r h' => r = .c (.int .i64 (tNum t).1) ∧ h' = [.o .box (tpC (tNum t).2)]) := by
  refine acalls mixed Tryd.func41 rfl Tryd.ntmps41 rfl fun E hE hst hho => ?_
  obtain ⟨b, x⟩ := t
  have hb : b.length ≤ 100000000 := hb
  have hgc := ref1get_w b (by omega)
  rcases get_of b with ⟨hr, hg⟩ | ⟨n, j, hj0, hjb, hg, hr⟩
  · rw [hg] at hgc
    have e : tNum (b, x) = (0, ([], true)) := by simp [tNum, hr]
    rw [e]
    simp (maxSteps := 1000000) [hho, noHo, tpC, -List.reduceReplicate]
    refine call_x [] (hgc) rfl rfl ⟨rfl, rfl⟩ hho (by simp) (by decide) (by simp) (by simp) ?_
    simp (maxSteps := 1000000) [hho, noHo, -List.reduceReplicate]
    refine Ret.wkh (h2 := [.o .box (tpC ([], true))]) (r2 := .c (.int .i64 0)) (fun E _ _ => ?_) (Ret.same ⟨rfl, rfl⟩)
    exact wk_cell (s := ⟨[.c (.int .i64 0)], [.o .box [.c (.slice none 0 0), .c (.bool true)]]⟩) 0 0 (kd := .box) (cs := [.c (.slice none 0 0), .c (.bool true)]) (old := .c (.slice none 0 0)) (new := .fs 1 0 []) rfl rfl fun G F w v _ h => nil_fs0 1 h
  · rw [hg] at hgc
    have e : tNum (b, x) = (n, (b.drop j, x)) := by simp [tNum, hr]
    have hj : ¬ j = 0 := by omega
    have htd : List.take (b.length - j) (List.drop j (u8av b)) = u8av (b.drop j) := by rw [List.take_of_length_le (by simp [u8av])]; simp [u8av]
    rw [e]
    simp (maxSteps := 1000000) [hho, noHo, tpC, -List.reduceReplicate]
    refine call_x [] (hgc) rfl rfl ⟨rfl, rfl⟩ hho (by simp) (by decide) (by simp) (by simp) ?_
    simp (maxSteps := 1000000) [hho, noHo, hj, hjb, -List.reduceReplicate]
    exact Ret.same ⟨rfl, by simp [tpC, htd]⟩
theorem text_t (t : TSt) (hb : t.1.length ≤ 100000000) : ACalls Tryd.prog 42 [.ptr 0 0 2] [.o .box (tpC t)] (fun k => decide (k < 1)) (fun r h' => r = .c (.string (tText t).1) ∧ h' = [.o .box (tpC (tText t).2)]) := by
  refine acalls mixed Tryd.func42 rfl Tryd.ntmps42 rfl fun E hE hst hho => ?_
  obtain ⟨b, x⟩ := t
  have hb : b.length ≤ 100000000 := hb
  have hgc := gettext_ref b hb
  rcases text_of b with ⟨hr, hg⟩ | ⟨j, hj0, hjb, hg, hr⟩
  · rw [hg] at hgc
    have e : tText (b, x) = (ByteArray.empty, ([], true)) := by simp [tText, sText, hr]
    rw [e]
    simp (maxSteps := 1000000) [hho, noHo, tpC, -List.reduceReplicate]
    refine call_x [] (hgc) rfl rfl ⟨rfl, rfl⟩ hho (by simp) (by decide) (by simp) (by simp) ?_
    simp (maxSteps := 1000000) [hho, noHo, -List.reduceReplicate]
    refine Ret.wkh (h2 := [.o .box (tpC ([], true))]) (r2 := .c (.string ByteArray.empty)) (fun E _ _ => ?_) (Ret.same ⟨rfl, rfl⟩)
    exact wk_cell (s := ⟨[.c (.string ByteArray.empty)], [.o .box [.c (.slice none 0 0), .c (.bool true)]]⟩) 0 0 (kd := .box) (cs := [.c (.slice none 0 0), .c (.bool true)]) (old := .c (.slice none 0 0)) (new := .fs 1 0 []) rfl rfl fun G F w v _ h => nil_fs0 1 h
  · rw [hg] at hgc
    have e : tText (b, x) = (str (rtextS (some b)).1, (b.drop j, x)) := by simp [tText, sText, hr]
    have hj : ¬ j = 0 := by omega
    have htd : List.take (b.length - j) (List.drop j (u8av b)) = u8av (b.drop j) := by rw [List.take_of_length_le (by simp [u8av])]; simp [u8av]
    rw [e]
    simp (maxSteps := 1000000) [hho, noHo, tpC, -List.reduceReplicate]
    refine call_x [] (hgc) rfl rfl ⟨rfl, rfl⟩ hho (by simp) (by decide) (by simp) (by simp) ?_
    simp (maxSteps := 1000000) [hho, noHo, hj, hjb, -List.reduceReplicate]
    exact Ret.same ⟨rfl, by simp [tpC, htd]⟩
theorem flag_t (t : TSt) (hb : t.1.length ≤ 100000000) : ACalls Tryd.prog 43 [.ptr 0 0 2] [.o .box (tpC t)] (fun k => decide (k < 1)) (fun r h' => r = .c (.bool (tFlag t).1) ∧ h' = [.o .box (tpC (tFlag t).2)]) := by
  refine acalls mixed Tryd.func43 rfl Tryd.ntmps43 rfl fun E hE hst hho => ?_
  have c1 := num_t t hb
  unfold tFlag
  obtain ⟨p, hp⟩ : ∃ p, p = tNum t := ⟨_, rfl⟩
  rw [← hp] at c1 ⊢
  obtain ⟨n, b, x⟩ := p
  simp only at c1 ⊢
  by_cases h0 : n = 0
  · subst h0
    simp (maxSteps := 1000000) [hho, noHo, tpC, -List.reduceReplicate]
    refine call_x [0] (c1) rfl rfl ⟨rfl, rfl⟩ hho (by simp) (by decide) (by simp) (by simp) ?_
    simp (maxSteps := 1000000) [hho, noHo, tpC, undef, onGP_none, condG_false, -List.reduceReplicate]
    exact Ret.same ⟨rfl, by simp [tpC]⟩
  by_cases h1 : n = 1
  · subst h1
    simp (maxSteps := 1000000) [hho, noHo, tpC, -List.reduceReplicate]
    refine call_x [0] (c1) rfl rfl ⟨rfl, rfl⟩ hho (by simp) (by decide) (by simp) (by simp) ?_
    simp (maxSteps := 1000000) [hho, noHo, tpC, undef, onGP_none, condG_false, -List.reduceReplicate]
    exact Ret.same ⟨rfl, by simp [tpC]⟩
  have h2 : n < 0 ∨ 1 < n := by omega
  simp (maxSteps := 1000000) [hho, noHo, tpC, -List.reduceReplicate]
  refine call_x [0] (c1) rfl rfl ⟨rfl, rfl⟩ hho (by simp) (by decide) (by simp) (by simp) ?_
  simp (maxSteps := 1000000) [hho, noHo, tpC, h0, h1, undef, onGP_none, condG_false, -List.reduceReplicate]
  exact Ret.same ⟨by simp [h1], by simp [tpC, h2]⟩
end Go.Proofs.YtcjncgfhkgcbnaaDoor
