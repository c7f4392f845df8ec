import Derived.Test.YtjgdlocgoiinbaaGreatDoorQV
import Derived.Test.YtjgdlocgoiinbaaGreatDoorQM
import Derived.Test.YtjgdlocgoiinbaaGreatDoorQN
import Derived.Test.YtjgdlocgoiinbaaGreatDoorHD
namespace Go.Proofs.YtjgdlocgoiinbaaGreatDoor
set_option linter.unusedVariables false
set_option linter.unusedSimpArgs false
open Go.RowKit Go.Lib
attribute [local simp] isCut_nil isCut_region isCut_seq isCut_block isCut_loop isCut_cond isCut_skip isCut_exit isCut_ret isCut_range swapK putK altK condK_bool pickP_bool stepP stepO onPure_some onPure_none onImpl_some onImpl_none stepC onGP_some onGP_none onGV_some condG mkG onIt_it nextP_ptr takeP_eq takeV_some takeV_none takeU_some takeU_none takeQ takeW_some takeN_none takeN_some takeG_some takeO_some altO_some pureV binV2 eqF eqOp ovlV ovl2 rowAt capV binV intBin strBin isSh shV fldV ixV sliceV slice3V loadAV nilV lenV callV unV convV viewS cellsH loadV fldCut AV.ung AV.ungs AV.gc AV.cells AS.ev AS.put anyS gcsV gcO lens lnO gV guardV retK RetP_eq resV oneV anyRo loIx hiIx implO callP_clo evL gcsL clearV storeAV AS.push AS.setO appV appZ shortS copyV buildV partsV fillV srcV fzO okV isCell_c isCell_ptr isCell_sl isCell_fs isCell_fp isCell_clo rowZ_one rowZ_zero rowZ_2 rowZ_3 rowZ_4 rowZ_5 rowZ_6 rowZ_7 rowZ_8 rowZ_9 rowZ_10 rowZ_11 rowZ_12 noHo Value.oneCell' max2V min2V lookV updV lenM msAt afterH putBack frzFrom frzO rebO backIx nilEq_sl nilEq_fs nilEq_ifn nilEq_ifh ifOp_eql ifOp_neq isLit nilOp_eql nilOp_neq AV.reb AV.rebL
attribute [local simp ↓] runK_skip runK_region runK_draw runK_seq runK_cut runK_cond runK_block runK_loop runK_exit runK_label runK_goto runK_ret runK_range contK_nil contK_seq contK_seq_ret contK_seq_exit contK_seq_goto contK_block contK_block_ret contK_block_goto contK_block_exit runO_nil runO_cons roundK_exit roundK_ret roundK_goto exitK_ret cutK_ret cutK_exit runE_done runE_nil runE_take runE_alt condG_true condG_false
set_option maxRecDepth 10000
/-! ## ValuePrints, ValueParses -/
theorem printR_len {v : ValS} (h : okI v) : (printR v).length ≤ 1000 := by
  obtain ⟨h1, h2, h3⟩ := h
  have ts := ok_size h1
  have ls : v.t.data.toList.length = v.t.size := rfl
  have p0 := printD_len (n := v.n) (k := 0) h2 (by omega)
  have d := dblQ_len v.t.data.toList
  have x := hexB_len v.t.data.toList
  unfold printR
  split
  · split
    · exact (by decide : trueB.length ≤ 1000)
    · exact (by decide : falseB.length ≤ 1000)
  split
  · omega
  split
  · rename_i hk
    split
    · rw [List.length_append, List.length_cons, List.length_nil]; omega
    · have := scale_le (ok_scale h1 (.inr hk))
      have := printD_len (n := v.n) (k := v.s.toNat) h2 (by omega)
      omega
  split
  · rw [List.length_cons, List.length_append, List.length_cons, List.length_nil]; omega
  split
  · rw [List.length_cons, List.length_cons, List.length_append, List.length_cons, List.length_nil]; omega
  · exact (by decide : nullB.length ≤ 1000)
set_option maxHeartbeats 8000000 in
theorem vprints_w (v : ValS) (hv : v.Ok) : ACalls Tryz.prog 5 [.agg (valA v)] [] (fun _ => false) (fun r h' => r = .c (.bool true)) := by
  refine acalls mixed Tryz.func5 rfl Tryz.ntmps5 rfl fun E hE hst hho => ?_
  have c0 := l3first_w
  by_cases hl : 1000 < (v.t.size : Int)
  · have hln : 1000 < v.t.size := by omega
    simp (maxSteps := 1000000) [hho, noHo, valA, -List.reduceReplicate]
    refine call_x [] (c0) rfl rfl ⟨rfl, rfl⟩ hho (by simp) (by decide) (by simp) (by simp) ?_
    simp (maxSteps := 1000000) [hho, noHo, hl, hln, undef, onGP_none, condG_false, -List.reduceReplicate]
    exact Ret.drop (by rfl) rfl
  have hln : ¬ 1000 < v.t.size := by omega
  have iv : (-9223372036854775808 ≤ v.n ∧ v.n ≤ 9223372036854775807) ∧ v.t.size ≤ 1000000000 := ⟨iv64 hv.2.1, by omega⟩
  have oi := plV_I iv
  have pl := printR_len oi
  have c1 := vPrint_w v iv
  have c2 := vParse_w (baL (printR (plV v))) (by rw [ba_size]; omega)
  rw [toL_ba, parse_print oi.1 oi.2.1.1 oi.2.1.2] at c2
  unfold pvR at c2
  simp only at c2
  have c3 := r3Print_w v iv
  have c4 := r3Plain_w v (by omega)
  obtain ⟨Q, hQ⟩ : ∃ Q, Q = baL (printR (plV v)) := ⟨_, rfl⟩
  obtain ⟨u, hu⟩ : ∃ Q, Q = plV v := ⟨_, rfl⟩
  rw [← hQ] at c1 c2 c3
  rw [← hu] at c2 c4
  simp (maxSteps := 1000000) [hho, noHo, valA, -List.reduceReplicate]
  refine call_x [] (c0) rfl rfl ⟨rfl, rfl⟩ hho (by simp) (by decide) (by simp) (by simp) ?_
  simp (maxSteps := 1000000) [hho, noHo, hl, hln, undef, onGP_none, condG_false, -List.reduceReplicate]
  refine call_x [] (c1) rfl rfl ⟨rfl, rfl⟩ hho (by simp) (by decide) (by simp) (by simp) ?_
  simp (maxSteps := 1000000) [hho, noHo, -List.reduceReplicate]
  refine call_x [] (c2) rfl rfl ⟨rfl, rfl⟩ hho (by simp) (by decide) (by simp) (by simp) ?_
  simp (maxSteps := 1000000) [hho, noHo, valA, -List.reduceReplicate]
  refine draw_k hho (.take 0 (.take 1 (.alt 2 (.take 3 (.take 4 (.take 5 (.take 6 (.take 7 (.take 8 (.take 9 (.alt 10 (.take 11 (.take 12 (.take 13 (.done)))) (.nil))))))))) (.nil)))) [0, 1] [] (by decide +kernel) (by simp) ?_
  simp (maxSteps := 1000000) [hho, noHo, roOf, holdOf, wrOf, altK, heldOk, Region.binds, -List.reduceReplicate]
  intros
  refine call_h [] (c3) rfl rfl ⟨rfl, rfl⟩ (by simp) (by simp) (by decide) (by simp) (by simp) ?_
  simp (maxSteps := 1000000) [hho, noHo, roOf, holdOf, wrOf, altK, heldOk, Region.binds, -List.reduceReplicate]
  intros
  refine call_h [] (c4) rfl rfl ⟨rfl, rfl⟩ (by simp) (by simp) (by decide) (by simp) (by simp) ?_
  simp (maxSteps := 1000000) [hho, noHo, valA, roOf, holdOf, wrOf, altK, heldOk, Region.binds, -List.reduceReplicate]
  exact Ret.drop (by rfl) rfl
set_option maxHeartbeats 8000000 in
theorem vparses_w (s : ByteArray) (hs : s.size ≤ maxLen) : ACalls Tryz.prog 6 [.c (.string s)] [] (fun _ => false) (fun r h' => r = .c (.bool true)) := by
  refine acalls mixed Tryz.func6 rfl Tryz.ntmps6 rfl fun E hE hst hho => ?_
  have c0 := l3first_w
  by_cases hl : 1000 < (s.size : Int)
  · have hln : 1000 < s.size := by omega
    simp (maxSteps := 1000000) [hho, noHo, -List.reduceReplicate]
    refine call_x [] (c0) rfl rfl ⟨rfl, rfl⟩ hho (by simp) (by decide) (by simp) (by simp) ?_
    simp (maxSteps := 1000000) [hho, noHo, hl, hln, undef, onGP_none, condG_false, -List.reduceReplicate]
    exact Ret.drop (by rfl) rfl
  have hln : ¬ 1000 < s.size := by omega
  have c1 := vParse_w s (by omega)
  have c2 := r3Parse_w s (by omega)
  obtain ⟨P, hP⟩ : ∃ P, P = pvR (parseR s.data.toList) := ⟨_, rfl⟩
  rw [← hP] at c1 c2
  obtain ⟨u, b⟩ := P
  simp only at c1 c2
  simp (maxSteps := 1000000) [hho, noHo, -List.reduceReplicate]
  refine call_x [] (c0) rfl rfl ⟨rfl, rfl⟩ hho (by simp) (by decide) (by simp) (by simp) ?_
  simp (maxSteps := 1000000) [hho, noHo, hl, hln, undef, onGP_none, condG_false, -List.reduceReplicate]
  refine call_x [] (c1) rfl rfl ⟨rfl, rfl⟩ hho (by simp) (by decide) (by simp) (by simp) ?_
  simp (maxSteps := 1000000) [hho, noHo, valA, -List.reduceReplicate]
  refine call_x [] (c2) rfl rfl ⟨rfl, rfl⟩ hho (by simp) (by decide) (by simp) (by simp) ?_
  simp (maxSteps := 1000000) [hho, noHo, valA, -List.reduceReplicate]
  exact Ret.drop (by rfl) rfl
end Go.Proofs.YtjgdlocgoiinbaaGreatDoor
