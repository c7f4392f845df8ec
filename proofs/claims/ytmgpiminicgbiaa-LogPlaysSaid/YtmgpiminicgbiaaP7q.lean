import Derived.Test.YtmgpiminicgbiaaP7p
namespace Go.Proofs.Ytmgpiminicgbiaa
set_option linter.unusedVariables false
set_option linter.unusedSimpArgs false
open Go.RowKit
attribute [local simp] isCut_nil isCut_region isCut_seq isCut_block isCut_loop isCut_cond isCut_skip isCut_exit isCut_ret isCut_range swapK putK altK condK_bool pickP_bool stepP stepO onPure_some onPure_none onImpl_some onImpl_none stepC onGP_some onGP_none onGV_some condG mkG onIt_it nextP_ptr takeP_eq takeV_some takeV_none takeU_some takeU_none takeQ takeW_some takeN_none takeN_some takeG_some takeO_some altO_some pureV binV2 eqF eqOp ovlV ovl2 rowAt capV binV intBin strBin isSh shV fldV ixV sliceV slice3V loadAV nilV lenV callV unV convV viewS cellsH loadV fldCut AV.ung AV.ungs AV.gc AV.cells AS.ev AS.put anyS gcsV gcO lens lnO gV guardV retK RetP_eq resV oneV anyRo loIx hiIx implO callP_clo evL gcsL clearV storeAV AS.push AS.setO appV appZ shortS copyV buildV partsV fillV srcV fzO okV isCell_c isCell_ptr isCell_sl isCell_fs isCell_fp isCell_clo rowZ_one rowZ_zero rowZ_2 rowZ_3 rowZ_4 rowZ_5 rowZ_6 rowZ_7 rowZ_8 rowZ_9 rowZ_10 rowZ_11 rowZ_12 noHo Value.oneCell' max2V min2V lookV updV updK updW cvals mkAt basV lenM msAt afterH putBack frzFrom frzO rebO backIx nilEq_sl nilEq_fs nilEq_ifn nilEq_ifh ifOp_eql ifOp_neq isLit nilOp_eql nilOp_neq AV.reb AV.rebL
attribute [local simp ↓] runK_skip runK_region runK_draw runK_seq runK_cut runK_cond runK_block runK_loop runK_exit runK_label runK_goto runK_ret runK_range contK_nil contK_seq contK_seq_ret contK_seq_exit contK_seq_goto contK_block contK_block_ret contK_block_goto contK_block_exit runO_nil runO_cons roundK_exit roundK_ret roundK_goto exitK_ret cutK_ret cutK_exit runE_done runE_nil runE_take runE_alt condG_true condG_false
set_option maxRecDepth 10000
attribute [local simp ↓] runEZ_done runEZ_nil runEZ_take runEZ_alt
attribute [local simp] altOZ_some
/-! ## LogPlays, walked -/
/-- the blocks of LogPlays: the device, the log; the same of the document -/
def plR (D : DevS) (L : LogS) : List AObj := [.o .box [.sl 6 1 0 D.kept.length D.kept.length, .sl 7 2 0 D.wait.length (D.wait.length * 2), .c (.int .i64 (leftR D)), .c (.int .i64 D.calls)], .o (.row 9 1) (refK D.kept), .o (.row 101 2) (refW D.wait), rlogB L 5 9, rstR L.bs]
def plH (D : DevS) (L : LogS) : List AObj := dlO D L ++ plR D L
structure PlS where
  D : DevS
  L : LogS
  e : Int
theorem plH_len (D : DevS) (L : LogS) : (plH D L).length = 10 := rfl
theorem st_ap : ∀ (a b c d e g : Nat) (i k : Nat), ([a, b, c, d, e, g] : List Nat)[i]? = some k → [0, 1, 2, 5].contains i = true ∨ k ∈ [d, e] := by
  intro a b c d e g i k h
  match i, h with
  | 0, _ => exact .inl rfl
  | 1, _ => exact .inl rfl
  | 2, _ => exact .inl rfl
  | 3, h => simp at h; exact .inr (by simp [h])
  | 4, h => simp at h; exact .inr (by simp [h])
  | 5, _ => exact .inl rfl
  | i + 6, h => simp at h
theorem wr7r (D : DevS) (hD : D.Ok) (i : Int) (l : List UInt8) (hc : checkS D i l.length = 0) : ACalls Try.prog 27 [.ptr 0 0 4, .c (.int .i64 i), .c (.string (str l))] (refO D) (fun k => decide (k < 2)) (fun r h' => r = .c (.int .i64 0) ∧ h' = refO (writeS D i l)) := by
  have h64 := (check_ok hc).2.2.1
  have := r6write_ref D hD i (str l) (by rw [str_size]; omega)
  rw [str_size, str_list, hc] at this
  exact this
theorem deep_strs {h : List AObj} (k : Nat) {e : TypeId} (l : List (List UInt8)) (hk : h[k]? = some (.o (.row e 1) (strA l))) (hn : l.length ≤ maxLen) : DeepV h (fun _ => True) (.sl k 1 0 l.length l.length) (.fs 1 l.length (strA l)) :=
  .d _ _ (.sl k 1 0 _ _ _ (strA l) (strA l) trivial hk (by simp) (by simp) hn (by simp) fun j u u' h1 h2 => by
    rw [Nat.zero_add] at h1
    rw [h1] at h2; injection h2 with h2; subst h2
    exact .d u ((strA_all l).2 trivial u (List.mem_of_getElem? h1)))
theorem cv_2 {h : List AObj} {ok : Nat → Prop} {a a' b b' : AV} (h1 : DeepV h ok a a') (h2 : DeepV h ok b b') : ∀ (j : Nat) (u u' : AV), [a, b][j]? = some u → [a', b'][j]? = some u' → DeepV h ok u u' := by
  intro j u u' hu hu'
  match j, hu, hu' with
  | 0, hu, hu' => simp at hu hu'; subst hu hu'; exact h1
  | 1, hu, hu' => simp at hu hu'; subst hu hu'; exact h2
  | j + 2, hu, _ => simp at hu
set_option maxHeartbeats 16000000 in
theorem plays7 (x : Int × Int) (hx : i64ok x.1 ∧ i64ok x.2) (sc : List Op7) (hs : sc.length ≤ maxLen ∧ ∀ o ∈ sc, o.Ok) (hz : ∀ o ∈ sc, o.b.length ≤ 140737488355328) : ACalls Try.prog 6 [.agg [.c (.int .i64 x.1), .c (.int .i64 x.2)], .fs 4 sc.length (scriptA sc)] [] (fun _ => false) (fun r h' => r = .c (.bool true)) := by
  obtain ⟨a, F⟩ := x
  refine acallsC [40, 48] mixed Try.func6 rfl Try.ntmps6 rfl fun E hE hst hho => ?_
  simp (maxSteps := 1000000) [hho, noHo, -List.reduceReplicate]
  refine call_plain (fun _ => false) first_log (ha := by rfl) (by simp) ?_
  rintro r h' ⟨rfl, rfl⟩
  refine ⟨rfl, ?_⟩
  obtain ⟨n, hn, n1, n20⟩ : ∃ n : Nat, IntKind.i64.wrap (1 + IntKind.i64.wrap ((IntKind.u64.wrap a).tmod 20)) = (n : Int) ∧ 1 ≤ n ∧ n ≤ 20 := by
    have := ixU_range 20 (by decide) (by decide) a
    unfold ixU at this
    refine ⟨(1 + IntKind.i64.wrap ((IntKind.u64.wrap a).tmod 20)).toNat, ?_, by omega, by omega⟩
    rw [IntWalk.i64_in _ (by omega)]; omega
  simp (maxSteps := 1000000) [hho, noHo, hn, -List.reduceReplicate]
  obtain ⟨D0, hD0⟩ : ∃ D0, D0 = newS n := ⟨_, rfl⟩
  have h0 : PlD n 0 D0 := by rw [hD0]; exact PlD.new n n1 (by omega)
  refine call_x [] (new_ok n (by omega) (by omega)) rfl rfl ⟨rfl, rfl⟩ hho (by simp) (by decide) (by simp) (by simp) ?_
  rw [show ((n : Nat) : Int).toNat = n from rfl, ← hD0]
  simp (maxSteps := 1000000) [hho, noHo, devO, -List.reduceReplicate]
  refine call_x [] (r6new_ref n (by omega)) rfl rfl ⟨rfl, rfl⟩ hho (by simp) (by decide) (by simp) (by simp) ?_
  rw [← hD0]
  simp (maxSteps := 1000000) [hho, noHo, refO, -List.reduceReplicate]
  by_cases hF : F < 1 ∨ (D0.kept.length : Int) - 2 < F
  · refine call_x [1, 2, 3] (open_arg D0 h0.ok F hF) rfl rfl ⟨rfl, rfl⟩ hho (by simp) (by decide) (by simp) (by simp [devO]) ?_
    simp (maxSteps := 1000000) [hho, noHo, devO, -List.reduceReplicate]
    refine call_x [4, 5, 6] (open7_arg D0 h0.ok F hF) rfl rfl ⟨rfl, rfl⟩ hho (by simp) (by decide) (by simp) (by simp [refO]) ?_
    simp (maxSteps := 1000000) [hho, noHo, refO, -List.reduceReplicate]
    refine call_0 (open_nil7) rfl rfl hho (by simp) ?_
    simp (maxSteps := 1000000) [hho, noHo, -List.reduceReplicate]
    refine call_0 (append_nil) rfl rfl hho (by simp) ?_
    simp (maxSteps := 1000000) [hho, noHo, -List.reduceReplicate]
    refine call_0 (reset_nil) rfl rfl hho (by simp) ?_
    simp (maxSteps := 1000000) [hho, noHo, -List.reduceReplicate]
    refine call_0 (head_nil) rfl rfl hho (by simp) ?_
    simp (maxSteps := 1000000) [hho, noHo, -List.reduceReplicate]
    refine call_0 (batches_nil) rfl rfl hho (by simp) ?_
    simp (maxSteps := 1000000) [hho, noHo, -List.reduceReplicate]
    refine call_0 (room_nil) rfl rfl hho (by simp) ?_
    simp (maxSteps := 1000000) [hho, noHo, -List.reduceReplicate]
    refine call_0 (epoch_nil) rfl rfl hho (by simp) ?_
    simp (maxSteps := 1000000) [hho, noHo, -List.reduceReplicate]
    exact Ret.drop (by rfl) rfl
  obtain ⟨f, rfl⟩ : ∃ f : Nat, F = f := ⟨F.toNat, by omega⟩
  have hkn := h0.kn
  have hf1 : 1 ≤ f := by omega
  have hf2 : (f : Int) ≤ D0.kept.length - 2 := by omega
  have hcc0 := h0.cc; have hwl0 := h0.wl
  have hD1 := h0.opn (by omega) f
  have hL1 := PlL.opn D0 f 0 (by omega)
  obtain ⟨W, hW⟩ : ∃ W, W = openS D0 f := ⟨_, rfl⟩
  rw [← hW] at hD1 hL1
  by_cases hw0 : W.1 = 0
  · have hL1 := hL1 hw0
    refine call_d [1, 2, 3] (fun _ => false) [3] (open_is D0 h0.ok (by omega) (by omega) f hf1 hf2 W hW.symm hw0) rfl rfl ⟨rfl, rfl⟩ hho (st_dev2 1 2 3) (by simp [livH, livO, AV.livL, AV.liv, wkL, wkV, List.range']) (by simp [livH, livO, AV.livL, AV.liv, wkL, wkV, List.range', refK_liv, refW_liv]) (by simp [hst]) (by decide) (by decide) (by simp) (by simp [dlO, devO]) ?_
    simp (maxSteps := 1000000) [hho, noHo, dlO, devO, logB, batR, -List.reduceReplicate]
    refine call_d [4, 5, 6] (fun _ => false) [6] (open7T D0 h0.ok (by omega) (by omega) f hf1 hf2 W hW.symm hw0) rfl rfl ⟨rfl, rfl⟩ hho (st_dev2 4 5 6) (by simp [livH, livO, AV.livL, AV.liv, wkL, wkV, List.range']) (by simp [livH, livO, AV.livL, AV.liv, wkL, wkV, List.range', refK_liv, refW_liv, batchA_liv]) (by simp [hst]) (by decide) (by decide) (by simp) (by simp [dlR, refO]) ?_
    simp (maxSteps := 1000000) [hho, noHo, dlR, refO, rlogB, rstR, -List.reduceReplicate]
    have hkD := hD1.kn
    obtain ⟨S, hS⟩ : ∃ S : Nat × PlS → AS, S = fun x => ⟨slotsOf 313 [(5, .c (.int .i64 n)), (6, .ptr 0 0 5), (8, .ptr 5 0 4), (9, .c (.int .i64 f)), (10, .ptr 3 0 9), (12, .ptr 8 0 9), (112, .fs 4 sc.length (scriptA sc)), (113, .c (.int .i64 sc.length)), (114, .c (.int .i64 (x.1 : Int)))], plH x.2.D x.2.L⟩ := ⟨_, rfl⟩
    have eS : ∀ x : Nat × PlS, S x = ⟨slotsOf 313 [(5, .c (.int .i64 n)), (6, .ptr 0 0 5), (8, .ptr 5 0 4), (9, .c (.int .i64 f)), (10, .ptr 3 0 9), (12, .ptr 8 0 9), (112, .fs 4 sc.length (scriptA sc)), (113, .c (.int .i64 sc.length)), (114, .c (.int .i64 (x.1 : Int)))], plH x.2.D x.2.L⟩ := fun x => by rw [hS]
    obtain ⟨T, hT⟩ : ∃ T : PlS → AS, T = fun x => ⟨slotsOf 313 [], plH x.D x.L⟩ := ⟨_, rfl⟩
    have eT : ∀ x : PlS, T x = ⟨slotsOf 313 [], plH x.D x.L⟩ := fun x => by rw [hT]
    clear hS hT
    refine loop_k2c [40, 48] mixed S (fun x => sc.length - x.1) (fun x => x.1 ≤ sc.length ∧ x.1 ≤ 40 ∧ PlD n (102 * x.1 + 2) x.2.D ∧ PlL f x.1 x.2.L) (0, ⟨W.2.1, W.2.2, 0⟩)
      T (fun x => True) 0 ⟨Nat.zero_le _, Nat.zero_le _, hD1, hL1⟩ ?_ ?_ ?_
    · rw [eS]
      refine wk_sel [1, 2, 3, 7, 8, 4, 5, 6, 9, 10] (slotsOf 313 [(5, .c (.int .i64 n)), (6, .ptr 1 0 5), (8, .ptr 4 0 4), (9, .c (.int .i64 f)), (10, .ptr 7 0 9), (12, .ptr 9 0 9), (112, .fs 4 sc.length (scriptA sc)), (113, .c (.int .i64 sc.length)), (114, .c (.int .i64 0))]) hho (by simp [livH, livO, AV.livL, AV.liv, wkL, wkV, List.range', slotsOf]) rfl rfl ?_ ?_ (by decide) (by simp [hst]) (by simp [hE, lens]) ?_ ?_
      · simp
      · simp [slotsOf]
      · simp [slotsOf]
      · simp [plH, plR, dlO, devO, logB, batR, rlogB, rstR]
    · rintro x _
      rw [eT]
      simp (maxSteps := 1000000) [hho, noHo, slotsOf, -List.reduceReplicate]
      exact Ret.drop (by rfl) rfl
    · rintro ⟨j, ⟨D, L, e⟩⟩ ⟨hj, hj40, hD, hL⟩
      simp only at hj hj40 hD hL
      by_cases hlt : j < sc.length
      · obtain ⟨o, ho⟩ : ∃ o, o = sc[j] := ⟨_, rfl⟩
        have hoo : o.Ok := by rw [ho]; exact hs.2 _ (List.getElem_mem hlt)
        have hat : List.take 4 (List.drop (j * 4) (scriptA sc)) = op7A o := by rw [ho]; exact flat_at op7A 4 (by simp) sc j hlt
        by_cases h40 : j < 40
        · have h40i : ¬ (40 : Int) ≤ j := by omega
          rw [eS]
          simp (maxSteps := 1000000) [hho, noHo, plH, plR, dlO, devO, logB, batR, rlogB, rstR, slotsOf, hlt, hat, op7A, h40, h40i, -List.reduceReplicate]
          refine call_plain (fun _ => false) (long7 o) (ha := by rfl) (by simp [op7A]) ?_
          rintro r h' rfl
          refine ⟨rfl, ?_⟩
          by_cases hlg : 1000 < longS o
          · simp (maxSteps := 1000000) [hho, noHo, hlg, undef, onGP_none, condG_false, -List.reduceReplicate]
            exact exit_to ⟨D, L, 0⟩ trivial (by rw [eT]; exact wk_of 10 1 (by simp) (by simp [hE, lens]) (by simp [plH, plR, dlO, devO, logB, batR, rlogB, rstR]) (by simp [livH, livO, AV.livL, AV.liv, wkL, wkV, List.range', plH, plR, dlO, devO, logB, batR, rlogB, rstR, batchA_liv, strA_liv, refK_liv, refW_liv]) (by simp [livH, livO, AV.livL, AV.liv, wkL, wkV, List.range', slotsOf]))
          have hob := hoo.b
          have hoz : o.b.length ≤ 140737488355328 := by rw [ho]; exact hz _ (List.getElem_mem hlt)
          have hfr := hL.fr; have hat0 := hL.at0; have hat1 := hL.at1; have hbl := hL.bl; have he0 := hL.e0; have he1 := hL.e1; have hn0 := hL.n0; have hn1 := hL.n1
          have hcc := hD.cc; have hwl := hD.wl; have hknD := hD.kn
          obtain ⟨U, hU⟩ : ∃ U : PlS → AS, U = fun y => ⟨slotsOf 313 [(5, .c (.int .i64 n)), (6, .ptr 0 0 5), (8, .ptr 5 0 4), (9, .c (.int .i64 f)), (10, .ptr 3 0 9), (12, .ptr 8 0 9), (19, .sl 11 1 0 o.b.length o.b.length), (20, .c (.int .i64 y.e)), (21, .c (.int .i64 y.e)), (112, .fs 4 sc.length (scriptA sc)), (113, .c (.int .i64 sc.length)), (114, .c (.int .i64 (j : Int)))], plH y.D y.L ++ [.o .box (op7A o), ownR 5 o.b]⟩ := ⟨_, rfl⟩
          have eU : ∀ y : PlS, U y = ⟨slotsOf 313 [(5, .c (.int .i64 n)), (6, .ptr 0 0 5), (8, .ptr 5 0 4), (9, .c (.int .i64 f)), (10, .ptr 3 0 9), (12, .ptr 8 0 9), (19, .sl 11 1 0 o.b.length o.b.length), (20, .c (.int .i64 y.e)), (21, .c (.int .i64 y.e)), (112, .fs 4 sc.length (scriptA sc)), (113, .c (.int .i64 sc.length)), (114, .c (.int .i64 (j : Int)))], plH y.D y.L ++ [.o .box (op7A o), ownR 5 o.b]⟩ := fun y => by rw [hU]
          clear hU
          simp (maxSteps := 1000000) [hho, noHo, hlg, -List.reduceReplicate]
          refine ⟨hoz, ?_⟩
          refine seq_cut mixed [] U (fun y => PlD n (102 * (j + 1) + 2) y.D ∧ PlL f (j + 1) y.L) ?_ ?_
          · rintro ⟨D2, L2, e2⟩ ⟨hD2, hL2⟩
            simp only at hD2 hL2
            have hkn2 := hD2.kn; have hcc2 := hD2.cc; have hwl2 := hD2.wl
            have hfr2 := hL2.fr; have hat20 := hL2.at0; have hat21 := hL2.at1; have hbl2 := hL2.bl; have hbb2 := hL2.bb; have hhb2 := hL2.hb
            obtain ⟨V, hV⟩ : ∃ V : Nat × List UInt8 → AS, V = fun x => ⟨slotsOf 313 [(5, .c (.int .i64 n)), (6, .ptr 0 0 5), (8, .ptr 5 0 4), (9, .c (.int .i64 f)), (10, .ptr 3 0 9), (12, .ptr 8 0 9), (19, .sl 11 1 0 o.b.length o.b.length), (20, .c (.int .i64 e2)), (21, .c (.int .i64 e2)), (112, .fs 4 sc.length (scriptA sc)), (113, .c (.int .i64 sc.length)), (114, .c (.int .i64 (j : Int))), (218, .c (.int .i64 o.b.length)), (219, .c (.int .i64 (x.1 : Int)))], plH D2 L2 ++ [.o .box (op7A o), ownR 5 x.2]⟩ := ⟨_, rfl⟩
            have eV : ∀ x : Nat × List UInt8, V x = ⟨slotsOf 313 [(5, .c (.int .i64 n)), (6, .ptr 0 0 5), (8, .ptr 5 0 4), (9, .c (.int .i64 f)), (10, .ptr 3 0 9), (12, .ptr 8 0 9), (19, .sl 11 1 0 o.b.length o.b.length), (20, .c (.int .i64 e2)), (21, .c (.int .i64 e2)), (112, .fs 4 sc.length (scriptA sc)), (113, .c (.int .i64 sc.length)), (114, .c (.int .i64 (j : Int))), (218, .c (.int .i64 o.b.length)), (219, .c (.int .i64 (x.1 : Int)))], plH D2 L2 ++ [.o .box (op7A o), ownR 5 x.2]⟩ := fun x => by rw [hV]
            clear hV
            rw [eU]
            simp (maxSteps := 1000000) [hho, noHo, plH, plR, dlO, devO, logB, batR, rlogB, rstR, ownR, op7A, slotsOf, -List.reduceReplicate]
            refine loop_kc [40, 48] mixed V (fun x => o.b.length - x.1) (fun x => x.1 ≤ o.b.length ∧ x.2.length = o.b.length) (0, o.b) ⟨Nat.zero_le _, rfl⟩ ?_ ?_
            · rw [eV]
              exact wk_all (by simp [hE, lens]) (by simp [plH, plR, dlO, devO, logB, batR, rlogB, rstR, ownR, op7A]) (by simp [livH, livO, AV.livL, AV.liv, wkL, wkV, List.range', slotsOf])
            · rintro ⟨k, l⟩ ⟨hk, hl⟩
              simp only at hk hl
              by_cases hkn : k < o.b.length
              · have hkl : k < l.length := by omega
                have hk1 : k + 1 ≤ o.b.length := hkn
                have ew : IntKind.i64.wrap ((k : Int) + 1) = (k + 1 : Nat) := by rw [IntWalk.i64_in _ (by unfold maxLen at hob; omega)]; rfl
                rw [eV]
                simp (maxSteps := 1000000) [hho, noHo, plH, plR, dlO, devO, logB, batR, rlogB, rstR, ownR, op7A, slotsOf, hkn, hkl, hk1, hl, ew, u8av_drop0 l k hkl, -List.reduceReplicate]
                simp only [u8_of_wrap, u8av_put l k _ hkl]
                refine round_next (k + 1, l.set k (xorB l[k])) ⟨by simp only; omega, by simpa using hl⟩ (by simp only; omega) ?_
                rw [eV]
                exact wk_all (by simp [hE, lens]) (by simp [plH, plR, dlO, devO, logB, batR, rlogB, rstR, ownR, op7A, xorB]) (by simp [livH, livO, AV.livL, AV.liv, wkL, wkV, List.range', slotsOf])
              · obtain rfl : k = o.b.length := by omega
                have ewr : IntKind.i64.wrap (L2.frames - L2.at_) = L2.frames - L2.at_ := IntWalk.i64_in _ (by omega)
                rw [eV]
                simp (maxSteps := 1000000) [hho, noHo, plH, plR, dlO, devO, logB, batR, rlogB, rstR, ownR, op7A, slotsOf, hl, -List.reduceReplicate]
                obtain ⟨U3, hU3⟩ : ∃ U3 : Unit → AS, U3 = fun _ => ⟨slotsOf 313 [(5, .c (.int .i64 n)), (6, .ptr 0 0 5), (8, .ptr 5 0 4), (9, .c (.int .i64 f)), (10, .ptr 3 0 9), (12, .ptr 8 0 9), (20, .c (.int .i64 e2)), (21, .c (.int .i64 e2)), (27, .c (.int .i64 (roomL L2))), (112, .fs 4 sc.length (scriptA sc)), (113, .c (.int .i64 sc.length)), (114, .c (.int .i64 (j : Int)))], plH D2 L2⟩ := ⟨_, rfl⟩
                have eU3 : ∀ y : Unit, U3 y = ⟨slotsOf 313 [(5, .c (.int .i64 n)), (6, .ptr 0 0 5), (8, .ptr 5 0 4), (9, .c (.int .i64 f)), (10, .ptr 3 0 9), (12, .ptr 8 0 9), (20, .c (.int .i64 e2)), (21, .c (.int .i64 e2)), (27, .c (.int .i64 (roomL L2))), (112, .fs 4 sc.length (scriptA sc)), (113, .c (.int .i64 sc.length)), (114, .c (.int .i64 (j : Int)))], plH D2 L2⟩ := fun y => by rw [hU3]
                clear hU3
                refine draw_k hho (.take 0 (.take 1 (.take 2 (.take 3 (.take 4 (.take 5 (.take 6 (.take 7 (.take 8 (.take 9 (.done))))))))))) [8] [] (by decide +kernel) (by simp) ?_
                simp (maxSteps := 1000000) [hho, noHo, ewr, roOf, holdOf, wrOf, altK, heldOk, Region.binds, -List.reduceReplicate]
                refine seq_cut mixed [] U3 (fun _ => True) ?_ ?_
                · rintro _ _
                  obtain ⟨V4, hV4⟩ : ∃ V4 : Nat → AS, V4 = fun x => ⟨slotsOf 313 [(5, .c (.int .i64 n)), (6, .ptr 0 0 5), (8, .ptr 5 0 4), (9, .c (.int .i64 f)), (10, .ptr 3 0 9), (12, .ptr 8 0 9), (112, .fs 4 sc.length (scriptA sc)), (113, .c (.int .i64 sc.length)), (114, .c (.int .i64 (j : Int))), (291, .c (.int .i64 n)), (292, .c (.int .i64 (x : Int)))], plH D2 L2⟩ := ⟨_, rfl⟩
                  have eV4 : ∀ x : Nat, V4 x = ⟨slotsOf 313 [(5, .c (.int .i64 n)), (6, .ptr 0 0 5), (8, .ptr 5 0 4), (9, .c (.int .i64 f)), (10, .ptr 3 0 9), (12, .ptr 8 0 9), (112, .fs 4 sc.length (scriptA sc)), (113, .c (.int .i64 sc.length)), (114, .c (.int .i64 (j : Int))), (291, .c (.int .i64 n)), (292, .c (.int .i64 (x : Int)))], plH D2 L2⟩ := fun x => by rw [hV4]
                  clear hV4
                  rw [eU3]
                  have hba := batches_log D2 L2 (fun b hb => by have := hbb2 b hb; omega) (by omega)
                  have hro := room_log D2 L2 (by omega) (by omega)
                  have hhe := head_log D2 L2 (by omega)
                  have hsm := same_log L2.bs L2.bs (by omega) (by omega)
                  have hl2 : L2.bs.length ≤ maxLen := by unfold maxLen; omega
                  simp (maxSteps := 1000000) [hho, noHo, plH, plR, dlO, devO, logB, batR, rlogB, rstR, slotsOf, -List.reduceReplicate]
                  refine draw_k hho (.take 0 (.take 1 (.take 2 (.take 3 (.take 4 (.take 6 (.take 7 (.take 8 (.take 9 (.alt 5 (.alt 10 (.take 11 (.take 12 (.take 13 (.take 14 (.take 17 (.take 18 (.take 19 (.take 20 (.take 21 (.alt 15 (.alt 16 (.take 22 (.take 23 (.take 24 (.take 25 (.take 27 (.take 28 (.take 29 (.take 30 (.take 31 (.alt 26 (.take 32 (.take 33 (.take 34 (.take 35 (.take 37 (.alt 36 (.take 38 (.take 39 (.take 40 (.take 41 (.take 43 (.take 44 (.take 45 (.take 46 (.alt 42 (.take 47 (.take 48 (.done))) (.nil)))))))))) (.nil))))))) (.nil))))))))))) (.nil)) (.nil))))))))))) (.nil)) (.nil))))))))))) [5, 8] [] (by decide +kernel) (by simp) ?_
                  simp (maxSteps := 1000000) [hho, noHo, roOf, holdOf, wrOf, altK, heldOk, Region.binds, -List.reduceReplicate]
                  intro E1
                  refine call_h [3, 0, 1, 2, 4] hba rfl rfl ⟨rfl, rfl⟩ (by simp) (by simp) (by decide) (by simp) (by simp [logO, devAt]) ?_
                  simp (maxSteps := 1000000) [hho, noHo, logO, devAt, logB, batR, roOf, holdOf, wrOf, altK, heldOk, Region.binds, -List.reduceReplicate]
                  intro E2
                  refine call_data hsm rfl (cv_2 (.d _ _ (.d _ rfl)) (deep_strs 9 L2.bs rfl hl2)) (fun r h' q => ?_)
                  obtain ⟨q1, q2⟩ := q
                  subst q1
                  refine ⟨rfl, ?_⟩
                  simp (maxSteps := 1000000) [hho, noHo, roOf, holdOf, wrOf, altK, heldOk, Region.binds, -List.reduceReplicate]
                  intro E3
                  refine call_h [3, 0, 1, 2, 4] hhe rfl rfl ⟨rfl, rfl⟩ (by simp) (by simp) (by decide) (by simp) (by simp [logO, devAt]) ?_
                  simp (maxSteps := 1000000) [hho, noHo, logO, devAt, logB, batR, bytesOf_str, roOf, holdOf, wrOf, altK, heldOk, Region.binds, -List.reduceReplicate]
                  refine fun E4 => ⟨isU8_all _, fun E5 => ?_⟩
                  refine call_h [3, 0, 1, 2, 4] (epoch_log D2 L2) rfl rfl ⟨rfl, rfl⟩ (by simp) (by simp) (by decide) (by simp) (by simp [logO, devAt]) ?_
                  simp (maxSteps := 1000000) [hho, noHo, logO, devAt, logB, batR, roOf, holdOf, wrOf, altK, heldOk, Region.binds, -List.reduceReplicate]
                  intro E6
                  refine call_h [3, 0, 1, 2, 4] hro rfl rfl ⟨rfl, rfl⟩ (by simp) (by simp) (by decide) (by simp) (by simp [logO, devAt]) ?_
                  simp (maxSteps := 1000000) [hho, noHo, logO, devAt, logB, batR, roOf, holdOf, wrOf, altK, heldOk, Region.binds, -List.reduceReplicate]
                  intro E7
                  refine call_h [0, 1, 2] (calls_dev D2) rfl rfl ⟨rfl, rfl⟩ (by simp) (by simp) (by decide) (by simp) (by simp [devO]) ?_
                  simp (maxSteps := 1000000) [hho, noHo, devO, roOf, holdOf, wrOf, altK, heldOk, Region.binds, -List.reduceReplicate]
                  refine loop_k mixed V4 (fun q => n - q) (fun q => q ≤ n) 0 (Nat.zero_le _) ?_ ?_
                  · rw [eV4]
                    exact wk_of 10 1 (by simp) (by simp [hE, lens]) (by simp [plH, plR, dlO, devO, logB, batR, rlogB, rstR]) (by simp [livH, livO, AV.livL, AV.liv, wkL, wkV, List.range', plH, plR, dlO, devO, logB, batR, rlogB, rstR, batchA_liv, strA_liv, refK_liv, refW_liv, intAV_liv]) (by simp [livH, livO, AV.livL, AV.liv, wkL, wkV, List.range', slotsOf])
                  · intro q hqn
                    have ewq : IntKind.i64.wrap ((q : Int) + 1) = (q + 1 : Nat) := by rw [IntWalk.i64_in _ (by omega)]; rfl
                    by_cases hq : q < n
                    · by_cases hc : checkS D2 q 0 = 0
                      · rw [eV4]
                        simp (maxSteps := 1000000) [hho, noHo, plH, plR, dlO, devO, logB, batR, rlogB, rstR, slotsOf, hq, -List.reduceReplicate]
                        refine call_x [0, 1, 2] (read_ok D2 hD2.ok q hc) rfl rfl ⟨rfl, rfl⟩ hho (by simp) (by decide) (by simp) (by simp [devO]) ?_
                        simp (maxSteps := 1000000) [hho, noHo, devO, -List.reduceReplicate]
                        refine call_x [5, 6, 7] (read7 D2 hD2.ok q hc) rfl rfl ⟨rfl, rfl⟩ hho (by simp) (by decide) (by simp) (by simp [refO]) ?_
                        have hcur : str (secL D2 q) = str (curS D2 q).1 := rfl
                        simp (maxSteps := 1000000) [hho, noHo, refO, hcur, bytesOf_str, ewq, -List.reduceReplicate]
                        refine ⟨isU8_all _, round_next (q + 1) (by omega) (by omega) ?_⟩
                        rw [eV4]
                        exact wk_of 10 1 (by simp) (by simp [hE, lens]) (by simp [plH, plR, dlO, devO, logB, batR, rlogB, rstR]) (by simp [livH, livO, AV.livL, AV.liv, wkL, wkV, List.range', plH, plR, dlO, devO, logB, batR, rlogB, rstR, batchA_liv, strA_liv, refK_liv, refW_liv, intAV_liv]) (by simp [livH, livO, AV.livL, AV.liv, wkL, wkV, List.range', slotsOf])
                      · rw [eV4]
                        simp (maxSteps := 1000000) [hho, noHo, plH, plR, dlO, devO, logB, batR, rlogB, rstR, slotsOf, hq, -List.reduceReplicate]
                        refine call_x [0, 1, 2] (read_err D2 q hc) rfl rfl ⟨rfl, rfl⟩ hho (by simp) (by decide) (by simp) (by simp [devO]) ?_
                        simp (maxSteps := 1000000) [hho, noHo, devO, -List.reduceReplicate]
                        refine call_x [5, 6, 7] (r6read_ref D2 hD2.ok q) rfl rfl ⟨rfl, rfl⟩ hho (by simp) (by decide) (by simp) (by simp [refO]) ?_
                        have hz0 : bytesOf [] = ByteArray.empty := rfl
                        simp (maxSteps := 1000000) [hho, noHo, refO, hc, hz0, ewq, -List.reduceReplicate]
                        refine round_next (q + 1) (by omega) (by omega) ?_
                        rw [eV4]
                        exact wk_all (by simp [hE, lens]) (by simp [plH, plR, dlO, devO, logB, batR, rlogB, rstR]) (by simp [livH, livO, AV.livL, AV.liv, wkL, wkV, List.range', slotsOf])
                    · obtain rfl : q = n := by omega
                      have ewj : IntKind.i64.wrap ((j : Int) + 1) = (j + 1 : Nat) := by rw [IntWalk.i64_in _ (by omega)]; rfl
                      rw [eV4]
                      simp (maxSteps := 1000000) [hho, noHo, plH, plR, dlO, devO, logB, batR, rlogB, rstR, slotsOf, ewj, -List.reduceReplicate]
                      refine round_next (j + 1, ⟨D2, L2, 0⟩) ⟨by simp only; omega, by simp only; omega, hD2, hL2⟩ (by simp only; omega) ?_
                      rw [eS]
                      exact wk_all (by simp [hE, lens]) (by simp [plH, plR, dlO, devO, logB, batR, rlogB, rstR]) (by simp [livH, livO, AV.livL, AV.liv, wkL, wkV, List.range', slotsOf])
                · by_cases hdn : L2.down = true
                  · have hrm : roomL L2 = 0 := by unfold roomL; rw [if_pos hdn]
                    simp (maxSteps := 1000000) [hho, noHo, hdn, -List.reduceReplicate]
                    refine cut_to () trivial ?_
                    rw [eU3, hrm]
                    exact wk_of 10 2 (by simp) (by simp [hE, lens]) (by simp [plH, plR, dlO, devO, logB, batR, rlogB, rstR, hdn]) (by simp [livH, livO, AV.livL, AV.liv, wkL, wkV, List.range', plH, plR, dlO, devO, logB, batR, rlogB, rstR, batchA_liv, strA_liv, refK_liv, refW_liv, intAV_liv]) (by simp [livH, livO, AV.livL, AV.liv, wkL, wkV, List.range', slotsOf])
                  · have hrm : roomL L2 = L2.frames - L2.at_ := by unfold roomL; rw [if_neg hdn]
                    have hdf : L2.down = false := by simpa using hdn
                    simp (maxSteps := 1000000) [hho, noHo, hdn, hdf, -List.reduceReplicate]
                    refine cut_to () trivial ?_
                    rw [eU3, hrm]
                    exact wk_of 10 2 (by simp) (by simp [hE, lens]) (by simp [plH, plR, dlO, devO, logB, batR, rlogB, rstR, hdf]) (by simp [livH, livO, AV.livL, AV.liv, wkL, wkV, List.range', plH, plR, dlO, devO, logB, batR, rlogB, rstR, batchA_liv, strA_liv, refK_liv, refW_liv, intAV_liv]) (by simp [livH, livO, AV.livL, AV.liv, wkL, wkV, List.range', slotsOf])
          · obtain ⟨q, hq⟩ : ∃ q, q = (IntKind.u64.wrap o.kind).tmod 6 := ⟨_, rfl⟩
            have hq' := hq.symm
            by_cases q0 : q = 0
            · simp (maxSteps := 1000000) [hho, noHo, hq', q0, -List.reduceReplicate]
              have hap := append_sl D hD.ok (by omega) (by omega) L o.b hob (by omega) (by omega) (by omega) 5
              have hr7 := append7 D hD.ok (by omega) (by omega) L o.b hob (by omega) (by omega) (by omega) (by omega)
              have hDa := hD.app (by omega) L (by omega) o.b
              have hLa := hL.app D o.b
              obtain ⟨V, hV⟩ : ∃ V, V = appS D L o.b := ⟨_, rfl⟩
              rw [← hV] at hap hr7 hDa hLa
              refine draw_z [2, 4, 7, 9] hho (by simp [hst]) (.take 0 (.take 1 (.take 3 (.take 4 (.take 5 (.take 6 (.alt 2 (.alt 7 (.take 8 (.take 9 (.done))) (.nil)) (.nil)))))))) [10] [] (by decide +kernel) (by simp) (by decide) ?_
              simp (maxSteps := 1000000) [hho, noHo, bytesOf_str, roOf, holdOf, wrOf, altK, heldOk, Region.binds, -List.reduceReplicate]
              refine ⟨isU8_all _, fun E1 => ?_⟩
              refine call_dh [3, 0, 1, 2, 4, 11] [2, 4] hap rfl rfl ⟨rfl, rfl⟩ (by simp) (st_ap 3 0 1 2 4 11) (by simp [livH, livO, AV.livL, AV.liv, wkL, wkV, List.range']) (by simp [livH, livO, AV.livL, AV.liv, wkL, wkV, List.range', batchA_liv, strA_liv, refK_liv, refW_liv, intAV_liv]) (by simp) (by decide) (by simp) (by simp [logO, devAt]) ?_
              simp (maxSteps := 1000000) [hho, noHo, logO, logB, batR, devAt, ownR, roOf, holdOf, wrOf, altK, heldOk, Region.binds, -List.reduceReplicate]
              intro E2
              refine call_dh [8, 5, 6, 7, 9] [7, 9] hr7 rfl rfl ⟨rfl, rfl⟩ (by simp) (st_log3 8 5 6 7 9) (by simp [livH, livO, AV.livL, AV.liv, wkL, wkV, List.range']) (by simp [livH, livO, AV.livL, AV.liv, wkL, wkV, List.range', batchA_liv, strA_liv, refK_liv, refW_liv, intAV_liv]) (by simp) (by decide) (by simp) (by simp [rlogO, refAt]) ?_
              simp (maxSteps := 1000000) [hho, noHo, rlogO, rlogB, rstR, refAt, roOf, holdOf, wrOf, altK, heldOk, Region.binds, -List.reduceReplicate]
              refine cut_to ⟨V.2.1, V.2.2, V.1⟩ ⟨hDa.up (by omega), hLa.up (by omega)⟩ ?_
              rw [eU]
              exact wk_all (by simp [hE, lens]) (by simp [plH, plR, dlO, devO, logB, batR, rlogB, rstR, ownR, op7A]) (by simp [livH, livO, AV.livL, AV.liv, wkL, wkV, List.range', slotsOf])
            by_cases q1 : q = 1
            · simp (maxSteps := 1000000) [hho, noHo, hq', q0, q1, -List.reduceReplicate]
              have hap := reset_sl D hD.ok (by omega) (by omega) L o.b hob (by omega) (by omega) 5
              have hr7 := reset7 D hD.ok (by omega) (by omega) L o.b (by omega) (by omega)
              have hDa := hD.res (by omega) L o.b
              have hLa := hL.res D o.b
              obtain ⟨V, hV⟩ : ∃ V, V = resS D L o.b := ⟨_, rfl⟩
              rw [← hV] at hap hr7 hDa hLa
              refine draw_z [2, 4, 7, 9] hho (by simp [hst]) (.take 0 (.take 1 (.take 3 (.take 4 (.take 5 (.take 6 (.alt 2 (.alt 7 (.take 8 (.take 9 (.done))) (.nil)) (.nil)))))))) [10] [] (by decide +kernel) (by simp) (by decide) ?_
              simp (maxSteps := 1000000) [hho, noHo, bytesOf_str, roOf, holdOf, wrOf, altK, heldOk, Region.binds, -List.reduceReplicate]
              refine ⟨isU8_all _, fun E1 => ?_⟩
              refine call_dh [3, 0, 1, 2, 4, 11] [2, 4] hap rfl rfl ⟨rfl, rfl⟩ (by simp) (st_ap 3 0 1 2 4 11) (by simp [livH, livO, AV.livL, AV.liv, wkL, wkV, List.range']) (by simp [livH, livO, AV.livL, AV.liv, wkL, wkV, List.range', batchA_liv, strA_liv, refK_liv, refW_liv, intAV_liv]) (by simp) (by decide) (by simp) (by simp [logO, devAt]) ?_
              simp (maxSteps := 1000000) [hho, noHo, logO, logB, batR, devAt, ownR, roOf, holdOf, wrOf, altK, heldOk, Region.binds, -List.reduceReplicate]
              intro E2
              refine call_dh [8, 5, 6, 7, 9] [7, 9] hr7 rfl rfl ⟨rfl, rfl⟩ (by simp) (st_log3 8 5 6 7 9) (by simp [livH, livO, AV.livL, AV.liv, wkL, wkV, List.range']) (by simp [livH, livO, AV.livL, AV.liv, wkL, wkV, List.range', batchA_liv, strA_liv, refK_liv, refW_liv, intAV_liv]) (by simp) (by decide) (by simp) (by simp [rlogO, refAt]) ?_
              simp (maxSteps := 1000000) [hho, noHo, rlogO, rlogB, rstR, refAt, roOf, holdOf, wrOf, altK, heldOk, Region.binds, -List.reduceReplicate]
              refine cut_to ⟨V.2.1, V.2.2, V.1⟩ ⟨hDa.up (by omega), hLa⟩ ?_
              rw [eU]
              exact wk_all (by simp [hE, lens]) (by simp [plH, plR, dlO, devO, logB, batR, rlogB, rstR, ownR, op7A]) (by simp [livH, livO, AV.livL, AV.liv, wkL, wkV, List.range', slotsOf])
            by_cases q2 : q = 2
            · simp (maxSteps := 1000000) [hho, noHo, hq', q0, q1, q2, -List.reduceReplicate]
              refine call_x [0, 1, 2] (limit_dev D o.i) rfl rfl ⟨rfl, rfl⟩ hho (by simp) (by decide) (by simp) (by simp [devO]) ?_
              simp (maxSteps := 1000000) [hho, noHo, devO, -List.reduceReplicate]
              refine call_x [5, 6, 7] (r6bound_ref D o.i) rfl rfl ⟨rfl, rfl⟩ hho (by simp) (by decide) (by simp) (by simp [refO]) ?_
              simp (maxSteps := 1000000) [hho, noHo, refO, -List.reduceReplicate]
              refine cut_to ⟨{ D with bound := true, left := max o.i 0 }, L, 0⟩ ⟨(hD.limit o.i hoo.i).up (by omega), hL.up (by omega)⟩ ?_
              rw [eU]
              exact wk_all (by simp [hE, lens]) (by simp [plH, plR, dlO, devO, logB, batR, rlogB, rstR, ownR, op7A]) (by simp [livH, livO, AV.livL, AV.liv, wkL, wkV, List.range', slotsOf])
            by_cases q5 : q = 5
            · simp (maxSteps := 1000000) [hho, noHo, hq', q0, q1, q2, q5, -List.reduceReplicate]
              refine draw_z [7] hho (by simp [hst]) (.take 0 (.take 1 (.take 2 (.take 3 (.take 5 (.take 6 (.take 7 (.take 8 (.take 9 (.take 10 (.alt 4 (.alt 11 (.take 12 (.take 13 (.done))) (.nil)) (.nil)))))))))))) [10] [] (by decide +kernel) (by simp) (by decide) ?_
              simp (maxSteps := 1000000) [hho, noHo, bytesOf_str, roOf, holdOf, wrOf, altK, heldOk, Region.binds, -List.reduceReplicate]
              refine ⟨isU8_all _, fun E1 => ?_⟩
              refine call_h [0, 1, 2, 11] (write_sl D hD.ok o.i o.b 5) rfl rfl ⟨rfl, rfl⟩ (by simp) (by intro i h; simp at h ⊢; omega) (by decide) (by simp) (by simp [devO]) ?_
              simp (maxSteps := 1000000) [hho, noHo, devO, roOf, holdOf, wrOf, altK, heldOk, Region.binds, -List.reduceReplicate]
              intro E2
              have hDw := hD.write (by omega) o.i o.b
              by_cases hc : checkS D o.i o.b.length = 0
              · refine call_dh [5, 6, 7] [7] (wr7r D hD.ok o.i o.b hc) rfl rfl ⟨rfl, rfl⟩ (by simp) (st_dev2 5 6 7) (by simp [livH, livO, AV.livL, AV.liv, wkL, wkV, List.range']) (by simp [livH, livO, AV.livL, AV.liv, wkL, wkV, List.range', batchA_liv, strA_liv, refK_liv, refW_liv, intAV_liv]) (by simp) (by decide) (by simp) (by simp [refO]) ?_
                simp (maxSteps := 1000000) [hho, noHo, refO, hc, roOf, holdOf, wrOf, altK, heldOk, Region.binds, -List.reduceReplicate]
                refine cut_to ⟨writeS D o.i o.b, L, 0⟩ ⟨hDw.up (by omega), hL.up (by omega)⟩ ?_
                rw [eU]
                exact wk_all (by simp [hE, lens]) (by simp [plH, plR, dlO, devO, logB, batR, rlogB, rstR, ownR, op7A]) (by simp [livH, livO, AV.livL, AV.liv, wkL, wkV, List.range', slotsOf])
              · have ew : writeS D o.i o.b = D := by unfold writeS; rw [if_neg hc]
                refine call_h [5, 6, 7] (wr7e D hD.ok o.i o.b hc) rfl rfl ⟨rfl, rfl⟩ (by simp) (by simp) (by decide) (by simp) (by simp [refO]) ?_
                rw [ew]
                simp (maxSteps := 1000000) [hho, noHo, refO, hc, roOf, holdOf, wrOf, altK, heldOk, Region.binds, -List.reduceReplicate]
                refine cut_to ⟨D, L, checkS D o.i o.b.length⟩ ⟨hD.up (by omega), hL.up (by omega)⟩ ?_
                rw [eU]
                exact wk_all (by simp [hE, lens]) (by simp [plH, plR, dlO, devO, logB, batR, rlogB, rstR, ownR, op7A]) (by simp [livH, livO, AV.livL, AV.liv, wkL, wkV, List.range', slotsOf])
            by_cases q3 : q = 3
            · simp (maxSteps := 1000000) [hho, noHo, hq', q0, q1, q2, q3, q5, -List.reduceReplicate]
              have hDc := hD.crash o.tears
              refine call_d [0, 1, 2] (fun _ => false) [2] (crash_dev D hD.ok o.tears) rfl rfl ⟨rfl, rfl⟩ hho (st_dev2 0 1 2) (by simp [livH, livO, AV.livL, AV.liv, wkL, wkV, List.range', intAV_liv]) (by simp [livH, livO, AV.livL, AV.liv, wkL, wkV, List.range', batchA_liv, strA_liv, refK_liv, refW_liv, intAV_liv]) (by simp [hst]) (by decide) (by decide) (by simp) (by simp [devO]) ?_
              simp (maxSteps := 1000000) [hho, noHo, devO, -List.reduceReplicate]
              refine call_d [5, 6, 7] (fun _ => false) [7] (r6crash_ref D hD.ok o.tears) rfl rfl ⟨rfl, rfl⟩ hho (st_dev2 5 6 7) (by simp [livH, livO, AV.livL, AV.liv, wkL, wkV, List.range', intAV_liv]) (by simp [livH, livO, AV.livL, AV.liv, wkL, wkV, List.range', batchA_liv, strA_liv, refK_liv, refW_liv, intAV_liv]) (by simp [hst]) (by decide) (by decide) (by simp) (by simp [refO]) ?_
              obtain ⟨D3, hD3⟩ : ∃ D3, D3 = crashS o.tears D := ⟨_, rfl⟩
              rw [← hD3] at hDc ⊢
              simp (maxSteps := 1000000) [hho, noHo, refO, -List.reduceReplicate]
              have hkn3 := hDc.kn; have hcc3 := hDc.cc; have hwl3 := hDc.wl
              have hO := hDc.opn (by omega) f
              have hLO := PlL.opn D3 f (j + 1) (by omega)
              obtain ⟨V, hV⟩ : ∃ V, V = openS D3 f := ⟨_, rfl⟩
              rw [← hV] at hO hLO
              by_cases hv0 : V.1 = 0
              · have hLO := hLO hv0
                refine call_d [0, 1, 2] (fun _ => false) [2] (open_is D3 hDc.ok (by omega) (by omega) f hf1 (by omega) V hV.symm hv0) rfl rfl ⟨rfl, rfl⟩ hho (st_dev2 0 1 2) (by simp [livH, livO, AV.livL, AV.liv, wkL, wkV, List.range']) (by simp [livH, livO, AV.livL, AV.liv, wkL, wkV, List.range', batchA_liv, strA_liv, refK_liv, refW_liv, intAV_liv]) (by simp [hst]) (by decide) (by decide) (by simp) (by simp [dlO, devO]) ?_
                simp (maxSteps := 1000000) [hho, noHo, dlO, devO, logB, batR, -List.reduceReplicate]
                refine call_d [5, 6, 7] (fun _ => false) [7] (open7T D3 hDc.ok (by omega) (by omega) f hf1 (by omega) V hV.symm hv0) rfl rfl ⟨rfl, rfl⟩ hho (st_dev2 5 6 7) (by simp [livH, livO, AV.livL, AV.liv, wkL, wkV, List.range']) (by simp [livH, livO, AV.livL, AV.liv, wkL, wkV, List.range', batchA_liv, strA_liv, refK_liv, refW_liv, intAV_liv]) (by simp [hst]) (by decide) (by decide) (by simp) (by simp [dlR, refO]) ?_
                simp (maxSteps := 1000000) [hho, noHo, dlR, refO, rlogB, rstR, -List.reduceReplicate]
                refine cut_to ⟨V.2.1, V.2.2, 0⟩ ⟨hO.up (by omega), hLO⟩ ?_
                rw [eU]
                refine wk_sel [0, 1, 2, 12, 13, 5, 6, 7, 14, 15, 10, 11] (slotsOf 313 [(5, .c (.int .i64 n)), (6, .ptr 0 0 5), (8, .ptr 5 0 4), (9, .c (.int .i64 f)), (10, .ptr 12 0 9), (12, .ptr 14 0 9), (19, .sl 11 1 0 o.b.length o.b.length), (20, .c (.int .i64 0)), (21, .c (.int .i64 0)), (112, .fs 4 sc.length (scriptA sc)), (113, .c (.int .i64 sc.length)), (114, .c (.int .i64 (j : Int)))]) hho (by simp [livH, livO, AV.livL, AV.liv, wkL, wkV, List.range', slotsOf]) rfl rfl ?_ ?_ (by decide) (by simp [hst]) (by simp [hE, lens]) ?_ ?_
                · simp
                · simp [slotsOf]
                · simp [slotsOf]
                · simp [plH, plR, dlO, devO, logB, batR, rlogB, rstR, ownR, op7A]
              · refine call_d [0, 1, 2] (fun _ => false) [2] (openF D3 hDc.ok (by omega) (by omega) f hf1 (by omega) V hV.symm hv0) rfl rfl ⟨rfl, rfl⟩ hho (st_dev2 0 1 2) (by simp [livH, livO, AV.livL, AV.liv, wkL, wkV, List.range']) (by simp [livH, livO, AV.livL, AV.liv, wkL, wkV, List.range', batchA_liv, strA_liv, refK_liv, refW_liv, intAV_liv]) (by simp [hst]) (by decide) (by decide) (by simp) (by simp [devO]) ?_
                simp (maxSteps := 1000000) [hho, noHo, devO, -List.reduceReplicate]
                refine call_d [5, 6, 7] (fun _ => false) [7] (open7F D3 hDc.ok (by omega) (by omega) f hf1 (by omega) V hV.symm hv0) rfl rfl ⟨rfl, rfl⟩ hho (st_dev2 5 6 7) (by simp [livH, livO, AV.livL, AV.liv, wkL, wkV, List.range']) (by simp [livH, livO, AV.livL, AV.liv, wkL, wkV, List.range', batchA_liv, strA_liv, refK_liv, refW_liv, intAV_liv]) (by simp [hst]) (by decide) (by decide) (by simp) (by simp [refO]) ?_
                simp (maxSteps := 1000000) [hho, noHo, refO, hv0, -List.reduceReplicate]
                refine cut_to ⟨V.2.1, L, 0⟩ ⟨hO.up (by omega), hL.up (by omega)⟩ ?_
                rw [eU]
                exact wk_all (by simp [hE, lens]) (by simp [plH, plR, dlO, devO, logB, batR, rlogB, rstR, ownR, op7A]) (by simp [livH, livO, AV.livL, AV.liv, wkL, wkV, List.range', slotsOf])
            · simp (maxSteps := 1000000) [hho, noHo, hq', q0, q1, q2, q3, q5, -List.reduceReplicate]
              have hkn3 := hD.kn; have hcc3 := hD.cc; have hwl3 := hD.wl
              have hO := hD.opn (by omega) f
              have hLO := PlL.opn D f (j + 1) (by omega)
              obtain ⟨V, hV⟩ : ∃ V, V = openS D f := ⟨_, rfl⟩
              rw [← hV] at hO hLO
              by_cases hv0 : V.1 = 0
              · have hLO := hLO hv0
                refine call_d [0, 1, 2] (fun _ => false) [2] (open_is D hD.ok (by omega) (by omega) f hf1 (by omega) V hV.symm hv0) rfl rfl ⟨rfl, rfl⟩ hho (st_dev2 0 1 2) (by simp [livH, livO, AV.livL, AV.liv, wkL, wkV, List.range']) (by simp [livH, livO, AV.livL, AV.liv, wkL, wkV, List.range', batchA_liv, strA_liv, refK_liv, refW_liv, intAV_liv]) (by simp [hst]) (by decide) (by decide) (by simp) (by simp [dlO, devO]) ?_
                simp (maxSteps := 1000000) [hho, noHo, dlO, devO, logB, batR, -List.reduceReplicate]
                refine call_d [5, 6, 7] (fun _ => false) [7] (open7T D hD.ok (by omega) (by omega) f hf1 (by omega) V hV.symm hv0) rfl rfl ⟨rfl, rfl⟩ hho (st_dev2 5 6 7) (by simp [livH, livO, AV.livL, AV.liv, wkL, wkV, List.range']) (by simp [livH, livO, AV.livL, AV.liv, wkL, wkV, List.range', batchA_liv, strA_liv, refK_liv, refW_liv, intAV_liv]) (by simp [hst]) (by decide) (by decide) (by simp) (by simp [dlR, refO]) ?_
                simp (maxSteps := 1000000) [hho, noHo, dlR, refO, rlogB, rstR, -List.reduceReplicate]
                refine cut_to ⟨V.2.1, V.2.2, 0⟩ ⟨hO.up (by omega), hLO⟩ ?_
                rw [eU]
                refine wk_sel [0, 1, 2, 12, 13, 5, 6, 7, 14, 15, 10, 11] (slotsOf 313 [(5, .c (.int .i64 n)), (6, .ptr 0 0 5), (8, .ptr 5 0 4), (9, .c (.int .i64 f)), (10, .ptr 12 0 9), (12, .ptr 14 0 9), (19, .sl 11 1 0 o.b.length o.b.length), (20, .c (.int .i64 0)), (21, .c (.int .i64 0)), (112, .fs 4 sc.length (scriptA sc)), (113, .c (.int .i64 sc.length)), (114, .c (.int .i64 (j : Int)))]) hho (by simp [livH, livO, AV.livL, AV.liv, wkL, wkV, List.range', slotsOf]) rfl rfl ?_ ?_ (by decide) (by simp [hst]) (by simp [hE, lens]) ?_ ?_
                · simp
                · simp [slotsOf]
                · simp [slotsOf]
                · simp [plH, plR, dlO, devO, logB, batR, rlogB, rstR, ownR, op7A]
              · refine call_d [0, 1, 2] (fun _ => false) [2] (openF D hD.ok (by omega) (by omega) f hf1 (by omega) V hV.symm hv0) rfl rfl ⟨rfl, rfl⟩ hho (st_dev2 0 1 2) (by simp [livH, livO, AV.livL, AV.liv, wkL, wkV, List.range']) (by simp [livH, livO, AV.livL, AV.liv, wkL, wkV, List.range', batchA_liv, strA_liv, refK_liv, refW_liv, intAV_liv]) (by simp [hst]) (by decide) (by decide) (by simp) (by simp [devO]) ?_
                simp (maxSteps := 1000000) [hho, noHo, devO, -List.reduceReplicate]
                refine call_d [5, 6, 7] (fun _ => false) [7] (open7F D hD.ok (by omega) (by omega) f hf1 (by omega) V hV.symm hv0) rfl rfl ⟨rfl, rfl⟩ hho (st_dev2 5 6 7) (by simp [livH, livO, AV.livL, AV.liv, wkL, wkV, List.range']) (by simp [livH, livO, AV.livL, AV.liv, wkL, wkV, List.range', batchA_liv, strA_liv, refK_liv, refW_liv, intAV_liv]) (by simp [hst]) (by decide) (by decide) (by simp) (by simp [refO]) ?_
                simp (maxSteps := 1000000) [hho, noHo, refO, hv0, -List.reduceReplicate]
                refine cut_to ⟨V.2.1, L, 0⟩ ⟨hO.up (by omega), hL.up (by omega)⟩ ?_
                rw [eU]
                exact wk_all (by simp [hE, lens]) (by simp [plH, plR, dlO, devO, logB, batR, rlogB, rstR, ownR, op7A]) (by simp [livH, livO, AV.livL, AV.liv, wkL, wkV, List.range', slotsOf])
        · have h40i : (40 : Int) ≤ j := by omega
          have h40n : 40 ≤ j := by omega
          rw [eS]
          simp (maxSteps := 1000000) [hho, noHo, plH, plR, dlO, devO, logB, batR, rlogB, rstR, slotsOf, hlt, hat, op7A, h40n, h40i, undef, onGP_none, condG_false, -List.reduceReplicate]
          exact exit_to ⟨D, L, 0⟩ trivial (by rw [eT]; exact wk_of 10 1 (by simp) (by simp [hE, lens]) (by simp [plH, plR, dlO, devO, logB, batR, rlogB, rstR]) (by simp [livH, livO, AV.livL, AV.liv, wkL, wkV, List.range', plH, plR, dlO, devO, logB, batR, rlogB, rstR, batchA_liv, strA_liv, refK_liv, refW_liv]) (by simp [livH, livO, AV.livL, AV.liv, wkL, wkV, List.range', slotsOf]))
      · rw [eS]
        simp (maxSteps := 1000000) [hho, noHo, slotsOf, hlt, -List.reduceReplicate]
        exact exit_to ⟨D, L, 0⟩ trivial (by rw [eT]; exact wk_all (by simp [hE, lens, plH_len]) rfl (by simp [livH, livO, AV.livL, AV.liv, wkL, wkV, List.range', slotsOf]))
  · refine call_d [1, 2, 3] (fun _ => false) [3] (openF D0 h0.ok (by omega) (by omega) f hf1 hf2 W hW.symm hw0) rfl rfl ⟨rfl, rfl⟩ hho (st_dev2 1 2 3) (by simp [livH, livO, AV.livL, AV.liv, wkL, wkV, List.range']) (by simp [livH, livO, AV.livL, AV.liv, wkL, wkV, List.range', refK_liv, refW_liv]) (by simp [hst]) (by decide) (by decide) (by simp) (by simp [devO]) ?_
    simp (maxSteps := 1000000) [hho, noHo, devO, -List.reduceReplicate]
    refine call_d [4, 5, 6] (fun _ => false) [6] (open7F D0 h0.ok (by omega) (by omega) f hf1 hf2 W hW.symm hw0) rfl rfl ⟨rfl, rfl⟩ hho (st_dev2 4 5 6) (by simp [livH, livO, AV.livL, AV.liv, wkL, wkV, List.range']) (by simp [livH, livO, AV.livL, AV.liv, wkL, wkV, List.range', refK_liv, refW_liv]) (by simp [hst]) (by decide) (by decide) (by simp) (by simp [refO]) ?_
    simp (maxSteps := 1000000) [hho, noHo, refO, hw0, -List.reduceReplicate]
    refine call_0 (open_nil7) rfl rfl hho (by simp) ?_
    simp (maxSteps := 1000000) [hho, noHo, -List.reduceReplicate]
    refine call_0 (append_nil) rfl rfl hho (by simp) ?_
    simp (maxSteps := 1000000) [hho, noHo, -List.reduceReplicate]
    refine call_0 (reset_nil) rfl rfl hho (by simp) ?_
    simp (maxSteps := 1000000) [hho, noHo, -List.reduceReplicate]
    refine call_0 (head_nil) rfl rfl hho (by simp) ?_
    simp (maxSteps := 1000000) [hho, noHo, -List.reduceReplicate]
    refine call_0 (batches_nil) rfl rfl hho (by simp) ?_
    simp (maxSteps := 1000000) [hho, noHo, -List.reduceReplicate]
    refine call_0 (room_nil) rfl rfl hho (by simp) ?_
    simp (maxSteps := 1000000) [hho, noHo, -List.reduceReplicate]
    refine call_0 (epoch_nil) rfl rfl hho (by simp) ?_
    simp (maxSteps := 1000000) [hho, noHo, -List.reduceReplicate]
    exact Ret.drop (by rfl) rfl
end Go.Proofs.Ytmgpiminicgbiaa
