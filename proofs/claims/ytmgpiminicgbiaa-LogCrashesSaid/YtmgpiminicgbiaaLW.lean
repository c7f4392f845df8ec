import Derived.Test.YtmgpiminicgbiaaG8
namespace Go.Proofs.Ytmgpiminicgbiaa
set_option linter.unusedVariables false
set_option linter.unusedSimpArgs false
open Go.RowKit
attribute [local simp] isCut_nil isCut_region isCut_seq isCut_block isCut_loop isCut_cond isCut_skip isCut_exit isCut_ret isCut_range swapK putK altK condK_bool pickP_bool stepP stepO onPure_some onPure_none onImpl_some onImpl_none stepC onGP_some onGP_none onGV_some condG mkG onIt_it nextP_ptr takeP_eq takeV_some takeN_none takeN_some takeG_some takeO_some altO_some pureV binV intBin strBin isSh shV fldV ixV sliceV loadAV nilV lenV callV unV convV viewS cellsH loadV fldCut AV.ung AV.gc AV.cells AS.ev AS.put anyS gcsV lens lnO gV guardV retK RetP_eq resV oneV anyRo loIx hiIx implO callP_clo evL gcsL storeAV AS.push AS.setO appV copyV buildV partsV fillV srcV fzO okV isCell_c isCell_ptr isCell_sl isCell_fs isCell_fp isCell_clo rowZ_one rowZ_zero rowZ_2 rowZ_3 rowZ_4 rowZ_5 rowZ_6 rowZ_7 rowZ_8 rowZ_9 rowZ_10 rowZ_11 rowZ_12 noHo Value.oneCell' max2V min2V afterH putBack frzFrom frzO rebO backIx nilEq_sl nilEq_fs nilOp_eql nilOp_neq AV.reb AV.rebL
attribute [local simp ↓] runK_skip runK_region runK_draw runK_seq runK_cut runK_cond runK_block runK_loop runK_exit runK_label runK_goto runK_ret runK_range contK_nil contK_seq contK_seq_ret contK_seq_exit contK_seq_goto contK_block contK_block_ret contK_block_goto contK_block_exit runO_nil runO_cons roundK_exit roundK_ret roundK_goto exitK_ret cutK_ret cutK_exit runE_done runE_nil runE_take runE_alt condG_true condG_false
set_option maxRecDepth 10000
/-- what is known of the log in LogEpochs -/
structure EpS where
  N : Nat
  B : Nat
  body : List UInt8
  bs : List (List UInt8)
  at_ : Nat
  least : Nat
  D : DevS
def EpS.L (n : Nat) (x : EpS) : LogS := ⟨n, ⟨x.N, x.N, x.B, x.body⟩, x.at_, x.bs, false⟩
structure EpOk (j : Nat) (x : EpS) : Prop where
  u : UpC 58 (secL x.D) x.N x.B x.body x.bs x.at_ x.least
  d : DOk 58 (2 + 60 * j) x.D
  w : x.D.wait = []
  bd : x.D.bound = false
  N : x.N ≤ 1 + j
  bl : x.bs.length ≤ j
  bb : ∀ b ∈ x.bs, b.length ≤ 300
theorem EpOk.up {j k : Nat} {x : EpS} (h : EpOk j x) (hk : j ≤ k) : EpOk k x := ⟨h.u, h.d.up (by omega), h.w, h.bd, by have := h.N; omega, by have := h.bl; omega, h.bb⟩
theorem dlO_eq (D : DevS) (L : LogS) : dlO D L = [.o .box [.sl 1 64 0 D.kept.length (D.kept.length * 64), .sl 2 65 0 D.wait.length (D.wait.length * 65), .c (.bool D.bound), .c (.int .i64 D.left), .c (.int .i64 D.calls)], .o (.row 93 64) (keptA D.kept), .o (.row 95 65) (waitA D.wait), logB L 0 4, batR L.bs] := rfl
set_option maxHeartbeats 8000000 in
theorem epochs_walk (sc : List Op7) (hs : sc.length ≤ maxLen ∧ ∀ o ∈ sc, o.Ok) : ACalls Try.prog 5 [.fs 4 sc.length (scriptA sc)] [] (fun _ => false) (fun r h' => r = .c (.bool true)) := by
  refine acalls mixed Try.func5 rfl Try.ntmps5 rfl fun E hE hst hho => ?_
  simp (maxSteps := 1000000) [hho, -List.reduceReplicate]
  refine call_plain (fun _ => false) first_log (ha := by rfl) (by simp) ?_
  rintro r h' ⟨rfl, rfl⟩
  refine ⟨rfl, ?_⟩
  simp (maxSteps := 1000000) [hho, -List.reduceReplicate]
  refine call_x [] (new_ok (60 : Nat) (by decide) (by decide)) rfl rfl ⟨rfl, rfl⟩ hho (by simp) (by decide) (by simp) (by simp) ?_
  rw [show ((60 : Nat) : Int).toNat = 58 + 2 from rfl]
  obtain ⟨w0, wd, ww, wb, wl, wu⟩ := start_of (by decide) start58
  simp (maxSteps := 1000000) [hho, devO, -List.reduceReplicate]
  obtain ⟨W, hW⟩ : ∃ W, W = openS (newS (58 + 2)) 58 := ⟨_, rfl⟩
  rw [← hW] at w0 wd ww wb wl wu
  refine call_d [0, 1, 2] (fun _ => false) [2] (open_is (newS (58 + 2)) (newS_ok (58 + 2) (by omega) (by omega)) (by simp [newS]) (by simp [newS]) 58 (by decide) (by simp [newS]) W hW.symm w0) rfl rfl ⟨rfl, rfl⟩ hho (st_dev2 0 1 2) (by simp [livH, livO, AV.livL, AV.liv, wkL, wkV, List.range']) (by simp [livH, livO, AV.livL, AV.liv, wkL, wkV, List.range']) (by simp [hst]) (by decide) (by decide) (by simp) (by simp [dlO, devO]) ?_
  simp (maxSteps := 1000000) [hho, dlO_eq, logB, batR, -List.reduceReplicate]
  refine loop_k2c [26] mixed (fun x : Nat × EpS => ⟨slotsOf 101 [(3, .ptr 0 0 5), (5, .ptr 3 0 9), (7, .c (.int .i64 x.2.N)), (8, .fs 1 x.2.bs.length (strA x.2.bs)), (9, .c (.string (str x.2.body))), (25, .fs 4 sc.length (scriptA sc)), (26, .c (.int .i64 sc.length)), (27, .c (.int .i64 (x.1 : Int)))], dlO x.2.D (x.2.L 58)⟩) (fun x => sc.length - x.1) (fun x => x.1 ≤ sc.length ∧ x.1 ≤ 40 ∧ EpOk x.1 x.2) (0, ⟨1, 0, [], [], 0, 0, W.2.1⟩)
    (fun x : EpS => ⟨slotsOf 101 [], dlO x.D (x.L 58)⟩) (fun x => True) 0 ⟨Nat.zero_le _, Nat.zero_le _, ⟨wu, wd, ww, wb, by simp, by simp, by simp⟩⟩ ?_ ?_ ?_
  · refine Wk.trans (wk_slot 8 rfl fun G F w v _ h => nil_fs0 1 h) ?_
    exact wk_all (by simp [hE, lens]) (by simp [dlO_eq, logB, batR, EpS.L, wl]) (by simp [livH, livO, AV.livL, AV.liv, wkL, wkV, List.range', slotsOf, wl, strA, str])
  · rintro x _
    simp (maxSteps := 1000000) [hho, slotsOf, -List.reduceReplicate]
    exact Ret.drop (by decide) rfl
  · rintro ⟨j, x⟩ ⟨hj, hj40, hx⟩
    simp only at hj hj40 hx
    have hup : EpOk 40 x := hx.up hj40
    by_cases hlt : j < sc.length
    · obtain ⟨o, ho⟩ : ∃ o, o = sc[j] := ⟨_, rfl⟩
      have hoo : o.Ok := by rw [ho]; exact hs.2 _ (List.getElem_mem hlt)
      have hat : List.take 4 (List.drop (j * 4) (scriptA sc)) = op7A o := by rw [ho]; exact flat_at op7A 4 (by simp) sc j hlt
      by_cases hbr : j < 40 ∧ o.b.length ≤ 300
      · obtain ⟨h40, hb⟩ := hbr
        have h40i : ¬ (40 : Int) ≤ j := by omega
        have hbi : ¬ (300 : Int) < o.b.length := by omega
        have hbn : ¬ 300 < o.b.length := by omega
        simp (maxSteps := 1000000) [dlO_eq, logB, batR, slotsOf, hho, hlt, hat, op7A, h40, h40i, hb, hbi, hbn, -List.reduceReplicate]
        refine seq_cut mixed [] (fun y : EpS => ⟨slotsOf 101 [(3, .ptr 0 0 5), (5, .ptr 3 0 9), (7, .c (.int .i64 y.N)), (8, .fs 1 y.bs.length (strA y.bs)), (9, .c (.string (str y.body))), (25, .fs 4 sc.length (scriptA sc)), (26, .c (.int .i64 sc.length)), (27, .c (.int .i64 (j : Int)))], dlO y.D (y.L 58)⟩) (fun y => EpOk (j + 1) y) ?_ ?_
        · intro y hy
          have hyN := hy.N; have hyb := hy.bl
          have hLe : (y.L 58).h.epoch = y.N := rfl
          have hLb : (y.L 58).bs = y.bs := rfl
          have hLh : (y.L 58).h.body = y.body := rfl
          have hbl2 := hy.u.r.bl
          have ew : IntKind.i64.wrap ((j : Int) + 1) = (j + 1 : Nat) := by rw [IntWalk.i64_in _ (by omega)]; rfl
          simp (maxSteps := 1000000) [dlO_eq, logB, batR, slotsOf, hho, -List.reduceReplicate]
          refine call_x [3, 0, 1, 2, 4] (epoch_log y.D (y.L 58)) rfl rfl ⟨rfl, rfl⟩ hho (by simp) (by decide) (by simp) (by simp [logO, devAt, logB, batR]) ?_
          simp (maxSteps := 1000000) [hho, logO, devAt, logB, batR, hLe, -List.reduceReplicate]
          refine call_x [3, 0, 1, 2, 4] (batches_log y.D (y.L 58) (fun b hb => by have := hy.bb b hb; omega) (by rw [hLb]; omega)) rfl rfl ⟨rfl, rfl⟩ hho (by simp) (by decide) (by simp) (by simp [logO, devAt, logB, batR]) ?_
          simp (maxSteps := 1000000) [hho, logO, devAt, logB, batR, hLb, -List.reduceReplicate]
          refine call_plain (fun _ => false) (same_log y.bs y.bs (by omega) (by omega)) (ha := by rfl) (by simp) ?_
          rintro r h' ⟨rfl, rfl⟩
          refine ⟨rfl, ?_⟩
          simp (maxSteps := 1000000) [hho, -List.reduceReplicate]
          refine call_x [3, 0, 1, 2, 4] (head_log y.D (y.L 58) (by rw [hLh]; omega)) rfl rfl ⟨rfl, rfl⟩ hho (by simp) (by decide) (by simp) (by simp [logO, devAt, logB, batR]) ?_
          simp (maxSteps := 1000000) [hho, logO, devAt, logB, batR, hLh, bytesOf_str, ew, -List.reduceReplicate]
          refine ⟨isU8_all _, ?_⟩
          refine round_next (j + 1, y) ⟨by simp only; omega, by simp only; omega, hy⟩ (by simp only; omega) ?_
          exact wk_of 5 1 (by simp) (by simp [hE, lens]) (by simp [dlO_eq, logB, batR, hLb, hLh]) (by simp [livH, livO, AV.livL, AV.liv, wkL, wkV, List.range', dlO_eq, logB, batR, batchA_liv]) (by simp [livH, livO, AV.livL, AV.liv, wkL, wkV, List.range', slotsOf])
        · obtain ⟨q, hq⟩ : ∃ q, q = (IntKind.u64.wrap o.kind).tmod 6 := ⟨_, rfl⟩
          have hxN := hx.N; have hxb := hx.bl
          have hLe : (x.L 58).h.epoch = x.N := rfl
          have hLn : (x.L 58).h.n = x.N := rfl
          have hLb : (x.L 58).bs = x.bs := rfl
          have hLh : (x.L 58).h.body = x.body := rfl
          have hal := hx.u.r.al
          have hcc := hx.d.cc
          have hww : x.D.wait.length = 0 := by rw [hx.w]; rfl
          have ewN : IntKind.i64.wrap ((x.N : Int) + 1) = (x.N + 1 : Nat) := by rw [IntWalk.i64_in _ (by omega)]; rfl
          have hq' := hq.symm
          by_cases q1 : q = 1
          · simp (maxSteps := 1000000) [dlO_eq, logB, batR, slotsOf, hho, hq', q1, -List.reduceReplicate]
            have hre := reset_fs x.D hx.d.ok (by omega) (by omega) (x.L 58) o.b (by unfold maxLen; omega) (by rw [hLn]; omega) (by rw [hLe]; omega)
            obtain ⟨d1, d2, d3⟩ := res_dev hx.u.r (by omega) hx.d hx.w (by omega) o.b
            rw [show (⟨(58 : Nat), ⟨x.N, x.N, x.B, x.body⟩, x.at_, x.bs, false⟩ : LogS) = x.L 58 from rfl] at d1 d2 d3
            obtain ⟨V, hV⟩ : ∃ V, V = resS x.D (x.L 58) o.b := ⟨_, rfl⟩
            rw [← hV] at hre d1 d2 d3
            refine call_d [3, 0, 1, 2, 4] (fun _ => false) [2, 4] hre rfl rfl ⟨rfl, rfl⟩ hho (st_log3 3 0 1 2 4) (by simp [livH, livO, AV.livL, AV.liv, wkL, wkV, List.range']) (by simp [livH, livO, AV.livL, AV.liv, wkL, wkV, List.range']) (by simp [hst]) (by decide) (by decide) (by simp) (by simp [logO, devAt]) ?_
            rcases d3 with ⟨v0, vw, vb, vl, vu⟩ | ⟨v0, ⟨vd, vl⟩ | ⟨hbd, _⟩⟩
            · simp (maxSteps := 1000000) [hho, v0, logO, devAt, logB, batR, -List.reduceReplicate]
              refine draw_k hho (.take 0 (.take 1 (.take 2 (.take 3 (.take 4 (.done)))))) [5] [] (by decide +kernel) (by simp) ?_
              simp (maxSteps := 1000000) [hho, roOf, holdOf, wrOf, altK, heldOk, Region.binds, bytesOf_str, ewN, -List.reduceReplicate]
              refine ⟨isU8_all _, ?_⟩
              refine cut_to (⟨x.N + 1, x.N + 1, o.b, [], 0, x.N + 1, V.2.1⟩ : EpS) ⟨vu, d1.up (by omega), vw, by rw [d2]; exact hx.bd, by simp only; omega, by simp, by simp⟩ ?_
              refine Wk.trans (wk_slot 8 rfl fun G F w v _ h => nil_fs0 1 h) ?_
              exact wk_of 5 1 (by simp) (by simp [hE, lens]) (by simp [dlO_eq, logB, batR, vl, EpS.L]) (by simp [livH, livO, AV.livL, AV.liv, wkL, wkV, List.range', dlO_eq, logB, batR, batchA_liv]) (by simp [livH, livO, AV.livL, AV.liv, wkL, wkV, List.range', slotsOf, strA])
            · simp (maxSteps := 1000000) [hho, v0, logO, devAt, logB, batR, -List.reduceReplicate]
              refine cut_to x (hx.up (by omega)) ?_
              rw [vd, vl]
              exact wk_of 5 1 (by simp) (by simp [hE, lens]) (by simp [dlO_eq, logB, batR, EpS.L]) (by simp [livH, livO, AV.livL, AV.liv, wkL, wkV, List.range', dlO_eq, logB, batR, batchA_liv]) (by simp [livH, livO, AV.livL, AV.liv, wkL, wkV, List.range', slotsOf])
            · rw [hx.bd] at hbd; cases hbd
          · by_cases q34 : q = 3 ∨ q = 4
            · have hop : ∀ K : Prop, (q = 3 → K) → (¬ q = 3 → q = 4 → K) → K := fun K a b => q34.elim a fun h => b (by omega) h
              obtain ⟨d1, d2, d3⟩ := open_dev2 hx.u.r (by omega) hx.d hx.w (by omega)
              have hopc := open_is x.D hx.d.ok (by omega) (by omega) 58 (by decide) (by rw [hx.d.kn]; decide)
              obtain ⟨V, hV⟩ : ∃ V, V = openS x.D 58 := ⟨_, rfl⟩
              rw [← hV] at d1 d2 d3
              have hopc := hopc V hV.symm
              rcases d3 with ⟨v0, vw, vl, vu⟩ | ⟨_, hbd, _⟩
              · have hopc := hopc v0
                refine hop _ (fun q3 => ?_) (fun q3 q4 => ?_)
                · simp (maxSteps := 1000000) [dlO_eq, logB, batR, slotsOf, hho, hq', q1, q3, -List.reduceReplicate]
                  refine call_d [0, 1, 2] (fun _ => false) [2] hopc rfl rfl ⟨rfl, rfl⟩ hho (st_dev2 0 1 2) (by simp [livH, livO, AV.livL, AV.liv, wkL, wkV, List.range']) (by simp [livH, livO, AV.livL, AV.liv, wkL, wkV, List.range', batchA_liv]) (by simp [hst]) (by decide) (by decide) (by simp) (by simp [dlO_eq, devO]) ?_
                  simp (maxSteps := 1000000) [hho, dlO_eq, logB, batR, ewN, -List.reduceReplicate]
                  refine cut_to (⟨x.N + 1, x.B, x.body, x.bs, x.at_, x.least, V.2.1⟩ : EpS) ⟨vu, d1.up (by omega), vw, by rw [d2]; exact hx.bd, by simp only; omega, by simp only; omega, hx.bb⟩ ?_
                  refine wk_sel [0, 1, 2, 6, 7] (slotsOf 101 [(3, .ptr 0 0 5), (5, .ptr 6 0 9), (7, .c (.int .i64 (x.N + 1 : Nat))), (8, .fs 1 x.bs.length (strA x.bs)), (9, .c (.string (str x.body))), (25, .fs 4 sc.length (scriptA sc)), (26, .c (.int .i64 sc.length)), (27, .c (.int .i64 (j : Int)))]) hho (by simp [livH, livO, AV.livL, AV.liv, wkL, wkV, List.range', slotsOf]) rfl rfl ?_ ?_ (by decide) (by simp [hst]) (by simp [hE, lens]) ?_ ?_
                  · simp
                  · simp [slotsOf]
                  · rfl
                  · simp [dlO_eq, logB, batR, vl, EpS.L]
                · simp (maxSteps := 1000000) [dlO_eq, logB, batR, slotsOf, hho, hq', q1, q3, q4, -List.reduceReplicate]
                  refine call_d [0, 1, 2] (fun _ => false) [2] hopc rfl rfl ⟨rfl, rfl⟩ hho (st_dev2 0 1 2) (by simp [livH, livO, AV.livL, AV.liv, wkL, wkV, List.range']) (by simp [livH, livO, AV.livL, AV.liv, wkL, wkV, List.range', batchA_liv]) (by simp [hst]) (by decide) (by decide) (by simp) (by simp [dlO_eq, devO]) ?_
                  simp (maxSteps := 1000000) [hho, dlO_eq, logB, batR, ewN, -List.reduceReplicate]
                  refine cut_to (⟨x.N + 1, x.B, x.body, x.bs, x.at_, x.least, V.2.1⟩ : EpS) ⟨vu, d1.up (by omega), vw, by rw [d2]; exact hx.bd, by simp only; omega, by simp only; omega, hx.bb⟩ ?_
                  refine wk_sel [0, 1, 2, 6, 7] (slotsOf 101 [(3, .ptr 0 0 5), (5, .ptr 6 0 9), (7, .c (.int .i64 (x.N + 1 : Nat))), (8, .fs 1 x.bs.length (strA x.bs)), (9, .c (.string (str x.body))), (25, .fs 4 sc.length (scriptA sc)), (26, .c (.int .i64 sc.length)), (27, .c (.int .i64 (j : Int)))]) hho (by simp [livH, livO, AV.livL, AV.liv, wkL, wkV, List.range', slotsOf]) rfl rfl ?_ ?_ (by decide) (by simp [hst]) (by simp [hE, lens]) ?_ ?_
                  · simp
                  · simp [slotsOf]
                  · rfl
                  · simp [dlO_eq, logB, batR, vl, EpS.L]
              · rw [hx.bd] at hbd; cases hbd
            · have q3 : ¬ q = 3 := fun h => q34 (.inl h)
              have q4 : ¬ q = 4 := fun h => q34 (.inr h)
              simp (maxSteps := 1000000) [dlO_eq, logB, batR, slotsOf, hho, hq', q1, q3, q4, -List.reduceReplicate]
              have hap := append_fs x.D hx.d.ok (by omega) (by omega) (x.L 58) o.b (by unfold maxLen; omega) (by show 0 ≤ ((58 : Nat) : Int) ∧ ((58 : Nat) : Int) ≤ _; decide) (by show 0 ≤ ((x.at_ : Nat) : Int) ∧ ((x.at_ : Nat) : Int) ≤ ((58 : Nat) : Int); omega) (by rw [hLb]; omega)
              obtain ⟨d1, d2, d3⟩ := app_dev hx.u hx.d hx.w (by decide) (by omega) o.b
              rw [show (⟨(58 : Nat), ⟨x.N, x.N, x.B, x.body⟩, x.at_, x.bs, false⟩ : LogS) = x.L 58 from rfl] at d1 d2 d3
              obtain ⟨V, hV⟩ : ∃ V, V = appS x.D (x.L 58) o.b := ⟨_, rfl⟩
              rw [← hV] at hap d1 d2 d3
              refine call_d [3, 0, 1, 2, 4] (fun _ => false) [2, 4] hap rfl rfl ⟨rfl, rfl⟩ hho (st_log3 3 0 1 2 4) (by simp [livH, livO, AV.livL, AV.liv, wkL, wkV, List.range']) (by simp [livH, livO, AV.livL, AV.liv, wkL, wkV, List.range']) (by simp [hst]) (by decide) (by decide) (by simp) (by simp [logO, devAt]) ?_
              rcases d3 with ⟨v0, vw, a', vl, vu⟩ | ⟨v0, ⟨vd, vl⟩ | ⟨hbd, _⟩⟩
              · simp (maxSteps := 1000000) [hho, v0, logO, devAt, logB, batR, -List.reduceReplicate]
                refine draw_k hho (.take 1 (.take 3 (.take 4 (.take 5 (.alt 0 (.alt 2 (.alt 6 (.alt 7 (.take 8 (.done)) (.nil)) (.nil)) (.alt 6 (.alt 2 (.alt 7 (.take 8 (.done)) (.nil)) (.nil)) (.nil))) (.alt 6 (.alt 0 (.alt 2 (.alt 7 (.take 8 (.done)) (.nil)) (.nil)) (.nil)) (.nil))))))) [5] [] (by decide +kernel) (by simp) ?_
                simp (maxSteps := 1000000) [hho, roOf, holdOf, wrOf, altK, heldOk, Region.binds, bytesOf_str, -List.reduceReplicate]
                refine ⟨isU8_all _, ?_⟩
                have hl1 : x.bs.length ≤ 1000000000 := by omega
                have hl2 : x.bs.length ≤ 999999999 := by omega
                have hl3 : (strA x.bs ++ [AV.c (Value.string (str o.b))]).length = x.bs.length + 1 := by simp
                have hl4 : x.bs.length + 1 ≤ maxLen := by unfold maxLen; omega
                have hl5 : (strA x.bs ++ [AV.c (Value.string (str o.b))]).all isD = true := by simp [strA, isD]
                (repeat' (first | apply And.intro | split | intro _)) <;> (try first | exact hl1 | exact hl2)
                all_goals refine cut_to (⟨x.N, x.B, x.body, x.bs ++ [o.b], a', x.N, V.2.1⟩ : EpS) ⟨vu, d1.up (by omega), vw, by rw [d2]; exact hx.bd, by simp only; omega, by simp; omega, fun b hb => by simp only [List.mem_append, List.mem_singleton] at hb; exact hb.elim (hx.bb b) fun e => by rw [e]; omega⟩ ?_
                all_goals
                  first
                  | (refine Wk.trans (wk_frozen 8 6 rfl rfl hho hl3 hl4 hl5) ?_
                     exact wk_of 5 3 (by simp) (by simp [hE, lens]) (by simp [dlO_eq, logB, batR, vl, EpS.L]) (by simp [livH, livO, AV.livL, AV.liv, wkL, wkV, List.range', dlO_eq, logB, batR, batchA_liv]) (by simp [livH, livO, AV.livL, AV.liv, wkL, wkV, List.range', slotsOf, strA_snoc]))
                  | (refine Wk.trans (wk_frozen 8 7 rfl rfl hho hl3 hl4 hl5) ?_
                     exact wk_of 5 3 (by simp) (by simp [hE, lens]) (by simp [dlO_eq, logB, batR, vl, EpS.L]) (by simp [livH, livO, AV.livL, AV.liv, wkL, wkV, List.range', dlO_eq, logB, batR, batchA_liv]) (by simp [livH, livO, AV.livL, AV.liv, wkL, wkV, List.range', slotsOf, strA_snoc]))
              · simp (maxSteps := 1000000) [hho, v0, logO, devAt, logB, batR, -List.reduceReplicate]
                refine cut_to x (hx.up (by omega)) ?_
                rw [vd, vl]
                exact wk_of 5 1 (by simp) (by simp [hE, lens]) (by simp [dlO_eq, logB, batR, EpS.L]) (by simp [livH, livO, AV.livL, AV.liv, wkL, wkV, List.range', dlO_eq, logB, batR, batchA_liv]) (by simp [livH, livO, AV.livL, AV.liv, wkL, wkV, List.range', slotsOf])
              · rw [hx.bd] at hbd; cases hbd
      · by_cases h40 : j < 40
        · have h40i : ¬ (40 : Int) ≤ j := by omega
          have hbi : (300 : Int) < o.b.length := by omega
          have hbn : 300 < o.b.length := by omega
          simp (maxSteps := 1000000) [dlO_eq, logB, batR, slotsOf, hho, hlt, hat, op7A, h40, h40i, hbi, hbn, -List.reduceReplicate]
          exact exit_to x trivial (wk_of 5 1 (by simp) (by simp [hE, lens]) (by simp [dlO_eq, logB, batR]) (by simp [livH, livO, AV.livL, AV.liv, wkL, wkV, List.range', batchA_liv]) (by simp [livH, livO, AV.livL, AV.liv, wkL, wkV, List.range', slotsOf]))
        · have h40i : (40 : Int) ≤ j := by omega
          have h40n : 40 ≤ j := by omega
          simp (maxSteps := 1000000) [dlO_eq, logB, batR, slotsOf, hho, hlt, hat, op7A, h40n, h40i, -List.reduceReplicate]
          exact exit_to x trivial (wk_of 5 1 (by simp) (by simp [hE, lens]) (by simp [dlO_eq, logB, batR]) (by simp [livH, livO, AV.livL, AV.liv, wkL, wkV, List.range', batchA_liv]) (by simp [livH, livO, AV.livL, AV.liv, wkL, wkV, List.range', slotsOf]))
    · simp (maxSteps := 1000000) [dlO_eq, logB, batR, slotsOf, hho, hlt, -List.reduceReplicate]
      exact exit_to x trivial (wk_all (by simp [hE, lens]) (by simp [dlO_eq, logB, batR]) (by simp [livH, livO, AV.livL, AV.liv, wkL, wkV, List.range', slotsOf]))
end Go.Proofs.Ytmgpiminicgbiaa
