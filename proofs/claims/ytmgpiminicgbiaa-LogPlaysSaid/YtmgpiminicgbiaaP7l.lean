import Derived.Test.YtmgpiminicgbiaaP7k
-- 
namespace Go.Proofs.Ytmgpiminicgbiaa
set_option linter.unusedVariables false
set_option linter.unusedSimpArgs false
open Go.RowKit
attribute [local simp] isCut_nil isCut_region isCut_seq isCut_block isCut_loop isCut_cond isCut_skip isCut_exit isCut_ret isCut_range swapK putK altK condK_bool pickP_bool stepP stepO onPure_some onPure_none onImpl_some onImpl_none stepC onGP_some onGP_none onGV_some condG mkG onIt_it nextP_ptr takeP_eq takeV_some takeV_none takeU_some takeU_none takeQ takeW_some takeN_none takeN_some takeG_some takeO_some altO_some pureV binV2 eqF eqOp ovlV ovl2 rowAt capV binV intBin strBin isSh shV fldV ixV sliceV slice3V loadAV nilV lenV callV unV convV viewS cellsH loadV fldCut AV.ung AV.ungs AV.gc AV.cells AS.ev AS.put anyS gcsV gcO lens lnO gV guardV retK RetP_eq resV oneV anyRo loIx hiIx implO callP_clo evL gcsL clearV storeAV AS.push AS.setO appV appZ shortS copyV buildV partsV fillV srcV fzO okV isCell_c isCell_ptr isCell_sl isCell_fs isCell_fp isCell_clo rowZ_one rowZ_zero rowZ_2 rowZ_3 rowZ_4 rowZ_5 rowZ_6 rowZ_7 rowZ_8 rowZ_9 rowZ_10 rowZ_11 rowZ_12 noHo Value.oneCell' max2V min2V lookV updV updK updW cvals mkAt basV lenM msAt afterH putBack frzFrom frzO rebO backIx nilEq_sl nilEq_fs nilEq_ifn nilEq_ifh ifOp_eql ifOp_neq isLit nilOp_eql nilOp_neq AV.reb AV.rebL
attribute [local simp ↓] runK_skip runK_region runK_draw runK_seq runK_cut runK_cond runK_block runK_loop runK_exit runK_label runK_goto runK_ret runK_range contK_nil contK_seq contK_seq_ret contK_seq_exit contK_seq_goto contK_block contK_block_ret contK_block_goto contK_block_exit runO_nil runO_cons roundK_exit roundK_ret roundK_goto exitK_ret cutK_ret cutK_exit runE_done runE_nil runE_take runE_alt condG_true condG_false runYK_skip runYK_region runYK_draw runYK_seq runYK_cond runYK_block runYK_loop runYK_exit runYK_ret contYK_nil contYK_seq contYK_seq_ret contYK_seq_exit contYK_block contYK_block_ret contYK_block_exit runYO_nil runYO_cons finY_normal finY_ret roundY_ret roundY_exit
attribute [local simp] condYK_bool onYI_some onYP_some onYP_none onYA_some onYA_none onYD_some onYD_none ixD stepY yldArgs AS.clean keepV hoN hnY rebI setPs heldH
set_option maxRecDepth 10000
/-! ## Appending a row that lives -/
def xsOf (L : LogS) (b : List UInt8) (n : Nat) : List (FrameS × Option Nat) := (List.range n).map fun (j : Nat) => (⟨L.h.epoch, L.at_ + (j : Int), false, chunkB b j⟩, some (46 * j))
@[simp] theorem xsOf_length (L : LogS) (b : List UInt8) (n : Nat) : (xsOf L b n).length = n := by simp [xsOf]
theorem chunkB_length (b : List UInt8) (j : Nat) : (chunkB b j).length = min 46 (b.length - 46 * j) := by simp [chunkB]
theorem xsOf_snoc (L : LogS) (b : List UInt8) (n : Nat) : xsOf L b (n + 1) = xsOf L b n ++ [(⟨L.h.epoch, L.at_ + (n : Int), false, chunkB b n⟩, some (46 * n))] := by simp [xsOf, List.range_succ]
theorem framesX_app (own m : Nat) (a b : List (FrameS × Option Nat)) : framesX own m (a ++ b) = framesX own m a ++ framesX own m b := by simp [framesX]
theorem xsOf_succ (L : LogS) (b : List UInt8) (n : Nat) : framesX 5 b.length (xsOf L b (n + 1)) = framesX 5 b.length (xsOf L b n) ++ [.c (.int .i64 L.h.epoch), .c (.int .i64 (L.at_ + (n : Int))), .c (.bool false), .sl 5 1 (46 * n) (min 46 (b.length - 46 * n)) b.length] := by
  rw [xsOf_snoc, framesX_app, ← chunkB_length]; rfl
def xsM (L : LogS) (b : List UInt8) (m : Nat) : List (FrameS × Option Nat) := (List.range m).map fun (j : Nat) => (⟨L.h.epoch, L.at_ + (j : Int), decide (j + 1 = m), chunkB b j⟩, some (46 * j))
@[simp] theorem xsM_length (L : LogS) (b : List UInt8) (n : Nat) : (xsM L b n).length = n := by simp [xsM]
theorem xsM_fs (L : LogS) (b : List UInt8) (m : Nat) : (xsM L b m).map (·.1) = fsR L b m := by simp [xsM, fsR]
theorem xsM_snoc (L : LogS) (b : List UInt8) (m : Nat) : xsM L b (m + 1) = xsOf L b m ++ [(⟨L.h.epoch, L.at_ + (m : Int), true, chunkB b m⟩, some (46 * m))] := by
  simp only [xsM, xsOf, List.range_succ, List.map_append, List.map_cons, List.map_nil, decide_true]
  congr 1
  apply List.map_congr_left
  intro j hj
  have hj := List.mem_range.1 hj
  have : decide (j + 1 = m + 1) = false := decide_eq_false (by omega)
  rw [this]
theorem markX_put (L : LogS) (b : List UInt8) (m : Nat) (hm : 1 ≤ m) : List.take ((m - 1) * 4 + 2) (framesX 5 b.length (xsOf L b m)) ++ AV.c (.bool true) :: List.drop ((m - 1) * 4 + 2 + 1) (framesX 5 b.length (xsOf L b m)) = framesX 5 b.length (xsM L b m) := by
  obtain ⟨k, rfl⟩ : ∃ k, m = k + 1 := ⟨m - 1, by omega⟩
  rw [xsM_snoc, xsOf_snoc, framesX_app, framesX_app, Nat.add_sub_cancel]
  have hi : (framesX 5 b.length (xsOf L b k)).length = k * 4 := by simp
  rw [List.take_append, List.drop_append, hi, List.take_of_length_le (by omega), List.drop_eq_nil_of_le (by omega)]
  have e3 : k * 4 + 2 - k * 4 = 2 := by omega
  have e4 : k * 4 + 2 + 1 - k * 4 = 3 := by omega
  rw [e3, e4]
  simp [framesX, frameX]
theorem xsM_ok (L : LogS) (b : List UInt8) (m : Nat) (hm : 46 * m ≤ b.length + 45) (ha : 0 ≤ L.at_ ∧ L.at_ ≤ 100000) (hb : b.length ≤ 65536) : ∀ x ∈ xsM L b m, 0 ≤ x.1.k ∧ x.1.k ≤ 1000000 ∧ x.1.body.length ≤ 1000000 ∧ ∀ off, x.2 = some off → off + x.1.body.length ≤ b.length ∧ x.1.body = (b.drop off).take x.1.body.length := by
  intro x hx
  simp only [xsM, List.mem_map, List.mem_range] at hx
  obtain ⟨j, hj, rfl⟩ := hx
  have hl := chunkB_length b j
  refine ⟨by simp only; omega, by simp only; omega, by simp only; omega, ?_⟩
  intro off ho
  simp only [Option.some.injEq] at ho
  subst ho
  simp only
  refine ⟨by omega, ?_⟩
  rw [hl]
  unfold chunkB
  rw [List.take_eq_take_iff]
  simp
theorem sl0_fs {k sz off m : Nat} {G : Gh} {F : Nat → Prop} {w : World} {ln : List Nat} {v : Value} (hk : ln[k]? = some m) (h : RepV G ln F w (.sl k sz off 0 m) v) : RepV G ln F w (.fs sz 0 []) v := by
  cases h with
  | d _ _ h => cases h
  | sl _ _ _ _ _ c h1 h2 h3 h4 h5 => exact .d _ _ (.fs0 sz _ c h4)
  | slNil _ _ h1 h2 => exact .d _ _ (.fs0 sz none 0 (Nat.zero_le _))
  | slOld _ _ _ _ _ m' A l c h1 h2 => rw [hk] at h1; injection h1 with h1; omega
set_option maxHeartbeats 8000000 in
theorem append_sl (D : DevS) (hD : D.Ok) (hcl : D.calls ≤ 50000) (hwl : D.wait.length ≤ 50000) (L : LogS) (b : List UInt8) (hb : b.length ≤ maxLen) (hfr : 0 ≤ L.frames ∧ L.frames ≤ 100000) (hat : 0 ≤ L.at_ ∧ L.at_ ≤ L.frames) (hbl : L.bs.length ≤ 100000) (e0 : TypeId) :
    ACalls Try.prog 13 [.ptr 0 0 9, .sl 5 1 0 b.length b.length] (logO D L ++ [ownR e0 b]) (fun k => [0, 1, 2, 5].contains k) (fun r h' => r = .c (.int .i64 (appS D L b).1) ∧ h' = logO (appS D L b).2.1 (appS D L b).2.2 ++ [ownR e0 b]) := by
  refine acallsMC [12] mixed Try.func13 rfl Try.ntmps13 rfl fun E hE hst hho hmk => ?_
  simp (maxSteps := 1000000) [logO, logB, batR, devAt, ownR, hho, -List.reduceReplicate]
  refine call_x [0, 1, 2, 3, 4] (up_log D L) rfl rfl ⟨rfl, rfl⟩ hho (by simp) (by decide) (by simp) (by simp [logO, devAt]) ?_
  by_cases hdn : L.down = true
  · have hA : appS D L b = (60, D, L) := by unfold appS; rw [if_pos hdn]
    rw [hA]
    simp (maxSteps := 1000000) [hho, hdn, logO, logB, batR, devAt, ownR, -List.reduceReplicate]
    refine Ret.sel [0, 1, 2, 3, 4, 5] (fun _ => false) (ho := by rfl) (ha := by rfl) ?_ ?_ (by decide) (by simp) (by intro i _ h; simp at h; rcases h with rfl | rfl | rfl | rfl <;> rfl) ⟨rfl, ?_⟩
    · simp
    · simp
    · simp [hdn]
  have hdn' : L.down = false := by simpa using hdn
  by_cases hbig : 65536 < b.length
  · have hA : appS D L b = (2, D, L) := by unfold appS; rw [if_neg hdn, if_pos hbig]
    have hbi : (65536 : Int) < b.length := by omega
    rw [hA]
    simp (maxSteps := 1000000) [hho, hdn', hbig, hbi, logO, logB, batR, devAt, ownR, -List.reduceReplicate]
    refine Ret.sel [0, 1, 2, 3, 4, 5] (fun _ => false) (ho := by rfl) (ha := by rfl) ?_ ?_ (by decide) (by simp) (by intro i _ h; simp at h; rcases h with rfl | rfl | rfl | rfl <;> rfl) ⟨rfl, ?_⟩
    · simp
    · simp
    · simp [hdn']
  have hbi : ¬ (65536 : Int) < b.length := by omega
  simp (maxSteps := 1000000) [hho, hdn', hbig, hbi, logO, logB, batR, devAt, ownR, -List.reduceReplicate]
  refine call_x [5] (chunk_call_sl b e0) rfl rfl ⟨rfl, rfl⟩ hho (by simp) (by decide) (by simp) (by simp) ?_
  simp (maxSteps := 1000000) [hho, ownR, -List.reduceReplicate]
  have hL0 : logO D L = [logB L 1 4, .o .box [.sl 2 64 0 D.kept.length (D.kept.length * 64), .sl 3 65 0 D.wait.length (D.wait.length * 65), .c (.bool D.bound), .c (.int .i64 D.left), .c (.int .i64 D.calls)], .o (.row 93 64) (keptA D.kept), .o (.row 95 65) (waitA D.wait), batR L.bs] := rfl
  have hN : chunkN b ≤ 1426 := by unfold chunkN; omega
  refine rangeFG_wk (wk_virtC 7 0 90 4 rfl rfl) ?_
  refine range_k mixed [5, 8, 9] (chunk_seq_sl b e0 (by omega)) hho hmk ⟨by simp, rfl⟩ rfl rfl rfl (by simp) (by decide) (fun j => ⟨by simpa using chunkX_ok b j, rfl⟩) rfl (by simp) (fun _ => True) trivial (fun j => logO D L ++ [ownR e0 b, .o .box [.ptr 0 0 9], .o .box [.sl 10 4 0 j (j * 4)], .o .box [.sl 5 1 0 b.length b.length], .o .box [.c (.int .i64 46)], .o (.row 90 4) (framesX 5 b.length (xsOf L b j))]) (by simp [hL0, logB, batR, ownR, hdn', xsOf, framesX]) (by intro j _ k hk; simp at hk; rcases hk with rfl | rfl | rfl <;> rfl) ?_ ?_
  · intro j hj _ E' hho' hE' hst'
    simp (maxSteps := 1000000) [chunkX, hL0, logB, batR, ownR, hho', rebI, -List.reduceReplicate]
    refine ⟨by simp [heldH, lens, lnO], fun E2 ho2 ln2 st2 => ?_⟩
    simp (maxSteps := 1000000) [ho2, -List.reduceReplicate]
    refine draw_h (fun k => [5, 8, 9].contains k) ho2 (.take 0 (.take 1 (.take 2 (.take 3 (.take 4 (.take 5 (.take 6 (.take 7 (.take 8 (.take 9 (.take 10 (.take 11 (.take 12 (.take 13 (.take 14 (.alt 15 (.alt 16 (.alt 17 (.done) (.nil)) (.nil)) (.nil))))))))))))))))) [0, 6, 7] [(17, [7])] (by decide +kernel) (by simp) ?_
    have eat : IntKind.i64.wrap (L.at_ + (j : Int)) = L.at_ + j := IntWalk.i64_in _ (by omega)
    simp (maxSteps := 1000000) [ho2, eat, roOf, holdOf, wrOf, altK, heldOk, Region.binds, -List.reduceReplicate]
    have ecs := xsOf_succ L b j
    refine fun _ _ => ⟨by omega, fun _ => range_next 11 1 trivial rfl (by simpa using ln2) ?_ ?_⟩
    · simp [ecs, Nat.add_mul]
    · simp [livH, livO, AV.livL, AV.liv, wkL, wkV, List.range', batchA_liv, framesX_liv]
  · intro _
    simp (maxSteps := 1000000) [hL0, logB, batR, ownR, hho, -List.reduceReplicate]
    obtain ⟨hmf, hml⟩ := mark_fsR L b
    obtain ⟨m, hm⟩ : ∃ m, m = chunkN b := ⟨_, rfl⟩
    have hm46 : 46 * m ≤ b.length + 45 := by rw [hm]; unfold chunkN; omega
    rw [← hm] at hN ⊢
    refine seq_cut mixed [] (fun y : Bool => cond y ⟨slotsOf 91 [(1, .sl 5 1 0 b.length b.length), (2, .ptr 6 0 1), (6, .ptr 7 0 1)], logO D L ++ [ownR e0 b, .o .box [.ptr 0 0 9], .o .box [.sl 10 4 0 m (m * 4)], .o .box [.sl 5 1 0 b.length b.length], .o .box [.c (.int .i64 46)], .o (.row 90 4) (framesX 5 b.length (xsOf L b m))]⟩ ⟨slotsOf 91 [(1, .fs 1 0 []), (2, .ptr 6 0 1), (6, .ptr 7 0 1)], logO D L ++ [ownR e0 b, .o .box [.ptr 0 0 9], .o .box [.sl 8 4 0 1 4], .o (.row 90 4) (framesA [⟨L.h.epoch, L.at_, false, []⟩])]⟩) (fun y => y = decide (b.length ≠ 0)) ?_ ?_
    · rintro (_ | _) hy
      · have hb0 : b.length = 0 := by simpa using hy.symm
        have hbn : b = [] := List.eq_nil_of_length_eq_zero hb0
        have ew0 : IntKind.i64.wrap 0 = 0 := rfl
        simp only [cond_false]
        simp (maxSteps := 1000000) [hL0, logB, batR, ownR, slotsOf, hho, -List.reduceReplicate]
        refine draw_k hho (.take 0 (.take 1 (.take 2 (.alt 3 (.take 4 (.done)) (.nil))))) [6, 7] [] (by decide +kernel) (by simp) ?_
        simp (maxSteps := 1000000) [hho, noHo, hL0, logB, batR, ownR, roOf, holdOf, wrOf, altK, heldOk, Region.binds, -List.reduceReplicate]
        intro E1
        refine call_h [0, 1, 2, 3, 4] (room_log D L (by omega) (by omega)) rfl rfl ⟨rfl, rfl⟩ (by simp) (by simp) (by decide) (by simp) (by simp [logO, devAt]) ?_
        have hA0 : appS D L b = if roomL L < (1 : Int) then (70, D, L) else if (layS D [⟨L.h.epoch, L.at_, true, []⟩]).1 ≠ 0 then ((layS D [⟨L.h.epoch, L.at_, true, []⟩]).1, (layS D [⟨L.h.epoch, L.at_, true, []⟩]).2, { L with down := true }) else (0, (layS D [⟨L.h.epoch, L.at_, true, []⟩]).2, { L with at_ := L.at_ + 1, bs := L.bs ++ [b] }) := by
          unfold appS framesOf; rw [if_neg hdn, if_neg hbig, if_pos hb0]; rfl
        by_cases hroom : roomL L < (1 : Int)
        · rw [if_pos hroom] at hA0
          rw [hA0]
          simp (maxSteps := 1000000) [hho, noHo, hroom, hL0, logB, batR, ownR, roOf, holdOf, wrOf, altK, heldOk, Region.binds, -List.reduceReplicate]
          refine Ret.sel [0, 1, 2, 3, 4, 5] (fun _ => false) (ho := by rfl) (ha := by rfl) ?_ ?_ (by decide) (by simp) (by intro i _ h; simp at h; rcases h with rfl | rfl | rfl | rfl <;> rfl) ⟨rfl, ?_⟩
          · simp
          · simp
          · rfl
        rw [if_neg hroom] at hA0
        simp (maxSteps := 1000000) [hho, noHo, hroom, ew0, framesA, frameA, hL0, logB, batR, ownR, roOf, holdOf, wrOf, altK, heldOk, Region.binds, -List.reduceReplicate]
        rw [show ([AV.c (Value.int .i64 L.h.epoch), AV.c (Value.int .i64 L.at_), AV.c (Value.bool true), AV.fs 1 0 []] : List AV) = framesA [⟨L.h.epoch, L.at_, true, []⟩] from rfl]
        obtain ⟨W, hW⟩ : ∃ W, W = layS D [⟨L.h.epoch, L.at_, true, []⟩] := ⟨_, rfl⟩
        rw [← hW] at hA0
        have hlay := lay_ok D hD hcl hwl L [⟨L.h.epoch, L.at_, true, []⟩] (by simp) (by intro f hf; rw [List.mem_singleton.1 hf]; exact ⟨by simp only; omega, by simp only; omega, by simp⟩)
        rw [← hW] at hlay
        refine call_d [0, 1, 2, 3, 4, 8] (fun _ => false) [3] hlay rfl rfl ⟨rfl, rfl⟩ hho ?_ (by simp [livH, livO, AV.livL, AV.liv, wkL, wkV, List.range']) (by simp [livH, livO, AV.livL, AV.liv, wkL, wkV, List.range', batchA_liv]) (by simp [hst]) (by decide) (by decide) (by simp) (by simp [logO, devAt]) ?_
        · intro i q h
          match i, h with
          | 0, _ => exact .inl rfl
          | 1, _ => exact .inl rfl
          | 2, _ => exact .inl rfl
          | 3, h => simp at h; exact .inr (by simp [h])
          | 4, _ => exact .inl rfl
          | 5, _ => exact .inl rfl
          | i + 6, h => simp at h
        have hL1 : ∀ D : DevS, logO D L = [logB L 1 4, .o .box [.sl 2 64 0 D.kept.length (D.kept.length * 64), .sl 3 65 0 D.wait.length (D.wait.length * 65), .c (.bool D.bound), .c (.int .i64 D.left), .c (.int .i64 D.calls)], .o (.row 93 64) (keptA D.kept), .o (.row 95 65) (waitA D.wait), batR L.bs] := fun _ => rfl
        by_cases hw0 : W.1 = 0
        · simp only [hw0, ne_eq, not_true_eq_false, if_false] at hA0
          rw [hA0, hw0]
          simp (maxSteps := 1000000) [hho, noHo, hL1, logB, batR, ownR, -List.reduceReplicate]
          have eat : IntKind.i64.wrap (L.at_ + 1) = L.at_ + 1 := IntWalk.i64_in _ (by omega)
          refine draw_k hho (.take 0 (.take 1 (.take 2 (.take 3 (.take 4 (.take 5 (.take 6 (.take 7 (.take 8 (.alt 9 (.done) (.nil))))))))))) [0, 6, 7] [(9, [0])] (by decide +kernel) (by simp) ?_
          simp (maxSteps := 1000000) [hho, noHo, eat, roOf, holdOf, wrOf, altK, heldOk, Region.binds, -List.reduceReplicate]
          intro _
          refine draw_k hho (.take 0 (.take 1 (.take 2 (.take 3 (.take 4 (.take 5 (.alt 6 (.alt 7 (.alt 8 (.take 9 (.take 10 (.alt 11 (.done) (.nil)))) (.nil)) (.nil)) (.nil)))))))) [0, 6] [(11, [0])] (by decide +kernel) (by simp) ?_
          simp (maxSteps := 1000000) [hho, noHo, eat, roOf, holdOf, wrOf, altK, heldOk, Region.binds, -List.reduceReplicate]
          intro E3
          refine call_h [] (clone8_fs 0 [] rfl (by omega) (by simp)) rfl rfl ⟨rfl, rfl⟩ (by simp) (by simp) (by decide) (by simp) (by simp) ?_
          simp (maxSteps := 1000000) [hho, noHo, eat, roOf, holdOf, wrOf, altK, heldOk, Region.binds, -List.reduceReplicate]
          refine fun _ _ => ⟨by omega, fun _ => ?_⟩
          refine Ret.wkh (fun E hEo hEl => wk_data 4 L.bs.length 9 (kd := .row 33 1) (cs := batchA L.bs ++ [.sl 9 1 0 0 0]) (l := []) (e := 5) (sz := 1) (n := 0) (m := 0) (by rw [hEo]; rfl) (by decide) rfl (by rw [List.getElem?_append_right (by simp)]; simp) rfl (by simp) (by simp) (by simp [maxLen]) (by simp)) ?_
          have est : (batchA L.bs ++ [AV.sl 9 1 0 0 0]).set L.bs.length (.fs 1 0 ([])) = batchA (L.bs ++ [b]) := by
            have hlj : (batchA L.bs).length = L.bs.length := by simp
            rw [List.set_append_right _ _ (by omega), hlj, Nat.sub_self, batchA_snoc, hbn]; rfl
          rw [est]
          refine Ret.sel [0, 1, 2, 3, 4, 5] (fun _ => false) (ho := by rfl) (ha := by rfl) ?_ ?_ (by decide) (by simp) (by intro i _ h; simp at h; rcases h with rfl | rfl | rfl | rfl <;> rfl) ⟨rfl, ?_⟩
          · simp
          · simp
          · simp
        · simp only [hw0, ne_eq, not_false_eq_true, if_true] at hA0
          rw [hA0]
          simp (maxSteps := 1000000) [hho, noHo, hw0, hL1, logB, batR, ownR, -List.reduceReplicate]
          refine Ret.sel [0, 1, 2, 3, 4, 5] (fun _ => false) (ho := by rfl) (ha := by rfl) ?_ ?_ (by decide) (by simp) (by intro i _ h; simp at h; rcases h with rfl | rfl | rfl | rfl <;> rfl) ⟨rfl, ?_⟩
          · simp
          · simp
          · rfl
      · have hb0 : b.length ≠ 0 := by simpa using hy.symm
        have hm1 : 1 ≤ m := by rw [hm]; unfold chunkN; omega
        have hmm : mN b = m := by rw [hm]; unfold mN; rw [if_neg hb0]
        simp only [cond_true]
        simp (maxSteps := 1000000) [hL0, logB, batR, ownR, slotsOf, hho, -List.reduceReplicate]
        refine draw_k hho (.take 0 (.take 1 (.take 2 (.alt 3 (.take 4 (.done)) (.nil))))) [6, 7] [] (by decide +kernel) (by simp) ?_
        simp (maxSteps := 1000000) [hho, noHo, hL0, logB, batR, ownR, roOf, holdOf, wrOf, altK, heldOk, Region.binds, -List.reduceReplicate]
        intro E1
        refine call_h [0, 1, 2, 3, 4] (room_log D L (by omega) (by omega)) rfl rfl ⟨rfl, rfl⟩ (by simp) (by simp) (by decide) (by simp) (by simp [logO, devAt]) ?_
        have hA0 : appS D L b = if roomL L < (m : Int) then (70, D, L) else if (layS D (fsR L b m)).1 ≠ 0 then ((layS D (fsR L b m)).1, (layS D (fsR L b m)).2, { L with down := true }) else (0, (layS D (fsR L b m)).2, { L with at_ := L.at_ + (m : Int), bs := L.bs ++ [b] }) := by
          unfold appS; rw [if_neg hdn, if_neg hbig, hml, hmf, hmm]
        by_cases hroom : roomL L < (m : Int)
        · rw [if_pos hroom] at hA0
          rw [hA0]
          simp (maxSteps := 1000000) [hho, noHo, hroom, hL0, logB, batR, ownR, roOf, holdOf, wrOf, altK, heldOk, Region.binds, -List.reduceReplicate]
          refine Ret.sel [0, 1, 2, 3, 4, 5] (fun _ => false) (ho := by rfl) (ha := by rfl) ?_ ?_ (by decide) (by simp) (by intro i _ h; simp at h; rcases h with rfl | rfl | rfl | rfl <;> rfl) ⟨rfl, ?_⟩
          · simp
          · simp
          · rfl
        rw [if_neg hroom] at hA0
        have en1 : IntKind.i64.wrap ((m : Int) - 1) = ((m - 1 : Nat) : Int) := by rw [IntWalk.i64_in _ (by omega)]; omega
        simp (maxSteps := 1000000) [hho, noHo, hroom, en1, hL0, logB, batR, ownR, roOf, holdOf, wrOf, altK, heldOk, Region.binds, -List.reduceReplicate]
        rw [markX_put L b m hm1]
        refine ⟨by omega, by omega, ?_⟩
        have hlay := lay_sl D hD hcl hwl L b (by omega) e0 (xsM L b m) (by simp; omega) (xsM_ok L b m hm46 ⟨hat.1, by omega⟩ (by omega))
        rw [xsM_fs, xsM_length] at hlay
        obtain ⟨W, hW⟩ : ∃ W, W = layS D (fsR L b m) := ⟨_, rfl⟩
        rw [← hW] at hlay hA0
        refine call_alld [3] (H := layX D L e0 b (xsM L b m)) (L := []) (H' := layX W.2 L e0 b (xsM L b m)) (by simp [layX, hL0, logB, batR, ownR, hdn']) hlay (by simp [layX, logO, devAt]) ?_ (fun k _ => by rw [hho]; rfl) (by simp [livH, livO, AV.livL, AV.liv, wkL, wkV, List.range']) (by simp) (by simp [hst, layX, logO, devAt]) (by simp [livH, livO, AV.livL, AV.liv, wkL, wkV, List.range']) (by simp; exact livH_nil _ _ _) ?_
        · intro i hi0
          have hi : i < 11 := by simpa [layX, logO, devAt] using hi0
          clear hi0; revert i; decide
        have hL1 : ∀ D : DevS, logO D L = [logB L 1 4, .o .box [.sl 2 64 0 D.kept.length (D.kept.length * 64), .sl 3 65 0 D.wait.length (D.wait.length * 65), .c (.bool D.bound), .c (.int .i64 D.left), .c (.int .i64 D.calls)], .o (.row 93 64) (keptA D.kept), .o (.row 95 65) (waitA D.wait), batR L.bs] := fun _ => rfl
        by_cases hw0 : W.1 = 0
        · simp only [hw0, ne_eq, not_true_eq_false, if_false] at hA0
          rw [hA0, hw0]
          simp (maxSteps := 1000000) [hho, noHo, layX, hL1, logB, batR, ownR, -List.reduceReplicate]
          have eat : IntKind.i64.wrap (L.at_ + (m : Int)) = L.at_ + (m : Int) := IntWalk.i64_in _ (by omega)
          refine draw_k hho (.take 0 (.take 1 (.take 2 (.take 3 (.take 4 (.take 5 (.take 6 (.take 7 (.take 8 (.alt 9 (.done) (.nil))))))))))) [0, 6, 7] [(9, [0])] (by decide +kernel) (by simp) ?_
          simp (maxSteps := 1000000) [hho, noHo, eat, roOf, holdOf, wrOf, altK, heldOk, Region.binds, -List.reduceReplicate]
          intro _
          refine draw_k hho (.take 0 (.take 1 (.take 2 (.take 3 (.take 4 (.take 5 (.alt 6 (.alt 7 (.alt 8 (.take 9 (.take 10 (.alt 11 (.done) (.nil)))) (.nil)) (.nil)) (.nil)))))))) [0, 6] [(11, [0])] (by decide +kernel) (by simp) ?_
          simp (maxSteps := 1000000) [hho, noHo, eat, roOf, holdOf, wrOf, altK, heldOk, Region.binds, -List.reduceReplicate]
          intro E3
          refine call_h [5] (clone8_sl b 0 b.length b.length e0 rfl (by omega) (by omega) (by omega)) rfl rfl ⟨rfl, rfl⟩ (by simp) (by simp) (by decide) (by simp) (by simp) ?_
          rw [List.drop_zero, List.take_length]
          simp (maxSteps := 1000000) [hho, noHo, eat, roOf, holdOf, wrOf, altK, heldOk, Region.binds, -List.reduceReplicate]
          refine fun _ _ => ⟨by omega, fun _ => ?_⟩
          refine Ret.wkh (fun E hEo hEl => wk_data 4 L.bs.length 11 (kd := .row 33 1) (cs := batchA L.bs ++ [.sl 11 1 0 b.length b.length]) (l := u8av b) (e := 5) (sz := 1) (n := b.length) (m := b.length) (by rw [hEo]; rfl) (by decide) rfl (by rw [List.getElem?_append_right (by simp)]; simp) rfl (by simp) (by simp) (by simp [maxLen]; omega) (by simp)) ?_
          have est : (batchA L.bs ++ [AV.sl 11 1 0 b.length b.length]).set L.bs.length (.fs 1 b.length (u8av b)) = batchA (L.bs ++ [b]) := by
            have hlj : (batchA L.bs).length = L.bs.length := by simp
            rw [List.set_append_right _ _ (by omega), hlj, Nat.sub_self, batchA_snoc]; rfl
          rw [est]
          refine Ret.sel [0, 1, 2, 3, 4, 5] (fun _ => false) (ho := by rfl) (ha := by rfl) ?_ ?_ (by decide) (by simp) (by intro i _ h; simp at h; rcases h with rfl | rfl | rfl | rfl <;> rfl) ⟨rfl, ?_⟩
          · simp
          · simp
          · simp
        · simp only [hw0, ne_eq, not_false_eq_true, if_true] at hA0
          rw [hA0]
          simp (maxSteps := 1000000) [hho, noHo, hw0, layX, hL1, logB, batR, ownR, -List.reduceReplicate]
          refine Ret.sel [0, 1, 2, 3, 4, 5] (fun _ => false) (ho := by rfl) (ha := by rfl) ?_ ?_ (by decide) (by simp) (by intro i _ h; simp at h; rcases h with rfl | rfl | rfl | rfl <;> rfl) ⟨rfl, ?_⟩
          · simp
          · simp
          · rfl
    · by_cases hb0 : b.length = 0
      · have hc0 : m = 0 := by rw [hm]; unfold chunkN; omega
        have hbn : b = [] := List.eq_nil_of_length_eq_zero hb0
        subst hbn
        simp (maxSteps := 1000000) [hho, hc0, -List.reduceReplicate]
        refine draw_k hho (.take 0 (.take 1 (.take 2 (.take 3 (.take 4 (.take 5 (.take 6 (.take 7 (.take 8 (.take 9 (.alt 10 (.alt 11 (.done) (.nil)) (.nil)))))))))))) [0, 6] [] (by decide +kernel) (by simp) ?_
        simp (maxSteps := 1000000) [hho, roOf, holdOf, wrOf, altK, heldOk, Region.binds, -List.reduceReplicate]
        intro _ _
        refine cut_to false (by simp) ?_
        refine Wk.trans (wk_cell 11 3 rfl rfl fun G F w v _ h => nil_fs0 1 h) ?_
        refine Wk.trans (wk_slot 1 rfl fun G F w v _ h => sl0_fs rfl h) ?_
        refine wk_sel [0, 1, 2, 3, 4, 5, 6, 7, 11] (slotsOf 91 [(1, .fs 1 0 []), (2, .ptr 6 0 1), (6, .ptr 7 0 1)]) hho (by simp [livH, livO, AV.livL, AV.liv, wkL, wkV, List.range', slotsOf]) rfl rfl ?_ ?_ (by decide) ?_ (by simp [hE, logO, devAt, lens]) ?_ ?_
        · simp [isD_fs]
        · simp [slotsOf]
        · rw [hst]; intro i _ h; simp at h; rcases h with rfl | rfl | rfl | rfl <;> rfl
        · rfl
        · simp [hL0, logB, batR, ownR, framesA, frameA]
      · have hc0 : ¬ m = 0 := by rw [hm]; unfold chunkN; omega
        simp (maxSteps := 1000000) [hho, hc0, -List.reduceReplicate]
        refine cut_to true (by simp; exact fun h => hb0 (by rw [h]; rfl)) ?_
        exact wk_all (by simp [hE, logO, devAt, lens]) (by simp [hL0, logB, batR, ownR]) (by simp [livH, livO, AV.livL, AV.liv, wkL, wkV, List.range', slotsOf])
end Go.Proofs.Ytmgpiminicgbiaa
