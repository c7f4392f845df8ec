-- 
import Derived.Test.YtmgpiminicgbiaaLH
namespace Go.Proofs.Ytmgpiminicgbiaa
set_option linter.unusedVariables false
set_option linter.unusedSimpArgs false
open Go.RowKit
attribute [local simp] isCut_nil isCut_region isCut_seq isCut_block isCut_loop isCut_cond isCut_skip isCut_exit isCut_ret isCut_range swapK putK altK condK_bool pickP_bool stepP stepO onPure_some onPure_none onImpl_some onImpl_none stepC onGP_some onGP_none onGV_some condG mkG onIt_it nextP_ptr takeP_eq takeV_some takeN_none takeN_some takeG_some takeO_some altO_some pureV binV intBin strBin isSh shV fldV ixV sliceV loadAV nilV lenV callV unV convV viewS cellsH loadV fldCut AV.ung AV.gc AV.cells AS.ev AS.put anyS gcsV lens lnO gV guardV retK RetP_eq resV oneV anyRo loIx hiIx implO callP_clo evL gcsL storeAV AS.push AS.setO appV copyV buildV partsV fillV srcV fzO okV isCell_c isCell_ptr isCell_sl isCell_fs isCell_fp isCell_clo rowZ_one rowZ_zero rowZ_2 rowZ_3 rowZ_4 rowZ_5 rowZ_6 rowZ_7 rowZ_8 rowZ_9 rowZ_10 rowZ_11 rowZ_12 noHo Value.oneCell' max2V min2V afterH putBack frzFrom frzO rebO backIx nilEq_sl nilEq_fs nilOp_eql nilOp_neq AV.reb AV.rebL
attribute [local simp ↓] runK_skip runK_region runK_draw runK_seq runK_cut runK_cond runK_block runK_loop runK_exit runK_label runK_goto runK_ret runK_range contK_nil contK_seq contK_seq_ret contK_seq_exit contK_seq_goto contK_block contK_block_ret contK_block_goto contK_block_exit runO_nil runO_cons roundK_exit roundK_ret roundK_goto exitK_ret cutK_ret cutK_exit runE_done runE_nil runE_take runE_alt condG_true condG_false runYK_skip runYK_region runYK_draw runYK_seq runYK_cond runYK_block runYK_loop runYK_exit runYK_ret contYK_nil contYK_seq contYK_seq_ret contYK_seq_exit contYK_block contYK_block_ret contYK_block_exit runYO_nil runYO_cons finY_normal finY_ret roundY_ret roundY_exit
attribute [local simp] condYK_bool onYI_some onYP_some onYP_none onYA_some onYA_none stepY yldArgs AS.clean keepV hoN hnY rebI setPs heldH
set_option maxRecDepth 10000
/-! ## Appending a batch -/
def chunkB (b : List UInt8) (j : Nat) : List UInt8 := (b.drop (46 * j)).take 46
/-- the frames of a batch, none marked as the last -/
def chunkF (L : LogS) (b : List UInt8) (n : Nat) : List FrameS := (List.range n).map fun (j : Nat) => ⟨L.h.epoch, L.at_ + (j : Int), false, chunkB b j⟩
@[simp] theorem chunkF_length (L : LogS) (b : List UInt8) (n : Nat) : (chunkF L b n).length = n := by simp [chunkF]
theorem chunkF_succ (L : LogS) (b : List UInt8) (n : Nat) : framesA (chunkF L b (n + 1)) = framesA (chunkF L b n) ++ [.c (.int .i64 L.h.epoch), .c (.int .i64 (L.at_ + (n : Int))), .c (.bool false), .fs 1 (chunkB b n).length (u8av (chunkB b n))] := by
  simp [chunkF, List.range_succ, framesA, frameA]
/-- the last one marked -/
def markL (l : List FrameS) : List FrameS := match l.getLast? with
  | some f => l.dropLast ++ [{ f with last := true }]
  | none => []
def framesOf (L : LogS) (b : List UInt8) : List FrameS := if b.length = 0 then [⟨L.h.epoch, L.at_, false, []⟩] else chunkF L b (chunkN b)
/-- the error, the device, the log behind Append -/
def appS (D : DevS) (L : LogS) (b : List UInt8) : Int × DevS × LogS :=
  if L.down = true then (60, D, L)
  else if 65536 < b.length then (2, D, L)
  else if roomL L < (framesOf L b).length then (70, D, L)
  else if (layS D (markL (framesOf L b))).1 ≠ 0 then ((layS D (markL (framesOf L b))).1, (layS D (markL (framesOf L b))).2, { L with down := true })
  else (0, (layS D (markL (framesOf L b))).2, { L with at_ := L.at_ + (framesOf L b).length, bs := L.bs ++ [b] })
theorem st_3 {l : List Nat} {st : Nat → Bool} {n : Nat} (hst : st = fun k => decide (k < 3)) : ∀ i, i < n → st i = true → (0 :: 1 :: 2 :: l)[i]? = some i := by
  intro i _ h
  subst hst
  have h : i < 3 := by simpa using h
  match i, h with
  | 0, _ => rfl
  | 1, _ => rfl
  | 2, _ => rfl
theorem framesA_app (a b : List FrameS) : framesA (a ++ b) = framesA a ++ framesA b := by simp [framesA]
theorem mark_put (l : List FrameS) (hl : 1 ≤ l.length) : List.take ((l.length - 1) * 4 + 2) (framesA l) ++ AV.c (.bool true) :: List.drop ((l.length - 1) * 4 + 2 + 1) (framesA l) = framesA (markL l) := by
  have hne : l ≠ [] := by intro h; subst h; simp at hl
  obtain ⟨i, f, rfl⟩ : ∃ i f, l = i ++ [f] := ⟨l.dropLast, l.getLast hne, (List.dropLast_concat_getLast hne).symm⟩
  have e1 : (i ++ [f]).length - 1 = i.length := by simp
  have e2 : markL (i ++ [f]) = i ++ [{ f with last := true }] := by simp [markL]
  rw [e1, e2, framesA_app, framesA_app]
  have hi : (framesA i).length = i.length * 4 := by simp
  rw [List.take_append, List.drop_append, hi, List.take_of_length_le (by omega), List.drop_eq_nil_of_le (by omega)]
  have e3 : i.length * 4 + 2 - i.length * 4 = 2 := by omega
  have e4 : i.length * 4 + 2 + 1 - i.length * 4 = 3 := by omega
  rw [e3, e4]
  simp [framesA, frameA]
theorem markL_length (l : List FrameS) : (markL l).length = l.length := by
  unfold markL
  cases h : l.getLast? with
  | none => rw [List.getLast?_eq_none_iff] at h; subst h; rfl
  | some f =>
    have : l ≠ [] := by intro h'; subst h'; simp at h
    have := List.length_pos_iff.2 this
    simp; omega
theorem markL_mem (l : List FrameS) (f : FrameS) (hf : f ∈ markL l) : ∃ g ∈ l, f.k = g.k ∧ f.body = g.body := by
  unfold markL at hf
  cases h : l.getLast? with
  | none => rw [h] at hf; cases hf
  | some g =>
    rw [h] at hf
    simp only [List.mem_append, List.mem_singleton] at hf
    rcases hf with hf | rfl
    · exact ⟨f, List.dropLast_subset _ hf, rfl, rfl⟩
    · exact ⟨g, List.mem_of_getLast? h, rfl, rfl⟩
theorem framesOf_len (L : LogS) (b : List UInt8) : 1 ≤ (framesOf L b).length ∧ (framesOf L b).length ≤ chunkN b + 1 := by
  unfold framesOf
  split
  · simp
  · simp [chunkN]; omega
theorem framesOf_ok (L : LogS) (b : List UInt8) (hb : b.length ≤ 65536) (ha : 0 ≤ L.at_ ∧ L.at_ ≤ 100000) : ∀ f ∈ framesOf L b, 0 ≤ f.k ∧ f.k ≤ 1000000 ∧ f.body.length ≤ 1000000 := by
  intro f hf
  unfold framesOf at hf
  split at hf
  · simp only [List.mem_singleton] at hf; subst hf
    exact ⟨ha.1, by simp only; omega, by simp⟩
  · simp only [chunkF, List.mem_map, List.mem_range] at hf
    obtain ⟨j, hj, rfl⟩ := hf
    have : chunkN b ≤ 1426 := by unfold chunkN; omega
    exact ⟨by simp only; omega, by simp only; omega, by simp [chunkB]; omega⟩
theorem isD_fs (z n : Nat) (l : List AV) : isD (.fs z n l) = true := rfl
theorem rangeFG_wk {P : Program} {E : Env} {c : Code} {s s' : AS} {Q : Exit → AS → Prop} (hw : Wk E s s') (h : RangeFG P E c s' Q) : RangeFG P E c s Q := fun a w hs => h a w (hw a w hs)
set_option maxHeartbeats 8000000 in
theorem append_fs (D : DevS) (hD : D.Ok) (hcl : D.calls ≤ 50000) (hwl : D.wait.length ≤ 50000) (L : LogS) (b : List UInt8) (hb : b.length ≤ maxLen) (hfr : 0 ≤ L.frames ∧ L.frames ≤ 100000) (hat : 0 ≤ L.at_ ∧ L.at_ ≤ L.frames) (hbl : L.bs.length ≤ 100000) :
    ACalls Try.prog 13 [.ptr 0 0 9, .fs 1 b.length (u8av b)] (logO D L) (fun k => decide (k < 3)) (fun r h' => r = .c (.int .i64 (appS D L b).1) ∧ h' = logO (appS D L b).2.1 (appS D L b).2.2) := by
  refine acallsMC [12] mixed Try.func13 rfl Try.ntmps13 rfl fun E hE hst hho hmk => ?_
  simp (maxSteps := 1000000) [logO, logB, batR, devAt, hho, -List.reduceReplicate]
  refine call_x [0, 1, 2, 3, 4] (up_log D L) rfl rfl ⟨rfl, rfl⟩ hho (by simp) (by decide) (by simp) (by simp [logO, devAt]) ?_
  by_cases hdn : L.down = true
  · have hA : appS D L b = (60, D, L) := by unfold appS; rw [if_pos hdn]
    rw [hA]
    simp (maxSteps := 1000000) [hho, hdn, logO, logB, batR, devAt, -List.reduceReplicate]
    refine Ret.sel [0, 1, 2, 3, 4] (fun _ => false) (ho := by rfl) (ha := by rfl) ?_ ?_ (by decide) (by simp) (st_pre 3 [3, 4] _) ⟨rfl, ?_⟩
    · simp
    · simp
    · simp [hdn]
  have hdn' : L.down = false := by simpa using hdn
  by_cases hbig : 65536 < b.length
  · have hA : appS D L b = (2, D, L) := by unfold appS; rw [if_neg hdn, if_pos hbig]
    have hbi : (65536 : Int) < b.length := by omega
    rw [hA]
    simp (maxSteps := 1000000) [hho, hdn', hbig, hbi, logO, logB, batR, devAt, -List.reduceReplicate]
    refine Ret.sel [0, 1, 2, 3, 4] (fun _ => false) (ho := by rfl) (ha := by rfl) ?_ ?_ (by decide) (by simp) (st_pre 3 [3, 4] _) ⟨rfl, ?_⟩
    · simp
    · simp
    · simp [hdn']
  have hbi : ¬ (65536 : Int) < b.length := by omega
  simp (maxSteps := 1000000) [hho, hdn', hbig, hbi, logO, logB, batR, devAt, -List.reduceReplicate]
  refine call_x [] (chunk_call b) rfl rfl ⟨rfl, rfl⟩ hho (by simp) (by decide) (by simp) (by simp) ?_
  simp (maxSteps := 1000000) [hho, -List.reduceReplicate]
  obtain ⟨hb0, hhb0⟩ : ∃ hb0, hb0 = logO D L := ⟨_, rfl⟩
  have hL0 : logO D L = [logB L 1 4, .o .box [.sl 2 64 0 D.kept.length (D.kept.length * 64), .sl 3 65 0 D.wait.length (D.wait.length * 65), .c (.bool D.bound), .c (.int .i64 D.left), .c (.int .i64 D.calls)], .o (.row 93 64) (keptA D.kept), .o (.row 95 65) (waitA D.wait), batR L.bs] := rfl
  have hN : chunkN b ≤ 1426 := by unfold chunkN; omega
  refine rangeFG_wk (wk_virtC 6 0 90 4 rfl rfl) ?_
  refine range_k mixed [7, 8] (chunk_seq b (by omega)) hho hmk ⟨by simp, rfl⟩ rfl rfl rfl (by simp) (by decide) (fun j => ⟨by simpa using chunkI_ok b j, rfl⟩) rfl (by simp) (fun _ => True) trivial (fun j => logO D L ++ [.o .box [.ptr 0 0 9], .o .box [.sl 9 4 0 j (j * 4)], .o .box [.fs 1 b.length (u8av b)], .o .box [.c (.int .i64 46)], .o (.row 90 4) (framesA (chunkF L b j))]) (by simp [hL0, logB, batR, hdn', chunkF, framesA]) (by intro j _ k hk; simp at hk; rcases hk with rfl | rfl <;> rfl) ?_ ?_
  · intro j hj _ E' hho' hE' hst'
    simp (maxSteps := 1000000) [chunkI, hL0, logB, batR, hho', rebI, -List.reduceReplicate]
    refine ⟨by simp [heldH, lens, lnO], fun E2 ho2 ln2 st2 => ?_⟩
    simp (maxSteps := 1000000) [ho2, -List.reduceReplicate]
    refine draw_h (fun k => [7, 8].contains k) ho2 (.take 0 (.take 1 (.take 2 (.take 3 (.take 4 (.take 5 (.take 6 (.take 7 (.take 8 (.take 9 (.take 10 (.take 11 (.take 12 (.take 13 (.take 14 (.alt 15 (.alt 16 (.alt 17 (.done) (.nil)) (.nil)) (.nil))))))))))))))))) [0, 5, 6] [(17, [6])] (by decide +kernel) (by simp) ?_
    have eat : IntKind.i64.wrap (L.at_ + (j : Int)) = L.at_ + j := IntWalk.i64_in _ (by omega)
    simp (maxSteps := 1000000) [ho2, eat, roOf, holdOf, wrOf, altK, heldOk, Region.binds, -List.reduceReplicate]
    have ecs := chunkF_succ L b j
    unfold chunkB at ecs
    refine fun _ _ => ⟨by omega, fun _ => range_next 10 1 trivial rfl (by simpa using ln2) ?_ ?_⟩
    · simp [ecs, Nat.add_mul]
    · simp [livH, livO, AV.livL, AV.liv, wkL, wkV, List.range', batchA_liv]
  · intro _
    simp (maxSteps := 1000000) [hL0, logB, batR, hho, -List.reduceReplicate]
    obtain ⟨fs, hfs⟩ : ∃ fs, fs = framesOf L b := ⟨_, rfl⟩
    refine seq_cut mixed [] (fun _ : Unit => ⟨slotsOf 91 [(1, .fs 1 b.length (u8av b)), (2, .ptr 5 0 1), (6, .ptr 6 0 1)], logO D L ++ [.o .box [.ptr 0 0 9], .o .box [.sl 7 4 0 fs.length (fs.length * 4)], .o (.row 90 4) (framesA fs)]⟩) (fun _ => True) ?_ ?_
    · rintro _ _
      simp (maxSteps := 1000000) [hL0, logB, batR, slotsOf, hho, -List.reduceReplicate]
      refine draw_k hho (.take 0 (.take 1 (.take 2 (.alt 3 (.take 4 (.done)) (.nil))))) [5, 6] [] (by decide +kernel) (by simp) ?_
      simp (maxSteps := 1000000) [hho, roOf, holdOf, wrOf, altK, heldOk, Region.binds, -List.reduceReplicate]
      intro E1
      refine call_h [0, 1, 2, 3, 4] (room_log D L (by omega) (by omega)) rfl rfl ⟨rfl, rfl⟩ (by simp) (by simp) (by decide) (by simp) (by simp [logO, devAt]) ?_
      obtain ⟨hf1, hf2⟩ := framesOf_len L b
      have hfo := framesOf_ok L b (by omega) ⟨hat.1, by omega⟩
      rw [← hfs] at hf1 hf2 hfo
      by_cases hroom : roomL L < fs.length
      · have hA : appS D L b = (70, D, L) := by unfold appS; rw [if_neg hdn, if_neg hbig, ← hfs, if_pos hroom]
        rw [hA]
        simp (maxSteps := 1000000) [hho, hroom, hL0, logB, batR, roOf, holdOf, wrOf, altK, heldOk, Region.binds, -List.reduceReplicate]
        refine Ret.sel [0, 1, 2, 3, 4] (fun _ => false) (ho := by rfl) (ha := by rfl) ?_ ?_ (by decide) (by simp) (st_pre 3 [3, 4] _) ⟨rfl, ?_⟩
        · simp
        · simp
        · rfl
      have en1 : IntKind.i64.wrap ((fs.length : Int) - 1) = ((fs.length - 1 : Nat) : Int) := by rw [IntWalk.i64_in _ (by omega)]; omega
      simp (maxSteps := 1000000) [hho, hroom, hL0, logB, batR, en1, roOf, holdOf, wrOf, altK, heldOk, Region.binds, -List.reduceReplicate]
      rw [mark_put fs hf1]
      obtain ⟨ms, hms⟩ : ∃ ms, ms = markL fs := ⟨_, rfl⟩
      have hml : ms.length = fs.length := by rw [hms]; exact markL_length fs
      rw [← hms, ← hml]
      refine ⟨by omega, by omega, ?_⟩
      refine call_d [0, 1, 2, 3, 4, 7] (fun _ => false) [3] (lay_ok D hD hcl hwl L ms (by omega) fun f hf => by obtain ⟨g, g1, g2, g3⟩ := markL_mem fs f (by rw [← hms]; exact hf); rw [g2, g3]; exact hfo g g1) rfl rfl ⟨rfl, rfl⟩ hho ?_ (by simp [livH, livO, AV.livL, AV.liv, wkL, wkV, List.range']) (by simp [livH, livO, AV.livL, AV.liv, wkL, wkV, List.range', batchA_liv]) (by simp [hst]) (by decide) (by decide) (by simp) (by simp [logO, devAt]) ?_
      · intro i q h
        match i, h with
        | 0, _ => exact .inl rfl
        | 1, _ => exact .inl rfl
        | 2, _ => exact .inl rfl
        | 3, h => simp at h; exact .inr (by simp [h])
        | 4, _ => exact .inl rfl
        | 5, _ => exact .inl rfl
        | i + 6, h => simp at h
      obtain ⟨W, hW⟩ : ∃ W, W = layS D ms := ⟨_, rfl⟩
      rw [← hW]
      have hL1 : ∀ D : DevS, logO D L = [logB L 1 4, .o .box [.sl 2 64 0 D.kept.length (D.kept.length * 64), .sl 3 65 0 D.wait.length (D.wait.length * 65), .c (.bool D.bound), .c (.int .i64 D.left), .c (.int .i64 D.calls)], .o (.row 93 64) (keptA D.kept), .o (.row 95 65) (waitA D.wait), batR L.bs] := fun _ => rfl
      by_cases hw0 : W.1 = 0
      · have hA : appS D L b = (0, W.2, { L with at_ := L.at_ + fs.length, bs := L.bs ++ [b] }) := by unfold appS; rw [if_neg hdn, if_neg hbig, ← hfs, if_neg hroom, ← hms, ← hW, if_neg (by rw [hw0]; decide)]
        rw [hA, hw0]
        simp (maxSteps := 1000000) [hho, hL1, logB, batR, -List.reduceReplicate]
        have eat : IntKind.i64.wrap (L.at_ + (ms.length : Int)) = L.at_ + fs.length := by rw [hml]; exact IntWalk.i64_in _ (by omega)
        refine draw_k hho (.take 0 (.take 1 (.take 2 (.take 3 (.take 4 (.take 5 (.take 6 (.take 7 (.take 8 (.alt 9 (.done) (.nil))))))))))) [0, 5, 6] [(9, [0])] (by decide +kernel) (by simp) ?_
        simp (maxSteps := 1000000) [hho, eat, roOf, holdOf, wrOf, altK, heldOk, Region.binds, -List.reduceReplicate]
        intro _
        refine draw_k hho (.take 0 (.take 1 (.take 2 (.take 3 (.take 4 (.take 5 (.alt 6 (.alt 7 (.alt 8 (.take 9 (.take 10 (.alt 11 (.done) (.nil)))) (.nil)) (.nil)) (.nil)))))))) [0, 5] [(11, [0])] (by decide +kernel) (by simp) ?_
        simp (maxSteps := 1000000) [hho, roOf, holdOf, wrOf, altK, heldOk, Region.binds, -List.reduceReplicate]
        intro E3
        refine call_h [] (clone8_fs b.length (u8av b) (by simp) (by omega) (by simp)) rfl rfl ⟨rfl, rfl⟩ (by simp) (by simp) (by decide) (by simp) (by simp) ?_
        simp (maxSteps := 1000000) [hho, roOf, holdOf, wrOf, altK, heldOk, Region.binds, -List.reduceReplicate]
        refine fun _ _ => ⟨by omega, fun _ => ?_⟩
        refine Ret.wkh (fun E hEo hEl => wk_data 4 L.bs.length 8 (kd := .row 33 1) (cs := batchA L.bs ++ [.sl 8 1 0 b.length b.length]) (l := u8av b) (e := 5) (sz := 1) (n := b.length) (m := b.length) (by rw [hEo]; rfl) (by decide) rfl (by rw [List.getElem?_append_right (by simp)]; simp) rfl (by simp) (by simp) (by simp [maxLen]; omega) (by simp)) ?_
        have est : (batchA L.bs ++ [AV.sl 8 1 0 b.length b.length]).set L.bs.length (.fs 1 b.length (u8av b)) = batchA (L.bs ++ [b]) := by
          have hlj : (batchA L.bs).length = L.bs.length := by simp
          rw [List.set_append_right _ _ (by omega), hlj, Nat.sub_self, batchA_snoc]; rfl
        rw [est]
        refine Ret.sel [0, 1, 2, 3, 4] (fun _ => false) (ho := by rfl) (ha := by rfl) ?_ ?_ (by decide) (by simp) (st_pre 3 [3, 4] _) ⟨rfl, ?_⟩
        · simp
        · simp
        · rfl
      · have hA : appS D L b = (W.1, W.2, { L with down := true }) := by unfold appS; rw [if_neg hdn, if_neg hbig, ← hfs, if_neg hroom, ← hms, ← hW, if_pos hw0]
        rw [hA]
        simp (maxSteps := 1000000) [hho, hw0, hL1, logB, batR, -List.reduceReplicate]
        refine Ret.sel [0, 1, 2, 3, 4] (fun _ => false) (ho := by rfl) (ha := by rfl) ?_ ?_ (by decide) (by simp) (st_pre 3 [3, 4] _) ⟨rfl, ?_⟩
        · simp
        · simp
        · rfl
    · by_cases hb0 : b.length = 0
      · have hc0 : chunkN b = 0 := by unfold chunkN; omega
        simp (maxSteps := 1000000) [hho, hc0, -List.reduceReplicate]
        refine draw_k hho (.take 0 (.take 1 (.take 2 (.take 3 (.take 4 (.take 5 (.take 6 (.take 7 (.take 8 (.take 9 (.alt 10 (.alt 11 (.done) (.nil)) (.nil)))))))))))) [0, 5] [] (by decide +kernel) (by simp) ?_
        simp (maxSteps := 1000000) [hho, roOf, holdOf, wrOf, altK, heldOk, Region.binds, -List.reduceReplicate]
        intro _ _
        refine cut_to () trivial ?_
        have hfe : fs = [⟨L.h.epoch, L.at_, false, []⟩] := by rw [hfs]; unfold framesOf; rw [if_pos hb0]
        refine Wk.trans (wk_cell 10 3 rfl rfl fun G F w v _ h => nil_fs0 1 h) ?_
        refine wk_sel [0, 1, 2, 3, 4, 5, 6, 10] (slotsOf 91 [(1, .fs 1 b.length (u8av b)), (2, .ptr 5 0 1), (6, .ptr 6 0 1)]) hho (by simp [livH, livO, AV.livL, AV.liv, wkL, wkV, List.range', slotsOf]) rfl rfl ?_ ?_ (by decide) ?_ (by simp [hE, logO, devAt, lens]) ?_ ?_
        · simp [isD_fs]
        · simp [slotsOf]
        · exact st_3 hst
        · rfl
        · simp [hL0, logB, batR, hfe, framesA, frameA]
      · have hc0 : ¬ chunkN b = 0 := by unfold chunkN; omega
        simp (maxSteps := 1000000) [hho, hc0, -List.reduceReplicate]
        refine cut_to () trivial ?_
        have hfe : fs = chunkF L b (chunkN b) := by rw [hfs]; unfold framesOf; rw [if_neg hb0]
        refine wk_sel [0, 1, 2, 3, 4, 5, 6, 9] (slotsOf 91 [(1, .fs 1 b.length (u8av b)), (2, .ptr 5 0 1), (6, .ptr 6 0 1)]) hho (by simp [livH, livO, AV.livL, AV.liv, wkL, wkV, List.range', slotsOf]) rfl rfl ?_ ?_ (by decide) ?_ (by simp [hE, logO, devAt, lens]) ?_ ?_
        · simp
        · simp [slotsOf]
        · exact st_3 hst
        · rfl
        · simp [hL0, logB, batR, hfe]
end Go.Proofs.Ytmgpiminicgbiaa
