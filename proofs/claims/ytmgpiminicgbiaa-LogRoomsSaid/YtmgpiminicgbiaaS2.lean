import Derived.Test.YtmgpiminicgbiaaS1
namespace Go.Proofs.Ytmgpiminicgbiaa
set_option linter.unusedVariables false
set_option linter.unusedSimpArgs false
open Go.RowKit
attribute [local simp] isCut_nil isCut_region isCut_seq isCut_block isCut_loop isCut_cond isCut_skip isCut_exit isCut_ret isCut_range swapK putK altK condK_bool pickP_bool stepP stepO onPure_some onPure_none onImpl_some onImpl_none stepC onGP_some onGP_none onGV_some condG mkG onIt_it nextP_ptr takeP_eq takeV_some takeN_none takeN_some takeG_some takeO_some altO_some pureV binV intBin strBin isSh shV fldV ixV sliceV loadAV nilV lenV callV unV convV viewS cellsH loadV fldCut AV.ung AV.gc AV.cells AS.ev AS.put anyS gcsV lens lnO gV guardV retK RetP_eq resV oneV anyRo loIx hiIx implO callP_clo evL gcsL storeAV AS.push AS.setO appV copyV buildV partsV fillV srcV fzO okV isCell_c isCell_ptr isCell_sl isCell_fs isCell_fp isCell_clo rowZ_one rowZ_zero rowZ_2 rowZ_3 rowZ_4 rowZ_5 rowZ_6 rowZ_7 rowZ_8 rowZ_9 rowZ_10 rowZ_11 rowZ_12 noHo Value.oneCell' max2V min2V afterH putBack frzFrom frzO rebO backIx nilEq_sl nilEq_fs nilOp_eql nilOp_neq AV.reb AV.rebL
attribute [local simp ↓] runK_skip runK_region runK_draw runK_seq runK_cut runK_cond runK_block runK_loop runK_exit runK_label runK_goto runK_ret runK_range contK_nil contK_seq contK_seq_ret contK_seq_exit contK_seq_goto contK_block contK_block_ret contK_block_goto contK_block_exit runO_nil runO_cons roundK_exit roundK_ret roundK_goto exitK_ret cutK_ret cutK_exit runE_done runE_nil runE_take runE_alt condG_true condG_false
set_option maxRecDepth 10000
def zB : B64 := ⟨List.replicate 64 0, rfl⟩
def newS (n : Nat) : DevS := ⟨List.replicate n zB, [], false, 0, 0⟩
theorem u8av_isD (l : List UInt8) : ∀ x ∈ u8av l, isD x = true := by simp [u8av, isD]
@[simp] theorem u8av_all (l : List UInt8) : (∀ x ∈ u8av l, isD x = true) ↔ True := iff_true_intro (u8av_isD l)
@[simp] theorem u8av_cell (l : List UInt8) : (∀ x ∈ u8av l, isCell x = true) ↔ True := iff_true_intro (by simp [u8av, isCell, Value.oneCell', u8])
@[simp] theorem keptA_all (l : List B64) : (∀ x ∈ keptA l, isD x = true) ↔ True := iff_true_intro <| by
  intro x hx
  simp only [keptA, List.mem_flatMap] at hx
  obtain ⟨b, _, hb⟩ := hx
  exact u8av_isD _ _ hb
@[simp] theorem waitA_all (l : List (Nat × B64)) : (∀ x ∈ waitA l, isD x = true) ↔ True := iff_true_intro <| by
  intro x hx
  simp only [waitA, List.mem_flatMap, avW, List.mem_cons] at hx
  obtain ⟨b, _, rfl | hb⟩ := hx
  · rfl
  · exact u8av_isD _ _ hb
theorem rowZ_kept (n : Nat) : rowZ n (List.replicate 64 (.int .u8 0)) = keptA (List.replicate n zB) := by
  induction n with
  | zero => rfl
  | succ n ih => 
    have : rowZ (n+1) (List.replicate 64 (.int .u8 0)) = (List.replicate 64 (.int .u8 0)).map AV.c ++ rowZ n (List.replicate 64 (.int .u8 0)) := by simp [rowZ, List.replicate_succ]
    rw [this, ih, List.replicate_succ]
    rfl
theorem new_ok (n : Int) (h1 : 1 ≤ n) (h2 : n ≤ 65536) : ACalls Try.prog 8 [.c (.int .i64 n)] [] (fun _ => false) (fun r h' => r = .tup [.ptr 0 0 5, .c (.int .i64 0)] ∧ h' = devO (newS n.toNat)) := by
  refine acalls mixed Try.func8 rfl Try.ntmps8 rfl fun E hE _ hho => ?_
  simp [-List.reduceReplicate]
  split
  · omega
  refine ⟨by omega, ?_⟩
  refine Ret.wk (fun E hE => wk_virtC 1 1 95 65 rfl rfl) ?_
  refine Ret.sel [1, 0, 2] (fun _ => false) (ho := by rfl) (ha := by rfl) ?_ ?_ (by decide) (by simp) (by simp) ⟨?_, ?_⟩
  · simp [rowZ_kept, -List.reduceReplicate]
  · simp
  · rfl
  · simp [devO, newS, rowZ_kept, waitA, -List.reduceReplicate]
theorem new_bad (n : Int) (h : n < 1 ∨ 65536 < n) : ACalls Try.prog 8 [.c (.int .i64 n)] [] (fun _ => false) (fun r h' => r = .tup [.c (.pointer none), .c (.int .i64 2)] ∧ h' = []) := by
  refine acalls mixed Try.func8 rfl Try.ntmps8 rfl fun E hE _ hho => ?_
  simp [-List.reduceReplicate, h]
  exact Ret.same ⟨rfl, rfl⟩
def padB (l : List UInt8) : B64 := ⟨(l ++ List.replicate 64 0).take 64, by simp⟩
theorem copy_pad (x : AV) (l : List UInt8) : List.take 64 (u8av l) ++ List.drop (1 + min 64 l.length) (x :: List.replicate 64 (AV.c (Value.int IntKind.u8 0))) = u8av (padB l).1 := by
  have e : (List.replicate 64 (AV.c (Value.int IntKind.u8 0))) = u8av (List.replicate 64 0) := rfl
  rw [Nat.add_comm, List.drop_succ_cons, e]
  simp only [u8av, padB, ← List.map_take, ← List.map_drop, ← List.map_append]
  congr 1
  rw [List.take_append, List.drop_replicate, List.take_replicate]
  congr 2
  omega
def writeS (d : DevS) (i : Int) (l : List UInt8) : DevS := if checkS d i l.length = 0 then countS { d with wait := d.wait ++ [(i.toNat, padB l)] } else d
theorem check_ok {d : DevS} {i : Int} {n : Nat} (h : checkS d i n = 0) : 0 ≤ i ∧ i < (d.kept.length : Int) ∧ n ≤ 64 ∧ (d.bound = true → d.left ≠ 0) := by
  unfold checkS at h
  split at h
  · cases h
  · split at h
    · cases h
    · rename_i h1 h2
      refine ⟨by omega, by omega, by omega, fun hb hl => h2 ⟨hb, hl⟩⟩
theorem write_fs (d : DevS) (hd : d.Ok) (i : Int) (l : List UInt8) : ACalls Try.prog 26 [.ptr 0 0 5, .c (.int .i64 i), .fs 1 l.length (u8av l)] (devO d) (fun k => decide (k < 3)) (fun r h' => r = .c (.int .i64 (checkS d i l.length)) ∧ h' = devO (writeS d i l)) := by
  refine acalls mixed Try.func26 rfl Try.ntmps26 rfl fun E hE _ hho => ?_
  simp [devO, hho, -List.reduceReplicate]
  refine call_x [0, 1, 2] (check_fs d i l.length (u8av l)) rfl rfl ⟨rfl, rfl⟩ hho (by simp) (by decide) (by simp) (by simp [devO]) ?_
  simp [devO, hho, copy_pad, -List.reduceReplicate]
  split <;> rename_i hc
  · refine ⟨?_, ?_⟩
    · decide
    refine draw_k hho (.take 0 (.take 1 (.take 2 (.take 3 (.take 4 (.take 5 (.alt 6 (.alt 7 (.take 8 (.take 9 (.alt 10 .done .nil))) .nil) .nil))))))) [0, 3] [(10, [0])] (by decide +kernel) (by simp) ?_
    simp [roOf, holdOf, wrOf, altK, heldOk, Region.binds, -List.reduceReplicate]
    refine fun _ _ => ⟨by have := hd.wl; omega, fun _ => ?_⟩
    obtain ⟨k1, k2, k3, k4⟩ := check_ok hc
    have e : ((i.toNat : Nat) : Int) = i := by omega
    refine call_x [0, 1, 2] (count_dev { d with wait := d.wait ++ [(i.toNat, padB l)] } ⟨hd.c1, hd.c2⟩ fun hb => ⟨by have := k4 hb; have := hd.l1; simp only; omega, hd.l2⟩) rfl rfl ?_ hho (by simp) (by decide) ?_ (by simp [devO]) ?_
    · simp [devO, waitA, avW, e, Nat.add_mul]
    · simp [devO, -List.reduceReplicate]
    simp [devO, hho, -List.reduceReplicate]
    refine Ret.sel [0, 1, 2] (fun _ => false) (ho := by rfl) (ha := by rfl) ?_ ?_ (by decide) (by simp) (st_lt 3 _) ⟨?_, ?_⟩
    · simp
    · simp
    · simp [hc]
    · simp [writeS, hc]
  · refine Ret.same ⟨rfl, ?_⟩
    simp [writeS, hc]
theorem write_sl (d : DevS) (hd : d.Ok) (i : Int) (l : List UInt8) (e0 : TypeId) : ACalls Try.prog 26 [.ptr 0 0 5, .c (.int .i64 i), .sl 3 1 0 l.length l.length] (devO d ++ [.o (.row e0 1) (u8av l)]) (fun k => decide (k < 4)) (fun r h' => r = .c (.int .i64 (checkS d i l.length)) ∧ h' = devO (writeS d i l) ++ [.o (.row e0 1) (u8av l)]) := by
  refine acalls mixed Try.func26 rfl Try.ntmps26 rfl fun E hE _ hho => ?_
  simp [devO, hho, -List.reduceReplicate]
  refine call_x [0, 1, 2, 3] (check_sl d i l.length e0 (u8av l) (by simp)) rfl rfl ⟨rfl, rfl⟩ hho (by simp) (by decide) (by simp) (by simp [devO]) ?_
  simp [devO, hho, copy_pad, -List.reduceReplicate]
  split <;> rename_i hc
  · refine ⟨?_, ?_⟩
    · decide
    refine draw_k hho (.take 0 (.take 1 (.take 2 (.take 3 (.take 4 (.take 5 (.alt 6 (.alt 7 (.take 8 (.take 9 (.alt 10 .done .nil))) .nil) .nil))))))) [0, 4] [(10, [0])] (by decide +kernel) (by simp) ?_
    simp [roOf, holdOf, wrOf, altK, heldOk, Region.binds, -List.reduceReplicate]
    refine fun _ _ => ⟨by have := hd.wl; omega, fun _ => ?_⟩
    obtain ⟨k1, k2, k3, k4⟩ := check_ok hc
    have e : ((i.toNat : Nat) : Int) = i := by omega
    refine call_x [0, 1, 2] (count_dev { d with wait := d.wait ++ [(i.toNat, padB l)] } ⟨hd.c1, hd.c2⟩ fun hb => ⟨by have := k4 hb; have := hd.l1; simp only; omega, hd.l2⟩) rfl rfl ?_ hho (by simp) (by decide) ?_ (by simp [devO]) ?_
    · simp [devO, waitA, avW, e, Nat.add_mul]
    · simp [devO, -List.reduceReplicate]
    simp [devO, hho, -List.reduceReplicate]
    refine Ret.sel [0, 1, 2, 3] (fun _ => false) (ho := by rfl) (ha := by rfl) ?_ ?_ (by decide) (by simp) (st_lt 4 _) ⟨?_, ?_⟩
    · simp
    · simp
    · simp [hc]
    · simp [writeS, hc]
  · refine Ret.same ⟨rfl, ?_⟩
    simp [writeS, hc]
end Go.Proofs.Ytmgpiminicgbiaa
