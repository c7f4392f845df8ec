import Derived.Test.YtmgpiminicgbiaaTy
import Derived.Test.YtmgpiminicgbiaaHW
import Derived.Test.YtmgpiminicgbiaaG4
namespace Go.Proofs.Ytmgpiminicgbiaa
set_option linter.unusedVariables false
set_option linter.unusedSimpArgs false
open Go.RowKit

abbrev B64 := {l : List UInt8 // l.length = 64}
structure DevS where
  kept : List B64
  wait : List (Nat × B64)
  bound : Bool
  left : Int
  calls : Int
def avB (b : B64) : List AV := u8av b.1
def avW (x : Nat × B64) : List AV := .c (.int .i64 (x.1 : Int)) :: u8av x.2.1
def keptA (l : List B64) : List AV := l.flatMap avB
def waitA (l : List (Nat × B64)) : List AV := l.flatMap avW
@[simp] theorem u8av_length (l : List UInt8) : (u8av l).length = l.length := by simp [u8av]
@[simp] theorem u8av_take (l : List UInt8) : List.take l.length (u8av l) = u8av l := List.take_of_length_le (by simp)
@[simp] theorem b64_len (b : B64) : b.1.length = 64 := b.2
@[simp] theorem b64_take (b : B64) : List.take 64 (u8av b.1) = u8av b.1 := List.take_of_length_le (by simp)
@[simp] theorem avB_length (b : B64) : (avB b).length = 64 := by simp [avB, b.2]
@[simp] theorem avW_length (b : Nat × B64) : (avW b).length = 65 := by simp [avW, b.2.2]
@[simp] theorem keptA_length (l : List B64) : (keptA l).length = l.length * 64 := by
  induction l with
  | nil => rfl
  | cons b l ih => simp [keptA] at ih ⊢; omega
@[simp] theorem waitA_length (l : List (Nat × B64)) : (waitA l).length = l.length * 65 := by
  induction l with
  | nil => rfl
  | cons b l ih => simp [waitA] at ih ⊢; omega
def devO (d : DevS) : List AObj :=
  [.o .box [.sl 1 64 0 d.kept.length (d.kept.length * 64), .sl 2 65 0 d.wait.length (d.wait.length * 65), .c (.bool d.bound), .c (.int .i64 d.left), .c (.int .i64 d.calls)],
   .o (.row 93 64) (keptA d.kept), .o (.row 95 65) (waitA d.wait)]
structure DevS.Ok (d : DevS) : Prop where
  w1 : ∀ x ∈ d.wait, x.1 < d.kept.length
  k1 : 1 ≤ d.kept.length
  k2 : d.kept.length ≤ 65536
  l1 : 0 ≤ d.left
  l2 : d.left ≤ 9223372036854775807
  c1 : 0 ≤ d.calls
  c2 : d.calls ≤ 1000000
  wl : d.wait.length ≤ 1000000
def checkS (d : DevS) (i : Int) (n : Nat) : Int := if i < 0 ∨ (d.kept.length : Int) ≤ i ∨ 64 < n then 2 else if d.bound = true ∧ d.left = 0 then 60 else 0
def countS (d : DevS) : DevS := { d with calls := d.calls + 1, left := if d.bound then d.left - 1 else d.left }
attribute [local simp] isCut_nil isCut_region isCut_seq isCut_block isCut_loop isCut_cond isCut_skip isCut_exit isCut_ret isCut_range swapK putK altK condK_bool pickP_bool stepP stepO onPure_some onPure_none onImpl_some onImpl_none stepC onGP_some onGP_none onGV_some condG mkG onIt_it nextP_ptr takeP_eq takeV_some takeV_none takeU_some takeU_none takeQ takeW_some takeN_none takeN_some takeG_some takeO_some altO_some pureV binV2 eqF eqOp ovlV ovl2 rowAt capV binV intBin strBin isSh shV fldV ixV sliceV slice3V loadAV nilV lenV callV unV convV viewS cellsH loadV fldCut AV.ung AV.ungs AV.gc AV.cells AS.ev AS.put anyS gcsV gcO lens lnO gV guardV retK RetP_eq resV oneV anyRo loIx hiIx implO callP_clo evL gcsL clearV storeAV AS.push AS.setO appV appZ shortS copyV buildV partsV fillV srcV fzO okV isCell_c isCell_ptr isCell_sl isCell_fs isCell_fp isCell_clo rowZ_one rowZ_zero rowZ_2 rowZ_3 rowZ_4 rowZ_5 rowZ_6 rowZ_7 rowZ_8 rowZ_9 rowZ_10 rowZ_11 rowZ_12 noHo Value.oneCell' max2V min2V lookV updV updK updW cvals mkAt basV lenM msAt afterH putBack frzFrom frzO rebO backIx nilEq_sl nilEq_fs nilEq_ifn nilEq_ifh ifOp_eql ifOp_neq isLit nilOp_eql nilOp_neq AV.reb AV.rebL
attribute [local simp ↓] runK_skip runK_region runK_draw runK_seq runK_cut runK_cond runK_block runK_loop runK_exit runK_label runK_goto runK_ret runK_range contK_nil contK_seq contK_seq_ret contK_seq_exit contK_seq_goto contK_block contK_block_ret contK_block_goto contK_block_exit runO_nil runO_cons roundK_exit roundK_ret roundK_goto exitK_ret cutK_ret cutK_exit runE_done runE_nil runE_take runE_alt condG_true condG_false
set_option maxRecDepth 10000
theorem check_fs (d : DevS) (i : Int) (n : Nat) (l : List AV) : ACalls Try.prog 46 [.ptr 0 0 5, .c (.int .i64 i), .fs 1 n l] (devO d) (fun _ => true) (fun r h' => r = .c (.int .i64 (checkS d i n)) ∧ h' = devO d) := by
  refine acalls mixed Try.func46 rfl Try.ntmps46 rfl fun E hE _ hho => ?_
  simp [devO, -List.reduceReplicate]
  (repeat' (first | apply And.intro | split | intro _)) <;> refine Ret.same ⟨?_, rfl⟩ <;> simp only [checkS, AV.c.injEq, Value.int.injEq, true_and] <;> split <;> simp_all <;> omega
theorem check_nilslice (d : DevS) (i : Int) : ACalls Try.prog 46 [.ptr 0 0 5, .c (.int .i64 i), .c (.slice none 0 0)] (devO d) (fun _ => true) (fun r h' => r = .c (.int .i64 (checkS d i 0)) ∧ h' = devO d) := by
  refine acalls mixed Try.func46 rfl Try.ntmps46 rfl fun E hE _ hho => ?_
  simp [devO, -List.reduceReplicate]
  (repeat' (first | apply And.intro | split | intro _)) <;> refine Ret.same ⟨?_, rfl⟩ <;> simp only [checkS, AV.c.injEq, Value.int.injEq, true_and] <;> split <;> simp_all <;> omega
theorem check_sl (d : DevS) (i : Int) (n : Nat) (e : TypeId) (l : List AV) (hl : l.length = n) : ACalls Try.prog 46 [.ptr 0 0 5, .c (.int .i64 i), .sl 3 1 0 n n] (devO d ++ [.o (.row e 1) l]) (fun _ => true) (fun r h' => r = .c (.int .i64 (checkS d i n)) ∧ h' = devO d ++ [.o (.row e 1) l]) := by
  refine acalls mixed Try.func46 rfl Try.ntmps46 rfl fun E hE _ hho => ?_
  simp [devO, -List.reduceReplicate]
  refine ⟨fun h1 h2 => ⟨⟨h1, h2⟩, hl⟩, ?_⟩
  (repeat' (first | apply And.intro | split | intro _)) <;> refine Ret.same ⟨?_, rfl⟩ <;> simp only [checkS, AV.c.injEq, Value.int.injEq, true_and] <;> split <;> simp_all <;> omega
theorem check_nil (i : Int) : ACalls Try.prog 46 [.c (.pointer none), .c (.int .i64 i), .c (.slice none 0 0)] [] (fun _ => true) (fun r h' => r = .c (.int .i64 1) ∧ h' = []) := by
  refine acalls mixed Try.func46 rfl Try.ntmps46 rfl fun E hE _ hho => ?_
  simp [-List.reduceReplicate]
  exact Ret.same ⟨rfl, rfl⟩
theorem check_nil_fs (i : Int) (n : Nat) (l : List AV) : ACalls Try.prog 46 [.c (.pointer none), .c (.int .i64 i), .fs 1 n l] [] (fun _ => true) (fun r h' => r = .c (.int .i64 1) ∧ h' = []) := by
  refine acalls mixed Try.func46 rfl Try.ntmps46 rfl fun E hE _ hho => ?_
  simp [-List.reduceReplicate]
  exact Ret.same ⟨rfl, rfl⟩
theorem count_dev (d : DevS) (hc : 0 ≤ d.calls ∧ d.calls ≤ 1000000) (hl : d.bound = true → 1 ≤ d.left ∧ d.left ≤ 9223372036854775807) : ACalls Try.prog 47 [.ptr 0 0 5] (devO d) (fun _ => true) (fun r h' => r = .tup [] ∧ h' = devO (countS d)) := by
  refine acalls mixed Try.func47 rfl Try.ntmps47 rfl fun E hE _ hho => ?_
  have e1 : IntKind.i64.wrap (d.calls + 1) = d.calls + 1 := IntWalk.i64_in _ (by omega)
  simp [devO, hho, noHo, -List.reduceReplicate]
  split <;> rename_i hb
  · have := hl hb
    have e2 : IntKind.i64.wrap (d.left - 1) = d.left - 1 := IntWalk.i64_in _ (by omega)
    refine Ret.same ⟨rfl, ?_⟩
    simp [countS, e1, e2, hb]
  · refine Ret.same ⟨rfl, ?_⟩
    simp [countS, e1, hb]
/-- a device whose waiting slice is nil -/
def devN (d : DevS) : List AObj :=
  [.o .box [.sl 1 64 0 d.kept.length (d.kept.length * 64), .c (.slice none 0 0), .c (.bool d.bound), .c (.int .i64 d.left), .c (.int .i64 d.calls)], .o (.row 93 64) (keptA d.kept)]
theorem count_nil (d : DevS) (hc : 0 ≤ d.calls ∧ d.calls ≤ 1000000) (hl : d.bound = true → 1 ≤ d.left ∧ d.left ≤ 9223372036854775807) : ACalls Try.prog 47 [.ptr 0 0 5] (devN d) (fun _ => true) (fun r h' => r = .tup [] ∧ h' = devN (countS d)) := by
  refine acalls mixed Try.func47 rfl Try.ntmps47 rfl fun E hE _ hho => ?_
  have e1 : IntKind.i64.wrap (d.calls + 1) = d.calls + 1 := IntWalk.i64_in _ (by omega)
  simp [devN, hho, noHo, -List.reduceReplicate]
  split <;> rename_i hb
  · have := hl hb
    have e2 : IntKind.i64.wrap (d.left - 1) = d.left - 1 := IntWalk.i64_in _ (by omega)
    refine Ret.same ⟨rfl, ?_⟩
    simp [countS, e1, e2, hb]
  · refine Ret.same ⟨rfl, ?_⟩
    simp [countS, e1, hb]
theorem limit_dev (d : DevS) (i : Int) : ACalls Try.prog 11 [.ptr 0 0 5, .c (.int .i64 i)] (devO d) (fun _ => true) (fun r h' => r = .tup [] ∧ h' = devO { d with bound := true, left := max i 0 }) := by
  refine acalls mixed Try.func11 rfl Try.ntmps11 rfl fun E hE _ hho => ?_
  simp [devO, hho, noHo, -List.reduceReplicate]
  exact Ret.same ⟨rfl, rfl⟩
theorem sectors_dev (d : DevS) : ACalls Try.prog 32 [.ptr 0 0 5] (devO d) (fun _ => true) (fun r h' => r = .c (.int .i64 d.kept.length) ∧ h' = devO d) := by
  refine acalls mixed Try.func32 rfl Try.ntmps32 rfl fun E hE _ hho => ?_
  simp [devO, hho, noHo, -List.reduceReplicate]
  exact Ret.same ⟨rfl, rfl⟩
theorem calls_dev (d : DevS) : ACalls Try.prog 29 [.ptr 0 0 5] (devO d) (fun _ => true) (fun r h' => r = .c (.int .i64 d.calls) ∧ h' = devO d) := by
  refine acalls mixed Try.func29 rfl Try.ntmps29 rfl fun E hE _ hho => ?_
  simp [devO, hho, noHo, -List.reduceReplicate]
  exact Ret.same ⟨rfl, rfl⟩
end Go.Proofs.Ytmgpiminicgbiaa
namespace Go.Proofs.Ytmgpiminicgbiaa
set_option linter.unusedVariables false
set_option linter.unusedSimpArgs false
open Go.RowKit
attribute [local simp] isCut_nil isCut_region isCut_seq isCut_block isCut_loop isCut_cond isCut_skip isCut_exit isCut_ret isCut_range swapK putK altK condK_bool pickP_bool stepP stepO onPure_some onPure_none onImpl_some onImpl_none stepC onGP_some onGP_none onGV_some condG mkG onIt_it nextP_ptr takeP_eq takeV_some takeV_none takeU_some takeU_none takeQ takeW_some takeN_none takeN_some takeG_some takeO_some altO_some pureV binV2 eqF eqOp ovlV ovl2 rowAt capV binV intBin strBin isSh shV fldV ixV sliceV slice3V loadAV nilV lenV callV unV convV viewS cellsH loadV fldCut AV.ung AV.ungs AV.gc AV.cells AS.ev AS.put anyS gcsV gcO lens lnO gV guardV retK RetP_eq resV oneV anyRo loIx hiIx implO callP_clo evL gcsL clearV storeAV AS.push AS.setO appV appZ shortS copyV buildV partsV fillV srcV fzO okV isCell_c isCell_ptr isCell_sl isCell_fs isCell_fp isCell_clo rowZ_one rowZ_zero rowZ_2 rowZ_3 rowZ_4 rowZ_5 rowZ_6 rowZ_7 rowZ_8 rowZ_9 rowZ_10 rowZ_11 rowZ_12 noHo Value.oneCell' max2V min2V lookV updV updK updW cvals mkAt basV lenM msAt afterH putBack frzFrom frzO rebO backIx nilEq_sl nilEq_fs nilEq_ifn nilEq_ifh ifOp_eql ifOp_neq isLit nilOp_eql nilOp_neq AV.reb AV.rebL
attribute [local simp ↓] runK_skip runK_region runK_draw runK_seq runK_cut runK_cond runK_block runK_loop runK_exit runK_label runK_goto runK_ret runK_range contK_nil contK_seq contK_seq_ret contK_seq_exit contK_seq_goto contK_block contK_block_ret contK_block_goto contK_block_exit runO_nil runO_cons roundK_exit roundK_ret roundK_goto exitK_ret cutK_ret cutK_exit runE_done runE_nil runE_take runE_alt condG_true condG_false
set_option maxRecDepth 10000
def zB : B64 := ⟨List.replicate 64 0, rfl⟩
def newS (n : Nat) : DevS := ⟨List.replicate n zB, [], false, 0, 0⟩
theorem u8av_isD (l : List UInt8) : ∀ x ∈ u8av l, isD x = true := by simp [u8av, isD]
@[simp] theorem u8av_all (l : List UInt8) : (∀ x ∈ u8av l, isD x = true) ↔ True := iff_true_intro (u8av_isD l)
@[simp] theorem u8av_cell (l : List UInt8) : (∀ x ∈ u8av l, isCell x = true) ↔ True := iff_true_intro (by simp [u8av, isCell, Value.oneCell', u8])
@[simp] theorem keptA_all (l : List B64) : (∀ x ∈ keptA l, isD x = true) ↔ True := iff_true_intro <| by
  intro x hx
  simp only [keptA, List.mem_flatMap] at hx
  obtain ⟨b, _, hb⟩ := hx
  exact u8av_isD _ _ hb
@[simp] theorem waitA_all (l : List (Nat × B64)) : (∀ x ∈ waitA l, isD x = true) ↔ True := iff_true_intro <| by
  intro x hx
  simp only [waitA, List.mem_flatMap, avW, List.mem_cons] at hx
  obtain ⟨b, _, rfl | hb⟩ := hx
  · rfl
  · exact u8av_isD _ _ hb
theorem rowZ_kept (n : Nat) : rowZ n (List.replicate 64 (.int .u8 0)) = keptA (List.replicate n zB) := by
  induction n with
  | zero => rfl
  | succ n ih => 
    have : rowZ (n+1) (List.replicate 64 (.int .u8 0)) = (List.replicate 64 (.int .u8 0)).map AV.c ++ rowZ n (List.replicate 64 (.int .u8 0)) := by simp [rowZ, List.replicate_succ]
    rw [this, ih, List.replicate_succ]
    rfl
theorem new_ok (n : Int) (h1 : 1 ≤ n) (h2 : n ≤ 65536) : ACalls Try.prog 8 [.c (.int .i64 n)] [] (fun _ => false) (fun r h' => r = .tup [.ptr 0 0 5, .c (.int .i64 0)] ∧ h' = devO (newS n.toNat)) := by
  refine acalls mixed Try.func8 rfl Try.ntmps8 rfl fun E hE _ hho => ?_
  simp [-List.reduceReplicate]
  split
  · omega
  refine ⟨by omega, ?_⟩
  refine Ret.wk (fun E hE => wk_virtC 1 1 95 65 rfl rfl) ?_
  refine Ret.sel [1, 0, 2] (fun _ => false) (ho := by rfl) (ha := by rfl) ?_ ?_ (by decide) (by simp) (by simp) ⟨?_, ?_⟩
  · simp [rowZ_kept, -List.reduceReplicate]
  · simp
  · rfl
  · simp [devO, newS, rowZ_kept, waitA, -List.reduceReplicate]
theorem new_bad (n : Int) (h : n < 1 ∨ 65536 < n) : ACalls Try.prog 8 [.c (.int .i64 n)] [] (fun _ => false) (fun r h' => r = .tup [.c (.pointer none), .c (.int .i64 2)] ∧ h' = []) := by
  refine acalls mixed Try.func8 rfl Try.ntmps8 rfl fun E hE _ hho => ?_
  simp [-List.reduceReplicate, h]
  exact Ret.same ⟨rfl, rfl⟩
def padB (l : List UInt8) : B64 := ⟨(l ++ List.replicate 64 0).take 64, by simp⟩
theorem copy_pad (x : AV) (l : List UInt8) : List.take 64 (u8av l) ++ List.drop (1 + min 64 l.length) (x :: List.replicate 64 (AV.c (Value.int IntKind.u8 0))) = u8av (padB l).1 := by
  have e : (List.replicate 64 (AV.c (Value.int IntKind.u8 0))) = u8av (List.replicate 64 0) := rfl
  rw [Nat.add_comm, List.drop_succ_cons, e]
  simp only [u8av, padB, ← List.map_take, ← List.map_drop, ← List.map_append]
  congr 1
  rw [List.take_append, List.drop_replicate, List.take_replicate]
  congr 2
  omega
def writeS (d : DevS) (i : Int) (l : List UInt8) : DevS := if checkS d i l.length = 0 then countS { d with wait := d.wait ++ [(i.toNat, padB l)] } else d
theorem check_ok {d : DevS} {i : Int} {n : Nat} (h : checkS d i n = 0) : 0 ≤ i ∧ i < (d.kept.length : Int) ∧ n ≤ 64 ∧ (d.bound = true → d.left ≠ 0) := by
  unfold checkS at h
  split at h
  · cases h
  · split at h
    · cases h
    · rename_i h1 h2
      refine ⟨by omega, by omega, by omega, fun hb hl => h2 ⟨hb, hl⟩⟩
theorem write_fs (d : DevS) (hd : d.Ok) (i : Int) (l : List UInt8) : ACalls Try.prog 26 [.ptr 0 0 5, .c (.int .i64 i), .fs 1 l.length (u8av l)] (devO d) (fun k => decide (k < 3)) (fun r h' => r = .c (.int .i64 (checkS d i l.length)) ∧ h' = devO (writeS d i l)) := by
  refine acalls mixed Try.func26 rfl Try.ntmps26 rfl fun E hE _ hho => ?_
  simp [devO, hho, -List.reduceReplicate]
  refine call_x [0, 1, 2] (check_fs d i l.length (u8av l)) rfl rfl ⟨rfl, rfl⟩ hho (by simp) (by decide) (by simp) (by simp [devO]) ?_
  simp [devO, hho, copy_pad, -List.reduceReplicate]
  split <;> rename_i hc
  · refine ⟨?_, ?_⟩
    · decide
    refine draw_k hho (.take 0 (.take 1 (.take 2 (.take 3 (.take 4 (.take 5 (.alt 6 (.alt 7 (.take 8 (.take 9 (.alt 10 .done .nil))) .nil) .nil))))))) [0, 3] [(10, [0])] (by decide +kernel) (by simp) ?_
    simp [roOf, holdOf, wrOf, altK, heldOk, Region.binds, -List.reduceReplicate]
    refine fun _ _ => ⟨by have := hd.wl; omega, fun _ => ?_⟩
    obtain ⟨k1, k2, k3, k4⟩ := check_ok hc
    have e : ((i.toNat : Nat) : Int) = i := by omega
    refine call_x [0, 1, 2] (count_dev { d with wait := d.wait ++ [(i.toNat, padB l)] } ⟨hd.c1, hd.c2⟩ fun hb => ⟨by have := k4 hb; have := hd.l1; simp only; omega, hd.l2⟩) rfl rfl ?_ hho (by simp) (by decide) ?_ (by simp [devO]) ?_
    · simp [devO, waitA, avW, e, Nat.add_mul]
    · simp [devO, -List.reduceReplicate]
    simp [devO, hho, -List.reduceReplicate]
    refine Ret.sel [0, 1, 2] (fun _ => false) (ho := by rfl) (ha := by rfl) ?_ ?_ (by decide) (by simp) (st_lt 3 _) ⟨?_, ?_⟩
    · simp
    · simp
    · simp [hc]
    · simp [writeS, hc]
  · refine Ret.same ⟨rfl, ?_⟩
    simp [writeS, hc]
theorem write_sl (d : DevS) (hd : d.Ok) (i : Int) (l : List UInt8) (e0 : TypeId) : ACalls Try.prog 26 [.ptr 0 0 5, .c (.int .i64 i), .sl 3 1 0 l.length l.length] (devO d ++ [.o (.row e0 1) (u8av l)]) (fun k => decide (k < 4)) (fun r h' => r = .c (.int .i64 (checkS d i l.length)) ∧ h' = devO (writeS d i l) ++ [.o (.row e0 1) (u8av l)]) := by
  refine acalls mixed Try.func26 rfl Try.ntmps26 rfl fun E hE _ hho => ?_
  simp [devO, hho, -List.reduceReplicate]
  refine call_x [0, 1, 2, 3] (check_sl d i l.length e0 (u8av l) (by simp)) rfl rfl ⟨rfl, rfl⟩ hho (by simp) (by decide) (by simp) (by simp [devO]) ?_
  simp [devO, hho, copy_pad, -List.reduceReplicate]
  split <;> rename_i hc
  · refine ⟨?_, ?_⟩
    · decide
    refine draw_k hho (.take 0 (.take 1 (.take 2 (.take 3 (.take 4 (.take 5 (.alt 6 (.alt 7 (.take 8 (.take 9 (.alt 10 .done .nil))) .nil) .nil))))))) [0, 4] [(10, [0])] (by decide +kernel) (by simp) ?_
    simp [roOf, holdOf, wrOf, altK, heldOk, Region.binds, -List.reduceReplicate]
    refine fun _ _ => ⟨by have := hd.wl; omega, fun _ => ?_⟩
    obtain ⟨k1, k2, k3, k4⟩ := check_ok hc
    have e : ((i.toNat : Nat) : Int) = i := by omega
    refine call_x [0, 1, 2] (count_dev { d with wait := d.wait ++ [(i.toNat, padB l)] } ⟨hd.c1, hd.c2⟩ fun hb => ⟨by have := k4 hb; have := hd.l1; simp only; omega, hd.l2⟩) rfl rfl ?_ hho (by simp) (by decide) ?_ (by simp [devO]) ?_
    · simp [devO, waitA, avW, e, Nat.add_mul]
    · simp [devO, -List.reduceReplicate]
    simp [devO, hho, -List.reduceReplicate]
    refine Ret.sel [0, 1, 2, 3] (fun _ => false) (ho := by rfl) (ha := by rfl) ?_ ?_ (by decide) (by simp) (st_lt 4 _) ⟨?_, ?_⟩
    · simp
    · simp
    · simp [hc]
    · simp [writeS, hc]
  · refine Ret.same ⟨rfl, ?_⟩
    simp [writeS, hc]
end Go.Proofs.Ytmgpiminicgbiaa
namespace Go.Proofs.Ytmgpiminicgbiaa
set_option linter.unusedVariables false
set_option linter.unusedSimpArgs false
open Go.RowKit
attribute [local simp] isCut_nil isCut_region isCut_seq isCut_block isCut_loop isCut_cond isCut_skip isCut_exit isCut_ret isCut_range swapK putK altK condK_bool pickP_bool stepP stepO onPure_some onPure_none onImpl_some onImpl_none stepC onGP_some onGP_none onGV_some condG mkG onIt_it nextP_ptr takeP_eq takeV_some takeV_none takeU_some takeU_none takeQ takeW_some takeN_none takeN_some takeG_some takeO_some altO_some pureV binV2 eqF eqOp ovlV ovl2 rowAt capV binV intBin strBin isSh shV fldV ixV sliceV slice3V loadAV nilV lenV callV unV convV viewS cellsH loadV fldCut AV.ung AV.ungs AV.gc AV.cells AS.ev AS.put anyS gcsV gcO lens lnO gV guardV retK RetP_eq resV oneV anyRo loIx hiIx implO callP_clo evL gcsL clearV storeAV AS.push AS.setO appV appZ shortS copyV buildV partsV fillV srcV fzO okV isCell_c isCell_ptr isCell_sl isCell_fs isCell_fp isCell_clo rowZ_one rowZ_zero rowZ_2 rowZ_3 rowZ_4 rowZ_5 rowZ_6 rowZ_7 rowZ_8 rowZ_9 rowZ_10 rowZ_11 rowZ_12 noHo Value.oneCell' max2V min2V lookV updV updK updW cvals mkAt basV lenM msAt afterH putBack frzFrom frzO rebO backIx nilEq_sl nilEq_fs nilEq_ifn nilEq_ifh ifOp_eql ifOp_neq isLit nilOp_eql nilOp_neq AV.reb AV.rebL
attribute [local simp ↓] runK_skip runK_region runK_draw runK_seq runK_cut runK_cond runK_block runK_loop runK_exit runK_label runK_goto runK_ret runK_range contK_nil contK_seq contK_seq_ret contK_seq_exit contK_seq_goto contK_block contK_block_ret contK_block_goto contK_block_exit runO_nil runO_cons roundK_exit roundK_ret roundK_goto exitK_ret cutK_ret cutK_exit runE_done runE_nil runE_take runE_alt condG_true condG_false
set_option maxRecDepth 10000
def putW (k : List B64) (x : Nat × B64) : List B64 := k.set x.1 x.2
@[simp] theorem foldl_putW_length (w : List (Nat × B64)) (k : List B64) : (w.foldl putW k).length = k.length := by
  induction w generalizing k with
  | nil => rfl
  | cons x w ih => simp [ih, putW]
def flushS (d : DevS) : DevS := if checkS d 0 0 = 0 then countS { d with kept := d.wait.foldl putW d.kept, wait := [] } else d
theorem waitA_at (w : List (Nat × B64)) (j : Nat) (hj : j < w.length) : List.take 65 (List.drop (j * 65) (waitA w)) = avW w[j] := by
  induction w generalizing j with
  | nil => simp at hj
  | cons x w ih =>
    have e : waitA (x :: w) = avW x ++ waitA w := rfl
    rw [e]
    cases j with
    | zero => simp [List.take_append, List.take_of_length_le]
    | succ j =>
      rw [List.drop_append, List.drop_eq_nil_of_le (by simp; omega), List.nil_append]
      have : (j + 1) * 65 - (avW x).length = j * 65 := by simp; omega
      rw [this]
      exact ih j (by simpa using hj)
theorem keptA_set (k : List B64) (i : Nat) (b : B64) (hi : i < k.length) : List.take (i * 64) (keptA k) ++ (u8av b.1 ++ List.drop (i * 64 + 64) (keptA k)) = keptA (k.set i b) := by
  induction k generalizing i with
  | nil => simp at hi
  | cons x k ih =>
    have e : keptA (x :: k) = u8av x.1 ++ keptA k := rfl
    cases i with
    | zero =>
      rw [e, List.set_cons_zero]
      simp [List.drop_append, keptA, avB]
    | succ i =>
      rw [e, List.set_cons_succ]
      have e2 : keptA (x :: k.set i b) = u8av x.1 ++ keptA (k.set i b) := rfl
      rw [e2, ← ih i (by simpa using hi)]
      rw [List.take_append, List.drop_append, List.take_of_length_le (by simp <;> omega), List.drop_eq_nil_of_le (by simp <;> omega)]
      simp only [u8av_length, b64_len, List.nil_append, List.append_assoc]
      congr 3
      · congr 1; omega
      · congr 1; omega
theorem flush_dev (d : DevS) (hd : d.Ok) : ACalls Try.prog 54 [.ptr 0 0 5] (devO d) (fun k => decide (k < 2)) (fun r h' => r = .c (.int .i64 (checkS d 0 0)) ∧ h' = devO (flushS d)) := by
  refine acalls mixed Try.func54 rfl Try.ntmps54 rfl fun E hE hst hho => ?_
  simp [devO, hho, -List.reduceReplicate]
  refine call_x [0, 1, 2] (check_nilslice d 0) rfl rfl ⟨rfl, rfl⟩ hho (by simp) (by decide) (by simp) (by simp [devO]) ?_
  simp [devO, hho, -List.reduceReplicate]
  split <;> rename_i hc
  · refine loop_k mixed (fun j : Nat => ⟨slotsOf 35 [(0, .ptr 0 0 5), (14, .sl 2 65 0 d.wait.length (d.wait.length * 65)), (15, .c (.int .i64 d.wait.length)), (16, .c (.int .i64 (j : Int)))], devO { d with kept := (d.wait.take j).foldl putW d.kept }⟩) (fun j => d.wait.length - j) (fun j => j ≤ d.wait.length) 0 (by simp) ?_ ?_
    · simp [devO, slotsOf]
      exact wk_of 3 0 (by simp) (by simp [hE, devO, lens]) rfl (by simp [livH, livO, AV.livL, AV.liv, wkL, wkV, List.range']) (by simp [livH, livO, AV.livL, AV.liv, wkL, wkV, List.range'])
    · intro j hj
      simp [devO, slotsOf, hho, -List.reduceReplicate]
      split <;> rename_i hlt
      · refine ⟨hlt, by omega, ⟨?_, by omega⟩, ?_⟩
        · rw [waitA_at _ _ hlt]
          simp [avW, isCell_c, Value.oneCell']
        rw [waitA_at _ _ hlt]
        simp only [avW]
        refine draw_k hho (.take 0 (.take 1 (.take 2 (.take 3 (.take 4 (.take 5 (.take 6 (.take 7 (.take 8 (.alt 9 .done .nil)))))))))) [0, 3] [(9, [1])] (by decide +kernel) (by simp) ?_
        simp [roOf, holdOf, wrOf, altK, heldOk, Region.binds, -List.reduceReplicate]
        have hi := hd.w1 _ (List.getElem_mem hlt)
        refine ⟨hi, fun _ => ⟨by omega, ?_⟩⟩
        have ew : IntKind.i64.wrap ((j : Int) + 1) = (j + 1 : Nat) := by rw [IntWalk.i64_in _ (by have := hd.wl; omega)]; rfl
        refine round_next (j + 1) (by omega) (by omega) ?_
        rw [keptA_set _ _ _ (by simpa using hi), ew]
        refine wk_of 3 1 (by simp) (by simp [hE, devO, lens]) ?_ (by simp [livH, livO, AV.livL, AV.liv, wkL, wkV, List.range']) (by simp [livH, livO, AV.livL, AV.liv, wkL, wkV, List.range'])
        have ef : (d.wait.take (j + 1)).foldl putW d.kept = ((d.wait.take j).foldl putW d.kept).set d.wait[j].1 d.wait[j].2 := by
          rw [List.take_succ_eq_append_getElem hlt, List.foldl_append]; rfl
        simp [ef]
      · obtain rfl : j = d.wait.length := by omega
        refine call_x [0, 1] (count_nil { d with kept := d.wait.foldl putW d.kept, wait := [] } ⟨hd.c1, hd.c2⟩ fun hb => ⟨by have := (check_ok hc).2.2.2 hb; have := hd.l1; simp only; omega, hd.l2⟩) rfl rfl ?_ hho (by simp) (by decide) ?_ (by simp [devN]) ?_
        · simp [devN]
        · simp [devN]
        simp [devN, hho, -List.reduceReplicate]
        refine Ret.wk (fun E hE => wk_virtC 0 1 95 65 rfl rfl) ?_
        refine Ret.sel [0, 1, 3] (fun _ => false) (ho := by rfl) (ha := by rfl) ?_ ?_ (by decide) (by simp) (st_pre 2 [3] _) ⟨?_, ?_⟩
        · simp
        · simp
        · simp [hc]
        · simp [flushS, hc, countS, waitA]
  · refine Ret.same ⟨rfl, ?_⟩
    simp [flushS, hc]
end Go.Proofs.Ytmgpiminicgbiaa
namespace Go.Proofs.Ytmgpiminicgbiaa
set_option linter.unusedVariables false
set_option linter.unusedSimpArgs false
open Go.RowKit
attribute [local simp] isCut_nil isCut_region isCut_seq isCut_block isCut_loop isCut_cond isCut_skip isCut_exit isCut_ret isCut_range swapK putK altK condK_bool pickP_bool stepP stepO onPure_some onPure_none onImpl_some onImpl_none stepC onGP_some onGP_none onGV_some condG mkG onIt_it nextP_ptr takeP_eq takeV_some takeV_none takeU_some takeU_none takeQ takeW_some takeN_none takeN_some takeG_some takeO_some altO_some pureV binV2 eqF eqOp ovlV ovl2 rowAt capV binV intBin strBin isSh shV fldV ixV sliceV slice3V loadAV nilV lenV callV unV convV viewS cellsH loadV fldCut AV.ung AV.ungs AV.gc AV.cells AS.ev AS.put anyS gcsV gcO lens lnO gV guardV retK RetP_eq resV oneV anyRo loIx hiIx implO callP_clo evL gcsL clearV storeAV AS.push AS.setO appV appZ shortS copyV buildV partsV fillV srcV fzO okV isCell_c isCell_ptr isCell_sl isCell_fs isCell_fp isCell_clo rowZ_one rowZ_zero rowZ_2 rowZ_3 rowZ_4 rowZ_5 rowZ_6 rowZ_7 rowZ_8 rowZ_9 rowZ_10 rowZ_11 rowZ_12 noHo Value.oneCell' max2V min2V lookV updV updK updW cvals mkAt basV lenM msAt afterH putBack frzFrom frzO rebO backIx nilEq_sl nilEq_fs nilEq_ifn nilEq_ifh ifOp_eql ifOp_neq isLit nilOp_eql nilOp_neq AV.reb AV.rebL
attribute [local simp ↓] runK_skip runK_region runK_draw runK_seq runK_cut runK_cond runK_block runK_loop runK_exit runK_label runK_goto runK_ret runK_range contK_nil contK_seq contK_seq_ret contK_seq_exit contK_seq_goto contK_block contK_block_ret contK_block_goto contK_block_exit runO_nil runO_cons roundK_exit roundK_ret roundK_goto exitK_ret cutK_ret cutK_exit runE_done runE_nil runE_take runE_alt condG_true condG_false
set_option maxRecDepth 10000
def tearB (old new : B64) (n : Nat) : B64 := ⟨new.1.take n ++ old.1.drop n, by simp; omega⟩
@[simp] theorem u8av_take_n (n : Nat) (l : List UInt8) : (u8av l).take n = u8av (l.take n) := by simp [u8av]
@[simp] theorem u8av_drop_n (n : Nat) (l : List UInt8) : (u8av l).drop n = u8av (l.drop n) := by simp [u8av]
theorem u8av_app (l k : List UInt8) : u8av (l ++ k) = u8av l ++ u8av k := by simp [u8av]
theorem keptA_tear (k : List B64) (i n : Nat) (b : B64) (hi : i < k.length) (hn : n ≤ 64) : List.take (i * 64) (keptA k) ++ (u8av (b.1.take n) ++ List.drop (i * 64 + n) (keptA k)) = keptA (k.set i (tearB ((k[i]?).getD zB) b n)) := by
  induction k generalizing i with
  | nil => simp at hi
  | cons x k ih =>
    have e : keptA (x :: k) = u8av x.1 ++ keptA k := rfl
    cases i with
    | zero =>
      rw [e, List.set_cons_zero]
      have e2 : ∀ y, keptA (y :: k) = u8av y.1 ++ keptA k := fun _ => rfl
      rw [e2]
      have : n - 64 = 0 := by omega
      simp [List.drop_append, tearB, u8av_app, this]
    | succ i =>
      rw [e, List.set_cons_succ]
      have e2 : ∀ y, keptA (x :: k.set i y) = u8av x.1 ++ keptA (k.set i y) := fun _ => rfl
      rw [e2]
      have e3 : (x :: k)[i + 1]? = k[i]? := by simp
      rw [e3, ← ih i (by simpa using hi)]
      rw [List.take_append, List.drop_append, List.take_of_length_le (by simp <;> omega), List.drop_eq_nil_of_le (by simp <;> omega)]
      simp only [u8av_length, b64_len, List.nil_append, List.append_assoc]
      congr 3
      · congr 1; omega
      · congr 1; omega
def intAV (l : List Int) : List AV := l.map fun x => .c (.int .i64 x)
@[simp] theorem intAV_length (l : List Int) : (intAV l).length = l.length := by simp [intAV]
@[simp] theorem intAV_get (l : List Int) (j : Nat) : (intAV l)[j]? = (l[j]?).map fun x => .c (.int .i64 x) := by simp [intAV]
@[simp] theorem intAV_getElem (l : List Int) (j : Nat) (h : j < (intAV l).length) : (intAV l)[j] = .c (.int .i64 (l[j]'(by simpa using h))) := by simp [intAV]
def crashStep (tears : List Int) (k : List B64) (j : Nat) (x : Nat × B64) : List B64 := match tears[j]? with
  | some t => k.set x.1 (tearB ((k[x.1]?).getD zB) x.2 (min (max t 0) 64).toNat)
  | none => k
def crashTo (tears : List Int) (d : DevS) : Nat → List B64
  | 0 => d.kept
  | j + 1 => crashStep tears (crashTo tears d j) j ((d.wait[j]?).getD (0, zB))
@[simp] theorem crashTo_length (tears : List Int) (d : DevS) (j : Nat) : (crashTo tears d j).length = d.kept.length := by
  induction j with
  | zero => rfl
  | succ j ih =>
    simp only [crashTo, crashStep]
    split <;> simp [ih]
def crashS (tears : List Int) (d : DevS) : DevS := { d with kept := crashTo tears d d.wait.length, wait := [], bound := false }
theorem crash_dev (d : DevS) (hd : d.Ok) (tears : List Int) : ACalls Try.prog 14 [.ptr 0 0 5, .fs 1 tears.length (intAV tears)] (devO d) (fun k => decide (k < 2)) (fun r h' => r = .tup [] ∧ h' = devO (crashS tears d)) := by
  refine acalls mixed Try.func14 rfl Try.ntmps14 rfl fun E hE hst hho => ?_
  simp [devO, hho, -List.reduceReplicate]
  refine loop_k mixed (fun j : Nat => ⟨slotsOf 49 [(0, .ptr 0 0 5), (1, .fs 1 tears.length (intAV tears)), (12, .sl 2 65 0 d.wait.length (d.wait.length * 65)), (13, .c (.int .i64 d.wait.length)), (14, .c (.int .i64 (j : Int)))], devO { d with kept := crashTo tears d j }⟩) (fun j => d.wait.length - j) (fun j => j ≤ d.wait.length) 0 (by simp) ?_ ?_
  · simp [devO, slotsOf]
    exact wk_of 3 0 (by simp) (by simp [hE, devO, lens]) rfl (by simp [livH, livO, AV.livL, AV.liv, wkL, wkV, List.range']) (by simp [livH, livO, AV.livL, AV.liv, wkL, wkV, List.range'])
  · intro j hj
    by_cases hlt : j < d.wait.length
    · have ew : IntKind.i64.wrap ((j : Int) + 1) = (j + 1 : Nat) := by rw [IntWalk.i64_in _ (by have := hd.wl; omega)]; rfl
      have hi := hd.w1 _ (List.getElem_mem hlt)
      have el : j * 65 + 65 ≤ d.wait.length * 65 := by omega
      by_cases ht : j < tears.length
      · have em : min 1 (tears.length - j) = 1 := by omega
        have et : ∃ n : Nat, n ≤ 64 ∧ min (max tears[j] 0) 64 = (n : Int) := ⟨(min (max tears[j] 0) 64).toNat, by omega, by omega⟩
        obtain ⟨n, hn, en⟩ := et
        have h1n : 1 + n ≤ 65 := by omega
        have hin : (n : Int) ≤ 64 := by omega
        have hmx : 64 ≤ maxLen := by decide
        simp [devO, slotsOf, hho, hlt, ht, el, em, en, waitA_at _ _ hlt, avW, -List.reduceReplicate]
        refine draw_k hho (.take 0 (.take 1 (.take 2 (.take 3 (.take 4 (.take 5 (.take 6 (.take 7 (.take 8 (.take 9 (.take 10 (.take 11 (.alt 12 .done .nil))))))))))))) [0, 3] [(12, [1])] (by decide +kernel) (by simp) ?_
        simp [roOf, holdOf, wrOf, altK, heldOk, Region.binds, hn, h1n, hin, hmx, -List.reduceReplicate]
        refine ⟨hi, by omega, fun _ => ⟨by omega, ?_⟩⟩
        refine round_next (j + 1) (by omega) (by omega) ?_
        have et : min (max tears[j] 0) 64 = (n : Int) := en
        have ec : crashTo tears d (j + 1) = (crashTo tears d j).set d.wait[j].1 (tearB (((crashTo tears d j)[d.wait[j].1]?).getD zB) d.wait[j].2 n) := by
          simp only [crashTo, crashStep, List.getElem?_eq_getElem ht, List.getElem?_eq_getElem hlt, Option.getD_some, et, Int.toNat_natCast]
        have e2 : List.take n (List.take n d.wait[j].snd.val) = List.take n d.wait[j].snd.val := by rw [List.take_take, Nat.min_self]
        rw [e2, keptA_tear _ _ _ _ (by rw [crashTo_length]; exact hi) hn, ew]
        refine wk_of 3 1 (by simp) (by simp [hE, devO, lens]) ?_ (by simp [livH, livO, AV.livL, AV.liv, wkL, wkV, List.range']) (by simp [livH, livO, AV.livL, AV.liv, wkL, wkV, List.range'])
        simp [ec]
      · simp [devO, slotsOf, hho, hlt, ht, el, waitA_at _ _ hlt, avW, -List.reduceReplicate]
        refine round_next (j + 1) (by omega) (by omega) ?_
        have ec : crashTo tears d (j + 1) = crashTo tears d j := by
          simp only [crashTo, crashStep, List.getElem?_eq_none (by omega : tears.length ≤ j)]
        rw [ew]
        refine wk_of 3 1 (by simp) (by simp [hE, devO, lens]) ?_ (by simp [livH, livO, AV.livL, AV.liv, wkL, wkV, List.range']) (by simp [livH, livO, AV.livL, AV.liv, wkL, wkV, List.range'])
        simp [ec]
    · obtain rfl : j = d.wait.length := by omega
      simp [devO, slotsOf, hho, -List.reduceReplicate]
      refine Ret.wk (fun E hE => wk_virtC 0 1 95 65 rfl rfl) ?_
      refine Ret.sel [0, 1, 3] (fun _ => false) (ho := by rfl) (ha := by rfl) ?_ ?_ (by decide) (by simp) (st_pre 2 [3] _) ⟨?_, ?_⟩
      · simp
      · simp
      · rfl
      · simp [crashS, waitA]
end Go.Proofs.Ytmgpiminicgbiaa
namespace Go.Proofs.Ytmgpiminicgbiaa
set_option linter.unusedVariables false
set_option linter.unusedSimpArgs false
open Go.RowKit
attribute [local simp] isCut_nil isCut_region isCut_seq isCut_block isCut_loop isCut_cond isCut_skip isCut_exit isCut_ret isCut_range swapK putK altK condK_bool pickP_bool stepP stepO onPure_some onPure_none onImpl_some onImpl_none stepC onGP_some onGP_none onGV_some condG mkG onIt_it nextP_ptr takeP_eq takeV_some takeV_none takeU_some takeU_none takeQ takeW_some takeN_none takeN_some takeG_some takeO_some altO_some pureV binV2 eqF eqOp ovlV ovl2 rowAt capV binV intBin strBin isSh shV fldV ixV sliceV slice3V loadAV nilV lenV callV unV convV viewS cellsH loadV fldCut AV.ung AV.ungs AV.gc AV.cells AS.ev AS.put anyS gcsV gcO lens lnO gV guardV retK RetP_eq resV oneV anyRo loIx hiIx implO callP_clo evL gcsL clearV storeAV AS.push AS.setO appV appZ shortS copyV buildV partsV fillV srcV fzO okV isCell_c isCell_ptr isCell_sl isCell_fs isCell_fp isCell_clo rowZ_one rowZ_zero rowZ_2 rowZ_3 rowZ_4 rowZ_5 rowZ_6 rowZ_7 rowZ_8 rowZ_9 rowZ_10 rowZ_11 rowZ_12 noHo Value.oneCell' max2V min2V lookV updV updK updW cvals mkAt basV lenM msAt afterH putBack frzFrom frzO rebO backIx nilEq_sl nilEq_fs nilEq_ifn nilEq_ifh ifOp_eql ifOp_neq isLit nilOp_eql nilOp_neq AV.reb AV.rebL
attribute [local simp ↓] runK_skip runK_region runK_draw runK_seq runK_cut runK_cond runK_block runK_loop runK_exit runK_label runK_goto runK_ret runK_range contK_nil contK_seq contK_seq_ret contK_seq_exit contK_seq_goto contK_block contK_block_ret contK_block_goto contK_block_exit runO_nil runO_cons roundK_exit roundK_ret roundK_goto exitK_ret cutK_ret cutK_exit runE_done runE_nil runE_take runE_alt condG_true condG_false
set_option maxRecDepth 10000
def strB (b : B64) : ByteArray := ⟨b.1.toArray⟩
def strV (b : B64) : AV := .c (.string (strB b))
@[simp] theorem strB_size (b : B64) : (strB b).size = 64 := by simp [strB, ByteArray.size, b.2]
def refK (l : List B64) : List AV := l.map strV
def refWc (x : Nat × B64) : List AV := [.c (.int .i64 (x.1 : Int)), strV x.2]
def refW (l : List (Nat × B64)) : List AV := l.flatMap refWc
@[simp] theorem refK_length (l : List B64) : (refK l).length = l.length := by simp [refK]
@[simp] theorem refW_length (l : List (Nat × B64)) : (refW l).length = l.length * 2 := by
  induction l with
  | nil => rfl
  | cons b l ih => simp [refW, refWc] at ih ⊢; omega
def leftR (d : DevS) : Int := if d.bound then d.left else -1
/-- the reference's device, told by the same state -/
def refO (d : DevS) : List AObj :=
  [.o .box [.sl 1 1 0 d.kept.length d.kept.length, .sl 2 2 0 d.wait.length (d.wait.length * 2), .c (.int .i64 (leftR d)), .c (.int .i64 d.calls)],
   .o (.row 9 1) (refK d.kept), .o (.row 101 2) (refW d.wait)]
theorem r6check_ref (d : DevS) (hd : d.Ok) (i : Int) (b : ByteArray) : ACalls Try.prog 48 [.ptr 0 0 4, .c (.int .i64 i), .c (.string b)] (refO d) (fun _ => true) (fun r h' => r = .c (.int .i64 (checkS d i b.size)) ∧ h' = refO d) := by
  have hl := hd.l1
  refine acalls mixed Try.func48 rfl Try.ntmps48 rfl fun E hE _ hho => ?_
  simp [refO, -List.reduceReplicate]
  have e : checkS d i b.size = if i < 0 ∨ (d.kept.length : Int) ≤ i ∨ 64 < b.size then 2 else if leftR d = 0 then 60 else 0 := by
    unfold checkS leftR
    cases d.bound <;> simp
  rw [e]
  clear e
  (repeat' (first | apply And.intro | split | intro _)) <;> refine Ret.same ⟨?_, rfl⟩ <;> simp only [AV.c.injEq, Value.int.injEq, true_and] <;> grind
theorem r6count_ref (d : DevS) (hc : 0 ≤ d.calls ∧ d.calls ≤ 1000000) (hl : d.bound = true → 1 ≤ d.left ∧ d.left ≤ 9223372036854775807) : ACalls Try.prog 49 [.ptr 0 0 4] (refO d) (fun _ => true) (fun r h' => r = .tup [] ∧ h' = refO (countS d)) := by
  refine acalls mixed Try.func49 rfl Try.ntmps49 rfl fun E hE _ hho => ?_
  have e1 : IntKind.i64.wrap (d.calls + 1) = d.calls + 1 := IntWalk.i64_in _ (by omega)
  simp [refO, hho, -List.reduceReplicate]
  cases hbd : d.bound
  · have e : leftR d = -1 := by simp [leftR, hbd]
    rw [if_neg (by omega)]
    refine Ret.same ⟨rfl, ?_⟩
    simp [countS, e1, hbd, leftR]
  · have e : leftR d = d.left := by simp [leftR, hbd]
    have := hl hbd
    rw [if_pos (by omega)]
    have e2 : IntKind.i64.wrap (d.left - 1) = d.left - 1 := IntWalk.i64_in _ (by omega)
    refine Ret.same ⟨rfl, ?_⟩
    simp [countS, e1, e2, hbd, leftR]
theorem r6bound_ref (d : DevS) (i : Int) : ACalls Try.prog 25 [.ptr 0 0 4, .c (.int .i64 i)] (refO d) (fun _ => true) (fun r h' => r = .tup [] ∧ h' = refO { d with bound := true, left := max i 0 }) := by
  refine acalls mixed Try.func25 rfl Try.ntmps25 rfl fun E hE _ hho => ?_
  simp [refO, hho, -List.reduceReplicate]
  exact Ret.same ⟨rfl, rfl⟩
def fullB (b : ByteArray) (n : Nat) : ByteArray := b ++ ⟨Array.replicate n 0⟩
theorem fullB_zero (b : ByteArray) : fullB b 0 = b := by
  apply ByteArray.ext; simp [fullB]
theorem fullB_succ (b : ByteArray) (j : Nat) : fullB b j ++ (⟨#[0]⟩ : ByteArray) = fullB b (j + 1) := by
  apply ByteArray.ext
  simp [fullB, ByteArray.data_append, Array.replicate_succ]
theorem fullB_size (b : ByteArray) (j : Nat) : (fullB b j).size = b.size + j := by
  simp only [fullB, ByteArray.size_append]
  congr 1
  exact Array.size_replicate
theorem full_ref (b : ByteArray) (hb : b.size ≤ 1000000) : ACalls Try.prog 40 [.c (.string b)] [] (fun _ => false) (fun r h' => r = .c (.string (fullB b (64 - b.size))) ∧ h' = []) := by
  refine acalls mixed Try.func40 rfl Try.ntmps40 rfl fun E hE _ hho => ?_
  simp [hho, -List.reduceReplicate]
  refine loop_k mixed (fun j : Nat => ⟨slotsOf 9 [(0, .c (.string (fullB b j)))], []⟩) (fun j => 64 - b.size - j) (fun j => j ≤ 64 - b.size) 0 (by simp) ?_ ?_
  · simp [slotsOf]
    refine wk_of 0 0 rfl (by simp [hE, lens]) rfl rfl ?_
    simp [livH, livO, AV.livL, AV.liv, wkL, wkV, List.range', fullB_zero]
  · intro j hj
    simp [slotsOf, hho, fullB_size, fullB_succ, -List.reduceReplicate]
    split <;> rename_i h
    · have e1 : (⟨#[0]⟩ : ByteArray).size = 1 := rfl
      rw [e1]
      refine ⟨by omega, round_next (j + 1) (by omega) (by omega) ?_⟩
      refine wk_of 0 0 rfl (by simp [hE, lens]) rfl rfl ?_
      simp [livH, livO, AV.livL, AV.liv, wkL, wkV, List.range']
    · obtain rfl : j = 64 - b.size := by omega
      exact Ret.same ⟨rfl, rfl⟩
end Go.Proofs.Ytmgpiminicgbiaa
namespace Go.Proofs.Ytmgpiminicgbiaa
set_option linter.unusedVariables false
set_option linter.unusedSimpArgs false
open Go.RowKit
attribute [local simp] isCut_nil isCut_region isCut_seq isCut_block isCut_loop isCut_cond isCut_skip isCut_exit isCut_ret isCut_range swapK putK altK condK_bool pickP_bool stepP stepO onPure_some onPure_none onImpl_some onImpl_none stepC onGP_some onGP_none onGV_some condG mkG onIt_it nextP_ptr takeP_eq takeV_some takeV_none takeU_some takeU_none takeQ takeW_some takeN_none takeN_some takeG_some takeO_some altO_some pureV binV2 eqF eqOp ovlV ovl2 rowAt capV binV intBin strBin isSh shV fldV ixV sliceV slice3V loadAV nilV lenV callV unV convV viewS cellsH loadV fldCut AV.ung AV.ungs AV.gc AV.cells AS.ev AS.put anyS gcsV gcO lens lnO gV guardV retK RetP_eq resV oneV anyRo loIx hiIx implO callP_clo evL gcsL clearV storeAV AS.push AS.setO appV appZ shortS copyV buildV partsV fillV srcV fzO okV isCell_c isCell_ptr isCell_sl isCell_fs isCell_fp isCell_clo rowZ_one rowZ_zero rowZ_2 rowZ_3 rowZ_4 rowZ_5 rowZ_6 rowZ_7 rowZ_8 rowZ_9 rowZ_10 rowZ_11 rowZ_12 noHo Value.oneCell' max2V min2V lookV updV updK updW cvals mkAt basV lenM msAt afterH putBack frzFrom frzO rebO backIx nilEq_sl nilEq_fs nilEq_ifn nilEq_ifh ifOp_eql ifOp_neq isLit nilOp_eql nilOp_neq AV.reb AV.rebL
attribute [local simp ↓] runK_skip runK_region runK_draw runK_seq runK_cut runK_cond runK_block runK_loop runK_exit runK_label runK_goto runK_ret runK_range contK_nil contK_seq contK_seq_ret contK_seq_exit contK_seq_goto contK_block contK_block_ret contK_block_goto contK_block_exit runO_nil runO_cons roundK_exit roundK_ret roundK_goto exitK_ret cutK_ret cutK_exit runE_done runE_nil runE_take runE_alt condG_true condG_false
set_option maxRecDepth 10000
@[simp] theorem refK_all (l : List B64) : (∀ x ∈ refK l, isD x = true) ↔ True := iff_true_intro <| by
  intro x hx
  simp only [refK, List.mem_map] at hx
  obtain ⟨b, _, rfl⟩ := hx
  rfl
@[simp] theorem refW_all (l : List (Nat × B64)) : (∀ x ∈ refW l, isD x = true) ↔ True := iff_true_intro <| by
  intro x hx
  simp only [refW, List.mem_flatMap, refWc, List.mem_cons, List.not_mem_nil, or_false] at hx
  obtain ⟨b, _, rfl | rfl⟩ := hx <;> rfl
@[simp] theorem refW_cell (l : List (Nat × B64)) : (∀ x ∈ refW l, isCell x = true) ↔ True := iff_true_intro <| by
  intro x hx
  simp only [refW, List.mem_flatMap, refWc, List.mem_cons, List.not_mem_nil, or_false] at hx
  obtain ⟨b, _, rfl | rfl⟩ := hx <;> rfl
@[simp] theorem refW_take (l : List (Nat × B64)) : List.take (l.length * 2) (refW l) = refW l := List.take_of_length_le (by simp)
theorem full_pad (b : ByteArray) (hb : b.size ≤ 64) : fullB b (64 - b.size) = strB (padB b.data.toList) := by
  apply ByteArray.ext
  simp only [fullB, strB, padB, ByteArray.data_append]
  apply Array.toList_inj.1
  have e : b.data.toList.length = b.size := by rw [Array.length_toList]; rfl
  simp only [Array.toList_append, Array.toList_replicate]
  rw [List.take_append, List.take_of_length_le (by omega), List.take_replicate, e]
  congr 2
  omega
theorem r6write_ref (d : DevS) (hd : d.Ok) (i : Int) (b : ByteArray) (hb : b.size ≤ 1000000) : ACalls Try.prog 27 [.ptr 0 0 4, .c (.int .i64 i), .c (.string b)] (refO d) (fun k => decide (k < 2)) (fun r h' => r = .c (.int .i64 (checkS d i b.size)) ∧ h' = refO (writeS d i b.data.toList)) := by
  have esz : b.data.size = b.size := rfl
  refine acalls mixed Try.func27 rfl Try.ntmps27 rfl fun E hE _ hho => ?_
  simp [refO, hho, -List.reduceReplicate]
  refine call_x [0, 1, 2] (r6check_ref d hd i b) rfl rfl ⟨rfl, rfl⟩ hho (by simp) (by decide) (by simp) (by simp [refO]) ?_
  simp [refO, hho, -List.reduceReplicate]
  split <;> rename_i hc
  · refine ⟨by have := hd.wl; omega, ?_⟩
    obtain ⟨k1, k2, k3, k4⟩ := check_ok hc
    have e : ((i.toNat : Nat) : Int) = i := by omega
    refine call_plain (fun _ => false) (full_ref b hb) (ha := by rfl) (by simp) ?_
    rintro r h' ⟨rfl, rfl⟩
    refine ⟨rfl, ?_⟩
    simp [hho, full_pad b k3, -List.reduceReplicate]
    refine ⟨by have := hd.wl; omega, ?_⟩
    refine call_x [0, 1, 3] (r6count_ref { d with wait := d.wait ++ [(i.toNat, padB b.data.toList)] } ⟨hd.c1, hd.c2⟩ fun hb => ⟨by have := k4 hb; have := hd.l1; simp only; omega, hd.l2⟩) rfl rfl ?_ hho (by simp) (by decide) ?_ (by simp [refO]) ?_
    · simp [refO, refW, refWc, strV, leftR, e, Nat.add_mul]
    · simp [refO, -List.reduceReplicate]
    simp [refO, hho, -List.reduceReplicate]
    refine Ret.sel [0, 1, 3] (fun _ => false) (ho := by rfl) (ha := by rfl) ?_ ?_ (by decide) (by simp) (st_pre 2 [3] _) ⟨?_, ?_⟩
    · simp
    · simp
    · simp [hc]
    · simp [writeS, esz, hc]
  · refine Ret.same ⟨rfl, ?_⟩
    simp [writeS, esz, hc]
theorem refW_at (w : List (Nat × B64)) (j : Nat) (hj : j < w.length) : List.take 2 (List.drop (j * 2) (refW w)) = refWc w[j] := by
  induction w generalizing j with
  | nil => simp at hj
  | cons x w ih =>
    have e : refW (x :: w) = refWc x ++ refW w := rfl
    rw [e]
    cases j with
    | zero => simp [refWc]
    | succ j =>
      have : (j + 1) * 2 = j * 2 + 2 := by omega
      rw [this]
      simp only [refWc, List.cons_append, List.nil_append, List.drop_succ_cons]
      exact ih j (by simpa using hj)
theorem refK_set (k : List B64) (i : Nat) (b : B64) (hi : i < k.length) : List.take i (refK k) ++ AV.c (.string (strB b)) :: List.drop (i + 1) (refK k) = refK (k.set i b) := by
  have e : AV.c (.string (strB b)) = strV b := rfl
  rw [e, refK, refK, List.map_set, List.set_eq_take_append_cons_drop, if_pos (by simpa using hi)]
/-- a device of the reference whose waiting slice is nil -/
def refN (d : DevS) : List AObj :=
  [.o .box [.sl 1 1 0 d.kept.length d.kept.length, .c (.slice none 0 0), .c (.int .i64 (leftR d)), .c (.int .i64 d.calls)], .o (.row 9 1) (refK d.kept)]
theorem r6count_nil (d : DevS) (hc : 0 ≤ d.calls ∧ d.calls ≤ 1000000) (hl : d.bound = true → 1 ≤ d.left ∧ d.left ≤ 9223372036854775807) : ACalls Try.prog 49 [.ptr 0 0 4] (refN d) (fun _ => true) (fun r h' => r = .tup [] ∧ h' = refN (countS d)) := by
  refine acalls mixed Try.func49 rfl Try.ntmps49 rfl fun E hE _ hho => ?_
  have e1 : IntKind.i64.wrap (d.calls + 1) = d.calls + 1 := IntWalk.i64_in _ (by omega)
  simp [refN, hho, -List.reduceReplicate]
  cases hbd : d.bound
  · have e : leftR d = -1 := by simp [leftR, hbd]
    rw [if_neg (by omega)]
    refine Ret.same ⟨rfl, ?_⟩
    simp [countS, e1, hbd, leftR]
  · have e : leftR d = d.left := by simp [leftR, hbd]
    have := hl hbd
    rw [if_pos (by omega)]
    have e2 : IntKind.i64.wrap (d.left - 1) = d.left - 1 := IntWalk.i64_in _ (by omega)
    refine Ret.same ⟨rfl, ?_⟩
    simp [countS, e1, e2, hbd, leftR]
theorem r6flush_ref (d : DevS) (hd : d.Ok) : ACalls Try.prog 45 [.ptr 0 0 4] (refO d) (fun k => decide (k < 2)) (fun r h' => r = .c (.int .i64 (checkS d 0 0)) ∧ h' = refO (flushS d)) := by
  refine acalls mixed Try.func45 rfl Try.ntmps45 rfl fun E hE hst hho => ?_
  simp [refO, hho, -List.reduceReplicate]
  refine call_x [0, 1, 2] (r6check_ref d hd 0 ByteArray.empty) rfl rfl ⟨rfl, rfl⟩ hho (by simp) (by decide) (by simp) (by simp [refO]) ?_
  simp [refO, hho, -List.reduceReplicate]
  split <;> rename_i hc
  · refine loop_k mixed (fun j : Nat => ⟨slotsOf 35 [(0, .ptr 0 0 4), (3, .c (.int .i64 0)), (13, .sl 2 2 0 d.wait.length (d.wait.length * 2)), (14, .c (.int .i64 d.wait.length)), (15, .c (.int .i64 (j : Int)))], refO { d with kept := (d.wait.take j).foldl putW d.kept }⟩) (fun j => d.wait.length - j) (fun j => j ≤ d.wait.length) 0 (by simp) ?_ ?_
    · simp [refO, slotsOf]
      exact wk_of 3 0 (by simp) (by simp [hE, refO, lens]) rfl (by simp [livH, livO, AV.livL, AV.liv, wkL, wkV, List.range']) (by simp [livH, livO, AV.livL, AV.liv, wkL, wkV, List.range', hc])
    · intro j hj
      by_cases hlt : j < d.wait.length
      · have ew : IntKind.i64.wrap ((j : Int) + 1) = (j + 1 : Nat) := by rw [IntWalk.i64_in _ (by have := hd.wl; omega)]; rfl
        have hi := hd.w1 _ (List.getElem_mem hlt)
        have el : j * 2 + 2 ≤ d.wait.length * 2 := by omega
        simp [refO, slotsOf, hho, hlt, el, refW_at _ _ hlt, refWc, strV, -List.reduceReplicate]
        refine draw_k hho (.take 0 (.take 1 (.take 2 (.take 3 (.take 4 (.take 5 (.take 6 (.take 7 (.take 8 (.alt 9 .done .nil)))))))))) [0, 3] [(9, [1])] (by decide +kernel) (by simp) ?_
        simp [roOf, holdOf, wrOf, altK, heldOk, Region.binds, hi, -List.reduceReplicate]
        refine fun _ => ⟨by omega, round_next (j + 1) (by omega) (by omega) ?_⟩
        have ef : (d.wait.take (j + 1)).foldl putW d.kept = ((d.wait.take j).foldl putW d.kept).set d.wait[j].1 d.wait[j].2 := by
          rw [List.take_succ_eq_append_getElem hlt, List.foldl_append]; rfl
        rw [refK_set _ _ _ (by rw [foldl_putW_length]; exact hi), ew]
        refine wk_of 3 1 (by simp) (by simp [hE, refO, lens]) ?_ (by simp [livH, livO, AV.livL, AV.liv, wkL, wkV, List.range']) (by simp [livH, livO, AV.livL, AV.liv, wkL, wkV, List.range'])
        simp [ef, leftR]
      · obtain rfl : j = d.wait.length := by omega
        simp [refO, slotsOf, hho, -List.reduceReplicate]
        refine call_x [0, 1] (r6count_nil { d with kept := d.wait.foldl putW d.kept, wait := [] } ⟨hd.c1, hd.c2⟩ fun hb => ⟨by have := (check_ok hc).2.2.2 hb; have := hd.l1; simp only; omega, hd.l2⟩) rfl rfl ?_ hho (by simp) (by decide) ?_ (by simp [refN]) ?_
        · simp [refN, leftR]
        · simp [refN]
        simp [refN, hho, -List.reduceReplicate]
        refine Ret.wk (fun E hE => wk_virtC 0 1 101 2 rfl rfl) ?_
        refine Ret.sel [0, 1, 3] (fun _ => false) (ho := by rfl) (ha := by rfl) ?_ ?_ (by decide) (by simp) (st_pre 2 [3] _) ⟨?_, ?_⟩
        · simp
        · simp
        · simp [hc]
        · simp [flushS, hc, countS, refW, leftR]
  · refine Ret.same ⟨rfl, ?_⟩
    simp [flushS, hc]
end Go.Proofs.Ytmgpiminicgbiaa
namespace Go.Proofs.Ytmgpiminicgbiaa
set_option linter.unusedVariables false
set_option linter.unusedSimpArgs false
open Go.RowKit
attribute [local simp] isCut_nil isCut_region isCut_seq isCut_block isCut_loop isCut_cond isCut_skip isCut_exit isCut_ret isCut_range swapK putK altK condK_bool pickP_bool stepP stepO onPure_some onPure_none onImpl_some onImpl_none stepC onGP_some onGP_none onGV_some condG mkG onIt_it nextP_ptr takeP_eq takeV_some takeV_none takeU_some takeU_none takeQ takeW_some takeN_none takeN_some takeG_some takeO_some altO_some pureV binV2 eqF eqOp ovlV ovl2 rowAt capV binV intBin strBin isSh shV fldV ixV sliceV slice3V loadAV nilV lenV callV unV convV viewS cellsH loadV fldCut AV.ung AV.ungs AV.gc AV.cells AS.ev AS.put anyS gcsV gcO lens lnO gV guardV retK RetP_eq resV oneV anyRo loIx hiIx implO callP_clo evL gcsL clearV storeAV AS.push AS.setO appV appZ shortS copyV buildV partsV fillV srcV fzO okV isCell_c isCell_ptr isCell_sl isCell_fs isCell_fp isCell_clo rowZ_one rowZ_zero rowZ_2 rowZ_3 rowZ_4 rowZ_5 rowZ_6 rowZ_7 rowZ_8 rowZ_9 rowZ_10 rowZ_11 rowZ_12 noHo Value.oneCell' max2V min2V lookV updV updK updW cvals mkAt basV lenM msAt afterH putBack frzFrom frzO rebO backIx nilEq_sl nilEq_fs nilEq_ifn nilEq_ifh ifOp_eql ifOp_neq isLit nilOp_eql nilOp_neq AV.reb AV.rebL
attribute [local simp ↓] runK_skip runK_region runK_draw runK_seq runK_cut runK_cond runK_block runK_loop runK_exit runK_label runK_goto runK_ret runK_range contK_nil contK_seq contK_seq_ret contK_seq_exit contK_seq_goto contK_block contK_block_ret contK_block_goto contK_block_exit runO_nil runO_cons roundK_exit roundK_ret roundK_goto exitK_ret cutK_ret cutK_exit runE_done runE_nil runE_take runE_alt condG_true condG_false
set_option maxRecDepth 10000
@[simp] theorem refK_getElem (k : List B64) (i : Nat) (h : i < (refK k).length) : (refK k)[i] = .c (.string (strB (k[i]'(by simpa using h)))) := by simp [refK, strV]
theorem tear_str (o b : B64) (n : Nat) : (strB b).extract 0 n ++ (strB o).extract n 64 = strB (tearB o b n) := by
  apply ByteArray.ext
  apply Array.toList_inj.1
  have h : List.take (64 - n) (List.drop n o.1) = List.drop n o.1 := List.take_of_length_le (by simp)
  simp [strB, tearB, ByteArray.data_append, ByteArray.data_extract, List.extract_eq_take_drop, h]
theorem ext_all (o : B64) : (strB o).extract 0 64 = strB o := by
  apply ByteArray.ext
  apply Array.toList_inj.1
  simp [strB, ByteArray.data_extract, List.extract_eq_take_drop, List.take_of_length_le]
theorem r6crash_ref (d : DevS) (hd : d.Ok) (tears : List Int) : ACalls Try.prog 28 [.ptr 0 0 4, .fs 1 tears.length (intAV tears)] (refO d) (fun k => decide (k < 2)) (fun r h' => r = .tup [] ∧ h' = refO (crashS tears d)) := by
  refine acalls mixed Try.func28 rfl Try.ntmps28 rfl fun E hE hst hho => ?_
  simp [refO, hho, -List.reduceReplicate]
  refine loop_k mixed (fun j : Nat => ⟨slotsOf 56 [(0, .ptr 0 0 4), (1, .fs 1 tears.length (intAV tears)), (10, .sl 2 2 0 d.wait.length (d.wait.length * 2)), (11, .c (.int .i64 d.wait.length)), (12, .c (.int .i64 (j : Int)))], refO { d with kept := crashTo tears d j }⟩) (fun j => d.wait.length - j) (fun j => j ≤ d.wait.length) 0 (by simp) ?_ ?_
  · simp [refO, slotsOf]
    exact wk_of 3 0 (by simp) (by simp [hE, refO, lens]) rfl (by simp [livH, livO, AV.livL, AV.liv, wkL, wkV, List.range']) (by simp [livH, livO, AV.livL, AV.liv, wkL, wkV, List.range'])
  · intro j hj
    by_cases hlt : j < d.wait.length
    · have ew : IntKind.i64.wrap ((j : Int) + 1) = (j + 1 : Nat) := by rw [IntWalk.i64_in _ (by have := hd.wl; omega)]; rfl
      have hi := hd.w1 _ (List.getElem_mem hlt)
      have el : j * 2 + 2 ≤ d.wait.length * 2 := by omega
      by_cases ht : j < tears.length
      · have em : min 1 (tears.length - j) = 1 := by omega
        have et : ∃ n : Nat, n ≤ 64 ∧ min 64 (max 0 tears[j]) = (n : Int) := ⟨(min 64 (max 0 tears[j])).toNat, by omega, by omega⟩
        obtain ⟨n, hn, en⟩ := et
        have hin : (n : Int) ≤ 64 := by omega
        simp [refO, slotsOf, hho, hlt, ht, el, em, en, refW_at _ _ hlt, refWc, strV, -List.reduceReplicate]
        refine draw_k hho (.take 0 (.take 1 (.take 2 (.take 3 (.take 4 (.take 5 (.take 6 (.take 7 (.take 8 (.take 9 (.take 10 (.take 11 (.take 12 (.take 13 (.take 14 (.take 15 (.take 16 (.take 17 (.take 18 (.take 19 (.take 20 (.take 21 (.alt 22 .done .nil))))))))))))))))))))))) [0, 1, 3] [(22, [1])] (by decide +kernel) (by simp) ?_
        simp [roOf, holdOf, wrOf, altK, heldOk, Region.binds, hi, hn, hin, -List.reduceReplicate]
        have hil : min d.wait[j].1 d.kept.length + (d.kept.length - (d.wait[j].1 + 1) + 1) = d.kept.length := by omega
        refine ⟨by omega, fun _ => ⟨by omega, hil, round_next (j + 1) (by omega) (by omega) ?_⟩⟩
        have hi2 : d.wait[j].1 < (crashTo tears d j).length := by rw [crashTo_length]; exact hi
        have et2 : min (max tears[j] 0) 64 = (n : Int) := by omega
        have ec : crashTo tears d (j + 1) = (crashTo tears d j).set d.wait[j].1 (tearB ((crashTo tears d j)[d.wait[j].1]) d.wait[j].2 n) := by
          simp only [crashTo, crashStep, List.getElem?_eq_getElem ht, List.getElem?_eq_getElem hlt, List.getElem?_eq_getElem hi2, Option.getD_some, et2, Int.toNat_natCast]
        rw [tear_str, refK_set _ _ _ hi2, ew]
        refine wk_of 3 1 (by simp) (by simp [hE, refO, lens]) ?_ (by simp [livH, livO, AV.livL, AV.liv, wkL, wkV, List.range']) (by simp [livH, livO, AV.livL, AV.liv, wkL, wkV, List.range'])
        simp [ec, leftR]
      · simp [refO, slotsOf, hho, hlt, ht, el, refW_at _ _ hlt, refWc, strV, -List.reduceReplicate]
        refine draw_k hho (.take 0 (.take 1 (.take 2 (.take 3 (.take 4 (.take 5 (.take 6 (.take 7 (.take 8 (.take 9 (.take 10 (.take 11 (.take 12 (.take 13 (.take 14 (.take 15 (.take 16 (.take 17 (.take 18 (.take 19 (.take 20 (.take 21 (.alt 22 .done .nil))))))))))))))))))))))) [0, 1, 3] [(22, [1])] (by decide +kernel) (by simp) ?_
        simp [roOf, holdOf, wrOf, altK, heldOk, Region.binds, hi, -List.reduceReplicate]
        have hil : min d.wait[j].1 d.kept.length + (d.kept.length - (d.wait[j].1 + 1) + 1) = d.kept.length := by omega
        refine ⟨by omega, fun _ => ⟨by omega, hil, round_next (j + 1) (by omega) (by omega) ?_⟩⟩
        have hi2 : d.wait[j].1 < (crashTo tears d j).length := by rw [crashTo_length]; exact hi
        have ec : crashTo tears d (j + 1) = crashTo tears d j := by
          simp only [crashTo, crashStep, List.getElem?_eq_none (by omega : tears.length ≤ j)]
        rw [ext_all, refK_set _ _ _ hi2, List.set_getElem_self, ew]
        refine wk_of 3 1 (by simp) (by simp [hE, refO, lens]) ?_ (by simp [livH, livO, AV.livL, AV.liv, wkL, wkV, List.range']) (by simp [livH, livO, AV.livL, AV.liv, wkL, wkV, List.range'])
        simp [ec, leftR]
    · obtain rfl : j = d.wait.length := by omega
      simp [refO, slotsOf, hho, -List.reduceReplicate]
      refine Ret.wk (fun E hE => wk_virtC 0 1 101 2 rfl rfl) ?_
      refine Ret.sel [0, 1, 3] (fun _ => false) (ho := by rfl) (ha := by rfl) ?_ ?_ (by decide) (by simp) (st_pre 2 [3] _) ⟨?_, ?_⟩
      · simp
      · simp
      · rfl
      · simp [crashS, refW, leftR]
end Go.Proofs.Ytmgpiminicgbiaa
namespace Go.Proofs.Ytmgpiminicgbiaa
set_option linter.unusedVariables false
set_option linter.unusedSimpArgs false
open Go.RowKit
attribute [local simp] isCut_nil isCut_region isCut_seq isCut_block isCut_loop isCut_cond isCut_skip isCut_exit isCut_ret isCut_range swapK putK altK condK_bool pickP_bool stepP stepO onPure_some onPure_none onImpl_some onImpl_none stepC onGP_some onGP_none onGV_some condG mkG onIt_it nextP_ptr takeP_eq takeV_some takeV_none takeU_some takeU_none takeQ takeW_some takeN_none takeN_some takeG_some takeO_some altO_some pureV binV2 eqF eqOp ovlV ovl2 rowAt capV binV intBin strBin isSh shV fldV ixV sliceV slice3V loadAV nilV lenV callV unV convV viewS cellsH loadV fldCut AV.ung AV.ungs AV.gc AV.cells AS.ev AS.put anyS gcsV gcO lens lnO gV guardV retK RetP_eq resV oneV anyRo loIx hiIx implO callP_clo evL gcsL clearV storeAV AS.push AS.setO appV appZ shortS copyV buildV partsV fillV srcV fzO okV isCell_c isCell_ptr isCell_sl isCell_fs isCell_fp isCell_clo rowZ_one rowZ_zero rowZ_2 rowZ_3 rowZ_4 rowZ_5 rowZ_6 rowZ_7 rowZ_8 rowZ_9 rowZ_10 rowZ_11 rowZ_12 noHo Value.oneCell' max2V min2V lookV updV updK updW cvals mkAt basV lenM msAt afterH putBack frzFrom frzO rebO backIx nilEq_sl nilEq_fs nilEq_ifn nilEq_ifh ifOp_eql ifOp_neq isLit nilOp_eql nilOp_neq AV.reb AV.rebL
attribute [local simp ↓] runK_skip runK_region runK_draw runK_seq runK_cut runK_cond runK_block runK_loop runK_exit runK_label runK_goto runK_ret runK_range contK_nil contK_seq contK_seq_ret contK_seq_exit contK_seq_goto contK_block contK_block_ret contK_block_goto contK_block_exit runO_nil runO_cons roundK_exit roundK_ret roundK_goto exitK_ret cutK_ret cutK_exit runE_done runE_nil runE_take runE_alt condG_true condG_false
set_option maxRecDepth 10000
def pickB (i : Nat) (b : B64) (x : Nat × B64) : B64 := if x.1 = i then x.2 else b
def readTo (d : DevS) (i j : Nat) : B64 := (d.wait.take j).foldl (pickB i) ((d.kept[i]?).getD zB)
def readB (d : DevS) (i : Nat) : B64 := d.wait.foldl (pickB i) ((d.kept[i]?).getD zB)
theorem readTo_succ (d : DevS) (i j : Nat) (h : j < d.wait.length) : readTo d i (j + 1) = pickB i (readTo d i j) d.wait[j] := by
  simp only [readTo]
  rw [List.take_succ_eq_append_getElem h, List.foldl_append]; rfl
theorem r6read_ref (d : DevS) (hd : d.Ok) (i : Int) : ACalls Try.prog 31 [.ptr 0 0 4, .c (.int .i64 i)] (refO d) (fun k => decide (k < 3))
    (fun r h' => r = .tup [.c (.string (if checkS d i 0 = 0 then strB (readB d i.toNat) else ByteArray.empty)), .c (.int .i64 (checkS d i 0))] ∧ h' = refO d) := by
  refine acalls mixed Try.func31 rfl Try.ntmps31 rfl fun E hE hst hho => ?_
  simp [refO, hho, -List.reduceReplicate]
  refine call_x [0, 1, 2] (r6check_ref d hd i ByteArray.empty) rfl rfl ⟨rfl, rfl⟩ hho (by simp) (by decide) (by simp) (by simp [refO]) ?_
  by_cases hc : checkS d i 0 = 0
  · obtain ⟨k1, k2, k3, k4⟩ := check_ok hc
    obtain ⟨n, rfl⟩ : ∃ n : Nat, i = n := ⟨i.toNat, by omega⟩
    have hn : n < d.kept.length := by omega
    have hn1 : n + 1 ≤ d.kept.length := by omega
    simp [refO, hho, hc, hn, hn1, -List.reduceReplicate]
    refine loop_k mixed (fun j : Nat => ⟨slotsOf 40 [(0, .ptr 0 0 4), (1, .c (.int .i64 (n : Int))), (7, strV (readTo d n j)), (26, .sl 2 2 0 d.wait.length (d.wait.length * 2)), (27, .c (.int .i64 d.wait.length)), (28, .c (.int .i64 (j : Int)))], refO d⟩) (fun j => d.wait.length - j) (fun j => j ≤ d.wait.length) 0 (by simp) ?_ ?_
    · simp [refO, slotsOf]
      refine wk_of 3 0 (by simp) (by simp [hE, refO, lens]) rfl (by simp [livH, livO, AV.livL, AV.liv, wkL, wkV, List.range']) ?_
      simp [livH, livO, AV.livL, AV.liv, wkL, wkV, List.range', strV, readTo, List.getElem?_eq_getElem hn]
    · intro j hj
      by_cases hlt : j < d.wait.length
      · have ew : IntKind.i64.wrap ((j : Int) + 1) = (j + 1 : Nat) := by rw [IntWalk.i64_in _ (by have := hd.wl; omega)]; rfl
        have el : j * 2 + 2 ≤ d.wait.length * 2 := by omega
        simp [refO, slotsOf, hho, hlt, el, refW_at _ _ hlt, refWc, strV, -List.reduceReplicate]
        split <;> rename_i h
        · have h : d.wait[j].1 = n := by omega
          refine round_next (j + 1) (by omega) (by omega) ?_
          rw [ew]
          refine wk_of 3 1 (by simp) (by simp [hE, refO, lens]) rfl (by simp [livH, livO, AV.livL, AV.liv, wkL, wkV, List.range']) ?_
          simp [livH, livO, AV.livL, AV.liv, wkL, wkV, List.range', readTo_succ d n j hlt, pickB, h]
        · have h : ¬ d.wait[j].1 = n := by omega
          refine round_next (j + 1) (by omega) (by omega) ?_
          rw [ew]
          refine wk_of 3 1 (by simp) (by simp [hE, refO, lens]) rfl (by simp [livH, livO, AV.livL, AV.liv, wkL, wkV, List.range']) ?_
          simp [livH, livO, AV.livL, AV.liv, wkL, wkV, List.range', readTo_succ d n j hlt, pickB, h]
      · obtain rfl : j = d.wait.length := by omega
        simp [refO, slotsOf, hho, strV, -List.reduceReplicate]
        refine Ret.same ⟨?_, rfl⟩
        simp [hc, readTo, readB]
  · simp [refO, hho, hc, -List.reduceReplicate]
    refine Ret.same ⟨?_, rfl⟩
    simp [hc]
    rfl
theorem r6new_ref (n : Nat) (h1 : n ≤ 1000000) : ACalls Try.prog 21 [.c (.int .i64 (n : Int))] [] (fun _ => false) (fun r h' => r = .ptr 0 0 4 ∧ h' = refO (newS n)) := by
  refine acalls mixed Try.func21 rfl Try.ntmps21 rfl fun E hE _ hho => ?_
  simp [hho, -List.reduceReplicate]
  refine loop_k mixed (fun j : Nat => ⟨slotsOf 23 [(0, .c (.int .i64 (n : Int))), (3, .ptr 0 0 4), (4, .c (.int .i64 (j : Int)))], [.o .box [.sl 1 1 0 j j, .c (.slice none 0 0), .c (.int .i64 (-1)), .c (.int .i64 0)], .o (.row 9 1) (refK (List.replicate j zB))]⟩) (fun j => n - j) (fun j => j ≤ n) 0 (by simp) ?_ ?_
  · simp [slotsOf]
    refine Wk.trans (wk_virtC 0 0 9 1 rfl rfl) (wk_of 2 0 (by simp) (by simp [hE, lens]) rfl (by simp [livH, livO, AV.livL, AV.liv, wkL, wkV, List.range']) (by simp [livH, livO, AV.livL, AV.liv, wkL, wkV, List.range']))
  · intro j hj
    by_cases hlt : j < n
    · have ew : IntKind.i64.wrap ((j : Int) + 1) = (j + 1 : Nat) := by rw [IntWalk.i64_in _ (by omega)]; rfl
      simp [slotsOf, hho, hlt, -List.reduceReplicate]
      refine draw_k hho (.take 0 (.take 1 (.take 2 (.take 3 (.take 4 (.alt 5 (.alt 6 (.alt 7 (.take 8 (.take 9 (.alt 10 .done .nil))) .nil) .nil) .nil)))))) [0] [(10, [0])] (by decide +kernel) (by simp) ?_
      simp [roOf, holdOf, wrOf, altK, heldOk, Region.binds, -List.reduceReplicate]
      intro _
      refine call_plain (fun _ => false) (full_ref ⟨#[]⟩ (by decide)) (ha := by rfl) (by simp) ?_
      rintro r h' ⟨rfl, rfl⟩
      refine ⟨rfl, ?_⟩
      have ez : fullB ⟨#[]⟩ (64 - (⟨#[]⟩ : ByteArray).size) = strB zB := rfl
      rw [ez]
      simp [roOf, holdOf, wrOf, altK, heldOk, Region.binds, -List.reduceReplicate]
      refine fun _ _ => ⟨by omega, fun _ => round_next (j + 1) (by omega) (by omega) ?_⟩
      rw [ew]
      refine wk_of 2 1 (by simp) (by simp [hE, lens]) ?_ (by simp [livH, livO, AV.livL, AV.liv, wkL, wkV, List.range']) (by simp [livH, livO, AV.livL, AV.liv, wkL, wkV, List.range'])
      simp [refK, List.replicate_succ', strV, -List.reduceReplicate]
    · obtain rfl : j = n := by omega
      simp [slotsOf, hho, -List.reduceReplicate]
      refine Ret.wk (fun E hE => wk_virtC 0 1 101 2 rfl rfl) ?_
      refine Ret.sel [0, 1, 2] (fun _ => false) (ho := by rfl) (ha := by rfl) ?_ ?_ (by decide) (by simp) (by simp) ⟨?_, ?_⟩
      · simp
      · simp
      · rfl
      · simp [refO, newS, refW, leftR, -List.reduceReplicate]
end Go.Proofs.Ytmgpiminicgbiaa
namespace Go.Proofs.Ytmgpiminicgbiaa
set_option linter.unusedVariables false
set_option linter.unusedSimpArgs false
open Go.RowKit
attribute [local simp] isCut_nil isCut_region isCut_seq isCut_block isCut_loop isCut_cond isCut_skip isCut_exit isCut_ret isCut_range swapK putK altK condK_bool pickP_bool stepP stepO onPure_some onPure_none onImpl_some onImpl_none stepC onGP_some onGP_none onGV_some condG mkG onIt_it nextP_ptr takeP_eq takeV_some takeV_none takeU_some takeU_none takeQ takeW_some takeN_none takeN_some takeG_some takeO_some altO_some pureV binV2 eqF eqOp ovlV ovl2 rowAt capV binV intBin strBin isSh shV fldV ixV sliceV slice3V loadAV nilV lenV callV unV convV viewS cellsH loadV fldCut AV.ung AV.ungs AV.gc AV.cells AS.ev AS.put anyS gcsV gcO lens lnO gV guardV retK RetP_eq resV oneV anyRo loIx hiIx implO callP_clo evL gcsL clearV storeAV AS.push AS.setO appV appZ shortS copyV buildV partsV fillV srcV fzO okV isCell_c isCell_ptr isCell_sl isCell_fs isCell_fp isCell_clo rowZ_one rowZ_zero rowZ_2 rowZ_3 rowZ_4 rowZ_5 rowZ_6 rowZ_7 rowZ_8 rowZ_9 rowZ_10 rowZ_11 rowZ_12 noHo Value.oneCell' max2V min2V lookV updV updK updW cvals mkAt basV lenM msAt afterH putBack frzFrom frzO rebO backIx nilEq_sl nilEq_fs nilEq_ifn nilEq_ifh ifOp_eql ifOp_neq isLit nilOp_eql nilOp_neq AV.reb AV.rebL
attribute [local simp ↓] runK_skip runK_region runK_draw runK_seq runK_cut runK_cond runK_block runK_loop runK_exit runK_label runK_goto runK_ret runK_range contK_nil contK_seq contK_seq_ret contK_seq_exit contK_seq_goto contK_block contK_block_ret contK_block_goto contK_block_exit runO_nil runO_cons roundK_exit roundK_ret roundK_goto exitK_ret cutK_ret cutK_exit runE_done runE_nil runE_take runE_alt condG_true condG_false
set_option maxRecDepth 10000
theorem limit_nil (i : Int) : ACalls Try.prog 11 [.c (.pointer none), .c (.int .i64 i)] [] (fun _ => true) (fun r h' => r = .tup [] ∧ h' = []) := by
  refine acalls mixed Try.func11 rfl Try.ntmps11 rfl fun E hE _ hho => ?_
  simp [hho, -List.reduceReplicate]
  exact Ret.same ⟨rfl, rfl⟩
theorem crash_nil (v : List AV) (n : Nat) : ACalls Try.prog 14 [.c (.pointer none), .fs 1 n v] [] (fun _ => true) (fun r h' => r = .tup [] ∧ h' = []) := by
  refine acalls mixed Try.func14 rfl Try.ntmps14 rfl fun E hE _ hho => ?_
  simp [hho, -List.reduceReplicate]
  exact Ret.same ⟨rfl, rfl⟩
theorem sectors_nil : ACalls Try.prog 32 [.c (.pointer none)] [] (fun _ => true) (fun r h' => r = .c (.int .i64 0) ∧ h' = []) := by
  refine acalls mixed Try.func32 rfl Try.ntmps32 rfl fun E hE _ hho => ?_
  simp [hho, -List.reduceReplicate]
  exact Ret.same ⟨rfl, rfl⟩
theorem calls_nil : ACalls Try.prog 29 [.c (.pointer none)] [] (fun _ => true) (fun r h' => r = .c (.int .i64 0) ∧ h' = []) := by
  refine acalls mixed Try.func29 rfl Try.ntmps29 rfl fun E hE _ hho => ?_
  simp [hho, -List.reduceReplicate]
  exact Ret.same ⟨rfl, rfl⟩
theorem flush_nil : ACalls Try.prog 54 [.c (.pointer none)] [] (fun _ => true) (fun r h' => r = .c (.int .i64 1) ∧ h' = []) := by
  refine acalls mixed Try.func54 rfl Try.ntmps54 rfl fun E hE _ hho => ?_
  simp [hho, -List.reduceReplicate]
  refine call_x [] (check_nil 0) rfl rfl ⟨rfl, rfl⟩ hho (by simp) (by decide) (by simp) (by simp) ?_
  simp [hho, -List.reduceReplicate]
  exact Ret.same ⟨rfl, rfl⟩
theorem write_nil (i : Int) : ACalls Try.prog 26 [.c (.pointer none), .c (.int .i64 i), .c (.slice none 0 0)] [] (fun _ => true) (fun r h' => r = .c (.int .i64 1) ∧ h' = []) := by
  refine acalls mixed Try.func26 rfl Try.ntmps26 rfl fun E hE _ hho => ?_
  simp [hho, -List.reduceReplicate]
  refine call_x [] (check_nil i) rfl rfl ⟨rfl, rfl⟩ hho (by simp) (by decide) (by simp) (by simp) ?_
  simp [hho, -List.reduceReplicate]
  exact Ret.same ⟨rfl, rfl⟩
end Go.Proofs.Ytmgpiminicgbiaa
-- 
namespace Go.Proofs.Ytmgpiminicgbiaa
set_option linter.unusedVariables false
set_option linter.unusedSimpArgs false
open Go.RowKit
attribute [local simp] isCut_nil isCut_region isCut_seq isCut_block isCut_loop isCut_cond isCut_skip isCut_exit isCut_ret isCut_range swapK putK altK condK_bool pickP_bool stepP stepO onPure_some onPure_none onImpl_some onImpl_none stepC onGP_some onGP_none onGV_some condG mkG onIt_it nextP_ptr takeP_eq takeV_some takeV_none takeU_some takeU_none takeQ takeW_some takeN_none takeN_some takeG_some takeO_some altO_some pureV binV2 eqF eqOp ovlV ovl2 rowAt capV binV intBin strBin isSh shV fldV ixV sliceV slice3V loadAV nilV lenV callV unV convV viewS cellsH loadV fldCut AV.ung AV.ungs AV.gc AV.cells AS.ev AS.put anyS gcsV gcO lens lnO gV guardV retK RetP_eq resV oneV anyRo loIx hiIx implO callP_clo evL gcsL clearV storeAV AS.push AS.setO appV appZ shortS copyV buildV partsV fillV srcV fzO okV isCell_c isCell_ptr isCell_sl isCell_fs isCell_fp isCell_clo rowZ_one rowZ_zero rowZ_2 rowZ_3 rowZ_4 rowZ_5 rowZ_6 rowZ_7 rowZ_8 rowZ_9 rowZ_10 rowZ_11 rowZ_12 noHo Value.oneCell' max2V min2V lookV updV updK updW cvals mkAt basV lenM msAt afterH putBack frzFrom frzO rebO backIx nilEq_sl nilEq_fs nilEq_ifn nilEq_ifh ifOp_eql ifOp_neq isLit nilOp_eql nilOp_neq AV.reb AV.rebL
attribute [local simp ↓] runK_skip runK_region runK_draw runK_seq runK_cut runK_cond runK_block runK_loop runK_exit runK_label runK_goto runK_ret runK_range contK_nil contK_seq contK_seq_ret contK_seq_exit contK_seq_goto contK_block contK_block_ret contK_block_goto contK_block_exit runO_nil runO_cons roundK_exit roundK_ret roundK_goto exitK_ret cutK_ret cutK_exit runE_done runE_nil runE_take runE_alt condG_true condG_false runYK_skip runYK_region runYK_draw runYK_seq runYK_cond runYK_block runYK_loop runYK_exit runYK_ret contYK_nil contYK_seq contYK_seq_ret contYK_seq_exit contYK_block contYK_block_ret contYK_block_exit runYO_nil runYO_cons finY_normal finY_ret roundY_ret roundY_exit
attribute [local simp] condYK_bool onYI_some onYP_some onYP_none onYA_some onYA_none onYD_some onYD_none ixD stepY yldArgs AS.clean keepV hoN hnY rebI setPs heldH
set_option maxRecDepth 10000
def backI (ws : List (Nat × B64)) (j : Nat) : List AV := [.c (.int .i64 ((ws.length : Int) - 1 - j)), .agg (avW ((ws[ws.length - 1 - j]?).getD (0, zB)))]
def rowW (ws : List (Nat × B64)) : AObj := .o (.row 95 65) (waitA ws)
theorem back_call (ws : List (Nat × B64)) : ACalls Try.prog 50 [.sl 0 65 0 ws.length (ws.length * 65)] [rowW ws] (fun k => decide (k < 1)) (fun r h' => r = .clo (.func 60) [] [.ptr 1 0 1] ∧ h' = [rowW ws, .o .box [.sl 0 65 0 ws.length (ws.length * 65)]]) := by
  refine acalls mixed Try.func50 rfl Try.ntmps50 rfl fun E hE _ hho => ?_
  simp [rowW, -List.reduceReplicate]
  exact Ret.same ⟨rfl, rfl⟩
@[simp] theorem plainA_u8av (l : List UInt8) : ((u8av l).all fun v => match v with | .c _ => true | _ => false) = true := by simp [u8av]
theorem backI_ok (ws : List (Nat × B64)) (j : Nat) : ∀ x ∈ backI ws j, itemOk 2 x = true := by
  simp [backI, itemOk, plainV, avW, -List.all_eq_true]
  simp [u8av]
theorem back_seq (ws : List (Nat × B64)) (hl : ws.length ≤ 1000000) : ASeq0 Try.prog [.o .box [.sl 1 65 0 ws.length (ws.length * 65)], rowW ws] ws.length (backI ws) 60 [.ptr 0 0 1] := by
  refine aseq0_k mixed Try.func60 rfl Try.ntmps60 rfl fun l => ?_
  have e1 : IntKind.i64.wrap ((ws.length : Int) - 1) = ws.length - 1 := IntWalk.i64_in _ (by omega)
  simp [rowW, e1, -List.reduceReplicate]
  refine loopY_k mixed (fun j : Nat => ⟨slotsOf 19 [(0, .clo (.yield l) [] []), (1, .ptr 0 0 1), (3, .c (.int .i64 ((ws.length : Int) - 1 - j)))], [.o .box [.sl 1 65 0 ws.length (ws.length * 65)], rowW ws]⟩) (fun j => j) (fun j => ws.length - j) (fun j => j ≤ ws.length) 0 (by simp) rfl ?_ ?_
  · intro E hE
    refine wk_of 2 0 (by simp) (by simpa using hE) rfl (by simp [rowW, livH, livO, AV.livL, AV.liv, wkL, wkV, List.range']) ?_
    simp [slotsOf, livH, livO, AV.livL, AV.liv, wkL, wkV, List.range']
  · intro j hj
    simp [rowW, slotsOf, -List.reduceReplicate]
    have e2 : IntKind.i64.wrap ((ws.length : Int) - 1 - j - 1) = ws.length - 1 - (j + 1 : Nat) := by rw [IntWalk.i64_in _ (by omega)]; omega
    split
    · rename_i h1
      have hlt : ws.length - 1 - j < ws.length := by omega
      refine ⟨⟨h1, by omega⟩, by omega, by omega, ?_, backI_ok ws j, ?_, by omega⟩
      · rw [waitA_at _ _ hlt]; simp [backI, hlt]
      · rw [e2]
        refine roundY_next (j + 1) rfl (by omega) (by omega) rfl fun E hE => wk_of 2 0 (by simp) (by simpa using hE) rfl (by simp [livH, livO, AV.livL, AV.liv, wkL, wkV, List.range']) (by simp [livH, livO, AV.livL, AV.liv, wkL, wkV, List.range'])
    · omega
end Go.Proofs.Ytmgpiminicgbiaa
-- 
namespace Go.Proofs.Ytmgpiminicgbiaa
set_option linter.unusedVariables false
set_option linter.unusedSimpArgs false
open Go.RowKit
attribute [local simp] isCut_nil isCut_region isCut_seq isCut_block isCut_loop isCut_cond isCut_skip isCut_exit isCut_ret isCut_range swapK putK altK condK_bool pickP_bool stepP stepO onPure_some onPure_none onImpl_some onImpl_none stepC onGP_some onGP_none onGV_some condG mkG onIt_it nextP_ptr takeP_eq takeV_some takeV_none takeU_some takeU_none takeQ takeW_some takeN_none takeN_some takeG_some takeO_some altO_some pureV binV2 eqF eqOp ovlV ovl2 rowAt capV binV intBin strBin isSh shV fldV ixV sliceV slice3V loadAV nilV lenV callV unV convV viewS cellsH loadV fldCut AV.ung AV.ungs AV.gc AV.cells AS.ev AS.put anyS gcsV gcO lens lnO gV guardV retK RetP_eq resV oneV anyRo loIx hiIx implO callP_clo evL gcsL clearV storeAV AS.push AS.setO appV appZ shortS copyV buildV partsV fillV srcV fzO okV isCell_c isCell_ptr isCell_sl isCell_fs isCell_fp isCell_clo rowZ_one rowZ_zero rowZ_2 rowZ_3 rowZ_4 rowZ_5 rowZ_6 rowZ_7 rowZ_8 rowZ_9 rowZ_10 rowZ_11 rowZ_12 noHo Value.oneCell' max2V min2V lookV updV updK updW cvals mkAt basV lenM msAt afterH putBack frzFrom frzO rebO backIx nilEq_sl nilEq_fs nilEq_ifn nilEq_ifh ifOp_eql ifOp_neq isLit nilOp_eql nilOp_neq AV.reb AV.rebL
attribute [local simp ↓] runK_skip runK_region runK_draw runK_seq runK_cut runK_cond runK_block runK_loop runK_exit runK_label runK_goto runK_ret runK_range contK_nil contK_seq contK_seq_ret contK_seq_exit contK_seq_goto contK_block contK_block_ret contK_block_goto contK_block_exit runO_nil runO_cons roundK_exit roundK_ret roundK_goto exitK_ret cutK_ret cutK_exit runE_done runE_nil runE_take runE_alt condG_true condG_false runYK_skip runYK_region runYK_draw runYK_seq runYK_cond runYK_block runYK_loop runYK_exit runYK_ret contYK_nil contYK_seq contYK_seq_ret contYK_seq_exit contYK_block contYK_block_ret contYK_block_exit runYO_nil runYO_cons finY_normal finY_ret roundY_ret roundY_exit
attribute [local simp] condYK_bool onYI_some onYP_some onYP_none onYA_some onYA_none onYD_some onYD_none ixD stepY yldArgs AS.clean keepV hoN hnY rebI setPs heldH
set_option maxRecDepth 10000
theorem clone8_fs (n : Nat) (l : List AV) (hl : l.length = n) (hn : n ≤ 1000000000) (hc : ∀ x ∈ l, isCell x = true) : ACalls Try.prog 37 [.fs 1 n l] [] (fun _ => false) (fun r h' => r = .sl 0 1 0 n n ∧ h' = [.o (.row 5 1) l]) := by
  refine acalls mixed Try.func37 rfl Try.ntmps37 rfl fun E hE _ hho => ?_
  simp [hho, noHo, -List.reduceReplicate]
  refine ⟨⟨⟨by omega, hc⟩, Ret.same ⟨rfl, rfl⟩⟩, fun h0 => ?_⟩
  subst h0
  have : l = [] := List.eq_nil_of_length_eq_zero hl
  subst this
  exact Ret.wk (fun E _ => wk_virt 0 5 1 rfl) (Ret.same ⟨rfl, rfl⟩)
@[simp] theorem b64_takeL (b : B64) : List.take 64 b.1 = b.1 := List.take_of_length_le (by simp)
@[simp] theorem b64_dropL (b : B64) : List.drop 64 b.1 = [] := List.drop_eq_nil_of_le (by simp)
@[simp] theorem u8av_nil : u8av [] = [] := rfl
@[simp] theorem livL_u8av (dead : List Nat) (l : List UInt8) : AV.livL dead (u8av l) = true := by
  induction l with
  | nil => rfl
  | cons b l ih => simpa [u8av, AV.livL, AV.liv] using ih
theorem keptA_at (k : List B64) (i : Nat) (hi : i < k.length) : List.take 64 (List.drop (i * 64) (keptA k)) = u8av k[i].1 := flat_at avB 64 (by simp) k i hi
/-- what stands in a sector now -/
def lastW (ws : List (Nat × B64)) (i : Nat) (b : B64) : B64 := ws.foldl (fun b w => if w.1 = i then w.2 else b) b
theorem lastW_none (ws : List (Nat × B64)) (i : Nat) (b : B64) (h : ∀ w ∈ ws, w.1 ≠ i) : lastW ws i b = b := by
  induction ws generalizing b with
  | nil => rfl
  | cons w ws ih =>
    have := h w (by simp)
    simp only [lastW, List.foldl_cons, this, if_false]
    exact ih b fun w hw => h w (List.mem_cons_of_mem _ hw)
theorem lastW_hit (ws : List (Nat × B64)) (i : Nat) (b : B64) (j : Nat) (hj : j < ws.length) (h1 : ((ws[ws.length - 1 - j]?).getD (0, zB)).1 = i) (h2 : ∀ k, k < j → ((ws[ws.length - 1 - k]?).getD (0, zB)).1 ≠ i) : lastW ws i b = ((ws[ws.length - 1 - j]?).getD (0, zB)).2 := by
  obtain ⟨m, hm⟩ : ∃ m, m = ws.length - 1 - j := ⟨_, rfl⟩
  rw [← hm] at h1 ⊢
  have hlt : m < ws.length := by omega
  have e : ws = ws.take m ++ ws[m] :: ws.drop (m + 1) := by rw [← List.drop_eq_getElem_cons hlt, List.take_append_drop]
  have hn : ∀ w ∈ ws.drop (m + 1), w.1 ≠ i := fun w hw => by
    obtain ⟨k, hk, rfl⟩ := List.mem_iff_getElem.1 hw
    have hk' : m + 1 + k < ws.length := by simp at hk; omega
    have := h2 (ws.length - 1 - (m + 1 + k)) (by omega)
    have e2 : ws.length - 1 - (ws.length - 1 - (m + 1 + k)) = m + 1 + k := by omega
    rw [e2, List.getElem?_eq_getElem hk'] at this
    simpa using this
  rw [List.getElem?_eq_getElem hlt, Option.getD_some] at h1 ⊢
  have : lastW ws i b = lastW (ws.drop (m + 1)) i (if ws[m].1 = i then ws[m].2 else lastW (ws.take m) i b) := by
    conv => lhs; rw [e]
    simp only [lastW, List.foldl_append, List.foldl_cons]
  rw [this, lastW_none _ _ _ hn, if_pos h1]
theorem lastW_miss (ws : List (Nat × B64)) (i : Nat) (b : B64) (h : ∀ k, k < ws.length → ((ws[ws.length - 1 - k]?).getD (0, zB)).1 ≠ i) : lastW ws i b = b := by
  refine lastW_none ws i b fun w hw => ?_
  obtain ⟨k, hk, rfl⟩ := List.mem_iff_getElem.1 hw
  have := h (ws.length - 1 - k) (by omega)
  have e2 : ws.length - 1 - (ws.length - 1 - k) = k := by omega
  rw [e2, List.getElem?_eq_getElem hk] at this
  simpa using this
def curS (d : DevS) (i : Nat) : B64 := lastW d.wait i ((d.kept[i]?).getD zB)
theorem read_ok (d : DevS) (hd : d.Ok) (i : Int) (hi : checkS d i 0 = 0) : ACalls Try.prog 30 [.ptr 0 0 5, .c (.int .i64 i)] (devO d) (fun k => decide (k < 3)) (fun r h' => r = .tup [.sl 3 1 0 64 64, .c (.int .i64 0)] ∧ h' = devO d ++ [.o (.row 5 1) (u8av (curS d i.toNat).1)]) := by
  refine acallsM mixed Try.func30 rfl Try.ntmps30 rfl fun E hE _ hho hmk => ?_
  simp [devO, hho, noHo, -List.reduceReplicate]
  refine call_x [0, 1, 2] (check_nilslice d i) rfl rfl ⟨rfl, rfl⟩ hho (by simp) (by decide) (by simp) (by simp [devO]) ?_
  simp [devO, hho, hi, -List.reduceReplicate]
  refine draw_k hho (.take 0 (.take 1 (.take 2 (.take 3 (.take 4 (.take 5 (.take 6 (.alt 7 (.alt 8 .done .nil) .nil)))))))) [0, 1, 3] [] (by decide +kernel) (by simp) ?_
  simp [roOf, holdOf, wrOf, altK, heldOk, Region.binds, -List.reduceReplicate]
  obtain ⟨k1, k2, k3, k4⟩ := check_ok hi
  have hlt : i.toNat < d.kept.length := by omega
  have hcur := keptA_at d.kept _ hlt
  rw [hcur]
  refine ⟨⟨k1, k2⟩, by omega, fun _ _ => ⟨⟨by simp, by omega⟩, ?_⟩⟩
  refine call_x [2] (back_call d.wait) rfl rfl ⟨rfl, rfl⟩ hho (by simp) (by decide) (by simp) (by simp) ?_
  simp [devO, rowW, hho, -List.reduceReplicate]
  refine range_k mixed [5, 2] (back_seq d.wait hd.wl) hho hmk ⟨by simp, rfl⟩ rfl rfl rfl (by simp) (by decide) (fun j => ⟨by simpa using backI_ok d.wait j, rfl⟩) rfl (by simp) (fun j => ∀ k, k < j → ((d.wait[d.wait.length - 1 - k]?).getD (0, zB)).1 ≠ i.toNat) (by simp) (fun _ => _) rfl (by simp) ?_ ?_
  · intro j hj hI E' hho' hE' hst'
    obtain ⟨x, hx⟩ : ∃ x, x = (d.wait[d.wait.length - 1 - j]?).getD (0, zB) := ⟨_, rfl⟩
    simp [backI, ← hx, avW, hho', -List.reduceReplicate]
    refine ⟨by simp, fun E2 ho2 ln2 st2 => ?_⟩
    simp [ho2, -List.reduceReplicate]
    split <;> rename_i hx1
    · have hxi : x.1 = i.toNat := by omega
      have hb := lastW_hit d.wait i.toNat ((d.kept[i.toNat]?).getD zB) j hj (by rw [← hx]; exact hxi) hI
      rw [← hx] at hb
      refine range_exit 6 1 rfl (by simpa using ln2) rfl (by simp [livH, livO, AV.livL, AV.liv, wkL, wkV, List.range']) (by simp [heldH, lens]) ?_
      simp [hho, -List.reduceReplicate]
      refine ⟨by decide, ?_⟩
      refine call_f [] (fun k => k == 4) (clone8_fs 64 (u8av x.2.1) (by simp) (by decide) (by simp)) rfl rfl ⟨by simp, rfl⟩ hho (by simp) (by decide) (by simp) (by simp [isD_c, maxLen]) (by simp) ?_
      simp [hho, -List.reduceReplicate]
      refine Ret.sel [0, 1, 2, 6] (fun _ => false) (ho := by rfl) (ha := by rfl) ?_ ?_ (by decide) (by simp) (st_pre 3 [6] _) ⟨?_, ?_⟩
      · simp
      · simp
      · rfl
      · simp [curS, hb]
    · refine range_next 6 1 (fun k hk => ?_) rfl (by simpa using ln2) rfl (by simp [livH, livO, AV.livL, AV.liv, wkL, wkV, List.range'])
      rcases Nat.lt_or_ge k j with h | h
      · exact hI k h
      · obtain rfl : k = j := by omega
        rw [← hx]; omega
  · intro hI
    have hb := lastW_miss d.wait i.toNat ((d.kept[i.toNat]?).getD zB) hI
    have hb2 : (d.kept[i.toNat]?).getD zB = d.kept[i.toNat] := by simp [hlt]
    rw [hb2] at hb
    simp [hho, -List.reduceReplicate]
    refine ⟨by decide, ?_⟩
    refine call_f [] (fun k => k == 4) (clone8_fs 64 (u8av d.kept[i.toNat].1) (by simp) (by decide) (by simp)) rfl rfl ⟨by simp, rfl⟩ hho (by simp) (by decide) (by simp) (by simp [isD_c, maxLen]) (by simp) ?_
    simp [hho, -List.reduceReplicate]
    refine Ret.sel [0, 1, 2, 6] (fun _ => false) (ho := by rfl) (ha := by rfl) ?_ ?_ (by decide) (by simp) (st_pre 3 [6] _) ⟨?_, ?_⟩
    · simp
    · simp
    · rfl
    · simp [curS, hb, hb2]
theorem read_err (d : DevS) (i : Int) (hi : checkS d i 0 ≠ 0) : ACalls Try.prog 30 [.ptr 0 0 5, .c (.int .i64 i)] (devO d) (fun k => decide (k < 3)) (fun r h' => r = .tup [.c (.slice none 0 0), .c (.int .i64 (checkS d i 0))] ∧ h' = devO d) := by
  refine acallsM mixed Try.func30 rfl Try.ntmps30 rfl fun E hE _ hho hmk => ?_
  simp [devO, hho, noHo, -List.reduceReplicate]
  refine call_x [0, 1, 2] (check_nilslice d i) rfl rfl ⟨rfl, rfl⟩ hho (by simp) (by decide) (by simp) (by simp [devO]) ?_
  simp [devO, hho, hi, -List.reduceReplicate]
  refine Ret.sel [0, 1, 2] (fun _ => false) (ho := by rfl) (ha := by rfl) ?_ ?_ (by decide) (by simp) (st_lt 3 _) ⟨?_, ?_⟩
  · simp
  · simp
  · rfl
  · rfl
theorem read_nil (i : Int) : ACalls Try.prog 30 [.c (.pointer none), .c (.int .i64 i)] [] (fun _ => false) (fun r h' => r = .tup [.c (.slice none 0 0), .c (.int .i64 1)] ∧ h' = []) := by
  refine acallsM mixed Try.func30 rfl Try.ntmps30 rfl fun E hE _ hho hmk => ?_
  simp [hho, noHo, -List.reduceReplicate]
  refine call_x [] (check_nil i) rfl rfl ⟨rfl, rfl⟩ hho (by simp) (by decide) (by simp) (by simp) ?_
  simp [hho, -List.reduceReplicate]
  exact Ret.drop (by decide) ⟨rfl, rfl⟩
end Go.Proofs.Ytmgpiminicgbiaa
namespace Go.Proofs.Ytmgpiminicgbiaa
set_option linter.unusedVariables false
set_option linter.unusedSimpArgs false
open Go.RowKit
attribute [local simp] isCut_nil isCut_region isCut_seq isCut_block isCut_loop isCut_cond isCut_skip isCut_exit isCut_ret isCut_range swapK putK altK condK_bool pickP_bool stepP stepO onPure_some onPure_none onImpl_some onImpl_none stepC onGP_some onGP_none onGV_some condG mkG onIt_it nextP_ptr takeP_eq takeV_some takeV_none takeU_some takeU_none takeQ takeW_some takeN_none takeN_some takeG_some takeO_some altO_some pureV binV2 eqF eqOp ovlV ovl2 rowAt capV binV intBin strBin isSh shV fldV ixV sliceV slice3V loadAV nilV lenV callV unV convV viewS cellsH loadV fldCut AV.ung AV.ungs AV.gc AV.cells AS.ev AS.put anyS gcsV gcO lens lnO gV guardV retK RetP_eq resV oneV anyRo loIx hiIx implO callP_clo evL gcsL clearV storeAV AS.push AS.setO appV appZ shortS copyV buildV partsV fillV srcV fzO okV isCell_c isCell_ptr isCell_sl isCell_fs isCell_fp isCell_clo rowZ_one rowZ_zero rowZ_2 rowZ_3 rowZ_4 rowZ_5 rowZ_6 rowZ_7 rowZ_8 rowZ_9 rowZ_10 rowZ_11 rowZ_12 noHo Value.oneCell' max2V min2V lookV updV updK updW cvals mkAt basV lenM msAt afterH putBack frzFrom frzO rebO backIx nilEq_sl nilEq_fs nilEq_ifn nilEq_ifh ifOp_eql ifOp_neq isLit nilOp_eql nilOp_neq AV.reb AV.rebL
attribute [local simp ↓] runK_skip runK_region runK_draw runK_seq runK_cut runK_cond runK_block runK_loop runK_exit runK_label runK_goto runK_ret runK_range contK_nil contK_seq contK_seq_ret contK_seq_exit contK_seq_goto contK_block contK_block_ret contK_block_goto contK_block_exit runO_nil runO_cons roundK_exit roundK_ret roundK_goto exitK_ret cutK_ret cutK_exit runE_done runE_nil runE_take runE_alt condG_true condG_false
set_option maxRecDepth 10000
theorem flush_err (d : DevS) (hc : checkS d 0 0 ≠ 0) : ACalls Try.prog 54 [.ptr 0 0 5] (devO d) (fun _ => true) (fun r h' => r = .c (.int .i64 (checkS d 0 0)) ∧ h' = devO d) := by
  refine acalls mixed Try.func54 rfl Try.ntmps54 rfl fun E hE hst hho => ?_
  simp [devO, hho, -List.reduceReplicate]
  refine call_x [0, 1, 2] (check_nilslice d 0) rfl rfl ⟨rfl, rfl⟩ hho (by simp) (by decide) (by simp) (by simp [devO]) ?_
  simp [devO, hho, hc, -List.reduceReplicate]
  exact Ret.same ⟨rfl, rfl⟩
theorem isU8_all (l : List UInt8) : ∀ v ∈ u8av l, isU8 v = true := by
  intro v hv
  simp only [u8av, List.mem_map] at hv
  obtain ⟨b, _, rfl⟩ := hv
  have := b.toNat_lt
  simp only [u8, isU8, Bool.and_eq_true, decide_eq_true_eq]
  exact ⟨by omega, by omega⟩
theorem newS_ok (n : Nat) (h1 : 1 ≤ n) (h2 : n ≤ 65536) : (newS n).Ok := ⟨by simp [newS], by simpa [newS] using h1, by simpa [newS] using h2, by simp [newS], by simp [newS], by simp [newS], by simp [newS], by simp [newS]⟩
theorem write_Ok {d : DevS} (h : d.Ok) {i : Int} {l : List UInt8} (h1 : d.calls ≤ 100000) (h2 : d.wait.length ≤ 100000) : (writeS d i l).Ok := by
  unfold writeS
  split
  · rename_i hc
    obtain ⟨k1, k2, k3, k4⟩ := check_ok hc
    refine ⟨fun x hx => ?_, h.k1, h.k2, ?_, ?_, ?_, ?_, ?_⟩
    · simp only [countS, List.mem_append, List.mem_singleton] at hx ⊢
      rcases hx with hx | rfl
      · exact h.w1 x hx
      · simp only; omega
    · have := h.l1; simp only [countS]; split
      · have := k4 (by assumption); omega
      · exact h.l1
    · have := h.l2; simp only [countS]; split <;> omega
    · have := h.c1; simp only [countS]; omega
    · simp only [countS]; omega
    · simp only [countS, List.length_append, List.length_singleton]; omega
  · exact h
def i64ok (n : Int) : Prop := -9223372036854775808 ≤ n ∧ n ≤ 9223372036854775807
theorem flat_u8 (l : List UInt8) : (l.flatMap fun b => [AV.c (u8 b)]) = u8av l := by
  induction l with
  | nil => rfl
  | cons b l ih => rw [List.flatMap_cons, ih]; rfl
theorem flat_int (l : List Int) : (l.flatMap fun b => [AV.c (.int .i64 b)]) = intAV l := by
  induction l with
  | nil => rfl
  | cons b l ih => rw [List.flatMap_cons, ih]; rfl
/-- a device whose blocks begin at handle k -/
def devAt (k : Nat) (d : DevS) : List AObj :=
  [.o .box [.sl (k + 1) 64 0 d.kept.length (d.kept.length * 64), .sl (k + 2) 65 0 d.wait.length (d.wait.length * 65), .c (.bool d.bound), .c (.int .i64 d.left), .c (.int .i64 d.calls)],
   .o (.row 93 64) (keptA d.kept), .o (.row 95 65) (waitA d.wait)]
def ixU (m : Int) (i : Int) : Int := IntKind.i64.wrap (Int.tmod (IntKind.u64.wrap i) m)
theorem u64_range (i : Int) : 0 ≤ IntKind.u64.wrap i ∧ IntKind.u64.wrap i < 18446744073709551616 := by
  rw [IntKind.wrap_u64]; omega
theorem ixU_range (m : Int) (h1 : 0 < m) (h2 : m ≤ 100) (i : Int) : 0 ≤ ixU m i ∧ ixU m i < m := by
  obtain ⟨a, b⟩ := u64_range i
  unfold ixU
  rw [Int.tmod_eq_emod_of_nonneg a]
  have := Int.emod_nonneg (IntKind.u64.wrap i) (by omega : m ≠ 0)
  have := Int.emod_lt_of_pos (IntKind.u64.wrap i) h1
  rw [IntWalk.i64_in _ (by omega)]
  omega
theorem bytesOf_u8 (l : List UInt8) : bytesOf (u8av l) = ⟨l.toArray⟩ := by
  have : ∀ l : List UInt8, (u8av l).map u8of = l := by
    intro l
    induction l with
    | nil => rfl
    | cons b l ih =>
      have e : u8of (.c (u8 b)) = b := by simp [u8of, u8]
      simp only [u8av, List.map_cons] at ih ⊢
      rw [ih, e]
  unfold bytesOf
  rw [this]
theorem full_of (b : List UInt8) (hb : b.length ≤ 64) : bytesOf (u8av (padB b).1) = fullB (bytesOf (u8av b)) (64 - (bytesOf (u8av b)).size) := by
  rw [bytesOf_u8 b, full_pad ⟨b.toArray⟩ (by simpa [ByteArray.size] using hb), bytesOf_u8]
  rfl
theorem intAV_liv (dead : List Nat) (l : List Int) : AV.livL dead (intAV l) = true := by
  induction l with
  | nil => rfl
  | cons b l ih => simpa [intAV, AV.livL, AV.liv] using ih
theorem intAV_isD (l : List Int) : ∀ x ∈ intAV l, isD x = true := by simp [intAV, isD]
/-- the reference's device whose blocks begin at handle k -/
def refAt (k : Nat) (d : DevS) : List AObj :=
  [.o .box [.sl (k + 1) 1 0 d.kept.length d.kept.length, .sl (k + 2) 2 0 d.wait.length (d.wait.length * 2), .c (.int .i64 (leftR d)), .c (.int .i64 d.calls)],
   .o (.row 9 1) (refK d.kept), .o (.row 101 2) (refW d.wait)]
/-- what the reference's device is behind a write: its row is a new one -/
def refV (d : DevS) (d' : DevS) : List AObj :=
  [.o .box [.sl 1 1 0 d.kept.length d.kept.length, .sl 3 2 0 d'.wait.length (d'.wait.length * 2), .c (.int .i64 (leftR d')), .c (.int .i64 d'.calls)],
   .o (.row 9 1) (refK d.kept), .o (.row 101 2) (refW d.wait), .o (.row 101 2) (refW d'.wait)]
theorem r6write_new (d : DevS) (hd : d.Ok) (i : Int) (b : ByteArray) (hb : b.size ≤ 1000000) (hc : checkS d i b.size = 0) : ACalls Try.prog 27 [.ptr 0 0 4, .c (.int .i64 i), .c (.string b)] (refO d) (fun k => decide (k < 4)) (fun r h' => r = .c (.int .i64 0) ∧ h' = refV d (writeS d i b.data.toList)) := by
  have esz : b.data.size = b.size := rfl
  refine acalls mixed Try.func27 rfl Try.ntmps27 rfl fun E hE _ hho => ?_
  simp [refO, hho, -List.reduceReplicate]
  refine call_x [0, 1, 2] (r6check_ref d hd i b) rfl rfl ⟨rfl, rfl⟩ hho (by simp) (by decide) (by simp) (by simp [refO]) ?_
  simp [refO, hho, hc, -List.reduceReplicate]
  refine ⟨by have := hd.wl; omega, ?_⟩
  obtain ⟨k1, k2, k3, k4⟩ := check_ok hc
  have e : ((i.toNat : Nat) : Int) = i := by omega
  refine call_plain (fun _ => false) (full_ref b hb) (ha := by rfl) (by simp) ?_
  rintro r h' ⟨rfl, rfl⟩
  refine ⟨rfl, ?_⟩
  simp [hho, full_pad b k3, -List.reduceReplicate]
  refine ⟨by have := hd.wl; omega, ?_⟩
  refine call_x [0, 1, 3] (r6count_ref { d with wait := d.wait ++ [(i.toNat, padB b.data.toList)] } ⟨hd.c1, hd.c2⟩ fun hb => ⟨by have := k4 hb; have := hd.l1; simp only; omega, hd.l2⟩) rfl rfl ?_ hho (by simp) (by decide) ?_ (by simp [refO]) ?_
  · simp [refO, refW, refWc, strV, leftR, e, Nat.add_mul]
  · simp [refO, -List.reduceReplicate]
  simp [refO, hho, -List.reduceReplicate]
  refine Ret.sel [0, 1, 2, 3] (fun _ => false) (ho := by rfl) (ha := by rfl) ?_ ?_ (by decide) (by simp) (st_lt 4 _) ⟨?_, ?_⟩
  · simp
  · simp
  · simp [hc]
  · simp [writeS, esz, hc, refV, countS]
theorem r6write_err (d : DevS) (hd : d.Ok) (i : Int) (b : ByteArray) (hc : checkS d i b.size ≠ 0) : ACalls Try.prog 27 [.ptr 0 0 4, .c (.int .i64 i), .c (.string b)] (refO d) (fun _ => true) (fun r h' => r = .c (.int .i64 (checkS d i b.size)) ∧ h' = refO d) := by
  refine acalls mixed Try.func27 rfl Try.ntmps27 rfl fun E hE _ hho => ?_
  simp [refO, hho, -List.reduceReplicate]
  refine call_x [0, 1, 2] (r6check_ref d hd i b) rfl rfl ⟨rfl, rfl⟩ hho (by simp) (by decide) (by simp) (by simp [refO]) ?_
  simp [refO, hho, hc, -List.reduceReplicate]
  exact Ret.same ⟨rfl, rfl⟩
theorem writeS_kept (d : DevS) (i : Int) (l : List UInt8) : (writeS d i l).kept = d.kept := by
  unfold writeS; split <;> rfl
theorem u8_of_wrap (x : Int) : Value.int .u8 (IntKind.u8.wrap x) = u8 (UInt8.ofNat (IntKind.u8.wrap x).toNat) := by
  have h : 0 ≤ IntKind.u8.wrap x ∧ IntKind.u8.wrap x < 256 := by rw [IntKind.wrap_u8]; omega
  simp only [u8, UInt8.toNat_ofNat']
  congr 1
  omega
def xorB (b : UInt8) : UInt8 := UInt8.ofNat (IntKind.u8.wrap ((b.toNat % 2 ^ IntKind.u8.bits ^^^ 255 % 2 ^ IntKind.u8.bits : Nat) : Int)).toNat
theorem u8av_put (l : List UInt8) (k : Nat) (b : UInt8) (hk : k < l.length) : u8av (List.take k l) ++ AV.c (u8 b) :: u8av (List.drop (k + 1) l) = u8av (l.set k b) := by
  have e : AV.c (u8 b) :: u8av (List.drop (k + 1) l) = u8av (b :: l.drop (k + 1)) := by simp [u8av]
  rw [e, ← u8av_app, List.set_eq_take_append_cons_drop, if_pos hk]
theorem u8av_drop0 (l : List UInt8) (k : Nat) (hk : k < l.length) : (u8av (List.drop k l))[0]? = some (AV.c (.int .u8 (l[k].toNat))) := by
  simp [u8av, u8, hk]
@[simp] theorem frzFrom_none (i : Nat) (l : List AObj) : frzFrom (fun _ => false) i l = l := by
  induction l generalizing i with
  | nil => rfl
  | cons x l ih => simp [frzFrom, ih]
theorem livL_none (l : List AV) : AV.livL [] l = true := by
  have hd1 : ∀ v : AV, v.liv [] = true := by
    intro v
    refine AV.rec (motive_1 := fun v => v.liv [] = true) (motive_2 := fun l => AV.livL [] l = true) ?_ ?_ ?_ ?_ ?_ ?_ ?_ ?_ ?_ ?_ ?_ ?_ ?_ ?_ v <;> simp_all [AV.liv, AV.livL]
  induction l with
  | nil => simp [AV.livL]
  | cons v l ih => simp [AV.livL, hd1 v, ih]
theorem livH_none (lent : List Nat) (h : List AObj) : ∀ n, livH [] lent n h = true := by
  induction h with
  | nil => intro n; simp [livH]
  | cons o h ih =>
    intro n
    simp only [livH, ih, Bool.and_true, Bool.or_eq_true]
    right
    cases o with
    | raw _ => rfl
    | o k cs => cases k <;> simp [livO, livL_none]
/-- told otherwise, no block less -/
theorem wk_all {E : Env} {s s' : AS} (hn : E.ln0.length ≤ s.h.length) (hh : s.h = s'.h) (ht : wkL [] s.t s'.t) : Wk E s s' :=
  wk_of s.h.length 0 rfl hn (by rw [List.take_length, hh]) (by simpa using livH_none _ _ _) (by simpa using ht)
end Go.Proofs.Ytmgpiminicgbiaa
