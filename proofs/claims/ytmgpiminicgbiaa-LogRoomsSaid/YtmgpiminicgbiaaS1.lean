import Derived.Test.YtmgpiminicgbiaaTy
namespace Go.Proofs.Ytmgpiminicgbiaa
set_option linter.unusedVariables false
set_option linter.unusedSimpArgs false
open Go.RowKit

abbrev B64 := {l : List UInt8 // l.length = 64}
structure DevS where
  kept : List B64
  wait : List (Nat × B64)
  bound : Bool
  left : Int
  calls : Int
def avB (b : B64) : List AV := u8av b.1
def avW (x : Nat × B64) : List AV := .c (.int .i64 (x.1 : Int)) :: u8av x.2.1
def keptA (l : List B64) : List AV := l.flatMap avB
def waitA (l : List (Nat × B64)) : List AV := l.flatMap avW
@[simp] theorem u8av_length (l : List UInt8) : (u8av l).length = l.length := by simp [u8av]
@[simp] theorem u8av_take (l : List UInt8) : List.take l.length (u8av l) = u8av l := List.take_of_length_le (by simp)
@[simp] theorem b64_len (b : B64) : b.1.length = 64 := b.2
@[simp] theorem b64_take (b : B64) : List.take 64 (u8av b.1) = u8av b.1 := List.take_of_length_le (by simp)
@[simp] theorem avB_length (b : B64) : (avB b).length = 64 := by simp [avB, b.2]
@[simp] theorem avW_length (b : Nat × B64) : (avW b).length = 65 := by simp [avW, b.2.2]
@[simp] theorem keptA_length (l : List B64) : (keptA l).length = l.length * 64 := by
  induction l with
  | nil => rfl
  | cons b l ih => simp [keptA] at ih ⊢; omega
@[simp] theorem waitA_length (l : List (Nat × B64)) : (waitA l).length = l.length * 65 := by
  induction l with
  | nil => rfl
  | cons b l ih => simp [waitA] at ih ⊢; omega
def devO (d : DevS) : List AObj :=
  [.o .box [.sl 1 64 0 d.kept.length (d.kept.length * 64), .sl 2 65 0 d.wait.length (d.wait.length * 65), .c (.bool d.bound), .c (.int .i64 d.left), .c (.int .i64 d.calls)],
   .o (.row 93 64) (keptA d.kept), .o (.row 95 65) (waitA d.wait)]
structure DevS.Ok (d : DevS) : Prop where
  w1 : ∀ x ∈ d.wait, x.1 < d.kept.length
  k1 : 1 ≤ d.kept.length
  k2 : d.kept.length ≤ 65536
  l1 : 0 ≤ d.left
  l2 : d.left ≤ 9223372036854775807
  c1 : 0 ≤ d.calls
  c2 : d.calls ≤ 1000000
  wl : d.wait.length ≤ 1000000
def checkS (d : DevS) (i : Int) (n : Nat) : Int := if i < 0 ∨ (d.kept.length : Int) ≤ i ∨ 64 < n then 2 else if d.bound = true ∧ d.left = 0 then 60 else 0
def countS (d : DevS) : DevS := { d with calls := d.calls + 1, left := if d.bound then d.left - 1 else d.left }
attribute [local simp] isCut_nil isCut_region isCut_seq isCut_block isCut_loop isCut_cond isCut_skip isCut_exit isCut_ret isCut_range swapK putK altK condK_bool pickP_bool stepP stepO onPure_some onPure_none onImpl_some onImpl_none stepC onGP_some onGP_none onGV_some condG mkG onIt_it nextP_ptr takeP_eq takeV_some takeN_none takeN_some takeG_some takeO_some altO_some pureV binV intBin strBin isSh shV fldV ixV sliceV loadAV nilV lenV callV unV convV viewS cellsH loadV fldCut AV.ung AV.gc AV.cells AS.ev AS.put anyS gcsV lens lnO gV guardV retK RetP_eq resV oneV anyRo loIx hiIx implO callP_clo evL gcsL storeAV AS.push AS.setO appV copyV buildV partsV fillV srcV fzO okV isCell_c isCell_ptr isCell_sl isCell_fs isCell_fp isCell_clo rowZ_one rowZ_zero rowZ_2 rowZ_3 rowZ_4 rowZ_5 rowZ_6 rowZ_7 rowZ_8 rowZ_9 rowZ_10 rowZ_11 rowZ_12 noHo Value.oneCell' max2V min2V afterH putBack frzFrom frzO rebO backIx nilEq_sl nilEq_fs nilOp_eql nilOp_neq AV.reb AV.rebL
attribute [local simp ↓] runK_skip runK_region runK_draw runK_seq runK_cut runK_cond runK_block runK_loop runK_exit runK_label runK_goto runK_ret runK_range contK_nil contK_seq contK_seq_ret contK_seq_exit contK_seq_goto contK_block contK_block_ret contK_block_goto contK_block_exit runO_nil runO_cons roundK_exit roundK_ret roundK_goto exitK_ret cutK_ret cutK_exit runE_done runE_nil runE_take runE_alt condG_true condG_false
set_option maxRecDepth 10000
theorem check_fs (d : DevS) (i : Int) (n : Nat) (l : List AV) : ACalls Try.prog 46 [.ptr 0 0 5, .c (.int .i64 i), .fs 1 n l] (devO d) (fun _ => true) (fun r h' => r = .c (.int .i64 (checkS d i n)) ∧ h' = devO d) := by
  refine acalls mixed Try.func46 rfl Try.ntmps46 rfl fun E hE _ hho => ?_
  simp [devO, -List.reduceReplicate]
  (repeat' (first | apply And.intro | split | intro _)) <;> refine Ret.same ⟨?_, rfl⟩ <;> simp only [checkS, AV.c.injEq, Value.int.injEq, true_and] <;> split <;> simp_all <;> omega
theorem check_nilslice (d : DevS) (i : Int) : ACalls Try.prog 46 [.ptr 0 0 5, .c (.int .i64 i), .c (.slice none 0 0)] (devO d) (fun _ => true) (fun r h' => r = .c (.int .i64 (checkS d i 0)) ∧ h' = devO d) := by
  refine acalls mixed Try.func46 rfl Try.ntmps46 rfl fun E hE _ hho => ?_
  simp [devO, -List.reduceReplicate]
  (repeat' (first | apply And.intro | split | intro _)) <;> refine Ret.same ⟨?_, rfl⟩ <;> simp only [checkS, AV.c.injEq, Value.int.injEq, true_and] <;> split <;> simp_all <;> omega
theorem check_sl (d : DevS) (i : Int) (n : Nat) (e : TypeId) (l : List AV) (hl : l.length = n) : ACalls Try.prog 46 [.ptr 0 0 5, .c (.int .i64 i), .sl 3 1 0 n n] (devO d ++ [.o (.row e 1) l]) (fun _ => true) (fun r h' => r = .c (.int .i64 (checkS d i n)) ∧ h' = devO d ++ [.o (.row e 1) l]) := by
  refine acalls mixed Try.func46 rfl Try.ntmps46 rfl fun E hE _ hho => ?_
  simp [devO, -List.reduceReplicate]
  refine ⟨fun h1 h2 => ⟨⟨h1, h2⟩, hl⟩, ?_⟩
  (repeat' (first | apply And.intro | split | intro _)) <;> refine Ret.same ⟨?_, rfl⟩ <;> simp only [checkS, AV.c.injEq, Value.int.injEq, true_and] <;> split <;> simp_all <;> omega
theorem check_nil (i : Int) : ACalls Try.prog 46 [.c (.pointer none), .c (.int .i64 i), .c (.slice none 0 0)] [] (fun _ => true) (fun r h' => r = .c (.int .i64 1) ∧ h' = []) := by
  refine acalls mixed Try.func46 rfl Try.ntmps46 rfl fun E hE _ hho => ?_
  simp [-List.reduceReplicate]
  exact Ret.same ⟨rfl, rfl⟩
theorem check_nil_fs (i : Int) (n : Nat) (l : List AV) : ACalls Try.prog 46 [.c (.pointer none), .c (.int .i64 i), .fs 1 n l] [] (fun _ => true) (fun r h' => r = .c (.int .i64 1) ∧ h' = []) := by
  refine acalls mixed Try.func46 rfl Try.ntmps46 rfl fun E hE _ hho => ?_
  simp [-List.reduceReplicate]
  exact Ret.same ⟨rfl, rfl⟩
theorem count_dev (d : DevS) (hc : 0 ≤ d.calls ∧ d.calls ≤ 1000000) (hl : d.bound = true → 1 ≤ d.left ∧ d.left ≤ 9223372036854775807) : ACalls Try.prog 47 [.ptr 0 0 5] (devO d) (fun _ => true) (fun r h' => r = .tup [] ∧ h' = devO (countS d)) := by
  refine acalls mixed Try.func47 rfl Try.ntmps47 rfl fun E hE _ hho => ?_
  have e1 : IntKind.i64.wrap (d.calls + 1) = d.calls + 1 := IntWalk.i64_in _ (by omega)
  simp [devO, hho, noHo, -List.reduceReplicate]
  split <;> rename_i hb
  · have := hl hb
    have e2 : IntKind.i64.wrap (d.left - 1) = d.left - 1 := IntWalk.i64_in _ (by omega)
    refine Ret.same ⟨rfl, ?_⟩
    simp [countS, e1, e2, hb]
  · refine Ret.same ⟨rfl, ?_⟩
    simp [countS, e1, hb]
/-- a device whose waiting slice is nil -/
def devN (d : DevS) : List AObj :=
  [.o .box [.sl 1 64 0 d.kept.length (d.kept.length * 64), .c (.slice none 0 0), .c (.bool d.bound), .c (.int .i64 d.left), .c (.int .i64 d.calls)], .o (.row 93 64) (keptA d.kept)]
theorem count_nil (d : DevS) (hc : 0 ≤ d.calls ∧ d.calls ≤ 1000000) (hl : d.bound = true → 1 ≤ d.left ∧ d.left ≤ 9223372036854775807) : ACalls Try.prog 47 [.ptr 0 0 5] (devN d) (fun _ => true) (fun r h' => r = .tup [] ∧ h' = devN (countS d)) := by
  refine acalls mixed Try.func47 rfl Try.ntmps47 rfl fun E hE _ hho => ?_
  have e1 : IntKind.i64.wrap (d.calls + 1) = d.calls + 1 := IntWalk.i64_in _ (by omega)
  simp [devN, hho, noHo, -List.reduceReplicate]
  split <;> rename_i hb
  · have := hl hb
    have e2 : IntKind.i64.wrap (d.left - 1) = d.left - 1 := IntWalk.i64_in _ (by omega)
    refine Ret.same ⟨rfl, ?_⟩
    simp [countS, e1, e2, hb]
  · refine Ret.same ⟨rfl, ?_⟩
    simp [countS, e1, hb]
theorem limit_dev (d : DevS) (i : Int) : ACalls Try.prog 11 [.ptr 0 0 5, .c (.int .i64 i)] (devO d) (fun _ => true) (fun r h' => r = .tup [] ∧ h' = devO { d with bound := true, left := max i 0 }) := by
  refine acalls mixed Try.func11 rfl Try.ntmps11 rfl fun E hE _ hho => ?_
  simp [devO, hho, noHo, -List.reduceReplicate]
  exact Ret.same ⟨rfl, rfl⟩
theorem sectors_dev (d : DevS) : ACalls Try.prog 32 [.ptr 0 0 5] (devO d) (fun _ => true) (fun r h' => r = .c (.int .i64 d.kept.length) ∧ h' = devO d) := by
  refine acalls mixed Try.func32 rfl Try.ntmps32 rfl fun E hE _ hho => ?_
  simp [devO, hho, noHo, -List.reduceReplicate]
  exact Ret.same ⟨rfl, rfl⟩
theorem calls_dev (d : DevS) : ACalls Try.prog 29 [.ptr 0 0 5] (devO d) (fun _ => true) (fun r h' => r = .c (.int .i64 d.calls) ∧ h' = devO d) := by
  refine acalls mixed Try.func29 rfl Try.ntmps29 rfl fun E hE _ hho => ?_
  simp [devO, hho, noHo, -List.reduceReplicate]
  exact Ret.same ⟨rfl, rfl⟩
end Go.Proofs.Ytmgpiminicgbiaa
