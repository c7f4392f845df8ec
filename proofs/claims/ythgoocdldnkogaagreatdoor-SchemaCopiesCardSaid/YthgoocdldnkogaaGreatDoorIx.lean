import Derived.Test.YthgoocdldnkogaaGreatDoorHW
namespace Go.Proofs.YthgoocdldnkogaaGreatDoor
set_option linter.unusedVariables false
set_option linter.unusedSimpArgs false
open Go.RowKit
attribute [local simp] isCut_nil isCut_region isCut_seq isCut_block isCut_loop isCut_cond isCut_skip isCut_exit isCut_ret isCut_range swapK putK altK condK_bool pickP_bool stepP stepO onPure_some onPure_none onImpl_some onImpl_none stepC onGP_some onGP_none onGV_some condG mkG onIt_it nextP_ptr takeP_eq takeV_some takeV_none takeU_some takeU_none takeQ takeW_some takeN_none takeN_some takeG_some takeO_some altO_some pureV binV2 eqF eqOp ovlV ovl2 rowAt capV binV intBin strBin isSh shV fldV ixV sliceV slice3V loadAV nilV lenV callV unV convV viewS cellsH loadV fldCut AV.ung AV.ungs AV.gc AV.cells AS.ev AS.put anyS gcsV gcO lens lnO gV guardV retK RetP_eq resV oneV anyRo loIx hiIx implO callP_clo evL gcsL clearV storeAV AS.push AS.setO appV appZ shortS copyV buildV partsV fillV srcV fzO okV isCell_c isCell_ptr isCell_sl isCell_fs isCell_fp isCell_clo rowZ_one rowZ_zero rowZ_2 rowZ_3 rowZ_4 rowZ_5 rowZ_6 rowZ_7 rowZ_8 rowZ_9 rowZ_10 rowZ_11 rowZ_12 noHo Value.oneCell' max2V min2V lookV updV updK updW cvals mkAt basV lenM msAt afterH putBack frzFrom frzO rebO backIx nilEq_sl nilEq_fs nilEq_ifn nilEq_ifh ifOp_eql ifOp_neq isLit nilOp_eql nilOp_neq AV.reb AV.rebL
attribute [local simp ↓] runK_skip runK_region runK_draw runK_seq runK_cut runK_cond runK_block runK_loop runK_exit runK_label runK_goto runK_ret runK_range contK_nil contK_seq contK_seq_ret contK_seq_exit contK_seq_goto contK_block contK_block_ret contK_block_goto contK_block_exit runO_nil runO_cons roundK_exit roundK_ret roundK_goto exitK_ret cutK_ret cutK_exit runE_done runE_nil runE_take runE_alt condG_true condG_false
set_option maxRecDepth 10000
def ixF {α : Type} (p : α → Bool) (l : List α) : Int := match l.findIdx? p with | some i => (i : Int) | none => -1
theorem ixF_hit {α : Type} {p : α → Bool} {l : List α} {j : Nat} (hj : j < l.length) (h : ∀ k (hk : k < l.length), k < j → p l[k] = false) (hp : p l[j] = true) : ixF p l = j := by
 have : l.findIdx? p = some j := by
  rw [List.findIdx?_eq_some_iff_getElem]
  exact ⟨hj, hp, fun k hk => by simp [h k (by omega) hk]⟩
 simp [ixF, this]
theorem ixF_none {α : Type} {p : α → Bool} {l : List α} (h : ∀ k (hk : k < l.length), p l[k] = false) : ixF p l = -1 := by
 have : l.findIdx? p = none := by
  rw [List.findIdx?_eq_none_iff]
  intro x hx
  obtain ⟨i, hi, rfl⟩ := List.getElem_of_mem hx
  exact h i hi
 simp [ixF, this]
theorem ixF_any {α : Type} (p : α → Bool) (l : List α) : decide (0 ≤ ixF p l) = l.any p := by
 cases h : l.findIdx? p with
 | none =>
  have h2 := List.findIdx?_eq_none_iff.1 h
  have e : l.any p = false := by
   rw [Bool.eq_false_iff]
   intro ha
   obtain ⟨x, hx, hp⟩ := List.any_eq_true.1 ha
   rw [h2 x hx] at hp; cases hp
  rw [e]; simp [ixF, h]
 | some i =>
  obtain ⟨hi, hp, _⟩ := List.findIdx?_eq_some_iff_getElem.1 h
  have e : l.any p = true := List.any_eq_true.2 ⟨_, List.getElem_mem hi, hp⟩
  rw [e]; simp [ixF, h]
def intsA (l : List Int) : List AV := l.map fun x => .c (.int .i64 x)
@[simp] theorem intsA_length (l : List Int) : (intsA l).length = l.length := by simp [intsA]
@[simp] theorem intsA_all (l : List Int) : (∀ x ∈ intsA l, isD x = true) ↔ True := iff_true_intro <| by
 intro x hx
 simp only [intsA, List.mem_map] at hx
 obtain ⟨b, _, rfl⟩ := hx
 rfl
@[simp] theorem intsA_cell (l : List Int) : (∀ x ∈ intsA l, isCell x = true) ↔ True := iff_true_intro <| by
 intro x hx
 simp only [intsA, List.mem_map] at hx
 obtain ⟨b, _, rfl⟩ := hx
 simp [isCell_c, Value.oneCell']
theorem intsA_get (l : List Int) (j : Nat) (hj : j < l.length) : (intsA l)[j]'(by simp; exact hj) = .c (.int .i64 l[j]) := by simp [intsA]
theorem intsA_at (l : List Int) (j : Nat) (hj : j < l.length) : List.take 1 (List.drop j (intsA l)) = [.c (.int .i64 l[j])] := by
 rw [List.drop_eq_getElem_cons (by simpa using hj), List.take_succ_cons, List.take_zero, intsA_get l j hj]
def memI (l : List Int) (v : Int) : Bool := l.any fun x => decide (v = x)
set_option maxHeartbeats 8000000 in
theorem index_int (l : List Int) (v : Int) (hl : l.length ≤ 5864062014805) : ACalls Tryz.prog 175 [.fs 1 l.length (intsA l), .c (.int .i64 v)] [] (fun _ => false) (fun r h' => r = .c (.int .i64 (ixF (fun x => decide (v = x)) l)) ∧ h' = []) := by
 refine acalls mixed Tryz.func175 rfl Tryz.ntmps175 rfl fun E hE hst hho => ?_
 simp (maxSteps := 1000000) [hho, noHo, -List.reduceReplicate]
 refine loop_k mixed (fun j : Nat => ⟨slotsOf 19 [(0, .fs 1 l.length (intsA l)), (1, .c (.int .i64 v)), (7, .c (.int .i64 l.length)), (8, .c (.int .i64 (j : Nat)))], []⟩) (fun j => l.length - j) (fun j => j ≤ l.length ∧ ∀ k (hk : k < l.length), k < j → decide (v = l[k]) = false) 0 ⟨Nat.zero_le _, fun k _ h => by omega⟩ ?_ ?_
 ·exact wk_eq (by simp [hE, lens]) (by simp) (by simp [livH, livO, AV.livL, AV.liv, wkL, wkV, List.range', slotsOf])
 ·rintro j ⟨hj, hI⟩
  by_cases hjl : j < l.length
  ·have hat := intsA_get l j hjl
   have ew : IntKind.i64.wrap ((j : Int) + 1) = (j + 1 : Nat) := by rw [IntWalk.i64_in _ (by omega)]; rfl
   by_cases hp : v = l[j]
   ·have hp0 := ixF_hit (p := fun x => decide (v = x)) hjl hI (by simpa using hp)
    simp (maxSteps := 1000000) [slotsOf, hho, noHo, hjl, hat, ← hp, ew, -List.reduceReplicate]
    refine ⟨by omega, ?_⟩
    exact Ret.same ⟨by rw [hp0], rfl⟩
   ·simp (maxSteps := 1000000) [slotsOf, hho, noHo, hjl, hat, hp, ew, -List.reduceReplicate]
    refine ⟨by omega, ?_⟩
    refine round_next (j + 1) ⟨by omega, fun k hk hkj => ?_⟩ (by omega) ?_
    ·by_cases e : k = j
     ·subst e; exact hp
     ·simpa using hI k hk (by omega)
    ·exact wk_eq (by simp [hE, lens]) (by simp) (by simp [livH, livO, AV.livL, AV.liv, wkL, wkV, List.range', slotsOf])
  ·obtain rfl : j = l.length := by omega
   simp (maxSteps := 1000000) [slotsOf, hho, noHo, -List.reduceReplicate]
   exact Ret.same ⟨by rw [ixF_none fun k hk => hI k hk hk], rfl⟩
theorem contains_int (l : List Int) (v : Int) (hl : l.length ≤ 5864062014805) : ACalls Tryz.prog 142 [.fs 1 l.length (intsA l), .c (.int .i64 v)] [] (fun _ => false) (fun r h' => r = .c (.bool (memI l v)) ∧ h' = []) := by
 refine acalls mixed Tryz.func142 rfl Tryz.ntmps142 rfl fun E hE hst hho => ?_
 simp (maxSteps := 1000000) [hho, noHo, -List.reduceReplicate]
 refine call_x [] (index_int l v hl) rfl rfl ⟨rfl, rfl⟩ hho (by simp) (by decide) (by simp) (by simp) ?_
 simp (maxSteps := 1000000) [hho, noHo, ixF_any, -List.reduceReplicate]
 exact Ret.same ⟨rfl, rfl⟩
end Go.Proofs.YthgoocdldnkogaaGreatDoor
