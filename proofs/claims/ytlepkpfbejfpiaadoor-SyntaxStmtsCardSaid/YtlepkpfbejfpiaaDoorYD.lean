import Derived.Test.YtlepkpfbejfpiaaDoorYC
namespace Go.Proofs.YtlepkpfbejfpiaaDoor
set_option linter.unusedVariables false
set_option linter.unusedSimpArgs false
open Go.RowKit
attribute [local simp] isCut_nil isCut_region isCut_seq isCut_block isCut_loop isCut_cond isCut_skip isCut_exit isCut_ret isCut_range swapK putK altK condK_bool pickP_bool stepP stepO onPure_some onPure_none onImpl_some onImpl_none stepC onGP_some onGP_none onGV_some condG mkG onIt_it nextP_ptr takeP_eq takeV_some takeV_none takeU_some takeU_none takeQ takeW_some takeN_none takeN_some takeG_some takeO_some altO_some pureV binV2 eqF eqOp ovlV ovl2 rowAt capV binV intBin strBin isSh shV fldV ixV sliceV slice3V loadAV nilV lenV callV unV convV viewS cellsH loadV fldCut AV.ung AV.ungs AV.gc AV.cells AS.ev AS.put anyS gcsV lens lnO gV guardV retK RetP_eq resV oneV anyRo loIx hiIx implO callP_clo evL gcsL clearV storeAV AS.push AS.setO appV appZ shortS copyV buildV partsV fillV srcV fzO okV isCell_c isCell_ptr isCell_sl isCell_fs isCell_fp isCell_clo rowZ_one rowZ_zero rowZ_2 rowZ_3 rowZ_4 rowZ_5 rowZ_6 rowZ_7 rowZ_8 rowZ_9 rowZ_10 rowZ_11 rowZ_12 noHo Value.oneCell' max2V min2V afterH putBack frzFrom frzO rebO backIx nilEq_sl nilEq_fs nilOp_eql nilOp_neq AV.reb AV.rebL
attribute [local simp ↓] runK_skip runK_region runK_draw runK_seq runK_cut runK_cond runK_block runK_loop runK_exit runK_label runK_goto runK_ret runK_range contK_nil contK_seq contK_seq_ret contK_seq_exit contK_seq_goto contK_block contK_block_ret contK_block_goto contK_block_exit runO_nil runO_cons roundK_exit roundK_ret roundK_goto exitK_ret cutK_ret cutK_exit runE_done runE_nil runE_take runE_alt condG_true condG_false
set_option maxRecDepth 10000
/-! ## Words -/
def memS (l : List ByteArray) (v : ByteArray) : Bool := l.any fun x => decide (v = x)
theorem strsA_get (l : List ByteArray) (j : Nat) (hj : j < l.length) : (strsA l)[j]'(by simp; omega) = .c (.string l[j]) := by
  have hat := strsA_at l j hj
  have h0 : (strsA l).drop j = (strsA l)[j]'(by simp; omega) :: (strsA l).drop (j + 1) := List.drop_eq_getElem_cons _
  rw [Nat.mul_one, h0, List.take_succ_cons, List.take_zero] at hat
  exact (List.cons.inj hat).1
set_option maxHeartbeats 8000000 in
theorem index_str (l : List ByteArray) (v : ByteArray) (hl : l.length ≤ 5864062014805) : ACalls Tryd.prog 86 [.fs 1 l.length (strsA l), .c (.string v)] [] (fun _ => false) (fun r h' => r = .c (.int .i64 (idxF (fun x => decide (v = x)) l)) ∧ h' = []) := by
  refine acalls mixed Tryd.func86 rfl Tryd.ntmps86 rfl fun E hE hst hho => ?_
  simp (maxSteps := 1000000) [hho, noHo, -List.reduceReplicate]
  refine loop_k mixed (fun j : Nat => ⟨slotsOf 19 [(0, .fs 1 l.length (strsA l)), (1, .c (.string v)), (7, .c (.int .i64 l.length)), (8, .c (.int .i64 (j : Nat)))], []⟩) (fun j => l.length - j) (fun j => j ≤ l.length ∧ ∀ k (hk : k < l.length), k < j → decide (v = l[k]) = false) 0 ⟨Nat.zero_le _, fun k _ h => by omega⟩ ?_ ?_
  · exact wk_eq (by simp [hE, lens]) (by simp) (by simp [livH, livO, AV.livL, AV.liv, wkL, wkV, List.range', slotsOf])
  · rintro j ⟨hj, hI⟩
    by_cases hjl : j < l.length
    · have hat := strsA_get l j hjl
      have ew : IntKind.i64.wrap ((j : Int) + 1) = (j + 1 : Nat) := by rw [IntWalk.i64_in _ (by omega)]; rfl
      by_cases hp : v = l[j]
      · have hp0 := idxF_hit (p := fun x => decide (v = x)) hjl hI (by simpa using hp)
        simp (maxSteps := 1000000) [slotsOf, hho, noHo, hjl, hat, ← hp, ew, -List.reduceReplicate]
        refine ⟨by omega, ?_⟩
        exact Ret.same ⟨by rw [hp0], rfl⟩
      · simp (maxSteps := 1000000) [slotsOf, hho, noHo, hjl, hat, hp, ew, -List.reduceReplicate]
        refine ⟨by omega, ?_⟩
        refine round_next (j + 1) ⟨by omega, fun k hk hkj => ?_⟩ (by omega) ?_
        · by_cases e : k = j
          · subst e; exact hp
          · simpa using hI k hk (by omega)
        · exact wk_eq (by simp [hE, lens]) (by simp) (by simp [livH, livO, AV.livL, AV.liv, wkL, wkV, List.range', slotsOf])
    · obtain rfl : j = l.length := by omega
      simp (maxSteps := 1000000) [slotsOf, hho, noHo, -List.reduceReplicate]
      exact Ret.same ⟨by rw [idxF_none fun k hk => hI k hk hk], rfl⟩
theorem contains_str (l : List ByteArray) (v : ByteArray) (hl : l.length ≤ 5864062014805) : ACalls Tryd.prog 82 [.fs 1 l.length (strsA l), .c (.string v)] [] (fun _ => false) (fun r h' => r = .c (.bool (memS l v)) ∧ h' = []) := by
  refine acalls mixed Tryd.func82 rfl Tryd.ntmps82 rfl fun E hE hst hho => ?_
  simp (maxSteps := 1000000) [hho, noHo, -List.reduceReplicate]
  refine call_x [] (index_str l v hl) rfl rfl ⟨rfl, rfl⟩ hho (by simp) (by decide) (by simp) (by simp) ?_
  simp (maxSteps := 1000000) [hho, noHo, idxF_any, -List.reduceReplicate]
  exact Ret.same ⟨rfl, rfl⟩
set_option maxHeartbeats 8000000 in
theorem word_ref (v : ByteArray) (l : List ByteArray) (hl : l.length ≤ 5864062014805) : ACalls Tryd.prog 26 [.c (.string v), .fs 1 l.length (strsA l)] [] (fun _ => false) (fun r h' => r = .c (.bool (memS l v)) ∧ h' = []) := by
  refine acalls mixed Tryd.func26 rfl Tryd.ntmps26 rfl fun E hE hst hho => ?_
  simp (maxSteps := 1000000) [hho, noHo, -List.reduceReplicate]
  refine loop_k mixed (fun j : Nat => ⟨slotsOf 17 [(0, .c (.string v)), (7, .fs 1 l.length (strsA l)), (8, .c (.int .i64 l.length)), (9, .c (.int .i64 (j : Nat)))], []⟩) (fun j => l.length - j) (fun j => j ≤ l.length ∧ ∀ k (hk : k < l.length), k < j → ¬ v = l[k]) 0 ⟨Nat.zero_le _, fun k _ h => by omega⟩ ?_ ?_
  · exact wk_eq (by simp [hE, lens]) (by simp) (by simp [livH, livO, AV.livL, AV.liv, wkL, wkV, List.range', slotsOf])
  · rintro j ⟨hj, hI⟩
    by_cases hjl : j < l.length
    · have hat := strsA_get l j hjl
      have ew : IntKind.i64.wrap ((j : Int) + 1) = (j + 1 : Nat) := by rw [IntWalk.i64_in _ (by omega)]; rfl
      by_cases hp : l[j] = v
      · have hany : memS l v = true := List.any_eq_true.2 ⟨_, List.getElem_mem hjl, by simp [hp]⟩
        simp (maxSteps := 1000000) [slotsOf, hho, noHo, hjl, hat, hp, ew, -List.reduceReplicate]
        refine ⟨by omega, ?_⟩
        exact Ret.same ⟨by rw [hany], rfl⟩
      · simp (maxSteps := 1000000) [slotsOf, hho, noHo, hjl, hat, hp, ew, -List.reduceReplicate]
        refine ⟨by omega, ?_⟩
        refine round_next (j + 1) ⟨by omega, fun k hk hkj => ?_⟩ (by omega) ?_
        · by_cases e : k = j
          · subst e; exact fun h => hp h.symm
          · exact hI k hk (by omega)
        · exact wk_eq (by simp [hE, lens]) (by simp) (by simp [livH, livO, AV.livL, AV.liv, wkL, wkV, List.range', slotsOf])
    · obtain rfl : j = l.length := by omega
      have hany : memS l v = false := by
        rw [memS, Bool.eq_false_iff]
        intro ha
        obtain ⟨x, hx, hp⟩ := List.any_eq_true.1 ha
        obtain ⟨i, hi, rfl⟩ := List.getElem_of_mem hx
        exact hI i hi hi (by simpa using hp)
      simp (maxSteps := 1000000) [slotsOf, hho, noHo, -List.reduceReplicate]
      exact Ret.same ⟨by rw [hany], rfl⟩
def bs (l : List Nat) : ByteArray := ⟨(l.map UInt8.ofNat).toArray⟩
def callL : List ByteArray := [{ data := #[67, 79, 85, 78, 84] }, { data := #[83, 85, 77] }, { data := #[77, 73, 78] }, { data := #[77, 65, 88] }]
def binL : List ByteArray := [{ data := #[79, 82] }, { data := #[65, 78, 68] }, { data := #[61] }, { data := #[60, 62] }, { data := #[60] }, { data := #[60, 61] }, { data := #[62] }, { data := #[62, 61] }, { data := #[43] }, { data := #[45] }, { data := #[42] }, { data := #[47] }, { data := #[37] }]
theorem rowZ_13 (z : List Value) : rowZ 13 z = z.map AV.c ++ rowZ 12 z := rowZ_succ 12 z
set_option maxHeartbeats 8000000 in
theorem binary_w (v : ByteArray) : ACalls Tryd.prog 69 [.c (.string v)] [] (fun _ => false) (fun r h' => r = .c (.bool (memS binL v)) ∧ h' = []) := by
  refine acalls mixed Tryd.func69 rfl Tryd.ntmps69 rfl fun E hE hst hho => ?_
  simp (maxSteps := 1000000) [hho, noHo, rowZ_13, -List.reduceReplicate]
  refine call_f [] (fun k => k == 0) (contains_str binL v (by decide)) rfl rfl ⟨rfl, rfl⟩ hho (by simp) (by decide) (by simp) ?_ (by simp) ?_
  · simp
    unfold maxLen; decide
  simp (maxSteps := 1000000) [hho, noHo, -List.reduceReplicate]
  refine Ret.sel [] (fun _ => false) (ho := by rfl) (ha := by rfl) ?_ ?_ (by decide) (by simp) (by simp) ⟨rfl, rfl⟩ <;> simp
theorem call_w (v : ByteArray) : ACalls Tryd.prog 70 [.c (.string v)] [] (fun _ => false) (fun r h' => r = .c (.bool (memS callL v)) ∧ h' = []) := by
  refine acalls mixed Tryd.func70 rfl Tryd.ntmps70 rfl fun E hE hst hho => ?_
  simp (maxSteps := 1000000) [hho, noHo, -List.reduceReplicate]
  refine call_f [] (fun k => k == 0) (contains_str callL v (by decide)) rfl rfl ⟨rfl, rfl⟩ hho (by simp) (by decide) (by simp) ?_ (by simp) ?_
  · simp
    unfold maxLen; decide
  simp (maxSteps := 1000000) [hho, noHo, -List.reduceReplicate]
  refine Ret.sel [] (fun _ => false) (ho := by rfl) (ha := by rfl) ?_ ?_ (by decide) (by simp) (by simp) ⟨rfl, rfl⟩ <;> simp
end Go.Proofs.YtlepkpfbejfpiaaDoor
