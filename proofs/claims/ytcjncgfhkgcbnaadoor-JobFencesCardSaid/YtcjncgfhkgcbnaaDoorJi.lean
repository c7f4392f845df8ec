import Derived.Test.YtcjncgfhkgcbnaaDoorJx
import Derived.Test.YtcjncgfhkgcbnaaDoorHZ1
namespace Go.Proofs.YtcjncgfhkgcbnaaDoor
set_option linter.unusedVariables false
set_option linter.unusedSimpArgs false
open Go.RowKit
attribute [local simp] isCut_nil isCut_region isCut_seq isCut_block isCut_loop isCut_cond isCut_skip isCut_exit isCut_ret isCut_range swapK putK altK condK_bool pickP_bool stepP stepO onPure_some onPure_none onImpl_some onImpl_none stepC onGP_some onGP_none onGV_some condG mkG onIt_it nextP_ptr takeP_eq takeV_some takeV_none takeU_some takeU_none takeQ takeW_some takeN_none takeN_some takeG_some takeO_some altO_some pureV binV2 eqF eqOp ovlV ovl2 rowAt capV binV intBin strBin isSh shV fldV ixV sliceV slice3V loadAV nilV lenV callV unV convV viewS cellsH loadV fldCut AV.ung AV.ungs AV.gc AV.cells AS.ev AS.put anyS gcsV gcO lens lnO gV guardV retK RetP_eq resV oneV anyRo loIx hiIx implO callP_clo evL gcsL clearV storeAV AS.push AS.setO appV appZ shortS copyV buildV partsV fillV srcV fzO okV isCell_c isCell_ptr isCell_sl isCell_fs isCell_fp isCell_clo rowZ_one rowZ_zero rowZ_2 rowZ_3 rowZ_4 rowZ_5 rowZ_6 rowZ_7 rowZ_8 rowZ_9 rowZ_10 rowZ_11 rowZ_12 noHo Value.oneCell' max2V min2V lookV updV lenM msAt afterH putBack frzFrom frzO rebO backIx nilEq_sl nilEq_fs nilOp_eql nilOp_neq AV.reb AV.rebL
attribute [local simp ↓] runK_skip runK_region runK_draw runK_seq runK_cut runK_cond runK_block runK_loop runK_exit runK_label runK_goto runK_ret runK_range contK_nil contK_seq contK_seq_ret contK_seq_exit contK_seq_goto contK_block contK_block_ret contK_block_goto contK_block_exit runO_nil runO_cons roundK_exit roundK_ret roundK_goto exitK_ret cutK_ret cutK_exit runE_done runE_nil runE_take runE_alt condG_true condG_false
set_option maxRecDepth 10000
/-! ## The document's state of a thing -/
theorem find_hit {α : Type} {p : α → Bool} {l : List α} {j : Nat} (hj : j < l.length) (h : ∀ k (hk : k < l.length), k < j → p l[k] = false) (hp : p l[j] = true) : l.find? p = some l[j] := by
  rw [List.find?_eq_some_iff_getElem]
  exact ⟨hp, j, hj, rfl, fun k hk => by rw [h k (by omega) hk]; rfl⟩
theorem find_no {α : Type} {p : α → Bool} {l : List α} (h : ∀ k (hk : k < l.length), p l[k] = false) : l.find? p = none := by
  rw [List.find?_eq_none]
  intro x hx
  obtain ⟨k, hk, rfl⟩ := List.getElem_of_mem hx
  simp [h k hk]
theorem stR_at {s : SchS} {tb : Int} {b : Bool} {n : Int} {i : Nat} (hi : i < s.tabs.length) (hI : ∀ k (hk : k < s.tabs.length), k < i → ¬ s.tabs[k].id = tb) (h : s.tabs[i].id = tb) : stR s tb b n = (stOf s.tabs[i] b n).getD 0 := by
  unfold stR
  rw [find_hit (p := fun t : TabS => decide (t.id = tb)) hi (fun k hk hki => decide_eq_false (hI k hk hki)) (decide_eq_true h)]
  rfl
theorem stR_no {s : SchS} {tb : Int} {b : Bool} {n : Int} (hI : ∀ k (hk : k < s.tabs.length), ¬ s.tabs[k].id = tb) : stR s tb b n = 0 := by
  unfold stR
  rw [find_no (p := fun t : TabS => decide (t.id = tb)) fun k hk => decide_eq_false (hI k hk)]
  rfl
theorem stOf_idx {t : TabS} {n : Int} {p : Nat} (hp : p < t.idxs.length) (hI : ∀ k (hk : k < t.idxs.length), k < p → ¬ t.idxs[k].id = n) (h : t.idxs[p].id = n) : stOf t true n = some t.idxs[p].st := by
  unfold stOf
  rw [if_pos rfl, find_hit (p := fun x : IdxS => decide (x.id = n)) hp (fun k hk hkp => decide_eq_false (hI k hk hkp)) (decide_eq_true h)]
  rfl
theorem stOf_col {t : TabS} {n : Int} {p : Nat} (hp : p < t.cols.length) (hI : ∀ k (hk : k < t.cols.length), k < p → ¬ t.cols[k].id = n) (h : t.cols[p].id = n) : stOf t false n = some t.cols[p].st := by
  unfold stOf
  rw [if_neg (by decide), find_hit (p := fun x : ColS => decide (x.id = n)) hp (fun k hk hkp => decide_eq_false (hI k hk hkp)) (decide_eq_true h)]
  rfl
theorem stOf_no {t : TabS} {b : Bool} {n : Int} (h1 : b = true → ∀ k (hk : k < t.idxs.length), ¬ t.idxs[k].id = n) (h2 : b = false → ∀ k (hk : k < t.cols.length), ¬ t.cols[k].id = n) : stOf t b n = none := by
  unfold stOf
  cases b with
  | true => rw [if_pos rfl, find_no (p := fun x : IdxS => decide (x.id = n)) fun k hk => decide_eq_false (h1 rfl k hk)]; rfl
  | false => rw [if_neg (by decide), find_no (p := fun x : ColS => decide (x.id = n)) fun k hk => decide_eq_false (h2 rfl k hk)]; rfl
def stI6 (tb : Int) (b : Bool) (n : Int) (s : SchS) (i : Nat) : AS := ⟨slotsOf 62 [(1, .c (.int .i64 tb)), (2, .c (.bool b)), (3, .c (.int .i64 n)), (16, .fs 4 s.tabs.length (tabsA s.tabs)), (17, .c (.int .i64 s.tabs.length)), (18, .c (.int .i64 (i : Nat)))], []⟩
def stX6 (b : Bool) (n : Int) (t : TabS) (p : Nat) : AS := ⟨slotsOf 62 [(2, .c (.bool b)), (3, .c (.int .i64 n)), (10, .ptr 0 0 4), (27, .fs 5 t.idxs.length (idxsA t.idxs)), (28, .c (.int .i64 t.idxs.length)), (29, .c (.int .i64 (p : Nat)))], [.o .box (tabA t)]⟩
def stY6 (b : Bool) (n : Int) (t : TabS) (p : Nat) : AS := ⟨slotsOf 62 [(2, .c (.bool b)), (3, .c (.int .i64 n)), (44, .fs 10 t.cols.length (colsA t.cols)), (45, .c (.int .i64 t.cols.length)), (46, .c (.int .i64 (p : Nat)))], []⟩
set_option maxHeartbeats 16000000 in
theorem r16State_w (s : SchS) (tb : Int) (b : Bool) (n : Int) (htl : s.tabs.length ≤ 1000000) (hbig : ∀ t ∈ s.tabs, t.cols.length ≤ 1000000 ∧ t.idxs.length ≤ 1000000) : ACalls Tryd.prog 17 [.agg (schA s), .c (.int .i64 tb), .c (.bool b), .c (.int .i64 n)] [] (fun _ => false) (fun r h' => r = .c (.int .i64 (stR s tb b n)) ∧ h' = []) := by
  refine acalls mixed Tryd.func17 rfl Tryd.ntmps17 rfl fun E hE hst hho => ?_
  simp (maxSteps := 1000000) [hho, noHo, schA, -List.reduceReplicate]
  refine loop_k mixed (stI6 tb b n s) (fun i => s.tabs.length - i) (fun i => i ≤ s.tabs.length ∧ ∀ k (hk : k < s.tabs.length), k < i → ¬ s.tabs[k].id = tb) 0 ⟨Nat.zero_le _, fun k _ h => by omega⟩ ?_ ?_
  · exact wk_of 0 1 (by simp) (by simp [hE, lens]) (by simp [stI6]) (by simp [livH, livO, AV.livL, AV.liv, wkL, wkV, List.range', stI6]) (by simp [livH, livO, AV.livL, AV.liv, wkL, wkV, List.range', stI6, slotsOf])
  rintro i ⟨hi, hI⟩
  by_cases hil : i < s.tabs.length
  case neg =>
    obtain rfl : i = s.tabs.length := by omega
    simp (maxSteps := 1000000) [hho, noHo, stI6, slotsOf, -List.reduceReplicate]
    exact Ret.drop (by rfl) ⟨by rw [stR_no fun k hk => hI k hk hk], rfl⟩
  have hat := tabsA_at s.tabs i hil
  have ew : IntKind.i64.wrap ((i : Int) + 1) = (i + 1 : Nat) := by rw [IntWalk.i64_in _ (by omega)]; rfl
  have e0 : i * 4 + 4 ≤ s.tabs.length * 4 := by omega
  have hhit := @stR_at s tb b n i hil hI
  have hb := hbig s.tabs[i] (List.getElem_mem hil)
  obtain ⟨t, hte⟩ : ∃ t, t = s.tabs[i] := ⟨_, rfl⟩
  rw [← hte] at hat hhit hb
  obtain ⟨hcl, hxl⟩ := hb
  by_cases hid : t.id = tb
  case neg =>
    simp (maxSteps := 1000000) [hho, noHo, stI6, slotsOf, tabA, hil, hat, e0, hid, ew, -List.reduceReplicate]
    refine round_next (i + 1) ⟨by omega, fun k hk hki => ?_⟩ (by omega) ?_
    · by_cases e : k = i
      · subst e; rw [← hte]; exact hid
      · exact hI k hk (by omega)
    · exact wk_of 0 1 (by simp) (by simp [hE, lens]) (by simp [stI6]) (by simp [livH, livO, AV.livL, AV.liv, wkL, wkV, List.range', stI6]) (by simp [livH, livO, AV.livL, AV.liv, wkL, wkV, List.range', stI6, slotsOf])
  rw [hhit hid]
  simp (maxSteps := 1000000) [hho, noHo, stI6, slotsOf, tabA, hil, hat, e0, hid, -List.reduceReplicate]
  refine loop_k mixed (stX6 b n t) (fun p => t.idxs.length - p) (fun p => p ≤ t.idxs.length ∧ (b = true → ∀ k (hk : k < t.idxs.length), k < p → ¬ t.idxs[k].id = n)) 0 ⟨Nat.zero_le _, fun _ k _ h => by omega⟩ ?_ ?_
  · exact wk_eq (by simp [hE, lens, stX6]) (by simp [stX6, tabA, hid]) (by simp [livH, livO, AV.livL, AV.liv, wkL, wkV, List.range', stX6, slotsOf])
  rintro p ⟨hp, hP⟩
  by_cases hpl : p < t.idxs.length
  · have hax := idxsA_at t.idxs p hpl
    have ewp : IntKind.i64.wrap ((p : Int) + 1) = (p + 1 : Nat) := by rw [IntWalk.i64_in _ (by omega)]; rfl
    have e1 : p * 5 + 5 ≤ t.idxs.length * 5 := by omega
    cases b with
    | true =>
      have hP1 := hP rfl
      have hs := @stOf_idx t n p hpl hP1
      obtain ⟨x, hxe⟩ : ∃ x, x = t.idxs[p] := ⟨_, rfl⟩
      rw [← hxe] at hax hs
      by_cases hx : x.id = n
      · simp (maxSteps := 1000000) [hho, noHo, stX6, slotsOf, idxA, tabA, hpl, hax, e1, hx, undef, onGP_none, condG_false, -List.reduceReplicate]
        exact Ret.drop (by rfl) ⟨by rw [hs hx]; rfl, rfl⟩
      · simp (maxSteps := 1000000) [hho, noHo, stX6, slotsOf, idxA, tabA, hpl, hax, e1, hx, ewp, undef, onGP_none, condG_false, -List.reduceReplicate]
        refine round_next (p + 1) ⟨by omega, ?_⟩ (by omega) ?_
        · intro k hk hki
          by_cases e : k = p
          · subst e; rw [← hxe]; exact hx
          · exact hP1 k hk (by omega)
        · exact wk_of 1 1 (by simp) (by simp [hE, lens]) (by simp [stX6, tabA]) (by simp [livH, livO, AV.livL, AV.liv, wkL, wkV, List.range', stX6, tabA]) (by simp [livH, livO, AV.livL, AV.liv, wkL, wkV, List.range', stX6, slotsOf])
    | false =>
      obtain ⟨x, hxe⟩ : ∃ x, x = t.idxs[p] := ⟨_, rfl⟩
      rw [← hxe] at hax
      simp (maxSteps := 1000000) [hho, noHo, stX6, slotsOf, idxA, tabA, hpl, hax, e1, ewp, undef, onGP_none, condG_false, -List.reduceReplicate]
      refine round_next (p + 1) (by omega) (by omega) ?_
      exact wk_of 1 1 (by simp) (by simp [hE, lens]) (by simp [stX6, tabA]) (by simp [livH, livO, AV.livL, AV.liv, wkL, wkV, List.range', stX6, tabA]) (by simp [livH, livO, AV.livL, AV.liv, wkL, wkV, List.range', stX6, slotsOf])
  obtain rfl : p = t.idxs.length := by omega
  have hP2 : b = true → ∀ k (hk : k < t.idxs.length), ¬ t.idxs[k].id = n := fun h k hk => hP h k hk hk
  simp (maxSteps := 1000000) [hho, noHo, stX6, slotsOf, tabA, -List.reduceReplicate]
  refine loop_k mixed (stY6 b n t) (fun p => t.cols.length - p) (fun p => p ≤ t.cols.length ∧ (b = false → ∀ k (hk : k < t.cols.length), k < p → ¬ t.cols[k].id = n)) 0 ⟨Nat.zero_le _, fun _ k _ h => by omega⟩ ?_ ?_
  · exact wk_of 0 1 (by simp) (by simp [hE, lens]) (by simp [stY6]) (by simp [livH, livO, AV.livL, AV.liv, wkL, wkV, List.range', stY6]) (by simp [livH, livO, AV.livL, AV.liv, wkL, wkV, List.range', stY6, slotsOf])
  rintro p ⟨hp, hQ⟩
  by_cases hpl : p < t.cols.length
  · have hax := colsA_at t.cols p hpl
    have ewp : IntKind.i64.wrap ((p : Int) + 1) = (p + 1 : Nat) := by rw [IntWalk.i64_in _ (by omega)]; rfl
    have e1 : p * 10 + 10 ≤ t.cols.length * 10 := by omega
    cases b with
    | false =>
      have hP1 := hQ rfl
      have hs := @stOf_col t n p hpl hP1
      obtain ⟨x, hxe⟩ : ∃ x, x = t.cols[p] := ⟨_, rfl⟩
      rw [← hxe] at hax hs
      by_cases hx : x.id = n
      · simp (maxSteps := 1000000) [hho, noHo, stY6, slotsOf, colA, hpl, hax, e1, hx, undef, onGP_none, condG_false, -List.reduceReplicate]
        exact Ret.drop (by rfl) ⟨by rw [hs hx]; rfl, rfl⟩
      · simp (maxSteps := 1000000) [hho, noHo, stY6, slotsOf, colA, hpl, hax, e1, hx, ewp, undef, onGP_none, condG_false, -List.reduceReplicate]
        refine round_next (p + 1) ⟨by omega, ?_⟩ (by omega) ?_
        · intro k hk hki
          by_cases e : k = p
          · subst e; rw [← hxe]; exact hx
          · exact hP1 k hk (by omega)
        · exact wk_of 0 1 (by simp) (by simp [hE, lens]) (by simp [stY6]) (by simp [livH, livO, AV.livL, AV.liv, wkL, wkV, List.range', stY6]) (by simp [livH, livO, AV.livL, AV.liv, wkL, wkV, List.range', stY6, slotsOf])
    | true =>
      obtain ⟨x, hxe⟩ : ∃ x, x = t.cols[p] := ⟨_, rfl⟩
      rw [← hxe] at hax
      simp (maxSteps := 1000000) [hho, noHo, stY6, slotsOf, colA, hpl, hax, e1, ewp, undef, onGP_none, condG_false, -List.reduceReplicate]
      refine round_next (p + 1) (by omega) (by omega) ?_
      exact wk_of 0 1 (by simp) (by simp [hE, lens]) (by simp [stY6]) (by simp [livH, livO, AV.livL, AV.liv, wkL, wkV, List.range', stY6]) (by simp [livH, livO, AV.livL, AV.liv, wkL, wkV, List.range', stY6, slotsOf])
  obtain rfl : p = t.cols.length := by omega
  simp (maxSteps := 1000000) [hho, noHo, stY6, slotsOf, -List.reduceReplicate]
  exact Ret.drop (by rfl) ⟨by rw [stOf_no hP2 fun h k hk => hQ h k hk hk]; rfl, rfl⟩
end Go.Proofs.YtcjncgfhkgcbnaaDoor
