import Derived.Test.YtniifindnnfkaaaDoorRX
namespace Go.Proofs.YtniifindnnfkaaaDoor
set_option linter.unusedVariables false
set_option linter.unusedSimpArgs false
open Go.RowKit Go.ChangeShapes Go.WideShapes Go.ChangeAt
attribute [local simp] isCut_nil isCut_region isCut_seq isCut_block isCut_loop isCut_cond isCut_skip isCut_exit isCut_ret isCut_range swapK putK altK condK_bool pickP_bool stepP stepO onPure_some onPure_none onImpl_some onImpl_none stepC onGP_some onGP_none onGV_some condG mkG onIt_it nextP_ptr takeP_eq takeV_some takeV_none takeU_some takeU_none takeQ takeW_some takeN_none takeN_some takeG_some takeO_some altO_some pureV binV2 eqF eqOp ovlV ovl2 rowAt capV binV intBin strBin isSh shV fldV ixV sliceV slice3V loadAV nilV lenV callV unV convV viewS cellsH loadV fldCut AV.ung AV.ungs AV.gc AV.cells AS.ev AS.put anyS gcsV lens lnO gV guardV retK RetP_eq resV oneV anyRo loIx hiIx implO callP_clo evL gcsL clearV storeAV AS.push AS.setO appV appZ shortS copyV buildV partsV fillV srcV fzO okV isCell_c isCell_ptr isCell_sl isCell_fs isCell_fp isCell_clo rowZ_one rowZ_zero rowZ_2 rowZ_3 rowZ_4 rowZ_5 rowZ_6 rowZ_7 rowZ_8 rowZ_9 rowZ_10 rowZ_11 rowZ_12 noHo Value.oneCell' max2V min2V lookV updV lenM msAt afterH putBack frzFrom frzO rebO backIx nilEq_sl nilEq_fs nilOp_eql nilOp_neq AV.reb AV.rebL
attribute [local simp ↓] runK_skip runK_region runK_draw runK_seq runK_cut runK_cond runK_block runK_loop runK_exit runK_label runK_goto runK_ret runK_range contK_nil contK_seq contK_seq_ret contK_seq_exit contK_seq_goto contK_block contK_block_ret contK_block_goto contK_block_exit runO_nil runO_cons roundK_exit roundK_ret roundK_goto exitK_ret cutK_ret cutK_exit runE_done runE_nil runE_take runE_alt condG_true condG_false
set_option maxRecDepth 10000
/-! ## RowGets -/
theorem setR_len {l : List CellS} (hok : okR (-1) l = true) (k : Int) (v : ValS) : (setR l k v).length ≤ l.length + 1 := by
  by_cases hk : k < 0
  · rw [set_neg hk]; omega
  · have h0 : 0 ≤ k := by omega
    have hf := findC_le l k
    cases hp : putOk k v <;> cases hh : hasC l k
    · rw [set_none hok h0 hp hh]; omega
    · rw [set_del hok h0 hp hh]; simp; omega
    · rw [set_ins hok h0 hp hh]; simp; omega
    · rw [set_put hok h0 hp hh]; simp
theorem goS_mem (k : Int) (v : ValS) : ∀ (b : Bool) (l : List CellS), ∀ c ∈ goS k v b l, c ∈ l ∨ c = ⟨k, v⟩
  | b, [], c, h => by
    unfold goS at h
    split at h
    · cases h
    · exact .inr (List.mem_singleton.1 h)
  | b, x :: l, c, h => by
    simp only [goS] at h
    rcases List.mem_append.1 h with h | h
    · rcases List.mem_append.1 h with h | h
      · split at h
        · exact .inr (List.mem_singleton.1 h)
        · cases h
      · split at h
        · exact .inl (by rw [List.mem_singleton.1 h]; exact List.mem_cons_self ..)
        · cases h
    · rcases goS_mem k v _ l c h with h | h
      · exact .inl (List.mem_cons_of_mem _ h)
      · exact .inr h
theorem setR_size {l : List CellS} {k : Int} {v : ValS} {m : Nat} (h : ∀ c ∈ l, c.v.t.size ≤ m) (hv : v.t.size ≤ m) : ∀ c ∈ setR l k v, c.v.t.size ≤ m := fun c hc => by
  rcases goS_mem k v _ l c hc with h1 | h1
  · exact h c h1
  · subst h1; exact hv
set_option maxHeartbeats 8000000 in
theorem gets_w (l : List CellS) (ho : ∀ x ∈ l, x.Ok) (cs : List CellS) (hoc : ∀ x ∈ cs, x.Ok) : ACalls Tryd.prog 5 [.fs 5 l.length (cellsA l), .fs 5 cs.length (cellsA cs)] [] (fun _ => false) (fun r h' => r = .c (.bool true)) := by
  refine acalls mixed Tryd.func5 rfl Tryd.ntmps5 rfl fun E hE hst hho => ?_
  obtain ⟨R, hR⟩ := long_dec l
  obtain ⟨R2, hR2⟩ := long_dec cs
  have c0 := long_row l R hR
  have c1 := long_row cs R2 hR2
  have hS : R = false → shortR l := fun e => by
    apply Classical.byContradiction
    intro h; have := hR.2 h; rw [e] at this; cases this
  have hS2 : R2 = false → shortR cs := fun e => by
    apply Classical.byContradiction
    intro h; have := hR2.2 h; rw [e] at this; cases this
  simp (maxSteps := 1000000) [hho, noHo, -List.reduceReplicate]
  refine call_x [] first11 rfl rfl ⟨rfl, rfl⟩ hho (by simp) (by decide) (by simp) (by simp) ?_
  simp (maxSteps := 1000000) [hho, noHo, -List.reduceReplicate]
  refine call_x [] c0 rfl rfl ⟨rfl, rfl⟩ hho (by simp) (by decide) (by simp) (by simp) ?_
  cases R with
  | true =>
    simp (maxSteps := 1000000) [hho, noHo, undef, onGP_none, condG_false, -List.reduceReplicate]
    exact Ret.drop (by rfl) rfl
  | false =>
  simp (maxSteps := 1000000) [hho, noHo, -List.reduceReplicate]
  refine call_x [] c1 rfl rfl ⟨rfl, rfl⟩ hho (by simp) (by decide) (by simp) (by simp) ?_
  cases R2 with
  | true =>
    simp (maxSteps := 1000000) [hho, noHo, undef, onGP_none, condG_false, -List.reduceReplicate]
    exact Ret.drop (by rfl) rfl
  | false =>
  have hS := hS rfl
  have hS2 := hS2 rfl
  have hl := hS.1
  have hl2 := hS2.1
  have hs := shortR_mem hS
  have hs2 := shortR_mem hS2
  have c2 := right_rows l (by omega) fun c hc => Nat.le_trans (hs c hc) (by omega)
  simp (maxSteps := 1000000) [hho, noHo, -List.reduceReplicate]
  refine call_x [] c2 rfl rfl ⟨rfl, rfl⟩ hho (by simp) (by decide) (by simp) (by simp) ?_
  cases hok : okR (-1) l with
  | false =>
    simp (maxSteps := 1000000) [hho, noHo, undef, onGP_none, condG_false, -List.reduceReplicate]
    exact Ret.drop (by rfl) rfl
  | true =>
  simp (maxSteps := 1000000) [hho, noHo, -List.reduceReplicate]
  refine loop_k mixed (fun y : Nat × List CellS => ⟨slotsOf 84 [(0, .fs 5 y.2.length (cellsA y.2)), (24, .fs 5 cs.length (cellsA cs)), (25, .c (.int .i64 cs.length)), (26, .c (.int .i64 (y.1 : Nat)))], []⟩) (fun y => cs.length - y.1) (fun y => y.1 ≤ cs.length ∧ okR (-1) y.2 = true ∧ y.2.length ≤ 50 + y.1 ∧ ∀ c ∈ y.2, c.v.t.size ≤ 500) (0, l) ⟨Nat.zero_le _, hok, by simp only; omega, hs⟩ ?_ ?_
  · exact wk_eq (by simp [hE, lens]) (by simp) (by simp [livH, livO, AV.livL, AV.liv, wkL, wkV, List.range', slotsOf])
  rintro ⟨j, r⟩ ⟨hj, hrok, hrl, hrs⟩
  simp only at hj hrok hrl hrs
  by_cases hjl : j < cs.length
  · have hat := cellsA_at cs j hjl
    have ewj : IntKind.i64.wrap ((j : Int) + 1) = (j + 1 : Nat) := by rw [IntWalk.i64_in _ (by omega)]; rfl
    have el : j * 5 + 5 ≤ cs.length * 5 := by omega
    have hcs := hs2 cs[j] (List.getElem_mem hjl)
    obtain ⟨c, hc⟩ : ∃ c, c = cs[j] := ⟨_, rfl⟩
    rw [← hc] at hat hcs
    have h5 : List.take 5 (cellA c) = cellA c := rfl
    have k1 := set_row r (by omega) hrok c.col c.v (by omega)
    have hnok := okR_set hrok c.col c.v
    have hnl := setR_len hrok c.col c.v
    have hns := setR_size (k := c.col) hrs hcs
    have hgo := fun x (hx : x ∈ r) (hne : x.col ≠ c.col) => (get_set_other hrok (k := c.col) hne c.v).trans (getR_mem hrok x hx)
    have hgs := fun h0 : 0 ≤ c.col => get_set_same hrok h0 c.v
    have hneg := fun h0 : c.col < 0 => set_neg h0 r c.v
    obtain ⟨N, hN⟩ : ∃ N, N = setR r c.col c.v := ⟨_, rfl⟩
    rw [← hN] at k1 hnok hnl hns hgo hgs hneg
    simp (maxSteps := 1000000) [slotsOf, cellA, valA, hho, noHo, hjl, hat, el, -List.reduceReplicate]
    refine call_x [] k1 rfl rfl ⟨rfl, rfl⟩ hho (by simp) (by decide) (by simp) (by simp) ?_
    by_cases h0 : c.col < 0
    · have e := hneg h0
      have k2 := same_ref N r (by omega) true (by simp [e])
      simp (maxSteps := 1000000) [hho, noHo, h0, -List.reduceReplicate]
      refine call_x [] k2 rfl rfl ⟨rfl, rfl⟩ hho (by simp) (by decide) (by simp) (by simp) ?_
      simp (maxSteps := 1000000) [hho, noHo, ewj, -List.reduceReplicate]
      refine round_next (j + 1, N) ⟨by simp only; omega, hnok, by simp only; omega, hns⟩ (by simp only; omega) ?_
      exact wk_of 0 1 (by simp) (by simp [hE, lens]) (by simp) (by simp [livH, livO, AV.livL, AV.liv, wkL, wkV, List.range']) (by simp [livH, livO, AV.livL, AV.liv, wkL, wkV, List.range', slotsOf])
    have hc0 : 0 ≤ c.col := by omega
    simp (maxSteps := 1000000) [hho, noHo, h0, -List.reduceReplicate]
    refine loop_k mixed (fun q : Nat => ⟨slotsOf 84 [(0, .fs 5 N.length (cellsA N)), (6, .ptr 0 0 5), (24, .fs 5 cs.length (cellsA cs)), (25, .c (.int .i64 cs.length)), (26, .c (.int .i64 (j : Nat))), (44, .fs 5 r.length (cellsA r)), (45, .c (.int .i64 r.length)), (46, .c (.int .i64 (q : Nat)))], [.o .box (cellA c)]⟩) (fun q => r.length - q) (fun q => q ≤ r.length) 0 (Nat.zero_le _) ?_ ?_
    · exact wk_eq (by simp [hE, lens]) (by simp [cellA, valA]) (by simp [livH, livO, AV.livL, AV.liv, wkL, wkV, List.range', slotsOf])
    intro q hq
    by_cases hql : q < r.length
    · have hqt := cellsA_at r q hql
      have ewq : IntKind.i64.wrap ((q : Int) + 1) = (q + 1 : Nat) := by rw [IntWalk.i64_in _ (by omega)]; rfl
      have elq : q * 5 + 5 ≤ r.length * 5 := by omega
      have hgx := hgo r[q] (List.getElem_mem hql)
      obtain ⟨x, hx⟩ : ∃ x, x = r[q] := ⟨_, rfl⟩
      rw [← hx] at hqt hgx
      by_cases hne : x.col = c.col
      · simp (maxSteps := 1000000) [slotsOf, cellA, valA, hho, noHo, hql, hqt, elq, -List.reduceReplicate]
        refine draw_k hho (.take 0 (.take 1 (.take 2 (.take 3 (.take 4 (.take 5 (.take 6 (.take 7 (.take 8 (.take 10 (.take 11 (.take 9 (.take 12 (.take 13 (.done))))))))))))))) [0, 1] [] (by decide +kernel) (by simp) ?_
        simp (maxSteps := 1000000) [hho, noHo, hne, undef, onGP_none, condG_false, roOf, holdOf, wrOf, altK, heldOk, Region.binds, -List.reduceReplicate]
        intros
        simp (maxSteps := 1000000) [hho, noHo, ewq, -List.reduceReplicate]
        refine round_next (q + 1) (by omega) (by omega) ?_
        exact wk_of 1 1 (by simp) (by simp [hE, lens]) (by simp [cellA, valA]) (by simp [livH, livO, AV.livL, AV.liv, wkL, wkV, List.range']) (by simp [livH, livO, AV.livL, AV.liv, wkL, wkV, List.range', slotsOf])
      · have k3 := get_row N (by omega) x.col
        rw [hgx hne] at k3
        simp (maxSteps := 1000000) [slotsOf, cellA, valA, hho, noHo, hql, hqt, elq, -List.reduceReplicate]
        refine draw_k hho (.take 0 (.take 1 (.take 2 (.take 3 (.take 4 (.take 5 (.take 6 (.take 7 (.take 8 (.take 10 (.take 11 (.alt 9 (.take 12 (.take 13 (.done))) (.nil))))))))))))) [0, 1] [] (by decide +kernel) (by simp) ?_
        simp (maxSteps := 1000000) [hho, noHo, hne, undef, onGP_none, condG_false, roOf, holdOf, wrOf, altK, heldOk, Region.binds, -List.reduceReplicate]
        intros
        refine call_h [] k3 rfl rfl ⟨rfl, rfl⟩ (by simp) (by simp) (by decide) (by simp) (by simp) ?_
        simp (maxSteps := 1000000) [valA, hho, noHo, hne, undef, onGP_none, condG_false, roOf, holdOf, wrOf, altK, heldOk, Region.binds, -List.reduceReplicate]
        intros
        simp (maxSteps := 1000000) [hho, noHo, ewq, -List.reduceReplicate]
        refine round_next (q + 1) (by omega) (by omega) ?_
        exact wk_of 1 1 (by simp) (by simp [hE, lens]) (by simp [cellA, valA]) (by simp [livH, livO, AV.livL, AV.liv, wkL, wkV, List.range']) (by simp [livH, livO, AV.livL, AV.liv, wkL, wkV, List.range', slotsOf])
    · obtain rfl : q = r.length := by omega
      have k3 := get_row N (by omega) c.col
      have k4 := right_rows N (by omega) fun c hc => Nat.le_trans (hns c hc) (by omega)
      rw [hnok] at k4
      rcases hgs hc0 with hv | hv
      · rw [hv] at k3
        simp (maxSteps := 1000000) [slotsOf, cellA, valA, hho, noHo, -List.reduceReplicate]
        refine call_x [] k3 rfl rfl ⟨rfl, rfl⟩ hho (by simp) (by decide) (by simp) (by simp) ?_
        simp (maxSteps := 1000000) [slotsOf, cellA, valA, hho, noHo, -List.reduceReplicate]
        refine call_x [] k4 rfl rfl ⟨rfl, rfl⟩ hho (by simp) (by decide) (by simp) (by simp) ?_
        simp (maxSteps := 1000000) [hho, noHo, ewj, undef, onGP_none, condG_false, -List.reduceReplicate]
        refine round_next (j + 1, N) ⟨by simp only; omega, hnok, by simp only; omega, hns⟩ (by simp only; omega) ?_
        exact wk_of 0 2 (by simp) (by simp [hE, lens]) (by simp) (by simp [livH, livO, AV.livL, AV.liv, wkL, wkV, List.range']) (by simp [livH, livO, AV.livL, AV.liv, wkL, wkV, List.range', slotsOf])
      · rw [hv] at k3
        simp (maxSteps := 1000000) [slotsOf, cellA, valA, vZ, hho, noHo, -List.reduceReplicate]
        refine call_x [] k3 rfl rfl ⟨rfl, rfl⟩ hho (by simp) (by decide) (by simp) (by simp) ?_
        simp (maxSteps := 1000000) [slotsOf, cellA, valA, vZ, hho, noHo, -List.reduceReplicate]
        refine call_x [] k4 rfl rfl ⟨rfl, rfl⟩ hho (by simp) (by decide) (by simp) (by simp) ?_
        simp (maxSteps := 1000000) [hho, noHo, ewj, undef, onGP_none, condG_false, -List.reduceReplicate]
        refine round_next (j + 1, N) ⟨by simp only; omega, hnok, by simp only; omega, hns⟩ (by simp only; omega) ?_
        exact wk_of 0 2 (by simp) (by simp [hE, lens]) (by simp) (by simp [livH, livO, AV.livL, AV.liv, wkL, wkV, List.range']) (by simp [livH, livO, AV.livL, AV.liv, wkL, wkV, List.range', slotsOf])
  · obtain rfl : j = cs.length := by omega
    simp (maxSteps := 1000000) [slotsOf, hho, noHo, -List.reduceReplicate]
    exact Ret.drop (by rfl) rfl
end Go.Proofs.YtniifindnnfkaaaDoor
