import Derived.Test.YtcjncgfhkgcbnaaGreatDoorTp
import Derived.Test.YtcjncgfhkgcbnaaGreatDoorHQ
namespace Go.Proofs.YtcjncgfhkgcbnaaGreatDoor
set_option linter.unusedVariables false
set_option linter.unusedSimpArgs false
open Go.RowKit
attribute [local simp] isCut_nil isCut_region isCut_seq isCut_block isCut_loop isCut_cond isCut_skip isCut_exit isCut_ret isCut_range swapK putK altK condK_bool pickP_bool stepP stepO onPure_some onPure_none onImpl_some onImpl_none stepC onGP_some onGP_none onGV_some condG mkG onIt_it nextP_ptr takeP_eq takeV_some takeV_none takeU_some takeU_none takeQ takeW_some takeN_none takeN_some takeG_some takeO_some altO_some pureV binV2 eqF eqOp ovlV ovl2 rowAt capV binV intBin strBin isSh shV fldV ixV sliceV slice3V loadAV nilV lenV callV unV convV viewS cellsH loadV fldCut AV.ung AV.ungs AV.gc AV.cells AS.ev AS.put anyS gcsV gcO lens lnO gV guardV retK RetP_eq resV oneV anyRo loIx hiIx implO callP_clo evL gcsL clearV storeAV AS.push AS.setO appV appZ shortS copyV buildV partsV fillV srcV fzO okV isCell_c isCell_ptr isCell_sl isCell_fs isCell_fp isCell_clo rowZ_one rowZ_zero rowZ_2 rowZ_3 rowZ_4 rowZ_5 rowZ_6 rowZ_7 rowZ_8 rowZ_9 rowZ_10 rowZ_11 rowZ_12 noHo Value.oneCell' max2V min2V lookV updV lenM msAt afterH putBack frzFrom frzO rebO backIx nilEq_sl nilEq_fs nilOp_eql nilOp_neq AV.reb AV.rebL
attribute [local simp ↓] runK_skip runK_region runK_draw runK_seq runK_cut runK_cond runK_block runK_loop runK_exit runK_label runK_goto runK_ret runK_range contK_nil contK_seq contK_seq_ret contK_seq_exit contK_seq_goto contK_block contK_block_ret contK_block_goto contK_block_exit runO_nil runO_cons roundK_exit roundK_ret roundK_goto exitK_ret cutK_ret cutK_exit runE_done runE_nil runE_take runE_alt condG_true condG_false
set_option maxRecDepth 10000
def tCol : TSt → ColS × TSt := sq tNum fun id => sq tText fun name => sq tNum fun k => sq tNum fun sc => sq tFlag fun nn => sq tDft fun d => sq tNum fun st => un ⟨id, name, ⟨k, sc⟩, nn, d, st⟩
theorem tCol_sim (M m : Nat) : Sim (tSys M m) (ColM M) tCol sCol := (tNum_sim M m).bind fun id _ => (tText_sim M m).bind fun name h1 => (tNum_sim M m).bind fun k _ => (tNum_sim M m).bind fun sc _ => (tFlag_sim M m).bind fun nn _ => (tDft_sim M m).bind fun d h2 => (tNum_sim M m).bind fun st _ => Sim.pure _ ⟨h1, h2⟩
theorem wle {α : Type} {f : TSt → α × TSt} {g : Bs → Option (α × Bs)} {ok : Nat → α → Prop} (h : ∀ M m, Sim (tSys M m) (ok M) f g) (t : TSt) : wT (f t).2 ≤ wT t ∧ (f t).2.1.length ≤ t.1.length :=
  ⟨((h t.1.length (wT t)).small t ⟨Nat.le_refl _, Nat.le_refl _⟩).2, ((h t.1.length (wT t)).small t ⟨Nat.le_refl _, Nat.le_refl _⟩).1⟩
theorem tNum_wle (t : TSt) : wT (tNum t).2 ≤ wT t := (wle (ok := fun _ => I64) (fun M m => tNum_sim M m) t).1
theorem tText_wle (t : TSt) : wT (tText t).2 ≤ wT t := (wle (ok := fun M s => s.size ≤ M) (fun M m => tText_sim M m) t).1
theorem tFlag_wle (t : TSt) : wT (tFlag t).2 ≤ wT t := (wle (ok := fun _ _ => True) (fun M m => tFlag_sim M m) t).1
theorem tDft_wle (t : TSt) : wT (tDft t).2 ≤ wT t := (wle (ok := fun M v => v.t.size ≤ M) (fun M m => tDft_sim M m) t).1
theorem tCol_lt (t : TSt) (h : t.2 = false) : wT (tCol t).2 < wT t := by
  have h1 := tNum_lt t h
  simp only [tCol, sq, un]
  refine Nat.lt_of_le_of_lt ?_ h1
  refine Nat.le_trans (tNum_wle _) (Nat.le_trans (tDft_wle _) (Nat.le_trans (tFlag_wle _) (Nat.le_trans (tNum_wle _) (Nat.le_trans (tNum_wle _) (tText_wle _)))))
theorem Kt.exitT {M m : Nat} {α R : Type} {t : TSt} {g : Bs → Option (α × Bs)} {k : List α → Bs → Option R} {n : Int} {acc : List α} {tot : Option R} (h : Kt (tSys M m) t (kL g k n acc) tot) (hn : n = 0 ∨ t.2 = true) : Kt (tSys M m) t (k acc) tot := by
  rcases hn with rfl | hd
  · rw [kL_end] at h; exact h
  · refine ⟨h.1, ?_⟩
    rcases h.2 with h2 | ⟨b, rfl, h2⟩
    · exact .inl h2
    · cases hd
theorem Kt.goT {M m : Nat} {α R : Type} {t : TSt} {g : Bs → Option (α × Bs)} {k : List α → Bs → Option R} {n : Int} {acc : List α} {tot : Option R} (h : Kt (tSys M m) t (kL g k n acc) tot) (hn : 0 < n) : Kt (tSys M m) t (bd g fun x => kL g k (n - 1) (acc ++ [x])) tot := by
  rw [kL_go g k n hn] at h; exact h
theorem Kt.deadT {M m : Nat} {R : Type} {t : TSt} {k : Bs → Option R} {tot : Option R} (h : Kt (tSys M m) t k tot) (hd : t.2 = true) : tot = none := by
  rcases h.2 with ⟨_, h2⟩ | ⟨b, rfl, _⟩
  · exact h2
  · cases hd
theorem Kt.liveT {M m : Nat} {R : Type} {t : TSt} {k : Bs → Option R} {tot : Option R} (h : Kt (tSys M m) t k tot) (hd : t.2 = false) : tot = k t.1 := by
  rcases h.2 with ⟨h1, _⟩ | ⟨b, rfl, h2⟩
  · have h1 : t.2 = true := h1
    rw [hd] at h1; cases h1
  · exact h2
def dMany {α : Type} (g : Bs → Option (α × Bs)) : Bs → Option (List α × Bs) := bd sNum fun n => kL g rt n []
theorem kL_bd {α β : Type} (g : Bs → Option (α × Bs)) (n : Int) (acc : List α) (k : List α → Bs → Option β) : bd (kL g rt n acc) k = kL g k n acc := by
  funext b
  simp only [kL, bd]
  split
  · rfl
  · cases sN g n.toNat b <;> rfl
theorem dMany_bd {α β : Type} (g : Bs → Option (α × Bs)) (k : List α → Bs → Option β) : bd (dMany g) k = bd sNum fun n => kL g k n [] := by
  rw [dMany, bd_assoc]
  congr 1; funext n
  exact kL_bd g n [] k
theorem dMany_eq {α : Type} {g : Bs → Option (α × Bs)} (hg : Eats g) (b : Bs) (hb : b.length ≤ 65536) : dMany g b = sMany 65536 g b := by
  have h := kL_many hg 65536 rt b (by omega)
  rw [bd_id] at h
  exact h
theorem sN_congr {α : Type} {g g' : Bs → Option (α × Bs)} {M : Nat} (h : ∀ b, b.length ≤ M → g b = g' b) (he : Eats0 g') : ∀ (n : Nat) (b : Bs), b.length ≤ M → sN g n b = sN g' n b
  | 0, b, _ => rfl
  | n + 1, b, hb => by
    simp only [sN, bd, h b hb]
    cases e : g' b with
    | none => rfl
    | some p =>
      have := he b p.1 p.2 e
      simp only [Option.bind_some, sN_congr h he n p.2 (by omega)]
theorem dMany_congr {α : Type} {g g' : Bs → Option (α × Bs)} {M : Nat} (h : ∀ b, b.length ≤ M → g b = g' b) (he : Eats g') (b : Bs) (hb : b.length ≤ M) : dMany g b = dMany g' b := by
  simp only [dMany, bd, sNum]
  cases e : rnum b with
  | none => rfl
  | some p =>
    have := rnum_lt (b := b) (n := p.1) (r := p.2) e
    simp only [Option.bind_some, kL]
    split
    · rfl
    · simp only [bd, sN_congr h he.le p.1.toNat p.2 (by omega)]
def dIdx : Bs → Option (IdxS × Bs) := bd sNum fun id => bd sText fun name => bd (dMany sNum) fun cols => bd sFlag fun u => bd sNum fun st => rt ⟨id, name, cols, u, st⟩
def dTab : Bs → Option (TabS × Bs) := bd sNum fun id => bd sText fun name => bd (dMany sCol) fun cols => bd (dMany dIdx) fun idxs => rt ⟨id, name, cols, idxs⟩
def dSch : Bs → Option SchS := bd sNum fun v => bd sNum fun n => bd (dMany dTab) fun l => finS ⟨v, n, l⟩
theorem bd_eq {α β : Type} {g g' : Bs → Option (α × Bs)} {k k' : α → Bs → Option β} {b : Bs} (h : g b = g' b) (hk : ∀ x r, g' b = some (x, r) → k x r = k' x r) : bd g k b = bd g' k' b := by
  simp only [bd, h]
  cases e : g' b with
  | none => rfl
  | some p => exact hk p.1 p.2 e
theorem dIdx_eq (b : Bs) (hb : b.length ≤ 65536) : dIdx b = sIdx b := by
  refine bd_eq rfl fun x r e => ?_
  have := sNum_eats b x r e
  refine bd_eq rfl fun x2 r2 e2 => ?_
  have := sText_eats r x2 r2 e2
  exact bd_eq (dMany_eq sNum_eats r2 (by omega)) fun _ _ _ => rfl
theorem dTab_eq (b : Bs) (hb : b.length ≤ 65536) : dTab b = sTab b := by
  refine bd_eq rfl fun x r e => ?_
  have := sNum_eats b x r e
  refine bd_eq rfl fun x2 r2 e2 => ?_
  have := sText_eats r x2 r2 e2
  refine bd_eq (dMany_eq sCol_eats r2 (by omega)) fun x3 r3 e3 => ?_
  have := sMany_eats sCol_eats 65536 r2 x3 r3 e3
  refine bd_eq ?_ fun _ _ _ => rfl
  rw [dMany_congr (M := 65536) dIdx_eq sIdx_eats r3 (by omega), dMany_eq sIdx_eats r3 (by omega)]
theorem dSch_eq (b : Bs) (hb : b.length ≤ 65536) : dSch b = parSch b := by
  unfold parSch sSch
  rw [bd_assoc]
  refine bd_eq rfl fun x r e => ?_
  have := sNum_eats b x r e
  rw [bd_assoc]
  refine bd_eq rfl fun x2 r2 e2 => ?_
  have := sNum_eats r x2 r2 e2
  rw [bd_assoc]
  refine bd_eq ?_ fun _ _ _ => rfl
  rw [dMany_congr (M := 65536) dTab_eq sTab_eats r2 (by omega), dMany_eq sTab_eats r2 (by omega)]
theorem parse_refU (b : Bs) (hb : b.length ≤ 100000) : ACalls Tryz.prog 129 [.fs 1 b.length (u8av b)] [] (fun _ => false) (fun r h' => r = .tup [.fs 5 (cellsOf b).length (cellsA (cellsOf b)), .c (.bool (parseS b).isSome)] ∧ h' = []) := by
  have h := parse_ref b hb
  unfold rowParseA at h
  cases hp : parseS b with
  | none =>
    rw [hp] at h
    rw [cellsOf_none hp]
    exact h.told fun G F w x => nil2_rep 5
  | some l =>
    rw [hp] at h
    rw [cellsOf_some hp]
    exact h
set_option maxHeartbeats 16000000 in
theorem col_t (t : TSt) (ht : t.1.length ≤ 50000) : ACalls Tryz.prog 66 [.ptr 0 0 2] [.o .box (tpC t)] (fun k => decide (k < 1)) (fun r h' => r = .agg (colA (tCol t).1) ∧ h' = [.o .box (tpC (tCol t).2)]) := by
  refine acalls mixed Tryz.func66 rfl Tryz.ntmps66 rfl fun E hE hst hho => ?_
  have c1 := num_t t (by omega)
  have b1 := (tNum_le t).1
  obtain ⟨q1, e1⟩ : ∃ q, q = tNum t := ⟨_, rfl⟩
  rw [← e1] at c1 b1
  have c2 := text_t q1.2 (by omega)
  have b2 := (tText_le q1.2).1
  obtain ⟨q2, e2⟩ : ∃ q, q = tText q1.2 := ⟨_, rfl⟩
  rw [← e2] at c2 b2
  have c3 := num_t q2.2 (by omega)
  have b3 := (tNum_le q2.2).1
  obtain ⟨q3, e3⟩ : ∃ q, q = tNum q2.2 := ⟨_, rfl⟩
  rw [← e3] at c3 b3
  have c4 := num_t q3.2 (by omega)
  have b4 := (tNum_le q3.2).1
  obtain ⟨q4, e4⟩ : ∃ q, q = tNum q3.2 := ⟨_, rfl⟩
  rw [← e4] at c4 b4
  have c5 := flag_t q4.2 (by omega)
  have b5 := (tFlag_le q4.2).1
  obtain ⟨q5, e5⟩ : ∃ q, q = tFlag q4.2 := ⟨_, rfl⟩
  rw [← e5] at c5 b5
  have c6 := text_t q5.2 (by omega)
  have b6 := (tText_le q5.2).1
  have b6s := tText_size q5.2
  obtain ⟨q6, e6⟩ : ∃ q, q = tText q5.2 := ⟨_, rfl⟩
  rw [← e6] at c6 b6 b6s
  obtain ⟨v6, d6, y6⟩ := q6
  simp only at b6 b6s
  have c7 := num_t (d6, y6 || badOf v6.data.toList) (by simp only at b6 ⊢; omega)
  obtain ⟨q7, e7⟩ : ∃ q, q = tNum (d6, y6 || badOf v6.data.toList) := ⟨_, rfl⟩
  rw [← e7] at c7
  have eT : tCol t = (⟨q1.1, q2.1, ⟨q3.1, q4.1⟩, q5.1, headV (cellsOf v6.data.toList), q7.1⟩, q7.2) := by
    rw [e5, e4, e3, e2, e1] at e6
    simp only [tCol, sq, un, tDft, ← e6, ← e7]
    rw [e5, e4, e3, e2, e1]
  rw [eT]
  clear eT
  have hsz : v6.data.toList.length = v6.size := rfl
  have c8 := parse_refU v6.data.toList (by omega)
  have hpc : ((parseS v6.data.toList).isSome = false ∧ cellsOf v6.data.toList = [] ∧ badOf v6.data.toList = true) ∨ ((parseS v6.data.toList).isSome = true ∧ badOf v6.data.toList = badL (cellsOf v6.data.toList)) := by
    cases hp : parseS v6.data.toList with
    | none => exact .inl ⟨rfl, cellsOf_none hp, by unfold badOf; rw [hp]⟩
    | some l => exact .inr ⟨rfl, by rw [cellsOf_some hp]; exact badOf_some hp⟩
  obtain ⟨L, hLe⟩ : ∃ L, L = cellsOf v6.data.toList := ⟨_, rfl⟩
  obtain ⟨B, hBe⟩ : ∃ B, B = badOf v6.data.toList := ⟨_, rfl⟩
  obtain ⟨okp, hoe⟩ : ∃ b, b = (parseS v6.data.toList).isSome := ⟨_, rfl⟩
  rw [← hLe, ← hoe] at c8
  rw [hsz] at c8
  rw [← hLe, ← hBe, ← hoe] at hpc
  rw [← hBe] at c7
  rw [← hLe]
  clear hLe hBe hoe e7
  simp only at c6
  simp (maxSteps := 1000000) [hho, noHo, -List.reduceReplicate]
  refine call_x [0] (c1) rfl rfl ⟨rfl, rfl⟩ hho (by simp) (by decide) (by simp) (by simp) ?_
  simp (maxSteps := 1000000) [hho, noHo, -List.reduceReplicate]
  refine call_x [0] (c2) rfl rfl ⟨rfl, rfl⟩ hho (by simp) (by decide) (by simp) (by simp) ?_
  simp (maxSteps := 1000000) [hho, noHo, -List.reduceReplicate]
  refine call_x [0] (c3) rfl rfl ⟨rfl, rfl⟩ hho (by simp) (by decide) (by simp) (by simp) ?_
  simp (maxSteps := 1000000) [hho, noHo, -List.reduceReplicate]
  refine call_x [0] (c4) rfl rfl ⟨rfl, rfl⟩ hho (by simp) (by decide) (by simp) (by simp) ?_
  simp (maxSteps := 1000000) [hho, noHo, -List.reduceReplicate]
  refine call_x [0] (c5) rfl rfl ⟨rfl, rfl⟩ hho (by simp) (by decide) (by simp) (by simp) ?_
  simp (maxSteps := 1000000) [hho, noHo, -List.reduceReplicate]
  refine call_x [0] (c6) rfl rfl ⟨rfl, rfl⟩ hho (by simp) (by decide) (by simp) (by simp) ?_
  simp (maxSteps := 1000000) [hho, noHo, hsz, -List.reduceReplicate]
  refine ⟨by omega, ?_⟩
  rcases hpc with ⟨rfl, rfl, rfl⟩ | ⟨rfl, hB⟩
  · skip
    simp only [Bool.or_true, Bool.or_false] at c7
    refine call_x [] (c8) rfl rfl ⟨rfl, rfl⟩ hho (by simp) (by decide) (by simp) (by simp) ?_
    simp (maxSteps := 1000000) [hho, noHo, tpC, undef, onGP_none, condG_false, -List.reduceReplicate]
    refine call_x [0] (c7) rfl rfl ⟨rfl, rfl⟩ hho (by simp) (by decide) (by simp) (by simp) ?_
    simp (maxSteps := 1000000) [hho, noHo, tpC, -List.reduceReplicate]
    refine Ret.sel [0] (fun _ => false) (ho := by rfl) (ha := by rfl) ?_ ?_ (by decide) (by simp) (fun i _ h => ?_) ⟨rfl, rfl⟩
    · simp
    · simp
    · have e : i = 0 := of_decide_eq_true h
      subst e; rfl
  rcases L with _ | ⟨a, _ | ⟨a2, l2⟩⟩
  · have hB : B = false := hB
    subst hB
    simp only [Bool.or_true, Bool.or_false] at c7
    refine call_x [] (c8) rfl rfl ⟨rfl, rfl⟩ hho (by simp) (by decide) (by simp) (by simp) ?_
    simp (maxSteps := 1000000) [hho, noHo, tpC, cellsA, undef, onGP_none, condG_false, -List.reduceReplicate]
    refine call_x [0] (c7) rfl rfl ⟨rfl, rfl⟩ hho (by simp) (by decide) (by simp) (by simp) ?_
    simp (maxSteps := 1000000) [hho, noHo, tpC, -List.reduceReplicate]
    refine Ret.sel [0] (fun _ => false) (ho := by rfl) (ha := by rfl) ?_ ?_ (by decide) (by simp) (fun i _ h => ?_) ⟨rfl, rfl⟩
    · simp
    · simp
    · have e : i = 0 := of_decide_eq_true h
      subst e; rfl
  · have hB : B = decide (a.col ≠ 0) := hB
    by_cases hc0 : a.col = 0
    · have hB : B = false := by rw [hB]; simp [hc0]
      subst hB
      simp only [Bool.or_true, Bool.or_false] at c7
      refine call_x [] (c8) rfl rfl ⟨rfl, rfl⟩ hho (by simp) (by decide) (by simp) (by simp) ?_
      simp (maxSteps := 1000000) [hho, noHo, tpC, cellsA_one, cellA, valA, hc0, headV, undef, onGP_none, condG_false, -List.reduceReplicate]

      refine call_x [0] (c7) rfl rfl ⟨rfl, rfl⟩ hho (by simp) (by decide) (by simp) (by simp) ?_
      simp (maxSteps := 1000000) [hho, noHo, tpC, -List.reduceReplicate]
      refine Ret.sel [0] (fun _ => false) (ho := by rfl) (ha := by rfl) ?_ ?_ (by decide) (by simp) (fun i _ h => ?_) ⟨rfl, rfl⟩
      · simp
      · simp
      · have e : i = 0 := of_decide_eq_true h
        subst e; rfl
    · have hB : B = true := by rw [hB]; simp [hc0]
      subst hB
      simp only [Bool.or_true, Bool.or_false] at c7
      refine call_x [] (c8) rfl rfl ⟨rfl, rfl⟩ hho (by simp) (by decide) (by simp) (by simp) ?_
      simp (maxSteps := 1000000) [hho, noHo, tpC, cellsA_one, cellA, valA, hc0, headV, undef, onGP_none, condG_false, -List.reduceReplicate]
      refine call_x [0] (c7) rfl rfl ⟨rfl, rfl⟩ hho (by simp) (by decide) (by simp) (by simp) ?_
      simp (maxSteps := 1000000) [hho, noHo, tpC, -List.reduceReplicate]
      refine Ret.sel [0] (fun _ => false) (ho := by rfl) (ha := by rfl) ?_ ?_ (by decide) (by simp) (fun i _ h => ?_) ⟨rfl, rfl⟩
      · simp
      · simp
      · have e : i = 0 := of_decide_eq_true h
        subst e; rfl
  · have hB : B = true := hB
    subst hB
    have hl4 : ¬ ((l2.length : Int) + 1 + 1 ≤ 1) := by omega
    have hl5 : (1 : Int) < (l2.length : Int) + 1 + 1 := by omega
    have hl6 : ¬ ((l2.length : Int) + 1 + 1 = 1) := by omega
    simp only [Bool.or_true, Bool.or_false] at c7
    refine call_x [] (c8) rfl rfl ⟨rfl, rfl⟩ hho (by simp) (by decide) (by simp) (by simp) ?_
    simp (maxSteps := 1000000) [hho, noHo, tpC, cellsA_cons, cellA, hl4, hl5, hl6, undef, onGP_none, condG_false, -List.reduceReplicate]
    refine call_x [0] (c7) rfl rfl ⟨rfl, rfl⟩ hho (by simp) (by decide) (by simp) (by simp) ?_
    simp (maxSteps := 1000000) [hho, noHo, tpC, -List.reduceReplicate]
    refine Ret.sel [0] (fun _ => false) (ho := by rfl) (ha := by rfl) ?_ ?_ (by decide) (by simp) (fun i _ h => ?_) ⟨rfl, rfl⟩
    · simp
    · simp
    · have e : i = 0 := of_decide_eq_true h
      subst e; rfl
end Go.Proofs.YtcjncgfhkgcbnaaGreatDoor
