import Derived.Test.YtcjncgfhkgcbnaaGreatDoorTq
import Derived.Test.YtcjncgfhkgcbnaaGreatDoorHQ
import Derived.Test.YtcjncgfhkgcbnaaGreatDoorHF2
namespace Go.Proofs.YtcjncgfhkgcbnaaGreatDoor
set_option linter.unusedVariables false
set_option linter.unusedSimpArgs false
open Go.RowKit
attribute [local simp] isCut_nil isCut_region isCut_seq isCut_block isCut_loop isCut_cond isCut_skip isCut_exit isCut_ret isCut_range swapK putK altK condK_bool pickP_bool stepP stepO onPure_some onPure_none onImpl_some onImpl_none stepC onGP_some onGP_none onGV_some condG mkG onIt_it nextP_ptr takeP_eq takeV_some takeV_none takeU_some takeU_none takeQ takeW_some takeN_none takeN_some takeG_some takeO_some altO_some pureV binV2 eqF eqOp ovlV ovl2 rowAt capV binV intBin strBin isSh shV fldV ixV sliceV slice3V loadAV nilV lenV callV unV convV viewS cellsH loadV fldCut AV.ung AV.ungs AV.gc AV.cells AS.ev AS.put anyS gcsV gcO lens lnO gV guardV retK RetP_eq resV oneV anyRo loIx hiIx implO callP_clo evL gcsL clearV storeAV AS.push AS.setO appV appZ shortS copyV buildV partsV fillV srcV fzO okV isCell_c isCell_ptr isCell_sl isCell_fs isCell_fp isCell_clo rowZ_one rowZ_zero rowZ_2 rowZ_3 rowZ_4 rowZ_5 rowZ_6 rowZ_7 rowZ_8 rowZ_9 rowZ_10 rowZ_11 rowZ_12 noHo Value.oneCell' max2V min2V lookV updV lenM msAt afterH putBack frzFrom frzO rebO backIx nilEq_sl nilEq_fs nilOp_eql nilOp_neq AV.reb AV.rebL
attribute [local simp ↓] runK_skip runK_region runK_draw runK_seq runK_cut runK_cond runK_block runK_loop runK_exit runK_label runK_goto runK_ret runK_range contK_nil contK_seq contK_seq_ret contK_seq_exit contK_seq_goto contK_block contK_block_ret contK_block_goto contK_block_exit runO_nil runO_cons roundK_exit roundK_ret roundK_goto exitK_ret cutK_ret cutK_exit runE_done runE_nil runE_take runE_alt condG_true condG_false
set_option maxRecDepth 10000
def z0 : List AV := [.c (.int .i64 0), .c (.int .i64 0), .c (.slice none 0 0)]
def tbP (id : Int) (name : ByteArray) (a b : AV) : AObj := .o .box [.c (.int .i64 id), .c (.string name), a, b]
def xbP (id : Int) (name : ByteArray) (a : AV) : AObj := .o .box [.c (.int .i64 id), .c (.string name), a, .c (.bool false), .c (.int .i64 0)]
def hA (v nx : Int) (acc : List TabS) (t : TSt) : List AObj := [.o .box z0, .o .box (tpC t), .o .box [.c (.int .i64 v), .c (.int .i64 nx), .sl 3 4 0 acc.length (acc.length * 4)], .o (.row 39 4) (tabsA acc)]
def nilS : AV := .c (.slice none 0 0)
def s0 (l : List (Nat × AV)) : List AV := slotsOf 152 ([(2, .ptr 0 0 3), (4, .ptr 1 0 2), (5, .ptr 2 0 3)] ++ l)
def dpA (v nx : Int) (y : Int × List TabS × TSt) : AS := ⟨s0 [(6, .c (.int .i64 y.1))], hA v nx y.2.1 y.2.2⟩
def dpA1 (v nx : Int) (y : List TabS × TSt) : AS := ⟨s0 [], hA v nx y.1 y.2⟩
def dpB (v nx n : Int) (acc : List TabS) (id : Int) (name : ByteArray) (y : Int × List ColS × TSt) : AS := ⟨s0 [(6, .c (.int .i64 n)), (7, .ptr 4 0 4), (8, .c (.int .i64 y.1))], hA v nx acc y.2.2 ++ [tbP id name (.sl 5 10 0 y.2.1.length (y.2.1.length * 10)) nilS, .o (.row 53 10) (colsA y.2.1)]⟩
def dpB1 (v nx n : Int) (acc : List TabS) (id : Int) (name : ByteArray) (y : List ColS × TSt) : AS := ⟨s0 [(6, .c (.int .i64 n)), (7, .ptr 4 0 4)], hA v nx acc y.2 ++ [tbP id name (.fs 10 y.1.length (colsA y.1)) nilS]⟩
def dpC (v nx n : Int) (acc : List TabS) (id : Int) (name : ByteArray) (cols : List ColS) (y : Int × List IdxS × TSt) : AS := ⟨s0 [(6, .c (.int .i64 n)), (7, .ptr 4 0 4), (10, .c (.int .i64 y.1))], hA v nx acc y.2.2 ++ [tbP id name (.fs 10 cols.length (colsA cols)) (.sl 5 5 0 y.2.1.length (y.2.1.length * 5)), .o (.row 56 5) (idxsA y.2.1)]⟩
def dpC1 (v nx n : Int) (acc : List TabS) (id : Int) (name : ByteArray) (cols : List ColS) (y : List IdxS × TSt) : AS := ⟨s0 [(6, .c (.int .i64 n)), (7, .ptr 4 0 4)], hA v nx acc y.2 ++ [tbP id name (.fs 10 cols.length (colsA cols)) (.fs 5 y.1.length (idxsA y.1))]⟩
def dpD (v nx n : Int) (acc : List TabS) (id : Int) (name : ByteArray) (cols : List ColS) (m : Int) (idxs : List IdxS) (xid : Int) (xname : ByteArray) (y : Int × List Int × TSt) : AS := ⟨s0 [(6, .c (.int .i64 n)), (7, .ptr 4 0 4), (10, .c (.int .i64 m)), (11, .ptr 6 0 5), (12, .c (.int .i64 y.1))], hA v nx acc y.2.2 ++ [tbP id name (.fs 10 cols.length (colsA cols)) (.sl 5 5 0 idxs.length (idxs.length * 5)), .o (.row 56 5) (idxsA idxs), xbP xid xname (.sl 7 1 0 y.2.1.length y.2.1.length), .o (.row 3 1) (intsA y.2.1)]⟩
def dpD1 (v nx n : Int) (acc : List TabS) (id : Int) (name : ByteArray) (cols : List ColS) (m : Int) (idxs : List IdxS) (xid : Int) (xname : ByteArray) (y : List Int × TSt) : AS := ⟨s0 [(6, .c (.int .i64 n)), (7, .ptr 4 0 4), (10, .c (.int .i64 m)), (11, .ptr 6 0 5)], hA v nx acc y.2 ++ [tbP id name (.fs 10 cols.length (colsA cols)) (.sl 5 5 0 idxs.length (idxs.length * 5)), .o (.row 56 5) (idxsA idxs), xbP xid xname (.fs 1 y.1.length (intsA y.1))]⟩
structure Pos {α : Type} (g : Bs → Option (α × Bs)) (k : List α → Bs → Option SchS) (ok : α → Prop) (W : Nat) (tot : Option SchS) (y : Int × List α × TSt) : Prop where
  kt : Kt (tSys 3000 4000) y.2.2 (kL g k y.1 y.2.1) tot
  len : y.2.1.length + wT y.2.2 ≤ 4000
  w : wT y.2.2 ≤ W
  ok : ∀ x ∈ y.2.1, ok x
  i : I64 y.1
structure Pos1 {α : Type} (k : List α → Bs → Option SchS) (ok : α → Prop) (W : Nat) (tot : Option SchS) (y : List α × TSt) : Prop where
  kt : Kt (tSys 3000 4000) y.2 (k y.1) tot
  len : y.1.length ≤ 4000
  w : wT y.2 ≤ W
  ok : ∀ x ∈ y.1, ok x
theorem Pos.out {α : Type} {g : Bs → Option (α × Bs)} {k : List α → Bs → Option SchS} {ok : α → Prop} {W : Nat} {tot : Option SchS} {y : Int × List α × TSt} (h : Pos g k ok W tot y) (hn : y.1 = 0 ∨ y.2.2.2 = true) : Pos1 k ok W tot y.2 :=
  ⟨h.kt.exitT hn, by have := h.len; omega, h.w, h.ok⟩
abbrev okX (x : IdxS) : Prop := x.name.size ≤ 3000 ∧ x.cols.length ≤ 4000
abbrev okT (t : TabS) : Prop := t.name.size ≤ 3000 ∧ t.cols.length ≤ 4000 ∧ t.idxs.length ≤ 4000 ∧ (∀ c ∈ t.cols, ColM 3000 c) ∧ ∀ x ∈ t.idxs, okX x
theorem okT_big {t : TabS} (h : okT t) : TabBig t := ⟨by have := h.2.1; omega, by have := h.2.2.1; omega, by have := h.1; omega, fun c hc => by have := h.2.2.2.1 c hc; exact ⟨by have := this.1; omega, by have := this.2; omega⟩, fun x hx => by have := h.2.2.2.2 x hx; exact ⟨by have := this.1; omega, by have := this.2; omega⟩⟩
theorem kL_bdk {α β γ : Type} (g : Bs → Option (α × Bs)) (k1 : List α → Bs → Option (β × Bs)) (n : Int) (acc : List α) (k : β → Bs → Option γ) : bd (kL g k1 n acc) k = kL g (fun l => bd (k1 l) k) n acc := by
  funext b
  simp only [kL, bd]
  split
  · rfl
  · cases sN g n.toNat b <;> rfl
theorem dTab_bd {β : Type} (k : TabS → Bs → Option β) : bd dTab k = bd sNum fun id => bd sText fun name => bd sNum fun m => kL sCol (fun cols => bd sNum fun m2 => kL dIdx (fun idxs => k ⟨id, name, cols, idxs⟩) m2 []) m [] := by
  unfold dTab
  simp only [bd_assoc, bd_rt, dMany_bd, kL_bdk]
theorem dIdx_bd {β : Type} (k : IdxS → Bs → Option β) : bd dIdx k = bd sNum fun id => bd sText fun name => bd sNum fun m => kL sNum (fun cols => bd sFlag fun u => bd sNum fun st => k ⟨id, name, cols, u, st⟩) m [] := by
  unfold dIdx
  simp only [bd_assoc, bd_rt, dMany_bd, kL_bdk]
theorem i64_dec {n : Int} (h : I64 n) (hn : 0 < n) : I64 (n - 1) := ⟨by have := h.1; omega, by have := h.2; omega⟩
theorem wrap_dec {n : Int} (h : I64 n) (hn : 0 < n) : IntKind.i64.wrap (n - 1) = n - 1 := IntWalk.i64_in _ (by have := h.1; have := h.2; omega)
set_option maxHeartbeats 64000000 in
theorem r12Parse_w (b : Bs) (hb : b.length ≤ 3000) : ACalls Tryz.prog 17 [.fs 1 b.length (u8av b)] [] (fun _ => false) (fun r h' => r = schParseA b ∧ h' = []) := by
  refine acalls mixed Tryz.func17 rfl Tryz.ntmps17 rfl fun E hE hst hho => ?_
  unfold schParseA
  have hZ : NilL z0 (schA schZ) := .same _ (.same _ (.slice 4 .nil))
  obtain ⟨tot, htot⟩ : ∃ tot, tot = parSch b := ⟨_, rfl⟩
  rw [← htot]
  have k0 : Kt (tSys 3000 4000) (b, false) dSch tot := ⟨⟨hb, by simp [wT]; omega⟩, .inr ⟨b, rfl, by rw [htot]; exact (dSch_eq b (by omega)).symm⟩⟩
  have w0 : wT (b, false) ≤ 3001 := by simp [wT]; omega
  clear htot
  obtain ⟨t0, ht0⟩ : ∃ t : TSt, t = (b, false) := ⟨_, rfl⟩
  have hTC : [AV.fs 1 b.length (u8av b), .c (.bool false)] = tpC t0 := by rw [ht0]; rfl
  rw [← ht0] at k0 w0
  have c1 := num_t t0 (by have := k0.1.1; omega)
  have k1 := (Kt.step (tNum_sim 3000 4000) k0).1
  have w1 := Nat.le_trans (tNum_wle t0) w0
  obtain ⟨q1, e1⟩ : ∃ q, q = tNum t0 := ⟨_, rfl⟩
  rw [← e1] at c1 k1 w1
  obtain ⟨v, t1⟩ := q1
  simp only at c1 k1 w1
  have c2 := num_t t1 (by have := k1.1.1; omega)
  have k2 := (Kt.step (tNum_sim 3000 4000) k1).1
  have w2 := Nat.le_trans (tNum_wle t1) w1
  obtain ⟨q2, e2⟩ : ∃ q, q = tNum t1 := ⟨_, rfl⟩
  rw [← e2] at c2 k2 w2
  obtain ⟨nx, t2⟩ := q2
  simp only at c2 k2 w2
  rw [dMany_bd] at k2
  have c3 := num_t t2 (by have := k2.1.1; omega)
  obtain ⟨k3, i3⟩ := Kt.step (tNum_sim 3000 4000) k2
  have w3 := Nat.le_trans (tNum_wle t2) w2
  obtain ⟨q3, e3⟩ : ∃ q, q = tNum t2 := ⟨_, rfl⟩
  rw [← e3] at c3 k3 w3 i3
  obtain ⟨n3, t3⟩ := q3
  simp only at c3 k3 w3 i3
  clear e1 e2 e3 k0 k1 k2 w0 w1 w2 ht0
  simp (maxSteps := 1000000) [hho, noHo, -List.reduceReplicate]
  simp only [hTC]
  refine call_x [1] (c1) rfl rfl ⟨rfl, rfl⟩ hho (by simp) (by decide) (by simp) (by simp) ?_
  simp (maxSteps := 1000000) [hho, noHo, -List.reduceReplicate]
  refine call_x [1] (c2) rfl rfl ⟨rfl, rfl⟩ hho (by simp) (by decide) (by simp) (by simp) ?_
  simp (maxSteps := 1000000) [hho, noHo, -List.reduceReplicate]
  refine call_x [1] (c3) rfl rfl ⟨rfl, rfl⟩ hho (by simp) (by decide) (by simp) (by simp) ?_
  simp (maxSteps := 1000000) [hho, noHo, -List.reduceReplicate]
  refine loop_k2 mixed (dpA v nx) (fun y => wT y.2.2) (Pos dTab (fun l => finS ⟨v, nx, l⟩) okT 3001 tot) (n3, [], t3) (dpA1 v nx) (Pos1 (fun l => finS ⟨v, nx, l⟩) okT 3001 tot) 0 ⟨k3, by simp; omega, w3, fun x h => (by cases h), i3⟩ ?_ ?_ ?_
  · refine Wk.trans (wk_virtC 2 2 39 4 rfl rfl) ?_
    exact wk_eq (by simp [hE, lens, dpA, hA]) (by simp [dpA, hA, z0, tpC, tabsA]) (by simp [livH, livO, AV.livL, AV.liv, wkL, wkV, List.range', dpA, s0, slotsOf])
  · rintro ⟨acc, t⟩ hI
    have hkt := hI.kt
    have hok := hI.ok
    have hln := hI.len
    obtain ⟨d, x⟩ := t
    simp only at hkt hok hln
    have hfail : ¬ (x = false ∧ d = [] ∧ schOk ⟨v, nx, acc⟩ = true) → tot = none := fun h => by
      cases x with
      | true => exact hkt.deadT rfl
      | false =>
        rw [hkt.liveT rfl]
        exact if_neg fun h2 => h ⟨rfl, h2.1, h2.2⟩
    have hLl : (tabsA acc).length = acc.length * 4 := tabsA_length acc
    have htk : List.take (acc.length * 4) (tabsA acc) = tabsA acc := List.take_of_length_le (by omega)
    have cR := right_r12 ⟨v, nx, acc⟩ (by simp only; omega) fun t ht => okT_big (hok t ht)
    simp only [schA] at cR
    cases x with
    | true =>
      rw [hfail fun h => by cases h.1]
      simp (maxSteps := 1000000) [hho, noHo, dpA1, s0, slotsOf, hA, tpC, z0, undef, onGP_none, condG_false, -List.reduceReplicate]
      exact Ret.nilA hZ (Ret.sel [] (fun _ => false) (ho := by rfl) (ha := by rfl) (by simp) (by simp [schA]) (by decide) (by simp) (fun i _ h => by cases h) ⟨rfl, rfl⟩)
    | false =>
    by_cases hd : d = []
    case neg =>
      have hd1 : ¬ d.length = 0 := fun h => hd (List.eq_nil_of_length_eq_zero h)
      have hd2 : 0 < d.length := by omega
      have hd3 : (0 : Int) < d.length := by omega
      rw [hfail fun h => hd h.2.1]
      simp (maxSteps := 1000000) [hho, noHo, dpA1, s0, slotsOf, hA, tpC, z0, hd1, hd2, hd3, undef, onGP_none, condG_false, -List.reduceReplicate]
      exact Ret.nilA hZ (Ret.sel [] (fun _ => false) (ho := by rfl) (ha := by rfl) (by simp) (by simp [schA]) (by decide) (by simp) (fun i _ h => by cases h) ⟨rfl, rfl⟩)
    subst hd
    have eR : AV.fs 4 acc.length (tabsA acc) = .fs 4 acc.length (List.take (acc.length * 4) (List.drop 0 (tabsA acc))) := by rw [List.drop_zero, htk]
    rw [eR] at cR
    simp (maxSteps := 1000000) [hho, noHo, dpA1, s0, slotsOf, hA, tpC, z0, undef, onGP_none, condG_false, -List.reduceReplicate]
    refine call_plain (fun k => k == 3) cR (ha := by rfl) ?_ ?_
    · exact ⟨⟨trivial, trivial, ⟨hLl, by omega, by unfold maxLen; omega, by rw [List.drop_zero, htk]; exact List.all_eq_true.2 ((tabsA_all acc).2 trivial)⟩, trivial⟩, trivial⟩
    rintro r h' ⟨rfl, rfl⟩
    refine ⟨rfl, ?_⟩
    cases hsok : schOk ⟨v, nx, acc⟩ with
    | false =>
      rw [hfail fun h => by rw [hsok] at h; cases h.2.2]
      simp (maxSteps := 1000000) [hho, noHo, undef, onGP_none, condG_false, -List.reduceReplicate]
      exact Ret.nilA hZ (Ret.sel [] (fun _ => false) (ho := by rfl) (ha := by rfl) (by simp) (by simp [schA]) (by decide) (by simp) (fun i _ h => by cases h) ⟨rfl, rfl⟩)
    | true =>
      have hgood : tot = some ⟨v, nx, acc⟩ := by
        rw [hkt.liveT rfl]
        exact if_pos ⟨rfl, hsok⟩
      rw [hgood]
      simp (maxSteps := 1000000) [hho, noHo, undef, onGP_none, condG_false, -List.reduceReplicate]
      refine Ret.sel [] (fun k => k == 3) (ho := by rfl) (ha := by rfl) ?_ ?_ (by decide) (by simp) (fun i _ h => by cases h) ⟨?_, rfl⟩
      · simp
      · simp [hLl]
        exact ⟨by unfold maxLen; omega, by rw [htk]; exact (tabsA_all acc).2 trivial⟩
      · show AV.tup [AV.agg [.c (.int .i64 v), .c (.int .i64 nx), AV.fs 4 acc.length (List.take (acc.length * 4) (List.drop 0 (tabsA acc)))], .c (.bool true)] = _
        rw [List.drop_zero, htk]; rfl
  rintro ⟨n, acc, t⟩ hI
  have hkt := hI.kt
  have hln := hI.len
  have hw := hI.w
  have hok := hI.ok
  have hi := hI.i
  obtain ⟨d, x⟩ := t
  simp only at hkt hln hw hok hi
  by_cases hn0 : n = 0
  · subst hn0
    cases x
    all_goals
      simp (maxSteps := 1000000) [hho, noHo, dpA, s0, slotsOf, hA, tpC, z0, tbP, xbP, nilS, undef, onGP_none, condG_false, -List.reduceReplicate]
      refine exit_to (acc, _) (hI.out (.inl rfl)) ?_
      exact wk_of 4 0 (by simp [hA]) (by simp [hE, lens, hA]) (by simp [dpA, dpA1, dpB, dpB1, dpC, dpC1, dpD, dpD1, s0, hA, tpC, z0, tbP, xbP, nilS]) (by simp [livH, livO, AV.livL, AV.liv, wkL, wkV, List.range', dpA, dpA1, dpB, dpB1, dpC, dpC1, dpD, dpD1, s0, hA, tpC, z0, tbP, xbP, nilS]) (by simp [livH, livO, AV.livL, AV.liv, wkL, wkV, List.range', dpA, dpA1, dpB, dpB1, dpC, dpC1, dpD, dpD1, s0, hA, tpC, z0, tbP, xbP, nilS, slotsOf])
  cases x with
  | true =>
    simp (maxSteps := 1000000) [hho, noHo, dpA, s0, slotsOf, hA, tpC, z0, tbP, xbP, nilS, hn0, undef, onGP_none, condG_false, -List.reduceReplicate]
    refine exit_to (acc, _) (hI.out (.inr rfl)) ?_
    exact wk_of 4 0 (by simp [hA]) (by simp [hE, lens, hA]) (by simp [dpA, dpA1, dpB, dpB1, dpC, dpC1, dpD, dpD1, s0, hA, tpC, z0, tbP, xbP, nilS]) (by simp [livH, livO, AV.livL, AV.liv, wkL, wkV, List.range', dpA, dpA1, dpB, dpB1, dpC, dpC1, dpD, dpD1, s0, hA, tpC, z0, tbP, xbP, nilS]) (by simp [livH, livO, AV.livL, AV.liv, wkL, wkV, List.range', dpA, dpA1, dpB, dpB1, dpC, dpC1, dpD, dpD1, s0, hA, tpC, z0, tbP, xbP, nilS, slotsOf])
  | false =>
  by_cases hneg : n < 0
  · simp (maxSteps := 1000000) [hho, noHo, dpA, s0, slotsOf, hA, tpC, z0, tbP, xbP, nilS, hn0, hneg, undef, onGP_none, condG_false, -List.reduceReplicate]
    rw [hkt.neg hneg]
    exact Ret.nilA hZ (Ret.sel [] (fun _ => false) (ho := by rfl) (ha := by rfl) (by simp) (by simp [schA]) (by decide) (by simp) (fun i _ h => by cases h) ⟨rfl, rfl⟩)
  have hpos : 0 < n := by omega
  have ewn := wrap_dec hi hpos
  have k0 := hkt.goT hpos
  rw [dTab_bd] at k0
  have c1 := num_t (d, false) (Nat.le_trans (show _ ≤ 3000 from k0.1.1) (by omega))
  obtain ⟨k1, o1⟩ := Kt.step (tNum_sim 3000 4000) k0
  have w1 := tNum_lt (d, false) rfl
  obtain ⟨q1, e1⟩ : ∃ q, q = tNum (d, false) := ⟨_, rfl⟩
  rw [← e1] at c1 k1 w1 o1
  obtain ⟨id, t1⟩ := q1
  simp only at c1 k1 w1 o1
  clear e1
  have c2 := text_t t1 (Nat.le_trans (show _ ≤ 3000 from k1.1.1) (by omega))
  obtain ⟨k2, o2⟩ := Kt.step (tText_sim 3000 4000) k1
  have w2 := tText_wle t1
  obtain ⟨q2, e2⟩ : ∃ q, q = tText t1 := ⟨_, rfl⟩
  rw [← e2] at c2 k2 w2 o2
  obtain ⟨name, t2⟩ := q2
  simp only at c2 k2 w2 o2
  clear e2
  have c3 := num_t t2 (Nat.le_trans (show _ ≤ 3000 from k2.1.1) (by omega))
  obtain ⟨k3, o3⟩ := Kt.step (tNum_sim 3000 4000) k2
  have w3 := tNum_wle t2
  obtain ⟨q3, e3⟩ : ∃ q, q = tNum t2 := ⟨_, rfl⟩
  rw [← e3] at c3 k3 w3 o3
  obtain ⟨m, t3⟩ := q3
  simp only at c3 k3 w3 o3
  clear e3
  simp (maxSteps := 1000000) [hho, noHo, dpA, s0, slotsOf, hA, tpC, z0, tbP, xbP, nilS, hn0, hneg, undef, onGP_none, condG_false, -List.reduceReplicate]
  refine call_x [1] (c1) rfl rfl ⟨rfl, rfl⟩ hho (by simp) (by decide) (by simp) (by simp) ?_
  simp (maxSteps := 1000000) [hho, noHo, tpC, -List.reduceReplicate]
  refine call_x [1] (c2) rfl rfl ⟨rfl, rfl⟩ hho (by simp) (by decide) (by simp) (by simp) ?_
  simp (maxSteps := 1000000) [hho, noHo, tpC, -List.reduceReplicate]
  refine call_x [1] (c3) rfl rfl ⟨rfl, rfl⟩ hho (by simp) (by decide) (by simp) (by simp) ?_
  simp (maxSteps := 1000000) [hho, noHo, tpC, -List.reduceReplicate]
  clear c1 c2 c3 k0 k1 k2 hkt hI
  obtain ⟨KA, hKA⟩ : ∃ KA : TabS → Bs → Option SchS, KA = fun x => kL dTab (fun l => finS ⟨v, nx, l⟩) (n - 1) (acc ++ [x]) := ⟨_, rfl⟩
  have hKA' : ∀ i nm cs xs, kL dTab (fun l => finS ⟨v, nx, l⟩) (n - 1) (acc ++ [⟨i, nm, cs, xs⟩]) = KA ⟨i, nm, cs, xs⟩ := fun i nm cs xs => by rw [hKA]
  simp only [hKA'] at k3
  obtain ⟨KB, hKB⟩ : ∃ KB : List ColS → Bs → Option SchS, KB = fun cols => bd sNum fun m2 => kL dIdx (fun idxs => KA ⟨id, name, cols, idxs⟩) m2 [] := ⟨_, rfl⟩
  rw [← hKB] at k3
  refine loop_k2 mixed (dpB v nx n acc id name) (fun y => wT y.2.2) (Pos sCol KB (ColM 3000) (wT t3) tot) (m, [], t3) (dpB1 v nx n acc id name) (Pos1 KB (ColM 3000) (wT t3) tot) 2 ⟨k3, by simp only [List.length_nil]; omega, Nat.le_refl _, fun x h => (by cases h), o3⟩ ?_ ?_ ?_
  · refine Wk.trans (wk_virtC 4 2 53 10 rfl rfl) ?_
    exact wk_eq (by simp [hE, lens, hA]) (by simp [dpA, dpA1, dpB, dpB1, dpC, dpC1, dpD, dpD1, s0, hA, tpC, z0, tbP, xbP, nilS, colsA]) (by simp [livH, livO, AV.livL, AV.liv, wkL, wkV, List.range', dpA, dpA1, dpB, dpB1, dpC, dpC1, dpD, dpD1, s0, hA, tpC, z0, tbP, xbP, nilS, slotsOf])
  case refine_3 =>
    rintro ⟨m, cols, t⟩ hI
    have hkt := hI.kt
    have hln := hI.len
    have hw := hI.w
    have hok := hI.ok
    have hi := hI.i
    obtain ⟨d, x⟩ := t
    simp only at hkt hln hw hok hi
    by_cases hn0 : m = 0
    · subst hn0
      cases x
      all_goals
        simp (maxSteps := 1000000) [hho, noHo, dpB, s0, slotsOf, hA, tpC, z0, tbP, xbP, nilS, undef, onGP_none, condG_false, -List.reduceReplicate]
        refine exit_to (cols, _) (hI.out (.inl rfl)) ?_
        refine Wk.trans (wk_data 4 2 5 (by rw [hho]; rfl) (by decide) rfl rfl rfl (by simp) (by simp) (by unfold maxLen; omega) (by simp [colsA_all])) ?_
        exact wk_of 5 1 (by simp [hA]) (by simp [hE, lens, hA]) (by simp [dpA, dpA1, dpB, dpB1, dpC, dpC1, dpD, dpD1, s0, hA, tpC, z0, tbP, xbP, nilS]) (by simp [livH, livO, AV.livL, AV.liv, wkL, wkV, List.range', dpA, dpA1, dpB, dpB1, dpC, dpC1, dpD, dpD1, s0, hA, tpC, z0, tbP, xbP, nilS]) (by simp [livH, livO, AV.livL, AV.liv, wkL, wkV, List.range', dpA, dpA1, dpB, dpB1, dpC, dpC1, dpD, dpD1, s0, hA, tpC, z0, tbP, xbP, nilS, slotsOf])
    cases x with
    | true =>
      simp (maxSteps := 1000000) [hho, noHo, dpB, s0, slotsOf, hA, tpC, z0, tbP, xbP, nilS, hn0, undef, onGP_none, condG_false, -List.reduceReplicate]
      refine exit_to (cols, _) (hI.out (.inr rfl)) ?_
      refine Wk.trans (wk_data 4 2 5 (by rw [hho]; rfl) (by decide) rfl rfl rfl (by simp) (by simp) (by unfold maxLen; omega) (by simp [colsA_all])) ?_
      exact wk_of 5 1 (by simp [hA]) (by simp [hE, lens, hA]) (by simp [dpA, dpA1, dpB, dpB1, dpC, dpC1, dpD, dpD1, s0, hA, tpC, z0, tbP, xbP, nilS]) (by simp [livH, livO, AV.livL, AV.liv, wkL, wkV, List.range', dpA, dpA1, dpB, dpB1, dpC, dpC1, dpD, dpD1, s0, hA, tpC, z0, tbP, xbP, nilS]) (by simp [livH, livO, AV.livL, AV.liv, wkL, wkV, List.range', dpA, dpA1, dpB, dpB1, dpC, dpC1, dpD, dpD1, s0, hA, tpC, z0, tbP, xbP, nilS, slotsOf])
    | false =>
    by_cases hneg : m < 0
    · simp (maxSteps := 1000000) [hho, noHo, dpB, s0, slotsOf, hA, tpC, z0, tbP, xbP, nilS, hn0, hneg, undef, onGP_none, condG_false, -List.reduceReplicate]
      rw [hkt.neg hneg]
      exact Ret.nilA hZ (Ret.sel [] (fun _ => false) (ho := by rfl) (ha := by rfl) (by simp) (by simp [schA]) (by decide) (by simp) (fun i _ h => by cases h) ⟨rfl, rfl⟩)
    have hpos : 0 < m := by omega
    have ewn := wrap_dec hi hpos
    have k0 := hkt.goT hpos
    have c4 := col_t (d, false) (Nat.le_trans (show _ ≤ 3000 from k0.1.1) (by omega))
    obtain ⟨k4, o4⟩ := Kt.step (tCol_sim 3000 4000) k0
    have w4 := tCol_lt (d, false) rfl
    obtain ⟨q4, e4⟩ : ∃ q, q = tCol (d, false) := ⟨_, rfl⟩
    rw [← e4] at c4 k4 w4 o4
    obtain ⟨c, t4⟩ := q4
    simp only at c4 k4 w4 o4
    clear e4
    have hsn := colsA_snoc cols c
    simp (maxSteps := 1000000) [hho, noHo, dpB, s0, slotsOf, hA, tpC, z0, tbP, xbP, nilS, hn0, hneg, undef, onGP_none, condG_false, -List.reduceReplicate]
    refine call_x [1] (c4) rfl rfl ⟨rfl, rfl⟩ hho (by simp) (by decide) (by simp) (by simp) ?_
    simp (maxSteps := 1000000) [hho, noHo, tpC, colA, ewn, -List.reduceReplicate]
    refine ⟨by omega, round_next (m - 1, cols ++ [c], t4) ⟨k4, by simp only [List.length_append, List.length_cons, List.length_nil]; omega, by simp only; omega, fun y hy => (List.mem_append.1 hy).elim (hok y) fun h => by rw [List.mem_singleton.1 h]; exact o4, i64_dec hi hpos⟩ w4 ?_⟩
    exact wk_of 6 2 (by simp [hA]) (by simp [hE, lens, hA]) (by simp [dpA, dpA1, dpB, dpB1, dpC, dpC1, dpD, dpD1, s0, hA, tpC, z0, tbP, xbP, nilS, hsn, colA, Nat.add_mul]) (by simp [livH, livO, AV.livL, AV.liv, wkL, wkV, List.range', dpA, dpA1, dpB, dpB1, dpC, dpC1, dpD, dpD1, s0, hA, tpC, z0, tbP, xbP, nilS]) (by simp [livH, livO, AV.livL, AV.liv, wkL, wkV, List.range', dpA, dpA1, dpB, dpB1, dpC, dpC1, dpD, dpD1, s0, hA, tpC, z0, tbP, xbP, nilS, slotsOf, Nat.add_mul])
  rintro ⟨cols, t⟩ hI
  have hktB := hI.kt
  have hlnB := hI.len
  have hwB := hI.w
  have hokB := hI.ok
  simp only at hktB hlnB hwB hokB
  rw [hKB] at hktB
  simp only at hktB
  have c5 := num_t t (Nat.le_trans (show _ ≤ 3000 from hktB.1.1) (by omega))
  obtain ⟨k5, o5⟩ := Kt.step (tNum_sim 3000 4000) hktB
  have w5 := tNum_wle t
  obtain ⟨q5, e5⟩ : ∃ q, q = tNum t := ⟨_, rfl⟩
  rw [← e5] at c5 k5 w5 o5
  obtain ⟨m2, t5⟩ := q5
  simp only at c5 k5 w5 o5
  clear e5
  obtain ⟨KC, hKC⟩ : ∃ KC : List IdxS → Bs → Option SchS, KC = fun idxs => KA ⟨id, name, cols, idxs⟩ := ⟨_, rfl⟩
  rw [← hKC] at k5
  simp (maxSteps := 1000000) [hho, noHo, dpB1, s0, slotsOf, hA, tpC, z0, tbP, xbP, nilS, -List.reduceReplicate]
  refine call_x [1] (c5) rfl rfl ⟨rfl, rfl⟩ hho (by simp) (by decide) (by simp) (by simp) ?_
  simp (maxSteps := 1000000) [hho, noHo, tpC, -List.reduceReplicate]
  clear c5 hktB hI k3
  refine loop_k2 mixed (dpC v nx n acc id name cols) (fun y => wT y.2.2) (Pos dIdx KC okX (wT t3) tot) (m2, [], t5) (dpC1 v nx n acc id name cols) (Pos1 KC okX (wT t3) tot) 4 ⟨k5, by simp only [List.length_nil]; omega, by simp only; omega, fun x h => (by cases h), o5⟩ ?_ ?_ ?_
  · refine Wk.trans (wk_virtC 4 3 56 5 rfl rfl) ?_
    exact wk_eq (by simp [hE, lens, hA]) (by simp [dpA, dpA1, dpB, dpB1, dpC, dpC1, dpD, dpD1, s0, hA, tpC, z0, tbP, xbP, nilS, idxsA]) (by simp [livH, livO, AV.livL, AV.liv, wkL, wkV, List.range', dpA, dpA1, dpB, dpB1, dpC, dpC1, dpD, dpD1, s0, hA, tpC, z0, tbP, xbP, nilS, slotsOf])
  · rintro ⟨idxs, t⟩ hI
    have hkt := hI.kt
    have hlnC := hI.len
    have hwC := hI.w
    have hokC := hI.ok
    simp only at hkt hlnC hwC hokC
    rw [hKC] at hkt
    simp only [hKA] at hkt
    have hsn := tabsA_snoc acc ⟨id, name, cols, idxs⟩
    simp (maxSteps := 1000000) [hho, noHo, dpC1, s0, slotsOf, hA, tpC, z0, tbP, xbP, nilS, ewn, -List.reduceReplicate]
    refine ⟨by omega, round_next (n - 1, acc ++ [⟨id, name, cols, idxs⟩], t) ⟨hkt, by simp only [List.length_append, List.length_cons, List.length_nil]; omega, by simp only; omega, fun y hy => (List.mem_append.1 hy).elim (hok y) fun h => by rw [List.mem_singleton.1 h]; exact ⟨o2, hlnB, hlnC, hokB, hokC⟩, i64_dec hi hpos⟩ (by simp only; omega) ?_⟩
    exact wk_of 4 2 (by simp [hA]) (by simp [hE, lens, hA]) (by simp [dpA, dpA1, dpB, dpB1, dpC, dpC1, dpD, dpD1, s0, hA, tpC, z0, tbP, xbP, nilS, hsn, tabA, Nat.add_mul]) (by simp [livH, livO, AV.livL, AV.liv, wkL, wkV, List.range', dpA, dpA1, dpB, dpB1, dpC, dpC1, dpD, dpD1, s0, hA, tpC, z0, tbP, xbP, nilS]) (by simp [livH, livO, AV.livL, AV.liv, wkL, wkV, List.range', dpA, dpA1, dpB, dpB1, dpC, dpC1, dpD, dpD1, s0, hA, tpC, z0, tbP, xbP, nilS, slotsOf, Nat.add_mul])
  rintro ⟨m2, idxs, t⟩ hI
  have hkt := hI.kt
  have hln := hI.len
  have hw := hI.w
  have hok := hI.ok
  have hi := hI.i
  obtain ⟨d, x⟩ := t
  simp only at hkt hln hw hok hi
  by_cases hn0 : m2 = 0
  · subst hn0
    cases x
    all_goals
      simp (maxSteps := 1000000) [hho, noHo, dpC, s0, slotsOf, hA, tpC, z0, tbP, xbP, nilS, undef, onGP_none, condG_false, -List.reduceReplicate]
      refine exit_to (idxs, _) (hI.out (.inl rfl)) ?_
      refine Wk.trans (wk_data 4 3 5 (by rw [hho]; rfl) (by decide) rfl rfl rfl (by simp) (by simp) (by unfold maxLen; omega) (by simp [idxsA_all])) ?_
      exact wk_of 5 1 (by simp [hA]) (by simp [hE, lens, hA]) (by simp [dpA, dpA1, dpB, dpB1, dpC, dpC1, dpD, dpD1, s0, hA, tpC, z0, tbP, xbP, nilS]) (by simp [livH, livO, AV.livL, AV.liv, wkL, wkV, List.range', dpA, dpA1, dpB, dpB1, dpC, dpC1, dpD, dpD1, s0, hA, tpC, z0, tbP, xbP, nilS]) (by simp [livH, livO, AV.livL, AV.liv, wkL, wkV, List.range', dpA, dpA1, dpB, dpB1, dpC, dpC1, dpD, dpD1, s0, hA, tpC, z0, tbP, xbP, nilS, slotsOf])
  cases x with
  | true =>
    simp (maxSteps := 1000000) [hho, noHo, dpC, s0, slotsOf, hA, tpC, z0, tbP, xbP, nilS, hn0, undef, onGP_none, condG_false, -List.reduceReplicate]
    refine exit_to (idxs, _) (hI.out (.inr rfl)) ?_
    refine Wk.trans (wk_data 4 3 5 (by rw [hho]; rfl) (by decide) rfl rfl rfl (by simp) (by simp) (by unfold maxLen; omega) (by simp [idxsA_all])) ?_
    exact wk_of 5 1 (by simp [hA]) (by simp [hE, lens, hA]) (by simp [dpA, dpA1, dpB, dpB1, dpC, dpC1, dpD, dpD1, s0, hA, tpC, z0, tbP, xbP, nilS]) (by simp [livH, livO, AV.livL, AV.liv, wkL, wkV, List.range', dpA, dpA1, dpB, dpB1, dpC, dpC1, dpD, dpD1, s0, hA, tpC, z0, tbP, xbP, nilS]) (by simp [livH, livO, AV.livL, AV.liv, wkL, wkV, List.range', dpA, dpA1, dpB, dpB1, dpC, dpC1, dpD, dpD1, s0, hA, tpC, z0, tbP, xbP, nilS, slotsOf])
  | false =>
  by_cases hneg : m2 < 0
  · simp (maxSteps := 1000000) [hho, noHo, dpC, s0, slotsOf, hA, tpC, z0, tbP, xbP, nilS, hn0, hneg, undef, onGP_none, condG_false, -List.reduceReplicate]
    rw [hkt.neg hneg]
    exact Ret.nilA hZ (Ret.sel [] (fun _ => false) (ho := by rfl) (ha := by rfl) (by simp) (by simp [schA]) (by decide) (by simp) (fun i _ h => by cases h) ⟨rfl, rfl⟩)
  have hpos : 0 < m2 := by omega
  have ewn := wrap_dec hi hpos
  have k0 := hkt.goT hpos
  rw [dIdx_bd] at k0
  have c6 := num_t (d, false) (Nat.le_trans (show _ ≤ 3000 from k0.1.1) (by omega))
  obtain ⟨k6, o6⟩ := Kt.step (tNum_sim 3000 4000) k0
  have w6 := tNum_lt (d, false) rfl
  obtain ⟨q6, e6⟩ : ∃ q, q = tNum (d, false) := ⟨_, rfl⟩
  rw [← e6] at c6 k6 w6 o6
  obtain ⟨xid, t6⟩ := q6
  simp only at c6 k6 w6 o6
  clear e6
  have c7 := text_t t6 (Nat.le_trans (show _ ≤ 3000 from k6.1.1) (by omega))
  obtain ⟨k7, o7⟩ := Kt.step (tText_sim 3000 4000) k6
  have w7 := tText_wle t6
  obtain ⟨q7, e7⟩ : ∃ q, q = tText t6 := ⟨_, rfl⟩
  rw [← e7] at c7 k7 w7 o7
  obtain ⟨xname, t7⟩ := q7
  simp only at c7 k7 w7 o7
  clear e7
  have c8 := num_t t7 (Nat.le_trans (show _ ≤ 3000 from k7.1.1) (by omega))
  obtain ⟨k8, o8⟩ := Kt.step (tNum_sim 3000 4000) k7
  have w8 := tNum_wle t7
  obtain ⟨q8, e8⟩ : ∃ q, q = tNum t7 := ⟨_, rfl⟩
  rw [← e8] at c8 k8 w8 o8
  obtain ⟨m3, t8⟩ := q8
  simp only at c8 k8 w8 o8
  clear e8
  simp (maxSteps := 1000000) [hho, noHo, dpC, s0, slotsOf, hA, tpC, z0, tbP, xbP, nilS, hn0, hneg, undef, onGP_none, condG_false, -List.reduceReplicate]
  refine call_x [1] (c6) rfl rfl ⟨rfl, rfl⟩ hho (by simp) (by decide) (by simp) (by simp) ?_
  simp (maxSteps := 1000000) [hho, noHo, tpC, -List.reduceReplicate]
  refine call_x [1] (c7) rfl rfl ⟨rfl, rfl⟩ hho (by simp) (by decide) (by simp) (by simp) ?_
  simp (maxSteps := 1000000) [hho, noHo, tpC, -List.reduceReplicate]
  refine call_x [1] (c8) rfl rfl ⟨rfl, rfl⟩ hho (by simp) (by decide) (by simp) (by simp) ?_
  simp (maxSteps := 1000000) [hho, noHo, tpC, -List.reduceReplicate]
  clear c6 c7 c8 k0 k6 k7 hkt hI
  obtain ⟨KX, hKX⟩ : ∃ KX : IdxS → Bs → Option SchS, KX = fun x => kL dIdx KC (m2 - 1) (idxs ++ [x]) := ⟨_, rfl⟩
  have hKX' : ∀ i nm cs u st, kL dIdx KC (m2 - 1) (idxs ++ [⟨i, nm, cs, u, st⟩]) = KX ⟨i, nm, cs, u, st⟩ := fun i nm cs u st => by rw [hKX]
  simp only [hKX'] at k8
  obtain ⟨KD, hKD⟩ : ∃ KD : List Int → Bs → Option SchS, KD = fun ks => bd sFlag fun u => bd sNum fun st => KX ⟨xid, xname, ks, u, st⟩ := ⟨_, rfl⟩
  rw [← hKD] at k8
  refine loop_k2 mixed (dpD v nx n acc id name cols m2 idxs xid xname) (fun y => wT y.2.2) (Pos sNum KD (fun _ => True) (wT t8) tot) (m3, [], t8) (dpD1 v nx n acc id name cols m2 idxs xid xname) (Pos1 KD (fun _ => True) (wT t8) tot) 6 ⟨k8, by simp only [List.length_nil]; omega, Nat.le_refl _, fun x h => trivial, o8⟩ ?_ ?_ ?_
  · refine Wk.trans (wk_virtC 6 2 3 1 rfl rfl) ?_
    exact wk_eq (by simp [hE, lens, hA]) (by simp [dpA, dpA1, dpB, dpB1, dpC, dpC1, dpD, dpD1, s0, hA, tpC, z0, tbP, xbP, nilS, intsA]) (by simp [livH, livO, AV.livL, AV.liv, wkL, wkV, List.range', dpA, dpA1, dpB, dpB1, dpC, dpC1, dpD, dpD1, s0, hA, tpC, z0, tbP, xbP, nilS, slotsOf])
  · rintro ⟨ks, t⟩ hI
    have hktD := hI.kt
    have hlnD := hI.len
    have hwD := hI.w
    simp only at hktD hlnD hwD
    rw [hKD] at hktD
    simp only at hktD
    have c9 := flag_t t (Nat.le_trans (show _ ≤ 3000 from hktD.1.1) (by omega))
    obtain ⟨k9, o9⟩ := Kt.step (tFlag_sim 3000 4000) hktD
    have w9 := tFlag_wle t
    obtain ⟨q9, e9⟩ : ∃ q, q = tFlag t := ⟨_, rfl⟩
    rw [← e9] at c9 k9 w9
    obtain ⟨u, t9⟩ := q9
    simp only at c9 k9 w9
    clear e9
    have c10 := num_t t9 (Nat.le_trans (show _ ≤ 3000 from k9.1.1) (by omega))
    obtain ⟨k10, o10⟩ := Kt.step (tNum_sim 3000 4000) k9
    have w10 := tNum_wle t9
    obtain ⟨q10, e10⟩ : ∃ q, q = tNum t9 := ⟨_, rfl⟩
    rw [← e10] at c10 k10 w10 o10
    obtain ⟨st, t10⟩ := q10
    simp only at c10 k10 w10 o10
    clear e10
    simp only [hKX] at k10
    have hsn := idxsA_snoc idxs ⟨xid, xname, ks, u, st⟩
    simp (maxSteps := 1000000) [hho, noHo, dpD1, s0, slotsOf, hA, tpC, z0, tbP, xbP, nilS, -List.reduceReplicate]
    refine call_x [1] (c9) rfl rfl ⟨rfl, rfl⟩ hho (by simp) (by decide) (by simp) (by simp) ?_
    simp (maxSteps := 1000000) [hho, noHo, tpC, -List.reduceReplicate]
    refine call_x [1] (c10) rfl rfl ⟨rfl, rfl⟩ hho (by simp) (by decide) (by simp) (by simp) ?_
    simp (maxSteps := 1000000) [hho, noHo, tpC, ewn, -List.reduceReplicate]
    refine ⟨by omega, round_next (m2 - 1, idxs ++ [⟨xid, xname, ks, u, st⟩], t10) ⟨k10, by simp only [List.length_append, List.length_cons, List.length_nil]; omega, by simp only; omega, fun y hy => (List.mem_append.1 hy).elim (hok y) fun h => by rw [List.mem_singleton.1 h]; exact ⟨o7, hlnD⟩, i64_dec hi hpos⟩ (by simp only; omega) ?_⟩
    exact wk_of 6 2 (by simp [hA]) (by simp [hE, lens, hA]) (by simp [dpA, dpA1, dpB, dpB1, dpC, dpC1, dpD, dpD1, s0, hA, tpC, z0, tbP, xbP, nilS, hsn, idxA, Nat.add_mul]) (by simp [livH, livO, AV.livL, AV.liv, wkL, wkV, List.range', dpA, dpA1, dpB, dpB1, dpC, dpC1, dpD, dpD1, s0, hA, tpC, z0, tbP, xbP, nilS]) (by simp [livH, livO, AV.livL, AV.liv, wkL, wkV, List.range', dpA, dpA1, dpB, dpB1, dpC, dpC1, dpD, dpD1, s0, hA, tpC, z0, tbP, xbP, nilS, slotsOf, Nat.add_mul])
  rintro ⟨m3, ks, t⟩ hI
  have hkt := hI.kt
  have hln := hI.len
  have hw := hI.w
  have hok := hI.ok
  have hi := hI.i
  obtain ⟨d, x⟩ := t
  simp only at hkt hln hw hok hi
  by_cases hn0 : m3 = 0
  · subst hn0
    cases x
    all_goals
      simp (maxSteps := 1000000) [hho, noHo, dpD, s0, slotsOf, hA, tpC, z0, tbP, xbP, nilS, undef, onGP_none, condG_false, -List.reduceReplicate]
      refine exit_to (ks, _) (hI.out (.inl rfl)) ?_
      refine Wk.trans (wk_data 6 2 7 (by rw [hho]; rfl) (by decide) rfl rfl rfl (by simp) (by simp) (by unfold maxLen; omega) (by simp [intsA_all])) ?_
      exact wk_of 7 1 (by simp [hA]) (by simp [hE, lens, hA]) (by simp [dpA, dpA1, dpB, dpB1, dpC, dpC1, dpD, dpD1, s0, hA, tpC, z0, tbP, xbP, nilS]) (by simp [livH, livO, AV.livL, AV.liv, wkL, wkV, List.range', dpA, dpA1, dpB, dpB1, dpC, dpC1, dpD, dpD1, s0, hA, tpC, z0, tbP, xbP, nilS]) (by simp [livH, livO, AV.livL, AV.liv, wkL, wkV, List.range', dpA, dpA1, dpB, dpB1, dpC, dpC1, dpD, dpD1, s0, hA, tpC, z0, tbP, xbP, nilS, slotsOf])
  cases x with
  | true =>
    simp (maxSteps := 1000000) [hho, noHo, dpD, s0, slotsOf, hA, tpC, z0, tbP, xbP, nilS, hn0, undef, onGP_none, condG_false, -List.reduceReplicate]
    refine exit_to (ks, _) (hI.out (.inr rfl)) ?_
    refine Wk.trans (wk_data 6 2 7 (by rw [hho]; rfl) (by decide) rfl rfl rfl (by simp) (by simp) (by unfold maxLen; omega) (by simp [intsA_all])) ?_
    exact wk_of 7 1 (by simp [hA]) (by simp [hE, lens, hA]) (by simp [dpA, dpA1, dpB, dpB1, dpC, dpC1, dpD, dpD1, s0, hA, tpC, z0, tbP, xbP, nilS]) (by simp [livH, livO, AV.livL, AV.liv, wkL, wkV, List.range', dpA, dpA1, dpB, dpB1, dpC, dpC1, dpD, dpD1, s0, hA, tpC, z0, tbP, xbP, nilS]) (by simp [livH, livO, AV.livL, AV.liv, wkL, wkV, List.range', dpA, dpA1, dpB, dpB1, dpC, dpC1, dpD, dpD1, s0, hA, tpC, z0, tbP, xbP, nilS, slotsOf])
  | false =>
  by_cases hneg : m3 < 0
  · simp (maxSteps := 1000000) [hho, noHo, dpD, s0, slotsOf, hA, tpC, z0, tbP, xbP, nilS, hn0, hneg, undef, onGP_none, condG_false, -List.reduceReplicate]
    rw [hkt.neg hneg]
    exact Ret.nilA hZ (Ret.sel [] (fun _ => false) (ho := by rfl) (ha := by rfl) (by simp) (by simp [schA]) (by decide) (by simp) (fun i _ h => by cases h) ⟨rfl, rfl⟩)
  have hpos : 0 < m3 := by omega
  have ewn := wrap_dec hi hpos
  have k0 := hkt.goT hpos
  have c11 := num_t (d, false) (Nat.le_trans (show _ ≤ 3000 from k0.1.1) (by omega))
  obtain ⟨k11, o11⟩ := Kt.step (tNum_sim 3000 4000) k0
  have w11 := tNum_lt (d, false) rfl
  obtain ⟨q11, e11⟩ : ∃ q, q = tNum (d, false) := ⟨_, rfl⟩
  rw [← e11] at c11 k11 w11 o11
  obtain ⟨z, t11⟩ := q11
  simp only at c11 k11 w11 o11
  clear e11
  have hsn : intsA (ks ++ [z]) = intsA ks ++ [.c (.int .i64 z)] := by simp [intsA]
  simp (maxSteps := 1000000) [hho, noHo, dpD, s0, slotsOf, hA, tpC, z0, tbP, xbP, nilS, hn0, hneg, undef, onGP_none, condG_false, -List.reduceReplicate]
  refine call_x [1] (c11) rfl rfl ⟨rfl, rfl⟩ hho (by simp) (by decide) (by simp) (by simp) ?_
  simp (maxSteps := 1000000) [hho, noHo, tpC, ewn, -List.reduceReplicate]
  refine ⟨by omega, round_next (m3 - 1, ks ++ [z], t11) ⟨k11, by simp only [List.length_append, List.length_cons, List.length_nil]; omega, by simp only; omega, fun y hy => trivial, i64_dec hi hpos⟩ w11 ?_⟩
  exact wk_of 8 1 (by simp [hA]) (by simp [hE, lens, hA]) (by simp [dpA, dpA1, dpB, dpB1, dpC, dpC1, dpD, dpD1, s0, hA, tpC, z0, tbP, xbP, nilS, hsn]) (by simp [livH, livO, AV.livL, AV.liv, wkL, wkV, List.range', dpA, dpA1, dpB, dpB1, dpC, dpC1, dpD, dpD1, s0, hA, tpC, z0, tbP, xbP, nilS]) (by simp [livH, livO, AV.livL, AV.liv, wkL, wkV, List.range', dpA, dpA1, dpB, dpB1, dpC, dpC1, dpD, dpD1, s0, hA, tpC, z0, tbP, xbP, nilS, slotsOf, Nat.add_mul])
end Go.Proofs.YtcjncgfhkgcbnaaGreatDoor
