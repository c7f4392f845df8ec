import Derived.Test.YthgoocdldnkogaaGreatDoorHMp
namespace Go.Proofs.YthgoocdldnkogaaGreatDoor
set_option linter.unusedVariables false
set_option linter.unusedSimpArgs false
open Go.RowKit
attribute [local simp] isCut_nil isCut_region isCut_seq isCut_block isCut_loop isCut_cond isCut_skip isCut_exit isCut_ret isCut_range swapK putK altK condK_bool pickP_bool stepP stepO onPure_some onPure_none onImpl_some onImpl_none stepC onGP_some onGP_none onGV_some condG mkG onIt_it nextP_ptr takeP_eq takeV_some takeV_none takeU_some takeU_none takeQ takeW_some takeN_none takeN_some takeG_some takeO_some altO_some pureV binV2 eqF eqOp ovlV ovl2 rowAt capV binV intBin strBin isSh shV fldV ixV sliceV slice3V loadAV nilV lenV callV unV convV viewS cellsH loadV fldCut AV.ung AV.ungs AV.gc AV.cells AS.ev AS.put anyS gcsV gcO lens lnO gV guardV retK RetP_eq resV oneV anyRo loIx hiIx implO callP_clo evL gcsL clearV storeAV AS.push AS.setO appV appZ shortS copyV buildV partsV fillV srcV fzO okV isCell_c isCell_ptr isCell_sl isCell_fs isCell_fp isCell_clo rowZ_one rowZ_zero rowZ_2 rowZ_3 rowZ_4 rowZ_5 rowZ_6 rowZ_7 rowZ_8 rowZ_9 rowZ_10 rowZ_11 rowZ_12 noHo Value.oneCell' max2V min2V lookV updV updK updW cvals mkAt basV lenM msAt afterH putBack frzFrom frzO rebO backIx nilEq_sl nilEq_fs nilEq_ifn nilEq_ifh ifOp_eql ifOp_neq isLit nilOp_eql nilOp_neq AV.reb AV.rebL
attribute [local simp ↓] runK_skip runK_region runK_draw runK_seq runK_cut runK_cond runK_block runK_loop runK_exit runK_label runK_goto runK_ret runK_range contK_nil contK_seq contK_seq_ret contK_seq_exit contK_seq_goto contK_block contK_block_ret contK_block_goto contK_block_exit runO_nil runO_cons roundK_exit roundK_ret roundK_goto exitK_ret cutK_ret cutK_exit runE_done runE_nil runE_take runE_alt condG_true condG_false
set_option maxRecDepth 10000
theorem wk_sfz {E : Env} {s : AS} (i r : Nat) {e sz n m : Nat} {l : List AV} (h0 : s.t[i]? = some (.sl r sz 0 n m)) (h1 : s.h[r]? = some (.o (.row e sz) l)) (hho : E.ho = noHo) (hm : l.length = m) (hn : n * sz = m) (hx : n ≤ maxLen) (hd : l.all isD = true) : Wk E s ⟨s.t.set i (.fs sz n l), s.h.set r (.o .fz l)⟩ := by
 refine Wk.trans (wk_fz r h1 (by rw [hho]; rfl)) ?_
 have h2 : (s.h.set r (.o .fz l))[r]? = some (.o .fz l) := List.getElem?_set_self (List.getElem?_eq_some_iff.1 h1).1
 have e1 : (l.drop 0).take (n * sz) = l := by rw [List.drop_zero, List.take_of_length_le (by omega)]
 refine wk_slot i h0 fun G F w v hh hv => ?_
 have := fz_fs (off := 0) h2 hm (by omega) hx (by rw [e1]; exact hd) hh hv
 rw [e1] at this
 exact this
structure OneB (t : TabS) (m : MovS) : Prop where
 lc : t.cols.length ≤ 1000
 lx : t.idxs.length ≤ 1000
 xc : ∀ x ∈ t.idxs, x.cols.length ≤ 1000
 cs : ∀ c ∈ t.cols, -100000 ≤ c.st ∧ c.st ≤ 100000
 xs : ∀ c ∈ t.idxs, -100000 ≤ c.st ∧ c.st ≤ 100000
theorem near_or {a b : Int} : nearB a b = true ↔ b = a + 1 ∨ b = a - 1 := by simp [nearB]
theorem tabs_setx (l : List TabS) (i : Nat) (t t2 : TabS) (hi : i < l.length) (ht : l[i] = t) (h : t2 = { t with idxs := t2.idxs }) : (tabsA l).set (i * 4 + 3) (.fs 5 t2.idxs.length (idxsA t2.idxs)) = tabsA (l.set i t2) := by
 subst ht
 have e1 : l = l.take i ++ l[i] :: l.drop (i + 1) := by rw [List.getElem_cons_drop]; exact (List.take_append_drop i l).symm
 have hl : (l.take i).length = i := by rw [List.length_take]; omega
 have e2 : l.set i t2 = l.take i ++ t2 :: l.drop (i + 1) := by rw [List.set_eq_take_append_cons_drop, if_pos hi]
 rw [e2]
 conv => lhs; rw [e1]
 rw [tabsA_app, tabsA_app, List.set_append_right _ _ (by simp [hl]), tabsA_length, hl, Nat.add_sub_cancel_left]
 congr 1
 have e3 : ∀ (x : TabS) (r : List TabS), tabsA (x :: r) = tabA x ++ tabsA r := fun x r => List.flatMap_cons ..
 rw [e3, e3, List.set_append_left _ _ (by simp [tabA])]
 congr 1
 rw [h]; rfl
theorem tabs_setc (l : List TabS) (i : Nat) (t t2 : TabS) (hi : i < l.length) (ht : l[i] = t) (h : t2 = { t with cols := t2.cols }) : (tabsA l).set (i * 4 + 2) (.fs 10 t2.cols.length (colsA t2.cols)) = tabsA (l.set i t2) := by
 subst ht
 have e1 : l = l.take i ++ l[i] :: l.drop (i + 1) := by rw [List.getElem_cons_drop]; exact (List.take_append_drop i l).symm
 have hl : (l.take i).length = i := by rw [List.length_take]; omega
 have e2 : l.set i t2 = l.take i ++ t2 :: l.drop (i + 1) := by rw [List.set_eq_take_append_cons_drop, if_pos hi]
 rw [e2]
 conv => lhs; rw [e1]
 rw [tabsA_app, tabsA_app, List.set_append_right _ _ (by simp [hl]), tabsA_length, hl, Nat.add_sub_cancel_left]
 congr 1
 have e3 : ∀ (x : TabS) (r : List TabS), tabsA (x :: r) = tabA x ++ tabsA r := fun x r => List.flatMap_cons ..
 rw [e3, e3, List.set_append_left _ _ (by simp [tabA])]
 congr 1
 rw [h]; rfl
def donex (m : MovS) (l : List IdxS) : List IdxS := l.filterMap (upX m)
def ex (m : MovS) (l : List IdxS) : Int := if l.any (fun x => decide (x.id = m.id)) = true then 0 else 100
theorem donex_len (m : MovS) (l : List IdxS) : (donex m l).length ≤ l.length := List.length_filterMap_le ..
theorem donex_snoc (m : MovS) (l : List IdxS) (x : IdxS) : donex m (l ++ [x]) = donex m l ++ (donex m [x]) := by simp [donex]
theorem ex_snoc (m : MovS) (l : List IdxS) (x : IdxS) : ex m (l ++ [x]) = if x.id = m.id then 0 else ex m l := by
 unfold ex
 by_cases h : x.id = m.id <;> simp [h]
def badx (m : MovS) (l : List IdxS) : Bool := l.any (fun x => decide (x.id = m.id) && !nearB x.st m.dst)
def oxSt (ts : List TabS) (i : Nat) (t : TabS) (m : MovS) (j : Nat) : AS := ⟨slotsOf 129 [(0, .ptr 0 (i * 4) (ts.length * 4)), (3, .ptr 1 0 4), (5, .sl 2 5 0 (donex m (t.idxs.take j)).length ((donex m (t.idxs.take j)).length * 5)), (6, .c (.int .i64 (ex m (t.idxs.take j)))), (22, .fs 5 t.idxs.length (idxsA t.idxs)), (23, .c (.int .i64 (t.idxs.length : Nat))), (24, .c (.int .i64 (j : Nat)))],
 [.o (.row 28 4) (tabsA ts), .o .box (movA m), .o (.row 49 5) (idxsA (donex m (t.idxs.take j)))]⟩
def oxEnd (ts : List TabS) (i : Nat) (t : TabS) (m : MovS) : AS := ⟨slotsOf 129 [(0, .ptr 0 (i * 4) (ts.length * 4)), (5, .fs 5 (donex m t.idxs).length (idxsA (donex m t.idxs))), (6, .c (.int .i64 (ex m t.idxs)))], [.o (.row 28 4) (tabsA ts), .o .box (movA m)]⟩
set_option maxHeartbeats 8000000 in
theorem onex_w (ts : List TabS) (i : Nat) (hi : i < ts.length) (m : MovS) (hix : m.ix = true) (hb : OneB ts[i] m) (hl : ts.length ≤ 1000) : ACalls Tryz.prog 49 [.ptr 0 (i * 4) (ts.length * 4), .agg (movA m)] [.o (.row 28 4) (tabsA ts)] (fun k => decide (k < 1)) (fun r h' => r = .c (.int .i64 (mvR ts[i] m).2) ∧ h' = [.o (.row 28 4) (tabsA (ts.set i (mvR ts[i] m).1))]) := by
 refine acalls mixed Tryz.func49 rfl Tryz.ntmps49 rfl fun E hE hst hho => ?_
 obtain ⟨t, ht⟩ : ∃ t, t = ts[i] := ⟨_, rfl⟩
 rw [← ht] at hb ⊢
 obtain ⟨Q, hQ⟩ : ∃ Q, Q = mvR t m := ⟨_, rfl⟩
 rw [← hQ]
 have hlf := hb.lx
 have hma : movA m = [.c (.int .i64 m.tab), .c (.bool true), .c (.int .i64 m.id), .c (.int .i64 m.dst)] := by rw [← hix]; rfl
 have hoa : ∀ k, k < 4 → (tabsA ts)[i * 4 + k]? = (tabA t)[k]? := fun k hk => by
  have h := tabsA_at ts i hi
  rw [← ht] at h
  rw [← h, List.getElem?_take_of_lt hk, List.getElem?_drop]
 have p2 : (tabsA ts)[i * 4 + 2]? = some (.fs 10 t.cols.length (colsA t.cols)) := hoa 2 (by omega)
 have p3 : (tabsA ts)[i * 4 + 3]? = some (.fs 5 t.idxs.length (idxsA t.idxs)) := hoa 3 (by omega)
 have kp2 := fun h => gq p2 h
 have kp3 := fun h => gq p3 h
 have i2 : i * 4 + 2 < ts.length * 4 := by omega
 have i3 : i * 4 + 3 < ts.length * 4 := by omega
 have j2 : i * 4 + 2 + 1 ≤ ts.length * 4 := by omega
 have j3 : i * 4 + 3 + 1 ≤ ts.length * 4 := by omega
 have hset : ts.set i t = ts := by rw [ht]; exact List.set_getElem_self hi
 simp (maxSteps := 1000000) [hho, noHo, hma, p3, kp3, i3, -List.reduceReplicate]
 refine ⟨by omega, ?_⟩
 refine loop_k2 mixed (oxSt ts i t m) (fun j => t.idxs.length - j) (fun j => j ≤ t.idxs.length ∧ badx m (t.idxs.take j) = false) 0 (fun _ : Unit => oxEnd ts i t m) (fun _ => badx m t.idxs = false) 0 ⟨Nat.zero_le _, by rfl⟩ ?_ ?_ ?_
 ·refine Wk.trans (wk_virt 5 49 5 rfl) ?_
  exact wk_eq (by simp [hE, lens]) (by simp [oxSt, donex, idxsA, hma]) (by simp [livH, livO, AV.livL, AV.liv, wkL, wkV, List.range', oxSt, slotsOf, donex, ex])
 ·intro _ hno
  have hno : t.idxs.any (fun x => decide (x.id = m.id) && !nearB x.st m.dst) = false := hno
  have hQ2 : Q = ({ t with idxs := donex m t.idxs }, ex m t.idxs) := by
   rw [hQ]; unfold mvR
   rw [if_pos hix, if_neg (by rw [hno]; decide)]
   rfl
  obtain ⟨D, hD⟩ : ∃ D, D = donex m t.idxs := ⟨_, rfl⟩
  obtain ⟨e, he⟩ : ∃ e, e = ex m t.idxs := ⟨_, rfl⟩
  simp only [oxEnd]
  rw [← hD, ← he]
  rw [← hD, ← he] at hQ2
  have hts := tabs_setx ts i t { t with idxs := D } hi ht.symm rfl
  simp only at hts
  simp (maxSteps := 1000000) [hho, noHo, slotsOf, i3, j3, -List.reduceReplicate]
  rw [set_split _ _ _ (by simp; omega), hts, hQ2]
  refine Ret.sel [0] (fun _ => false) (ho := by rfl) (ha := by rfl) ?_ ?_ (by decide) (by simp) (fun k _ h => ?_) ⟨rfl, rfl⟩
  ·exact ⟨List.all_eq_true.2 ((tabsA_all _).2 trivial), trivial⟩
  ·simp
  ·have e : k = 0 := by have := of_decide_eq_true h; omega
   subst e; rfl
 rintro j ⟨hj, hno⟩
 have hno : (t.idxs.take j).any (fun x => decide (x.id = m.id) && !nearB x.st m.dst) = false := hno
 by_cases hjl : j < t.idxs.length
 ·obtain ⟨x, hx⟩ : ∃ x, x = t.idxs[j] := ⟨_, rfl⟩
  have hat := idxsA_at t.idxs j hjl
  rw [← hx] at hat
  have htk : t.idxs.take (j + 1) = t.idxs.take j ++ [x] := by rw [hx]; exact take_snoc _ _ hjl
  have hxs := hb.xs x (by rw [hx]; exact List.getElem_mem hjl)
  have ew : IntKind.i64.wrap ((j : Int) + 1) = (j + 1 : Nat) := by rw [IntWalk.i64_in _ (by omega)]; rfl
  have e0 : j * 5 + 5 ≤ t.idxs.length * 5 := by omega
  have w1 : IntKind.i64.wrap (x.st + 1) = x.st + 1 := IntWalk.i64_in _ (by omega)
  have w2 : IntKind.i64.wrap (x.st - 1) = x.st - 1 := IntWalk.i64_in _ (by omega)
  have hdl := donex_len m (t.idxs.take j)
  have hdl2 : (donex m (t.idxs.take j)).length ≤ 1000 := by simp at hdl; omega
  have hds := donex_snoc m (t.idxs.take j) x
  have hes := ex_snoc m (t.idxs.take j) x
  rw [← htk] at hds hes
  have hno2 : (t.idxs.take (j + 1)).any (fun x => decide (x.id = m.id) && !nearB x.st m.dst) = (decide (x.id = m.id) && !nearB x.st m.dst) := by
   rw [htk, List.any_append, hno]; simp
  obtain ⟨D, hD⟩ : ∃ D, D = donex m (t.idxs.take j) := ⟨_, rfl⟩
  obtain ⟨e, he⟩ : ∃ e, e = ex m (t.idxs.take j) := ⟨_, rfl⟩
  have hDl : D.length ≤ 2199023255551 := by rw [hD]; omega
  have hDm : D.length ≤ 1000 := by rw [hD]; exact hdl2
  simp only [oxSt]
  rw [← hD, ← he]
  rw [← hD] at hds
  rw [← he] at hes
  have hxa : idxA x = [.c (.int .i64 x.id), .c (.string x.name), .fs 1 x.cols.length (intsA x.cols), .c (.bool x.uniq), .c (.int .i64 x.st)] := rfl
  by_cases hid : x.id = m.id
  ·rw [if_pos hid] at hes
   by_cases hn : nearB x.st m.dst = true
   ·have hno3 : (t.idxs.take (j + 1)).any (fun x => decide (x.id = m.id) && !nearB x.st m.dst) = false := by rw [hno2, hn]; simp
    have q1 : (m.dst = x.st + 1 ∨ m.dst = x.st - 1) := near_or.1 hn
    by_cases h0 : m.dst = 0
    ·have hx1 : donex m [x] = [] := by simp [donex, upX, hid, h0]
     rw [hx1, List.append_nil] at hds
     have q0 : (m.dst = 0) = True := eq_true h0
     rcases q1 with q1 | q1
     ·have q2 : (m.dst = x.st + 1) = True := eq_true q1
      simp (maxSteps := 1000000) [hho, noHo, slotsOf, hjl, hat, e0, hma, hxa, hid, w1, w2, q2, q0, -List.reduceReplicate]
      refine round_next (j + 1) ⟨by omega, hno3⟩ (by omega) ?_
      refine wk_of 3 1 rfl (by rw [hE]; simp) (by simp [oxSt, hds, hma]) (by simp [livH, livO, AV.livL, AV.liv, wkL, wkV, List.range', oxSt, hma]) (by simp [livH, livO, AV.livL, AV.liv, wkL, wkV, List.range', oxSt, slotsOf, hds, hes, ew])
     ·have q2 : (m.dst = x.st + 1) = False := eq_false (by omega)
      have q3 : (m.dst = x.st - 1) = True := eq_true q1
      simp (maxSteps := 1000000) [hho, noHo, slotsOf, hjl, hat, e0, hma, hxa, hid, w1, w2, q2, q3, q0, -List.reduceReplicate]
      refine round_next (j + 1) ⟨by omega, hno3⟩ (by omega) ?_
      refine wk_of 3 1 rfl (by rw [hE]; simp) (by simp [oxSt, hds, hma]) (by simp [livH, livO, AV.livL, AV.liv, wkL, wkV, List.range', oxSt, hma]) (by simp [livH, livO, AV.livL, AV.liv, wkL, wkV, List.range', oxSt, slotsOf, hds, hes, ew])
    ·have hx1 : donex m [x] = [{ x with st := m.dst }] := by simp [donex, upX, hid, h0]
     rw [hx1] at hds
     have q0 : (m.dst = 0) = False := eq_false h0
     rcases q1 with q1 | q1
     ·have q2 : (m.dst = x.st + 1) = True := eq_true q1
      simp (maxSteps := 1000000) [hho, noHo, slotsOf, hjl, hat, e0, hma, hxa, hid, w1, w2, q2, q0, -List.reduceReplicate]
      refine ⟨by omega, ?_⟩
      refine round_next (j + 1) ⟨by omega, hno3⟩ (by omega) ?_
      refine wk_of 3 2 rfl (by rw [hE]; simp) (by simp [oxSt, hds, hma, idxsA_app, idxsA_one, idxA, hid]) (by simp [livH, livO, AV.livL, AV.liv, wkL, wkV, List.range', oxSt, hma]) (by simp [livH, livO, AV.livL, AV.liv, wkL, wkV, List.range', oxSt, slotsOf, hds, hes, ew, Nat.add_mul])
     ·have q2 : (m.dst = x.st + 1) = False := eq_false (by omega)
      have q3 : (m.dst = x.st - 1) = True := eq_true q1
      simp (maxSteps := 1000000) [hho, noHo, slotsOf, hjl, hat, e0, hma, hxa, hid, w1, w2, q2, q3, q0, -List.reduceReplicate]
      refine ⟨by omega, ?_⟩
      refine round_next (j + 1) ⟨by omega, hno3⟩ (by omega) ?_
      refine wk_of 3 2 rfl (by rw [hE]; simp) (by simp [oxSt, hds, hma, idxsA_app, idxsA_one, idxA, hid]) (by simp [livH, livO, AV.livL, AV.liv, wkL, wkV, List.range', oxSt, hma]) (by simp [livH, livO, AV.livL, AV.liv, wkL, wkV, List.range', oxSt, slotsOf, hds, hes, ew, Nat.add_mul])
   ·have hn' : nearB x.st m.dst = false := by simpa using hn
    have hno3 : t.idxs.any (fun x => decide (x.id = m.id) && !nearB x.st m.dst) = true := List.any_eq_true.2 ⟨x, by rw [hx]; exact List.getElem_mem hjl, by simp [hid, hn']⟩
    have hQ2 : Q = (t, 122) := by
     rw [hQ]; unfold mvR
     rw [if_pos hix, if_pos hno3]
    have q1 : ¬ (m.dst = x.st + 1 ∨ m.dst = x.st - 1) := fun h => hn (near_or.2 h)
    have q2 : (m.dst = x.st + 1) = False := eq_false fun h => q1 (.inl h)
    have q3 : (m.dst = x.st - 1) = False := eq_false fun h => q1 (.inr h)
    simp (maxSteps := 1000000) [hho, noHo, slotsOf, hjl, hat, e0, hma, hxa, hid, w1, w2, q2, q3, -List.reduceReplicate]
    rw [hQ2]
    simp only [hset]
    refine Ret.sel [0] (fun _ => false) (ho := by rfl) (ha := by rfl) ?_ ?_ (by decide) (by simp) (fun k _ h => ?_) ⟨rfl, rfl⟩
    ·exact ⟨List.all_eq_true.2 ((tabsA_all _).2 trivial), trivial⟩
    ·simp
    ·have e : k = 0 := by have := of_decide_eq_true h; omega
     subst e; rfl
  ·rw [if_neg hid] at hes
   have hno3 : (t.idxs.take (j + 1)).any (fun x => decide (x.id = m.id) && !nearB x.st m.dst) = false := by rw [hno2]; simp [hid]
   by_cases h0 : x.st = 0
   ·have hx1 : donex m [x] = [] := by simp [donex, upX, hid, h0]
    rw [hx1, List.append_nil] at hds
    have q0 : (x.st = 0) = True := eq_true h0
    simp (maxSteps := 1000000) [hho, noHo, slotsOf, hjl, hat, e0, hma, hxa, hid, q0, -List.reduceReplicate]
    refine round_next (j + 1) ⟨by omega, hno3⟩ (by omega) ?_
    refine wk_of 3 1 rfl (by rw [hE]; simp) (by simp [oxSt, hds, hma]) (by simp [livH, livO, AV.livL, AV.liv, wkL, wkV, List.range', oxSt, hma]) (by simp [livH, livO, AV.livL, AV.liv, wkL, wkV, List.range', oxSt, slotsOf, hds, hes, ew])
   ·have hx1 : donex m [x] = [x] := by simp [donex, upX, hid, h0]
    rw [hx1] at hds
    have q0 : (x.st = 0) = False := eq_false h0
    simp (maxSteps := 1000000) [hho, noHo, slotsOf, hjl, hat, e0, hma, hxa, hid, q0, -List.reduceReplicate]
    refine ⟨by omega, ?_⟩
    refine round_next (j + 1) ⟨by omega, hno3⟩ (by omega) ?_
    refine wk_of 3 2 rfl (by rw [hE]; simp) (by simp [oxSt, hds, hma, idxsA_app, idxsA_one, hxa]) (by simp [livH, livO, AV.livL, AV.liv, wkL, wkV, List.range', oxSt, hma]) (by simp [livH, livO, AV.livL, AV.liv, wkL, wkV, List.range', oxSt, slotsOf, hds, hes, ew, Nat.add_mul])
 ·obtain rfl : j = t.idxs.length := by omega
  simp only [oxSt]
  rw [List.take_length] at hno ⊢
  have hdl := donex_len m t.idxs
  obtain ⟨D, hD⟩ : ∃ D, D = donex m t.idxs := ⟨_, rfl⟩
  rw [← hD] at hdl ⊢
  simp (maxSteps := 1000000) [hho, noHo, slotsOf, -List.reduceReplicate]
  refine exit_to () hno ?_
  refine Wk.trans (wk_sfz 5 2 (sz := 5) (n := D.length) (m := D.length * 5) (l := idxsA D) rfl rfl hho (by simp) rfl (by unfold maxLen; omega) (List.all_eq_true.2 ((idxsA_all _).2 trivial))) ?_
  exact wk_of 2 1 rfl (by rw [hE]; simp) (by simp [oxEnd, hma]) (by simp [livH, livO, AV.livL, AV.liv, wkL, wkV, List.range', oxEnd, hma]) (by simp [livH, livO, AV.livL, AV.liv, wkL, wkV, List.range', oxEnd, slotsOf, ← hD])
def badh (m : MovS) (l : List IdxS) : Bool := l.any fun x => memI x.cols m.id
def ohSt (ts : List TabS) (i : Nat) (t : TabS) (m : MovS) (j : Nat) : AS := ⟨slotsOf 129 [(0, .ptr 0 (i * 4) (ts.length * 4)), (3, .ptr 1 0 4), (66, .fs 5 t.idxs.length (idxsA t.idxs)), (67, .c (.int .i64 (t.idxs.length : Nat))), (68, .c (.int .i64 (j : Nat)))], [.o (.row 28 4) (tabsA ts), .o .box (movA m)]⟩
def ohEnd (ts : List TabS) (i : Nat) (t : TabS) (m : MovS) : AS := ⟨slotsOf 129 [(0, .ptr 0 (i * 4) (ts.length * 4)), (3, .ptr 1 0 4)], [.o (.row 28 4) (tabsA ts), .o .box (movA m)]⟩
def oiSt (ts : List TabS) (i : Nat) (t : TabS) (m : MovS) (x : IdxS) (j k : Nat) : AS := ⟨slotsOf 129 [(0, .ptr 0 (i * 4) (ts.length * 4)), (3, .ptr 1 0 4), (66, .fs 5 t.idxs.length (idxsA t.idxs)), (67, .c (.int .i64 (t.idxs.length : Nat))), (68, .c (.int .i64 (j : Nat))), (73, .fs 1 x.cols.length (intsA x.cols)), (74, .c (.int .i64 (x.cols.length : Nat))), (75, .c (.int .i64 (k : Nat)))], [.o (.row 28 4) (tabsA ts), .o .box (movA m), .o .box (idxA x)]⟩
def donec (m : MovS) (l : List ColS) : List ColS := l.filterMap (upC m)
def ec (m : MovS) (l : List ColS) : Int := if l.any (fun x => decide (x.id = m.id)) = true then 0 else 100
theorem donec_len (m : MovS) (l : List ColS) : (donec m l).length ≤ l.length := List.length_filterMap_le ..
theorem donec_snoc (m : MovS) (l : List ColS) (x : ColS) : donec m (l ++ [x]) = donec m l ++ (donec m [x]) := by simp [donec]
theorem ec_snoc (m : MovS) (l : List ColS) (x : ColS) : ec m (l ++ [x]) = if x.id = m.id then 0 else ec m l := by
 unfold ec
 by_cases h : x.id = m.id <;> simp [h]
def badc (m : MovS) (l : List ColS) : Bool := l.any (fun x => decide (x.id = m.id) && !nearB x.st m.dst)
def ocSt (ts : List TabS) (i : Nat) (t : TabS) (m : MovS) (j : Nat) : AS := ⟨slotsOf 129 [(0, .ptr 0 (i * 4) (ts.length * 4)), (3, .ptr 1 0 4), (13, .sl 2 10 0 (donec m (t.cols.take j)).length ((donec m (t.cols.take j)).length * 10)), (14, .c (.int .i64 (ec m (t.cols.take j)))), (88, .fs 10 t.cols.length (colsA t.cols)), (89, .c (.int .i64 (t.cols.length : Nat))), (90, .c (.int .i64 (j : Nat)))],
 [.o (.row 28 4) (tabsA ts), .o .box (movA m), .o (.row 44 10) (colsA (donec m (t.cols.take j)))]⟩
def ocEnd (ts : List TabS) (i : Nat) (t : TabS) (m : MovS) : AS := ⟨slotsOf 129 [(0, .ptr 0 (i * 4) (ts.length * 4)), (13, .fs 10 (donec m t.cols).length (colsA (donec m t.cols))), (14, .c (.int .i64 (ec m t.cols)))], [.o (.row 28 4) (tabsA ts), .o .box (movA m)]⟩
set_option maxHeartbeats 8000000 in
theorem onec_w (ts : List TabS) (i : Nat) (hi : i < ts.length) (m : MovS) (hix : m.ix = false) (hb : OneB ts[i] m) (hl : ts.length ≤ 1000) : ACalls Tryz.prog 49 [.ptr 0 (i * 4) (ts.length * 4), .agg (movA m)] [.o (.row 28 4) (tabsA ts)] (fun k => decide (k < 1)) (fun r h' => r = .c (.int .i64 (mvR ts[i] m).2) ∧ h' = [.o (.row 28 4) (tabsA (ts.set i (mvR ts[i] m).1))]) := by
 refine acalls mixed Tryz.func49 rfl Tryz.ntmps49 rfl fun E hE hst hho => ?_
 obtain ⟨t, ht⟩ : ∃ t, t = ts[i] := ⟨_, rfl⟩
 rw [← ht] at hb ⊢
 obtain ⟨Q, hQ⟩ : ∃ Q, Q = mvR t m := ⟨_, rfl⟩
 rw [← hQ]
 have hlf := hb.lc
 have hma : movA m = [.c (.int .i64 m.tab), .c (.bool false), .c (.int .i64 m.id), .c (.int .i64 m.dst)] := by rw [← hix]; rfl
 have hoa : ∀ k, k < 4 → (tabsA ts)[i * 4 + k]? = (tabA t)[k]? := fun k hk => by
  have h := tabsA_at ts i hi
  rw [← ht] at h
  rw [← h, List.getElem?_take_of_lt hk, List.getElem?_drop]
 have p2 : (tabsA ts)[i * 4 + 2]? = some (.fs 10 t.cols.length (colsA t.cols)) := hoa 2 (by omega)
 have p3 : (tabsA ts)[i * 4 + 3]? = some (.fs 5 t.idxs.length (idxsA t.idxs)) := hoa 3 (by omega)
 have kp2 := fun h => gq p2 h
 have kp3 := fun h => gq p3 h
 have i2 : i * 4 + 2 < ts.length * 4 := by omega
 have i3 : i * 4 + 3 < ts.length * 4 := by omega
 have j2 : i * 4 + 2 + 1 ≤ ts.length * 4 := by omega
 have j3 : i * 4 + 3 + 1 ≤ ts.length * 4 := by omega
 have hset : ts.set i t = ts := by rw [ht]; exact List.set_getElem_self hi
 simp (maxSteps := 1000000) [hho, noHo, hma, p3, kp3, i3, -List.reduceReplicate]
 refine ⟨by omega, ?_⟩
 refine loop_k2 mixed (ohSt ts i t m) (fun j => t.idxs.length - j) (fun j => j ≤ t.idxs.length ∧ badh m (t.idxs.take j) = false) 0 (fun _ : Unit => ohEnd ts i t m) (fun _ => heldB t m.id = false) 2 ⟨Nat.zero_le _, by rfl⟩ ?_ ?_ ?_
 ·exact wk_eq (by simp [hE, lens]) (by simp [ohSt, hma]) (by simp [livH, livO, AV.livL, AV.liv, wkL, wkV, List.range', ohSt, slotsOf])
 rotate_left
 ·rintro j ⟨hj, hno⟩
  have hno : (t.idxs.take j).any (fun x => memI x.cols m.id) = false := hno
  simp only [ohSt]
  by_cases hjl : j < t.idxs.length
  ·obtain ⟨x, hx⟩ : ∃ x, x = t.idxs[j] := ⟨_, rfl⟩
   have hat := idxsA_at t.idxs j hjl
   rw [← hx] at hat
   have hxm : x ∈ t.idxs := by rw [hx]; exact List.getElem_mem hjl
   have htk : t.idxs.take (j + 1) = t.idxs.take j ++ [x] := by rw [hx]; exact take_snoc _ _ hjl
   have ew : IntKind.i64.wrap ((j : Int) + 1) = (j + 1 : Nat) := by rw [IntWalk.i64_in _ (by have := hb.lx; omega)]; rfl
   have e0 : j * 5 + 5 ≤ t.idxs.length * 5 := by omega
   have hxc := hb.xc x hxm
   simp (maxSteps := 1000000) [hho, noHo, slotsOf, hjl, hat, e0, hma, idxA, -List.reduceReplicate]
   refine loop_k mixed (oiSt ts i t m x j) (fun k => x.cols.length - k) (fun k => k ≤ x.cols.length ∧ memI (x.cols.take k) m.id = false) 0 ⟨Nat.zero_le _, by rfl⟩ ?_ ?_
   ·exact wk_eq (by simp [hE, lens]) (by simp [oiSt, hma, idxA]) (by simp [livH, livO, AV.livL, AV.liv, wkL, wkV, List.range', oiSt, slotsOf])
   rintro k ⟨hk, hm⟩
   simp only [oiSt]
   by_cases hkl : k < x.cols.length
   ·have hat2 := intsA_get x.cols k hkl
    obtain ⟨c, hc⟩ : ∃ c, c = x.cols[k] := ⟨_, rfl⟩
    rw [← hc] at hat2
    have htk2 : x.cols.take (k + 1) = x.cols.take k ++ [c] := by rw [hc]; exact take_snoc _ _ hkl
    have ew2 : IntKind.i64.wrap ((k : Int) + 1) = (k + 1 : Nat) := by rw [IntWalk.i64_in _ (by omega)]; rfl
    by_cases hcm : c = m.id
    ·have hheld : heldB t m.id = true := List.any_eq_true.2 ⟨x, hxm, List.any_eq_true.2 ⟨c, by rw [hc]; exact List.getElem_mem hkl, by simp [hcm]⟩⟩
     have hQ2 : Q = (t, 122) := by
      rw [hQ]; unfold mvR
      rw [if_neg (by rw [hix]; decide), if_pos hheld]
     simp (maxSteps := 1000000) [hho, noHo, slotsOf, hkl, hat2, hma, hcm, -List.reduceReplicate]
     refine ⟨by omega, ?_⟩
     rw [hQ2]
     simp only [hset]
     refine Ret.sel [0] (fun _ => false) (ho := by rfl) (ha := by rfl) ?_ ?_ (by decide) (by simp) (fun k _ h => ?_) ⟨rfl, rfl⟩
     ·exact ⟨List.all_eq_true.2 ((tabsA_all _).2 trivial), trivial⟩
     ·simp
     ·have e : k = 0 := by have := of_decide_eq_true h; omega
      subst e; rfl
    ·simp (maxSteps := 1000000) [hho, noHo, slotsOf, hkl, hat2, hma, hcm, -List.reduceReplicate]
     refine ⟨by omega, ?_⟩
     refine round_next (k + 1) ⟨by omega, ?_⟩ (by omega) ?_
     ·rw [htk2]
      have hcm2 : ¬ m.id = c := fun h => hcm h.symm
      unfold memI at hm ⊢
      rw [List.any_append, hm]; simp [hcm2]
     ·exact wk_of 3 0 rfl (by rw [hE]; simp) (by simp [oiSt, hma]) (by simp [livH, livO, AV.livL, AV.liv, wkL, wkV, List.range', oiSt, hma, idxA]) (by simp [livH, livO, AV.livL, AV.liv, wkL, wkV, List.range', oiSt, slotsOf, ew2])
   ·obtain rfl : k = x.cols.length := by omega
    rw [List.take_length] at hm
    simp (maxSteps := 1000000) [hho, noHo, slotsOf, -List.reduceReplicate]
    refine round_next (j + 1) ⟨by omega, ?_⟩ (by omega) ?_
    ·unfold badh; rw [htk, List.any_append, hno]; simp [hm]
    ·exact wk_of 2 1 rfl (by rw [hE]; simp) (by simp [ohSt, hma]) (by simp [livH, livO, AV.livL, AV.liv, wkL, wkV, List.range', ohSt, hma]) (by simp [livH, livO, AV.livL, AV.liv, wkL, wkV, List.range', ohSt, slotsOf, ew])
  ·obtain rfl : j = t.idxs.length := by omega
   rw [List.take_length] at hno
   simp (maxSteps := 1000000) [hho, noHo, slotsOf, -List.reduceReplicate]
   refine exit_to () hno ?_
   exact wk_of 2 0 rfl (by rw [hE]; simp) (by simp [ohEnd, hma]) (by simp [livH, livO, AV.livL, AV.liv, wkL, wkV, List.range', ohEnd, hma]) (by simp [livH, livO, AV.livL, AV.liv, wkL, wkV, List.range', ohEnd, slotsOf])
 intro _ hheld
 simp only [ohEnd]
 simp (maxSteps := 1000000) [hho, noHo, slotsOf, hma, p2, kp2, i2, -List.reduceReplicate]
 refine ⟨by omega, ?_⟩
 refine loop_k2 mixed (ocSt ts i t m) (fun j => t.cols.length - j) (fun j => j ≤ t.cols.length ∧ badc m (t.cols.take j) = false) 0 (fun _ : Unit => ocEnd ts i t m) (fun _ => badc m t.cols = false) 6 ⟨Nat.zero_le _, by rfl⟩ ?_ ?_ ?_
 ·refine Wk.trans (wk_virt 13 44 10 rfl) ?_
  exact wk_eq (by simp [hE, lens]) (by simp [ocSt, donec, colsA, hma]) (by simp [livH, livO, AV.livL, AV.liv, wkL, wkV, List.range', ocSt, slotsOf, donec, ec])
 ·intro _ hno
  have hno : t.cols.any (fun x => decide (x.id = m.id) && !nearB x.st m.dst) = false := hno
  have hQ2 : Q = ({ t with cols := donec m t.cols }, ec m t.cols) := by
   rw [hQ]; unfold mvR
   rw [if_neg (by rw [hix]; decide), if_neg (by rw [hheld]; decide), if_neg (by rw [hno]; decide)]
   rfl
  obtain ⟨D, hD⟩ : ∃ D, D = donec m t.cols := ⟨_, rfl⟩
  obtain ⟨e, he⟩ : ∃ e, e = ec m t.cols := ⟨_, rfl⟩
  simp only [ocEnd]
  rw [← hD, ← he]
  rw [← hD, ← he] at hQ2
  have hts := tabs_setc ts i t { t with cols := D } hi ht.symm rfl
  simp only at hts
  simp (maxSteps := 1000000) [hho, noHo, slotsOf, i2, j2, -List.reduceReplicate]
  rw [set_split _ _ _ (by simp; omega), hts, hQ2]
  refine Ret.sel [0] (fun _ => false) (ho := by rfl) (ha := by rfl) ?_ ?_ (by decide) (by simp) (fun k _ h => ?_) ⟨rfl, rfl⟩
  ·exact ⟨List.all_eq_true.2 ((tabsA_all _).2 trivial), trivial⟩
  ·simp
  ·have e : k = 0 := by have := of_decide_eq_true h; omega
   subst e; rfl
 rintro j ⟨hj, hno⟩
 have hno : (t.cols.take j).any (fun x => decide (x.id = m.id) && !nearB x.st m.dst) = false := hno
 by_cases hjl : j < t.cols.length
 ·obtain ⟨x, hx⟩ : ∃ x, x = t.cols[j] := ⟨_, rfl⟩
  have hat := colsA_at t.cols j hjl
  rw [← hx] at hat
  have htk : t.cols.take (j + 1) = t.cols.take j ++ [x] := by rw [hx]; exact take_snoc _ _ hjl
  have hxs := hb.cs x (by rw [hx]; exact List.getElem_mem hjl)
  have ew : IntKind.i64.wrap ((j : Int) + 1) = (j + 1 : Nat) := by rw [IntWalk.i64_in _ (by omega)]; rfl
  have e0 : j * 10 + 10 ≤ t.cols.length * 10 := by omega
  have w1 : IntKind.i64.wrap (x.st + 1) = x.st + 1 := IntWalk.i64_in _ (by omega)
  have w2 : IntKind.i64.wrap (x.st - 1) = x.st - 1 := IntWalk.i64_in _ (by omega)
  have hdl := donec_len m (t.cols.take j)
  have hdl2 : (donec m (t.cols.take j)).length ≤ 1000 := by simp at hdl; omega
  have hds := donec_snoc m (t.cols.take j) x
  have hes := ec_snoc m (t.cols.take j) x
  rw [← htk] at hds hes
  have hno2 : (t.cols.take (j + 1)).any (fun x => decide (x.id = m.id) && !nearB x.st m.dst) = (decide (x.id = m.id) && !nearB x.st m.dst) := by
   rw [htk, List.any_append, hno]; simp
  obtain ⟨D, hD⟩ : ∃ D, D = donec m (t.cols.take j) := ⟨_, rfl⟩
  obtain ⟨e, he⟩ : ∃ e, e = ec m (t.cols.take j) := ⟨_, rfl⟩
  have hDl : D.length ≤ 2199023255551 := by rw [hD]; omega
  have hDm : D.length ≤ 1000 := by rw [hD]; exact hdl2
  simp only [ocSt]
  rw [← hD, ← he]
  rw [← hD] at hds
  rw [← he] at hes
  have hxa : colA x = [.c (.int .i64 x.id), .c (.string x.name), .c (.int .i64 x.ty.k), .c (.int .i64 x.ty.s), .c (.bool x.nn), .c (.int .i64 x.dft.k), .c (.int .i64 x.dft.n), .c (.int .i64 x.dft.s), .c (.string x.dft.t), .c (.int .i64 x.st)] := rfl
  by_cases hid : x.id = m.id
  ·rw [if_pos hid] at hes
   by_cases hn : nearB x.st m.dst = true
   ·have hno3 : (t.cols.take (j + 1)).any (fun x => decide (x.id = m.id) && !nearB x.st m.dst) = false := by rw [hno2, hn]; simp
    have q1 : (m.dst = x.st + 1 ∨ m.dst = x.st - 1) := near_or.1 hn
    by_cases h0 : m.dst = 0
    ·have hx1 : donec m [x] = [] := by simp [donec, upC, hid, h0]
     rw [hx1, List.append_nil] at hds
     have q0 : (m.dst = 0) = True := eq_true h0
     rcases q1 with q1 | q1
     ·have q2 : (m.dst = x.st + 1) = True := eq_true q1
      simp (maxSteps := 1000000) [hho, noHo, slotsOf, hjl, hat, e0, hma, hxa, hid, w1, w2, q2, q0, -List.reduceReplicate]
      refine round_next (j + 1) ⟨by omega, hno3⟩ (by omega) ?_
      refine wk_of 3 1 rfl (by rw [hE]; simp) (by simp [ocSt, hds, hma]) (by simp [livH, livO, AV.livL, AV.liv, wkL, wkV, List.range', ocSt, hma]) (by simp [livH, livO, AV.livL, AV.liv, wkL, wkV, List.range', ocSt, slotsOf, hds, hes, ew])
     ·have q2 : (m.dst = x.st + 1) = False := eq_false (by omega)
      have q3 : (m.dst = x.st - 1) = True := eq_true q1
      simp (maxSteps := 1000000) [hho, noHo, slotsOf, hjl, hat, e0, hma, hxa, hid, w1, w2, q2, q3, q0, -List.reduceReplicate]
      refine round_next (j + 1) ⟨by omega, hno3⟩ (by omega) ?_
      refine wk_of 3 1 rfl (by rw [hE]; simp) (by simp [ocSt, hds, hma]) (by simp [livH, livO, AV.livL, AV.liv, wkL, wkV, List.range', ocSt, hma]) (by simp [livH, livO, AV.livL, AV.liv, wkL, wkV, List.range', ocSt, slotsOf, hds, hes, ew])
    ·have hx1 : donec m [x] = [{ x with st := m.dst }] := by simp [donec, upC, hid, h0]
     rw [hx1] at hds
     have q0 : (m.dst = 0) = False := eq_false h0
     rcases q1 with q1 | q1
     ·have q2 : (m.dst = x.st + 1) = True := eq_true q1
      simp (maxSteps := 1000000) [hho, noHo, slotsOf, hjl, hat, e0, hma, hxa, hid, w1, w2, q2, q0, -List.reduceReplicate]
      refine ⟨by omega, ?_⟩
      refine round_next (j + 1) ⟨by omega, hno3⟩ (by omega) ?_
      refine wk_of 3 2 rfl (by rw [hE]; simp) (by simp [ocSt, hds, hma, colsA_app, colsA_one, colA, hid]) (by simp [livH, livO, AV.livL, AV.liv, wkL, wkV, List.range', ocSt, hma]) (by simp [livH, livO, AV.livL, AV.liv, wkL, wkV, List.range', ocSt, slotsOf, hds, hes, ew, Nat.add_mul])
     ·have q2 : (m.dst = x.st + 1) = False := eq_false (by omega)
      have q3 : (m.dst = x.st - 1) = True := eq_true q1
      simp (maxSteps := 1000000) [hho, noHo, slotsOf, hjl, hat, e0, hma, hxa, hid, w1, w2, q2, q3, q0, -List.reduceReplicate]
      refine ⟨by omega, ?_⟩
      refine round_next (j + 1) ⟨by omega, hno3⟩ (by omega) ?_
      refine wk_of 3 2 rfl (by rw [hE]; simp) (by simp [ocSt, hds, hma, colsA_app, colsA_one, colA, hid]) (by simp [livH, livO, AV.livL, AV.liv, wkL, wkV, List.range', ocSt, hma]) (by simp [livH, livO, AV.livL, AV.liv, wkL, wkV, List.range', ocSt, slotsOf, hds, hes, ew, Nat.add_mul])
   ·have hn' : nearB x.st m.dst = false := by simpa using hn
    have hno3 : t.cols.any (fun x => decide (x.id = m.id) && !nearB x.st m.dst) = true := List.any_eq_true.2 ⟨x, by rw [hx]; exact List.getElem_mem hjl, by simp [hid, hn']⟩
    have hQ2 : Q = (t, 122) := by
     rw [hQ]; unfold mvR
     rw [if_neg (by rw [hix]; decide), if_neg (by rw [hheld]; decide), if_pos hno3]
    have q1 : ¬ (m.dst = x.st + 1 ∨ m.dst = x.st - 1) := fun h => hn (near_or.2 h)
    have q2 : (m.dst = x.st + 1) = False := eq_false fun h => q1 (.inl h)
    have q3 : (m.dst = x.st - 1) = False := eq_false fun h => q1 (.inr h)
    simp (maxSteps := 1000000) [hho, noHo, slotsOf, hjl, hat, e0, hma, hxa, hid, w1, w2, q2, q3, -List.reduceReplicate]
    rw [hQ2]
    simp only [hset]
    refine Ret.sel [0] (fun _ => false) (ho := by rfl) (ha := by rfl) ?_ ?_ (by decide) (by simp) (fun k _ h => ?_) ⟨rfl, rfl⟩
    ·exact ⟨List.all_eq_true.2 ((tabsA_all _).2 trivial), trivial⟩
    ·simp
    ·have e : k = 0 := by have := of_decide_eq_true h; omega
     subst e; rfl
  ·rw [if_neg hid] at hes
   have hno3 : (t.cols.take (j + 1)).any (fun x => decide (x.id = m.id) && !nearB x.st m.dst) = false := by rw [hno2]; simp [hid]
   by_cases h0 : x.st = 0
   ·have hx1 : donec m [x] = [] := by simp [donec, upC, hid, h0]
    rw [hx1, List.append_nil] at hds
    have q0 : (x.st = 0) = True := eq_true h0
    simp (maxSteps := 1000000) [hho, noHo, slotsOf, hjl, hat, e0, hma, hxa, hid, q0, -List.reduceReplicate]
    refine round_next (j + 1) ⟨by omega, hno3⟩ (by omega) ?_
    refine wk_of 3 1 rfl (by rw [hE]; simp) (by simp [ocSt, hds, hma]) (by simp [livH, livO, AV.livL, AV.liv, wkL, wkV, List.range', ocSt, hma]) (by simp [livH, livO, AV.livL, AV.liv, wkL, wkV, List.range', ocSt, slotsOf, hds, hes, ew])
   ·have hx1 : donec m [x] = [x] := by simp [donec, upC, hid, h0]
    rw [hx1] at hds
    have q0 : (x.st = 0) = False := eq_false h0
    simp (maxSteps := 1000000) [hho, noHo, slotsOf, hjl, hat, e0, hma, hxa, hid, q0, -List.reduceReplicate]
    refine ⟨by omega, ?_⟩
    refine round_next (j + 1) ⟨by omega, hno3⟩ (by omega) ?_
    refine wk_of 3 2 rfl (by rw [hE]; simp) (by simp [ocSt, hds, hma, colsA_app, colsA_one, hxa]) (by simp [livH, livO, AV.livL, AV.liv, wkL, wkV, List.range', ocSt, hma]) (by simp [livH, livO, AV.livL, AV.liv, wkL, wkV, List.range', ocSt, slotsOf, hds, hes, ew, Nat.add_mul])
 ·obtain rfl : j = t.cols.length := by omega
  simp only [ocSt]
  rw [List.take_length] at hno ⊢
  have hdl := donec_len m t.cols
  obtain ⟨D, hD⟩ : ∃ D, D = donec m t.cols := ⟨_, rfl⟩
  rw [← hD] at hdl ⊢
  simp (maxSteps := 1000000) [hho, noHo, slotsOf, -List.reduceReplicate]
  refine exit_to () hno ?_
  refine Wk.trans (wk_sfz 13 2 (sz := 10) (n := D.length) (m := D.length * 10) (l := colsA D) rfl rfl hho (by simp) rfl (by unfold maxLen; omega) (List.all_eq_true.2 ((colsA_all _).2 trivial))) ?_
  exact wk_of 2 1 rfl (by rw [hE]; simp) (by simp [ocEnd, hma]) (by simp [livH, livO, AV.livL, AV.liv, wkL, wkV, List.range', ocEnd, hma]) (by simp [livH, livO, AV.livL, AV.liv, wkL, wkV, List.range', ocEnd, slotsOf, ← hD])
theorem r14one_w (ts : List TabS) (i : Nat) (hi : i < ts.length) (m : MovS) (hb : OneB ts[i] m) (hl : ts.length ≤ 1000) : ACalls Tryz.prog 49 [.ptr 0 (i * 4) (ts.length * 4), .agg (movA m)] [.o (.row 28 4) (tabsA ts)] (fun k => decide (k < 1)) (fun r h' => r = .c (.int .i64 (mvR ts[i] m).2) ∧ h' = [.o (.row 28 4) (tabsA (ts.set i (mvR ts[i] m).1))]) := by
 cases hix : m.ix with
 | true => exact onex_w ts i hi m hix hb hl
 | false => exact onec_w ts i hi m hix hb hl
end Go.Proofs.YthgoocdldnkogaaGreatDoor
