import Derived.Test.YthgoocdldnkogaaDoorMXp
import Derived.Test.YthgoocdldnkogaaDoorMV
import Derived.Test.YthgoocdldnkogaaDoorHZ2
import Derived.Test.YthgoocdldnkogaaDoorZI
namespace Go.Proofs.YthgoocdldnkogaaDoor
set_option linter.unusedVariables false
set_option linter.unusedSimpArgs false
open Go.RowKit
attribute [local simp] isCut_nil isCut_region isCut_seq isCut_block isCut_loop isCut_cond isCut_skip isCut_exit isCut_ret isCut_range swapK putK altK condK_bool pickP_bool stepP stepO onPure_some onPure_none onImpl_some onImpl_none stepC onGP_some onGP_none onGV_some condG mkG onIt_it nextP_ptr takeP_eq takeV_some takeV_none takeU_some takeU_none takeQ takeW_some takeN_none takeN_some takeG_some takeO_some altO_some pureV binV2 eqF eqOp ovlV ovl2 rowAt capV binV intBin strBin isSh shV fldV ixV sliceV slice3V loadAV nilV lenV callV unV convV viewS cellsH loadV fldCut AV.ung AV.ungs AV.gc AV.cells AS.ev AS.put anyS gcsV gcO lens lnO gV guardV retK RetP_eq resV oneV anyRo loIx hiIx implO callP_clo evL gcsL clearV storeAV AS.push AS.setO appV appZ shortS copyV buildV partsV fillV srcV fzO okV isCell_c isCell_ptr isCell_sl isCell_fs isCell_fp isCell_clo rowZ_one rowZ_zero rowZ_2 rowZ_3 rowZ_4 rowZ_5 rowZ_6 rowZ_7 rowZ_8 rowZ_9 rowZ_10 rowZ_11 rowZ_12 noHo Value.oneCell' max2V min2V lookV updV updK updW cvals mkAt basV lenM msAt afterH putBack frzFrom frzO rebO backIx nilEq_sl nilEq_fs nilEq_ifn nilEq_ifh ifOp_eql ifOp_neq isLit nilOp_eql nilOp_neq AV.reb AV.rebL
attribute [local simp ↓] runK_skip runK_region runK_draw runK_seq runK_cut runK_cond runK_block runK_loop runK_exit runK_label runK_goto runK_ret runK_range contK_nil contK_seq contK_seq_ret contK_seq_exit contK_seq_goto contK_block contK_block_ret contK_block_goto contK_block_exit runO_nil runO_cons roundK_exit roundK_ret roundK_goto exitK_ret cutK_ret cutK_exit runE_done runE_nil runE_take runE_alt condG_true condG_false
set_option maxRecDepth 10000
def rowM (Q : List MovS) : AObj := .o (.row 34 4) (movsA Q)
def lbT (l : List MovS) (B : ByteArray) (j n : Nat) : List (Nat × AV) := [(2, .ptr 0 0 3), (5, .c (.string B)), (6, .ptr 1 0 3), (8, .sl 2 4 0 n (n * 4)), (53, .fs 4 l.length (movsA l)), (54, .c (.int .i64 (l.length : Nat))), (55, .c (.int .i64 (j : Nat)))]
def lbU (s : SchS) (i : Nat) : List (Nat × AV) := [(10, .ptr 3 0 4), (63, .fs 4 s.tabs.length (tabsA s.tabs)), (64, .c (.int .i64 (s.tabs.length : Nat))), (65, .c (.int .i64 (i : Nat)))]
def lb1 (s a : SchS) (l : List MovS) (B : ByteArray) (j : Nat) : AS := ⟨slotsOf 162 (lbT l B j (backL s.tabs (l.take j)).length), [.o .box (schA s), .o .box (schA a), rowM (backL s.tabs (l.take j))]⟩
def lb2 (s a : SchS) (l : List MovS) (B : ByteArray) (j : Nat) (m : MovS) (Q : List MovS) (i : Nat) : AS := ⟨slotsOf 162 (lbT l B j (Q ++ bkT m (s.tabs.take i)).length ++ lbU s i), [.o .box (schA s), .o .box (schA a), rowM (Q ++ bkT m (s.tabs.take i)), .o .box (movA m)]⟩
def lb3 (s a : SchS) (l : List MovS) (B : ByteArray) (j : Nat) (m : MovS) (Q : List MovS) (i : Nat) (t : TabS) (k : Nat) : AS := ⟨slotsOf 162 (lbT l B j (Q ++ bkC t m (t.cols.take k)).length ++ lbU s i ++ [(12, .ptr 4 0 4), (75, .fs 10 t.cols.length (colsA t.cols)), (76, .c (.int .i64 (t.cols.length : Nat))), (77, .c (.int .i64 (k : Nat)))]), [.o .box (schA s), .o .box (schA a), rowM (Q ++ bkC t m (t.cols.take k)), .o .box (movA m), .o .box (tabA t)]⟩
def lb4 (s a : SchS) (l : List MovS) (B : ByteArray) (j : Nat) (m : MovS) (Q : List MovS) (i : Nat) (t : TabS) (k : Nat) : AS := ⟨slotsOf 162 (lbT l B j (Q ++ bkX t m (t.idxs.take k)).length ++ lbU s i ++ [(12, .ptr 4 0 4), (103, .fs 5 t.idxs.length (idxsA t.idxs)), (104, .c (.int .i64 (t.idxs.length : Nat))), (105, .c (.int .i64 (k : Nat)))]), [.o .box (schA s), .o .box (schA a), rowM (Q ++ bkX t m (t.idxs.take k)), .o .box (movA m), .o .box (tabA t)]⟩
set_option maxHeartbeats 16000000 in
theorem lback_w (s : SchS) (ho : s.Ok) (l : List MovS) (hm : ∀ m ∈ l, MovOk m) : ACalls Tryd.prog 3 [.agg (schA s), .fs 4 l.length (movsA l)] [] (fun _ => false) (fun r h' => r = .c (.bool true)) := by
  refine acalls mixed Tryd.func3 rfl Tryd.ntmps3 rfl fun E hE hst hho => ?_
  have hsc : ∀ s : SchS, schA s = [.c (.int .i64 s.ver), .c (.int .i64 s.next), .fs 4 s.tabs.length (tabsA s.tabs)] := fun _ => rfl
  have hma : ∀ m : MovS, movA m = [.c (.int .i64 m.tab), .c (.bool m.ix), .c (.int .i64 m.id), .c (.int .i64 m.dst)] := fun _ => rfl
  have hta : ∀ t : TabS, tabA t = [.c (.int .i64 t.id), .c (.string t.name), .fs 10 t.cols.length (colsA t.cols), .fs 5 t.idxs.length (idxsA t.idxs)] := fun _ => rfl
  obtain ⟨R, hR⟩ := fit_dec2 s
  have c0 := small_r12 s R hR
  simp only [hsc] at c0
  simp (maxSteps := 1000000) [hho, noHo, hsc, -List.reduceReplicate]
  refine call_x [] (first14_w) rfl rfl ⟨rfl, rfl⟩ hho (by simp) (by decide) (by simp) (by simp) ?_
  simp (maxSteps := 1000000) [hho, noHo, -List.reduceReplicate]
  refine call_x [] (c0) rfl rfl ⟨rfl, rfl⟩ hho (by simp) (by decide) (by simp) (by simp) ?_
  cases R with
  | false =>
    simp (maxSteps := 1000000) [hho, noHo, undef, onGP_none, condG_false, -List.reduceReplicate]
    exact Ret.drop (by rfl) rfl
  | true =>
  have hf := hR.1 rfl
  obtain ⟨hb1, hb2⟩ := fit_big2 hf
  have hf2 := hf.2
  have hf1 := hf.1
  by_cases hl : (20 : Int) < l.length
  · simp (maxSteps := 1000000) [hho, noHo, hl, undef, onGP_none, condG_false, -List.reduceReplicate]
    exact Ret.drop (by rfl) rfl
  by_cases hv : 1152921504606846976 < s.ver
  · simp (maxSteps := 1000000) [hho, noHo, hl, hv, undef, onGP_none, condG_false, -List.reduceReplicate]
    exact Ret.drop (by rfl) rfl
  have hll : l.length ≤ 20 := by omega
  have hp := r12PutS_w s hf ho
  simp only [hsc] at hp
  obtain ⟨B, hB⟩ : ∃ B, B = str (schB s) := ⟨_, rfl⟩
  rw [← hB] at hp
  have hs := step_w s l (by omega) (by omega) hb2 (by omega) hm
  have hsz := @step_zero s l
  have hsi := @step_is s l
  have hsk := @step_back s l
  have hst2 := @step_iff s l
  unfold stepS at hsi hsk hst2
  rw [← stepP_eq] at hsi hsk hst2
  simp only [hsc s] at hs
  obtain ⟨q, hq⟩ : ∃ q, q = stepF mvP s l := ⟨_, rfl⟩
  rw [← hq] at hs hsz hsi hsk hst2
  obtain ⟨a, e⟩ := q
  simp only at hs hsz hsi hsk hst2
  clear hq
  simp (maxSteps := 1000000) [hho, noHo, hl, hv, undef, onGP_none, condG_false, -List.reduceReplicate]
  refine call_x [] (hp) rfl rfl ⟨rfl, rfl⟩ hho (by simp) (by decide) (by simp) (by simp) ?_
  simp (maxSteps := 1000000) [hho, noHo, -List.reduceReplicate]
  refine call_x [] (hs) rfl rfl ⟨rfl, rfl⟩ hho (by simp) (by decide) (by simp) (by simp) ?_
  by_cases he : e = 0
  case neg =>
    obtain rfl := hsz he
    simp (maxSteps := 1000000) [hho, noHo, hsc, he, zeroS, undef, onGP_none, condG_false, -List.reduceReplicate]
    exact Ret.drop (by rfl) rfl
  subst he
  have ha := hsi rfl
  obtain ⟨g1, g2, g3, g4, g5⟩ := hst2.1 rfl
  have hal : a.tabs.length ≤ 1000 := by rw [ha]; simp; omega
  have hab : ∀ t ∈ a.tabs, TabBig t := fun t ht => by
    rw [ha] at ht
    obtain ⟨t0, h0, rfl⟩ := List.mem_map.1 ht
    exact big_apT (hb2 t0 h0) l
  have hav : a.ver = s.ver + 1 := by rw [ha]
  have hfc : ∀ t ∈ s.tabs, t.cols.length ≤ 20 ∧ t.idxs.length ≤ 20 := fun t ht => ⟨(hf2 t ht).2.1, (hf2 t ht).2.2.1⟩
  have hbl : backL s.tabs l = l.map (bk s.tabs) := back_eq ((schOk_iff s).1 g1).inv.tabs ((schOk_iff s).1 g1).inv.ids l [] g4
  clear ha hsi hst2 hs hsz
  simp (maxSteps := 1000000) [hho, noHo, hsc, -List.reduceReplicate]
  refine loop_k mixed (lb1 s a l B) (fun j => l.length - j) (fun j => j ≤ l.length ∧ ∀ m ∈ l.take j, m.dst ≠ 0) 0 ⟨Nat.zero_le _, fun m hm => by simp at hm⟩ ?_ ?_
  · refine Wk.trans (wk_virt 8 34 4 rfl) ?_
    exact wk_eq (by simp [hE, lens]) (by simp [lb1, backL, movsA, hsc, rowM]) (by simp [livH, livO, AV.livL, AV.liv, wkL, wkV, List.range', lb1, lbT, slotsOf, backL])
  rintro j ⟨hj, hI⟩
  have hQl := backL_len s.tabs hf1 hfc (l.take j)
  rw [List.length_take] at hQl
  by_cases hjl : j < l.length
  · obtain ⟨m, hme⟩ : ∃ m, m = l[j] := ⟨_, rfl⟩
    have hat := movsA_at l j hjl
    rw [← hme] at hat
    have e0 : j * 4 + 4 ≤ l.length * 4 := by omega
    have ew : IntKind.i64.wrap ((j : Int) + 1) = (j + 1 : Nat) := by rw [IntWalk.i64_in _ (by omega)]; rfl
    have htk : l.take (j + 1) = l.take j ++ [m] := by rw [hme]; exact take_snoc _ _ hjl
    have hsn := backL_snoc s.tabs (l.take j) m
    rw [← htk] at hsn
    obtain ⟨Q, hQ⟩ : ∃ Q, Q = backL s.tabs (l.take j) := ⟨_, rfl⟩
    have hQ0 : Q.length ≤ 16000 := by rw [hQ]; omega
    simp only [lb1, lbT]
    rw [← hQ] at hsn ⊢
    simp (maxSteps := 1000000) [hho, noHo, slotsOf, hjl, hat, e0, hma, hsc, rowM, -List.reduceReplicate]
    by_cases hz : m.dst = 0
    · simp (maxSteps := 1000000) [hho, noHo, hz, -List.reduceReplicate]
      exact Ret.drop (by rfl) rfl
    simp (maxSteps := 1000000) [hho, noHo, hz, -List.reduceReplicate]
    refine loop_k mixed (lb2 s a l B j m Q) (fun i => s.tabs.length - i) (fun i => i ≤ s.tabs.length) 0 (Nat.zero_le _) ?_ ?_
    · exact wk_eq (by simp [hE, lens]) (by simp [lb2, bkT, hsc, hma, rowM]) (by simp [livH, livO, AV.livL, AV.liv, wkL, wkV, List.range', lb2, lbT, lbU, slotsOf, bkT])
    intro i hi
    have hTl := bkT_len m (s.tabs.take i) fun t ht => hfc t (List.mem_of_mem_take ht)
    rw [List.length_take] at hTl
    by_cases hil : i < s.tabs.length
    · obtain ⟨t, hte⟩ : ∃ t, t = s.tabs[i] := ⟨_, rfl⟩
      have hat := tabsA_at s.tabs i hil
      rw [← hte] at hat
      have htm : t ∈ s.tabs := by rw [hte]; exact List.getElem_mem hil
      obtain ⟨hfc1, hfc2⟩ := hfc t htm
      have e0 : i * 4 + 4 ≤ s.tabs.length * 4 := by omega
      have ew2 : IntKind.i64.wrap ((i : Int) + 1) = (i + 1 : Nat) := by rw [IntWalk.i64_in _ (by omega)]; rfl
      have htk2 : s.tabs.take (i + 1) = s.tabs.take i ++ [t] := by rw [hte]; exact take_snoc _ _ hil
      have hsn2 := bkT_snoc m (s.tabs.take i) t
      rw [← htk2] at hsn2
      obtain ⟨Q2, hQ2⟩ : ∃ Q2, Q2 = Q ++ bkT m (s.tabs.take i) := ⟨_, rfl⟩
      have hQ20 : Q2.length ≤ 17000 := by rw [hQ2, List.length_append]; omega
      have hQs : Q ++ bkT m (s.tabs.take (i + 1)) = Q2 ++ (if t.id = m.tab then bkC t m t.cols ++ bkX t m t.idxs else []) := by rw [hsn2, hQ2, List.append_assoc]
      simp only [lb2, lbT, lbU]
      rw [← hQ2]
      simp (maxSteps := 1000000) [hho, noHo, slotsOf, hil, hat, e0, hma, hsc, hta, rowM, -List.reduceReplicate]
      by_cases hid : t.id = m.tab
      case neg =>
        rw [if_neg hid, List.append_nil] at hQs
        simp (maxSteps := 1000000) [hho, noHo, hid, ew2, -List.reduceReplicate]
        refine round_next (i + 1) (by omega) (by omega) ?_
        refine wk_of 4 1 rfl (by rw [hE]; simp) ?_ (by simp [livH, livO, AV.livL, AV.liv, wkL, wkV, List.range', hma, hsc, lb2, rowM]) ?_
        · simp [lb2, hQs, hma, hsc, rowM]
        · simp [livH, livO, AV.livL, AV.liv, wkL, wkV, List.range', lb2, lbT, lbU, slotsOf, hQs, hsc]
      rw [if_pos hid] at hQs
      simp (maxSteps := 1000000) [hho, noHo, hid, -List.reduceReplicate]
      refine loop_k mixed (lb3 s a l B j m Q2 i t) (fun k => t.cols.length - k) (fun k => k ≤ t.cols.length) 0 (Nat.zero_le _) ?_ ?_
      · exact wk_eq (by simp [hE, lens]) (by simp [lb3, bkC, hsc, hma, hta, hid, rowM]) (by simp [livH, livO, AV.livL, AV.liv, wkL, wkV, List.range', lb3, lbT, lbU, slotsOf, bkC])
      intro k hk
      have hbkCl := bkC_len t m (t.cols.take k)
      rw [List.length_take] at hbkCl
      by_cases hkl : k < t.cols.length
      · obtain ⟨c, hce⟩ : ∃ c, c = t.cols[k] := ⟨_, rfl⟩
        have hat := colsA_at t.cols k hkl
        rw [← hce] at hat
        have hca : colA c = [.c (.int .i64 c.id), .c (.string c.name), .c (.int .i64 c.ty.k), .c (.int .i64 c.ty.s), .c (.bool c.nn), .c (.int .i64 c.dft.k), .c (.int .i64 c.dft.n), .c (.int .i64 c.dft.s), .c (.string c.dft.t), .c (.int .i64 c.st)] := rfl
        have e0 : k * 10 + 10 ≤ t.cols.length * 10 := by omega
        have ew3 : IntKind.i64.wrap ((k : Int) + 1) = (k + 1 : Nat) := by rw [IntWalk.i64_in _ (by omega)]; rfl
        have htk3 : t.cols.take (k + 1) = t.cols.take k ++ [c] := by rw [hce]; exact take_snoc _ _ hkl
        have hsn3 := bkC_snoc t m (t.cols.take k) c
        rw [← htk3] at hsn3
        obtain ⟨D, hD⟩ : ∃ D, D = Q2 ++ bkC t m (t.cols.take k) := ⟨_, rfl⟩
        have hDl : D.length ≤ 20000 := by rw [hD, List.length_append]; omega
        have hDl' : D.length ≤ 2199023255551 := by omega
        have hDs : Q2 ++ bkC t m (t.cols.take (k + 1)) = D ++ (if m.ix = false ∧ c.id = m.id then [⟨t.id, false, c.id, c.st⟩] else []) := by rw [hsn3, hD, List.append_assoc]
        simp only [lb3, lbT, lbU]
        rw [← hD]
        simp (maxSteps := 1000000) [hho, noHo, slotsOf, hkl, hat, e0, hma, hsc, hta, hca, rowM, -List.reduceReplicate]
        by_cases h1 : m.ix = true
        · rw [if_neg (by rw [h1]; simp), List.append_nil] at hDs
          simp (maxSteps := 1000000) [hho, noHo, h1, ew3, undef, onGP_none, condG_false, -List.reduceReplicate]
          refine round_next (k + 1) (by omega) (by omega) ?_
          refine wk_of 5 1 rfl (by rw [hE]; simp) ?_ (by simp [livH, livO, AV.livL, AV.liv, wkL, wkV, List.range', hma, hsc, hta, lb3, rowM]) ?_
          · simp [lb3, hDs, hma, hsc, hta, rowM, h1]
          · simp [livH, livO, AV.livL, AV.liv, wkL, wkV, List.range', lb3, lbT, lbU, slotsOf, hDs, hsc]
        have h1' : m.ix = false := by simpa using h1
        by_cases h2 : c.id = m.id
        · rw [if_pos ⟨h1', h2⟩] at hDs
          simp (maxSteps := 1000000) [hho, noHo, h1', h2, ew3, -List.reduceReplicate]
          refine ⟨by omega, ?_⟩
          refine round_next (k + 1) (by omega) (by omega) ?_
          refine wk_of 5 2 rfl (by rw [hE]; simp) ?_ (by simp [livH, livO, AV.livL, AV.liv, wkL, wkV, List.range', hma, hsc, hta, lb3, rowM]) ?_
          · simp [lb3, hDs, hma, hsc, hta, rowM, h1', h2, movsA_app, movsA_one]
          · simp [livH, livO, AV.livL, AV.liv, wkL, wkV, List.range', lb3, lbT, lbU, slotsOf, hDs, hsc, Nat.add_mul]
        · rw [if_neg fun h => h2 h.2, List.append_nil] at hDs
          simp (maxSteps := 1000000) [hho, noHo, h1', h2, ew3, -List.reduceReplicate]
          refine round_next (k + 1) (by omega) (by omega) ?_
          refine wk_of 5 1 rfl (by rw [hE]; simp) ?_ (by simp [livH, livO, AV.livL, AV.liv, wkL, wkV, List.range', hma, hsc, hta, lb3, rowM]) ?_
          · simp [lb3, hDs, hma, hsc, hta, rowM, h1']
          · simp [livH, livO, AV.livL, AV.liv, wkL, wkV, List.range', lb3, lbT, lbU, slotsOf, hDs, hsc]
      obtain rfl : k = t.cols.length := by omega
      rw [List.take_length] at hbkCl
      obtain ⟨Q3, hQ3⟩ : ∃ Q3, Q3 = Q2 ++ bkC t m t.cols := ⟨_, rfl⟩
      have hQ30 : Q3.length ≤ 18000 := by rw [hQ3, List.length_append]; omega
      simp only [lb3, lbT, lbU]
      rw [List.take_length, ← hQ3]
      simp (maxSteps := 1000000) [hho, noHo, slotsOf, hma, hsc, hta, rowM, -List.reduceReplicate]
      refine loop_k mixed (lb4 s a l B j m Q3 i t) (fun k => t.idxs.length - k) (fun k => k ≤ t.idxs.length) 0 (Nat.zero_le _) ?_ ?_
      · exact wk_eq (by simp [hE, lens]) (by simp [lb4, bkX, hsc, hma, hta, rowM]) (by simp [livH, livO, AV.livL, AV.liv, wkL, wkV, List.range', lb4, lbT, lbU, slotsOf, bkX])
      intro k hk
      have hbkXl := bkX_len t m (t.idxs.take k)
      rw [List.length_take] at hbkXl
      by_cases hkl : k < t.idxs.length
      · obtain ⟨c, hce⟩ : ∃ c, c = t.idxs[k] := ⟨_, rfl⟩
        have hat := idxsA_at t.idxs k hkl
        rw [← hce] at hat
        have hca : idxA c = [.c (.int .i64 c.id), .c (.string c.name), .fs 1 c.cols.length (intsA c.cols), .c (.bool c.uniq), .c (.int .i64 c.st)] := rfl
        have e0 : k * 5 + 5 ≤ t.idxs.length * 5 := by omega
        have ew3 : IntKind.i64.wrap ((k : Int) + 1) = (k + 1 : Nat) := by rw [IntWalk.i64_in _ (by omega)]; rfl
        have htk3 : t.idxs.take (k + 1) = t.idxs.take k ++ [c] := by rw [hce]; exact take_snoc _ _ hkl
        have hsn3 := bkX_snoc t m (t.idxs.take k) c
        rw [← htk3] at hsn3
        obtain ⟨D, hD⟩ : ∃ D, D = Q3 ++ bkX t m (t.idxs.take k) := ⟨_, rfl⟩
        have hDl : D.length ≤ 20000 := by rw [hD, List.length_append]; omega
        have hDl' : D.length ≤ 2199023255551 := by omega
        have hDs : Q3 ++ bkX t m (t.idxs.take (k + 1)) = D ++ (if m.ix = true ∧ c.id = m.id then [⟨t.id, true, c.id, c.st⟩] else []) := by rw [hsn3, hD, List.append_assoc]
        simp only [lb4, lbT, lbU]
        rw [← hD]
        simp (maxSteps := 1000000) [hho, noHo, slotsOf, hkl, hat, e0, hma, hsc, hta, hca, rowM, -List.reduceReplicate]
        by_cases h1 : m.ix = false
        · rw [if_neg (by rw [h1]; simp), List.append_nil] at hDs
          simp (maxSteps := 1000000) [hho, noHo, h1, ew3, undef, onGP_none, condG_false, -List.reduceReplicate]
          refine round_next (k + 1) (by omega) (by omega) ?_
          refine wk_of 5 1 rfl (by rw [hE]; simp) ?_ (by simp [livH, livO, AV.livL, AV.liv, wkL, wkV, List.range', hma, hsc, hta, lb4, rowM]) ?_
          · simp [lb4, hDs, hma, hsc, hta, rowM, h1]
          · simp [livH, livO, AV.livL, AV.liv, wkL, wkV, List.range', lb4, lbT, lbU, slotsOf, hDs, hsc]
        have h1' : m.ix = true := by simpa using h1
        by_cases h2 : c.id = m.id
        · rw [if_pos ⟨h1', h2⟩] at hDs
          simp (maxSteps := 1000000) [hho, noHo, h1', h2, ew3, -List.reduceReplicate]
          refine ⟨by omega, ?_⟩
          refine round_next (k + 1) (by omega) (by omega) ?_
          refine wk_of 5 2 rfl (by rw [hE]; simp) ?_ (by simp [livH, livO, AV.livL, AV.liv, wkL, wkV, List.range', hma, hsc, hta, lb4, rowM]) ?_
          · simp [lb4, hDs, hma, hsc, hta, rowM, h1', h2, movsA_app, movsA_one]
          · simp [livH, livO, AV.livL, AV.liv, wkL, wkV, List.range', lb4, lbT, lbU, slotsOf, hDs, hsc, Nat.add_mul]
        · rw [if_neg fun h => h2 h.2, List.append_nil] at hDs
          simp (maxSteps := 1000000) [hho, noHo, h1', h2, ew3, -List.reduceReplicate]
          refine round_next (k + 1) (by omega) (by omega) ?_
          refine wk_of 5 1 rfl (by rw [hE]; simp) ?_ (by simp [livH, livO, AV.livL, AV.liv, wkL, wkV, List.range', hma, hsc, hta, lb4, rowM]) ?_
          · simp [lb4, hDs, hma, hsc, hta, rowM, h1']
          · simp [livH, livO, AV.livL, AV.liv, wkL, wkV, List.range', lb4, lbT, lbU, slotsOf, hDs, hsc]
      obtain rfl : k = t.idxs.length := by omega
      rw [List.take_length] at hbkXl
      have hX0 : t.idxs.take t.idxs.length = t.idxs := List.take_length
      have hQe : Q ++ bkT m (s.tabs.take (i + 1)) = Q3 ++ bkX t m t.idxs := by rw [hQs, hQ3, List.append_assoc]
      simp only [lb4, lbT, lbU, hX0]
      simp (maxSteps := 1000000) [hho, noHo, slotsOf, hma, hsc, hta, rowM, ew2, -List.reduceReplicate]
      refine round_next (i + 1) (by omega) (by omega) ?_
      refine wk_of 4 1 rfl (by rw [hE]; simp) ?_ (by simp [livH, livO, AV.livL, AV.liv, wkL, wkV, List.range', hma, hsc, lb2, rowM]) ?_
      · simp [lb2, hQe, hma, hsc, rowM]
      · simp [livH, livO, AV.livL, AV.liv, wkL, wkV, List.range', lb2, lbT, lbU, slotsOf, hQe, hsc]
    · obtain rfl : i = s.tabs.length := by omega
      rw [List.take_length] at hTl
      simp only [lb2, lbT, lbU]
      rw [List.take_length, ← hsn]
      simp (maxSteps := 1000000) [hho, noHo, slotsOf, hma, hsc, rowM, ew, -List.reduceReplicate]
      refine round_next (j + 1) ⟨by omega, fun x hx => by
        rw [htk] at hx
        rcases List.mem_append.1 hx with h | h
        · exact hI x h
        · rw [List.mem_singleton.1 h]; exact hz⟩ (by omega) ?_
      refine wk_of 3 1 rfl (by rw [hE]; simp) ?_ (by simp [livH, livO, AV.livL, AV.liv, wkL, wkV, List.range', hsc, lb1, rowM]) ?_
      · simp [lb1, hsc, rowM]
      · simp [livH, livO, AV.livL, AV.liv, wkL, wkV, List.range', lb1, lbT, slotsOf]
  · obtain rfl : j = l.length := by omega
    simp only [lb1, lbT]
    rw [List.take_length]
    rw [List.take_length] at hI hQl
    obtain ⟨D, hD⟩ : ∃ D, D = backL s.tabs l := ⟨_, rfl⟩
    have hDl : D.length ≤ 20 := by rw [hD, hbl, List.length_map]; exact hll
    have hsb := hsk rfl hI
    rw [← hD] at hsb ⊢
    have hso : ∀ m ∈ D, MovOk m := by rw [hD]; exact back_ok ho l
    have hstp := step_w a D (by omega) hal hab (by omega) hso
    rw [stepP_eq] at hstp
    have hsb2 : stepF mvR a D = (⟨s.ver + 2, s.next, s.tabs⟩, 0) := hsb
    rw [hsb2] at hstp
    have hcs := same_r12 s s (by omega) (fun t ht => ⟨by have := hfc t ht; omega, by have := hfc t ht; omega, fun x hx => by have := (hf2 t ht).2.2.2.2 x hx; have := this.2; omega⟩) true (by simp)
    simp only [hsc s] at hcs
    simp only [hsc] at hstp
    simp (maxSteps := 1000000) [hho, noHo, slotsOf, hsc, rowM, -List.reduceReplicate]
    have hml : (movsA D).length = D.length * 4 := by simp
    have htk : List.take (D.length * 4) (List.drop 0 (movsA D)) = movsA D := by rw [List.drop_zero, List.take_of_length_le (by simp)]
    have hmx : D.length ≤ maxLen := by unfold maxLen; omega
    refine call_f [] (fun k => k == 2) hstp rfl rfl ⟨by simp only [htk], rfl⟩ hho (by simp) (by decide) (by simp) ⟨⟨by simp, ⟨hml, by omega, hmx, by rw [htk]; exact List.all_eq_true.2 ((movsA_all D).2 trivial)⟩, trivial⟩, trivial⟩ (by simp) ?_
    have ew1 : IntKind.i64.wrap s.ver = s.ver := IntWalk.i64_in _ (by have := ho.1; unfold i64v at this; omega)
    have ew3 : IntKind.i64.wrap (s.ver + 1) = s.ver + 1 := IntWalk.i64_in _ (by have := ho.1; unfold i64v at this; omega)
    simp (maxSteps := 1000000) [hho, noHo, ew1, -List.reduceReplicate]
    refine call_x [] (hcs) rfl rfl ⟨rfl, rfl⟩ hho (by simp) (by decide) (by simp) (by simp) ?_
    simp (maxSteps := 1000000) [hho, noHo, -List.reduceReplicate]
    refine call_x [] (hp) rfl rfl ⟨rfl, rfl⟩ hho (by simp) (by decide) (by simp) (by simp) ?_
    simp (maxSteps := 1000000) [hho, noHo, hav, ew3, -List.reduceReplicate]
    exact Ret.drop (by rfl) rfl
end Go.Proofs.YthgoocdldnkogaaDoor
