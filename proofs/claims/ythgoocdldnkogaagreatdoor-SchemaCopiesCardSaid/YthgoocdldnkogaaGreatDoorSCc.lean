import Derived.Test.YthgoocdldnkogaaGreatDoorSCb
namespace Go.Proofs.YthgoocdldnkogaaGreatDoor
set_option linter.unusedVariables false
set_option linter.unusedSimpArgs false
open Go.RowKit
attribute [local simp] isCut_nil isCut_region isCut_seq isCut_block isCut_loop isCut_cond isCut_skip isCut_exit isCut_ret isCut_range swapK putK altK condK_bool pickP_bool stepP stepO onPure_some onPure_none onImpl_some onImpl_none stepC onGP_some onGP_none onGV_some condG mkG onIt_it nextP_ptr takeP_eq takeV_some takeV_none takeU_some takeU_none takeQ takeW_some takeN_none takeN_some takeG_some takeO_some altO_some pureV binV2 eqF eqOp ovlV ovl2 rowAt capV binV intBin strBin isSh shV fldV ixV sliceV slice3V loadAV nilV lenV callV unV convV viewS cellsH loadV fldCut AV.ung AV.ungs AV.gc AV.cells AS.ev AS.put anyS gcsV gcO lens lnO gV guardV retK RetP_eq resV oneV anyRo loIx hiIx implO callP_clo evL gcsL clearV storeAV AS.push AS.setO appV appZ shortS copyV buildV partsV fillV srcV fzO okV isCell_c isCell_ptr isCell_sl isCell_fs isCell_fp isCell_clo rowZ_one rowZ_zero rowZ_2 rowZ_3 rowZ_4 rowZ_5 rowZ_6 rowZ_7 rowZ_8 rowZ_9 rowZ_10 rowZ_11 rowZ_12 noHo Value.oneCell' max2V min2V lookV updV updK updW cvals mkAt basV lenM msAt afterH putBack frzFrom frzO rebO backIx nilEq_sl nilEq_fs nilEq_ifn nilEq_ifh ifOp_eql ifOp_neq isLit nilOp_eql nilOp_neq AV.reb AV.rebL
attribute [local simp ↓] runK_skip runK_region runK_draw runK_seq runK_cut runK_cond runK_block runK_loop runK_exit runK_label runK_goto runK_ret runK_range contK_nil contK_seq contK_seq_ret contK_seq_exit contK_seq_goto contK_block contK_block_ret contK_block_goto contK_block_exit runO_nil runO_cons roundK_exit roundK_ret roundK_goto exitK_ret cutK_ret cutK_exit runE_done runE_nil runE_take runE_alt condG_true condG_false
set_option maxRecDepth 10000
theorem rowM_cells (N : Nat) (l : List IdxS) (i : Nat) (hi : i < l.length) : List.take 5 (List.drop (i * 5) (idx3 (N + 3) (l.take i) ++ idxsA (l.drop i))) = idxA l[i] := by
 rw [List.drop_append, List.drop_of_length_le (by simp; omega), List.nil_append]
 simp only [idx3_length, List.length_take]
 rw [show i * 5 - min i l.length * 5 = 0 by rw [Nat.min_eq_left (by omega)]; omega, List.drop_zero, ← List.getElem_cons_drop hi]
 rw [show idxsA (l[i] :: l.drop (i + 1)) = idxA l[i] ++ idxsA (l.drop (i + 1)) from List.flatMap_cons ..]
 exact List.take_left' rfl
theorem rowM_all (N : Nat) (l : List IdxS) : rowM N l l.length = rowX3 (N + 3) l := by
 simp [rowM, rowX3, idxsA]
theorem cpHead3_reb (s : SchS) (j m : Nat) (hm : 3 + tot3 (s.tabs.take j) ≤ m) : (cpHead3 s j).map (rebO (skipF m)) = cpHead3 s j := by
 have hsk : ∀ k, k < m → skipF m k = k := fun k hk => by simp [skipF, hk]
 have q1 : AV.rebL (skipF m) (livs3 3 (s.tabs.take j)) = livs3 3 (s.tabs.take j) := reb_livs3 _ _ _ _ fun i hi => hsk _ (by omega)
 have q3 : AV.rebL (skipF m) (tabsA (s.tabs.drop j)) = tabsA (s.tabs.drop j) := rebL_isD' ((tabsA_all _).2 trivial)
 have q5 : (inner3 3 (s.tabs.take j)).map (rebO (skipF m)) = inner3 3 (s.tabs.take j) := reb_inner3 _ _ _ _ fun i hi => hsk _ (by omega)
 simp only [cpHead3, List.map_cons, q5, cpRow3, rebO_eq, rebL_app, q1, q3]
 simp only [cpBox, cpRes, rebO_eq, AV.rebL, AV.reb, hsk 2 (by omega)]
set_option maxHeartbeats 8000000 in
theorem copy3_w (s : SchS) (hl : s.tabs.length ≤ 1000000) (hb : ∀ t ∈ s.tabs, t.cols.length ≤ 1000000 ∧ t.idxs.length ≤ 1000000 ∧ ∀ x ∈ t.idxs, x.cols.length ≤ 1000000) :
  ACalls Tryz.prog 23 [.agg (schA s)] [] (fun _ => false) (fun r h' => r = .agg [.c (.int .i64 s.ver), .c (.int .i64 s.next), .sl 0 4 0 s.tabs.length (s.tabs.length * 4)] ∧ h' = heap3 0 s.tabs) := by
 refine acalls mixed Tryz.func23 rfl Tryz.ntmps23 rfl fun E hE hst hho => ?_
 have hct := clone_tabs s.tabs hl
 simp (maxSteps := 1000000) [hho, noHo, schA, -List.reduceReplicate]
 refine call_x [] hct rfl rfl ⟨rfl, rfl⟩ hho (by simp) (by decide) (by simp) (by simp) ?_
 simp (maxSteps := 1000000) [hho, noHo, -List.reduceReplicate]
 refine loop_k mixed (cpSt3 s) (fun j => s.tabs.length - j) (fun j => j ≤ s.tabs.length) 0 (Nat.zero_le _) ?_ ?_
 ·refine wk_of 3 0 rfl (by simp [hE]) (by simp [cpSt3, cpHead3, cpBox, cpRes, cpRow3, livs3, inner3]) (by simp [livH, livO, AV.livL, AV.liv, wkL, wkV, List.range', cpSt3, cpHead3, cpBox, cpRes, cpRow3, livs3, inner3]) (by simp [livH, livO, AV.livL, AV.liv, wkL, wkV, List.range', cpSt3, slotsOf])
 ·rintro j hj
  by_cases hjn : j < s.tabs.length
  ·simp only [cpSt3]
   obtain ⟨N, hNN⟩ : ∃ N, N = 3 + tot3 (s.tabs.take j) := ⟨_, rfl⟩
   have hN3 : 3 ≤ N := by omega
   have hN : (cpHead3 s j).length = N := by rw [hNN]; simp
   have h0 : ∀ X, (cpHead3 s j ++ X)[0]? = some (cpBox s) := fun X => by simp [cpHead3]
   have h2 : ∀ X, (cpHead3 s j ++ X)[2]? = some (cpRow3 s j) := fun X => by simp [cpHead3]
   have h2' : (cpHead3 s j)[2]? = some (cpRow3 s j) := by simp [cpHead3]
   have hPr : ∀ m, N ≤ m → (cpHead3 s j).map (rebO (skipF m)) = cpHead3 s j := fun m hm => cpHead3_reb s j m (by omega)
   obtain ⟨t, ht⟩ : ∃ t, t = s.tabs[j] := ⟨_, rfl⟩
   have hcell : List.take 4 (List.drop (j * 4) (livs3 3 (s.tabs.take j) ++ tabsA (s.tabs.drop j))) = tabA t := by
    rw [List.drop_append, List.drop_of_length_le (by simp; omega)]
    simp only [livs3_length, List.length_take, List.nil_append]
    rw [show j * 4 - min j s.tabs.length * 4 = 0 by rw [Nat.min_eq_left (by omega)]; omega, List.drop_zero, ← List.getElem_cons_drop hjn, ht]
    rw [show tabsA (s.tabs[j] :: s.tabs.drop (j + 1)) = tabA s.tabs[j] ++ tabsA (s.tabs.drop (j + 1)) from List.flatMap_cons ..]
    exact List.take_left' rfl
   have hfull : (livs3 3 (s.tabs.take j) ++ tabsA (s.tabs.drop j)).length = s.tabs.length * 4 := by simp; omega
   have hcp := cp_round3 s j hjn (E := E) hho (by rw [hE]; rfl) [.c (.int .i64 t.id), .c (.string t.name), .sl (N + 1) 10 0 t.cols.length (t.cols.length * 10), .sl (N + 1 + 1) 5 0 t.idxs.length (t.idxs.length * 5)] N hNN
   rw [← ht] at hcp
   obtain ⟨P, hP⟩ : ∃ P, P = cpHead3 s j := ⟨_, rfl⟩
   rw [← hP] at hN h0 h2 h2' hPr hcp ⊢
   simp only [cpRow3] at h2 h2'
   obtain ⟨R, hR⟩ : ∃ R, R = livs3 3 (s.tabs.take j) ++ tabsA (s.tabs.drop j) := ⟨_, rfl⟩
   rw [← hR] at hfull hcell h2' hcp
   simp only [← hR] at h2
   have htm : t ∈ s.tabs := by rw [ht]; exact List.getElem_mem hjn
   obtain ⟨b1, b2, b3⟩ := hb t htm
   have hcc := clone_cols t.cols b1
   have hcx := clone_idxs t.idxs b2
   have ew : IntKind.i64.wrap ((j : Int) + 1) = (j + 1 : Nat) := by rw [IntWalk.i64_in _ (by omega)]; rfl
   simp (maxSteps := 1000000) [hho, noHo, slotsOf, hN, h0, h2, h2', hjn, hfull, hcell, tabA, -List.reduceReplicate]
   refine ⟨by omega, ?_⟩
   have hN0 : ∀ (x : AObj) X, (P ++ x :: X)[N]? = some x := fun x X => appAt hN 0
   have hN1 : ∀ (x y : AObj) X, (P ++ x :: y :: X)[N + 1]? = some y := fun x y X => appAt hN 1
   have hN2 : ∀ (x y z : AObj) X, (P ++ x :: y :: z :: X)[N + 1 + 1]? = some z := fun x y z X => appAt hN 2
   have hS0 : ∀ (x y : AObj) X, (P ++ x :: X).set N y = P ++ y :: X := fun x y X => appSet hN 0 y
   have lg : ∀ (X : List Nat) (k : Nat), (List.map lnO P ++ X)[N + k]? = X[k]? := fun X k => by rw [List.getElem?_append_right (by simp; omega)]; simp [hN]
   have hl0 : ∀ (x : Nat) X, (List.map lnO P ++ x :: X)[N]? = some x := fun x X => lg _ 0
   have hl1 : ∀ (x y : Nat) X, (List.map lnO P ++ x :: y :: X)[N + 1]? = some y := fun x y X => lg _ 1
   have hl2 : ∀ (x y z : Nat) X, (List.map lnO P ++ x :: y :: z :: X)[N + 1 + 1]? = some z := fun x y z X => lg _ 2
   refine call_x [] hcc rfl rfl ⟨rfl, rfl⟩ hho (by simp) (by decide) (by simp) (by simp) ?_
   simp (maxSteps := 1000000) [hho, noHo, hN, h0, h2, hN0, hN1, hN2, hS0, hl0, hl1, hl2, frz_no, List.map_append, List.append_assoc, lnO, -List.reduceReplicate]
   refine call_x [] hcx rfl rfl ⟨rfl, rfl⟩ hho (by simp) (by decide) (by simp) (by simp) ?_
   simp (maxSteps := 1000000) [hho, noHo, hN, h0, h2, hN0, hN1, hN2, hS0, hl0, hl1, hl2, frz_no, List.map_append, List.append_assoc, lnO, -List.reduceReplicate]
   refine loop_k mixed (cpIn3 s P N t j) (fun i => t.idxs.length - i) (fun i => i ≤ t.idxs.length) 0 (Nat.zero_le _) ?_ ?_
   ·exact wk_eq (by simp [hE, lens]) (by simp [cpIn3, cpQ, rowM, livA, rowL, idx3]) (by simp [livH, livO, AV.livL, AV.liv, wkL, wkV, List.range', cpIn3, cpT3, slotsOf])
   rintro i hi
   have hQl : (cpQ P N t i).length = N + 3 + i := by simp [cpQ, hN]; omega
   have hQ0 : ∀ X, (cpQ P N t i ++ X)[0]? = some (cpBox s) := fun X => by unfold cpQ; rw [List.append_assoc]; exact h0 _
   have hQ2 : ∀ X, (cpQ P N t i ++ X)[2]? = some (.o (.row 28 4) R) := fun X => by unfold cpQ; rw [List.append_assoc]; exact h2 _
   have hQN : ∀ X, (cpQ P N t i ++ X)[N]? = some (.o .box (livA (N + 1) t)) := fun X => by unfold cpQ; rw [List.append_assoc]; exact appAt hN 0
   have hQR : ∀ X, (cpQ P N t i ++ X)[N + 2]? = some (rowM N t.idxs i) := fun X => by unfold cpQ; rw [List.append_assoc]; exact appAt hN 2
   have hin := fun (h : i < t.idxs.length) (bx : List AV) (T : List AV) hT => cp_in3 (E := E) hho (by rw [hE]; rfl) s hN hPr t j i h hN3 bx (T := T) hT
   have hlast : i = t.idxs.length → cpQ P N t i = P ++ (.o .box (livA (N + 1) t) :: grpH (N + 1) t) := fun h => by
    unfold cpQ
    rw [h, List.take_length, rowM_all]
    rfl
   obtain ⟨Q, hQ⟩ : ∃ Q, Q = cpQ P N t i := ⟨_, rfl⟩
   simp only [cpIn3, cpT3]
   rw [← hQ] at hQl hQ0 hQ2 hQN hQR hlast ⊢
   simp only [← hQ] at hin
   have hq0 : Q[0]? = some (cpBox s) := by have := hQ0 []; rwa [List.append_nil] at this
   have hq2 : Q[2]? = some (.o (.row 28 4) R) := by have := hQ2 []; rwa [List.append_nil] at this
   have hqN : Q[N]? = some (.o .box (livA (N + 1) t)) := by have := hQN []; rwa [List.append_nil] at this
   have hqR : Q[N + 2]? = some (rowM N t.idxs i) := by have := hQR []; rwa [List.append_nil] at this
   by_cases hik : i < t.idxs.length
   ·obtain ⟨x, hx⟩ : ∃ x, x = t.idxs[i] := ⟨_, rfl⟩
    have hat := rowM_cells N t.idxs i hik
    rw [← hx] at hat
    have hxc := b3 x (by rw [hx]; exact List.getElem_mem hik)
    have hci := clone_ints x.cols hxc
    have hCl : (idx3 (N + 3) (t.idxs.take i) ++ idxsA (t.idxs.drop i)).length = t.idxs.length * 5 := by simp; omega
    simp only [rowM] at hQR hqR
    have hin2 := hin hik
    rw [← hx] at hin2
    obtain ⟨C, hC⟩ : ∃ C, C = idx3 (N + 3) (t.idxs.take i) ++ idxsA (t.idxs.drop i) := ⟨_, rfl⟩
    simp only [← hC] at hQR hqR hat hCl hin2
    obtain ⟨K, hK⟩ : ∃ K, K = N + 3 + i := ⟨_, rfl⟩
    rw [← hK] at hQl
    simp only [← hK] at hin2
    have hK0 : ∀ (x : AObj) X, (Q ++ x :: X)[K]? = some x := fun x X => appAt hQl 0
    have hK1 : ∀ (x y : AObj) X, (Q ++ x :: y :: X)[K + 1]? = some y := fun x y X => appAt hQl 1
    have hS0 : ∀ (x y : AObj) X, (Q ++ x :: X).set K y = Q ++ y :: X := fun x y X => appSet hQl 0 y
    have hS2 : ∀ w X, (Q ++ X).set (N + 2) w = Q.set (N + 2) w ++ X := fun w X => List.set_append_left _ _ (by omega)
    have lg : ∀ (X : List Nat) (k : Nat), (List.map lnO Q ++ X)[K + k]? = X[k]? := fun X k => by rw [List.getElem?_append_right (by simp; omega)]; simp [hQl]
    have hl0 : ∀ (x : Nat) X, (List.map lnO Q ++ x :: X)[K]? = some x := fun x X => lg _ 0
    have hl1 : ∀ (x y : Nat) X, (List.map lnO Q ++ x :: y :: X)[K + 1]? = some y := fun x y X => lg _ 1
    have hlN : ∀ X, (List.map lnO Q ++ X)[N]? = some 4 := fun X => by
     rw [List.getElem?_append_left (by simp; omega), List.getElem?_map, hqN]; rfl
    have hlR : ∀ X, (List.map lnO Q ++ X)[N + 2]? = some (t.idxs.length * 5) := fun X => by
     rw [List.getElem?_append_left (by simp; omega), List.getElem?_map, hqR]; simp [lnO, hCl]
    have hi5 : i * 5 + 5 ≤ t.idxs.length * 5 := by omega
    have hi52 : i * 5 + 2 + 1 ≤ t.idxs.length * 5 := by omega
    have kK0 := fun x X h => gq (hK0 x X) h
    have kK1 := fun x y X h => gq (hK1 x y X) h
    have kl0 := fun x X h => gq (hl0 x X) h
    have kl1 := fun x y X h => gq (hl1 x y X) h
    have klN := fun X h => gq (hlN X) h
    have klR := fun X h => gq (hlR X) h
    have kQN := fun X h => gq (hQN X) h
    have kQR := fun X h => gq (hQR X) h
    have hN11 : N + 1 + 1 = N + 2 := rfl
    have hne1 : ¬ (N + 2 = K) := by omega
    have hne2 : ¬ (N = K) := by omega
    have hne3 : ¬ (K = N + 2) := by omega
    have hne4 : ¬ (K = N) := by omega
    have hltK : N < K := by omega
    have hltK2 : N + 2 < K := by omega
    have ewi : IntKind.i64.wrap ((i : Int) + 1) = (i + 1 : Nat) := by rw [IntWalk.i64_in _ (by omega)]; rfl
    simp (maxSteps := 1000000) [hho, noHo, slotsOf, hQl, hik, hat, hCl, hqR, hqN, hQR, hQN, hi5, idxA, hK0, hK1, hS0, hl0, hl1, hlN, hlR, kK0, kK1, kl0, kl1, klN, klR, kQN, kQR, frz_no, List.map_append, List.append_assoc, -List.reduceReplicate]
    refine draw_k hho (.take 0 (.take 1 (.take 2 (.take 3 (.take 4 (.alt 5 (.take 6 (.take 7 (.alt 8 (.done) (.nil)))) (.nil))))))) [N, K] [] (by decide +kernel) (by simp [hQl]; omega) ?_
    simp (maxSteps := 1000000) [hho, noHo, livA, hN11, hQl, hik, hCl, hqR, hqN, hQR, hQN, hi5, hK0, hK1, hS0, hS2, hl0, hl1, hlN, hlR, kK0, kK1, kl0, kl1, klN, klR, kQN, kQR, frz_no, List.map_append, List.append_assoc, roOf, holdOf, wrOf, altK, heldOk, Region.binds, -List.reduceReplicate]
    intro E1
    refine call_h [] (hci) rfl rfl ⟨rfl, rfl⟩ (by simp) (by simp) (by decide) (by simp) (by simp) ?_
    simp (maxSteps := 1000000) [hho, noHo, livA, hN11, hQl, hik, hCl, hqR, hqN, hQR, hQN, hi5, hi52, hK0, hK1, hS0, hS2, hl0, hl1, hlN, hlR, kK0, kK1, kl0, kl1, klN, klR, kQN, kQR, hne1, hne2, hne3, hne4, frz_no, List.map_append, List.append_assoc, roOf, holdOf, wrOf, altK, heldOk, Region.binds, -List.reduceReplicate]
    refine fun E2 => ⟨?_, ?_⟩
    ·rw [List.getElem?_append_left (by simp; omega), List.getElem?_set_ne (by omega)]
     have := hlN []
     rw [List.getElem?_append_left (by simp; omega)] at this
     exact this
    refine round_next (i + 1) (by omega) (by omega) ?_
    have hset : List.take (i * 5 + 2) C ++ AV.sl (K + 1) 1 0 x.cols.length x.cols.length :: List.drop (i * 5 + 2 + 1) C = C.set (i * 5 + 2) (AV.sl (K + 1) 1 0 x.cols.length x.cols.length) := set_split _ _ _ (by omega)
    rw [hset]
    refine hin2 _ _ ?_
    have hsk : ∀ k, k < K → skipF K k = k := fun k hk => by simp [skipF, hk]
    simp [livH, livO, AV.livL, AV.liv, wkL, wkV, List.range', cpT3, slotsOf, AV.rebL, AV.reb, hsk 0 (by omega), hsk 1 (by omega), hsk 2 (by omega), hsk N hltK, hsk (N + 2) hltK2, ewi]
   ·obtain rfl : i = t.idxs.length := by omega
    have hlQ := hlast rfl
    clear hin hlast
    simp (maxSteps := 1000000) [hho, noHo, slotsOf, hQl, hq0, hq2, hqN, frz_no, cpBox, -List.reduceReplicate]
    refine ⟨⟨hfull, hjn⟩, ⟨fun x hx => ?_, hfull, by omega⟩, ?_⟩
    ·have e4 : List.take 4 (livA (N + 1) t) = livA (N + 1) t := rfl
     rw [e4] at hx
     simp only [livA, List.mem_cons, List.not_mem_nil, or_false] at hx
     rcases hx with rfl | rfl | rfl | rfl <;> simp [isCell_c, isCell_sl, Value.oneCell']
    refine round_next (j + 1) (by omega) (by omega) (Wk.trans (wk_eq (s' := ⟨(cpSt3 s (j + 1)).t, _⟩) (by simp [hE, lens]) rfl ?_) ?_)
    ·simp [livH, livO, AV.livL, AV.liv, wkL, wkV, List.range', cpSt3, slotsOf, ew]
    ·have e4 : List.take 4 (livA (N + 1) t) = livA (N + 1) t := rfl
     rw [e4, hlQ]
     exact hcp
  ·obtain rfl : j = s.tabs.length := by omega
   simp only [cpSt3, cpHead3]
   simp (maxSteps := 1000000) [hho, noHo, slotsOf, cpBox, cpRes, -List.reduceReplicate]
   refine Ret.wkS (r2 := .agg [.c (.int .i64 s.ver), .c (.int .i64 s.next), .sl 0 4 0 s.tabs.length (s.tabs.length * 4)]) (h2 := heap3 0 s.tabs) (fun E h1 h2 h3 => ?_) (Ret.same ⟨rfl, rfl⟩)
   have hw := wk_front (E := E) 2 (D := [.o .box [.c (.int .i64 s.ver), .c (.int .i64 s.next), .sl 2 4 0 s.tabs.length (s.tabs.length * 4)], .o .box [.c (.int .i64 s.ver), .c (.int .i64 s.next), .sl 2 4 0 s.tabs.length (s.tabs.length * 4)]]) (h := heap3 0 s.tabs)
    (T := [.agg [.c (.int .i64 s.ver), .c (.int .i64 s.next), .sl 2 4 0 s.tabs.length (s.tabs.length * 4)]]) (T' := [.agg [.c (.int .i64 s.ver), .c (.int .i64 s.next), .sl 0 4 0 s.tabs.length (s.tabs.length * 4)]]) h2 (fun k hk hs => by rw [h3] at hs; cases hs) rfl (by simp [AV.rebL, AV.reb])
   rw [heap3_reb (· + 2) s.tabs 0 2 fun i hi => by omega] at hw
   have hrow : cpRow3 s s.tabs.length :: inner3 3 s.tabs = heap3 2 s.tabs := by simp [cpRow3, heap3, tabsA]
   rw [hrow]
   exact hw
end Go.Proofs.YthgoocdldnkogaaGreatDoor
