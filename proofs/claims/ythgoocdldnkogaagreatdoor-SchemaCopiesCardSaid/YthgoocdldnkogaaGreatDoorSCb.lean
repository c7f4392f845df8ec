import Derived.Test.YthgoocdldnkogaaGreatDoorSCa
namespace Go.Proofs.YthgoocdldnkogaaGreatDoor
set_option linter.unusedVariables false
set_option linter.unusedSimpArgs false
open Go.RowKit
attribute [local simp] isCut_nil isCut_region isCut_seq isCut_block isCut_loop isCut_cond isCut_skip isCut_exit isCut_ret isCut_range swapK putK altK condK_bool pickP_bool stepP stepO onPure_some onPure_none onImpl_some onImpl_none stepC onGP_some onGP_none onGV_some condG mkG onIt_it nextP_ptr takeP_eq takeV_some takeV_none takeU_some takeU_none takeQ takeW_some takeN_none takeN_some takeG_some takeO_some altO_some pureV binV2 eqF eqOp ovlV ovl2 rowAt capV binV intBin strBin isSh shV fldV ixV sliceV slice3V loadAV nilV lenV callV unV convV viewS cellsH loadV fldCut AV.ung AV.ungs AV.gc AV.cells AS.ev AS.put anyS gcsV gcO lens lnO gV guardV retK RetP_eq resV oneV anyRo loIx hiIx implO callP_clo evL gcsL clearV storeAV AS.push AS.setO appV appZ shortS copyV buildV partsV fillV srcV fzO okV isCell_c isCell_ptr isCell_sl isCell_fs isCell_fp isCell_clo rowZ_one rowZ_zero rowZ_2 rowZ_3 rowZ_4 rowZ_5 rowZ_6 rowZ_7 rowZ_8 rowZ_9 rowZ_10 rowZ_11 rowZ_12 noHo Value.oneCell' max2V min2V lookV updV updK updW cvals mkAt basV lenM msAt afterH putBack frzFrom frzO rebO backIx nilEq_sl nilEq_fs nilEq_ifn nilEq_ifh ifOp_eql ifOp_neq isLit nilOp_eql nilOp_neq AV.reb AV.rebL
attribute [local simp ↓] runK_skip runK_region runK_draw runK_seq runK_cut runK_cond runK_block runK_loop runK_exit runK_label runK_goto runK_ret runK_range contK_nil contK_seq contK_seq_ret contK_seq_exit contK_seq_goto contK_block contK_block_ret contK_block_goto contK_block_exit runO_nil runO_cons roundK_exit roundK_ret roundK_goto exitK_ret cutK_ret cutK_exit runE_done runE_nil runE_take runE_alt condG_true condG_false
set_option maxRecDepth 10000
def cpRow3 (s : SchS) (j : Nat) : AObj := .o (.row 28 4) (livs3 3 (s.tabs.take j) ++ tabsA (s.tabs.drop j))
def cpHead3 (s : SchS) (j : Nat) : List AObj := cpBox s :: cpRes :: cpRow3 s j :: inner3 3 (s.tabs.take j)
def cpSt3 (s : SchS) (j : Nat) : AS := ⟨slotsOf 51 [(1, .ptr 0 0 3), (2, .ptr 1 0 3), (12, .sl 2 4 0 s.tabs.length (s.tabs.length * 4)), (13, .c (.int .i64 (s.tabs.length : Nat))), (14, .c (.int .i64 (j : Nat)))], cpHead3 s j⟩
@[simp] theorem cpHead3_length (s : SchS) (j : Nat) : (cpHead3 s j).length = 3 + tot3 (s.tabs.take j) := by simp [cpHead3]; omega
theorem cp_round3 (s : SchS) (j : Nat) (hj : j < s.tabs.length) {E : Env} (hE : E.ho = noHo) (hln : E.ln0 = []) (bx : List AV) (N : Nat) (hN : N = 3 + tot3 (s.tabs.take j)) :
  Wk E ⟨(cpSt3 s (j + 1)).t, (cpHead3 s j ++ (.o .box bx :: grpH (N + 1) s.tabs[j])).set 2 (.o (.row 28 4) (List.take (j * 4) (livs3 3 (s.tabs.take j) ++ tabsA (s.tabs.drop j)) ++ (livA (N + 1) s.tabs[j] ++ List.drop (j * 4 + 4) (livs3 3 (s.tabs.take j) ++ tabsA (s.tabs.drop j)))))⟩ (cpSt3 s (j + 1)) := by
 have e1 : List.take (j * 4) (livs3 3 (s.tabs.take j) ++ tabsA (s.tabs.drop j)) = livs3 3 (s.tabs.take j) := List.take_left' (by simp; omega)
 have e2 : List.drop (j * 4 + 4) (livs3 3 (s.tabs.take j) ++ tabsA (s.tabs.drop j)) = tabsA (s.tabs.drop (j + 1)) := by
  rw [← List.getElem_cons_drop hj, show tabsA (s.tabs[j] :: s.tabs.drop (j + 1)) = tabA s.tabs[j] ++ tabsA (s.tabs.drop (j + 1)) from List.flatMap_cons .., ← List.append_assoc]
  exact List.drop_left' (by simp; omega)
 rw [e1, e2]
 have hsk : ∀ k, k < N → skipF N k = k := fun k hk => by simp [skipF, hk]
 have q1 : AV.rebL (skipF N) (livs3 3 (s.tabs.take j)) = livs3 3 (s.tabs.take j) := reb_livs3 _ _ _ _ fun i hi => hsk _ (by omega)
 have q2 : AV.rebL (skipF N) (livA N s.tabs[j]) = livA (N + 1) s.tabs[j] := by
  simp [livA, AV.rebL, AV.reb, skipF]
 have q3 : AV.rebL (skipF N) (tabsA (s.tabs.drop (j + 1))) = tabsA (s.tabs.drop (j + 1)) := rebL_isD' ((tabsA_all _).2 trivial)
 have q4 : livs3 3 (s.tabs.take (j + 1)) = livs3 3 (s.tabs.take j) ++ livA N s.tabs[j] := by
  rw [take_snoc _ _ hj, livs3_app]; simp [livs3, hN]
 have q5 : (inner3 3 (s.tabs.take j)).map (rebO (skipF N)) = inner3 3 (s.tabs.take j) := reb_inner3 _ _ _ _ fun i hi => hsk _ (by omega)
 have q6 : (grpH N s.tabs[j]).map (rebO (skipF N)) = grpH (N + 1) s.tabs[j] := reb_grp _ _ _ _ fun i hi => by simp only [skipF]; rw [if_neg (by omega)]; omega
 have hA : (cpHead3 s j ++ (.o .box bx :: grpH (N + 1) s.tabs[j])).set 2 (.o (.row 28 4) (livs3 3 (s.tabs.take j) ++ (livA (N + 1) s.tabs[j] ++ tabsA (s.tabs.drop (j + 1))))) =
   (cpBox s :: cpRes :: cpRow3 s (j + 1) :: inner3 3 (s.tabs.take j)).map (rebO (skipF N)) ++ .o .box bx :: (grpH N s.tabs[j]).map (rebO (skipF N)) := by
  rw [q6]
  simp only [cpHead3, List.cons_append, List.set_cons_succ, List.set_cons_zero, List.map_cons, q5, cpRow3, rebO_eq, rebL_app, q3, q4, q1, q2, List.append_assoc]
  simp only [cpBox, cpRes, rebO_eq, AV.rebL, AV.reb, hsk 2 (by omega)]
 have hB : cpHead3 s (j + 1) = (cpBox s :: cpRes :: cpRow3 s (j + 1) :: inner3 3 (s.tabs.take j)) ++ grpH N s.tabs[j] := by
  simp only [cpHead3]
  rw [take_snoc _ _ hj, inner3_app]; simp [inner3, hN]
 rw [hA]
 have hst : cpSt3 s (j + 1) = ⟨(cpSt3 s (j + 1)).t, cpHead3 s (j + 1)⟩ := rfl
 rw [hst, hB]
 refine wk_skip2 N hE (by rw [hln]; simp) (by simp; omega) ?_
 simp [cpSt3, slotsOf, anyS, AV.rebL, AV.reb, hsk 0 (by omega), hsk 1 (by omega), hsk 2 (by omega)]
def rowM (N : Nat) (l : List IdxS) (i : Nat) : AObj := .o (.row 49 5) (idx3 (N + 3) (l.take i) ++ idxsA (l.drop i))
def cpQ (P : List AObj) (N : Nat) (t : TabS) (i : Nat) : List AObj := P ++ (.o .box (livA (N + 1) t) :: rowL t.cols :: rowM N t.idxs i :: (t.idxs.take i).map rowI)
def cpT3 (s : SchS) (N : Nat) (t : TabS) (j i : Nat) : List AV := slotsOf 51 [(1, .ptr 0 0 3), (2, .ptr 1 0 3), (3, .c (.int .i64 (j : Nat))), (4, .ptr N 0 4), (12, .sl 2 4 0 s.tabs.length (s.tabs.length * 4)), (13, .c (.int .i64 (s.tabs.length : Nat))), (14, .c (.int .i64 (j : Nat))),
 (28, .sl (N + 2) 5 0 t.idxs.length (t.idxs.length * 5)), (29, .c (.int .i64 (t.idxs.length : Nat))), (30, .c (.int .i64 (i : Nat)))]
def cpIn3 (s : SchS) (P : List AObj) (N : Nat) (t : TabS) (j i : Nat) : AS := ⟨cpT3 s N t j i, cpQ P N t i⟩
theorem cp_in3 {E : Env} (hE : E.ho = noHo) (hln : E.ln0 = []) (s : SchS) {P : List AObj} {N : Nat} (hN : P.length = N) (hP : ∀ m, N ≤ m → P.map (rebO (skipF m)) = P) (t : TabS) (j i : Nat) (hi : i < t.idxs.length) (hN3 : 3 ≤ N) (bx : List AV) {T : List AV} (hT : wkL [] T (AV.rebL (skipF (N + 3 + i)) (cpT3 s N t j (i + 1)))) :
  Wk E ⟨T, (cpQ P N t i).set (N + 2) (.o (.row 49 5) ((idx3 (N + 3) (t.idxs.take i) ++ idxsA (t.idxs.drop i)).set (i * 5 + 2) (.sl (N + 3 + i + 1) 1 0 t.idxs[i].cols.length t.idxs[i].cols.length))) ++ [.o .box bx, rowI t.idxs[i]]⟩ (cpIn3 s P N t j (i + 1)) := by
 have hsk : ∀ k, k < N + 3 + i → skipF (N + 3 + i) k = k := fun k hk => by simp [skipF, hk]
 have hset : ∀ w, (cpQ P N t i).set (N + 2) w = P ++ (.o .box (livA (N + 1) t) :: rowL t.cols :: w :: (t.idxs.take i).map rowI) := fun w => by
  unfold cpQ; rw [appSet hN 2]; rfl
 have hil : (idx3 (N + 3) (t.idxs.take i)).length = i * 5 := by simp; omega
 have e1 : (idx3 (N + 3) (t.idxs.take i) ++ idxsA (t.idxs.drop i)).set (i * 5 + 2) (.sl (N + 3 + i + 1) 1 0 t.idxs[i].cols.length t.idxs[i].cols.length) = idx3 (N + 3) (t.idxs.take i) ++ (idx3 (N + 3 + i + 1) [t.idxs[i]] ++ idxsA (t.idxs.drop (i + 1))) := by
  rw [List.set_append_right _ _ (by omega), hil, Nat.add_sub_cancel_left, ← List.getElem_cons_drop hi, show idxsA (t.idxs[i] :: t.idxs.drop (i + 1)) = idxA t.idxs[i] ++ idxsA (t.idxs.drop (i + 1)) from List.flatMap_cons ..]
  simp [idxA, idx3]
 have e2 : idx3 (N + 3) (t.idxs.take (i + 1)) = idx3 (N + 3) (t.idxs.take i) ++ idx3 (N + 3 + i) [t.idxs[i]] := by
  rw [take_snoc _ _ hi, idx3_app]
  congr 2
  simp; omega
 have q1 : AV.rebL (skipF (N + 3 + i)) (idx3 (N + 3) (t.idxs.take i)) = idx3 (N + 3) (t.idxs.take i) := reb_idx3 _ _ _ _ fun k hk => hsk _ (by simp at hk; omega)
 have q2 : AV.rebL (skipF (N + 3 + i)) (idx3 (N + 3 + i) [t.idxs[i]]) = idx3 (N + 3 + i + 1) [t.idxs[i]] := reb_idx3 _ _ _ _ fun k hk => by
  simp only [List.length_singleton] at hk
  simp only [skipF]; rw [if_neg (by omega)]; omega
 have q3 : AV.rebL (skipF (N + 3 + i)) (idxsA (t.idxs.drop (i + 1))) = idxsA (t.idxs.drop (i + 1)) := rebL_isD' ((idxsA_all _).2 trivial)
 have q4 : AV.rebL (skipF (N + 3 + i)) (livA (N + 1) t) = livA (N + 1) t := by
  simp [livA, AV.rebL, AV.reb, hsk (N + 1) (by omega), hsk (N + 1 + 1) (by omega)]
 have q5 : ((t.idxs.take i).map rowI).map (rebO (skipF (N + 3 + i))) = (t.idxs.take i).map rowI := by
  rw [List.map_map]
  exact List.map_congr_left fun x _ => rowI_reb _ x
 rw [hset, e1]
 have hA : P ++ (.o .box (livA (N + 1) t) :: rowL t.cols :: .o (.row 49 5) (idx3 (N + 3) (t.idxs.take i) ++ (idx3 (N + 3 + i + 1) [t.idxs[i]] ++ idxsA (t.idxs.drop (i + 1)))) :: (t.idxs.take i).map rowI) =
   (P ++ (.o .box (livA (N + 1) t) :: rowL t.cols :: rowM N t.idxs (i + 1) :: (t.idxs.take i).map rowI)).map (rebO (skipF (N + 3 + i))) := by
  simp only [List.map_append, List.map_cons, hP _ (show N ≤ N + 3 + i by omega), q5, rowL_reb3, rowM, rebO_eq, q4, rebL_app, e2, q1, q2, q3, List.append_assoc]
 have hB : cpQ P N t (i + 1) = (P ++ (.o .box (livA (N + 1) t) :: rowL t.cols :: rowM N t.idxs (i + 1) :: (t.idxs.take i).map rowI)) ++ [rowI t.idxs[i]] := by
  unfold cpQ
  rw [take_snoc _ _ hi, List.map_append]
  simp only [List.map_cons, List.map_nil, List.append_assoc, List.cons_append]
 have hC : [rowI t.idxs[i]] = [rowI t.idxs[i]].map (rebO (skipF (N + 3 + i))) := by rw [List.map_cons, List.map_nil, rowI_reb]
 rw [hA]
 have hst : cpIn3 s P N t j (i + 1) = ⟨cpT3 s N t j (i + 1), cpQ P N t (i + 1)⟩ := rfl
 rw [hst, hB]
 refine Wk.trans (wk_eq (s' := ⟨AV.rebL (skipF (N + 3 + i)) (cpT3 s N t j (i + 1)), (P ++ (.o .box (livA (N + 1) t) :: rowL t.cols :: rowM N t.idxs (i + 1) :: (t.idxs.take i).map rowI)).map (rebO (skipF (N + 3 + i))) ++ .o .box bx :: [rowI t.idxs[i]].map (rebO (skipF (N + 3 + i)))⟩) (by rw [hln]; simp) (by rw [← hC]) hT) ?_
 exact wk_skip2 (N + 3 + i) hE (by rw [hln]; simp) (by simp [hN]; omega) rfl
end Go.Proofs.YthgoocdldnkogaaGreatDoor
