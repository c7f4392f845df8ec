import Derived.Test.YthgoocdldnkogaaGreatDoorSCc
import Derived.Test.YthgoocdldnkogaaGreatDoorHMj
namespace Go.Proofs.YthgoocdldnkogaaGreatDoor
set_option linter.unusedVariables false
set_option linter.unusedSimpArgs false
open Go.RowKit
attribute [local simp] isCut_nil isCut_region isCut_seq isCut_block isCut_loop isCut_cond isCut_skip isCut_exit isCut_ret isCut_range swapK putK altK condK_bool pickP_bool stepP stepO onPure_some onPure_none onImpl_some onImpl_none stepC onGP_some onGP_none onGV_some condG mkG onIt_it nextP_ptr takeP_eq takeV_some takeV_none takeU_some takeU_none takeQ takeW_some takeN_none takeN_some takeG_some takeO_some altO_some pureV binV2 eqF eqOp ovlV ovl2 rowAt capV binV intBin strBin isSh shV fldV ixV sliceV slice3V loadAV nilV lenV callV unV convV viewS cellsH loadV fldCut AV.ung AV.ungs AV.gc AV.cells AS.ev AS.put anyS gcsV gcO lens lnO gV guardV retK RetP_eq resV oneV anyRo loIx hiIx implO callP_clo evL gcsL clearV storeAV AS.push AS.setO appV appZ shortS copyV buildV partsV fillV srcV fzO okV isCell_c isCell_ptr isCell_sl isCell_fs isCell_fp isCell_clo rowZ_one rowZ_zero rowZ_2 rowZ_3 rowZ_4 rowZ_5 rowZ_6 rowZ_7 rowZ_8 rowZ_9 rowZ_10 rowZ_11 rowZ_12 noHo Value.oneCell' max2V min2V lookV updV updK updW cvals mkAt basV lenM msAt afterH putBack frzFrom frzO rebO backIx nilEq_sl nilEq_fs nilEq_ifn nilEq_ifh ifOp_eql ifOp_neq isLit nilOp_eql nilOp_neq AV.reb AV.rebL
attribute [local simp ↓] runK_skip runK_region runK_draw runK_seq runK_cut runK_cond runK_block runK_loop runK_exit runK_label runK_goto runK_ret runK_range contK_nil contK_seq contK_seq_ret contK_seq_exit contK_seq_goto contK_block contK_block_ret contK_block_goto contK_block_exit runO_nil runO_cons roundK_exit roundK_ret roundK_goto exitK_ret cutK_ret cutK_exit runE_done runE_nil runE_take runE_alt condG_true condG_false
set_option maxRecDepth 10000
theorem livs3_at (o : Nat) (A : List TabS) (t : TabS) (B : List TabS) (q : Nat) (hq : q < 4) : (livs3 o (A ++ t :: B))[A.length * 4 + q]? = (livA (o + tot3 A) t)[q]? := by
 rw [livs3_app, List.getElem?_append_right (by simp), livs3_length, Nat.add_sub_cancel_left]
 simp only [livs3]
 rw [List.getElem?_append_left (by simpa using hq)]
theorem inner3_at (o : Nat) (A : List TabS) (t : TabS) (B : List TabS) (q : Nat) (hq : q < 2 + t.idxs.length) : (inner3 o (A ++ t :: B))[tot3 A + q]? = (grpH (o + tot3 A) t)[q]? := by
 rw [inner3_app, List.getElem?_append_right (by simp), inner3_length, Nat.add_sub_cancel_left]
 simp only [inner3]
 rw [List.getElem?_append_left (by simpa using hq)]
theorem inner3_upd (o : Nat) (A : List TabS) (t t' : TabS) (B : List TabS) (q : Nat) (y : AObj) (hq : q < 2 + t.idxs.length) (hx : t'.idxs.length = t.idxs.length) (hg : (grpH (o + tot3 A) t).set q y = grpH (o + tot3 A) t') :
  (inner3 o (A ++ t :: B)).set (tot3 A + q) y = inner3 o (A ++ t' :: B) := by
 rw [inner3_app, inner3_app, List.set_append_right _ _ (by simp), inner3_length, Nat.add_sub_cancel_left]
 simp only [inner3]
 rw [List.set_append_left _ _ (by simpa using hq), hg, hx]
theorem livs3_same (o : Nat) (A : List TabS) (t t' : TabS) (B : List TabS) (hl : ∀ g, livA g t' = livA g t) (hx : t'.idxs.length = t.idxs.length) : livs3 o (A ++ t' :: B) = livs3 o (A ++ t :: B) := by
 rw [livs3_app, livs3_app]
 simp only [livs3, hl, hx]
theorem heap3_upd (o : Nat) (A : List TabS) (t t' : TabS) (B : List TabS) (q : Nat) (y : AObj) (hq : q < 2 + t.idxs.length) (hl : ∀ g, livA g t' = livA g t) (hx : t'.idxs.length = t.idxs.length) (hg : (grpH (o + 1 + tot3 A) t).set q y = grpH (o + 1 + tot3 A) t') :
  (heap3 o (A ++ t :: B)).set (1 + tot3 A + q) y = heap3 o (A ++ t' :: B) := by
 unfold heap3
 rw [show 1 + tot3 A + q = (tot3 A + q) + 1 by omega, List.set_cons_succ, inner3_upd (o + 1) A t t' B q y hq hx hg, livs3_same (o + 1) A t t' B hl hx]
theorem heap3_col (o : Nat) (A : List TabS) (t : TabS) (B : List TabS) (k : Nat) (hk : k < t.cols.length) (v : Int) :
  (heap3 o (A ++ t :: B)).set (1 + tot3 A) (.o (.row 44 10) ((colsA t.cols).set (k * 10 + 9) (.c (.int .i64 v)))) = heap3 o (A ++ { t with cols := t.cols.set k { t.cols[k] with st := v } } :: B) := by
 have h := heap3_upd o A t { t with cols := t.cols.set k { t.cols[k] with st := v } } B 0 (.o (.row 44 10) ((colsA t.cols).set (k * 10 + 9) (.c (.int .i64 v)))) (by omega) (fun g => by simp [livA]) rfl (by rw [colA_setst _ _ hk]; rfl)
 exact h
theorem idx3_same : ∀ (l : List IdxS) (o k : Nat) (hk : k < l.length) (c : List Int), c.length = l[k].cols.length → idx3 o (l.set k { l[k] with cols := c }) = idx3 o l
 | x :: l, o, 0, _, c, h => by simp at h; simp [idx3, h]
 | x :: l, o, k + 1, hk, c, h => by
  simp only [List.set_cons_succ, idx3, List.getElem_cons_succ]
  rw [idx3_same l (o + 1) k (by simpa using hk) c h]
theorem heap3_int (o : Nat) (A : List TabS) (t : TabS) (B : List TabS) (k : Nat) (hk : k < t.idxs.length) (m : Nat) (v : Int) :
  (heap3 o (A ++ t :: B)).set (1 + tot3 A + (2 + k)) (.o (.row 3 1) ((intsA t.idxs[k].cols).set m (.c (.int .i64 v)))) = heap3 o (A ++ { t with idxs := t.idxs.set k { t.idxs[k] with cols := t.idxs[k].cols.set m v } } :: B) := by
 refine heap3_upd o A t _ B (2 + k) _ (by omega) (fun g => by simp [livA]) (by simp) ?_
 have e1 : (intsA t.idxs[k].cols).set m (.c (.int .i64 v)) = intsA (t.idxs[k].cols.set m v) := by simp [intsA, List.map_set]
 rw [e1, show 2 + k = k + 1 + 1 by omega]
 simp only [grpH, List.set_cons_succ]
 have e2 : rowX3 (o + 1 + tot3 A + 2) (t.idxs.set k { t.idxs[k] with cols := t.idxs[k].cols.set m v }) = rowX3 (o + 1 + tot3 A + 2) t.idxs := by
  unfold rowX3
  rw [idx3_same _ _ _ hk _ (by simp)]
 rw [e2, List.map_set]
 rfl
theorem heap3_name (o : Nat) (A : List TabS) (t : TabS) (B : List TabS) (nm : ByteArray) :
  (heap3 o (A ++ t :: B)).set 0 (.o (.row 28 4) ((livs3 (o + 1) (A ++ t :: B)).set (A.length * 4 + 1) (.c (.string nm)))) = heap3 o (A ++ { t with name := nm } :: B) := by
 unfold heap3
 rw [List.set_cons_zero]
 have e1 : (livs3 (o + 1) (A ++ t :: B)).set (A.length * 4 + 1) (.c (.string nm)) = livs3 (o + 1) (A ++ { t with name := nm } :: B) := by
  rw [livs3_app, livs3_app, List.set_append_right _ _ (by simp), livs3_length, Nat.add_sub_cancel_left]
  simp only [livs3]
  rw [List.set_append_left _ _ (by simp)]
  rfl
 have e2 : inner3 (o + 1) (A ++ { t with name := nm } :: B) = inner3 (o + 1) (A ++ t :: B) := by
  rw [inner3_app, inner3_app]; rfl
 rw [e1, e2]
theorem idx3_at : ∀ (l : List IdxS) (o k : Nat) (hk : k < l.length), (idx3 o l)[k * 5 + 2]? = some (.sl (o + k) 1 0 l[k].cols.length l[k].cols.length)
 | x :: l, o, 0, _ => by simp [idx3]
 | x :: l, o, k + 1, hk => by
  simp only [idx3, List.getElem_cons_succ]
  rw [List.getElem?_append_right (by simp; omega)]
  have h := idx3_at l (o + 1) k (by simpa using hk)
  rw [show o + 1 + k = o + (k + 1) by omega] at h
  rw [← h]
  congr 1
  simp; omega
theorem call_sch3 {P : Program} {E : Env} {s : AS} {g : FuncId} {args cargs : List AV} {K : AV → AS → Prop} {st : Nat → Bool} {v : AV} {l : List TabS} (n : Nat) (hn : s.h.length = n) {pa : Prop} (hc : ACalls P g cargs [] st (fun r h' => r = v ∧ h' = heap3 0 l))
  (ha : AV.convL [] (fun _ => false) s.h args = some (pa, cargs)) (hE : E.ho = noHo) (hp : pa) (hK : K (v.reb (backIx [] n)) ⟨s.t, s.h ++ heap3 n l⟩) : CallG P E g args s K := by
 subst hn
 refine call_x [] hc ha rfl ⟨rfl, rfl⟩ hE (by simp) (by simp) ⟨hp, trivial⟩ (by simp) ?_
 have e : (heap3 0 l).map (rebO (backIx [] s.h.length)) = heap3 s.h.length l := heap3_reb _ _ _ _ fun i _ => by simp [backIx]
 have e2 : afterH [] (fun _ => false) s.h (heap3 0 l) = s.h ++ heap3 s.h.length l := by
  simp only [afterH, putBack, frz_no, List.drop_zero, List.length_nil]
  rw [e]
 rw [e2]
 exact hK
end Go.Proofs.YthgoocdldnkogaaGreatDoor
