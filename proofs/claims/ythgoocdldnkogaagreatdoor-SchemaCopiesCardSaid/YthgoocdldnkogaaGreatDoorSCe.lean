import Derived.Test.YthgoocdldnkogaaGreatDoorSCd
import Derived.Test.YthgoocdldnkogaaGreatDoorZu
import Derived.Test.YthgoocdldnkogaaGreatDoorZI
import Derived.Test.YthgoocdldnkogaaGreatDoorHJ
import Derived.Test.YthgoocdldnkogaaGreatDoorHZ2
namespace Go.Proofs.YthgoocdldnkogaaGreatDoor
set_option linter.unusedVariables false
set_option linter.unusedSimpArgs false
open Go.RowKit
attribute [local simp] isCut_nil isCut_region isCut_seq isCut_block isCut_loop isCut_cond isCut_skip isCut_exit isCut_ret isCut_range swapK putK altK condK_bool pickP_bool stepP stepO onPure_some onPure_none onImpl_some onImpl_none stepC onGP_some onGP_none onGV_some condG mkG onIt_it nextP_ptr takeP_eq takeV_some takeV_none takeU_some takeU_none takeQ takeW_some takeN_none takeN_some takeG_some takeO_some altO_some pureV binV2 eqF eqOp ovlV ovl2 rowAt capV binV intBin strBin isSh shV fldV ixV sliceV slice3V loadAV nilV lenV callV unV convV viewS cellsH loadV fldCut AV.ung AV.ungs AV.gc AV.cells AS.ev AS.put anyS gcsV gcO lens lnO gV guardV retK RetP_eq resV oneV anyRo loIx hiIx implO callP_clo evL gcsL clearV storeAV AS.push AS.setO appV appZ shortS copyV buildV partsV fillV srcV fzO okV isCell_c isCell_ptr isCell_sl isCell_fs isCell_fp isCell_clo rowZ_one rowZ_zero rowZ_2 rowZ_3 rowZ_4 rowZ_5 rowZ_6 rowZ_7 rowZ_8 rowZ_9 rowZ_10 rowZ_11 rowZ_12 noHo Value.oneCell' max2V min2V lookV updV updK updW cvals mkAt basV lenM msAt afterH putBack frzFrom frzO rebO backIx nilEq_sl nilEq_fs nilEq_ifn nilEq_ifh ifOp_eql ifOp_neq isLit nilOp_eql nilOp_neq AV.reb AV.rebL
attribute [local simp ↓] runK_skip runK_region runK_draw runK_seq runK_cut runK_cond runK_block runK_loop runK_exit runK_label runK_goto runK_ret runK_range contK_nil contK_seq contK_seq_ret contK_seq_exit contK_seq_goto contK_block contK_block_ret contK_block_goto contK_block_exit runO_nil runO_cons roundK_exit roundK_ret roundK_goto exitK_ret cutK_ret cutK_exit runE_done runE_nil runE_take runE_alt condG_true condG_false
set_option maxRecDepth 10000
def scC (a : SchS) (n : Nat) : AObj := .o .box [.c (.int .i64 a.ver), .c (.int .i64 a.next), .sl 2 4 0 n (n * 4)]
def scZ (a b : SchS) (n : Nat) (L : List TabS) : List AObj := .o .box (schA a) :: .o .box (schA b) :: (heap3 2 L ++ [scC a n])
@[simp] theorem scZ_length (a b : SchS) (n : Nat) (L : List TabS) : (scZ a b n L).length = 4 + tot3 L := by simp [scZ]; omega
theorem scZ_at (a b : SchS) (n : Nat) (L : List TabS) (q : Nat) (hq : q < 1 + tot3 L) : (scZ a b n L)[2 + q]? = (heap3 2 L)[q]? := by
 unfold scZ
 rw [show 2 + q = q + 1 + 1 by omega, List.getElem?_cons_succ, List.getElem?_cons_succ, List.getElem?_append_left (by simpa using hq)]
theorem scZ_c (a b : SchS) (n : Nat) (L : List TabS) : (scZ a b n L)[3 + tot3 L]? = some (scC a n) := by
 unfold scZ
 rw [show 3 + tot3 L = (1 + tot3 L) + 1 + 1 by omega, List.getElem?_cons_succ, List.getElem?_cons_succ, List.getElem?_append_right (by simp)]
 simp
theorem scZ_set (a b : SchS) (n : Nat) (L L' : List TabS) (q : Nat) (y : AObj) (hq : q < 1 + tot3 L) (h : (heap3 2 L).set q y = heap3 2 L') : (scZ a b n L).set (2 + q) y = scZ a b n L' := by
 unfold scZ
 rw [show 2 + q = q + 1 + 1 by omega, List.set_cons_succ, List.set_cons_succ, List.set_append_left _ _ (by simpa using hq), h]
structure ZAt (a b : SchS) (n : Nat) (A : List TabS) (t : TabS) (B : List TabS) (g M : Nat) (Z : List AObj) (D : List AV) : Prop where
 len : Z.length = M + 1
 z0 : Z[0]? = some (.o .box (schA a))
 z2 : Z[2]? = some (.o (.row 28 4) D)
 zM : Z[M]? = some (scC a n)
 zg : Z[g]? = some (rowL t.cols)
 zx : Z[g + 1]? = some (.o (.row 49 5) (idx3 (g + 2) t.idxs))
 zi : ∀ k x, t.idxs[k]? = some x → Z[g + 2 + k]? = some (rowI x)
 dl : D.length = (A ++ t :: B).length * 4
 d1 : D[A.length * 4 + 1]? = some (.c (.string t.name))
 d2 : D[A.length * 4 + 2]? = some (.sl g 10 0 t.cols.length (t.cols.length * 10))
 d3 : D[A.length * 4 + 3]? = some (.sl (g + 1) 5 0 t.idxs.length (t.idxs.length * 5))
theorem scZ_z (a b : SchS) (n : Nat) (A : List TabS) (t : TabS) (B : List TabS) : ZAt a b n A t B (3 + tot3 A) (3 + (tot3 A + (2 + t.idxs.length + tot3 B))) (scZ a b n (A ++ t :: B)) (livs3 3 (A ++ t :: B)) := by
 have ht : tot3 (A ++ t :: B) = tot3 A + (2 + t.idxs.length + tot3 B) := by rw [tot3_app]; rfl
 have hin : ∀ q y, q < 2 + t.idxs.length → (grpH (3 + tot3 A) t)[q]? = some y → (scZ a b n (A ++ t :: B))[3 + tot3 A + q]? = some y := fun q y hq h => by
  rw [show 3 + tot3 A + q = 2 + (tot3 A + q + 1) by omega, scZ_at _ _ _ _ _ (by omega)]
  unfold heap3
  rw [List.getElem?_cons_succ, inner3_at _ _ _ _ _ hq]; exact h
 refine ⟨by rw [scZ_length, ht]; omega, rfl, ?_, ?_, ?_, ?_, fun k x hx => ?_, by simp, ?_, ?_, ?_⟩
 ·rw [show (2 : Nat) = 2 + 0 from rfl, scZ_at _ _ _ _ _ (by omega)]; rfl
 ·have := scZ_c a b n (A ++ t :: B); rwa [ht] at this
 ·exact hin 0 _ (by omega) rfl
 ·exact hin 1 _ (by omega) rfl
 ·have hk := (List.getElem?_eq_some_iff.1 hx).1
  have := hin (2 + k) (rowI x) (by omega) (by rw [show 2 + k = k + 1 + 1 by omega]; simp [grpH, hx])
  rwa [show 3 + tot3 A + (2 + k) = 3 + tot3 A + 2 + k by omega] at this
 ·rw [livs3_at _ _ _ _ _ (by omega)]; rfl
 ·rw [livs3_at _ _ _ _ _ (by omega)]; rfl
 ·rw [livs3_at _ _ _ _ _ (by omega)]; rfl
theorem cv_two {h : List AObj} {ok : Nat → Prop} {u1 u2 v1 v2 : AV} (h1 : DeepV h ok u1 v1) (h2 : DeepV h ok u2 v2) : ∀ (j : Nat) (u u' : AV), [u1, u2][j]? = some u → [v1, v2][j]? = some u' → DeepV h ok u u'
 | 0, u, u', e1, e2 => by simp at e1 e2; subst e1 e2; exact h1
 | 1, u, u', e1, e2 => by simp at e1 e2; subst e1 e2; exact h2
 | j + 2, u, u', e1, e2 => by simp at e1
theorem deep_self {h : List AObj} {ok : Nat → Prop} (s : SchS) : DeepV h ok (.agg (schA s)) (.agg (schA s)) :=
 .agg _ _ rfl fun j u u' e1 e2 => by
  rw [e1] at e2; injection e2 with e2; subst e2
  exact .d _ _ (.d _ ((schA_all s).2 trivial _ (List.mem_of_getElem? e1)))
def SzT (t : TabS) : Prop := t.cols.length ≤ 20 ∧ t.idxs.length ≤ 20 ∧ ∀ x ∈ t.idxs, x.cols.length ≤ 20
def scD (a : SchS) (n M : Nat) : AObj := .o .box [.c (.int .i64 a.ver), .c (.int .i64 a.next), .sl (M + 1) 4 0 n (n * 4)]
def FirstNe (a : SchS) (L : List TabS) : Prop := ∀ t0 s0, L[0]? = some t0 → a.tabs[0]? = some s0 → t0.name.size = s0.name.size + 1
def scT (M : Nat) : List (Nat × AV) := [(2, .ptr 0 0 3), (5, .ptr M 0 3)]
def scM (M n j : Nat) : List (Nat × AV) := scT M ++ [(43, .sl 2 4 0 n (n * 4)), (44, .c (.int .i64 (n : Nat))), (45, .c (.int .i64 (j : Nat)))]
def scSt (a b : SchS) (M n : Nat) (y : Nat × List TabS) : AS := ⟨slotsOf 138 (scM M n y.1), scZ a b n y.2⟩
def scCol (a b : SchS) (M n g j nc : Nat) (A B : List TabS) (y : Nat × TabS) : AS := ⟨slotsOf 138 (scM M n j ++ [(6, .c (.int .i64 (j : Nat))), (62, .sl g 10 0 nc (nc * 10)), (63, .c (.int .i64 (nc : Nat))), (64, .c (.int .i64 (y.1 : Nat)))]), scZ a b n (A ++ y.2 :: B)⟩
def scIdx (a b : SchS) (M n g j ni : Nat) (A B : List TabS) (y : Nat × TabS) : AS := ⟨slotsOf 138 (scM M n j ++ [(6, .c (.int .i64 (j : Nat))), (86, .sl (g + 1) 5 0 ni (ni * 5)), (87, .c (.int .i64 (ni : Nat))), (88, .c (.int .i64 (y.1 : Nat)))]), scZ a b n (A ++ y.2 :: B)⟩
def scInt (a b : SchS) (M n g j ni k nk : Nat) (A B : List TabS) (y : Nat × TabS) : AS := ⟨slotsOf 138 (scM M n j ++ [(6, .c (.int .i64 (j : Nat))), (86, .sl (g + 1) 5 0 ni (ni * 5)), (87, .c (.int .i64 (ni : Nat))), (88, .c (.int .i64 (k : Nat))), (8, .c (.int .i64 (k : Nat))), (100, .sl (g + 2 + k) 1 0 nk nk), (101, .c (.int .i64 (nk : Nat))), (102, .c (.int .i64 (y.1 : Nat)))]), scZ a b n (A ++ y.2 :: B)⟩
set_option maxHeartbeats 16000000 in
theorem scopies_w (a : SchS) (hoa : a.Ok) (b : SchS) (hob : b.Ok) : ACalls Tryz.prog 6 [.agg (schA a), .agg (schA b)] [] (fun _ => false) (fun r h' => r = .c (.bool true)) := by
 refine acallsC [6, 28] mixed Tryz.func6 rfl Tryz.ntmps6 rfl fun E hE hst hho => ?_
 have hsc : ∀ s : SchS, schA s = [.c (.int .i64 s.ver), .c (.int .i64 s.next), .fs 4 s.tabs.length (tabsA s.tabs)] := fun _ => rfl
 obtain ⟨R, hR⟩ : ∃ R : Bool, R = true ↔ SchFit a := ⟨@decide (SchFit a) (Classical.propDecidable _), by simp⟩
 obtain ⟨R2, hR2⟩ : ∃ R : Bool, R = true ↔ SchFit b := ⟨@decide (SchFit b) (Classical.propDecidable _), by simp⟩
 have c0 := small_r12 a R hR
 have c2 := small_r12 b R2 hR2
 simp only [hsc] at c0 c2
 simp (maxSteps := 1000000) [hho, noHo, hsc, -List.reduceReplicate]
 refine call_0 (first12_w) rfl rfl hho (by simp) ?_
 simp (maxSteps := 1000000) [hho, noHo, -List.reduceReplicate]
 refine call_0 (c0) rfl rfl hho (by simp) ?_
 cases R with
 | false =>
  simp (maxSteps := 1000000) [hho, noHo, undef, onGP_none, condG_false, -List.reduceReplicate]
  exact Ret.drop (by rfl) rfl
 | true =>
 simp (maxSteps := 1000000) [hho, noHo, undef, onGP_none, condG_false, -List.reduceReplicate]
 refine call_0 (c2) rfl rfl hho (by simp) ?_
 cases R2 with
 | false =>
  simp (maxSteps := 1000000) [hho, noHo, undef, onGP_none, condG_false, -List.reduceReplicate]
  exact Ret.drop (by rfl) rfl
 | true =>
 have hf := hR.1 rfl
 have hf2 := hR2.1 rfl
 have hn := hf.1
 have hn2 := hf2.1
 have hsz : ∀ t ∈ a.tabs, SzT t := fun t ht => by
  obtain ⟨h1, h2, h3, h4, h5⟩ := hf.2 t ht
  exact ⟨h2, h3, fun x hx => (h5 x hx).2⟩
 have hnm : ∀ t ∈ a.tabs, t.name.size ≤ 100 := fun t ht => (hf.2 t ht).1
 have hbg : ∀ t ∈ a.tabs, t.cols.length ≤ 1000000 ∧ t.idxs.length ≤ 1000000 ∧ ∀ x ∈ t.idxs, x.cols.length ≤ 1000000 := fun t ht => by
  obtain ⟨h1, h2, h3⟩ := hsz t ht
  exact ⟨by omega, by omega, fun x hx => by have := h3 x hx; omega⟩
 have c3 := copy3_w a (by omega) hbg
 simp only [hsc] at c3
 obtain ⟨n, hnn⟩ : ∃ n, n = a.tabs.length := ⟨_, rfl⟩
 obtain ⟨M, hM⟩ : ∃ M, M = 3 + tot3 a.tabs := ⟨_, rfl⟩
 have hM3 : 3 ≤ M := by omega
 simp (maxSteps := 1000000) [hho, noHo, undef, onGP_none, condG_false, -List.reduceReplicate]
 refine seq_cut mixed [] (fun _ : Unit => ⟨slotsOf 138 ([(3, .ptr 1 0 3)] ++ scT M), scZ a b n a.tabs⟩) (fun _ => True) ?_ ?_
 rotate_left
 ·simp (maxSteps := 1000000) [hho, noHo, hsc, -List.reduceReplicate]
  refine call_sch3 2 rfl c3 rfl hho (by simp) ?_
  obtain ⟨H, hH⟩ : ∃ H, H = heap3 2 a.tabs := ⟨_, rfl⟩
  have hHl : H.length = 1 + tot3 a.tabs := by rw [hH]; simp
  rw [← hH]
  simp (maxSteps := 1000000) [hho, noHo, backIx, hHl, hsc, -List.reduceReplicate]
  refine cut_to () trivial ?_
  exact wk_eq (by simp [hE, lens]) (by simp [scZ, scC, hH, hsc, hnn]) (by simp [livH, livO, AV.livL, AV.liv, wkL, wkV, List.range', scT, slotsOf]; omega)
 intro _ _
 -- the first comparisons
 have hzl : (scZ a b n a.tabs).length = M + 1 := by simp; omega
 have hz0 : (scZ a b n a.tabs)[0]? = some (.o .box (schA a)) := rfl
 have hz1 : (scZ a b n a.tabs)[1]? = some (.o .box (schA b)) := rfl
 have hzM : (scZ a b n a.tabs)[M]? = some (scC a n) := by rw [hM]; exact scZ_c a b n a.tabs
 obtain ⟨D0, hD0⟩ : ∃ D0, D0 = livs3 3 a.tabs := ⟨_, rfl⟩
 have hdl0 : D0.length = n * 4 := by rw [hD0, hnn]; simp
 have hz2 : (scZ a b n a.tabs)[2]? = some (.o (.row 28 4) D0) := by
  rw [show (2 : Nat) = 2 + 0 from rfl, scZ_at _ _ _ _ _ (by omega), hD0]; rfl
 have hdeep : ∀ (L : List TabS) (Z : List AObj), L.length = n → (∀ t ∈ L, SzT t) → (∀ k x, (heap3 2 L)[k]? = some x → Z[2 + k]? = some x) → DeepV Z (fun _ => True) (.agg [.c (.int .i64 a.ver), .c (.int .i64 a.next), .sl 2 4 0 n (n * 4)]) (.agg (schA ⟨a.ver, a.next, L⟩)) := fun L Z h1 h2 h3 => by
  have h := deep3_sch (h := Z) 2 a.ver a.next L h3 (by unfold maxLen; omega) fun t ht => by
   obtain ⟨q1, q2, q3⟩ := h2 t ht
   exact ⟨by unfold maxLen; omega, by unfold maxLen; omega, fun x hx => by have := q3 x hx; unfold maxLen; omega⟩
  rw [h1] at h; exact h
 have hda : DeepV (scZ a b n a.tabs) (fun _ => True) (.agg [.c (.int .i64 a.ver), .c (.int .i64 a.next), .sl 2 4 0 n (n * 4)]) (.agg (schA a)) := hdeep a.tabs _ hnn.symm hsz fun k x hk => by
  rw [scZ_at _ _ _ _ _ (by have := (List.getElem?_eq_some_iff.1 hk).1; simpa using this)]; exact hk
 have e1 := same_r12 a a (by omega) hbg true (by simp)
 have hbb : ∀ t ∈ b.tabs, t.cols.length ≤ 1000000 ∧ t.idxs.length ≤ 1000000 ∧ ∀ x ∈ t.idxs, x.cols.length ≤ 1000000 := fun t ht => by
  obtain ⟨h1, h2, h3, h4, h5⟩ := hf2.2 t ht
  exact ⟨by omega, by omega, fun x hx => by have := (h5 x hx).2; omega⟩
 have e2 := same_sc a b (by omega) hbg
 have e3 := same_r12 a b (by omega) hbg (eqB a b) (eqB_iff _ _)
 have e4 := same_sc a a (by omega) hbg
 rw [show eqB a a = true from (eqB_iff a a).2 rfl] at e4
 obtain ⟨w, hw⟩ : ∃ w, w = eqB a b := ⟨_, rfl⟩
 rw [← hw] at e2 e3
 obtain ⟨Z, hZ⟩ : ∃ Z, Z = scZ a b n a.tabs := ⟨_, rfl⟩
 rw [← hZ] at hzl hz0 hz1 hzM hz2 hda ⊢
 simp only [scC, hsc] at hz0 hz1 hzM
 have kz0 := fun h => gq hz0 h
 have kz1 := fun h => gq hz1 h
 have kzM := fun h => gq hzM h
 have l0 : (List.map lnO Z)[0]? = some 3 := by rw [List.getElem?_map, hz0]; rfl
 have l1 : (List.map lnO Z)[1]? = some 3 := by rw [List.getElem?_map, hz1]; rfl
 have lM : (List.map lnO Z)[M]? = some 3 := by rw [List.getElem?_map, hzM]; rfl
 have kl0 := fun h => gq l0 h
 have kl1 := fun h => gq l1 h
 have klM := fun h => gq lM h
 have n0 : ¬ M = 0 := by omega
 have n1 : ¬ M = 1 := by omega
 have n2 : ¬ 0 = M := by omega
 have n3 : ¬ 1 = M := by omega
 simp only [scT, List.cons_append, List.nil_append]
 simp (maxSteps := 1000000) [hho, noHo, slotsOf, hz0, hz1, hzM, hzl, -List.reduceReplicate]
 refine draw_k hho (.take 0 (.take 1 (.alt 2 (.take 3 (.take 4 (.take 5 (.take 6 (.take 8 (.take 9 (.alt 7 (.alt 10 (.take 11 (.take 12 (.take 13 (.take 14 (.take 15 (.alt 16 (.take 17 (.take 18 (.done))) (.nil))))))) (.nil)) (.nil)))))))) (.nil)))) [0, 1, M] [] (by decide +kernel) (by simp [hzl]; omega) ?_
 simp (maxSteps := 1000000) [hho, noHo, hz0, hz1, hzM, hzl, kz0, kz1, kzM, l0, l1, lM, kl0, kl1, klM, n0, n1, n2, n3, hz2, hdl0, roOf, holdOf, wrOf, altK, heldOk, Region.binds, -List.reduceReplicate]
 intro E1
 refine call_data e1 rfl (cv_two (deep_self a) hda) (fun r h' ⟨q1, q2⟩ => ?_)
 subst q1 q2
 refine ⟨rfl, ?_⟩
 simp (maxSteps := 1000000) [hho, noHo, hz0, hz1, hzM, hzl, kz0, kz1, kzM, l0, l1, lM, kl0, kl1, klM, n0, n1, n2, n3, hz2, hdl0, roOf, holdOf, wrOf, altK, heldOk, Region.binds, -List.reduceReplicate]
 intro E2
 refine call_data e2 rfl (cv_two (deep_self a) (deep_self b)) (fun r h' ⟨q1, q2⟩ => ?_)
 subst q1 q2
 refine ⟨rfl, ?_⟩
 simp (maxSteps := 1000000) [hho, noHo, hz0, hz1, hzM, hzl, kz0, kz1, kzM, l0, l1, lM, kl0, kl1, klM, n0, n1, n2, n3, hz2, hdl0, roOf, holdOf, wrOf, altK, heldOk, Region.binds, -List.reduceReplicate]
 intro E3
 refine call_data e3 rfl (cv_two (deep_self a) (deep_self b)) (fun r h' ⟨q1, q2⟩ => ?_)
 subst q1 q2
 refine ⟨rfl, ?_⟩
 simp (maxSteps := 1000000) [hho, noHo, hz0, hz1, hzM, hzl, kz0, kz1, kzM, l0, l1, lM, kl0, kl1, klM, n0, n1, n2, n3, hz2, hdl0, roOf, holdOf, wrOf, altK, heldOk, Region.binds, -List.reduceReplicate]
 intro E4
 refine call_data e4 rfl (cv_two (deep_self a) hda) (fun r h' ⟨q1, q2⟩ => ?_)
 subst q1 q2
 refine ⟨rfl, ?_⟩
 simp (maxSteps := 1000000) [hho, noHo, hz0, hz1, hzM, hzl, kz0, kz1, kzM, l0, l1, lM, kl0, kl1, klM, n0, n1, n2, n3, hz2, hdl0, roOf, holdOf, wrOf, altK, heldOk, Region.binds, -List.reduceReplicate]
 obtain ⟨SM, hSM⟩ : ∃ S, S = scSt a b M n := ⟨_, rfl⟩
 refine loop_k2c [12] mixed SM (fun y => n - y.1) (fun y => y.1 ≤ n ∧ y.2.length = n ∧ tot3 y.2 = tot3 a.tabs ∧ (∀ t ∈ y.2, SzT t) ∧ (∀ i, y.1 ≤ i → y.2[i]? = a.tabs[i]?) ∧ (0 < y.1 → FirstNe a y.2)) (0, a.tabs) (fun L : List TabS => ⟨slotsOf 138 (scT M), scZ a b n L⟩) (fun L => L.length = n ∧ tot3 L = tot3 a.tabs ∧ (∀ t ∈ L, SzT t) ∧ (0 < n → FirstNe a L)) 0 ⟨Nat.zero_le _, hnn.symm, rfl, hsz, fun _ _ => rfl, fun h => absurd h (Nat.lt_irrefl _)⟩ ?_ ?_ ?_
 ·rw [hSM]
  exact wk_eq (by simp [hE, lens]) (by simp [scSt, hZ]) (by simp [livH, livO, AV.livL, AV.liv, wkL, wkV, List.range', scSt, scM, scT, slotsOf])
 ·rintro L ⟨h1, h2, h3, h4⟩
  have zl : (scZ a b n L).length = M + 1 := by rw [scZ_length, h2]; omega
  have z0 : (scZ a b n L)[0]? = some (.o .box (schA a)) := rfl
  have zM : (scZ a b n L)[M]? = some (scC a n) := by
   have h := scZ_c a b n L
   rwa [h2, ← hM] at h
  have zd : ∀ k x, (heap3 2 L)[k]? = some x → (scZ a b n L)[2 + k]? = some x := fun k x hk => by
   rw [scZ_at _ _ _ _ _ (by have := (List.getElem?_eq_some_iff.1 hk).1; simpa using this)]; exact hk
  obtain ⟨Y, hY⟩ : ∃ Y, Y = scZ a b n L := ⟨_, rfl⟩
  rw [← hY] at zl z0 zM zd ⊢
  simp only [scC, hsc] at z0 zM
  have kz0 := fun h => gq z0 h
  simp only [scT]
  obtain ⟨P, hP⟩ : ∃ P, P = M + 1 + (1 + tot3 a.tabs) := ⟨_, rfl⟩
  simp (maxSteps := 1000000) [hho, noHo, slotsOf, zl, z0, kz0, -List.reduceReplicate]
  refine seq_cut mixed [] (fun _ : Unit => ⟨slotsOf 138 [(2, .ptr 0 0 3), (5, .ptr M 0 3), (10, .ptr P 0 3)], Y ++ (heap3 (M + 1) a.tabs ++ [scD a n M])⟩) (fun _ => True) ?_ ?_
  rotate_left
  ·simp (maxSteps := 1000000) [hho, noHo, zl, z0, kz0, -List.reduceReplicate]
   refine call_sch3 (M + 1) zl c3 rfl hho (by simp) ?_
   obtain ⟨H, hH⟩ : ∃ H, H = heap3 (M + 1) a.tabs := ⟨_, rfl⟩
   have hHl : H.length = 1 + tot3 a.tabs := by rw [hH]; simp
   rw [← hH]
   simp (maxSteps := 1000000) [hho, noHo, backIx, hHl, zl, -List.reduceReplicate]
   refine cut_to () trivial ?_
   refine wk_eq (by simp [hE, lens]) (by simp [scD, hH, hnn]) (by simp [livH, livO, AV.livL, AV.liv, wkL, wkV, List.range', slotsOf, hP])
  intro _ _
  have wl : (Y ++ (heap3 (M + 1) a.tabs ++ [scD a n M])).length = P + 1 := by simp [zl, hP]; omega
  have w0 : (Y ++ (heap3 (M + 1) a.tabs ++ [scD a n M]))[0]? = some (.o .box [.c (.int .i64 a.ver), .c (.int .i64 a.next), .fs 4 a.tabs.length (tabsA a.tabs)]) := by rw [List.getElem?_append_left (by omega)]; exact z0
  have wM : (Y ++ (heap3 (M + 1) a.tabs ++ [scD a n M]))[M]? = some (.o .box [.c (.int .i64 a.ver), .c (.int .i64 a.next), .sl 2 4 0 n (n * 4)]) := by rw [List.getElem?_append_left (by omega)]; exact zM
  have wP : (Y ++ (heap3 (M + 1) a.tabs ++ [scD a n M]))[P]? = some (.o .box [.c (.int .i64 a.ver), .c (.int .i64 a.next), .sl (M + 1) 4 0 n (n * 4)]) := by
   rw [List.getElem?_append_right (by omega), zl, List.getElem?_append_right (by simp; omega), heap3_length, show P - (M + 1) - (1 + tot3 a.tabs) = 0 by omega]; rfl
  have hdc : DeepV (Y ++ (heap3 (M + 1) a.tabs ++ [scD a n M])) (fun _ => True) (.agg [.c (.int .i64 a.ver), .c (.int .i64 a.next), .sl 2 4 0 n (n * 4)]) (.agg (schA ⟨a.ver, a.next, L⟩)) := hdeep L _ h1 h3 fun k x hk => by
   rw [List.getElem?_append_left (by have := (List.getElem?_eq_some_iff.1 (zd k x hk)).1; exact this)]; exact zd k x hk
  have hdd : DeepV (Y ++ (heap3 (M + 1) a.tabs ++ [scD a n M])) (fun _ => True) (.agg [.c (.int .i64 a.ver), .c (.int .i64 a.next), .sl (M + 1) 4 0 n (n * 4)]) (.agg (schA a)) := by
   have h := deep3_sch (h := Y ++ (heap3 (M + 1) a.tabs ++ [scD a n M])) (M + 1) a.ver a.next a.tabs (fun k x hk => by
    have hkl := (List.getElem?_eq_some_iff.1 hk).1
    rw [List.getElem?_append_right (by omega), zl, Nat.add_sub_cancel_left, List.getElem?_append_left hkl]; exact hk) (by unfold maxLen; omega) fun t ht => by
     obtain ⟨q1, q2, q3⟩ := hsz t ht
     exact ⟨by unfold maxLen; omega, by unfold maxLen; omega, fun x hx => by have := q3 x hx; unfold maxLen; omega⟩
   rw [← hnn] at h; exact h
  have e5 := same_sc a ⟨a.ver, a.next, L⟩ (by omega) hbg
  have hv : eqB a ⟨a.ver, a.next, L⟩ = decide (a.tabs.length = 0) := by
   by_cases hz : a.tabs.length = 0
   ·have ha0 := List.eq_nil_of_length_eq_zero hz
    have hL0 := List.eq_nil_of_length_eq_zero (show L.length = 0 by omega)
    rw [decide_eq_true hz, eqB_iff, hL0, ← ha0]
   ·rw [decide_eq_false hz]
    refine eqB_no fun h => ?_
    have hLa : a.tabs = L := congrArg SchS.tabs h
    have hl0 : 0 < a.tabs.length := by omega
    have hg := List.getElem?_eq_getElem hl0
    have := h4 (by omega) _ _ (by rw [← hLa]; exact hg) hg
    omega
  rw [hv] at e5
  obtain ⟨W, hW⟩ : ∃ W, W = Y ++ (heap3 (M + 1) a.tabs ++ [scD a n M]) := ⟨_, rfl⟩
  rw [← hW] at wl w0 wM wP hdc hdd ⊢
  have kw0 := fun h => gq w0 h
  have kwM := fun h => gq wM h
  have kwP := fun h => gq wP h
  have l0 : (List.map lnO W)[0]? = some 3 := by rw [List.getElem?_map, w0]; rfl
  have lM : (List.map lnO W)[M]? = some 3 := by rw [List.getElem?_map, wM]; rfl
  have lP : (List.map lnO W)[P]? = some 3 := by rw [List.getElem?_map, wP]; rfl
  have kl0 := fun h => gq l0 h
  have klM := fun h => gq lM h
  have klP := fun h => gq lP h
  have p0 : ¬ P = 0 := by omega
  have p1 : ¬ P = M := by omega
  have p2 : ¬ M = P := by omega
  have p3 : ¬ 0 = P := by omega
  simp (maxSteps := 1000000) [hho, noHo, slotsOf, w0, wM, wP, wl, -List.reduceReplicate]
  refine draw_k hho (.take 0 (.take 1 (.alt 2 (.take 3 (.take 4 (.take 5 (.take 6 (.take 7 (.take 8 (.take 9 (.alt 10 (.take 11 (.take 12 (.take 13 (.done)))) (.nil))))))))) (.nil)))) [0, M, P] [] (by decide +kernel) (by simp [wl]; omega) ?_
  simp (maxSteps := 1000000) [hho, noHo, w0, wM, wP, wl, kw0, kwM, kwP, l0, lM, lP, kl0, klM, klP, n0, n2, p0, p1, p2, p3, roOf, holdOf, wrOf, altK, heldOk, Region.binds, -List.reduceReplicate]
  intro E5
  refine call_data e1 rfl (cv_two (deep_self a) hdd) (fun r h' ⟨q1, q2⟩ => ?_)
  subst q1 q2
  refine ⟨rfl, ?_⟩
  simp (maxSteps := 1000000) [hho, noHo, w0, wM, wP, wl, kw0, kwM, kwP, l0, lM, lP, kl0, klM, klP, n0, n2, p0, p1, p2, p3, roOf, holdOf, wrOf, altK, heldOk, Region.binds, -List.reduceReplicate]
  intro E6
  refine call_data e5 rfl (cv_two (deep_self a) hdc) (fun r h' ⟨q1, q2⟩ => ?_)
  subst q1 q2
  refine ⟨rfl, ?_⟩
  have hz' : ¬ a.tabs.length = 0 → ¬ a.tabs = [] := fun h h' => h (by rw [h']; rfl)
  by_cases hz : a.tabs.length = 0
  ·simp (maxSteps := 1000000) [hho, noHo, w0, wM, wP, wl, kw0, kwM, kwP, l0, lM, lP, kl0, klM, klP, n0, n2, p0, p1, p2, p3, hz, roOf, holdOf, wrOf, altK, heldOk, Region.binds, -List.reduceReplicate]
   exact Ret.drop (by rfl) (by simp [List.eq_nil_of_length_eq_zero hz])
  ·have hz' := hz' hz
   simp (maxSteps := 1000000) [hho, noHo, w0, wM, wP, wl, kw0, kwM, kwP, l0, lM, lP, kl0, klM, klP, n0, n2, p0, p1, p2, p3, hz, roOf, holdOf, wrOf, altK, heldOk, Region.binds, -List.reduceReplicate]
   exact Ret.drop (by rfl) (by simp [hz'])
 clear hz0 hz1 hzM hz2 hdl0 hD0 D0 hzl kz0 kz1 kzM l0 l1 lM kl0 kl1 klM hda e1 e2 e3 e4 hw hZ Z
 rintro ⟨j, L⟩ ⟨hj, hLl, hLt, hLs, hLu, hLf⟩
 simp only at hj hLl hLt hLs hLu hLf ⊢
 have eS : SM (j, L) = scSt a b M n (j, L) := by rw [hSM]
 by_cases hjn : j < n
 ·obtain ⟨t, ht⟩ : ∃ t, t = L[j]'(by omega) := ⟨_, rfl⟩
  obtain ⟨A, hA⟩ : ∃ A, A = L.take j := ⟨_, rfl⟩
  obtain ⟨B, hB⟩ : ∃ B, B = L.drop (j + 1) := ⟨_, rfl⟩
  have hL : L = A ++ t :: B := by rw [hA, hB, ht, List.getElem_cons_drop]; exact (List.take_append_drop j L).symm
  have hAl : A.length = j := by rw [hA, List.length_take]; omega
  have hto := hLu j (Nat.le_refl _)
  have htL : L[j]? = some t := by rw [ht]; exact List.getElem?_eq_getElem _
  rw [htL] at hto
  have hta : t ∈ a.tabs := List.mem_of_getElem? hto.symm
  have htn := hnm t hta
  obtain ⟨s1, s2, s3⟩ := hsz t hta
  obtain ⟨g, hg⟩ : ∃ g, g = 3 + tot3 A := ⟨_, rfl⟩
  have hMt : M = 3 + (tot3 A + (2 + t.idxs.length + tot3 B)) := by rw [hM, ← hLt, hL, tot3_app]; rfl
  have hABl : A.length + 1 + B.length = n := by rw [← hLl, hL]; simp; omega
  have hZA : ∀ u : TabS, u.idxs.length = t.idxs.length → ZAt a b n A u B g M (scZ a b n (A ++ u :: B)) (livs3 3 (A ++ u :: B)) := fun u hu => by
   have h := scZ_z a b n A u B
   rw [hu, ← hMt, ← hg] at h
   exact h
  have ew : IntKind.i64.wrap ((j : Int) + 1) = (j + 1 : Nat) := by rw [IntWalk.i64_in _ (by omega)]; rfl
  obtain ⟨nm, hnmx⟩ : ∃ nm, nm = t.name ++ ({ data := #[120] } : ByteArray) := ⟨_, rfl⟩
  have j1 : j * 4 + 1 < n * 4 := by omega
  have j2 : j * 4 + 2 < n * 4 := by omega
  have j3 : j * 4 + 3 < n * 4 := by omega
  have j1' : j * 4 + 1 + 1 ≤ n * 4 := by omega
  have m1 : 1 ≤ min 4 (n * 4 - j * 4) - 1 := by omega
  have m2 : 1 ≤ min 4 (n * 4 - j * 4) - 2 := by omega
  have m3 : 1 ≤ min 4 (n * 4 - j * 4) - 3 := by omega
  have hji : (j : Int) < n := by omega
  have z := hZA t rfl
  rw [hL] at eS
  simp only [scSt, scM, scT, List.cons_append, List.nil_append] at eS
  obtain ⟨Z, hZ⟩ : ∃ Z, Z = scZ a b n (A ++ t :: B) := ⟨_, rfl⟩
  obtain ⟨D, hD⟩ : ∃ D, D = livs3 3 (A ++ t :: B) := ⟨_, rfl⟩
  rw [← hZ, ← hD] at z
  rw [← hZ] at eS
  have zl := z.len
  have z2 := z.z2
  have zM := z.zM
  have dl := z.dl
  have d1 := z.d1
  rw [hAl] at d1
  simp only [scC] at zM
  have dl' : D.length = n * 4 := by rw [dl, ← hL, hLl]
  have k2 := fun h => gq z2 h
  have kM := fun h => gq zM h
  have kd1 := fun h => gq d1 h
  have hM2 : 2 < M := by omega
  rw [hL, eS]
  simp (maxSteps := 1000000) [hho, noHo, slotsOf, hjn, hji, zl, z2, zM, dl', d1, k2, kM, kd1, j1, j1', m1, hM2, -List.reduceReplicate]
  refine seq_cut mixed [] (fun _ : Unit => ⟨slotsOf 138 (scM M n j ++ [(6, .c (.int .i64 (j : Nat)))]), scZ a b n (A ++ { t with name := nm } :: B)⟩) (fun _ => True) ?_ ?_
  rotate_left
  ·simp (maxSteps := 1000000) [hho, noHo, zl, z2, zM, dl', d1, k2, kM, kd1, j1, j1', m1, hM2, hji, hjn, -List.reduceReplicate]
   have ex : ({ data := #[120] } : ByteArray).size = 1 := rfl
   refine ⟨by omega, cut_to () trivial ?_⟩
   refine wk_eq (by simp [hE, lens]) ?_ (by simp [livH, livO, AV.livL, AV.liv, wkL, wkV, List.range', scM, scT, slotsOf])
   simp only
   rw [set_split _ _ _ (by omega), hD, hZ, ← hAl, ← hnmx]
   exact scZ_set a b n (A ++ t :: B) _ 0 _ (by omega) (heap3_name 2 A t B nm)
  intro _ _
  clear zl z2 zM dl d1 dl' k2 kM kd1 z hZ hD Z D eS
  obtain ⟨nc, hnc⟩ : ∃ nc, nc = t.cols.length := ⟨_, rfl⟩
  obtain ⟨ni, hni⟩ : ∃ ni, ni = t.idxs.length := ⟨_, rfl⟩
  have ZF : ∀ u : TabS, u.idxs.length = t.idxs.length → ∃ Z D, scZ a b n (A ++ u :: B) = Z ∧ livs3 3 (A ++ u :: B) = D ∧ Z.length = M + 1 ∧ Z[2]? = some (.o (.row 28 4) D) ∧ Z[M]? = some (.o .box [.c (.int .i64 a.ver), .c (.int .i64 a.next), .sl 2 4 0 n (n * 4)]) ∧ D.length = n * 4 ∧ Z[g]? = some (.o (.row 44 10) (colsA u.cols)) ∧ Z[g + 1]? = some (.o (.row 49 5) (idx3 (g + 2) u.idxs)) ∧ (∀ k x, u.idxs[k]? = some x → Z[g + 2 + k]? = some (.o (.row 3 1) (intsA x.cols))) ∧ D[j * 4 + 2]? = some (.sl g 10 0 u.cols.length (u.cols.length * 10)) ∧ D[j * 4 + 3]? = some (.sl (g + 1) 5 0 u.idxs.length (u.idxs.length * 5)) := fun u hu => by
   have z := hZA u hu
   refine ⟨_, _, rfl, rfl, z.len, z.z2, z.zM, ?_, z.zg, z.zx, z.zi, ?_, ?_⟩
   ·rw [z.dl]; simp; omega
   ·rw [← hAl]; exact z.d2
   ·rw [← hAl]; exact z.d3
  obtain ⟨Z, D, hZ, hD, zl, z2, zM, dl, zg, zx, zi, d2, d3⟩ := ZF { t with name := nm } rfl
  have k2 := fun h => gq z2 h
  have kM := fun h => gq zM h
  have kd2 := fun h => gq d2 h
  have hg2 : 2 < g := by omega
  have hgM : g < M := by omega
  have hgM1 : g + 1 < M := by omega
  simp only [scM, scT, List.cons_append, List.nil_append]
  rw [hZ]
  have j2' : j * 4 + 2 + 1 ≤ n * 4 := by omega
  have j3' : j * 4 + 3 + 1 ≤ n * 4 := by omega
  simp (maxSteps := 1000000) [hho, noHo, slotsOf, zl, z2, zM, zg, dl, d2, k2, kM, kd2, j2, j2', m2, hM2, hji, hjn, -List.reduceReplicate]
  obtain ⟨SC, hSC⟩ : ∃ S, S = scCol a b M n g j nc A B := ⟨_, rfl⟩
  refine loop_k mixed SC (fun y => nc - y.1) (fun y => y.1 ≤ nc ∧ y.2.cols.length = nc ∧ y.2.idxs = t.idxs ∧ y.2.name = nm) (0, { t with name := nm }) ⟨Nat.zero_le _, hnc.symm, rfl, rfl⟩ ?_ ?_
  ·rw [hSC]
   exact wk_eq (by simp [hE, lens]) (by simp [scCol, ← hZ]) (by simp [livH, livO, AV.livL, AV.liv, wkL, wkV, List.range', scCol, scM, scT, slotsOf, hnc])
  clear hZ hD zl z2 zM dl zg zx zi d2 d3 k2 kM kd2 Z D
  rintro ⟨k, v⟩ ⟨hk, hv1, hv2, hv3⟩
  simp only at hk hv1 hv2 hv3 ⊢
  have eC : SC (k, v) = scCol a b M n g j nc A B (k, v) := by rw [hSC]
  have hv2l : v.idxs.length = t.idxs.length := by rw [hv2]
  obtain ⟨Z, D, hZ, hD, zl, z2, zM, dl, zg, zx, zi, d2, d3⟩ := ZF v hv2l
  have k2 := fun h => gq z2 h
  have kM := fun h => gq zM h
  have kd2 := fun h => gq d2 h
  have kd3 := fun h => gq d3 h
  have kg := fun h => gq zg h
  simp only [scCol, scM, scT, List.cons_append, List.nil_append] at eC
  rw [hZ] at eC
  by_cases hkn : k < nc
  ·have hst := colA_st v.cols k (by omega)
   obtain ⟨c, hc⟩ : ∃ c, c = v.cols[k]'(by omega) := ⟨_, rfl⟩
   rw [← hc] at hst
   have kst := fun h => gq hst h
   have hkv : k < v.cols.length := by omega
   have hki : (k : Int) < nc := by omega
   have hk9 : k * 10 + 9 < nc * 10 := by omega
   have hk9' : k * 10 + 9 + 1 ≤ nc * 10 := by omega
   have m9 : 1 ≤ min 10 (nc * 10 - k * 10) - 9 := by omega
   have hk10 : k * 10 + 9 < v.cols.length * 10 := by omega
   have ewk : IntKind.i64.wrap ((k : Int) + 1) = (k + 1 : Nat) := by rw [IntWalk.i64_in _ (by omega)]; rfl
   rw [hv1] at d2 kd2
   rw [eC]
   simp (maxSteps := 1000000) [hho, noHo, slotsOf, zl, z2, zM, zg, dl, d2, k2, kM, kd2, kg, j2, j2', m2, hM2, hji, hjn, hkn, hki, hst, kst, hv1, hk9, hk9', m9, hk10, hg2, hgM, -List.reduceReplicate]
   obtain ⟨X, hX⟩ : ∃ X : Int, IntKind.i64.wrap (((c.st % 2 ^ IntKind.i64.bits).toNat ^^^ 1 % 2 ^ IntKind.i64.bits : Nat) : Int) = X := ⟨_, rfl⟩
   rw [hX, set_split _ _ _ (by simp; omega)]
   have hset := scZ_set a b n (A ++ v :: B) _ (1 + tot3 A) _ (by rw [tot3_app]; simp [tot3]; omega) (heap3_col 2 A v B k hkv X)
   rw [show 2 + (1 + tot3 A) = g by omega, hZ] at hset
   rw [hset]
   refine round_next (k + 1, { v with cols := v.cols.set k { v.cols[k]'hkv with st := X } }) ⟨by omega, by simp [hv1], hv2, hv3⟩ (by simp only; omega) ?_
   rw [hSC]
   exact wk_eq (by simp [hE, lens]) (by simp [scCol]) (by simp [livH, livO, AV.livL, AV.liv, wkL, wkV, List.range', scCol, scM, scT, slotsOf, ewk])
  ·obtain rfl : k = nc := by omega
   have j3k : j * 4 + 3 < n * 4 := j3
   rw [eC]
   have kx := fun h => gq zx h
   rw [hv2l, ← hni] at d3 kd3
   have hxl : v.idxs.length = ni := by omega
   simp (maxSteps := 1000000) [hho, noHo, slotsOf, zl, z2, zM, zg, zx, dl, d2, d3, k2, kM, kd2, kd3, kg, kx, j2, j2', j3, j3', m2, m3, hM2, hji, hjn, hg2, hgM, hgM1, hxl, -List.reduceReplicate]
   obtain ⟨SI, hSI⟩ : ∃ S, S = scIdx a b M n g j ni A B := ⟨_, rfl⟩
   refine loop_k mixed SI (fun y => ni - y.1) (fun y => y.1 ≤ ni ∧ y.2.idxs.length = ni ∧ y.2.cols.length ≤ 20 ∧ y.2.name = nm ∧ ∀ x ∈ y.2.idxs, x.cols.length ≤ 20) (0, v) ⟨Nat.zero_le _, hxl, by simp only; omega, hv3, by simp only; rw [hv2]; exact s3⟩ ?_ ?_
   ·rw [hSI]
    exact wk_eq (by simp [hE, lens]) (by simp [scIdx, ← hZ]) (by simp [livH, livO, AV.livL, AV.liv, wkL, wkV, List.range', scIdx, scM, scT, slotsOf])
   clear hZ hD zl z2 zM dl zg zx zi d2 d3 k2 kM kd2 kd3 kg kx hxl hv1 hv2 hv3 hv2l eC hkn hk hSC Z D
   revert v
   intro _
   rintro ⟨k, v⟩ ⟨hk, hx1, hx2, hx3, hx4⟩
   simp only at hk hx1 hx2 hx3 hx4 ⊢
   have eI : SI (k, v) = scIdx a b M n g j ni A B (k, v) := by rw [hSI]
   have hvl : v.idxs.length = t.idxs.length := by omega
   obtain ⟨Z, D, hZ, hD, zl, z2, zM, dl, zg, zx, zi, d2, d3⟩ := ZF v hvl
   have k2 := fun h => gq z2 h
   have kM := fun h => gq zM h
   have kx := fun h => gq zx h
   rw [hx1] at d3
   have kd3 := fun h => gq d3 h
   simp only [scIdx, scM, scT, List.cons_append, List.nil_append] at eI
   rw [hZ] at eI
   by_cases hkn : k < ni
   ·have hkv : k < v.idxs.length := by omega
    obtain ⟨x, hx⟩ : ∃ x, x = v.idxs[k]'hkv := ⟨_, rfl⟩
    have hxm : x ∈ v.idxs := by rw [hx]; exact List.getElem_mem hkv
    have hxc := hx4 x hxm
    have hi3 := idx3_at v.idxs (g + 2) k hkv
    rw [← hx] at hi3
    have zk := zi k x (by rw [hx]; exact List.getElem?_eq_getElem hkv)
    have ki3 := fun h => gq hi3 h
    have kk := fun h => gq zk h
    obtain ⟨nk, hnk⟩ : ∃ nk, nk = x.cols.length := ⟨_, rfl⟩
    rw [← hnk] at hi3 ki3
    have hki : (k : Int) < ni := by omega
    have hk5 : k * 5 + 2 < ni * 5 := by omega
    have hk5' : k * 5 + 2 + 1 ≤ ni * 5 := by omega
    have m5 : 1 ≤ min 5 (ni * 5 - k * 5) - 2 := by omega
    have hgk : g + 2 + k < M := by omega
    have hgk1 : g + 2 + k < M + 1 := by omega
    have ewk : IntKind.i64.wrap ((k : Int) + 1) = (k + 1 : Nat) := by rw [IntWalk.i64_in _ (by omega)]; rfl
    rw [eI]
    simp (maxSteps := 1000000) [hho, noHo, slotsOf, zl, z2, zM, zx, zk, dl, d3, k2, kM, kd3, kx, kk, hi3, ki3, j3, j3', m3, hM2, hji, hjn, hg2, hgM, hgM1, hx1, hkn, hki, hk5, hk5', m5, hgk, hgk1, ← hnk, -List.reduceReplicate]
    obtain ⟨SN, hSN⟩ : ∃ S, S = scInt a b M n g j ni k nk A B := ⟨_, rfl⟩
    refine loop_k mixed SN (fun y => nk - y.1) (fun y => y.1 ≤ nk ∧ y.2.idxs.length = ni ∧ y.2.cols.length ≤ 20 ∧ y.2.name = nm ∧ (∀ x ∈ y.2.idxs, x.cols.length ≤ 20) ∧ ∀ x, y.2.idxs[k]? = some x → x.cols.length = nk) (0, v) ⟨Nat.zero_le _, hx1, hx2, hx3, hx4, fun y hy => by
     rw [List.getElem?_eq_getElem hkv, ← hx] at hy
     injection hy with hy; subst hy; exact hnk.symm⟩ ?_ ?_
    ·rw [hSN]
     exact wk_eq (by simp [hE, lens]) (by simp [scInt, ← hZ]) (by simp [livH, livO, AV.livL, AV.liv, wkL, wkV, List.range', scInt, scM, scT, slotsOf, hnk])
    clear hZ hD zl z2 zM dl zg zx zi d2 d3 k2 kM kd3 kx hi3 ki3 zk kk eI hx1 hx2 hx3 hx4 hvl hnk hxc hxm hx Z D
    clear hkv
    rintro ⟨m, u⟩ ⟨hm, hx1, hx2, hx3, hx4, hx5⟩
    simp only at hm hx1 hx2 hx3 hx4 hx5 ⊢
    have eN : SN (m, u) = scInt a b M n g j ni k nk A B (m, u) := by rw [hSN]
    have hvl : u.idxs.length = t.idxs.length := by omega
    have hkv : k < u.idxs.length := by omega
    obtain ⟨x, hx⟩ : ∃ x, x = u.idxs[k]'hkv := ⟨_, rfl⟩
    have hnk : x.cols.length = nk := hx5 x (by rw [hx]; exact List.getElem?_eq_getElem hkv)
    have hxm : x ∈ u.idxs := by rw [hx]; exact List.getElem_mem hkv
    have hxc := hx4 x hxm
    obtain ⟨Z, D, hZ, hD, zl, z2, zM, dl, zg, zx, zi, d2, d3⟩ := ZF u hvl
    have k2 := fun h => gq z2 h
    have kM := fun h => gq zM h
    have kx := fun h => gq zx h
    rw [hx1] at d3
    have kd3 := fun h => gq d3 h
    have hi3 := idx3_at u.idxs (g + 2) k hkv
    rw [← hx, hnk] at hi3
    have zk := zi k x (by rw [hx]; exact List.getElem?_eq_getElem hkv)
    have ki3 := fun h => gq hi3 h
    have kk := fun h => gq zk h
    simp only [scInt, scM, scT, List.cons_append, List.nil_append] at eN
    rw [hZ] at eN
    by_cases hmn : m < nk
    ·have hat := intsA_get x.cols m (by omega)
     obtain ⟨c, hc⟩ : ∃ c, c = x.cols[m]'(by omega) := ⟨_, rfl⟩
     rw [← hc] at hat
     have hmi : (m : Int) < nk := by omega
     have m1k : 1 ≤ min 1 (nk - m) := by omega
     have m1k' : m + 1 ≤ nk := by omega
     have ewm : IntKind.i64.wrap ((m : Int) + 1) = (m + 1 : Nat) := by rw [IntWalk.i64_in _ (by omega)]; rfl
     rw [eN]
     simp (maxSteps := 1000000) [hho, noHo, slotsOf, zl, z2, zM, zx, zk, dl, d3, k2, kM, kd3, kx, kk, hi3, ki3, j3, j3', m3, hM2, hji, hjn, hg2, hgM, hgM1, hx1, hkn, hki, hk5, hk5', m5, hgk, hgk1, hnk, hmn, hmi, hat, m1k, m1k', -List.reduceReplicate]
     obtain ⟨X, hX⟩ : ∃ X : Int, IntKind.i64.wrap (((c % 2 ^ IntKind.i64.bits).toNat ^^^ 1 % 2 ^ IntKind.i64.bits : Nat) : Int) = X := ⟨_, rfl⟩
     rw [hX, set_split _ _ _ (by simp; omega)]
     have hset := scZ_set a b n (A ++ u :: B) _ (1 + tot3 A + (2 + k)) _ (by rw [tot3_app]; simp [tot3]; omega) (heap3_int 2 A u B k hkv m X)
     rw [show 2 + (1 + tot3 A + (2 + k)) = g + 2 + k by omega, hZ, ← hx] at hset
     rw [hset]
     refine round_next (m + 1, { u with idxs := u.idxs.set k { x with cols := x.cols.set m X } }) ⟨by omega, by simp [hx1], hx2, hx3, fun y hy => ?_, fun y hy => ?_⟩ (by simp only; omega) ?_
     ·rcases List.mem_or_eq_of_mem_set hy with h | h
      ·exact hx4 y h
      ·rw [h]; simp only [List.length_set]; exact hxc
     ·simp only at hy
      rw [List.getElem?_set_self hkv] at hy
      injection hy with hy
      rw [← hy]; simp only [List.length_set]; exact hnk
     rw [hSN]
     exact wk_eq (by simp [hE, lens]) (by simp [scInt]) (by simp [livH, livO, AV.livL, AV.liv, wkL, wkV, List.range', scInt, scM, scT, slotsOf, ewm])
    ·obtain rfl : m = nk := by omega
     rw [eN]
     simp (maxSteps := 1000000) [hho, noHo, slotsOf, -List.reduceReplicate]
     refine round_next (k + 1, u) ⟨by omega, hx1, hx2, hx3, hx4⟩ (by simp only; omega) ?_
     rw [hSI]
     exact wk_eq (by simp [hE, lens]) (by simp [scIdx, ← hZ]) (by simp [livH, livO, AV.livL, AV.liv, wkL, wkV, List.range', scIdx, scM, scT, slotsOf, ewk])
   ·obtain rfl : k = ni := by omega
    rw [eI]
    simp (maxSteps := 1000000) [hho, noHo, slotsOf, -List.reduceReplicate]
    have htv : tot3 (A ++ v :: B) = tot3 a.tabs := by rw [← hLt, hL, tot3_app, tot3_app]; simp only [tot3]; omega
    refine round_next (j + 1, A ++ v :: B) ⟨by omega, by simp; omega, htv, fun u hu => ?_, fun i hi => ?_, fun _ => ?_⟩ (by simp only; omega) ?_
    ·rcases List.mem_append.1 hu with h | h
     ·exact hLs u (by rw [hL]; simp [h])
     ·rcases List.mem_cons.1 h with rfl | h
      ·exact ⟨hx2, by omega, hx4⟩
      ·exact hLs u (by rw [hL]; simp [h])
    ·simp only at hi ⊢
     rw [← hLu i (by omega), hL, List.getElem?_append_right (by omega), List.getElem?_append_right (by omega), show i - A.length = (i - A.length - 1) + 1 by omega, List.getElem?_cons_succ, List.getElem?_cons_succ]
    ·intro t0 s0 h1 h2
     rcases Nat.eq_zero_or_pos j with hj0 | hj0
     ·have hA0 : A = [] := List.eq_nil_of_length_eq_zero (by omega)
      rw [hA0] at h1
      simp at h1
      rw [hj0, h2] at hto
      injection hto with hto
      have ex : ({ data := #[120] } : ByteArray).size = 1 := rfl
      rw [← h1, hx3, hnmx, ByteArray.size_append, ex, hto]
     ·refine hLf hj0 t0 s0 ?_ h2
      rw [← h1, hL, List.getElem?_append_left (by omega), List.getElem?_append_left (by omega)]
    ·rw [hSM]
     exact wk_eq (by simp [hE, lens]) (by simp [scSt, ← hZ]) (by simp [livH, livO, AV.livL, AV.liv, wkL, wkV, List.range', scSt, scM, scT, slotsOf, ew])
 ·obtain rfl : j = n := by omega
  simp only [scSt, scM, scT, List.cons_append, List.nil_append] at eS
  have zM : (scZ a b j L)[M]? = some (scC a j) := by
   have h := scZ_c a b j L
   rwa [hLt, ← hM] at h
  rw [eS]
  simp (maxSteps := 1000000) [hho, noHo, slotsOf, -List.reduceReplicate]
  refine exit_to L ⟨hLl, hLt, hLs, fun h => hLf h⟩ ?_
  exact wk_eq (by simp [hE, lens]) rfl (by simp [livH, livO, AV.livL, AV.liv, wkL, wkV, List.range', scT, slotsOf])
end Go.Proofs.YthgoocdldnkogaaGreatDoor
