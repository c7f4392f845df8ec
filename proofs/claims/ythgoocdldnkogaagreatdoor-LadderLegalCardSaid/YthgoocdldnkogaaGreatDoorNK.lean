import Derived.Test.YthgoocdldnkogaaGreatDoorNI
import Derived.Test.YthgoocdldnkogaaGreatDoorNF
import Derived.Test.YthgoocdldnkogaaGreatDoorHMs
import Derived.Test.YthgoocdldnkogaaGreatDoorZI
namespace Go.Proofs.YthgoocdldnkogaaGreatDoor
set_option linter.unusedVariables false
set_option linter.unusedSimpArgs false
open Go.RowKit
attribute [local simp] isCut_nil isCut_region isCut_seq isCut_block isCut_loop isCut_cond isCut_skip isCut_exit isCut_ret isCut_range swapK putK altK condK_bool pickP_bool stepP stepO onPure_some onPure_none onImpl_some onImpl_none stepC onGP_some onGP_none onGV_some condG mkG onIt_it nextP_ptr takeP_eq takeV_some takeV_none takeU_some takeU_none takeQ takeW_some takeN_none takeN_some takeG_some takeO_some altO_some pureV binV2 eqF eqOp ovlV ovl2 rowAt capV binV intBin strBin isSh shV fldV ixV sliceV slice3V loadAV nilV lenV callV unV convV viewS cellsH loadV fldCut AV.ung AV.ungs AV.gc AV.cells AS.ev AS.put anyS gcsV gcO lens lnO gV guardV retK RetP_eq resV oneV anyRo loIx hiIx implO callP_clo evL gcsL clearV storeAV AS.push AS.setO appV appZ shortS copyV buildV partsV fillV srcV fzO okV isCell_c isCell_ptr isCell_sl isCell_fs isCell_fp isCell_clo rowZ_one rowZ_zero rowZ_2 rowZ_3 rowZ_4 rowZ_5 rowZ_6 rowZ_7 rowZ_8 rowZ_9 rowZ_10 rowZ_11 rowZ_12 noHo Value.oneCell' max2V min2V lookV updV updK updW cvals mkAt basV lenM msAt afterH putBack frzFrom frzO rebO backIx nilEq_sl nilEq_fs nilEq_ifn nilEq_ifh ifOp_eql ifOp_neq isLit nilOp_eql nilOp_neq AV.reb AV.rebL
attribute [local simp ↓] runK_skip runK_region runK_draw runK_seq runK_cut runK_cond runK_block runK_loop runK_exit runK_label runK_goto runK_ret runK_range contK_nil contK_seq contK_seq_ret contK_seq_exit contK_seq_goto contK_block contK_block_ret contK_block_goto contK_block_exit runO_nil runO_cons roundK_exit roundK_ret roundK_goto exitK_ret cutK_ret cutK_exit runE_done runE_nil runE_take runE_alt condG_true condG_false
set_option maxRecDepth 10000
theorem r12same_fit {a : SchS} (b : SchS) (h : Fit2 a) : ACalls Tryz.prog 24 [.agg (schA a), .agg (schA b)] [] (fun _ => false) (fun r h' => r = .c (.bool (eqB a b)) ∧ h' = []) := by
 rcases h with rfl | h
 ·exact same_r12 zeroS b (by simp [zeroS]) (fun t ht => by simp [zeroS] at ht) _ (eqB_iff _ _)
 ·have hs := (schOk_iff a).1 h
  exact same_r12 a b (by have := hs.len; omega) (fun t ht => by
   have ht := hs.tabs t ht
   refine ⟨by have := ht.lc; omega, by have := ht.lx; omega, fun x hx => ?_⟩
   have := ht.xo x hx
   simp only [idxOk, Bool.and_eq_true, decide_eq_true_eq] at this
   omega) _ (eqB_iff _ _)
theorem step_fit2 (s : SchS) (l : List MovS) : Fit2 (stepS s l).1 := by have := step_fit s l; rw [stepP_eq] at this; exact this
def lgcT (b : SchS) (L : List MovS) (j : Nat) : List (Nat × AV) := [(2, .ptr 0 0 3), (3, .ptr 1 0 3), (8, .sl 2 4 0 L.length (L.length * 4)), (83, .fs 4 b.tabs.length (tabsA b.tabs)), (84, .c (.int .i64 (b.tabs.length : Nat))), (85, .c (.int .i64 (j : Nat)))]
def lgcH (a b : SchS) (L : List MovS) : List AObj := [.o .box (schA a), .o .box (schA b), .o (.row 55 4) (movsA L)]
def lgcSt (a b : SchS) (y : Nat × List MovS) : AS := ⟨slotsOf 239 (lgcT b y.2 y.1), lgcH a b y.2⟩
def lgcT2 (b : SchS) (L : List MovS) (j : Nat) : List (Nat × AV) := lgcT b L j ++ [(10, .ptr 3 0 4), (11, .ptr 4 0 4)]
def lgcH2 (a b : SchS) (L : List MovS) (t o : TabS) : List AObj := lgcH a b L ++ [.o .box (tabA t), .o .box (tabA o)]
def lgcY (a b : SchS) (L : List MovS) (t o : TabS) (j : Nat) : AS := ⟨slotsOf 239 (lgcT2 b L j), lgcH2 a b L t o⟩
def lgcEnd (a b : SchS) (L : List MovS) : AS := ⟨slotsOf 239 [(2, .ptr 0 0 3), (3, .ptr 1 0 3), (8, .sl 2 4 0 L.length (L.length * 4))], lgcH a b L⟩
theorem toXR_snoc (l : List IdxS) (y : IdxS) (id : Int) : toXR (l ++ [y]) id = if y.id = id then y.st else toXR l id := by simp [toXR]
theorem difXR_snoc (tid : Int) (l b : List IdxS) (x : IdxS) : difXR tid (l ++ [x]) b = difXR tid l b ++ (if toXR b x.id = x.st then [] else [⟨tid, true, x.id, toXR b x.id⟩]) := by
 unfold difXR
 rw [List.filterMap_append]
 congr 1
 by_cases h : toXR b x.id = x.st <;> simp [h]
theorem difXR_len (tid : Int) (l b : List IdxS) : (difXR tid l b).length ≤ l.length := List.length_filterMap_le ..
def lgcX (a b : SchS) (L : List MovS) (t o : TabS) (j i : Nat) : AS := ⟨slotsOf 239 (lgcT2 b (L ++ difXR o.id (o.idxs.take i) t.idxs) j ++ [(154, .fs 5 o.idxs.length (idxsA o.idxs)), (155, .c (.int .i64 (o.idxs.length : Nat))), (156, .c (.int .i64 (i : Nat)))]), lgcH2 a b (L ++ difXR o.id (o.idxs.take i) t.idxs) t o⟩
def lgcXi (a b : SchS) (L : List MovS) (t o : TabS) (x : IdxS) (j i k : Nat) : AS := ⟨slotsOf 239 (lgcT2 b L j ++ [(154, .fs 5 o.idxs.length (idxsA o.idxs)), (155, .c (.int .i64 (o.idxs.length : Nat))), (156, .c (.int .i64 (i : Nat))), (17, .ptr 5 0 5), (18, .c (.int .i64 (toXR (t.idxs.take k) x.id))), (161, .fs 5 t.idxs.length (idxsA t.idxs)), (162, .c (.int .i64 (t.idxs.length : Nat))), (163, .c (.int .i64 (k : Nat)))]), lgcH2 a b L t o ++ [.o .box (idxA x)]⟩
theorem toCR_snoc (l : List ColS) (y : ColS) (id : Int) : toCR (l ++ [y]) id = if y.id = id then y.st else toCR l id := by simp [toCR]
theorem difCR_snoc (tid : Int) (l b : List ColS) (x : ColS) : difCR tid (l ++ [x]) b = difCR tid l b ++ (if toCR b x.id = x.st then [] else [⟨tid, false, x.id, toCR b x.id⟩]) := by
 unfold difCR
 rw [List.filterMap_append]
 congr 1
 by_cases h : toCR b x.id = x.st <;> simp [h]
theorem difCR_len (tid : Int) (l b : List ColS) : (difCR tid l b).length ≤ l.length := List.length_filterMap_le ..
def lgcC (a b : SchS) (L : List MovS) (t o : TabS) (j i : Nat) : AS := ⟨slotsOf 239 (lgcT2 b (L ++ difCR o.id (o.cols.take i) t.cols) j ++ [(190, .fs 10 o.cols.length (colsA o.cols)), (191, .c (.int .i64 (o.cols.length : Nat))), (192, .c (.int .i64 (i : Nat)))]), lgcH2 a b (L ++ difCR o.id (o.cols.take i) t.cols) t o⟩
def lgcCi (a b : SchS) (L : List MovS) (t o : TabS) (x : ColS) (j i k : Nat) : AS := ⟨slotsOf 239 (lgcT2 b L j ++ [(190, .fs 10 o.cols.length (colsA o.cols)), (191, .c (.int .i64 (o.cols.length : Nat))), (192, .c (.int .i64 (i : Nat))), (22, .ptr 5 0 10), (23, .c (.int .i64 (toCR (t.cols.take k) x.id))), (197, .fs 10 t.cols.length (colsA t.cols)), (198, .c (.int .i64 (t.cols.length : Nat))), (199, .c (.int .i64 (k : Nat)))]), lgcH2 a b L t o ++ [.o .box (colA x)]⟩
set_option maxHeartbeats 16000000 in
theorem r14Legal_w (a b : SchS) (ha : SB a) (hb : SB b) (hv : a.ver ≤ 2 ^ 62) (hnx : a.next ≤ 2 ^ 61) : ACalls Tryz.prog 21 [.agg (schA a), .agg (schA b)] [] (fun _ => false) (fun r h' => r = .c (.bool (legalR a b)) ∧ h' = []) := by
 refine acalls mixed Tryz.func21 rfl Tryz.ntmps21 rfl fun E hE hst hho => ?_
 obtain ⟨R, hR⟩ : ∃ R, R = legalR a b := ⟨_, rfl⟩
 rw [← hR]
 unfold legalR at hR
 have hsc : ∀ s : SchS, schA s = [.c (.int .i64 s.ver), .c (.int .i64 s.next), .fs 4 s.tabs.length (tabsA s.tabs)] := fun _ => rfl
 have hta : ∀ t : TabS, tabA t = [.c (.int .i64 t.id), .c (.string t.name), .fs 10 t.cols.length (colsA t.cols), .fs 5 t.idxs.length (idxsA t.idxs)] := fun _ => rfl
 have hlen := ha.len
 have hlenb := hb.len
 have hra := right_r12 a (by omega) ha.big
 have hrb := right_r12 b (by omega) hb.big
 simp only [hsc] at hra hrb
 cases hsa : schOk a with
 | false =>
  have hRf : R = false := by rw [hR, hsa]; rfl
  rw [hRf]
  rw [hsa] at hra
  simp (maxSteps := 1000000) [hho, noHo, hsc, undef, onGP_none, condG_false, -List.reduceReplicate]
  refine call_x [] (hra) rfl rfl ⟨rfl, rfl⟩ hho (by simp) (by decide) (by simp) (by simp) ?_
  simp (maxSteps := 1000000) [hho, noHo, undef, onGP_none, condG_false, -List.reduceReplicate]
  exact Ret.drop (by rfl) ⟨rfl, rfl⟩
 | true =>
 rw [hsa] at hra
 cases hsb : schOk b with
 | false =>
  have hRf : R = false := by rw [hR, hsa, hsb]; rfl
  rw [hRf]
  rw [hsb] at hrb
  simp (maxSteps := 1000000) [hho, noHo, hsc, undef, onGP_none, condG_false, -List.reduceReplicate]
  refine call_x [] (hra) rfl rfl ⟨rfl, rfl⟩ hho (by simp) (by decide) (by simp) (by simp) ?_
  simp (maxSteps := 1000000) [hho, noHo, undef, onGP_none, condG_false, -List.reduceReplicate]
  refine call_x [] (hrb) rfl rfl ⟨rfl, rfl⟩ hho (by simp) (by decide) (by simp) (by simp) ?_
  simp (maxSteps := 1000000) [hho, noHo, undef, onGP_none, condG_false, -List.reduceReplicate]
  exact Ret.drop (by rfl) ⟨rfl, rfl⟩
 | true =>
 rw [hsb] at hrb
 rw [hsa, hsb, Bool.true_and, Bool.true_and] at hR
 have hso := (schOk_iff a).1 hsa
 have hver := hso.ver
 have hna := hso.len
 have evw : IntKind.i64.wrap (a.ver + 1) = a.ver + 1 := IntWalk.i64_in _ (by omega)
 have hbs : ∀ t ∈ a.tabs, t.cols.length ≤ 1000 ∧ t.idxs.length ≤ 1000 ∧ ∀ x ∈ t.idxs, x.cols.length ≤ 1000 := fun t ht => by
  have h := TB.of (hso.tabs t ht) (ha.big t ht)
  exact ⟨h.lc, h.lx, h.xc⟩
 by_cases hve : b.ver = a.ver + 1
 case neg =>
  have hRf : R = false := by rw [hR, decide_eq_false hve]; rfl
  rw [hRf]
  simp (maxSteps := 1000000) [hho, noHo, hsc, undef, onGP_none, condG_false, -List.reduceReplicate]
  refine call_x [] (hra) rfl rfl ⟨rfl, rfl⟩ hho (by simp) (by decide) (by simp) (by simp) ?_
  simp (maxSteps := 1000000) [hho, noHo, undef, onGP_none, condG_false, -List.reduceReplicate]
  refine call_x [] (hrb) rfl rfl ⟨rfl, rfl⟩ hho (by simp) (by decide) (by simp) (by simp) ?_
  simp (maxSteps := 1000000) [hho, noHo, evw, hve, undef, onGP_none, condG_false, -List.reduceReplicate]
  exact Ret.drop (by rfl) ⟨rfl, rfl⟩
 rw [decide_eq_true hve, Bool.true_and] at hR
 have qve : (b.ver = a.ver + 1) = True := eq_true hve
 by_cases hgt : a.tabs.length < b.tabs.length
 ·rw [if_pos hgt] at hR
  have hgt' : (a.tabs.length : Int) < b.tabs.length := by omega
  obtain ⟨t, ht⟩ : ∃ t, t = b.tabs[b.tabs.length - 1]'(by omega) := ⟨_, rfl⟩
  have htm : t ∈ b.tabs := by rw [ht]; exact List.getElem_mem _
  have hgl : b.tabs.getLast? = some t := by rw [List.getLast?_eq_getElem?, List.getElem?_eq_getElem (by omega), ht]
  have hat := tabsA_at b.tabs (b.tabs.length - 1) (by omega)
  rw [← ht] at hat
  have hw1 : IntKind.i64.wrap ((b.tabs.length : Int) - 1) = ((b.tabs.length - 1 : Nat) : Int) := by rw [IntWalk.i64_in _ (by omega)]; omega
  have hin : ((b.tabs.length - 1 : Nat) : Int) < b.tabs.length := by omega
  have hin' : b.tabs.length - 1 < b.tabs.length := by omega
  have i1 : (b.tabs.length - 1) * 4 + 4 ≤ b.tabs.length * 4 := by omega
  obtain ⟨q, hq⟩ : ∃ q, q = createS a t.name t.cols := ⟨_, rfl⟩
  have hRq : R = good q b := by rw [hR]; unfold lastP; rw [hgl, hq]
  have htbig := hb.big t htm
  have htl := ((schOk_iff b).1 hsb).tabs t htm
  have hg := r14Create_w a t.name t.cols hv hnx (by omega) hbs ha.big htbig.nm (by have := htl.lc; omega) htbig.cn
  rw [← hq] at hg
  have hsm := r12same_fit b (show Fit2 q.1 by rw [hq]; exact create_fit a t.name t.cols)
  simp only [hsc] at hg hsm
  simp (maxSteps := 1000000) [hho, noHo, hsc, undef, onGP_none, condG_false, -List.reduceReplicate]
  refine call_x [] (hra) rfl rfl ⟨rfl, rfl⟩ hho (by simp) (by decide) (by simp) (by simp) ?_
  simp (maxSteps := 1000000) [hho, noHo, undef, onGP_none, condG_false, -List.reduceReplicate]
  refine call_x [] (hrb) rfl rfl ⟨rfl, rfl⟩ hho (by simp) (by decide) (by simp) (by simp) ?_
  simp (maxSteps := 1000000) [hho, noHo, evw, qve, hgt, hgt', hw1, hin, hin', hat, i1, hta, undef, onGP_none, condG_false, -List.reduceReplicate]
  refine call_x [] (hg) rfl rfl ⟨rfl, rfl⟩ hho (by simp) (by decide) (by simp) (by simp) ?_
  by_cases hz : q.2 = 0
  ·have hRe : R = eqB q.1 b := by rw [hRq]; simp [good, hz]
   rw [hRe]
   simp (maxSteps := 1000000) [hho, noHo, hz, hsc, undef, onGP_none, condG_false, -List.reduceReplicate]
   refine call_x [] (hsm) rfl rfl ⟨rfl, rfl⟩ hho (by simp) (by decide) (by simp) (by simp) ?_
   simp (maxSteps := 1000000) [hho, noHo, undef, onGP_none, condG_false, -List.reduceReplicate]
   exact Ret.drop (by rfl) ⟨rfl, rfl⟩
  ·have hRe : R = false := by rw [hRq]; simp [good, hz]
   rw [hRe]
   simp (maxSteps := 1000000) [hho, noHo, hz, undef, onGP_none, condG_false, -List.reduceReplicate]
   exact Ret.drop (by rfl) ⟨rfl, rfl⟩
 rw [if_neg hgt] at hR
 have hgt' : ¬ (a.tabs.length : Int) < b.tabs.length := by omega
 by_cases hlt : b.tabs.length < a.tabs.length
 ·rw [if_pos hlt] at hR
  have hlt' : (b.tabs.length : Int) < a.tabs.length := by omega
  rw [hR]
  simp (maxSteps := 1000000) [hho, noHo, hsc, undef, onGP_none, condG_false, -List.reduceReplicate]
  refine call_x [] (hra) rfl rfl ⟨rfl, rfl⟩ hho (by simp) (by decide) (by simp) (by simp) ?_
  simp (maxSteps := 1000000) [hho, noHo, undef, onGP_none, condG_false, -List.reduceReplicate]
  refine call_x [] (hrb) rfl rfl ⟨rfl, rfl⟩ hho (by simp) (by decide) (by simp) (by simp) ?_
  simp (maxSteps := 1000000) [hho, noHo, evw, qve, hgt, hgt', hlt, hlt', undef, onGP_none, condG_false, -List.reduceReplicate]
  exact Ret.drop (by rfl) ⟨rfl, rfl⟩
 rw [if_neg hlt] at hR
 have hlt' : ¬ (b.tabs.length : Int) < a.tabs.length := by omega
 simp (maxSteps := 1000000) [hho, noHo, hsc, undef, onGP_none, condG_false, -List.reduceReplicate]
 refine call_x [] (hra) rfl rfl ⟨rfl, rfl⟩ hho (by simp) (by decide) (by simp) (by simp) ?_
 simp (maxSteps := 1000000) [hho, noHo, undef, onGP_none, condG_false, -List.reduceReplicate]
 refine call_x [] (hrb) rfl rfl ⟨rfl, rfl⟩ hho (by simp) (by decide) (by simp) (by simp) ?_
 simp (maxSteps := 1000000) [hho, noHo, evw, qve, hgt, hgt', hlt, hlt', undef, onGP_none, condG_false, -List.reduceReplicate]
 obtain ⟨SM, hSM⟩ : ∃ S, S = lgcSt a b := ⟨_, rfl⟩
 refine loop_k2 mixed SM (fun y => b.tabs.length - y.1) (fun y => y.1 ≤ b.tabs.length ∧ y.2.length ≤ 20 * y.1 ∧ R = goR a b (a.tabs.drop y.1) (b.tabs.drop y.1) y.2) (0, []) (fun L => lgcEnd a b L) (fun L => L.length ≤ 200 ∧ R = good (stepS a L) b) 0 ⟨Nat.zero_le _, Nat.le_refl _, hR⟩ ?_ ?_ ?_
 ·refine Wk.trans (wk_virt 8 55 4 rfl) ?_
  rw [hSM]
  exact wk_eq (by simp [hE, lens]) (by simp [lgcSt, lgcH, movsA, hsc]) (by simp [livH, livO, AV.livL, AV.liv, wkL, wkV, List.range', lgcSt, lgcT, slotsOf])
 ·rintro L ⟨hL, hRL⟩
  obtain ⟨q, hq⟩ : ∃ q, q = stepS a L := ⟨_, rfl⟩
  have hg := r14Step_w a L hv (by omega) ha.big (by omega)
  have hsm := r12same_fit b (step_fit2 a L)
  rw [← hq] at hg hsm hRL
  simp only [hsc] at hg hsm
  simp only [lgcEnd, lgcH]
  simp (maxSteps := 1000000) [hho, noHo, slotsOf, hsc, undef, onGP_none, condG_false, -List.reduceReplicate]
  have htk : List.take (L.length * 4) (movsA L) = movsA L := List.take_of_length_le (by simp)
  refine call_f [] (fun k => k == 2) hg rfl rfl ⟨by simp [htk], rfl⟩ hho (by simp) (by decide) (by simp) ⟨⟨by simp, ⟨by simp, by omega, by unfold maxLen; omega, List.all_eq_true.2 (by simp [htk])⟩, trivial⟩, trivial⟩ (by simp) ?_
  by_cases hz : q.2 = 0
  ·have hRe : R = eqB q.1 b := by rw [hRL]; simp [good, hz]
   rw [hRe]
   simp (maxSteps := 1000000) [hho, noHo, hz, hsc, undef, onGP_none, condG_false, -List.reduceReplicate]
   refine call_x [] (hsm) rfl rfl ⟨rfl, rfl⟩ hho (by simp) (by decide) (by simp) (by simp) ?_
   simp (maxSteps := 1000000) [hho, noHo, undef, onGP_none, condG_false, -List.reduceReplicate]
   exact Ret.drop (by rfl) ⟨rfl, rfl⟩
  ·have hRe : R = false := by rw [hRL]; simp [good, hz]
   rw [hRe]
   simp (maxSteps := 1000000) [hho, noHo, hz, undef, onGP_none, condG_false, -List.reduceReplicate]
   exact Ret.drop (by rfl) ⟨rfl, rfl⟩
 rintro ⟨j, L⟩ ⟨hj, hLl, hI⟩
 simp only at hj hLl hI
 have hLm : L.length ≤ 2199023255 := by omega
 by_cases hjl : j < b.tabs.length
 ·have hjn : j < a.tabs.length := by omega
  have hjn' : (j : Int) < a.tabs.length := by omega
  obtain ⟨t, ht⟩ : ∃ t, t = b.tabs[j] := ⟨_, rfl⟩
  obtain ⟨o, ho⟩ : ∃ o, o = a.tabs[j] := ⟨_, rfl⟩
  have htm : t ∈ b.tabs := by rw [ht]; exact List.getElem_mem hjl
  have hom : o ∈ a.tabs := by rw [ho]; exact List.getElem_mem hjn
  have hat := tabsA_at b.tabs j hjl
  rw [← ht] at hat
  have hat4 := tabsA_at a.tabs j hjn
  rw [← ho] at hat4
  have e0 : j * 4 + 4 ≤ b.tabs.length * 4 := by omega
  have e4 : j * 4 + 4 ≤ a.tabs.length * 4 := by omega
  have ew : IntKind.i64.wrap ((j : Int) + 1) = (j + 1 : Nat) := by rw [IntWalk.i64_in _ (by omega)]; rfl
  have hdb : b.tabs.drop j = t :: b.tabs.drop (j + 1) := by rw [ht]; exact List.drop_eq_getElem_cons hjl
  have hda : a.tabs.drop j = o :: a.tabs.drop (j + 1) := by rw [ho]; exact List.drop_eq_getElem_cons hjn
  rw [hdb, hda] at hI
  have htbig := hb.big t htm
  have hobig := ha.big o hom
  have hoT := hso.tabs o hom
  have holc := hoT.lc
  have holx := hoT.lx
  have htcl := htbig.cl
  have htil := htbig.il
  have eM : SM (j, L) = lgcSt a b (j, L) := by rw [hSM]
  simp only [lgcSt, lgcT, lgcH] at eM
  by_cases hC : o.cols.length < t.cols.length
  ·have hC' : (o.cols.length : Int) < t.cols.length := by omega
   obtain ⟨c, hc⟩ : ∃ c, c = t.cols[t.cols.length - 1]'(by omega) := ⟨_, rfl⟩
   have hcat := colsA_at t.cols (t.cols.length - 1) (by omega)
   rw [← hc] at hcat
   have hgl : t.cols.getLast? = some c := by rw [List.getLast?_eq_getElem?, List.getElem?_eq_getElem (by omega), hc]
   have hw1 : IntKind.i64.wrap ((t.cols.length : Int) - 1) = ((t.cols.length - 1 : Nat) : Int) := by rw [IntWalk.i64_in _ (by omega)]; omega
   have hin : ((t.cols.length - 1 : Nat) : Int) < t.cols.length := by omega
   have hin' : t.cols.length - 1 < t.cols.length := by omega
   have hi1 : (t.cols.length - 1) * 10 + 10 ≤ t.cols.length * 10 := by omega
   obtain ⟨q, hq⟩ : ∃ q, q = growS a t.id c := ⟨_, rfl⟩
   have hRq : R = good q b := by rw [hI]; simp only [goR, if_pos hC, hgl, hq]
   have hg := r14Grow_w a t.id c hv (by omega) (by omega) hbs ha.big (htbig.cn c (by rw [hc]; exact List.getElem_mem _))
   rw [← hq] at hg
   have hsm := r12same_fit b (show Fit2 q.1 by rw [hq]; exact grow_fit a t.id c)
   simp only [hsc] at hg hsm
   rw [eM]
   simp (maxSteps := 1000000) [hho, noHo, slotsOf, hjl, hat, e0, hat4, e4, hjn, hjn', hsc, hta, hC, hC', -List.reduceReplicate]
   refine draw_cut (fun _ : Unit => ⟨slotsOf 239 [(3, .ptr 1 0 3), (12, .ptr 5 0 3), (13, .c (.int .i64 q.2))], lgcH2 a b L t o ++ [.o .box (schA q.1)]⟩) (fun _ => True) ?_ ?_
   ·intro _ _
    simp only [lgcH2, lgcH, hsc, hta, List.cons_append, List.nil_append]
    by_cases hz : q.2 = 0
    ·have hRe : R = eqB q.1 b := by rw [hRq]; simp [good, hz]
     rw [hRe]
     simp (maxSteps := 1000000) [hho, noHo, slotsOf, hz, undef, onGP_none, condG_false, -List.reduceReplicate]
     refine call_x [] (hsm) rfl rfl ⟨rfl, rfl⟩ hho (by simp) (by decide) (by simp) (by simp) ?_
     simp (maxSteps := 1000000) [hho, noHo, undef, onGP_none, condG_false, -List.reduceReplicate]
     exact Ret.drop (by rfl) ⟨rfl, rfl⟩
    ·have hRe : R = false := by rw [hRq]; simp [good, hz]
     rw [hRe]
     simp (maxSteps := 1000000) [hho, noHo, slotsOf, hz, undef, onGP_none, condG_false, -List.reduceReplicate]
     exact Ret.drop (by rfl) ⟨rfl, rfl⟩
   ·refine draw_k hho (.take 0 (.take 1 (.take 2 (.take 3 (.take 4 (.take 5 (.take 6 (.take 7 (.take 8 (.take 9 (.take 10 (.alt 11 (.take 12 (.take 13 (.take 14 (.alt 15 (.alt 16 (.take 17 (.done)) (.nil)) (.nil))))) (.alt 15 (.alt 11 (.take 12 (.take 13 (.take 14 (.alt 16 (.take 17 (.done)) (.nil))))) (.nil)) (.nil)))))))))))))) [0, 3] [] (by decide +kernel) (by simp) ?_
    simp (maxSteps := 1000000) [hho, noHo, hcat, hw1, hin, hin', hi1, roOf, holdOf, wrOf, altK, heldOk, Region.binds, -List.reduceReplicate]
    repeat' (first | apply And.intro | with_reducible intro _)
    all_goals try omega
    all_goals (refine call_h [] hg rfl rfl ⟨rfl, rfl⟩ (by simp) (by simp) (by decide) (by simp) (by simp) ?_)
    all_goals simp (maxSteps := 1000000) [hho, noHo, roOf, holdOf, wrOf, altK, heldOk, Region.binds, -List.reduceReplicate]
    all_goals (repeat' (first | apply And.intro | with_reducible intro _))
    all_goals (refine dcut_to () trivial ?_)
    all_goals exact wk_eq (by simp [hE, lens]) (by simp [lgcH2, lgcH, hsc, hta]) (by simp [livH, livO, AV.livL, AV.liv, wkL, wkV, List.range', slotsOf])
  have hC' : ¬ (o.cols.length : Int) < t.cols.length := by omega
  by_cases hX : o.idxs.length < t.idxs.length
  ·have hX' : (o.idxs.length : Int) < t.idxs.length := by omega
   obtain ⟨c, hc⟩ : ∃ c, c = t.idxs[t.idxs.length - 1]'(by omega) := ⟨_, rfl⟩
   have hcat := idxsA_at t.idxs (t.idxs.length - 1) (by omega)
   rw [← hc] at hcat
   have hgl : t.idxs.getLast? = some c := by rw [List.getLast?_eq_getElem?, List.getElem?_eq_getElem (by omega), hc]
   have hw1 : IntKind.i64.wrap ((t.idxs.length : Int) - 1) = ((t.idxs.length - 1 : Nat) : Int) := by rw [IntWalk.i64_in _ (by omega)]; omega
   have hin : ((t.idxs.length - 1 : Nat) : Int) < t.idxs.length := by omega
   have hin' : t.idxs.length - 1 < t.idxs.length := by omega
   have hi1 : (t.idxs.length - 1) * 5 + 5 ≤ t.idxs.length * 5 := by omega
   obtain ⟨q, hq⟩ : ∃ q, q = growX a t.id c := ⟨_, rfl⟩
   have hRq : R = good q b := by rw [hI]; simp only [goR, if_neg hC, if_pos hX, hgl, hq]
   have hg := r14GrowX_w a t.id c hv (by omega) (by omega) hbs ha.big (htbig.xn c (by rw [hc]; exact List.getElem_mem _))
   rw [← hq] at hg
   have hsm := r12same_fit b (show Fit2 q.1 by rw [hq]; exact growX_fit a t.id c)
   simp only [hsc] at hg hsm
   rw [eM]
   simp (maxSteps := 1000000) [hho, noHo, slotsOf, hjl, hat, e0, hat4, e4, hjn, hjn', hsc, hta, hC, hC', hX, hX', -List.reduceReplicate]
   refine draw_cut (fun _ : Unit => ⟨slotsOf 239 [(3, .ptr 1 0 3), (14, .ptr 5 0 3), (15, .c (.int .i64 q.2))], lgcH2 a b L t o ++ [.o .box (schA q.1)]⟩) (fun _ => True) ?_ ?_
   ·intro _ _
    simp only [lgcH2, lgcH, hsc, hta, List.cons_append, List.nil_append]
    by_cases hz : q.2 = 0
    ·have hRe : R = eqB q.1 b := by rw [hRq]; simp [good, hz]
     rw [hRe]
     simp (maxSteps := 1000000) [hho, noHo, slotsOf, hz, undef, onGP_none, condG_false, -List.reduceReplicate]
     refine call_x [] (hsm) rfl rfl ⟨rfl, rfl⟩ hho (by simp) (by decide) (by simp) (by simp) ?_
     simp (maxSteps := 1000000) [hho, noHo, undef, onGP_none, condG_false, -List.reduceReplicate]
     exact Ret.drop (by rfl) ⟨rfl, rfl⟩
    ·have hRe : R = false := by rw [hRq]; simp [good, hz]
     rw [hRe]
     simp (maxSteps := 1000000) [hho, noHo, slotsOf, hz, undef, onGP_none, condG_false, -List.reduceReplicate]
     exact Ret.drop (by rfl) ⟨rfl, rfl⟩
   ·refine draw_k hho (.take 0 (.take 1 (.take 2 (.take 3 (.take 4 (.take 5 (.take 6 (.take 7 (.take 8 (.take 9 (.take 10 (.alt 11 (.take 12 (.take 13 (.take 14 (.alt 15 (.alt 16 (.take 17 (.done)) (.nil)) (.nil))))) (.alt 15 (.alt 11 (.take 12 (.take 13 (.take 14 (.alt 16 (.take 17 (.done)) (.nil))))) (.nil)) (.nil)))))))))))))) [0, 3] [] (by decide +kernel) (by simp) ?_
    simp (maxSteps := 1000000) [hho, noHo, hcat, hw1, hin, hin', hi1, roOf, holdOf, wrOf, altK, heldOk, Region.binds, -List.reduceReplicate]
    repeat' (first | apply And.intro | with_reducible intro _)
    all_goals try omega
    all_goals (refine call_h [] hg rfl rfl ⟨rfl, rfl⟩ (by simp) (by simp) (by decide) (by simp) (by simp) ?_)
    all_goals simp (maxSteps := 1000000) [hho, noHo, roOf, holdOf, wrOf, altK, heldOk, Region.binds, -List.reduceReplicate]
    all_goals (repeat' (first | apply And.intro | with_reducible intro _))
    all_goals (refine dcut_to () trivial ?_)
    all_goals exact wk_eq (by simp [hE, lens]) (by simp [lgcH2, lgcH, hsc, hta]) (by simp [livH, livO, AV.livL, AV.liv, wkL, wkV, List.range', slotsOf])
  have hX' : ¬ (o.idxs.length : Int) < t.idxs.length := by omega
  have hI2 : R = goR a b (a.tabs.drop (j + 1)) (b.tabs.drop (j + 1)) (L ++ (difXR o.id o.idxs t.idxs ++ difCR o.id o.cols t.cols)) := by rw [hI]; simp only [goR]; rw [if_neg hC, if_neg hX]
  have hlv : ∀ (k : Nat), AV.livL [k] (movsA L) = true := fun k => isD_livL _ _ ((movsA_all _).2 trivial)
  rw [eM]
  simp (maxSteps := 1000000) [hho, noHo, slotsOf, hjl, hat, e0, hat4, e4, hjn, hjn', hsc, hta, hC, hC', hX, hX', -List.reduceReplicate]
  obtain ⟨SX, hSX⟩ : ∃ S, S = lgcX a b L t o j := ⟨_, rfl⟩
  refine loop_k2 mixed SX (fun i => o.idxs.length - i) (fun i => i ≤ o.idxs.length) 0 (fun _ : Unit => lgcY a b (L ++ difXR o.id o.idxs t.idxs) t o j) (fun _ => True) 2 (Nat.zero_le _) ?_ ?_ ?_
  ·rw [hSX]
   exact wk_of 5 0 (by simp [lgcH2, lgcH]) (by simp [hE, lens]) (by simp [lgcX, lgcH2, lgcH, difXR, hsc, hta]) (by simp [livH, livO, AV.livL, AV.liv, wkL, wkV, List.range', lgcX, lgcH2, lgcH, difXR, hsc, hta, hlv]) (by simp [livH, livO, AV.livL, AV.liv, wkL, wkV, List.range', lgcX, lgcT2, lgcT, slotsOf, difXR])
  rotate_left
  ·intro i hi
   by_cases hil : i < o.idxs.length
   ·obtain ⟨x, hx⟩ : ∃ x, x = o.idxs[i] := ⟨_, rfl⟩
    have hat2 := idxsA_at o.idxs i hil
    rw [← hx] at hat2
    have htk : o.idxs.take (i + 1) = o.idxs.take i ++ [x] := by rw [hx]; exact take_snoc _ _ hil
    have e2 : i * 5 + 5 ≤ o.idxs.length * 5 := by omega
    have ew2 : IntKind.i64.wrap ((i : Int) + 1) = (i + 1 : Nat) := by rw [IntWalk.i64_in _ (by omega)]; rfl
    have hsn := difXR_snoc o.id (o.idxs.take i) t.idxs x
    have hdl := difXR_len o.id (o.idxs.take i) t.idxs
    rw [← htk] at hsn
    obtain ⟨D, hD⟩ : ∃ D, D = L ++ difXR o.id (o.idxs.take i) t.idxs := ⟨_, rfl⟩
    have hsn2 : L ++ difXR o.id (o.idxs.take (i + 1)) t.idxs = D ++ (if toXR t.idxs x.id = x.st then [] else [⟨o.id, true, x.id, toXR t.idxs x.id⟩]) := by rw [hsn, ← List.append_assoc, hD]
    have hDl : D.length ≤ 2199023255 := by rw [hD]; simp at hdl ⊢; omega
    have hlv : AV.livL [6] (movsA D) = true := isD_livL _ _ ((movsA_all _).2 trivial)
    have hlv5 : AV.livL [5] (movsA D) = true := isD_livL _ _ ((movsA_all _).2 trivial)
    have hlv56 : AV.livL [5, 6] (movsA D) = true := isD_livL _ _ ((movsA_all _).2 trivial)
    have hxa : idxA x = [.c (.int .i64 x.id), .c (.string x.name), .fs 1 x.cols.length (intsA x.cols), .c (.bool x.uniq), .c (.int .i64 x.st)] := rfl
    have eS : SX i = lgcX a b L t o j i := by rw [hSX]
    simp only [lgcX, lgcT2, lgcT, lgcH2, lgcH, List.cons_append, List.nil_append] at eS
    rw [← hD] at eS
    obtain ⟨SI, hSI⟩ : ∃ S, S = lgcXi a b D t o x j i := ⟨_, rfl⟩
    rw [eS]
    simp (maxSteps := 1000000) [hho, noHo, slotsOf, hil, hat2, e2, hsc, hta, hxa, -List.reduceReplicate]
    refine loop_k mixed SI (fun k => t.idxs.length - k) (fun k => k ≤ t.idxs.length) 0 (Nat.zero_le _) ?_ ?_
    ·rw [hSI]
     exact wk_eq (by simp [hE, lens]) (by simp [lgcXi, lgcH2, lgcH, hsc, hta, hxa]) (by simp [livH, livO, AV.livL, AV.liv, wkL, wkV, List.range', lgcXi, lgcT2, lgcT, slotsOf, toXR])
    intro k hk
    have eI : SI k = lgcXi a b D t o x j i k := by rw [hSI]
    simp only [lgcXi, lgcT2, lgcT, lgcH2, lgcH, List.cons_append, List.nil_append] at eI
    by_cases hkl : k < t.idxs.length
    ·obtain ⟨y, hy⟩ : ∃ y, y = t.idxs[k] := ⟨_, rfl⟩
     have hat3 := idxsA_at t.idxs k hkl
     rw [← hy] at hat3
     have htk2 : t.idxs.take (k + 1) = t.idxs.take k ++ [y] := by rw [hy]; exact take_snoc _ _ hkl
     have e3 : k * 5 + 5 ≤ t.idxs.length * 5 := by omega
     have ew3 : IntKind.i64.wrap ((k : Int) + 1) = (k + 1 : Nat) := by rw [IntWalk.i64_in _ (by omega)]; rfl
     have hts := toXR_snoc (t.idxs.take k) y x.id
     rw [← htk2] at hts
     have hya : idxA y = [.c (.int .i64 y.id), .c (.string y.name), .fs 1 y.cols.length (intsA y.cols), .c (.bool y.uniq), .c (.int .i64 y.st)] := rfl
     by_cases hid : y.id = x.id
     ·rw [if_pos hid] at hts
      rw [eI]
      simp (maxSteps := 1000000) [hho, noHo, slotsOf, hkl, hat3, e3, hsc, hta, hxa, hya, hid, -List.reduceReplicate]
      refine round_next (k + 1) (by omega) (by omega) ?_
      exact wk_of 6 1 (by simp) (by simp [hE, lens]) (by simp [hSI, lgcXi, lgcH2, lgcH, hsc, hta, hxa]) (by simp [livH, livO, AV.livL, AV.liv, wkL, wkV, List.range', hSI, lgcXi, lgcH2, lgcH, hsc, hta, hxa, hlv]) (by simp [livH, livO, AV.livL, AV.liv, wkL, wkV, List.range', hSI, lgcXi, lgcT2, lgcT, slotsOf, hts, ew3])
     ·rw [if_neg hid] at hts
      rw [eI]
      simp (maxSteps := 1000000) [hho, noHo, slotsOf, hkl, hat3, e3, hsc, hta, hxa, hya, hid, -List.reduceReplicate]
      refine round_next (k + 1) (by omega) (by omega) ?_
      exact wk_of 6 1 (by simp) (by simp [hE, lens]) (by simp [hSI, lgcXi, lgcH2, lgcH, hsc, hta, hxa]) (by simp [livH, livO, AV.livL, AV.liv, wkL, wkV, List.range', hSI, lgcXi, lgcH2, lgcH, hsc, hta, hxa, hlv]) (by simp [livH, livO, AV.livL, AV.liv, wkL, wkV, List.range', hSI, lgcXi, lgcT2, lgcT, slotsOf, hts, ew3])
    ·obtain rfl : k = t.idxs.length := by omega
     rw [List.take_length] at eI
     obtain ⟨v, hv⟩ : ∃ v, v = toXR t.idxs x.id := ⟨_, rfl⟩
     rw [← hv] at hsn2 eI
     by_cases hne : v = x.st
     ·rw [if_pos hne, List.append_nil] at hsn2
      rw [eI]
      simp (maxSteps := 1000000) [hho, noHo, slotsOf, hsc, hta, hxa, hne, -List.reduceReplicate]
      refine round_next (i + 1) (by omega) (by omega) ?_
      exact wk_of 5 1 (by simp) (by simp [hE, lens]) (by simp [hSX, lgcX, lgcH2, lgcH, hsc, hta, hsn2]) (by simp [livH, livO, AV.livL, AV.liv, wkL, wkV, List.range', hSX, lgcX, lgcH2, lgcH, hsc, hta, hsn2, hlv5]) (by simp [livH, livO, AV.livL, AV.liv, wkL, wkV, List.range', hSX, lgcX, lgcT2, lgcT, slotsOf, hsn2, ew2])
     ·rw [if_neg hne] at hsn2
      rw [eI]
      simp (maxSteps := 1000000) [hho, noHo, slotsOf, hsc, hta, hxa, hne, -List.reduceReplicate]
      refine ⟨by omega, round_next (i + 1) (by omega) (by omega) ?_⟩
      have hlvm : AV.livL [5, 6] (movsA D ++ [AV.c (Value.int .i64 o.id), AV.c (Value.bool true), AV.c (Value.int .i64 x.id), AV.c (Value.int .i64 v)]) = true := by rw [livL_app2, hlv56]; simp [AV.livL, AV.liv]
      refine wk_of 5 2 (by simp) (by simp [hE, lens]) (by simp [hSX, lgcX, lgcH2, lgcH, hsc, hta, hsn2, movsA_app, movsA_one, movA]) ?_ (by simp [livH, livO, AV.livL, AV.liv, wkL, wkV, List.range', hSX, lgcX, lgcT2, lgcT, slotsOf, hsn2, ew2, Nat.add_mul])
      simp [livH, livO, AV.livL, AV.liv, wkL, wkV, List.range', hSX, lgcX, lgcH2, lgcH, hsc, hta, hsn2, movsA_app, movsA_one, movA, hlvm]
   ·obtain rfl : i = o.idxs.length := by omega
    have eS : SX o.idxs.length = lgcX a b L t o j o.idxs.length := by rw [hSX]
    simp only [lgcX, lgcT2, lgcT, lgcH2, lgcH, List.cons_append, List.nil_append] at eS
    rw [List.take_length] at eS
    rw [eS]
    simp (maxSteps := 1000000) [hho, noHo, slotsOf, -List.reduceReplicate]
    refine exit_to () trivial ?_
    exact wk_eq (by simp [hE, lens]) (by simp [lgcY, lgcH2, lgcH]) (by simp [livH, livO, AV.livL, AV.liv, wkL, wkV, List.range', lgcY, lgcT2, lgcT, slotsOf])
  intro _ _
  have hdx := difXR_len o.id o.idxs t.idxs
  rw [← List.append_assoc] at hI2
  clear hlv hI eM
  obtain ⟨M, hM⟩ : ∃ M, M = L ++ difXR o.id o.idxs t.idxs := ⟨_, rfl⟩
  rw [← hM] at hI2 ⊢
  have hMl : M.length ≤ 20 * j + 8 := by rw [hM]; simp; omega
  have hLm : M.length ≤ 2199023255 := by omega
  have hlv : ∀ (k : Nat), AV.livL [k] (movsA M) = true := fun k => isD_livL _ _ ((movsA_all _).2 trivial)
  simp only [lgcY, lgcT2, lgcT, lgcH2, lgcH, List.cons_append, List.nil_append]
  simp (maxSteps := 1000000) [hho, noHo, slotsOf, hsc, hta, -List.reduceReplicate]
  obtain ⟨SC, hSC⟩ : ∃ S, S = lgcC a b M t o j := ⟨_, rfl⟩
  refine loop_k2 mixed SC (fun i => o.cols.length - i) (fun i => i ≤ o.cols.length) 0 (fun _ : Unit => lgcY a b (M ++ difCR o.id o.cols t.cols) t o j) (fun _ => True) 6 (Nat.zero_le _) ?_ ?_ ?_
  ·rw [hSC]
   exact wk_of 5 0 (by simp [lgcH2, lgcH]) (by simp [hE, lens]) (by simp [lgcC, lgcH2, lgcH, difCR, hsc, hta]) (by simp [livH, livO, AV.livL, AV.liv, wkL, wkV, List.range', lgcC, lgcH2, lgcH, difCR, hsc, hta, hlv]) (by simp [livH, livO, AV.livL, AV.liv, wkL, wkV, List.range', lgcC, lgcT2, lgcT, slotsOf, difCR])
  rotate_left
  ·intro i hi
   by_cases hil : i < o.cols.length
   ·obtain ⟨x, hx⟩ : ∃ x, x = o.cols[i] := ⟨_, rfl⟩
    have hat2 := colsA_at o.cols i hil
    rw [← hx] at hat2
    have htk : o.cols.take (i + 1) = o.cols.take i ++ [x] := by rw [hx]; exact take_snoc _ _ hil
    have e2 : i * 10 + 10 ≤ o.cols.length * 10 := by omega
    have ew2 : IntKind.i64.wrap ((i : Int) + 1) = (i + 1 : Nat) := by rw [IntWalk.i64_in _ (by omega)]; rfl
    have hsn := difCR_snoc o.id (o.cols.take i) t.cols x
    have hdl := difCR_len o.id (o.cols.take i) t.cols
    rw [← htk] at hsn
    obtain ⟨D, hD⟩ : ∃ D, D = M ++ difCR o.id (o.cols.take i) t.cols := ⟨_, rfl⟩
    have hsn2 : M ++ difCR o.id (o.cols.take (i + 1)) t.cols = D ++ (if toCR t.cols x.id = x.st then [] else [⟨o.id, false, x.id, toCR t.cols x.id⟩]) := by rw [hsn, ← List.append_assoc, hD]
    have hDl : D.length ≤ 2199023255 := by rw [hD]; simp at hdl ⊢; omega
    have hlv : AV.livL [6] (movsA D) = true := isD_livL _ _ ((movsA_all _).2 trivial)
    have hlv5 : AV.livL [5] (movsA D) = true := isD_livL _ _ ((movsA_all _).2 trivial)
    have hlv56 : AV.livL [5, 6] (movsA D) = true := isD_livL _ _ ((movsA_all _).2 trivial)
    have hxa : colA x = [.c (.int .i64 x.id), .c (.string x.name), .c (.int .i64 x.ty.k), .c (.int .i64 x.ty.s), .c (.bool x.nn), .c (.int .i64 x.dft.k), .c (.int .i64 x.dft.n), .c (.int .i64 x.dft.s), .c (.string x.dft.t), .c (.int .i64 x.st)] := rfl
    have eS : SC i = lgcC a b M t o j i := by rw [hSC]
    simp only [lgcC, lgcT2, lgcT, lgcH2, lgcH, List.cons_append, List.nil_append] at eS
    rw [← hD] at eS
    obtain ⟨SI, hSI⟩ : ∃ S, S = lgcCi a b D t o x j i := ⟨_, rfl⟩
    rw [eS]
    simp (maxSteps := 1000000) [hho, noHo, slotsOf, hil, hat2, e2, hsc, hta, hxa, -List.reduceReplicate]
    refine loop_k mixed SI (fun k => t.cols.length - k) (fun k => k ≤ t.cols.length) 0 (Nat.zero_le _) ?_ ?_
    ·rw [hSI]
     exact wk_eq (by simp [hE, lens]) (by simp [lgcCi, lgcH2, lgcH, hsc, hta, hxa]) (by simp [livH, livO, AV.livL, AV.liv, wkL, wkV, List.range', lgcCi, lgcT2, lgcT, slotsOf, toCR])
    intro k hk
    have eI : SI k = lgcCi a b D t o x j i k := by rw [hSI]
    simp only [lgcCi, lgcT2, lgcT, lgcH2, lgcH, List.cons_append, List.nil_append] at eI
    by_cases hkl : k < t.cols.length
    ·obtain ⟨y, hy⟩ : ∃ y, y = t.cols[k] := ⟨_, rfl⟩
     have hat3 := colsA_at t.cols k hkl
     rw [← hy] at hat3
     have htk2 : t.cols.take (k + 1) = t.cols.take k ++ [y] := by rw [hy]; exact take_snoc _ _ hkl
     have e3 : k * 10 + 10 ≤ t.cols.length * 10 := by omega
     have ew3 : IntKind.i64.wrap ((k : Int) + 1) = (k + 1 : Nat) := by rw [IntWalk.i64_in _ (by omega)]; rfl
     have hts := toCR_snoc (t.cols.take k) y x.id
     rw [← htk2] at hts
     have hya : colA y = [.c (.int .i64 y.id), .c (.string y.name), .c (.int .i64 y.ty.k), .c (.int .i64 y.ty.s), .c (.bool y.nn), .c (.int .i64 y.dft.k), .c (.int .i64 y.dft.n), .c (.int .i64 y.dft.s), .c (.string y.dft.t), .c (.int .i64 y.st)] := rfl
     by_cases hid : y.id = x.id
     ·rw [if_pos hid] at hts
      rw [eI]
      simp (maxSteps := 1000000) [hho, noHo, slotsOf, hkl, hat3, e3, hsc, hta, hxa, hya, hid, -List.reduceReplicate]
      refine round_next (k + 1) (by omega) (by omega) ?_
      exact wk_of 6 1 (by simp) (by simp [hE, lens]) (by simp [hSI, lgcCi, lgcH2, lgcH, hsc, hta, hxa]) (by simp [livH, livO, AV.livL, AV.liv, wkL, wkV, List.range', hSI, lgcCi, lgcH2, lgcH, hsc, hta, hxa, hlv]) (by simp [livH, livO, AV.livL, AV.liv, wkL, wkV, List.range', hSI, lgcCi, lgcT2, lgcT, slotsOf, hts, ew3])
     ·rw [if_neg hid] at hts
      rw [eI]
      simp (maxSteps := 1000000) [hho, noHo, slotsOf, hkl, hat3, e3, hsc, hta, hxa, hya, hid, -List.reduceReplicate]
      refine round_next (k + 1) (by omega) (by omega) ?_
      exact wk_of 6 1 (by simp) (by simp [hE, lens]) (by simp [hSI, lgcCi, lgcH2, lgcH, hsc, hta, hxa]) (by simp [livH, livO, AV.livL, AV.liv, wkL, wkV, List.range', hSI, lgcCi, lgcH2, lgcH, hsc, hta, hxa, hlv]) (by simp [livH, livO, AV.livL, AV.liv, wkL, wkV, List.range', hSI, lgcCi, lgcT2, lgcT, slotsOf, hts, ew3])
    ·obtain rfl : k = t.cols.length := by omega
     rw [List.take_length] at eI
     obtain ⟨v, hv⟩ : ∃ v, v = toCR t.cols x.id := ⟨_, rfl⟩
     rw [← hv] at hsn2 eI
     by_cases hne : v = x.st
     ·rw [if_pos hne, List.append_nil] at hsn2
      rw [eI]
      simp (maxSteps := 1000000) [hho, noHo, slotsOf, hsc, hta, hxa, hne, -List.reduceReplicate]
      refine round_next (i + 1) (by omega) (by omega) ?_
      exact wk_of 5 1 (by simp) (by simp [hE, lens]) (by simp [hSC, lgcC, lgcH2, lgcH, hsc, hta, hsn2]) (by simp [livH, livO, AV.livL, AV.liv, wkL, wkV, List.range', hSC, lgcC, lgcH2, lgcH, hsc, hta, hsn2, hlv5]) (by simp [livH, livO, AV.livL, AV.liv, wkL, wkV, List.range', hSC, lgcC, lgcT2, lgcT, slotsOf, hsn2, ew2])
     ·rw [if_neg hne] at hsn2
      rw [eI]
      simp (maxSteps := 1000000) [hho, noHo, slotsOf, hsc, hta, hxa, hne, -List.reduceReplicate]
      refine ⟨by omega, round_next (i + 1) (by omega) (by omega) ?_⟩
      have hlvm : AV.livL [5, 6] (movsA D ++ [AV.c (Value.int .i64 o.id), AV.c (Value.bool false), AV.c (Value.int .i64 x.id), AV.c (Value.int .i64 v)]) = true := by rw [livL_app2, hlv56]; simp [AV.livL, AV.liv]
      refine wk_of 5 2 (by simp) (by simp [hE, lens]) (by simp [hSC, lgcC, lgcH2, lgcH, hsc, hta, hsn2, movsA_app, movsA_one, movA]) ?_ (by simp [livH, livO, AV.livL, AV.liv, wkL, wkV, List.range', hSC, lgcC, lgcT2, lgcT, slotsOf, hsn2, ew2, Nat.add_mul])
      simp [livH, livO, AV.livL, AV.liv, wkL, wkV, List.range', hSC, lgcC, lgcH2, lgcH, hsc, hta, hsn2, movsA_app, movsA_one, movA, hlvm]
   ·obtain rfl : i = o.cols.length := by omega
    have eS : SC o.cols.length = lgcC a b M t o j o.cols.length := by rw [hSC]
    simp only [lgcC, lgcT2, lgcT, lgcH2, lgcH, List.cons_append, List.nil_append] at eS
    rw [List.take_length] at eS
    rw [eS]
    simp (maxSteps := 1000000) [hho, noHo, slotsOf, -List.reduceReplicate]
    refine exit_to () trivial ?_
    exact wk_eq (by simp [hE, lens]) (by simp [lgcY, lgcH2, lgcH]) (by simp [livH, livO, AV.livL, AV.liv, wkL, wkV, List.range', lgcY, lgcT2, lgcT, slotsOf])
  intro _ _
  have hdc := difCR_len o.id o.cols t.cols
  obtain ⟨Z, hZ⟩ : ∃ Z, Z = M ++ difCR o.id o.cols t.cols := ⟨_, rfl⟩
  rw [← hZ] at hI2 ⊢
  have hMl2 : Z.length ≤ 20 * (j + 1) := by rw [hZ]; simp; omega
  have hlv3 : AV.livL [3, 4] (movsA Z) = true := isD_livL _ _ ((movsA_all _).2 trivial)
  simp only [lgcY, lgcT2, lgcT, lgcH2, lgcH, List.cons_append, List.nil_append]
  simp (maxSteps := 1000000) [hho, noHo, slotsOf, hsc, hta, -List.reduceReplicate]
  refine round_next (j + 1, Z) ⟨by omega, by simp only; omega, hI2⟩ (by simp; omega) ?_
  exact wk_of 3 2 (by simp) (by simp [hE, lens]) (by simp [hSM, lgcSt, lgcH, hsc]) (by simp [livH, livO, AV.livL, AV.liv, wkL, wkV, List.range', hSM, lgcSt, lgcH, hsc, hlv3]) (by simp [livH, livO, AV.livL, AV.liv, wkL, wkV, List.range', hSM, lgcSt, lgcT, slotsOf, ew])
 ·obtain rfl : j = b.tabs.length := by omega
  have eM : SM (b.tabs.length, L) = lgcSt a b (b.tabs.length, L) := by rw [hSM]
  simp only [lgcSt, lgcT, lgcH] at eM
  rw [eM]
  simp (maxSteps := 1000000) [hho, noHo, slotsOf, -List.reduceReplicate]
  have hbt : b.tabs.drop b.tabs.length = [] := List.drop_length
  have hat0 : a.tabs.drop b.tabs.length = [] := List.drop_of_length_le (by omega)
  rw [hbt, hat0] at hI
  refine exit_to L ⟨by omega, by rw [hI]; simp only [goR]⟩ ?_
  exact wk_eq (by simp [hE, lens]) (by simp [lgcEnd, lgcH]) (by simp [livH, livO, AV.livL, AV.liv, wkL, wkV, List.range', lgcEnd, slotsOf])
end Go.Proofs.YthgoocdldnkogaaGreatDoor
