import Derived.Test.YthgoocdldnkogaaGreatDoorNH
import Derived.Test.YthgoocdldnkogaaGreatDoorNC
import Derived.Test.YthgoocdldnkogaaGreatDoorHMp
import Derived.Test.YthgoocdldnkogaaGreatDoorND
namespace Go.Proofs.YthgoocdldnkogaaGreatDoor
set_option linter.unusedVariables false
set_option linter.unusedSimpArgs false
open Go.RowKit
attribute [local simp] isCut_nil isCut_region isCut_seq isCut_block isCut_loop isCut_cond isCut_skip isCut_exit isCut_ret isCut_range swapK putK altK condK_bool pickP_bool stepP stepO onPure_some onPure_none onImpl_some onImpl_none stepC onGP_some onGP_none onGV_some condG mkG onIt_it nextP_ptr takeP_eq takeV_some takeV_none takeU_some takeU_none takeQ takeW_some takeN_none takeN_some takeG_some takeO_some altO_some pureV binV2 eqF eqOp ovlV ovl2 rowAt capV binV intBin strBin isSh shV fldV ixV sliceV slice3V loadAV nilV lenV callV unV convV viewS cellsH loadV fldCut AV.ung AV.ungs AV.gc AV.cells AS.ev AS.put anyS gcsV gcO lens lnO gV guardV retK RetP_eq resV oneV anyRo loIx hiIx implO callP_clo evL gcsL clearV storeAV AS.push AS.setO appV appZ shortS copyV buildV partsV fillV srcV fzO okV isCell_c isCell_ptr isCell_sl isCell_fs isCell_fp isCell_clo rowZ_one rowZ_zero rowZ_2 rowZ_3 rowZ_4 rowZ_5 rowZ_6 rowZ_7 rowZ_8 rowZ_9 rowZ_10 rowZ_11 rowZ_12 noHo Value.oneCell' max2V min2V lookV updV updK updW cvals mkAt basV lenM msAt afterH putBack frzFrom frzO rebO backIx nilEq_sl nilEq_fs nilEq_ifn nilEq_ifh ifOp_eql ifOp_neq isLit nilOp_eql nilOp_neq AV.reb AV.rebL
attribute [local simp ↓] runK_skip runK_region runK_draw runK_seq runK_cut runK_cond runK_block runK_loop runK_exit runK_label runK_goto runK_ret runK_range contK_nil contK_seq contK_seq_ret contK_seq_exit contK_seq_goto contK_block contK_block_ret contK_block_goto contK_block_exit runO_nil runO_cons roundK_exit roundK_ret roundK_goto exitK_ret cutK_ret cutK_exit runE_done runE_nil runE_take runE_alt condG_true condG_false
set_option maxRecDepth 10000
theorem deep_tabs {h : List AObj} {ok : Nat → Prop} {k n : Nat} {cs : List TabS} (h1 : ok k) (hn : n = cs.length) (h2 : hasC h k (tabsA cs)) (h3 : cs.length ≤ maxLen) : DeepD h ok (.sl k 4 0 n (n * 4)) (.fs 4 n (tabsA cs)) := by
 subst hn
 obtain ⟨kd, h2⟩ := h2
 refine .sl k 4 0 _ _ _ _ _ h1 h2 (by simp) (by omega) h3 (by simp) fun i u u' hu hu' => ?_
 have hi : i < (tabsA cs).length := (List.getElem?_eq_some_iff.1 hu').1
 rw [Nat.zero_add, hu'] at hu
 injection hu with hu; subst hu
 exact .d _ ((tabsA_all cs).2 trivial _ (List.mem_of_getElem? hu'))
theorem TB.oneB {k : Int} {t : TabS} (h : TB k t) (hk : k ≤ 100000) (m : MovS) : OneB t m := ⟨h.lc, h.lx, h.xc, fun c hc => by have := h.cs c hc; omega, fun c hc => by have := h.xs c hc; omega⟩
theorem upC_mem {m : MovS} {c d : ColS} (h : upC m c = some d) : d.name = c.name ∧ d.dft = c.dft ∧ ((c.id = m.id ∧ d.st = m.dst) ∨ d.st = c.st) := by
 unfold upC at h
 by_cases e : c.id = m.id
 ·by_cases z : m.dst = 0
  ·simp [e, z] at h
  ·simp [e, z] at h; subst h; simp [e]
 ·by_cases z : c.st = 0
  ·simp [e, z] at h
  ·simp [e, z] at h; subst h; simp
theorem upX_mem {m : MovS} {c d : IdxS} (h : upX m c = some d) : d.name = c.name ∧ d.cols = c.cols ∧ ((c.id = m.id ∧ d.st = m.dst) ∨ d.st = c.st) := by
 unfold upX at h
 by_cases e : c.id = m.id
 ·by_cases z : m.dst = 0
  ·simp [e, z] at h
  ·simp [e, z] at h; subst h; simp [e]
 ·by_cases z : c.st = 0
  ·simp [e, z] at h
  ·simp [e, z] at h; subst h; simp
theorem mvR_TB {k : Int} {t : TabS} {m : MovS} (h : TB k t) (h0 : (mvR t m).2 = 0) : TB (k + 1) (mvR t m).1 := by
 unfold mvR at h0 ⊢
 by_cases hix : m.ix = true
 ·rw [if_pos hix] at h0 ⊢
  by_cases hn : t.idxs.any (fun x => decide (x.id = m.id) && !nearB x.st m.dst) = true
  ·rw [if_pos hn] at h0; cases h0
  rw [if_neg hn] at h0 ⊢
  have hm : ∀ d ∈ t.idxs.filterMap (upX m), ∃ c ∈ t.idxs, d.name = c.name ∧ d.cols = c.cols ∧ (-(k + 1) ≤ d.st ∧ d.st ≤ k + 1) := fun d hd2 => by
   obtain ⟨c, hc, hu⟩ := List.mem_filterMap.1 hd2
   obtain ⟨e1, e2, e3⟩ := upX_mem hu
   have hk := h.xs c hc
   refine ⟨c, hc, e1, e2, ?_⟩
   rcases e3 with ⟨e4, e5⟩ | e3
   ·have hnr : nearB c.st m.dst = true := by
     cases hnn : nearB c.st m.dst with
     | true => rfl
     | false => exact absurd (List.any_eq_true.2 ⟨c, hc, by simp [e4, hnn]⟩) hn
    rw [e5]; exact nearB_bd hnr hk
   ·omega
  refine ⟨⟨h.big.cl, Nat.le_trans (List.length_filterMap_le ..) h.big.il, h.big.nm, h.big.cn, fun x hx => ?_⟩, h.lc, Nat.le_trans (List.length_filterMap_le ..) h.lx, fun x hx => ?_, fun c hc => by have := h.cs c hc; omega, fun c hc => ?_⟩
  ·obtain ⟨c, hc, e1, e2, _⟩ := hm x hx; rw [e1, e2]; exact h.big.xn c hc
  ·obtain ⟨c, hc, _, e2, _⟩ := hm x hx; rw [e2]; exact h.xc c hc
  ·obtain ⟨_, _, _, _, e3⟩ := hm c hc; exact e3
 ·rw [if_neg hix] at h0 ⊢
  by_cases hh : heldB t m.id = true
  ·rw [if_pos hh] at h0; cases h0
  rw [if_neg hh] at h0 ⊢
  by_cases hn : t.cols.any (fun x => decide (x.id = m.id) && !nearB x.st m.dst) = true
  ·rw [if_pos hn] at h0; cases h0
  rw [if_neg hn] at h0 ⊢
  have hm : ∀ d ∈ t.cols.filterMap (upC m), ∃ c ∈ t.cols, d.name = c.name ∧ d.dft = c.dft ∧ (-(k + 1) ≤ d.st ∧ d.st ≤ k + 1) := fun d hd2 => by
   obtain ⟨c, hc, hu⟩ := List.mem_filterMap.1 hd2
   obtain ⟨e1, e2, e3⟩ := upC_mem hu
   have hk := h.cs c hc
   refine ⟨c, hc, e1, e2, ?_⟩
   rcases e3 with ⟨e4, e5⟩ | e3
   ·have hnr : nearB c.st m.dst = true := by
     cases hnn : nearB c.st m.dst with
     | true => rfl
     | false => exact absurd (List.any_eq_true.2 ⟨c, hc, by simp [e4, hnn]⟩) hn
    rw [e5]; exact nearB_bd hnr hk
   ·omega
  refine ⟨⟨Nat.le_trans (List.length_filterMap_le ..) h.big.cl, h.big.il, h.big.nm, fun x hx => ?_, h.big.xn⟩, Nat.le_trans (List.length_filterMap_le ..) h.lc, h.lx, h.xc, fun c hc => ?_, fun c hc => by have := h.xs c hc; omega⟩
  ·obtain ⟨c, hc, e1, e2, _⟩ := hm x hx; rw [e1, e2]; exact h.big.cn c hc
  ·obtain ⟨_, _, _, _, e3⟩ := hm c hc; exact e3
theorem alikeM_comm (a b : MovS) : alikeM a b = alikeM b a := by
 unfold alikeM
 simp [eq_comm]
theorem distM_snoc (l : List MovS) (m : MovS) : distM (l ++ [m]) = (distM l && !(l.any fun o => alikeM m o)) := by
 induction l with
 | nil => simp [distM]
 | cons x l ih =>
  simp only [List.cons_append, distM, ih, List.any_append, List.any_cons, List.any_nil, alikeM_comm m x]
  cases l.any fun o => alikeM x o <;> cases alikeM x m <;> cases distM l <;> simp
theorem distM_take (l : List MovS) (n : Nat) (h : distM l = true) : distM (l.take n) = true := by
 induction l generalizing n with
 | nil => simpa using h
 | cons x l ih =>
  cases n with
  | zero => rfl
  | succ n =>
   simp only [distM, List.take_succ_cons, Bool.and_eq_true, Bool.not_eq_true'] at h ⊢
   refine ⟨List.any_eq_false.2 fun y hy => List.any_eq_false.1 h.1 y (List.mem_of_mem_take hy), ih n h.2⟩
def syT (l : List MovS) : List (Nat × AV) := [(1, .fs 4 l.length (movsA l)), (2, .ptr 0 0 3), (4, .ptr 1 0 3)]
def syH (s : SchS) : List AObj := [.o .box (schA s), .o .box [.c (.int .i64 0), .c (.int .i64 0), .c (.slice none 0 0)]]
def sySt (s : SchS) (l : List MovS) (j : Nat) : AS := ⟨slotsOf 92 (syT l ++ [(24, .fs 4 l.length (movsA l)), (25, .c (.int .i64 (l.length : Nat))), (26, .c (.int .i64 (j : Nat)))]), syH s⟩
def syIn (s : SchS) (l : List MovS) (m : MovS) (j k : Nat) : AS := ⟨slotsOf 92 (syT l ++ [(24, .fs 4 l.length (movsA l)), (25, .c (.int .i64 (l.length : Nat))), (26, .c (.int .i64 (j : Nat))), (7, .ptr 2 0 4), (33, .fs 4 j (movsA (l.take j))), (34, .c (.int .i64 (j : Nat))), (35, .c (.int .i64 (k : Nat)))]), syH s ++ [.o .box (movA m)]⟩
def syEnd (s : SchS) (l : List MovS) : AS := ⟨slotsOf 92 (syT l), syH s⟩
def szH (s : SchS) (n : Nat) (ts : List TabS) : List AObj := syH s ++ [.o (.row 28 4) (tabsA ts), .o .box [.c (.int .i64 (s.ver + 1)), .c (.int .i64 s.next), .sl 2 4 0 n (n * 4)]]
def szSt (s : SchS) (l : List MovS) (n : Nat) (y : Nat × List TabS) : AS := ⟨slotsOf 92 [(4, .ptr 1 0 3), (10, .ptr 3 0 3), (63, .fs 4 l.length (movsA l)), (64, .c (.int .i64 (l.length : Nat))), (65, .c (.int .i64 (y.1 : Nat)))], szH s n y.2⟩
def szEnd (s s2 : SchS) : AS := ⟨slotsOf 92 [(4, .ptr 1 0 3), (10, .ptr 3 0 3)], syH s ++ [.o .fz (tabsA s2.tabs), .o .box (schA s2)]⟩
set_option maxHeartbeats 8000000 in
theorem r14Step_w (s : SchS) (l : List MovS) (hv : s.ver ≤ 2 ^ 62) (hn : s.tabs.length ≤ 1000) (hb : ∀ t ∈ s.tabs, TabBig t) (hl : l.length ≤ 90000) : ACalls Tryz.prog 19 [.agg (schA s), .fs 4 l.length (movsA l)] [] (fun _ => false) (fun r h' => r = .tup [.agg (schA (stepS s l).1), .c (.int .i64 (stepS s l).2)] ∧ h' = []) := by
 refine acallsC [13, 14] mixed Tryz.func19 rfl Tryz.ntmps19 rfl fun E hE hst hho => ?_
 have hsc : ∀ s : SchS, schA s = [.c (.int .i64 s.ver), .c (.int .i64 s.next), .fs 4 s.tabs.length (tabsA s.tabs)] := fun _ => rfl
 have hr := right_r12 s (by omega) hb
 simp only [hsc] at hr
 obtain ⟨RS, hRS⟩ : ∃ RS, RS = stepS s l := ⟨_, rfl⟩
 rw [← hRS]
 unfold stepS stepF at hRS
 obtain ⟨q, hq⟩ : ∃ q : AV, q = .tup [.agg (schA RS.1), .c (.int .i64 RS.2)] := ⟨_, rfl⟩
 rw [← hq]
 cases hs : schOk s with
 | false =>
  have e3 : RS = (zeroS, 2) := by rw [hRS, if_pos (.inl hs)]
  rw [hq, e3]
  rw [hs] at hr
  simp (maxSteps := 1000000) [hho, noHo, hsc s, undef, onGP_none, condG_false, -List.reduceReplicate]
  refine call_x [] (hr) rfl rfl ⟨rfl, rfl⟩ hho (by simp) (by decide) (by simp) (by simp) ?_
  simp (maxSteps := 1000000) [hho, noHo, undef, onGP_none, condG_false, -List.reduceReplicate]
  exact ret_zero ⟨rfl, rfl⟩
 | true =>
 rw [hs] at hr
 by_cases hnil : l.length = 0
 ·have e3 : RS = (zeroS, 2) := by rw [hRS, if_pos (.inr (.inl (List.eq_nil_of_length_eq_zero hnil)))]
  rw [hq, e3]
  simp (maxSteps := 1000000) [hho, noHo, hsc s, undef, onGP_none, condG_false, -List.reduceReplicate]
  refine call_x [] (hr) rfl rfl ⟨rfl, rfl⟩ hho (by simp) (by decide) (by simp) (by simp) ?_
  simp (maxSteps := 1000000) [hho, noHo, hnil, undef, onGP_none, condG_false, -List.reduceReplicate]
  exact ret_zero ⟨rfl, rfl⟩
 have hso := (schOk_iff s).1 hs
 have hver := hso.ver
 have hlen := hso.len
 have hnz : ¬ (l.length : Int) = 0 := by omega
 have hbm : ∀ x ∈ s.tabs, x.cols.length ≤ maxLen ∧ x.idxs.length ≤ maxLen := fun x hx => by
  have h1 := (hb x hx).cl
  have h2 := (hb x hx).il
  unfold maxLen; omega
 have hbs : ∀ t ∈ s.tabs, t.cols.length ≤ 1000 ∧ t.idxs.length ≤ 1000 ∧ ∀ x ∈ t.idxs, x.cols.length ≤ 1000 := fun t ht => by
  have h := TB.of (hso.tabs t ht) (hb t ht)
  exact ⟨h.lc, h.lx, h.xc⟩
 have hw := r14Copy_w s ⟨hv, by omega⟩ hn hbs
 simp only [hsc] at hw
 simp (maxSteps := 1000000) [hho, noHo, hsc s, undef, onGP_none, condG_false, -List.reduceReplicate]
 refine call_x [] (hr) rfl rfl ⟨rfl, rfl⟩ hho (by simp) (by decide) (by simp) (by simp) ?_
 simp (maxSteps := 1000000) [hho, noHo, hnz, hnil, undef, onGP_none, condG_false, -List.reduceReplicate]
 refine seq_cut mixed [] (fun _ : Unit => syEnd s l) (fun _ => distM l = true) ?_ ?_
 ·intro _ hdist
  rw [if_neg (by rw [hs, hdist]; intro h; rcases h with h | h | h; cases h; exact hnil (by rw [h]; rfl); cases h)] at hRS
  simp only [syEnd, syT, syH]
  simp (maxSteps := 1000000) [hho, noHo, slotsOf, hsc s, -List.reduceReplicate]
  refine seq_cut mixed [] (fun _ : Unit => ⟨slotsOf 92 [(1, .fs 4 l.length (movsA l)), (4, .ptr 1 0 3), (10, .ptr 3 0 3)], szH s s.tabs.length s.tabs⟩) (fun _ => True) ?_ ?_
  ·intro _ _
   obtain ⟨N, hN⟩ : ∃ N, N = s.tabs.length := ⟨_, rfl⟩
   rw [← hN]
   simp (maxSteps := 1000000) [hho, noHo, slotsOf, szH, syH, hsc s, -List.reduceReplicate]
   refine loop_k2 mixed (szSt s l N) (fun y => l.length - y.1) (fun y => y.1 ≤ l.length ∧ y.2.length = N ∧ stepB mvR s.tabs l = stepB mvR y.2 (l.drop y.1) ∧ ∀ t ∈ y.2, TB (3 + (y.1 : Nat)) t) (0, s.tabs) (fun _ : Unit => szEnd s ⟨s.ver + 1, s.next, (stepB mvR s.tabs l).1⟩) (fun _ => (stepB mvR s.tabs l).2 = 0 ∧ (stepB mvR s.tabs l).1.length = N ∧ ∀ t ∈ (stepB mvR s.tabs l).1, TabBig t) 4 ⟨Nat.zero_le _, hN.symm, rfl, fun t ht => (TB.of (hso.tabs t ht) (hb t ht)).mono (by omega)⟩ ?_ ?_ ?_
   ·exact wk_eq (by simp [hE, lens]) (by simp [szSt, szH, syH, hsc s]) (by simp [livH, livO, AV.livL, AV.liv, wkL, wkV, List.range', szSt, slotsOf])
   ·rintro _ ⟨f1, f2, f3⟩
    rw [if_pos f1] at hRS
    obtain ⟨s2, hs2⟩ : ∃ s2 : SchS, s2 = ⟨s.ver + 1, s.next, (stepB mvR s.tabs l).1⟩ := ⟨_, rfl⟩
    rw [← hs2] at hRS ⊢
    have hck := right_r12 s2 (by rw [hs2]; simp only; omega) (by rw [hs2]; exact f3)
    simp only [hsc] at hck
    rw [hq, hRS]
    unfold chkS
    simp only [szEnd, syH]
    cases hok : schOk s2 with
    | true =>
     rw [hok] at hck
     rw [if_pos rfl]
     simp (maxSteps := 1000000) [hho, noHo, slotsOf, hsc s2, undef, onGP_none, condG_false, -List.reduceReplicate]
     refine call_x [] (hck) rfl rfl ⟨rfl, rfl⟩ hho (by simp) (by decide) (by simp) (by simp) ?_
     simp (maxSteps := 1000000) [hho, noHo, undef, onGP_none, condG_false, -List.reduceReplicate]
     exact ret_sch (s := s2) ⟨rfl, rfl⟩
    | false =>
     rw [hok] at hck
     rw [if_neg (by decide)]
     simp (maxSteps := 1000000) [hho, noHo, slotsOf, hsc s2, undef, onGP_none, condG_false, -List.reduceReplicate]
     refine call_x [] (hck) rfl rfl ⟨rfl, rfl⟩ hho (by simp) (by decide) (by simp) (by simp) ?_
     simp (maxSteps := 1000000) [hho, noHo, undef, onGP_none, condG_false, -List.reduceReplicate]
     exact ret_zero ⟨rfl, rfl⟩
   ·rintro ⟨j, ts⟩ ⟨hj, hts, hI, hB⟩
    simp only at hj hts hI hB
    by_cases hjl : j < l.length
    ·obtain ⟨m, hmx⟩ : ∃ m, m = l[j] := ⟨_, rfl⟩
     have hat := movsA_at l j hjl
     rw [← hmx] at hat
     have e0 : j * 4 + 4 ≤ l.length * 4 := by omega
     have ew : IntKind.i64.wrap ((j : Int) + 1) = (j + 1 : Nat) := by rw [IntWalk.i64_in _ (by omega)]; rfl
     have hdrop : l.drop j = m :: l.drop (j + 1) := by rw [hmx]; exact List.drop_eq_getElem_cons hjl
     rw [hdrop] at hI
     have hpl := r14place_w ⟨s.ver + 1, s.next, ts⟩ m.tab (by simp only; omega)
     have hmA : movA m = [.c (.int .i64 m.tab), .c (.bool m.ix), .c (.int .i64 m.id), .c (.int .i64 m.dst)] := rfl
     have hlts : (tabsA ts).length = N * 4 := by simp [hts]
     simp only [szSt, szH, syH]
     simp (maxSteps := 1000000) [hho, noHo, slotsOf, hjl, hat, e0, hmA, hsc s, hlts, -List.reduceReplicate]
     refine call_data hpl rfl (fun i u u' q1 q2 => ?_) (fun r h' ⟨q1, q2⟩ => ?_)
     ·match i, q1, q2 with
      | 0, q1, q2 =>
       simp at q1 q2; subst q1 q2
       refine .agg _ _ rfl fun j u u' e1 e2 => ?_
       match j, e1, e2 with
       | 0, e1, e2 => simp [schA] at e1 e2; subst e1 e2; exact .d _ _ (.d _ rfl)
       | 1, e1, e2 => simp [schA] at e1 e2; subst e1 e2; exact .d _ _ (.d _ rfl)
       | 2, e1, e2 =>
        simp [schA, hts] at e1 e2; subst e1 e2
        exact .d _ _ (deep_tabs trivial hts.symm ⟨_, rfl⟩ (by unfold maxLen; omega))
       | j + 3, e1, e2 => simp at e1
      | 1, q1, q2 => simp at q1 q2; subst q1 q2; exact .d _ _ (.d _ rfl)
      | i + 2, q1, q2 => simp at q1
     subst q1 q2
     refine ⟨rfl, ?_⟩
     rcases stepB_next mvR ts m (l.drop (j + 1)) with ⟨hf, hsb⟩ | ⟨a, t, b, hab, hf, hsb⟩
     ·have hx : ixF (fun x : TabS => decide (x.id = m.tab)) ts = -1 := by unfold ixF; rw [hf]
      have e3 : RS = (zeroS, 100) := by rw [hRS, hI, hsb]; rfl
      rw [hx, hq, e3]
      simp (maxSteps := 1000000) [hho, noHo, -List.reduceReplicate]
      exact ret_zero ⟨rfl, rfl⟩
     ·have hx : ixF (fun x : TabS => decide (x.id = m.tab)) ts = a.length := by unfold ixF; rw [hf]
      rw [hI, hsb] at hRS
      rw [hsb] at hI
      rw [hx]
      have hneg : ¬ (a.length : Int) < 0 := by omega
      have hal : a.length < N := by rw [← hts, hab]; simp
      have hali : (a.length : Int) < N := by omega
      have htm : t ∈ ts := by rw [hab]; simp
      have hTB := hB t htm
      have hone := r14one_w ts a.length (by omega) m (by
       have : ts[a.length]'(by omega) = t := by simp [hab]
       rw [this]; exact hTB.oneB (by omega) m) (by omega)
      have htx : ts[a.length]'(by omega) = t := by simp [hab]
      rw [htx, hts] at hone
      obtain ⟨Q, hQ⟩ : ∃ Q, Q = mvR t m := ⟨_, rfl⟩
      have hQB : Q.2 = 0 → TB (3 + (j : Nat) + 1) Q.1 := fun h => by rw [hQ] at h ⊢; exact mvR_TB hTB h
      rw [← hQ] at hone hRS hI
      have hset : ts.set a.length Q.1 = a ++ Q.1 :: b := by rw [hab, set_mid]
      rw [hset] at hone
      simp only [hmA] at hone
      simp (maxSteps := 1000000) [hho, noHo, hneg, -List.reduceReplicate]
      refine draw_k hho (.take 0 (.take 1 (.take 2 (.take 3 (.take 4 (.alt 5 (.take 6 (.done)) (.nil))))))) [3, 4] [] (by decide +kernel) (by simp) ?_
      simp (maxSteps := 1000000) [hho, noHo, hal, hali, roOf, holdOf, wrOf, altK, heldOk, Region.binds, -List.reduceReplicate]
      refine ⟨by omega, fun E1 => ?_⟩
      refine call_h [2] (hone) rfl rfl ⟨rfl, rfl⟩ (by simp) (by simp) (by decide) (by simp) (by simp) ?_
      by_cases hz0 : Q.2 = 0
      ·simp (maxSteps := 1000000) [hho, noHo, hz0, roOf, holdOf, wrOf, altK, heldOk, Region.binds, -List.reduceReplicate]
       refine round_next (j + 1, a ++ Q.1 :: b) ⟨by omega, by rw [← hts, hab]; simp, by rw [hI, if_pos hz0], fun x hx => ?_⟩ (by simp; omega) ?_
       ·simp only at hx ⊢
        rcases List.mem_append.1 hx with h | h
        ·exact (hB x (by rw [hab]; simp [h])).mono (by omega)
        ·rcases List.mem_cons.1 h with rfl | h
         ·exact (hQB hz0).mono (by omega)
         ·exact (hB x (by rw [hab]; simp [h])).mono (by omega)
       ·exact wk_of 4 1 rfl (by rw [hE]; simp) (by simp [szSt, szH, syH, hsc s]) (by simp [livH, livO, AV.livL, AV.liv, wkL, wkV, List.range', szSt, szH, syH, hsc s, isD_livL [4] (tabsA (a ++ Q.1 :: b)) ((tabsA_all _).2 trivial)]) (by simp [livH, livO, AV.livL, AV.liv, wkL, wkV, List.range', szSt, slotsOf, ew])
      ·simp (maxSteps := 1000000) [hho, noHo, hz0, roOf, holdOf, wrOf, altK, heldOk, Region.binds, -List.reduceReplicate]
       have e3 : RS = (zeroS, Q.2) := by rw [hRS]; simp [hz0]
       rw [hq, e3]
       exact ret_zero ⟨rfl, rfl⟩
    ·obtain rfl : j = l.length := by omega
     simp only [szSt, szH, syH]
     simp (maxSteps := 1000000) [hho, noHo, slotsOf, -List.reduceReplicate]
     have hI2 : stepB mvR s.tabs l = (ts, 0) := by rw [hI, List.drop_length]; rfl
     refine exit_to () ⟨by rw [hI2], by rw [hI2]; exact hts, by rw [hI2]; exact fun t ht => (hB t ht).big⟩ ?_
     rw [hI2]
     refine Wk.trans (wk_data 3 2 2 (n := N) (m := N * 4) (by rw [hho]; rfl) (by decide) rfl rfl rfl (by simp [hts]) rfl (by unfold maxLen; omega) (List.all_eq_true.2 ((tabsA_all _).2 trivial))) ?_
     exact wk_eq (by simp [hE, lens]) (by simp [szEnd, syH, hsc, hts]) (by simp [livH, livO, AV.livL, AV.liv, wkL, wkV, List.range', szEnd, slotsOf])
  ·simp (maxSteps := 1000000) [hho, noHo, hsc s, -List.reduceReplicate]
   refine call_sch 2 rfl hw rfl hho (by simp) ?_
   obtain ⟨H, hH⟩ : ∃ H, H = heapS 2 s.tabs := ⟨_, rfl⟩
   have hHl : H.length = 1 + 2 * s.tabs.length := by rw [hH]; simp
   rw [← hH]
   simp (maxSteps := 1000000) [hho, noHo, backIx, hHl, hsc s, -List.reduceReplicate]
   refine cut_to () trivial ?_
   rw [hH]
   have hw2 := wk_row2 (E := E) (T := AV.rebL (rowF2 s.tabs.length) (slotsOf 92 [(1, .fs 4 l.length (movsA l)), (4, .ptr 1 0 3), (10, .ptr 3 0 3)])) (T' := slotsOf 92 [(1, .fs 4 l.length (movsA l)), (4, .ptr 1 0 3), (10, .ptr 3 0 3)]) (z0 := schA s) (z := [.c (.int .i64 0), .c (.int .i64 0), .c (.slice none 0 0)]) (ver := s.ver + 1) (next := s.next) hho (by rw [hE]; rfl) (l := s.tabs) rfl hbm (List.all_eq_true.2 ((schA_all s).2 trivial)) (by simp [isD]) (wkL_refl [] _ (livL_nil _))
   refine Wk.trans ?_ hw2
   refine wk_eq (by simp [hE, lens]) (by simp [hsc s]) ?_
   simp [livH, livO, AV.livL, AV.liv, wkL, wkV, List.range', slotsOf, AV.rebL, AV.reb, rowF2, rebL_isD' ((movsA_all l).2 trivial)]
   try omega
 ·simp (maxSteps := 1000000) [hho, noHo, -List.reduceReplicate]
  refine loop_k mixed (sySt s l) (fun j => l.length - j) (fun j => j ≤ l.length ∧ distM (l.take j) = true) 0 ⟨Nat.zero_le _, by rfl⟩ ?_ ?_
  ·exact wk_eq (by simp [hE, lens]) (by simp [sySt, syH, hsc s]) (by simp [livH, livO, AV.livL, AV.liv, wkL, wkV, List.range', sySt, syT, slotsOf])
  rintro j ⟨hj, hd⟩
  by_cases hjl : j < l.length
  ·obtain ⟨m, hmx⟩ : ∃ m, m = l[j] := ⟨_, rfl⟩
   have hat := movsA_at l j hjl
   rw [← hmx] at hat
   have e0 : j * 4 + 4 ≤ l.length * 4 := by omega
   have ew : IntKind.i64.wrap ((j : Int) + 1) = (j + 1 : Nat) := by rw [IntWalk.i64_in _ (by omega)]; rfl
   have htk : l.take (j + 1) = l.take j ++ [m] := by rw [hmx]; exact take_snoc _ _ hjl
   have hmA : movA m = [.c (.int .i64 m.tab), .c (.bool m.ix), .c (.int .i64 m.id), .c (.int .i64 m.dst)] := rfl
   have hcut : List.take (j * 4) (movsA l) = movsA (l.take j) := by
    conv => lhs; rw [← List.take_append_drop j l, movsA_app]
    rw [List.take_append_of_le_length (by simp; omega), List.take_of_length_le (by simp; omega)]
   have hjle : (j : Int) ≤ l.length := by omega
   simp only [sySt, syT, syH, List.cons_append, List.nil_append]
   simp (maxSteps := 1000000) [hho, noHo, slotsOf, hjl, hat, e0, hmA, hsc s, hcut, hjle, -List.reduceReplicate]
   refine loop_k mixed (syIn s l m j) (fun k => j - k) (fun k => k ≤ j ∧ (l.take k).any (fun o => alikeM m o) = false) 0 ⟨Nat.zero_le _, by rfl⟩ ?_ ?_
   ·exact wk_eq (by simp [hE, lens]) (by simp [syIn, syH, hsc s, hmA]) (by simp [livH, livO, AV.livL, AV.liv, wkL, wkV, List.range', syIn, syT, slotsOf])
   rintro k ⟨hk, hf⟩
   by_cases hkj : k < j
   ·obtain ⟨o, hox⟩ : ∃ o, o = l[k]'(by omega) := ⟨_, rfl⟩
    have hat2 := movsA_at (l.take j) k (by simp; omega)
    rw [List.getElem_take, ← hox] at hat2
    have htk2 : l.take (k + 1) = l.take k ++ [o] := by rw [hox]; exact take_snoc _ _ (by omega)
    have e1 : k * 4 + 4 ≤ j * 4 := by omega
    have ew2 : IntKind.i64.wrap ((k : Int) + 1) = (k + 1 : Nat) := by rw [IntWalk.i64_in _ (by omega)]; rfl
    have hmin : min j l.length = j := by omega
    have hoA : movA o = [.c (.int .i64 o.tab), .c (.bool o.ix), .c (.int .i64 o.id), .c (.int .i64 o.dst)] := rfl
    have hnext : alikeM m o = false → (l.take (k + 1)).any (fun o => alikeM m o) = false := fun h => by
     rw [htk2, List.any_append, hf]; simp [h]
    simp only [syIn, syT, syH, List.cons_append, List.nil_append]
    by_cases q1 : m.tab = o.tab
    ·by_cases q2 : m.ix = o.ix
     ·by_cases q3 : m.id = o.id
      ·have hal : alikeM m o = true := by simp [alikeM, q1, q2, q3]
       have hnd : distM l = false := by
        cases hdl : distM l with
        | false => rfl
        | true =>
         have h1 := distM_take l (j + 1) hdl
         rw [htk, distM_snoc, Bool.and_eq_true, Bool.not_eq_true'] at h1
         have h2 := List.any_eq_false.1 h1.2 o (by rw [List.mem_take_iff_getElem]; exact ⟨k, by omega, hox.symm⟩)
         exact absurd hal h2
       have e3 : RS = (zeroS, 2) := by rw [hRS, if_pos (.inr (.inr hnd))]
       simp (maxSteps := 1000000) [hho, noHo, slotsOf, hkj, hat2, e1, hmA, hoA, hsc s, hmin, q1, q2, q3, undef, onGP_none, condG_false, -List.reduceReplicate]
       rw [hq, e3]
       exact ret_zero ⟨rfl, rfl⟩
      ·have hn := hnext (by simp [alikeM, q3])
       simp (maxSteps := 1000000) [hho, noHo, slotsOf, hkj, hat2, e1, hmA, hoA, hsc s, hmin, q1, q2, q3, undef, onGP_none, condG_false, -List.reduceReplicate]
       refine round_next (k + 1) ⟨by omega, fun x hx => Bool.eq_false_iff.2 (List.any_eq_false.1 hn x hx)⟩ (by omega) ?_
       exact wk_of 3 1 rfl (by rw [hE]; simp) (by simp [syIn, syH, hsc s, hmA, q1, q2]) (by simp [livH, livO, AV.livL, AV.liv, wkL, wkV, List.range', syIn, syH, hsc s, hmA]) (by simp [livH, livO, AV.livL, AV.liv, wkL, wkV, List.range', syIn, syT, slotsOf, ew2])
     ·have hn := hnext (by simp [alikeM, q2])
      simp (maxSteps := 1000000) [hho, noHo, slotsOf, hkj, hat2, e1, hmA, hoA, hsc s, hmin, q1, q2, undef, onGP_none, condG_false, -List.reduceReplicate]
      refine round_next (k + 1) ⟨by omega, fun x hx => Bool.eq_false_iff.2 (List.any_eq_false.1 hn x hx)⟩ (by omega) ?_
      exact wk_of 3 1 rfl (by rw [hE]; simp) (by simp [syIn, syH, hsc s, hmA, q1]) (by simp [livH, livO, AV.livL, AV.liv, wkL, wkV, List.range', syIn, syH, hsc s, hmA]) (by simp [livH, livO, AV.livL, AV.liv, wkL, wkV, List.range', syIn, syT, slotsOf, ew2])
    ·have hn := hnext (by simp [alikeM, q1])
     simp (maxSteps := 1000000) [hho, noHo, slotsOf, hkj, hat2, e1, hmA, hoA, hsc s, hmin, q1, undef, onGP_none, condG_false, -List.reduceReplicate]
     refine round_next (k + 1) ⟨by omega, fun x hx => Bool.eq_false_iff.2 (List.any_eq_false.1 hn x hx)⟩ (by omega) ?_
     exact wk_of 3 1 rfl (by rw [hE]; simp) (by simp [syIn, syH, hsc s, hmA]) (by simp [livH, livO, AV.livL, AV.liv, wkL, wkV, List.range', syIn, syH, hsc s, hmA]) (by simp [livH, livO, AV.livL, AV.liv, wkL, wkV, List.range', syIn, syT, slotsOf, ew2])
   ·obtain rfl : k = j := by omega
    simp only [syIn, syT, syH, List.cons_append, List.nil_append]
    simp (maxSteps := 1000000) [hho, noHo, slotsOf, -List.reduceReplicate]
    refine round_next (k + 1) ⟨by omega, ?_⟩ (by omega) ?_
    ·rw [htk, distM_snoc, hd, hf]; rfl
    ·exact wk_of 2 1 rfl (by rw [hE]; simp) (by simp [sySt, syH, hsc s]) (by simp [livH, livO, AV.livL, AV.liv, wkL, wkV, List.range', sySt, syH, hsc s]) (by simp [livH, livO, AV.livL, AV.liv, wkL, wkV, List.range', sySt, syT, slotsOf, ew])
  ·obtain rfl : j = l.length := by omega
   rw [List.take_length] at hd
   simp only [sySt, syT, syH, List.cons_append, List.nil_append]
   simp (maxSteps := 1000000) [hho, noHo, slotsOf, -List.reduceReplicate]
   refine cut_to () hd ?_
   exact wk_eq (by simp [hE, lens]) (by simp [syEnd, syH]) (by simp [livH, livO, AV.livL, AV.liv, wkL, wkV, List.range', syEnd, syT, slotsOf])
end Go.Proofs.YthgoocdldnkogaaGreatDoor
