import Derived.Test.YthgoocdldnkogaaGreatDoorND
import Derived.Test.YthgoocdldnkogaaGreatDoorNC
import Derived.Test.YthgoocdldnkogaaGreatDoorHMj
namespace Go.Proofs.YthgoocdldnkogaaGreatDoor
set_option linter.unusedVariables false
set_option linter.unusedSimpArgs false
open Go.RowKit
attribute [local simp] isCut_nil isCut_region isCut_seq isCut_block isCut_loop isCut_cond isCut_skip isCut_exit isCut_ret isCut_range swapK putK altK condK_bool pickP_bool stepP stepO onPure_some onPure_none onImpl_some onImpl_none stepC onGP_some onGP_none onGV_some condG mkG onIt_it nextP_ptr takeP_eq takeV_some takeV_none takeU_some takeU_none takeQ takeW_some takeN_none takeN_some takeG_some takeO_some altO_some pureV binV2 eqF eqOp ovlV ovl2 rowAt capV binV intBin strBin isSh shV fldV ixV sliceV slice3V loadAV nilV lenV callV unV convV viewS cellsH loadV fldCut AV.ung AV.ungs AV.gc AV.cells AS.ev AS.put anyS gcsV gcO lens lnO gV guardV retK RetP_eq resV oneV anyRo loIx hiIx implO callP_clo evL gcsL clearV storeAV AS.push AS.setO appV appZ shortS copyV buildV partsV fillV srcV fzO okV isCell_c isCell_ptr isCell_sl isCell_fs isCell_fp isCell_clo rowZ_one rowZ_zero rowZ_2 rowZ_3 rowZ_4 rowZ_5 rowZ_6 rowZ_7 rowZ_8 rowZ_9 rowZ_10 rowZ_11 rowZ_12 noHo Value.oneCell' max2V min2V lookV updV updK updW cvals mkAt basV lenM msAt afterH putBack frzFrom frzO rebO backIx nilEq_sl nilEq_fs nilEq_ifn nilEq_ifh ifOp_eql ifOp_neq isLit nilOp_eql nilOp_neq AV.reb AV.rebL
attribute [local simp ↓] runK_skip runK_region runK_draw runK_seq runK_cut runK_cond runK_block runK_loop runK_exit runK_label runK_goto runK_ret runK_range contK_nil contK_seq contK_seq_ret contK_seq_exit contK_seq_goto contK_block contK_block_ret contK_block_goto contK_block_exit runO_nil runO_cons roundK_exit roundK_ret roundK_goto exitK_ret cutK_ret cutK_exit runE_done runE_nil runE_take runE_alt condG_true condG_false
set_option maxRecDepth 10000
theorem ACalls.wk0 {P : Program} {f : FuncId} {args : List AV} {h H1 H2 : List AObj} {v v2 : AV} (hc : ACalls P f args h (fun _ => false) (fun r h' => r = v ∧ h' = H1)) (hcl : Clean (fun _ => false) H1 v H2 v2) : ACalls P f args h (fun _ => false) (fun r h' => r = v2 ∧ h' = H2) := by
 intro G F w vs hh hf hr
 refine (hc G F w vs hh hf hr).mono fun e w' ⟨x, r, h', G', F', e1, e2, e3, e4, e5, e6⟩ => ?_
 subst e5 e6
 obtain ⟨G2, F2, c1, c2, c3⟩ := hcl _ G' F' w' x rfl e2 e3
 exact ⟨x, v2, H2, G2, F2, e1, c1, c2, (fun k m hs => by cases hs), rfl, rfl⟩
theorem Clean.wk0 {h h2 : List AObj} {r r2 : AV} (hw : ∀ E : Env, E.ho = noHo → E.st = (fun _ => false) → Wk E ⟨[r], h⟩ ⟨[r2], h2⟩) : Clean (fun _ => false) h r h2 r2 :=
 Clean.wkS (fun E _ h1 h2 => hw E h1 h2) fun E G F w x _ hf hr => ⟨G, F, hf, hr, fun k m hs => by cases hs⟩
theorem r14CopyOne_w (s : SchS) (hv : s.ver ≤ 2 ^ 62 ∧ -4 ≤ s.ver) (hl : s.tabs.length ≤ 1000) (hb : ∀ t ∈ s.tabs, t.cols.length ≤ 1000 ∧ t.idxs.length ≤ 1000 ∧ ∀ x ∈ t.idxs, x.cols.length ≤ 1000) {a b : List TabS} {t : TabS} (he : s.tabs = a ++ t :: b) :
  ACalls Tryz.prog 39 [.agg (schA s)] [] (fun _ => false) (fun r h' => r = .agg [.c (.int .i64 (s.ver + 1)), .c (.int .i64 s.next), .sl 0 4 0 s.tabs.length (s.tabs.length * 4)] ∧ h' = oneH a t b) := by
 refine (r14Copy_w s hv hl hb).wk0 (Clean.wk0 fun E hE hst => ?_)
 rw [he]
 refine wk_one hE (fun k _ h => by rw [hst] at h; cases h) (by simp [AV.rebL, AV.reb, oneF]) fun x hx => ?_
 have := hb x (by rw [he]; exact hx)
 unfold maxLen; omega
theorem tab_cols {s : SchS} {a b : List TabS} {t : TabS} (he : s.tabs = a ++ t :: b) : (tabsA s.tabs)[a.length * 4 + 2]? = some (.fs 10 t.cols.length (colsA t.cols)) := by
 rw [he, tabsA_app, List.getElem?_append_right (by simp), tabsA_length, Nat.add_sub_cancel_left]; rfl
theorem tab_idxs {s : SchS} {a b : List TabS} {t : TabS} (he : s.tabs = a ++ t :: b) : (tabsA s.tabs)[a.length * 4 + 3]? = some (.fs 5 t.idxs.length (idxsA t.idxs)) := by
 rw [he, tabsA_app, List.getElem?_append_right (by simp), tabsA_length, Nat.add_sub_cancel_left]; rfl
set_option maxHeartbeats 4000000 in
theorem r14Grow_w (s : SchS) (id : Int) (c : ColS) (hv : s.ver ≤ 2 ^ 62) (hnx : s.next ≤ 2 ^ 62) (hl : s.tabs.length ≤ 1000) (hbs : ∀ t ∈ s.tabs, t.cols.length ≤ 1000 ∧ t.idxs.length ≤ 1000 ∧ ∀ x ∈ t.idxs, x.cols.length ≤ 1000) (hb : ∀ t ∈ s.tabs, TabBig t) (hc : c.name.size ≤ 9000000000000000000 ∧ c.dft.t.size ≤ 9000000000000000000) : ACalls Tryz.prog 15 [.agg (schA s), .c (.int .i64 id), .agg (colA c)] [] (fun _ => false) (fun r h' => r = .tup [.agg (schA (growS s id c).1), .c (.int .i64 (growS s id c).2)] ∧ h' = []) := by
 refine acallsC [13] mixed Tryz.func15 rfl Tryz.ntmps15 rfl fun E hE hst hho => ?_
 have hsc : ∀ s : SchS, schA s = [.c (.int .i64 s.ver), .c (.int .i64 s.next), .fs 4 s.tabs.length (tabsA s.tabs)] := fun _ => rfl
 have hr := right_r12 s (by omega) hb
 have hpl := r14place_w s id (by omega)
 simp only [hsc] at hr hpl
 rcases atTab_cases s id with ⟨hs, hat⟩ | ⟨hs, hf, hat⟩ | ⟨hs, a, t, b, he, hid, hf, hat⟩
 ·have e1 : growS s id c = (zeroS, 2) := hat _
  rw [e1]
  rw [hs] at hr
  simp (maxSteps := 1000000) [hho, noHo, hsc s, colA, -List.reduceReplicate]
  refine call_x [] (hr) rfl rfl ⟨rfl, rfl⟩ hho (by simp) (by decide) (by simp) (by simp) ?_
  simp (maxSteps := 1000000) [hho, noHo, -List.reduceReplicate]
  exact ret_zero ⟨rfl, rfl⟩
 ·have e1 : growS s id c = (zeroS, 100) := hat _
  rw [e1]
  rw [hs] at hr
  have hix : ixF (fun t : TabS => decide (t.id = id)) s.tabs = -1 := by unfold ixF; rw [hf]
  rw [hix] at hpl
  simp (maxSteps := 1000000) [hho, noHo, hsc s, colA, -List.reduceReplicate]
  refine call_x [] (hr) rfl rfl ⟨rfl, rfl⟩ hho (by simp) (by decide) (by simp) (by simp) ?_
  simp (maxSteps := 1000000) [hho, noHo, -List.reduceReplicate]
  refine call_x [] (hpl) rfl rfl ⟨rfl, rfl⟩ hho (by simp) (by decide) (by simp) (by simp) ?_
  simp (maxSteps := 1000000) [hho, noHo, -List.reduceReplicate]
  exact ret_zero ⟨rfl, rfl⟩
 ·have hso := (schOk_iff s).1 hs
  have hver := hso.ver
  have hnext := hso.next
  have htm : t ∈ s.tabs := by rw [he]; simp
  have hlc := (hso.tabs t htm).lc
  rw [hs] at hr
  have hix : ixF (fun t : TabS => decide (t.id = id)) s.tabs = (a.length : Nat) := by unfold ixF; rw [hf]
  rw [hix] at hpl
  have hw := r14CopyOne_w s ⟨hv, by omega⟩ hl hbs he
  simp only [hsc] at hw
  have e1 := hat fun i t => if 12 ≤ t.cols.length then (zeroS, 121) else chkS ⟨s.ver + 1, s.next + 1, s.tabs.set i { t with cols := t.cols ++ [{ c with id := s.next, st := 1 }] }⟩ 2
  have e2 : growS s id c = if 12 ≤ t.cols.length then (zeroS, 121) else chkS ⟨s.ver + 1, s.next + 1, s.tabs.set a.length { t with cols := t.cols ++ [{ c with id := s.next, st := 1 }] }⟩ 2 := e1
  rw [e2]
  have hn : s.tabs.length = a.length + 1 + b.length := by rw [he]; simp; omega
  have p2 := tab_cols he
  have kp2 := fun h => gq p2 h
  have hai : (a.length : Int) < s.tabs.length := by omega
  have hai' : a.length < s.tabs.length := by omega
  have i2 : a.length * 4 + 2 < s.tabs.length * 4 := by omega
  have m2 : 1 ≤ min 4 (s.tabs.length * 4 - a.length * 4) - 2 := by omega
  have hneg : ¬ ((a.length : Nat) : Int) < 0 := by omega
  by_cases h12 : 12 ≤ t.cols.length
  ·rw [if_pos h12]
   have h12' : t.cols.length = 12 := by omega
   simp (maxSteps := 1000000) [hho, noHo, hsc s, colA, -List.reduceReplicate]
   refine call_x [] (hr) rfl rfl ⟨rfl, rfl⟩ hho (by simp) (by decide) (by simp) (by simp) ?_
   simp (maxSteps := 1000000) [hho, noHo, -List.reduceReplicate]
   refine call_x [] (hpl) rfl rfl ⟨rfl, rfl⟩ hho (by simp) (by decide) (by simp) (by simp) ?_
   simp (maxSteps := 1000000) [hho, noHo, hneg, hai, hai', p2, kp2, i2, m2, h12', -List.reduceReplicate]
   exact ret_zero ⟨rfl, rfl⟩
  rw [if_neg h12]
  have h12' : ¬ t.cols.length = 12 := by omega
  have h12i : ¬ (t.cols.length : Int) = 12 := by omega
  simp (maxSteps := 1000000) [hho, noHo, hsc s, colA, -List.reduceReplicate]
  refine call_x [] (hr) rfl rfl ⟨rfl, rfl⟩ hho (by simp) (by decide) (by simp) (by simp) ?_
  simp (maxSteps := 1000000) [hho, noHo, -List.reduceReplicate]
  refine call_x [] (hpl) rfl rfl ⟨rfl, rfl⟩ hho (by simp) (by decide) (by simp) (by simp) ?_
  simp (maxSteps := 1000000) [hho, noHo, hneg, hai, hai', p2, kp2, i2, m2, h12', h12i, -List.reduceReplicate]
  refine call_one 3 rfl hw rfl hho (by simp) ?_
  obtain ⟨C, hC⟩ : ∃ C, C = tabsA a ++ ([.c (.int .i64 t.id), .c (.string t.name), .sl 4 10 0 t.cols.length (t.cols.length * 10), .sl 5 5 0 t.idxs.length (t.idxs.length * 5)] ++ tabsA b) := ⟨_, rfl⟩
  have hR : oneR 4 5 a t b = .o (.row 28 4) C := by rw [hC]; rfl
  have g2 : C[a.length * 4 + 2]? = some (.sl 4 10 0 t.cols.length (t.cols.length * 10)) := by rw [hC, oneR_get 4 5 a b t 2 (by omega)]; rfl
  have hCl : C.length = s.tabs.length * 4 := by rw [hC, hn]; simp; omega
  have k2 := fun h => gq g2 h
  have i2' : a.length * 4 + 2 + 1 ≤ s.tabs.length * 4 := by omega
  have hcl := (hb t htm).cl
  obtain ⟨t2, ht2⟩ : ∃ t2 : TabS, t2 = { t with cols := t.cols ++ [{ c with id := s.next, st := 1 }] } := ⟨_, rfl⟩
  obtain ⟨s2, hs2⟩ : ∃ s2 : SchS, s2 = ⟨s.ver + 1, s.next + 1, s.tabs.set a.length t2⟩ := ⟨_, rfl⟩
  rw [← ht2, ← hs2]
  obtain ⟨q, hq⟩ : ∃ q : AV, q = .tup [.agg (schA (chkS s2 2).1), .c (.int .i64 (chkS s2 2).2)] := ⟨_, rfl⟩
  rw [← hq]
  have en : IntKind.i64.wrap (s.next + 1) = s.next + 1 := IntWalk.i64_in _ (by omega)
  simp (maxSteps := 1000000) [hho, noHo, hR, rowL, rowX, backIx, hCl, en, -List.reduceReplicate]
  have hs2t : s2.tabs = a ++ t2 :: b := by rw [hs2]; simp only; rw [he, set_mid]
  have hcl2 : t2.cols.length = t.cols.length + 1 := by rw [ht2]; simp
  have hil := (hb t htm).il
  have hbg : ∀ x ∈ s2.tabs, TabBig x := fun x hx => by
   rw [hs2t] at hx
   rcases List.mem_append.1 hx with h | h
   ·exact hb x (by rw [he]; simp [h])
   ·rcases List.mem_cons.1 h with rfl | h
    ·have h0 := hb t htm
     rw [ht2]
     refine ⟨by simp; omega, h0.il, h0.nm, fun y hy => ?_, h0.xn⟩
     rcases List.mem_append.1 hy with h | h
     ·exact h0.cn y h
     ·simp at h; subst h; exact hc
    ·exact hb x (by rw [he]; simp [h])
  have hck := right_r12 s2 (by rw [hs2t]; simp; omega) hbg
  simp only [hsc] at hck
  refine seq_cut mixed [] (fun _ : Unit => ⟨slotsOf 58 [(6, .ptr 0 0 3), (9, .ptr 1 0 3)], [.o .box [.c (.int .i64 0), .c (.int .i64 0), .c (.slice none 0 0)], .o .box (schA s2)]⟩) (fun _ => True) ?_ ?_
  ·intro _ _
   rw [hq]
   unfold chkS
   cases hok : schOk s2 with
   | true =>
    rw [hok] at hck
    rw [if_pos rfl]
    simp (maxSteps := 1000000) [hho, noHo, slotsOf, hsc s2, undef, onGP_none, condG_false, -List.reduceReplicate]
    refine call_x [] (hck) rfl rfl ⟨rfl, rfl⟩ hho (by simp) (by decide) (by simp) (by simp) ?_
    simp (maxSteps := 1000000) [hho, noHo, undef, onGP_none, condG_false, -List.reduceReplicate]
    exact ret_sch (s := s2) ⟨rfl, rfl⟩
   | false =>
    rw [hok] at hck
    rw [if_neg (by decide)]
    simp (maxSteps := 1000000) [hho, noHo, slotsOf, hsc s2, undef, onGP_none, condG_false, -List.reduceReplicate]
    refine call_x [] (hck) rfl rfl ⟨rfl, rfl⟩ hho (by simp) (by decide) (by simp) (by simp) ?_
    simp (maxSteps := 1000000) [hho, noHo, undef, onGP_none, condG_false, -List.reduceReplicate]
    exact ret_zero ⟨rfl, rfl⟩
  ·simp (maxSteps := 1000000) [hho, noHo, hCl, -List.reduceReplicate]
   refine draw_k hho (.take 0 (.take 1 (.take 2 (.take 3 (.take 4 (.take 5 (.take 6 (.take 7 (.take 8 (.take 9 (.alt 10 (.alt 11 (.take 12 (.take 13 (.alt 14 (.done) (.nil)))) (.nil)) (.nil)))))))))))) [1, 3, 6] [(14, [3])] (by decide +kernel) (by simp) ?_
   simp (maxSteps := 1000000) [hho, noHo, hCl, k2, i2, i2', hai, hai', en, roOf, holdOf, wrOf, altK, heldOk, Region.binds, -List.reduceReplicate]
   intro E1 E2
   refine ⟨by omega, ?_⟩
   intro E3
   refine ⟨by omega, ?_⟩
   refine cut_to () trivial ?_
   have hs2' : s2 = ⟨s.ver + 1, s.next + 1, a ++ t2 :: b⟩ := by rw [← hs2t, hs2]
   rw [hs2']
   refine cut_one (n := s.tabs.length) (t2 := t2) hho (by rw [hE]; rfl) hn ?_ ?_ ?_ (by simp [isD]) (by simp) (by unfold maxLen; omega) (by unfold maxLen; omega) (by rw [ht2]; unfold maxLen; simp; omega) (by simp [livH, livO, AV.livL, AV.liv, wkL, wkV, List.range', slotsOf, AV.rebL, AV.reb, twoF])
   ·rw [set_split _ _ _ (by omega), hC, List.set_append_right _ _ (by simp), tabsA_length, Nat.add_sub_cancel_left]
    simp [oneR, ht2, Nat.add_mul]
   ·simp [rowL, ht2, colsA_app, colsA_one, colA]
   ·simp [rowX, ht2]
end Go.Proofs.YthgoocdldnkogaaGreatDoor
