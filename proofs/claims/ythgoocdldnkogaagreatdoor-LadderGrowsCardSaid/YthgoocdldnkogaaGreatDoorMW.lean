import Derived.Test.YthgoocdldnkogaaGreatDoorHMs
namespace Go.Proofs.YthgoocdldnkogaaGreatDoor
set_option linter.unusedVariables false
set_option linter.unusedSimpArgs false
open Go.RowKit
attribute [local simp] isCut_nil isCut_region isCut_seq isCut_block isCut_loop isCut_cond isCut_skip isCut_exit isCut_ret isCut_range swapK putK altK condK_bool pickP_bool stepP stepO onPure_some onPure_none onImpl_some onImpl_none stepC onGP_some onGP_none onGV_some condG mkG onIt_it nextP_ptr takeP_eq takeV_some takeV_none takeU_some takeU_none takeQ takeW_some takeN_none takeN_some takeG_some takeO_some altO_some pureV binV2 eqF eqOp ovlV ovl2 rowAt capV binV intBin strBin isSh shV fldV ixV sliceV slice3V loadAV nilV lenV callV unV convV viewS cellsH loadV fldCut AV.ung AV.ungs AV.gc AV.cells AS.ev AS.put anyS gcsV gcO lens lnO gV guardV retK RetP_eq resV oneV anyRo loIx hiIx implO callP_clo evL gcsL clearV storeAV AS.push AS.setO appV appZ shortS copyV buildV partsV fillV srcV fzO okV isCell_c isCell_ptr isCell_sl isCell_fs isCell_fp isCell_clo rowZ_one rowZ_zero rowZ_2 rowZ_3 rowZ_4 rowZ_5 rowZ_6 rowZ_7 rowZ_8 rowZ_9 rowZ_10 rowZ_11 rowZ_12 noHo Value.oneCell' max2V min2V lookV updV updK updW cvals mkAt basV lenM msAt afterH putBack frzFrom frzO rebO backIx nilEq_sl nilEq_fs nilEq_ifn nilEq_ifh ifOp_eql ifOp_neq isLit nilOp_eql nilOp_neq AV.reb AV.rebL
attribute [local simp ↓] runK_skip runK_region runK_draw runK_seq runK_cut runK_cond runK_block runK_loop runK_exit runK_label runK_goto runK_ret runK_range contK_nil contK_seq contK_seq_ret contK_seq_exit contK_seq_goto contK_block contK_block_ret contK_block_goto contK_block_exit runO_nil runO_cons roundK_exit roundK_ret roundK_goto exitK_ret cutK_ret cutK_exit runE_done runE_nil runE_take runE_alt condG_true condG_false
set_option maxRecDepth 10000
theorem acalls_args {P : Program} {f : FuncId} {args args' : List AV} {h : List AObj} {st : Nat → Bool} {Post : AV → List AObj → Prop} (hc : ACalls P f args h st Post) (hw : ∀ G F w vs, RepL G (lens h) F w args' vs → RepL G (lens h) F w args vs) : ACalls P f args' h st Post :=
 fun G F w vs hh hf hv => hc G F w vs hh hf (hw G F w vs hv)
theorem acalls_arg0 {P : Program} {f : FuncId} {a a' : AV} {rest : List AV} {h : List AObj} {st : Nat → Bool} {Post : AV → List AObj → Prop} (hc : ACalls P f (a :: rest) h st Post) (hw : ∀ G F w v, RepV G (lens h) F w a' v → RepV G (lens h) F w a v) : ACalls P f (a' :: rest) h st Post :=
 acalls_args hc fun G F w vs ⟨hl, hr⟩ => ⟨hl, fun j u v hu hv => match j, hu with
  | 0, hu => by simp at hu; subst hu; exact hw G F w v (hr 0 a' v rfl hv)
  | j + 1, hu => hr (j + 1) u v hu hv⟩
theorem acalls_zero {P : Program} {f : FuncId} {rest : List AV} {h : List AObj} {st : Nat → Bool} {Post : AV → List AObj → Prop} (hc : ACalls P f (.agg (schA zeroS) :: rest) h st Post) : ACalls P f (.agg [.c (.int .i64 0), .c (.int .i64 0), .c (.slice none 0 0)] :: rest) h st Post :=
 acalls_arg0 hc fun _ _ _ _ h => zero_sch h
def sm (z : Int) : Bool := decide (-100 ≤ z) && decide (z ≤ 200)
def colSm (c : ColS) : Bool := sm c.id && decide (c.name.size ≤ 50) && sm c.ty.k && sm c.ty.s && sm c.dft.k && sm c.dft.n && sm c.dft.s && decide (c.dft.t.size ≤ 50) && sm c.st
def idxSm (x : IdxS) : Bool := sm x.id && decide (x.name.size ≤ 50) && decide (x.cols.length ≤ 50) && x.cols.all sm && sm x.st
def tabSm (t : TabS) : Bool := sm t.id && decide (t.name.size ≤ 50) && decide (t.cols.length ≤ 50) && decide (t.idxs.length ≤ 50) && t.cols.all colSm && t.idxs.all idxSm
def schSm (s : SchS) : Bool := sm s.ver && sm s.next && decide (s.tabs.length ≤ 50) && s.tabs.all tabSm
theorem sm_i {z : Int} (h : sm z = true) : i64v z := by
 simp only [sm, Bool.and_eq_true, decide_eq_true_eq] at h
 exact ⟨by omega, by omega⟩
theorem schSm_is {s : SchS} (h : schSm s = true) : SB s ∧ s.ver ≤ 200 ∧ s.next ≤ 200 := by
 simp only [schSm, Bool.and_eq_true, List.all_eq_true, decide_eq_true_eq] at h
 obtain ⟨⟨⟨h1, h2⟩, h3⟩, h4⟩ := h
 have hc : ∀ t ∈ s.tabs, ∀ c ∈ t.cols, c.name.size ≤ 50 ∧ c.dft.t.size ≤ 50 ∧ c.Ok := fun t ht c hc => by
  have h := h4 t ht
  simp only [tabSm, Bool.and_eq_true, List.all_eq_true, decide_eq_true_eq] at h
  have k := h.1.2 c hc
  simp only [colSm, Bool.and_eq_true, decide_eq_true_eq] at k
  obtain ⟨⟨⟨⟨⟨⟨⟨⟨k1, k2⟩, k3⟩, k4⟩, k5⟩, k6⟩, k7⟩, k8⟩, k9⟩ := k
  exact ⟨k2, k8, sm_i k1, by unfold maxLen; omega, ⟨sm_i k3, sm_i k4⟩, ⟨sm_i k5, sm_i k6, sm_i k7, by unfold maxLen; omega⟩, sm_i k9⟩
 have hx : ∀ t ∈ s.tabs, ∀ x ∈ t.idxs, x.name.size ≤ 50 ∧ x.cols.length ≤ 50 ∧ x.Ok := fun t ht x hx => by
  have h := h4 t ht
  simp only [tabSm, Bool.and_eq_true, List.all_eq_true, decide_eq_true_eq] at h
  have k := h.2 x hx
  simp only [idxSm, Bool.and_eq_true, List.all_eq_true, decide_eq_true_eq] at k
  obtain ⟨⟨⟨⟨k1, k2⟩, k3⟩, k4⟩, k5⟩ := k
  exact ⟨k2, k3, sm_i k1, by unfold maxLen; omega, fun z hz => sm_i (k4 z hz), sm_i k5⟩
 have ht : ∀ t ∈ s.tabs, i64v t.id ∧ t.name.size ≤ 50 ∧ t.cols.length ≤ 50 ∧ t.idxs.length ≤ 50 := fun t ht => by
  have h := h4 t ht
  simp only [tabSm, Bool.and_eq_true, List.all_eq_true, decide_eq_true_eq] at h
  exact ⟨sm_i h.1.1.1.1.1, h.1.1.1.1.2, h.1.1.1.2, h.1.1.2⟩
 have e1 := sm_i h1
 have e2 := sm_i h2
 refine ⟨⟨by omega, fun t h => ⟨by have := (ht t h).2.2.1; omega, by have := (ht t h).2.2.2; omega, by have := (ht t h).2.1; omega, fun c hc2 => ?_, fun x hx2 => ?_⟩, e1, e2, fun t h => ⟨(ht t h).1, by have := (ht t h).2.1; unfold maxLen; omega, fun c hc2 => (hc t h c hc2).2.2, fun x hx2 => (hx t h x hx2).2.2⟩⟩, ?_, ?_⟩
 ·have := hc t h c hc2; exact ⟨by omega, by omega⟩
 ·have := hx t h x hx2; exact ⟨by omega, by omega⟩
 ·simp only [sm, Bool.and_eq_true, decide_eq_true_eq] at h1; omega
 ·simp only [sm, Bool.and_eq_true, decide_eq_true_eq] at h2; omega
def f4c : ColS := ⟨0, ⟨#[97]⟩, ⟨2, 0⟩, false, ⟨0, 0, 0, ⟨#[]⟩⟩, 0⟩
def f4x : IdxS := ⟨0, ⟨#[105]⟩, [1], false, 0⟩
def f4a : SchS × Int := createS zeroS ⟨#[116]⟩ [f4c]
def f4b : SchS × Int := growX f4a.1 0 f4x
def f4d : SchS × Int := stepF mvP f4b.1 [⟨0, true, 2, 2⟩]
def f4e : SchS × Int := stepF mvP f4d.1 [⟨0, false, 1, 2⟩]
def f4f : SchS × Int := stepF mvP f4d.1 [⟨0, true, 2, 3⟩]
theorem f4_facts : (f4a.2 = 0 ∧ f4b.2 = 0 ∧ f4d.2 = 0 ∧ f4e.2 = 122 ∧ f4f.2 = 0) ∧ (f4f.1.ver = 4 ∧ f4f.1.next = 3 ∧ f4b.1.ver = 2) ∧ schSm f4a.1 = true ∧ schSm f4b.1 = true ∧ schSm f4d.1 = true ∧ schSm f4e.1 = true ∧ schSm f4f.1 = true := by decide +kernel
set_option maxHeartbeats 4000000 in
theorem first14_w : ACalls Tryz.prog 9 [] [] (fun _ => false) (fun r h' => r = .c (.bool true) ∧ h' = []) := by
 refine acalls mixed Tryz.func9 rfl Tryz.ntmps9 rfl fun E hE hst hho => ?_
 obtain ⟨⟨a1, a2, a3, a4, a5⟩, ⟨b1, b2, b5⟩, c1, c2, c3, c4, c5⟩ := f4_facts
 have b3 : legalP f4d.1 f4f.1 = true := by
  have h := stepP_eq f4d.1 [⟨0, true, 2, 3⟩]
  have h2 : f4f = stepS f4d.1 [⟨0, true, 2, 3⟩] := h
  rw [h2] at a5 ⊢
  exact step_legal a5
 have b4 : legalP f4b.1 f4f.1 = false := by
  rw [legal_eq]
  unfold legalR
  rw [b1, b5]
  simp
 obtain ⟨k1, k1v, k1n⟩ := schSm_is c1
 obtain ⟨k2, k2v, k2n⟩ := schSm_is c2
 obtain ⟨k3, k3v, k3n⟩ := schSm_is c3
 obtain ⟨k4, k4v, k4n⟩ := schSm_is c4
 obtain ⟨k5, k5v, k5n⟩ := schSm_is c5
 have hm : ∀ (z : Int), -100 ≤ z → z ≤ 100 → i64v z := fun z h1 h2 => ⟨by omega, by omega⟩
 have w1 := acalls_zero (create_w zeroS ⟨#[116]⟩ [f4c] (by decide) (by decide) (by decide) (fun t ht => by cases ht) (by decide) (by decide) (fun c hc => by rw [List.mem_singleton.1 hc]; exact ⟨by decide, by decide⟩))
 have w2 := growX_w f4a.1 0 f4x (by omega) (by omega) k1.len k1.big ⟨by decide, by decide⟩
 have w3 := step_w f4b.1 [⟨0, true, 2, 2⟩] (by omega) k2.len k2.big (by decide) (fun m hmm => by rw [List.mem_singleton.1 hmm]; exact ⟨hm _ (by decide) (by decide), hm _ (by decide) (by decide), hm _ (by decide) (by decide)⟩)
 have w4 := step_w f4d.1 [⟨0, false, 1, 2⟩] (by omega) k3.len k3.big (by decide) (fun m hmm => by rw [List.mem_singleton.1 hmm]; exact ⟨hm _ (by decide) (by decide), hm _ (by decide) (by decide), hm _ (by decide) (by decide)⟩)
 have w5 := step_w f4d.1 [⟨0, true, 2, 3⟩] (by omega) k3.len k3.big (by decide) (fun m hmm => by rw [List.mem_singleton.1 hmm]; exact ⟨hm _ (by decide) (by decide), hm _ (by decide) (by decide), hm _ (by decide) (by decide)⟩)
 have w6 := legal_w f4d.1 f4f.1 k3 k5 (by omega) (by omega)
 have w7 := legal_w f4b.1 f4f.1 k2 k5 (by omega) (by omega)
 rw [show createS zeroS ⟨#[116]⟩ [f4c] = f4a from rfl, a1] at w1
 rw [show growX f4a.1 0 f4x = f4b from rfl, a2] at w2
 rw [show stepF mvP f4b.1 [⟨0, true, 2, 2⟩] = f4d from rfl, a3] at w3
 rw [show stepF mvP f4d.1 [⟨0, false, 1, 2⟩] = f4e from rfl, a4] at w4
 rw [show stepF mvP f4d.1 [⟨0, true, 2, 3⟩] = f4f from rfl, a5] at w5
 rw [b3] at w6
 rw [b4] at w7
 have hsc : ∀ s : SchS, schA s = [.c (.int .i64 s.ver), .c (.int .i64 s.next), .fs 4 s.tabs.length (tabsA s.tabs)] := fun _ => rfl
 obtain ⟨s1, e1⟩ : ∃ s, s = f4a.1 := ⟨_, rfl⟩
 obtain ⟨s2, e2⟩ : ∃ s, s = f4b.1 := ⟨_, rfl⟩
 obtain ⟨s3, e3⟩ : ∃ s, s = f4d.1 := ⟨_, rfl⟩
 obtain ⟨s4, e4⟩ : ∃ s, s = f4e.1 := ⟨_, rfl⟩
 obtain ⟨s5, e5⟩ : ∃ s, s = f4f.1 := ⟨_, rfl⟩
 rw [← e1] at w1 w2
 rw [← e2] at w2 w3 w7
 rw [← e3] at w3 w4 w5 w6
 rw [← e4] at w4
 rw [← e5] at w5 w6 w7 b1 b2
 clear e1 e2 e3 e4 e5 k1 k2 k3 k4 k5 c1 c2 c3 c4 c5 k1v k1n k2v k2n k3v k3n k4v k4n k5v k5n
 have hs5 : schA s5 = [.c (.int .i64 4), .c (.int .i64 3), .fs 4 s5.tabs.length (tabsA s5.tabs)] := by rw [hsc, b1, b2]
 rw [hs5] at w6 w7
 simp (maxSteps := 1000000) [hho, noHo, -List.reduceReplicate]
 refine call_f [] (fun k => k == 0) (w1) rfl rfl ⟨rfl, rfl⟩ hho (by simp) (by decide) (by simp) (by simp [isD_c, maxLen]) (by simp) ?_
 simp (maxSteps := 1000000) [hho, noHo, hsc, -List.reduceReplicate]
 refine call_f [] (fun k => k == 2) (w2) rfl rfl ⟨rfl, rfl⟩ hho (by simp) (by decide) (by simp) (by simp [isD_c, maxLen]) (by simp) ?_
 simp (maxSteps := 1000000) [hho, noHo, hsc, -List.reduceReplicate]
 refine call_f [] (fun k => k == 4) (w3) rfl rfl ⟨rfl, rfl⟩ hho (by simp) (by decide) (by simp) (by simp [isD_c, maxLen]) (by simp) ?_
 simp (maxSteps := 1000000) [hho, noHo, hsc, -List.reduceReplicate]
 refine call_f [] (fun k => k == 6) (w4) rfl rfl ⟨rfl, rfl⟩ hho (by simp) (by decide) (by simp) (by simp [isD_c, maxLen]) (by simp) ?_
 simp (maxSteps := 1000000) [hho, noHo, hsc, -List.reduceReplicate]
 refine call_f [] (fun k => k == 8) (w5) rfl rfl ⟨rfl, rfl⟩ hho (by simp) (by decide) (by simp) (by simp [isD_c, maxLen]) (by simp) ?_
 simp (maxSteps := 1000000) [hho, noHo, hsc, b1, b2, -List.reduceReplicate]
 refine call_x [] (w6) rfl rfl ⟨rfl, rfl⟩ hho (by simp) (by decide) (by simp) (by simp) ?_
 simp (maxSteps := 1000000) [hho, noHo, hsc, -List.reduceReplicate]
 refine call_x [] (w7) rfl rfl ⟨rfl, rfl⟩ hho (by simp) (by decide) (by simp) (by simp) ?_
 simp (maxSteps := 1000000) [hho, noHo, hsc, -List.reduceReplicate]
 exact Ret.drop (by rfl) ⟨rfl, rfl⟩
end Go.Proofs.YthgoocdldnkogaaGreatDoor
