import Derived.Test.YthgoocdldnkogaaGreatDoorMU
import Derived.Test.YthgoocdldnkogaaGreatDoorHMp
import Derived.Test.YthgoocdldnkogaaGreatDoorHZ2
import Derived.Test.YthgoocdldnkogaaGreatDoorHF2
namespace Go.Proofs.YthgoocdldnkogaaGreatDoor
set_option linter.unusedVariables false
set_option linter.unusedSimpArgs false
open Go.RowKit
attribute [local simp] isCut_nil isCut_region isCut_seq isCut_block isCut_loop isCut_cond isCut_skip isCut_exit isCut_ret isCut_range swapK putK altK condK_bool pickP_bool stepP stepO onPure_some onPure_none onImpl_some onImpl_none stepC onGP_some onGP_none onGV_some condG mkG onIt_it nextP_ptr takeP_eq takeV_some takeV_none takeU_some takeU_none takeQ takeW_some takeN_none takeN_some takeG_some takeO_some altO_some pureV binV2 eqF eqOp ovlV ovl2 rowAt capV binV intBin strBin isSh shV fldV ixV sliceV slice3V loadAV nilV lenV callV unV convV viewS cellsH loadV fldCut AV.ung AV.ungs AV.gc AV.cells AS.ev AS.put anyS gcsV gcO lens lnO gV guardV retK RetP_eq resV oneV anyRo loIx hiIx implO callP_clo evL gcsL clearV storeAV AS.push AS.setO appV appZ shortS copyV buildV partsV fillV srcV fzO okV isCell_c isCell_ptr isCell_sl isCell_fs isCell_fp isCell_clo rowZ_one rowZ_zero rowZ_2 rowZ_3 rowZ_4 rowZ_5 rowZ_6 rowZ_7 rowZ_8 rowZ_9 rowZ_10 rowZ_11 rowZ_12 noHo Value.oneCell' max2V min2V lookV updV updK updW cvals mkAt basV lenM msAt afterH putBack frzFrom frzO rebO backIx nilEq_sl nilEq_fs nilEq_ifn nilEq_ifh ifOp_eql ifOp_neq isLit nilOp_eql nilOp_neq AV.reb AV.rebL
attribute [local simp ↓] runK_skip runK_region runK_draw runK_seq runK_cut runK_cond runK_block runK_loop runK_exit runK_label runK_goto runK_ret runK_range contK_nil contK_seq contK_seq_ret contK_seq_exit contK_seq_goto contK_block contK_block_ret contK_block_goto contK_block_exit runO_nil runO_cons roundK_exit roundK_ret roundK_goto exitK_ret cutK_ret cutK_exit runE_done runE_nil runE_take runE_alt condG_true condG_false
set_option maxRecDepth 10000
def rowF2 (n k : Nat) : Nat := if k < 3 then k else if k = 3 then 3 + 2 * n else k + (2 * n + 100)
theorem wk_row2 {E : Env} (hE : E.ho = noHo) (hln : E.ln0 = []) {l : List TabS} {n : Nat} {ver next : Int} {T T' z z0 : List AV} (hnl : n = l.length) (hb : ∀ x ∈ l, x.cols.length ≤ maxLen ∧ x.idxs.length ≤ maxLen) (hz0 : z0.all isD = true) (hz : z.all isD = true) (hT : wkL [] T (AV.rebL (rowF2 n) T')) :
  Wk E ⟨T, .o .box z0 :: .o .box z :: (heapS 2 l ++ [.o .box [.c (.int .i64 ver), .c (.int .i64 next), .sl 2 4 0 n (n * 4)]])⟩ ⟨T', [.o .box z0, .o .box z, .o (.row 28 4) (tabsA l), .o .box [.c (.int .i64 ver), .c (.int .i64 next), .sl 2 4 0 n (n * 4)]]⟩ := by
 subst hnl
 refine Wk.trans (wk_fzOk (fun k => decide (3 ≤ k) && decide (k < 3 + 2 * l.length)) hE) ?_
 obtain ⟨O, hO⟩ : ∃ O : AObj, O = .o .box [.c (.int .i64 ver), .c (.int .i64 next), .sl 2 4 0 l.length (l.length * 4)] := ⟨_, rfl⟩
 rw [← hO]
 obtain ⟨S0, hS0⟩ : ∃ S0 : List AObj, S0 = .o .box z0 :: .o .box z :: (heapS 2 l ++ [O]) := ⟨_, rfl⟩
 have q0 : S0[0]? = some (.o .box z0) := by rw [hS0]; rfl
 have q1 : S0[1]? = some (.o .box z) := by rw [hS0]; rfl
 have q2 : S0[2]? = some (.o (.row 28 4) (livsA 3 l)) := by rw [hS0]; rfl
 have q3 : ∀ k x, (inner l)[k]? = some x → S0[3 + k]? = some x := fun k x hk => by
  have hkl := (List.getElem?_eq_some_iff.1 hk).1
  rw [hS0, show 3 + k = k + 1 + 1 + 1 by omega]
  simp only [List.getElem?_cons_succ, heapS, List.cons_append]
  rw [List.getElem?_append_left hkl]; exact hk
 have q4 : S0[3 + 2 * l.length]? = some O := by
  rw [hS0, show 3 + 2 * l.length = 2 * l.length + 1 + 1 + 1 by omega]
  simp only [List.getElem?_cons_succ, heapS, List.cons_append]
  rw [List.getElem?_append_right (by simp), inner_length]; simp
 have hS0l : S0.length = 4 + 2 * l.length := by rw [hS0]; simp; omega
 simp only
 rw [← hS0]
 obtain ⟨H, hH⟩ : ∃ H, H = frzFrom (fun k => decide (3 ≤ k) && decide (k < 3 + 2 * l.length)) 0 S0 := ⟨_, rfl⟩
 rw [← hH]
 have hg : ∀ k, H[k]? = (S0[k]?).map fun x => if (decide (3 ≤ k) && decide (k < 3 + 2 * l.length)) = true then frzO x else x := fun k => by rw [hH, frz_at, Nat.zero_add]
 have hHl : H.length = 4 + 2 * l.length := by rw [hH, frz_len, hS0l]
 have g0 : H[0]? = some (.o .box z0) := by rw [hg, q0]; rfl
 have g1 : H[1]? = some (.o .box z) := by rw [hg, q1]; rfl
 have g2 : H[2]? = some (.o (.row 28 4) (livsA 3 l)) := by rw [hg, q2]; rfl
 have g3 : ∀ k x, (inner l)[k]? = some x → isFz H (3 + k) ∧ hasC H (3 + k) (cellsO x) := fun k x hk => by
  have hkl : k < 2 * l.length := by have := (List.getElem?_eq_some_iff.1 hk).1; simpa using this
  have e := hg (3 + k)
  rw [q3 k x hk, Option.map_some, if_pos (by simp; omega)] at e
  have hm := List.mem_of_getElem? hk
  have hx : ∀ (l : List TabS) (x : AObj), x ∈ inner l → ∃ kd cs, x = .o kd cs := fun l => by
   induction l with
   | nil => intro x hx; cases hx
   | cons y l ih => intro x hx; simp only [inner, List.mem_cons] at hx; rcases hx with rfl | rfl | hx; exact ⟨_, _, rfl⟩; exact ⟨_, _, rfl⟩; exact ih x hx
  obtain ⟨kd, cs, rfl⟩ := hx l x hm
  exact ⟨⟨cs, e⟩, ⟨_, e⟩⟩
 have g4 : H[3 + 2 * l.length]? = some O := by rw [hg, q4, Option.map_some, if_neg (by simp)]
 refine Wk.trans (wk_deepL (s := ⟨T, H⟩) 2 (cs' := tabsA l) g2 (by simp) fun j u u' hu hu' => .inr (livs_deep l 3 g3 hb j u u' hu hu')) ?_
 obtain ⟨H2, hH2⟩ : ∃ H2, H2 = H.set 2 (.o (.row 28 4) (tabsA l)) := ⟨_, rfl⟩
 simp only
 rw [← hH2]
 have hH2l : H2.length = 4 + 2 * l.length := by rw [hH2, List.length_set, hHl]
 have k0 : H2[0]? = some (.o .box z0) := by rw [hH2, List.getElem?_set_ne (by omega)]; exact g0
 have k1 : H2[1]? = some (.o .box z) := by rw [hH2, List.getElem?_set_ne (by omega)]; exact g1
 have k2 : H2[2]? = some (.o (.row 28 4) (tabsA l)) := by rw [hH2, List.getElem?_set_self (by omega)]
 have k3 : H2[3 + 2 * l.length]? = some O := by rw [hH2, List.getElem?_set_ne (by omega)]; exact g4
 refine Wk.trans (wk_eq (s' := ⟨AV.rebL (rowF2 l.length) T', H2⟩) (by rw [hln]; simp) rfl hT) ?_
 have hOr : rebO (rowF2 l.length) O = O := by rw [hO, rebO_eq]; simp [AV.rebL, AV.reb, rowF2]
 have hobj : ∀ (k : Nat) (x : AObj), [AObj.o .box z0, .o .box z, .o (.row 28 4) (tabsA l), O][k]? = some x → H2[rowF2 l.length k]? = some (rebO (rowF2 l.length) x) := fun k x hk => by
  match k, hk with
  | 0, hk => simp at hk; subst hk; rw [rebO_eq, rebL_isD hz0]; exact k0
  | 1, hk => simp at hk; subst hk; rw [rebO_eq, rebL_isD hz]; exact k1
  | 2, hk => simp at hk; subst hk; rw [rebO_eq, rebL_isD' ((tabsA_all _).2 trivial)]; exact k2
  | 3, hk => simp at hk; subst hk; rw [hOr]; exact k3
  | k + 4, hk => simp at hk
 refine wk_pick (rowF2 l.length) hE (fun k => ?_) (fun j k hj hk h => ?_) hobj rfl (fun k hk _ => by rw [hln] at hk; cases hk)
 ·simp only [lens, List.getElem?_map]
  cases hk : [AObj.o .box z0, .o .box z, .o (.row 28 4) (tabsA l), O][k]? with
  | some x => rw [hobj k x hk, Option.map_some, Option.map_some, rebO_ln]
  | none =>
   have hkl := List.getElem?_eq_none_iff.1 hk
   simp at hkl
   have : rowF2 l.length k = k + (2 * l.length + 100) := by simp only [rowF2]; rw [if_neg (by omega), if_neg (by omega)]
   rw [this, List.getElem?_eq_none_iff.2 (by omega)]
 ·simp only [rowF2] at h
  repeat' (split at h)
  all_goals omega
def ncBox (s : SchS) (name : ByteArray) (l : List ColS) : AObj := .o .box [.c (.int .i64 s.next), .c (.string name), .fs 10 l.length (colsA (newCols (s.next + 1) l)), .fs 5 0 []]
def ncH (s : SchS) (v n : Int) : List AObj := [.o .box (schA s), .o .box [.c (.int .i64 0), .c (.int .i64 0), .c (.slice none 0 0)], .o (.row 28 4) (tabsA s.tabs), .o .box [.c (.int .i64 v), .c (.int .i64 n), .sl 2 4 0 s.tabs.length (s.tabs.length * 4)]]
def ncSt (s : SchS) (name : ByteArray) (l : List ColS) (j : Nat) : AS := ⟨slotsOf 76 [(2, .fs 10 l.length (colsA l)), (3, .ptr 0 0 3), (6, .ptr 1 0 3), (8, .ptr 3 0 3), (9, .ptr 4 0 4), (37, .fs 10 l.length (colsA l)), (38, .c (.int .i64 (l.length : Nat))), (39, .c (.int .i64 (j : Nat)))],
 ncH s (s.ver + 1) s.next ++ [.o .box [.c (.int .i64 s.next), .c (.string name), .sl 5 10 0 j (j * 10), .fs 5 0 []], .o (.row 44 10) (colsA (newCols (s.next + 1) (l.take j)))]⟩
def ncFs (s : SchS) (name : ByteArray) (l : List ColS) : AS := ⟨slotsOf 76 [(2, .fs 10 l.length (colsA l)), (3, .ptr 0 0 3), (6, .ptr 1 0 3), (8, .ptr 3 0 3), (9, .ptr 4 0 4)], ncH s (s.ver + 1) s.next ++ [ncBox s name l]⟩
set_option maxHeartbeats 8000000 in
theorem r14Create_w (s : SchS) (name : ByteArray) (l : List ColS) (hv : s.ver ≤ 2 ^ 62) (hnx : s.next ≤ 2 ^ 61) (hl : s.tabs.length ≤ 1000) (hb : ∀ t ∈ s.tabs, t.cols.length ≤ 1000 ∧ t.idxs.length ≤ 1000 ∧ ∀ x ∈ t.idxs, x.cols.length ≤ 1000) (hb0 : ∀ t ∈ s.tabs, TabBig t) (hnm : name.size ≤ 9000000000000000000) (hll : l.length ≤ 1000) (hc : ∀ c ∈ l, c.name.size ≤ 9000000000000000000 ∧ c.dft.t.size ≤ 9000000000000000000) : ACalls Tryz.prog 12 [.agg (schA s), .c (.string name), .fs 10 l.length (colsA l)] [] (fun _ => false) (fun r h' => r = .tup [.agg (schA (createS s name l).1), .c (.int .i64 (createS s name l).2)] ∧ h' = []) := by
 refine acallsC [8, 18] mixed Tryz.func12 rfl Tryz.ntmps12 rfl fun E hE hst hho => ?_
 have hsc : ∀ s : SchS, schA s = [.c (.int .i64 s.ver), .c (.int .i64 s.next), .fs 4 s.tabs.length (tabsA s.tabs)] := fun _ => rfl
 have hr := right_r12 s (by omega) hb0
 have hn := name_ref name (by omega)
 have htb := r12Table_w s name (by omega)
 obtain ⟨RS, hRS⟩ : ∃ RS, RS = createS s name l := ⟨_, rfl⟩
 rw [← hRS]
 unfold createS at hRS
 simp only [hsc] at hr htb
 cases hs : schOk s with
 | false =>
  have e3 : RS = (zeroS, 2) := by rw [hRS, if_pos (.inl hs)]
  rw [e3]
  rw [hs] at hr
  simp (maxSteps := 1000000) [hho, noHo, hsc s, undef, onGP_none, condG_false, -List.reduceReplicate]
  refine call_x [] (hr) rfl rfl ⟨rfl, rfl⟩ hho (by simp) (by decide) (by simp) (by simp) ?_
  simp (maxSteps := 1000000) [hho, noHo, undef, onGP_none, condG_false, -List.reduceReplicate]
  exact ret_zero ⟨rfl, rfl⟩
 | true =>
 rw [hs] at hr
 cases hnk : nameOk name with
 | false =>
  have e3 : RS = (zeroS, 2) := by rw [hRS, if_pos (.inr hnk)]
  rw [e3]
  rw [hnk] at hn
  simp (maxSteps := 1000000) [hho, noHo, hsc s, undef, onGP_none, condG_false, -List.reduceReplicate]
  refine call_x [] (hr) rfl rfl ⟨rfl, rfl⟩ hho (by simp) (by decide) (by simp) (by simp) ?_
  simp (maxSteps := 1000000) [hho, noHo, undef, onGP_none, condG_false, -List.reduceReplicate]
  refine call_x [] (hn) rfl rfl ⟨rfl, rfl⟩ hho (by simp) (by decide) (by simp) (by simp) ?_
  simp (maxSteps := 1000000) [hho, noHo, undef, onGP_none, condG_false, -List.reduceReplicate]
  exact ret_zero ⟨rfl, rfl⟩
 | true =>
 rw [hnk] at hn
 rw [if_neg (by rw [hs, hnk]; decide)] at hRS
 cases hne : s.tabs.any (fun t => decide (t.name = name)) with
 | true =>
  have h0 := (any_name s.tabs name).2 hne
  have e3 : RS = (zeroS, 120) := by rw [hRS, if_pos hne]
  rw [e3]
  simp (maxSteps := 1000000) [hho, noHo, hsc s, undef, onGP_none, condG_false, -List.reduceReplicate]
  refine call_x [] (hr) rfl rfl ⟨rfl, rfl⟩ hho (by simp) (by decide) (by simp) (by simp) ?_
  simp (maxSteps := 1000000) [hho, noHo, undef, onGP_none, condG_false, -List.reduceReplicate]
  refine call_x [] (hn) rfl rfl ⟨rfl, rfl⟩ hho (by simp) (by decide) (by simp) (by simp) ?_
  simp (maxSteps := 1000000) [hho, noHo, undef, onGP_none, condG_false, -List.reduceReplicate]
  refine call_x [] (htb) rfl rfl ⟨rfl, rfl⟩ hho (by simp) (by decide) (by simp) (by simp) ?_
  simp (maxSteps := 1000000) [hho, noHo, h0, undef, onGP_none, condG_false, -List.reduceReplicate]
  exact ret_zero ⟨rfl, rfl⟩
 | false =>
 have h0 : ¬ 0 ≤ ixF (fun t : TabS => decide (t.name = name)) s.tabs := fun h => by rw [(any_name s.tabs name).1 h] at hne; cases hne
 rw [if_neg (by rw [hne]; decide)] at hRS
 have hso := (schOk_iff s).1 hs
 have hlen := hso.len
 by_cases h8 : 8 ≤ s.tabs.length
 ·have e3 : RS = (zeroS, 121) := by rw [hRS, if_pos h8]
  have h8' : s.tabs.length = 8 := by omega
  rw [e3]
  simp (maxSteps := 1000000) [hho, noHo, hsc s, undef, onGP_none, condG_false, -List.reduceReplicate]
  refine call_x [] (hr) rfl rfl ⟨rfl, rfl⟩ hho (by simp) (by decide) (by simp) (by simp) ?_
  simp (maxSteps := 1000000) [hho, noHo, undef, onGP_none, condG_false, -List.reduceReplicate]
  refine call_x [] (hn) rfl rfl ⟨rfl, rfl⟩ hho (by simp) (by decide) (by simp) (by simp) ?_
  simp (maxSteps := 1000000) [hho, noHo, undef, onGP_none, condG_false, -List.reduceReplicate]
  refine call_x [] (htb) rfl rfl ⟨rfl, rfl⟩ hho (by simp) (by decide) (by simp) (by simp) ?_
  simp (maxSteps := 1000000) [hho, noHo, h0, h8', undef, onGP_none, condG_false, -List.reduceReplicate]
  exact ret_zero ⟨rfl, rfl⟩
 have h8' : ¬ s.tabs.length = 8 := by omega
 have h8i : ¬ (s.tabs.length : Int) = 8 := by omega
 rw [if_neg h8] at hRS
 have hver := hso.ver
 have hnext := hso.next
 have hw := r14Copy_w s ⟨hv, by omega⟩ hl hb
 simp only [hsc] at hw
 obtain ⟨q, hq⟩ : ∃ q : AV, q = .tup [.agg (schA RS.1), .c (.int .i64 RS.2)] := ⟨_, rfl⟩
 rw [← hq]
 simp (maxSteps := 1000000) [hho, noHo, hsc s, undef, onGP_none, condG_false, -List.reduceReplicate]
 refine call_x [] (hr) rfl rfl ⟨rfl, rfl⟩ hho (by simp) (by decide) (by simp) (by simp) ?_
 simp (maxSteps := 1000000) [hho, noHo, undef, onGP_none, condG_false, -List.reduceReplicate]
 refine call_x [] (hn) rfl rfl ⟨rfl, rfl⟩ hho (by simp) (by decide) (by simp) (by simp) ?_
 simp (maxSteps := 1000000) [hho, noHo, undef, onGP_none, condG_false, -List.reduceReplicate]
 refine call_x [] (htb) rfl rfl ⟨rfl, rfl⟩ hho (by simp) (by decide) (by simp) (by simp) ?_
 simp (maxSteps := 1000000) [hho, noHo, h0, h8', h8i, undef, onGP_none, condG_false, -List.reduceReplicate]
 have hbm : ∀ x ∈ s.tabs, x.cols.length ≤ maxLen ∧ x.idxs.length ≤ maxLen := fun x hx => by
  have h1 := (hb0 x hx).cl
  have h2 := (hb0 x hx).il
  unfold maxLen; omega
 refine seq_cut mixed [] (fun _ : Unit => ⟨slotsOf 76 [(1, .c (.string name)), (2, .fs 10 l.length (colsA l)), (3, .ptr 0 0 3), (6, .ptr 1 0 3), (8, .ptr 3 0 3)], ncH s (s.ver + 1) s.next⟩) (fun _ => True) ?_ ?_
 ·intro _ _
  simp (maxSteps := 1000000) [hho, noHo, slotsOf, ncH, hsc s, -List.reduceReplicate]
  refine loop_k2c [8, 18] mixed (ncSt s name l) (fun j => l.length - j) (fun j => j ≤ l.length) 0 (fun _ : Unit => ncFs s name l) (fun _ => True) 0 (Nat.zero_le _) ?_ ?_ ?_
  ·refine Wk.trans (wk_virtC 4 2 44 10 rfl rfl) ?_
   refine Wk.trans (wk_cell 4 3 (old := .c (.slice none 0 0)) (new := .fs 5 0 []) rfl rfl fun G F w v _ hv => nil_fs0 5 hv) ?_
   exact wk_eq (by rw [hE]; simp [lens]) (by simp [ncSt, ncH, newCols, colsA, hsc s]) (by simp [livH, livO, AV.livL, AV.liv, wkL, wkV, List.range', ncSt, slotsOf])
  ·intro _ _
   have en1 : IntKind.i64.wrap (s.next + (l.length : Nat)) = s.next + (l.length : Nat) := IntWalk.i64_in _ (by omega)
   have en : IntKind.i64.wrap (s.next + (l.length : Nat) + 1) = s.next + 1 + (l.length : Nat) := by rw [IntWalk.i64_in _ (by omega)]; omega
   simp only [ncFs]
   simp (maxSteps := 1000000) [hho, noHo, slotsOf, ncH, hsc s, ncBox, en1, en, -List.reduceReplicate]
   obtain ⟨s2, hs2⟩ : ∃ s2 : SchS, s2 = ⟨s.ver + 1, s.next + 1 + (l.length : Nat), s.tabs ++ [crTab s name l]⟩ := ⟨_, rfl⟩
   have hRS2 : RS = chkS s2 2 := by rw [hRS, hs2]; rfl
   have hnc : (newCols (s.next + 1) l).length = l.length := newCols_len _ _
   have hnm2 : ∀ (l : List ColS) (n : Int), (∀ c ∈ l, c.name.size ≤ 9000000000000000000 ∧ c.dft.t.size ≤ 9000000000000000000) → ∀ c ∈ newCols n l, c.name.size ≤ 9000000000000000000 ∧ c.dft.t.size ≤ 9000000000000000000 := fun l => by
    induction l with
    | nil => intro n _ c hc; cases hc
    | cons y l ih =>
     intro n h c hc
     simp only [newCols, List.mem_cons] at hc
     rcases hc with rfl | hc
     ·exact h y (by simp)
     ·exact ih (n + 1) (fun c hc => h c (by simp [hc])) c hc
   have hbg : ∀ t ∈ s2.tabs, TabBig t := fun t ht => by
    rw [hs2] at ht
    rcases List.mem_append.1 ht with h | h
    ·exact hb0 t h
    ·simp at h; subst h
     exact ⟨by simp [crTab, hnc]; omega, by simp [crTab], hnm, hnm2 l _ hc, fun x hx => by simp [crTab] at hx⟩
   have hck := right_r12 s2 (by rw [hs2]; simp; omega) hbg
   simp only [hsc] at hck
   refine seq_cut mixed [] (fun _ : Unit => ⟨slotsOf 76 [(6, .ptr 1 0 3), (8, .ptr 3 0 3)], [.o .box (schA s), .o .box [.c (.int .i64 0), .c (.int .i64 0), .c (.slice none 0 0)], .o .fz (tabsA s2.tabs), .o .box (schA s2)]⟩) (fun _ => True) ?_ ?_
   ·intro _ _
    rw [hq, hRS2]
    unfold chkS
    cases hok : schOk s2 with
    | true =>
     rw [hok] at hck
     rw [if_pos rfl]
     simp (maxSteps := 1000000) [hho, noHo, slotsOf, hsc s2, undef, onGP_none, condG_false, -List.reduceReplicate]
     refine call_x [] (hck) rfl rfl ⟨rfl, rfl⟩ hho (by simp) (by decide) (by simp) (by simp) ?_
     simp (maxSteps := 1000000) [hho, noHo, undef, onGP_none, condG_false, -List.reduceReplicate]
     exact ret_sch (s := s2) ⟨rfl, rfl⟩
    | false =>
     rw [hok] at hck
     rw [if_neg (by decide)]
     simp (maxSteps := 1000000) [hho, noHo, slotsOf, hsc s2, undef, onGP_none, condG_false, -List.reduceReplicate]
     refine call_x [] (hck) rfl rfl ⟨rfl, rfl⟩ hho (by simp) (by decide) (by simp) (by simp) ?_
     simp (maxSteps := 1000000) [hho, noHo, undef, onGP_none, condG_false, -List.reduceReplicate]
     exact ret_zero ⟨rfl, rfl⟩
   ·simp (maxSteps := 1000000) [hho, noHo, en, -List.reduceReplicate]
    refine ⟨by omega, cut_to () trivial ?_⟩
    have hd : tabsA s2.tabs = tabsA s.tabs ++ [.c (.int .i64 s.next), .c (.string name), .fs 10 l.length (colsA (newCols (s.next + 1) l)), .fs 5 0 []] := by
     rw [hs2, tabsA_snoc]; simp [tabA, crTab, hnc, idxsA]
    rw [← hd]
    have hl1 : (tabsA s2.tabs).length = s.tabs.length * 4 + 4 := by rw [hs2]; simp; omega
    refine Wk.trans (wk_data 3 2 2 (by rw [hho]; rfl) (by decide) rfl rfl rfl hl1 (by omega) (by unfold maxLen; omega) (List.all_eq_true.2 ((tabsA_all _).2 trivial))) ?_
    have hlv := isD_livL [4, 5] (tabsA s2.tabs) ((tabsA_all _).2 trivial)
    refine wk_of 4 2 rfl (by rw [hE]; simp) ?_ (by simp [livH, livO, AV.livL, AV.liv, wkL, wkV, List.range', hsc, hlv]) (by simp [livH, livO, AV.livL, AV.liv, wkL, wkV, List.range', slotsOf])
    simp [hsc, hs2]
  ·intro j hj
   by_cases hjl : j < l.length
   ·obtain ⟨c, hcx⟩ : ∃ c, c = l[j] := ⟨_, rfl⟩
    have hat := colsA_at l j hjl
    rw [← hcx] at hat
    have e0 : j * 10 + 10 ≤ l.length * 10 := by omega
    have ew : IntKind.i64.wrap ((j : Int) + 1) = (j + 1 : Nat) := by rw [IntWalk.i64_in _ (by omega)]; rfl
    have en0 : IntKind.i64.wrap (s.next + 1) = s.next + 1 := IntWalk.i64_in _ (by omega)
    have en : IntKind.i64.wrap (s.next + 1 + (j : Nat)) = s.next + 1 + (j : Nat) := IntWalk.i64_in _ (by omega)
    have hncl : (newCols (s.next + 1) (List.take j l)).length = j := by rw [newCols_len]; simp; omega
    have hncl2 : (colsA (newCols (s.next + 1) (List.take j l))).length = j * 10 := by simp [hncl]
    simp only [ncSt]
    simp (maxSteps := 1000000) [hho, noHo, slotsOf, hjl, hat, e0, colA, en0, en, hncl, ncH, hsc s, -List.reduceReplicate]
    refine ⟨by omega, ?_⟩
    refine round_next (j + 1) (by omega) (by omega) ?_
    have hsn : newCols (s.next + 1) (List.take (j + 1) l) = newCols (s.next + 1) (List.take j l) ++ [{ c with id := s.next + 1 + (j : Nat), st := 3 }] := by
     rw [take_snoc _ _ hjl, newCols_app, ← hcx]
     congr 3
     simp; omega
    refine wk_of 6 2 rfl (by rw [hE]; simp) ?_ (by simp [livH, livO, AV.livL, AV.liv, wkL, wkV, List.range', ncSt, ncH, hsc s]) (by simp [livH, livO, AV.livL, AV.liv, wkL, wkV, List.range', ncSt, slotsOf, ew])
    simp [ncSt, ncH, hsc s, hsn, colsA_app, colsA_one, colA, Nat.add_mul]
   ·obtain rfl : j = l.length := by omega
    simp only [ncSt]
    simp (maxSteps := 1000000) [hho, noHo, slotsOf, ncH, hsc s, -List.reduceReplicate]
    refine exit_to () trivial ?_
    have hnc : (newCols (s.next + 1) l).length = l.length := newCols_len _ _
    refine Wk.trans (wk_data 4 2 5 (by rw [hho]; rfl) (by decide) rfl rfl rfl (by simp [hnc]) rfl (by unfold maxLen; omega) (List.all_eq_true.2 ((colsA_all _).2 trivial))) ?_
    refine wk_of 5 1 rfl (by rw [hE]; simp) ?_ (by simp [livH, livO, AV.livL, AV.liv, wkL, wkV, List.range', ncFs, ncH, ncBox, tabA, hsc s]) (by simp [livH, livO, AV.livL, AV.liv, wkL, wkV, List.range', ncFs, slotsOf])
    simp [ncFs, ncH, ncBox, tabA, hnc, idxsA, hsc s]
 ·simp (maxSteps := 1000000) [hho, noHo, hsc s, -List.reduceReplicate]
  refine call_sch 2 rfl hw rfl hho (by simp) ?_
  obtain ⟨H, hH⟩ : ∃ H, H = heapS 2 s.tabs := ⟨_, rfl⟩
  have hHl : H.length = 1 + 2 * s.tabs.length := by rw [hH]; simp
  rw [← hH]
  simp (maxSteps := 1000000) [hho, noHo, backIx, hHl, hsc s, -List.reduceReplicate]
  refine cut_to () trivial ?_
  rw [hH]
  have hw2 := wk_row2 (E := E) (T := AV.rebL (rowF2 s.tabs.length) (slotsOf 76 [(1, .c (.string name)), (2, .fs 10 l.length (colsA l)), (3, .ptr 0 0 3), (6, .ptr 1 0 3), (8, .ptr 3 0 3)])) (T' := slotsOf 76 [(1, .c (.string name)), (2, .fs 10 l.length (colsA l)), (3, .ptr 0 0 3), (6, .ptr 1 0 3), (8, .ptr 3 0 3)]) (z0 := schA s) (z := [.c (.int .i64 0), .c (.int .i64 0), .c (.slice none 0 0)]) (ver := s.ver + 1) (next := s.next) hho (by rw [hE]; rfl) (l := s.tabs) rfl hbm (List.all_eq_true.2 ((schA_all s).2 trivial)) (by simp [isD]) (wkL_refl [] _ (livL_nil _))
  refine Wk.trans ?_ hw2
  refine wk_eq (by simp [hE, lens]) (by simp [hsc s]) ?_
  simp [livH, livO, AV.livL, AV.liv, wkL, wkV, List.range', slotsOf, AV.rebL, AV.reb, rowF2, rebL_isD' ((colsA_all l).2 trivial)]
  try omega
end Go.Proofs.YthgoocdldnkogaaGreatDoor
