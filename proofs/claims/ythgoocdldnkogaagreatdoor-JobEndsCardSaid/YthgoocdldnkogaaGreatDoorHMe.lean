import Derived.Test.YthgoocdldnkogaaGreatDoorHMa
import Derived.Test.YthgoocdldnkogaaGreatDoorHJ
import Derived.Test.YthgoocdldnkogaaGreatDoorHDp
namespace Go.Proofs.YthgoocdldnkogaaGreatDoor
set_option linter.unusedVariables false
set_option linter.unusedSimpArgs false
open Go.RowKit
attribute [local simp] isCut_nil isCut_region isCut_seq isCut_block isCut_loop isCut_cond isCut_skip isCut_exit isCut_ret isCut_range swapK putK altK condK_bool pickP_bool stepP stepO onPure_some onPure_none onImpl_some onImpl_none stepC onGP_some onGP_none onGV_some condG mkG onIt_it nextP_ptr takeP_eq takeV_some takeV_none takeU_some takeU_none takeQ takeW_some takeN_none takeN_some takeG_some takeO_some altO_some pureV binV2 eqF eqOp ovlV ovl2 rowAt capV binV intBin strBin isSh shV fldV ixV sliceV slice3V loadAV nilV lenV callV unV convV viewS cellsH loadV fldCut AV.ung AV.ungs AV.gc AV.cells AS.ev AS.put anyS gcsV gcO lens lnO gV guardV retK RetP_eq resV oneV anyRo loIx hiIx implO callP_clo evL gcsL clearV storeAV AS.push AS.setO appV appZ shortS copyV buildV partsV fillV srcV fzO okV isCell_c isCell_ptr isCell_sl isCell_fs isCell_fp isCell_clo rowZ_one rowZ_zero rowZ_2 rowZ_3 rowZ_4 rowZ_5 rowZ_6 rowZ_7 rowZ_8 rowZ_9 rowZ_10 rowZ_11 rowZ_12 noHo Value.oneCell' max2V min2V lookV updV updK updW cvals mkAt basV lenM msAt afterH putBack frzFrom frzO rebO backIx nilEq_sl nilEq_fs nilEq_ifn nilEq_ifh ifOp_eql ifOp_neq isLit nilOp_eql nilOp_neq AV.reb AV.rebL
attribute [local simp ↓] runK_skip runK_region runK_draw runK_seq runK_cut runK_cond runK_block runK_loop runK_exit runK_label runK_goto runK_ret runK_range contK_nil contK_seq contK_seq_ret contK_seq_exit contK_seq_goto contK_block contK_block_ret contK_block_goto contK_block_exit runO_nil runO_cons roundK_exit roundK_ret roundK_goto exitK_ret cutK_ret cutK_exit runE_done runE_nil runE_take runE_alt condG_true condG_false
set_option maxRecDepth 10000
def movA (m : MovS) : List AV := [.c (.int .i64 m.tab), .c (.bool m.ix), .c (.int .i64 m.id), .c (.int .i64 m.dst)]
@[simp] theorem movA_length (m : MovS) : (movA m).length = 4 := rfl
@[simp] theorem movA_take (m : MovS) : List.take 4 (movA m) = movA m := rfl
def movsA (l : List MovS) : List AV := l.flatMap movA
@[simp] theorem movsA_length (l : List MovS) : (movsA l).length = l.length * 4 := flat_length movA 4 (by simp) l
theorem movsA_at (l : List MovS) (j : Nat) (hj : j < l.length) : List.take 4 (List.drop (j * 4) (movsA l)) = movA l[j] := flat_at movA 4 (by simp) l j hj
@[simp] theorem movA_all (x : MovS) : (∀ a ∈ movA x, isD a = true) ↔ True := iff_true_intro <| by simp [movA, isD]
@[simp] theorem movA_cell (x : MovS) : (∀ a ∈ movA x, isCell a = true) ↔ True := iff_true_intro <| by simp [movA, isCell_c, Value.oneCell']
@[simp] theorem movsA_all (l : List MovS) : (∀ x ∈ movsA l, isD x = true) ↔ True := iff_true_intro <| by
 intro x hx
 simp only [movsA, List.mem_flatMap] at hx
 obtain ⟨b, _, hx⟩ := hx
 exact (movA_all b).2 trivial x hx
@[simp] theorem movsA_cell (l : List MovS) : (∀ x ∈ movsA l, isCell x = true) ↔ True := iff_true_intro <| by
 intro x hx
 simp only [movsA, List.mem_flatMap] at hx
 obtain ⟨b, _, hx⟩ := hx
 exact (movA_cell b).2 trivial x hx
theorem thing_w (m : MovS) : ACalls Tryz.prog 45 [.agg (movA m)] [] (fun _ => false) (fun r h' => r = .agg (movA { m with dst := 0 }) ∧ h' = []) := by
 refine acalls mixed Tryz.func45 rfl Tryz.ntmps45 rfl fun E hE hst hho => ?_
 simp (maxSteps := 1000000) [hho, noHo, movA, -List.reduceReplicate]
 exact Ret.drop (by rfl) ⟨rfl, rfl⟩
theorem place_1_w (x : TabS) (k : Int) : ACalls Tryz.prog 80 [.agg (tabA x), .ptr 0 0 1] [.o .box [.c (.int .i64 k)]] (fun k => decide (k < 1)) (fun r h' => r = .c (.bool (decide (x.id = k))) ∧ h' = [.o .box [.c (.int .i64 k)]]) := by
 refine acalls mixed Tryz.func80 rfl Tryz.ntmps80 rfl fun E hE hst hho => ?_
 simp (maxSteps := 1000000) [hho, noHo, tabA, -List.reduceReplicate]
 refine Ret.sel [0] (fun _ => false) (ho := by rfl) (ha := by rfl) ?_ ?_ (by decide) (by simp) (fun i _ h => ?_) ⟨?_, rfl⟩
 ·simp
 ·simp
 ·have e : i = 0 := of_decide_eq_true h
  subst e; rfl
 ·rfl
theorem place_w (s : SchS) (k : Int) (hl : s.tabs.length ≤ 1000000) : ACalls Tryz.prog 46 [.agg (schA s), .c (.int .i64 k)] [] (fun _ => false) (fun r h' => r = .c (.int .i64 (ixF (fun x : TabS => decide (x.id = k)) s.tabs)) ∧ h' = []) := by
 refine acalls mixed Tryz.func46 rfl Tryz.ntmps46 rfl fun E hE hst hho => ?_
 have hic := ifc_tab s.tabs (fun x : TabS => decide (x.id = k)) 80 (by simp) [.c (.int .i64 k)] 1 rfl rfl hl fun x _ => place_1_w x k
 simp (maxSteps := 1000000) [hho, noHo, schA, -List.reduceReplicate]
 refine call_x [1] hic rfl rfl ⟨rfl, rfl⟩ hho (by simp) (by decide) (by simp) (by simp) ?_
 simp (maxSteps := 1000000) [hho, noHo, -List.reduceReplicate]
 exact Ret.drop (by rfl) ⟨rfl, rfl⟩
theorem held_1_w (x : IdxS) (k : Int) (hx : x.cols.length ≤ 1000000) : ACalls Tryz.prog 141 [.agg (idxA x), .ptr 0 0 1] [.o .box [.c (.int .i64 k)]] (fun k => decide (k < 1)) (fun r h' => r = .c (.bool (memI x.cols k)) ∧ h' = [.o .box [.c (.int .i64 k)]]) := by
 refine acalls mixed Tryz.func141 rfl Tryz.ntmps141 rfl fun E hE hst hho => ?_
 have hc := contains_int x.cols k (by omega)
 simp (maxSteps := 1000000) [hho, noHo, idxA, -List.reduceReplicate]
 refine call_x [] hc rfl rfl ⟨rfl, rfl⟩ hho (by simp) (by decide) (by simp) (by simp) ?_
 simp (maxSteps := 1000000) [hho, noHo, -List.reduceReplicate]
 refine Ret.sel [0] (fun _ => false) (ho := by rfl) (ha := by rfl) ?_ ?_ (by decide) (by simp) (fun i _ h => ?_) ⟨?_, rfl⟩
 ·simp
 ·simp
 ·have e : i = 0 := of_decide_eq_true h
  subst e; rfl
 ·rfl
theorem wrap_one (x : Int) (h1 : -18446744073709551000 ≤ x) (h2 : x ≤ 18446744073709551000) : IntKind.i64.wrap x = 1 ↔ x = 1 := by
 have e : IntKind.i64.wrap x = if 9223372036854775808 ≤ x % 18446744073709551616 then x % 18446744073709551616 - 18446744073709551616 else x % 18446744073709551616 := by
  simp [IntKind.wrap, IntKind.bits, IntKind.signed]
 rw [e]
 split <;> omega
theorem near_w (a b : Int) (ha : -1000 ≤ a ∧ a ≤ 1000) (hb : -9223372036854775808 ≤ b ∧ b ≤ 9223372036854775807) : ACalls Tryz.prog 82 [.c (.int .i64 a), .c (.int .i64 b)] [] (fun _ => false) (fun r h' => r = .c (.bool (nearB a b)) ∧ h' = []) := by
 refine acalls mixed Tryz.func82 rfl Tryz.ntmps82 rfl fun E hE hst hho => ?_
 have h1 := wrap_one (a - b) (by omega) (by omega)
 have h2 := wrap_one (b - a) (by omega) (by omega)
 have e : nearB a b = (decide (a - b = 1) || decide (b - a = 1)) := by
  rw [Bool.eq_iff_iff]; simp only [nearB, Bool.or_eq_true, decide_eq_true_eq]; omega
 by_cases h3 : IntKind.i64.wrap (a - b) = 1
 ·simp (maxSteps := 1000000) [hho, noHo, h3, undef, onGP_none, condG_false, -List.reduceReplicate]
  exact Ret.same ⟨by rw [e, decide_eq_true (h1.1 h3)]; simp, rfl⟩
 ·simp (maxSteps := 1000000) [hho, noHo, h3, undef, onGP_none, condG_false, -List.reduceReplicate]
  refine Ret.same ⟨?_, rfl⟩
  have h4 : ¬ a - b = 1 := fun h => h3 (h1.2 h)
  rw [e]
  simp [h4, h2]
theorem held_w (t : TabS) (k : Int) (hl : t.idxs.length ≤ 1000000) (hx : ∀ x ∈ t.idxs, x.cols.length ≤ 1000000) : ACalls Tryz.prog 83 [.agg (tabA t), .c (.int .i64 k)] [] (fun _ => false) (fun r h' => r = .c (.bool (heldB t k)) ∧ h' = []) := by
 refine acalls mixed Tryz.func83 rfl Tryz.ntmps83 rfl fun E hE hst hho => ?_
 have hic := cfc_idx t.idxs (fun x : IdxS => memI x.cols k) 141 (by simp) [.c (.int .i64 k)] 1 rfl rfl hl fun x hx' => held_1_w x k (hx x hx')
 simp (maxSteps := 1000000) [hho, noHo, tabA, -List.reduceReplicate]
 refine call_x [1] hic rfl rfl ⟨rfl, rfl⟩ hho (by simp) (by decide) (by simp) (by simp) ?_
 simp (maxSteps := 1000000) [hho, noHo, -List.reduceReplicate]
 exact Ret.drop (by rfl) ⟨rfl, rfl⟩
theorem clone_tabs (l : List TabS) (hl : l.length ≤ 1000000) : ACalls Tryz.prog 55 [.fs 4 l.length (tabsA l)] [] (fun _ => false) (fun r h' => r = .sl 0 4 0 l.length (l.length * 4) ∧ h' = [.o (.row 28 4) (tabsA l)]) := by
 refine acalls mixed Tryz.func55 rfl Tryz.ntmps55 rfl fun E hE _ hho => ?_
 have hc := (tabsA_cell l).2 trivial
 simp (maxSteps := 1000000) [hho, noHo, -List.reduceReplicate]
 refine ⟨⟨by omega, Ret.same ⟨rfl, rfl⟩⟩, fun h0 => ?_⟩
 subst h0
 refine Ret.wk (h2 := [.o (.row 28 4) []]) (r2 := .sl 0 4 0 0 0) (fun E hE => wk_virt 0 28 4 rfl) (Ret.same ⟨rfl, rfl⟩)
theorem clone_idxs (l : List IdxS) (hl : l.length ≤ 1000000) : ACalls Tryz.prog 57 [.fs 5 l.length (idxsA l)] [] (fun _ => false) (fun r h' => r = .sl 0 5 0 l.length (l.length * 5) ∧ h' = [.o (.row 49 5) (idxsA l)]) := by
 refine acalls mixed Tryz.func57 rfl Tryz.ntmps57 rfl fun E hE _ hho => ?_
 have hc := (idxsA_cell l).2 trivial
 simp (maxSteps := 1000000) [hho, noHo, -List.reduceReplicate]
 refine ⟨⟨by omega, Ret.same ⟨rfl, rfl⟩⟩, fun h0 => ?_⟩
 subst h0
 refine Ret.wk (h2 := [.o (.row 49 5) []]) (r2 := .sl 0 5 0 0 0) (fun E hE => wk_virt 0 49 5 rfl) (Ret.same ⟨rfl, rfl⟩)
theorem clone_ints (l : List Int) (hl : l.length ≤ 1000000) : ACalls Tryz.prog 43 [.fs 1 l.length (intsA l)] [] (fun _ => false) (fun r h' => r = .sl 0 1 0 l.length l.length ∧ h' = [.o (.row 3 1) (intsA l)]) := by
 refine acalls mixed Tryz.func43 rfl Tryz.ntmps43 rfl fun E hE _ hho => ?_
 have hc := (intsA_cell l).2 trivial
 simp (maxSteps := 1000000) [hho, noHo, -List.reduceReplicate]
 refine ⟨⟨by omega, Ret.same ⟨rfl, rfl⟩⟩, fun h0 => ?_⟩
 subst h0
 refine Ret.wk (h2 := [.o (.row 3 1) []]) (r2 := .sl 0 1 0 0 0) (fun E hE => wk_virt 0 3 1 rfl) (Ret.same ⟨rfl, rfl⟩)

def livA (o : Nat) (t : TabS) : List AV := [.c (.int .i64 t.id), .c (.string t.name), .sl o 10 0 t.cols.length (t.cols.length * 10), .sl (o + 1) 5 0 t.idxs.length (t.idxs.length * 5)]
@[simp] theorem livA_length (o : Nat) (t : TabS) : (livA o t).length = 4 := rfl
def livsA : Nat → List TabS → List AV
 | _, [] => []
 | o, t :: l => livA o t ++ livsA (o + 2) l
@[simp] theorem livsA_length : ∀ (l : List TabS) (o : Nat), (livsA o l).length = l.length * 4
 | [], _ => rfl
 | t :: l, o => by simp [livsA, livsA_length l (o + 2)]; omega
def rowX (l : List IdxS) : AObj := .o (.row 49 5) (idxsA l)
def rowL (l : List ColS) : AObj := .o (.row 44 10) (colsA l)
def inner : List TabS → List AObj
 | [] => []
 | t :: l => rowL t.cols :: rowX t.idxs :: inner l
@[simp] theorem inner_length : ∀ l : List TabS, (inner l).length = 2 * l.length
 | [] => rfl
 | t :: l => by simp [inner, inner_length l]; omega
theorem inner_app : ∀ (a b : List TabS), inner (a ++ b) = inner a ++ inner b
 | [], b => rfl
 | t :: a, b => by simp [inner, inner_app a b]
theorem livsA_app : ∀ (a b : List TabS) (o : Nat), livsA o (a ++ b) = livsA o a ++ livsA (o + 2 * a.length) b
 | [], b, o => by simp [livsA]
 | t :: a, b, o => by
  simp only [List.cons_append, livsA, livsA_app a b (o + 2), List.append_assoc, List.length_cons]
  rw [show o + 2 + 2 * a.length = o + 2 * (a.length + 1) by omega]
def heapS (o : Nat) (l : List TabS) : List AObj := .o (.row 28 4) (livsA (o + 1) l) :: inner l
@[simp] theorem heapS_length (o : Nat) (l : List TabS) : (heapS o l).length = 1 + 2 * l.length := by simp [heapS]; omega

def hasKC (h : List AObj) (k : Nat) (cs : List AV) : Prop := ∃ kd, h[k]? = some (.o kd cs)
def cellsO : AObj → List AV
 | .o _ cs => cs
 | .raw _ => []
theorem deep_cols {h : List AObj} {ok : Nat → Prop} {k : Nat} {cs : List ColS} (h1 : ok k) (h2 : hasKC h k (colsA cs)) (h3 : cs.length ≤ maxLen) : DeepD h ok (.sl k 10 0 cs.length (cs.length * 10)) (.fs 10 cs.length (colsA cs)) := by
 obtain ⟨kd, h2⟩ := h2
 refine .sl k 10 0 _ _ _ _ _ h1 h2 (by simp) (by omega) h3 (by simp) fun i u u' hu hu' => ?_
 have hi : i < (colsA cs).length := (List.getElem?_eq_some_iff.1 hu').1
 rw [Nat.zero_add, hu'] at hu
 injection hu with hu; subst hu
 exact .d _ ((colsA_all cs).2 trivial _ (List.mem_of_getElem? hu'))
theorem deep_idxs {h : List AObj} {ok : Nat → Prop} {k : Nat} {cs : List IdxS} (h1 : ok k) (h2 : hasKC h k (idxsA cs)) (h3 : cs.length ≤ maxLen) : DeepD h ok (.sl k 5 0 cs.length (cs.length * 5)) (.fs 5 cs.length (idxsA cs)) := by
 obtain ⟨kd, h2⟩ := h2
 refine .sl k 5 0 _ _ _ _ _ h1 h2 (by simp) (by omega) h3 (by simp) fun i u u' hu hu' => ?_
 have hi : i < (idxsA cs).length := (List.getElem?_eq_some_iff.1 hu').1
 rw [Nat.zero_add, hu'] at hu
 injection hu with hu; subst hu
 exact .d _ ((idxsA_all cs).2 trivial _ (List.mem_of_getElem? hu'))
theorem deep_tab {h : List AObj} {ok : Nat → Prop} {o : Nat} {t : TabS} (h1 : ok o ∧ hasKC h o (colsA t.cols)) (h2 : ok (o + 1) ∧ hasKC h (o + 1) (idxsA t.idxs)) (h3 : t.cols.length ≤ maxLen) (h4 : t.idxs.length ≤ maxLen) :
  ∀ (j : Nat) (u u' : AV), (livA o t)[j]? = some u → (tabA t)[j]? = some u' → DeepD h ok u u'
 | 0, u, u', e1, e2 => by simp [livA, tabA] at e1 e2; subst e1 e2; exact .d _ rfl
 | 1, u, u', e1, e2 => by simp [livA, tabA] at e1 e2; subst e1 e2; exact .d _ rfl
 | 2, u, u', e1, e2 => by simp [livA, tabA] at e1 e2; subst e1 e2; exact deep_cols h1.1 h1.2 h3
 | 3, u, u', e1, e2 => by simp [livA, tabA] at e1 e2; subst e1 e2; exact deep_idxs h2.1 h2.2 h4
 | j + 4, u, u', e1, e2 => by simp [livA] at e1
theorem deep_tabV {h : List AObj} {ok : Nat → Prop} {o : Nat} {t : TabS} (h1 : ok o ∧ hasKC h o (colsA t.cols)) (h2 : ok (o + 1) ∧ hasKC h (o + 1) (idxsA t.idxs)) (h3 : t.cols.length ≤ maxLen) (h4 : t.idxs.length ≤ maxLen) : DeepV h ok (.agg (livA o t)) (.agg (tabA t)) :=
 .agg _ _ rfl fun j u u' e1 e2 => .d _ _ (deep_tab h1 h2 h3 h4 j u u' e1 e2)
theorem livs_deep {h : List AObj} {ok : Nat → Prop} : ∀ (l : List TabS) (o : Nat), (∀ k x, (inner l)[k]? = some x → ok (o + k) ∧ hasKC h (o + k) (cellsO x)) → (∀ t ∈ l, t.cols.length ≤ maxLen ∧ t.idxs.length ≤ maxLen) → ∀ (j : Nat) (u u' : AV), (livsA o l)[j]? = some u → (tabsA (l))[j]? = some u' → DeepD h ok u u'
 | [], o, _, _, j, u, u', h1, _ => by simp [livsA] at h1
 | t :: l, o, hk, hb, j, u, u', h1, h2 => by
  have hcut : tabsA ((t :: l)) = tabA t ++ tabsA (l) := List.flatMap_cons ..
  rw [hcut] at h2
  simp only [livsA] at h1
  obtain ⟨b1, b2⟩ := hb t (by simp)
  by_cases hj : j < 4
  ·rw [List.getElem?_append_left (by simpa using hj)] at h1 h2
   exact deep_tab (hk 0 _ rfl) (hk 1 _ rfl) b1 b2 j u u' h1 h2
  ·rw [List.getElem?_append_right (by simp; omega)] at h1 h2
   refine livs_deep l (o + 2) (fun k x hx => ?_) (fun t' ht' => hb t' (by simp [ht'])) (j - 4) u u' (by simpa using h1) (by simpa using h2)
   have := hk (k + 2) x (by simpa [inner] using hx)
   rwa [show o + (k + 2) = o + 2 + k by omega] at this
theorem deep_sch {h : List AObj} {ok : Nat → Prop} (o : Nat) (ver next : Int) (l : List TabS) (hk : ∀ k x, (heapS o l)[k]? = some x → ok (o + k) ∧ hasKC h (o + k) (cellsO x)) (hl : l.length ≤ maxLen) (hb : ∀ t ∈ l, t.cols.length ≤ maxLen ∧ t.idxs.length ≤ maxLen) :
  DeepV h ok (.agg [.c (.int .i64 ver), .c (.int .i64 next), .sl o 4 0 l.length (l.length * 4)]) (.agg (schA ⟨ver, next, l⟩)) := by
 refine .agg _ _ rfl fun j u u' e1 e2 => ?_
 match j, e1, e2 with
 | 0, e1, e2 => simp [schA] at e1 e2; subst e1 e2; exact .d _ _ (.d _ rfl)
 | 1, e1, e2 => simp [schA] at e1 e2; subst e1 e2; exact .d _ _ (.d _ rfl)
 | 2, e1, e2 =>
  simp [schA] at e1 e2; subst e1 e2
  obtain ⟨h0, kd, h1⟩ := hk 0 _ rfl
  have h1 : h[o]? = some (.o kd (livsA (o + 1) l)) := h1
  refine .d _ _ (.sl o 4 0 _ _ kd _ _ h0 h1 (by simp) (by omega) hl (by simp) fun i u u' hu hu' => ?_)
  rw [Nat.zero_add] at hu
  refine livs_deep l (o + 1) (fun k x hx => ?_) hb i u u' hu hu'
  have := hk (k + 1) x (by simpa [heapS] using hx)
  rwa [show o + (k + 1) = o + 1 + k by omega] at this
 | j + 3, e1, e2 => simp at e1
def focS (a : List TabS) (t : TabS) (b : List TabS) : List AObj := .o (.row 28 4) (livsA 3 a ++ (livA 1 t ++ livsA (3 + 2 * a.length) b)) :: ([rowL t.cols, rowX t.idxs] ++ (inner a ++ inner b))
def fF (n k : Nat) : Nat := if k = 0 then 0 else if k < 3 then k + 2 * n else if k < 3 + 2 * n then k - 2 else k
def fU (n k : Nat) : Nat := if k = 0 then 0 else if k < 1 + 2 * n then k + 2 else if k < 3 + 2 * n then k - 2 * n else k
theorem fF_inj (n j k : Nat) (h : fF n j = fF n k) : j = k := by
 unfold fF at h
 repeat' (split at h)
 all_goals omega
theorem fU_inj (n j k : Nat) (h : fU n j = fU n k) : j = k := by
 unfold fU at h
 repeat' (split at h)
 all_goals omega
theorem rebL_app (f : Nat → Nat) (a b : List AV) : AV.rebL f (a ++ b) = AV.rebL f a ++ AV.rebL f b := by
 induction a with
 | nil => rfl
 | cons x a ih => simp [AV.rebL, ih]
theorem rebL_livs (f : Nat → Nat) : ∀ (l : List TabS) (o o' : Nat), (∀ i, i < 2 * l.length → f (o + i) = o' + i) → AV.rebL f (livsA o l) = livsA o' l
 | [], _, _, _ => rfl
 | t :: l, o, o', h => by
  simp only [livsA, rebL_app]
  rw [rebL_livs f l (o + 2) (o' + 2) fun i hi => by have := h (i + 2) (by simp; omega); rw [show o + 2 + i = o + (i + 2) by omega, this]; omega]
  have h0 := h 0 (by simp)
  have h1 := h 1 (by simp; omega)
  simp only [Nat.add_zero] at h0
  simp [livA, AV.rebL, AV.reb, h0, h1]
theorem permF {n : Nat} {r r' : AObj} {A M B : List AObj} (hA : A.length = 2 * n) (hM : M.length = 2) {k : Nat} {x : AObj} (hk : 0 < k) (h : (r' :: (M ++ (A ++ B)))[k]? = some x) : (r :: (A ++ (M ++ B)))[fF n k]? = some x := by
 obtain ⟨k, rfl⟩ : ∃ j, k = j + 1 := ⟨k - 1, by omega⟩
 rw [List.getElem?_cons_succ] at h
 unfold fF
 rw [if_neg (by omega)]
 by_cases h1 : k < 2
 ·rw [List.getElem?_append_left (by omega)] at h
  rw [if_pos (by omega), show k + 1 + 2 * n = (k + 2 * n) + 1 by omega, List.getElem?_cons_succ, List.getElem?_append_right (by omega), List.getElem?_append_left (by omega), hA, show k + 2 * n - 2 * n = k by omega]
  exact h
 ·rw [List.getElem?_append_right (by omega), hM] at h
  rw [if_neg (by omega)]
  by_cases h2 : k < 2 + 2 * n
  ·rw [List.getElem?_append_left (by omega)] at h
   rw [if_pos (by omega), show k + 1 - 2 = (k - 2) + 1 by omega, List.getElem?_cons_succ, List.getElem?_append_left (by omega)]
   exact h
  ·rw [List.getElem?_append_right (by omega), hA] at h
   rw [if_neg (by omega), List.getElem?_cons_succ, List.getElem?_append_right (by omega), List.getElem?_append_right (by omega), hA, hM, ← h]
   congr 1; omega
theorem permU {n : Nat} {r r' : AObj} {A M B : List AObj} (hA : A.length = 2 * n) (hM : M.length = 2) {k : Nat} {x : AObj} (hk : 0 < k) (h : (r :: (A ++ (M ++ B)))[k]? = some x) : (r' :: (M ++ (A ++ B)))[fU n k]? = some x := by
 obtain ⟨k, rfl⟩ : ∃ j, k = j + 1 := ⟨k - 1, by omega⟩
 rw [List.getElem?_cons_succ] at h
 unfold fU
 rw [if_neg (by omega)]
 by_cases h1 : k < 2 * n
 ·rw [List.getElem?_append_left (by omega)] at h
  rw [if_pos (by omega), show k + 1 + 2 = (k + 2) + 1 by omega, List.getElem?_cons_succ, List.getElem?_append_right (by omega), hM, List.getElem?_append_left (by omega), show k + 2 - 2 = k by omega]
  exact h
 ·rw [List.getElem?_append_right (by omega), hA] at h
  rw [if_neg (by omega)]
  by_cases h2 : k < 2 + 2 * n
  ·rw [List.getElem?_append_left (by omega)] at h
   rw [if_pos (by omega), show k + 1 - 2 * n = (k - 2 * n) + 1 by omega, List.getElem?_cons_succ, List.getElem?_append_left (by omega)]
   exact h
  ·rw [List.getElem?_append_right (by omega), hM] at h
   rw [if_neg (by omega), List.getElem?_cons_succ, List.getElem?_append_right (by omega), List.getElem?_append_right (by omega), hA, hM, ← h]
   congr 1; omega
theorem inner_reb (f : Nat → Nat) (l : List TabS) : ∀ x ∈ inner l, rebO f x = x := by
 induction l with
 | nil => intro x hx; cases hx
 | cons t l ih =>
  intro x hx
  simp only [inner, List.mem_cons] at hx
  rcases hx with rfl | rfl | hx
  ·simp only [rowL, rebO]
   rw [if_pos (List.all_eq_true.2 ((colsA_all _).2 trivial))]
  ·simp only [rowX, rebO]
   rw [if_pos (List.all_eq_true.2 ((idxsA_all _).2 trivial))]
  ·exact ih x hx
theorem lens_pick {h h' : List AObj} {f : Nat → Nat} (hlen : h'.length = h.length) (ho : ∀ k x, h'[k]? = some x → h[f k]? = some (rebO f x)) (hf : ∀ k, h'.length ≤ k → f k = k) : ∀ k, (lens h')[k]? = (lens h)[f k]? := by
 intro k
 simp only [lens, List.getElem?_map]
 cases hk : h'[k]? with
 | some x => rw [ho k x hk, Option.map_some, Option.map_some, rebO_ln]
 | none =>
  have hkl := List.getElem?_eq_none_iff.1 hk
  rw [hf k hkl, List.getElem?_eq_none_iff.2 (by omega)]
section
variable {E : Env}
theorem wk_focus {T : List AV} {a : List TabS} {t : TabS} {b : List TabS} {L : List AObj} (hE : E.ho = noHo) (hln : E.ln0 = []) (hT : AV.rebL (fF a.length) T = T) (hL : ∀ x ∈ L, rebO (fF a.length) x = x) : Wk E ⟨T, heapS 0 (a ++ t :: b) ++ L⟩ ⟨T, focS a t b ++ L⟩ := by
 have h1 : heapS 0 (a ++ t :: b) ++ L = .o (.row 28 4) (livsA 1 (a ++ t :: b)) :: (inner a ++ ([rowL t.cols, rowX t.idxs] ++ (inner b ++ L))) := by
  simp [heapS, inner_app, inner]
 have h2 : focS a t b ++ L = .o (.row 28 4) (livsA 3 a ++ (livA 1 t ++ livsA (3 + 2 * a.length) b)) :: ([rowL t.cols, rowX t.idxs] ++ (inner a ++ (inner b ++ L))) := by
  simp [focS]
 have hobj : ∀ k x, (focS a t b ++ L)[k]? = some x → (heapS 0 (a ++ t :: b) ++ L)[fF a.length k]? = some (rebO (fF a.length) x) := by
  intro k x hk
  rcases Nat.eq_zero_or_pos k with rfl | hk0
  ·rw [h2] at hk; simp only [List.getElem?_cons_zero] at hk; injection hk with hk; subst hk
   have q1 : AV.rebL (fF a.length) (livsA 3 a) = livsA 1 a := rebL_livs (fF a.length) a 3 1 fun i hi => by
    simp only [fF]; rw [if_neg (by omega), if_neg (by omega), if_pos (by omega)]; omega
   have q2 : AV.rebL (fF a.length) (livsA (3 + 2 * a.length) b) = livsA (3 + 2 * a.length) b := rebL_livs (fF a.length) b _ _ fun i hi => by
    simp only [fF]; rw [if_neg (by omega), if_neg (by omega), if_neg (by omega)]
   rw [h1, show fF a.length 0 = 0 from rfl, List.getElem?_cons_zero, rebO_eq, rebL_app, rebL_app, q1, q2, livsA_app]
   simp only [livsA, livA, AV.rebL, AV.reb]
   have e1 : fF a.length 1 = 1 + 2 * a.length := by simp [fF]
   have e2 : fF a.length (1 + 1) = 1 + 2 * a.length + 1 := by simp [fF]; omega
   rw [e1, e2, show 1 + 2 * a.length + 2 = 3 + 2 * a.length by omega]
  ·rw [h2] at hk
   have hx : rebO (fF a.length) x = x := by
    obtain ⟨j, rfl⟩ : ∃ j, k = j + 1 := ⟨k - 1, by omega⟩
    have hm : x ∈ inner (a ++ t :: b) ++ L := by
     have := List.mem_of_getElem? (by simpa using hk)
     simp only [inner_app, inner, List.mem_append, List.mem_cons] at this ⊢
     grind
    rcases List.mem_append.1 hm with hm | hm
    ·exact inner_reb _ _ x hm
    ·exact hL x hm
   rw [hx, h1]
   exact permF (by simp) rfl hk0 hk
 have hlen : (focS a t b ++ L).length = (heapS 0 (a ++ t :: b) ++ L).length := by rw [h1, h2]; simp; omega
 refine wk_pick (fF a.length) hE (lens_pick hlen hobj fun k hk => ?_) (fun j k _ _ h => fF_inj _ _ _ h) hobj hT.symm (fun k hk => by rw [hln] at hk; cases hk)
 rw [h2] at hk
 simp only [List.length_cons, List.length_append, inner_length, List.length_nil] at hk
 simp only [fF]; rw [if_neg (by omega), if_neg (by omega), if_neg (by omega)]
theorem wk_unfocus {T : List AV} {a : List TabS} {t : TabS} {b : List TabS} {L : List AObj} (hE : E.ho = noHo) (hln : E.ln0 = []) (hT : AV.rebL (fU a.length) T = T) (hL : ∀ x ∈ L, rebO (fU a.length) x = x) : Wk E ⟨T, focS a t b ++ L⟩ ⟨T, heapS 0 (a ++ t :: b) ++ L⟩ := by
 have h1 : heapS 0 (a ++ t :: b) ++ L = .o (.row 28 4) (livsA 1 (a ++ t :: b)) :: (inner a ++ ([rowL t.cols, rowX t.idxs] ++ (inner b ++ L))) := by
  simp [heapS, inner_app, inner]
 have h2 : focS a t b ++ L = .o (.row 28 4) (livsA 3 a ++ (livA 1 t ++ livsA (3 + 2 * a.length) b)) :: ([rowL t.cols, rowX t.idxs] ++ (inner a ++ (inner b ++ L))) := by
  simp [focS]
 have hobj : ∀ k x, (heapS 0 (a ++ t :: b) ++ L)[k]? = some x → (focS a t b ++ L)[fU a.length k]? = some (rebO (fU a.length) x) := by
  intro k x hk
  rcases Nat.eq_zero_or_pos k with rfl | hk0
  ·rw [h1] at hk; simp only [List.getElem?_cons_zero] at hk; injection hk with hk; subst hk
   have q1 : AV.rebL (fU a.length) (livsA (0 + 1) a) = livsA 3 a := rebL_livs (fU a.length) a (0 + 1) 3 fun i hi => by
    simp only [fU]; rw [if_neg (by omega), if_pos (by omega)]; omega
   have q2 : AV.rebL (fU a.length) (livsA (0 + 1 + 2 * a.length + 2) b) = livsA (3 + 2 * a.length) b := rebL_livs (fU a.length) b _ _ fun i hi => by
    simp only [fU]; rw [if_neg (by omega), if_neg (by omega), if_neg (by omega)]; omega
   rw [h2, show fU a.length 0 = 0 from rfl, List.getElem?_cons_zero, rebO_eq, show (1 : Nat) = 0 + 1 from rfl, livsA_app, rebL_app, q1]
   simp only [livsA, rebL_app, q2]
   simp only [livA, AV.rebL, AV.reb]
   have e1 : fU a.length (0 + 1 + 2 * a.length) = 1 := by simp only [fU]; rw [if_neg (by omega), if_neg (by omega), if_pos (by omega)]; omega
   have e2 : fU a.length (0 + 1 + 2 * a.length + 1) = 1 + 1 := by simp only [fU]; rw [if_neg (by omega), if_neg (by omega), if_pos (by omega)]; omega
   rw [e1, e2]
  ·rw [h1] at hk
   have hx : rebO (fU a.length) x = x := by
    obtain ⟨j, rfl⟩ : ∃ j, k = j + 1 := ⟨k - 1, by omega⟩
    have hm : x ∈ inner (a ++ t :: b) ++ L := by
     have := List.mem_of_getElem? (by simpa using hk)
     simp only [inner_app, inner, List.mem_append, List.mem_cons] at this ⊢
     grind
    rcases List.mem_append.1 hm with hm | hm
    ·exact inner_reb _ _ x hm
    ·exact hL x hm
   rw [hx, h2]
   exact permU (by simp) rfl hk0 hk
 have hlen : (heapS 0 (a ++ t :: b) ++ L).length = (focS a t b ++ L).length := by rw [h1, h2]; simp; omega
 refine wk_pick (fU a.length) hE (lens_pick hlen hobj fun k hk => ?_) (fun j k _ _ h => fU_inj _ _ _ h) hobj hT.symm (fun k hk => by rw [hln] at hk; cases hk)
 rw [h1] at hk
 simp only [List.length_cons, List.length_append, inner_length, List.length_nil] at hk
 simp only [fU]; rw [if_neg (by omega), if_neg (by omega), if_neg (by omega)]
end

def zCol : List AV := [.c (.int .i64 0), .c (.string ByteArray.empty), .c (.int .i64 0), .c (.int .i64 0), .c (.bool false), .c (.int .i64 0), .c (.int .i64 0), .c (.int .i64 0), .c (.string ByteArray.empty), .c (.int .i64 0)]
theorem zCol_all (y : AV) (h : y ∈ zCol) : isD y = true := by simp only [zCol, List.mem_cons, List.not_mem_nil, or_false] at h; rcases h with rfl | rfl | rfl | rfl | rfl | rfl | rfl | rfl | rfl | rfl <;> rfl
def zIdx : List AV := [.c (.int .i64 0), .c (.string ByteArray.empty), .c (.slice none 0 0), .c (.bool false), .c (.int .i64 0)]
theorem zIdx_all (y : AV) (h : y ∈ zIdx) : isD y = true := by simp only [zIdx, List.mem_cons, List.not_mem_nil, or_false] at h; rcases h with rfl | rfl | rfl | rfl | rfl <;> rfl
theorem colsA_cons (x : ColS) (l : List ColS) : colsA (x :: l) = colA x ++ colsA l := List.flatMap_cons ..
theorem colsA_cutR (pre post : List ColS) (x : ColS) (i r : Nat) (hi : pre.length = i) (hr : post.length = r) (z : List AV) : List.take (r * 10) (List.drop ((i + 1) * 10) (colsA (pre ++ x :: post) ++ z)) = colsA post := by
 have e : colsA (pre ++ x :: post) ++ z = (colsA pre ++ colA x) ++ (colsA post ++ z) := by rw [colsA_app, colsA_cons]; simp
 rw [e, List.drop_append_of_le_length (by simp [hi]; omega), List.drop_eq_nil_of_le (by simp [hi]; omega), List.nil_append, List.take_append_of_le_length (by simp [hr]), List.take_of_length_le (by simp [hr])]
set_option maxHeartbeats 4000000 in
theorem delete_col (pre post : List ColS) (x : ColS) (i r n : Nat) (hi : pre.length = i) (hr : post.length = r) (hn : n = i + (r + 1)) (hl : n ≤ 1000000) : ACalls Tryz.prog 84 [.sl 0 10 0 n (n * 10), .c (.int .i64 (i : Int)), .c (.int .i64 ((i + 1 : Nat) : Int))] [rowL (pre ++ x :: post)] (fun k => decide (k < 1)) (fun q h' => q = .sl 0 10 0 (i + r) (n * 10) ∧ h' = [.o (.row 44 10) (colsA (pre ++ post) ++ zCol)]) := by
 refine acalls_cap (e := 44) (sz := 10) (n := n) (n2 := i + r) (m := n * 10) (cs := colsA (pre ++ x :: post)) (res := colsA (pre ++ post) ++ zCol) (rest := [.int .i64 (i : Int), .int .i64 ((i + 1 : Nat) : Int)]) (by simp [hi, hr, hn]) rfl (by omega) (by simp [hi, hr, hn, zCol]; omega) (List.all_eq_true.2 (by simp only [List.mem_append]; rintro y (hy | hy); exact (colsA_all _).2 trivial y hy; exact zCol_all y hy)) fun c hc1 hc2 => ?_
 refine acalls mixed Tryz.func84 rfl Tryz.ntmps84 rfl fun E hE hst hho => ?_
 obtain ⟨C, hC⟩ : ∃ C, C = colsA (pre ++ x :: post) ++ spare ((c - n) * 10) := ⟨_, rfl⟩
 have hCl : C.length = c * 10 := by rw [hC, List.length_append, spare_length]; simp [hi, hr]; omega
 show runK _ _ _ _ _ _ ⟨_, [.o (.row 44 10) (colsA (pre ++ x :: post) ++ spare ((c - n) * 10))]⟩
 rw [← hC]
 have h1 : (i : Int) + 1 ≤ n := by omega
 have h2 : (0 : Int) ≤ (i : Int) + 1 := by omega
 have h3 : ((i : Int) + 1).toNat = i + 1 := by omega
 have h4 : i * 10 < n * 10 := by omega
 have h5 : (i : Int) < n := by omega
 have h6 : ¬ (i : Int) = (i : Int) + 1 := by omega
 have h7 : ¬ (i : Int) + 1 = 0 := by omega
 simp (maxSteps := 1000000) [hho, hCl, h1, h2, h3, h4, h5, h6, -List.reduceReplicate]
 refine ⟨by omega, ?_⟩
 refine draw_k hho (.take 0 (.take 1 (.take 2 (.take 3 (.take 4 (.take 5 (.alt 6 (.take 7 (.done)) (.nil)))))))) [0] [(6, [0])] (by decide +kernel) (by simp) ?_
 have h8 : n - (i + 1) = r := by omega
 have h9 : i * 10 ≤ c * 10 := by omega
 have h10 : n * 10 ≤ c * 10 := by omega
 by_cases hcl : (i + 1) * 10 < c * 10
 ·have hroom : (i + r) * 10 ≤ c * 10 := by omega
  have h11 : (i + 1) * 10 + r * 10 ≤ c * 10 := by omega
  have h12 : ((i : Int) + r).toNat = i + r := by omega
  have h13 : i + r < c := by omega
  have h14 : n - (i + r) = 1 := by omega
  have h15 : min (r * 10) (c * 10 - (i + 1) * 10) = r * 10 := by omega
  have h16 : i * 10 + (r * 10 + (c * 10 - (i * 10 + r * 10))) = c * 10 := by omega
  have h17 : (i : Int) + r ≤ n := by omega
  have h18 : (0 : Int) ≤ (i : Int) + r := by omega
  have hcell : ∀ x ∈ List.take (r * 10) (List.drop ((i + 1) * 10) C), isCell x = true := by
   rw [hC, colsA_cutR pre post x i r hi hr]
   exact (colsA_cell post).2 trivial
  have hpre : List.take (i * 10) C = colsA pre := by
   rw [hC, colsA_app, List.append_assoc, List.take_append_of_le_length (by simp [hi]), List.take_of_length_le (by simp [hi])]
  simp (maxSteps := 1000000) [hho, hCl, h1, h2, h3, h4, h5, h6, h7, h8, h9, h10, h11, h12, h13, h14, h15, h16, h17, h18, hcell, hcl, hroom, roOf, holdOf, wrOf, altK, heldOk, Region.binds, -List.reduceReplicate]
  intro _
  refine ⟨⟨by omega, hcell⟩, by omega, ?_⟩
  refine Ret.same ⟨rfl, _, rfl, ?_, ?_⟩
  ·simp [hCl]; omega
  ·have e : List.take ((i + r) * 10) (List.take (i * 10) C ++ (List.take (r * 10) (List.drop ((i + 1) * 10) C) ++ List.drop (i * 10 + r * 10) C)) = colsA (pre ++ post) := by
    rw [hpre, hC, colsA_cutR pre post x i r hi hr, ← List.append_assoc, ← colsA_app, List.take_append_of_le_length (by simp [hi, hr]), List.take_of_length_le (by simp [hi, hr])]
   rw [e]
   have e2 : n * 10 = (colsA (pre ++ post)).length + 10 := by simp [hi, hr, hn]; omega
   rw [e2, List.take_length_add_append]
   simp [zCol]
 ·have h13 : i < c := by omega
  have h14 : n - i = 1 := by omega
  have h15 : i ≤ n := by omega
  simp (maxSteps := 1000000) [hho, hCl, h1, h2, h3, h4, h5, h6, h7, h8, h9, h10, h13, h14, h15, hcl, roOf, holdOf, wrOf, altK, heldOk, Region.binds, -List.reduceReplicate]
  intro _
  obtain rfl : r = 0 := by omega
  refine ⟨by omega, by omega, ?_⟩
  obtain rfl : post = [] := List.eq_nil_of_length_eq_zero hr
  refine Ret.same ⟨rfl, _, rfl, ?_, ?_⟩
  ·simp [hCl]; omega
  ·have e : List.take (i * 10) C = colsA pre := by
    rw [hC, colsA_app, List.append_assoc, List.take_append_of_le_length (by simp [hi]), List.take_of_length_le (by simp [hi])]
   rw [e, List.append_nil]
   have e2 : n * 10 = (colsA pre).length + 10 := by simp [hi, hn]; omega
   rw [e2, List.take_length_add_append]
   simp [zCol]

theorem idxsA_cons (x : IdxS) (l : List IdxS) : idxsA (x :: l) = idxA x ++ idxsA l := List.flatMap_cons ..
theorem idxsA_cutR (pre post : List IdxS) (x : IdxS) (i r : Nat) (hi : pre.length = i) (hr : post.length = r) (z : List AV) : List.take (r * 5) (List.drop ((i + 1) * 5) (idxsA (pre ++ x :: post) ++ z)) = idxsA post := by
 have e : idxsA (pre ++ x :: post) ++ z = (idxsA pre ++ idxA x) ++ (idxsA post ++ z) := by rw [idxsA_app, idxsA_cons]; simp
 rw [e, List.drop_append_of_le_length (by simp [hi]; omega), List.drop_eq_nil_of_le (by simp [hi]; omega), List.nil_append, List.take_append_of_le_length (by simp [hr]), List.take_of_length_le (by simp [hr])]
set_option maxHeartbeats 4000000 in
theorem delete_idx (pre post : List IdxS) (x : IdxS) (i r n : Nat) (hi : pre.length = i) (hr : post.length = r) (hn : n = i + (r + 1)) (hl : n ≤ 1000000) : ACalls Tryz.prog 86 [.sl 0 5 0 n (n * 5), .c (.int .i64 (i : Int)), .c (.int .i64 ((i + 1 : Nat) : Int))] [rowX (pre ++ x :: post)] (fun k => decide (k < 1)) (fun q h' => q = .sl 0 5 0 (i + r) (n * 5) ∧ h' = [.o (.row 49 5) (idxsA (pre ++ post) ++ zIdx)]) := by
 refine acalls_cap (e := 49) (sz := 5) (n := n) (n2 := i + r) (m := n * 5) (cs := idxsA (pre ++ x :: post)) (res := idxsA (pre ++ post) ++ zIdx) (rest := [.int .i64 (i : Int), .int .i64 ((i + 1 : Nat) : Int)]) (by simp [hi, hr, hn]) rfl (by omega) (by simp [hi, hr, hn, zIdx]; omega) (List.all_eq_true.2 (by simp only [List.mem_append]; rintro y (hy | hy); exact (idxsA_all _).2 trivial y hy; exact zIdx_all y hy)) fun c hc1 hc2 => ?_
 refine acalls mixed Tryz.func86 rfl Tryz.ntmps86 rfl fun E hE hst hho => ?_
 obtain ⟨C, hC⟩ : ∃ C, C = idxsA (pre ++ x :: post) ++ spare ((c - n) * 5) := ⟨_, rfl⟩
 have hCl : C.length = c * 5 := by rw [hC, List.length_append, spare_length]; simp [hi, hr]; omega
 show runK _ _ _ _ _ _ ⟨_, [.o (.row 49 5) (idxsA (pre ++ x :: post) ++ spare ((c - n) * 5))]⟩
 rw [← hC]
 have h1 : (i : Int) + 1 ≤ n := by omega
 have h2 : (0 : Int) ≤ (i : Int) + 1 := by omega
 have h3 : ((i : Int) + 1).toNat = i + 1 := by omega
 have h4 : i * 5 < n * 5 := by omega
 have h5 : (i : Int) < n := by omega
 have h6 : ¬ (i : Int) = (i : Int) + 1 := by omega
 have h7 : ¬ (i : Int) + 1 = 0 := by omega
 simp (maxSteps := 1000000) [hho, hCl, h1, h2, h3, h4, h5, h6, -List.reduceReplicate]
 refine ⟨by omega, ?_⟩
 refine draw_k hho (.take 0 (.take 1 (.take 2 (.take 3 (.take 4 (.take 5 (.alt 6 (.take 7 (.done)) (.nil)))))))) [0] [(6, [0])] (by decide +kernel) (by simp) ?_
 have h8 : n - (i + 1) = r := by omega
 have h9 : i * 5 ≤ c * 5 := by omega
 have h10 : n * 5 ≤ c * 5 := by omega
 by_cases hcl : (i + 1) * 5 < c * 5
 ·have hroom : (i + r) * 5 ≤ c * 5 := by omega
  have h11 : (i + 1) * 5 + r * 5 ≤ c * 5 := by omega
  have h12 : ((i : Int) + r).toNat = i + r := by omega
  have h13 : i + r < c := by omega
  have h14 : n - (i + r) = 1 := by omega
  have h15 : min (r * 5) (c * 5 - (i + 1) * 5) = r * 5 := by omega
  have h16 : i * 5 + (r * 5 + (c * 5 - (i * 5 + r * 5))) = c * 5 := by omega
  have h17 : (i : Int) + r ≤ n := by omega
  have h18 : (0 : Int) ≤ (i : Int) + r := by omega
  have hcell : ∀ x ∈ List.take (r * 5) (List.drop ((i + 1) * 5) C), isCell x = true := by
   rw [hC, idxsA_cutR pre post x i r hi hr]
   exact (idxsA_cell post).2 trivial
  have hpre : List.take (i * 5) C = idxsA pre := by
   rw [hC, idxsA_app, List.append_assoc, List.take_append_of_le_length (by simp [hi]), List.take_of_length_le (by simp [hi])]
  simp (maxSteps := 1000000) [hho, hCl, h1, h2, h3, h4, h5, h6, h7, h8, h9, h10, h11, h12, h13, h14, h15, h16, h17, h18, hcell, hcl, hroom, roOf, holdOf, wrOf, altK, heldOk, Region.binds, -List.reduceReplicate]
  intro _
  refine ⟨⟨by omega, hcell⟩, by omega, ?_⟩
  refine Ret.same ⟨rfl, _, rfl, ?_, ?_⟩
  ·simp [hCl]; omega
  ·have e : List.take ((i + r) * 5) (List.take (i * 5) C ++ (List.take (r * 5) (List.drop ((i + 1) * 5) C) ++ List.drop (i * 5 + r * 5) C)) = idxsA (pre ++ post) := by
    rw [hpre, hC, idxsA_cutR pre post x i r hi hr, ← List.append_assoc, ← idxsA_app, List.take_append_of_le_length (by simp [hi, hr]), List.take_of_length_le (by simp [hi, hr])]
   rw [e]
   have e2 : n * 5 = (idxsA (pre ++ post)).length + 5 := by simp [hi, hr, hn]; omega
   rw [e2, List.take_length_add_append]
   simp [zIdx]
 ·have h13 : i < c := by omega
  have h14 : n - i = 1 := by omega
  have h15 : i ≤ n := by omega
  simp (maxSteps := 1000000) [hho, hCl, h1, h2, h3, h4, h5, h6, h7, h8, h9, h10, h13, h14, h15, hcl, roOf, holdOf, wrOf, altK, heldOk, Region.binds, -List.reduceReplicate]
  intro _
  obtain rfl : r = 0 := by omega
  refine ⟨by omega, by omega, ?_⟩
  obtain rfl : post = [] := List.eq_nil_of_length_eq_zero hr
  refine Ret.same ⟨rfl, _, rfl, ?_, ?_⟩
  ·simp [hCl]; omega
  ·have e : List.take (i * 5) C = idxsA pre := by
    rw [hC, idxsA_app, List.append_assoc, List.take_append_of_le_length (by simp [hi]), List.take_of_length_le (by simp [hi])]
   rw [e, List.append_nil]
   have e2 : n * 5 = (idxsA pre).length + 5 := by simp [hi, hn]; omega
   rw [e2, List.take_length_add_append]
   simp [zIdx]


def cpBox (s : SchS) : AObj := .o .box [.c (.int .i64 s.ver), .c (.int .i64 s.next), .sl 2 4 0 s.tabs.length (s.tabs.length * 4)]
def cpRes : AObj := .o .box [.c (.int .i64 0), .c (.int .i64 0), .c (.slice none 0 0)]
def cpRow (s : SchS) (j : Nat) : AObj := .o (.row 28 4) (livsA 3 (s.tabs.take j) ++ tabsA (s.tabs.drop j))
def cpHead (s : SchS) (j : Nat) : List AObj := cpBox s :: cpRes :: cpRow s j :: inner (s.tabs.take j)
def cpSt (s : SchS) (j : Nat) : AS := ⟨slotsOf 51 [(1, .ptr 0 0 3), (2, .ptr 1 0 3), (12, .sl 2 4 0 s.tabs.length (s.tabs.length * 4)), (13, .c (.int .i64 (s.tabs.length : Nat))), (14, .c (.int .i64 (j : Nat)))], cpHead s j⟩
theorem appAt {P X : List AObj} {N : Nat} (h : P.length = N) (k : Nat) : (P ++ X)[N + k]? = X[k]? := by
 rw [← h, List.getElem?_append_right (by omega)]
 congr 1; omega
theorem gq {α : Type} {l : List α} {i : Nat} {x : α} (h : l[i]? = some x) (hi : i < l.length) : l[i] = x := by
 rw [List.getElem?_eq_getElem hi] at h; injection h
theorem frz_no : ∀ (l : List AObj) (i : Nat), frzFrom (fun _ => false) i l = l
 | [], _ => rfl
 | x :: l, i => by simp [frzFrom, frz_no l (i + 1)]
theorem appSet {P X : List AObj} {N : Nat} (h : P.length = N) (k : Nat) (y : AObj) : (P ++ X).set (N + k) y = P ++ X.set k y := by
 rw [← h, List.set_append_right _ _ (by omega)]
 congr 2; omega
theorem cpHead_length (s : SchS) (j : Nat) (hj : j ≤ s.tabs.length) : (cpHead s j).length = 3 + 2 * j := by simp [cpHead]; omega
section
variable {E : Env}
def skipF (N k : Nat) : Nat := if k < N then k else k + 1
theorem wk_skip (N : Nat) {A B : List AObj} {b : AObj} {T T' : List AV} (hE : E.ho = noHo) (hln : E.ln0.length ≤ N) (hA : A.length = N) (ht : T = AV.rebL (skipF N) T') (hB : ∀ x ∈ B, rebO (skipF N) x = x) : Wk E ⟨T, A.map (rebO (skipF N)) ++ b :: B⟩ ⟨T', A ++ B⟩ := by
 have hobj : ∀ k x, (A ++ B)[k]? = some x → (A.map (rebO (skipF N)) ++ b :: B)[skipF N k]? = some (rebO (skipF N) x) := by
  intro k x hk
  by_cases h : k < N
  ·rw [List.getElem?_append_left (by omega)] at hk
   rw [skipF, if_pos h, List.getElem?_append_left (by simp; omega), List.getElem?_map, hk]; rfl
  ·rw [List.getElem?_append_right (by omega)] at hk
   rw [skipF, if_neg h, List.getElem?_append_right (by simp; omega), List.length_map, show k + 1 - A.length = (k - A.length) + 1 by omega, List.getElem?_cons_succ, hk, hB x (List.mem_of_getElem? hk)]
 refine wk_pick (skipF N) hE (fun k => ?_) (fun j k _ _ h => by unfold skipF at h; split at h <;> split at h <;> omega) hobj ht (fun k hk _ => by simp only [skipF]; rw [if_pos (by omega)])
 simp only [lens, List.getElem?_map]
 cases hk : (A ++ B)[k]? with
 | some x => rw [hobj k x hk, Option.map_some, Option.map_some, rebO_ln]
 | none =>
  have hkl := List.getElem?_eq_none_iff.1 hk
  rw [List.length_append] at hkl
  rw [skipF, if_neg (by omega), List.getElem?_eq_none_iff.2 (by simp; omega)]
theorem wk_front (m : Nat) {D h : List AObj} {T T' : List AV} (hE : E.ho = noHo) (hst : ∀ k, k < E.ln0.length → E.st k = true → False) (hD : D.length = m) (ht : T = AV.rebL (· + m) T') : Wk E ⟨T, D ++ h.map (rebO (· + m))⟩ ⟨T', h⟩ := by
 have hobj : ∀ (k : Nat) (x : AObj), h[k]? = some x → (D ++ h.map (rebO (· + m)))[k + m]? = some (rebO (· + m) x) := by
  intro k x hk
  rw [List.getElem?_append_right (by omega), show k + m - D.length = k by omega, List.getElem?_map, hk]; rfl
 refine wk_pick (· + m) hE (fun k => ?_) (fun j k _ _ h => by simpa using h) hobj ht (fun k hk hs => (hst k hk hs).elim)
 simp only [lens, List.getElem?_map]
 cases hk : h[k]? with
 | some x => rw [hobj k x hk, Option.map_some, Option.map_some, rebO_ln]
 | none =>
  have hkl := List.getElem?_eq_none_iff.1 hk
  rw [List.getElem?_eq_none_iff.2 (by simp; omega)]
theorem heapS_shift (m : Nat) (l : List TabS) (o : Nat) : (heapS o l).map (rebO (· + m)) = heapS (o + m) l := by
 have h1 : (inner l).map (rebO (· + m)) = inner l := by
  conv => rhs; rw [← List.map_id (inner l)]
  exact List.map_congr_left fun x hx => inner_reb _ l x hx
 have h2 : AV.rebL (· + m) (livsA (o + 1) l) = livsA (o + m + 1) l := rebL_livs _ l _ _ fun i _ => by omega
 simp only [heapS, List.map_cons, rebO_eq, h1, h2]
end
theorem rebL_isD' {f : Nat → Nat} {l : List AV} (h : ∀ x ∈ l, isD x = true) : AV.rebL f l = l := rebL_isD (List.all_eq_true.2 h)
theorem take_snoc {α : Type} (l : List α) (j : Nat) (hj : j < l.length) : l.take (j + 1) = l.take j ++ [l[j]] := by
 rw [List.take_add_one, List.getElem?_eq_getElem hj]; rfl
theorem cp_round (s : SchS) (j : Nat) (hj : j < s.tabs.length) {E : Env} (hE : E.ho = noHo) (hln : E.ln0 = []) (bx : List AV) :
  Wk E ⟨(cpSt s (j + 1)).t, (cpHead s j ++ [.o .box bx, rowL s.tabs[j].cols, rowX s.tabs[j].idxs]).set 2 (.o (.row 28 4) (List.take (j * 4) (livsA 3 (s.tabs.take j) ++ tabsA (s.tabs.drop j)) ++ (livA (3 + 2 * j + 1) s.tabs[j] ++ List.drop (j * 4 + 4) (livsA 3 (s.tabs.take j) ++ tabsA (s.tabs.drop j)))))⟩ (cpSt s (j + 1)) := by
 have e1 : List.take (j * 4) (livsA 3 (s.tabs.take j) ++ tabsA (s.tabs.drop j)) = livsA 3 (s.tabs.take j) := List.take_left' (by simp; omega)
 have e2 : List.drop (j * 4 + 4) (livsA 3 (s.tabs.take j) ++ tabsA (s.tabs.drop j)) = tabsA (s.tabs.drop (j + 1)) := by
  rw [← List.getElem_cons_drop hj, show tabsA (s.tabs[j] :: s.tabs.drop (j + 1)) = tabA s.tabs[j] ++ tabsA (s.tabs.drop (j + 1)) from List.flatMap_cons .., ← List.append_assoc]
  exact List.drop_left' (by simp; omega)
 rw [e1, e2]
 have hmin : min j s.tabs.length = j := by omega
 have hsk : ∀ k, k < 3 + 2 * j → skipF (3 + 2 * j) k = k := fun k hk => by simp [skipF, hk]
 have q1 : AV.rebL (skipF (3 + 2 * j)) (livsA 3 (s.tabs.take j)) = livsA 3 (s.tabs.take j) := rebL_livs _ _ _ _ fun i hi => hsk _ (by simp at hi; omega)
 have q2 : AV.rebL (skipF (3 + 2 * j)) (livA (3 + 2 * j) s.tabs[j]) = livA (3 + 2 * j + 1) s.tabs[j] := by
  simp [livA, AV.rebL, AV.reb, skipF]
 have q3 : AV.rebL (skipF (3 + 2 * j)) (tabsA (s.tabs.drop (j + 1))) = tabsA (s.tabs.drop (j + 1)) := rebL_isD' ((tabsA_all _).2 trivial)
 have q4 : livsA 3 (s.tabs.take (j + 1)) = livsA 3 (s.tabs.take j) ++ livA (3 + 2 * j) s.tabs[j] := by
  rw [take_snoc _ _ hj, livsA_app]; simp [livsA, hmin]
 have q5 : (inner (s.tabs.take j)).map (rebO (skipF (3 + 2 * j))) = inner (s.tabs.take j) := by
  conv => rhs; rw [← List.map_id (inner (s.tabs.take j))]
  exact List.map_congr_left fun x hx => inner_reb _ _ x hx
 have hA : (cpHead s j ++ [.o .box bx, rowL s.tabs[j].cols, rowX s.tabs[j].idxs]).set 2 (.o (.row 28 4) (livsA 3 (s.tabs.take j) ++ (livA (3 + 2 * j + 1) s.tabs[j] ++ tabsA (s.tabs.drop (j + 1))))) =
   (cpBox s :: cpRes :: cpRow s (j + 1) :: inner (s.tabs.take j)).map (rebO (skipF (3 + 2 * j))) ++ .o .box bx :: [rowL s.tabs[j].cols, rowX s.tabs[j].idxs] := by
  simp only [cpHead, List.cons_append, List.set_cons_succ, List.set_cons_zero, List.map_cons, q5, cpRow, rebO_eq, rebL_app, q3, q4, q1, q2, List.append_assoc]
  simp only [cpBox, cpRes, rebO_eq, AV.rebL, AV.reb, hsk 2 (by omega)]
 have hB : cpHead s (j + 1) = (cpBox s :: cpRes :: cpRow s (j + 1) :: inner (s.tabs.take j)) ++ [rowL s.tabs[j].cols, rowX s.tabs[j].idxs] := by
  simp only [cpHead]
  rw [take_snoc _ _ hj, inner_app]; rfl
 rw [hA]
 have hst : cpSt s (j + 1) = ⟨(cpSt s (j + 1)).t, cpHead s (j + 1)⟩ := rfl
 rw [hst, hB]
 refine wk_skip (3 + 2 * j) hE (by rw [hln]; simp) (by simp; omega) ?_ fun x hx => ?_
 ·simp [cpSt, slotsOf, anyS, AV.rebL, AV.reb, hsk 0 (by omega), hsk 1 (by omega), hsk 2 (by omega)]
 ·have : x ∈ inner [s.tabs[j]] := hx
  exact inner_reb _ _ x this
theorem idx_cols (l : List IdxS) (i : Nat) (hi : i < l.length) : (idxsA l)[i * 5 + 2]? = some (.fs 1 l[i].cols.length (intsA l[i].cols)) := by
 have h := idxsA_at l i hi
 have : (List.take 5 (List.drop (i * 5) (idxsA l)))[2]? = (idxsA l)[i * 5 + 2]? := by rw [List.getElem?_take_of_lt (by omega), List.getElem?_drop]
 rw [← this, h]; rfl
theorem livL_app2 (d : List Nat) (x y : List AV) : AV.livL d (x ++ y) = (AV.livL d x && AV.livL d y) := by
 induction x with
 | nil => simp [AV.livL]
 | cons u x ih => simp [AV.livL, ih, Bool.and_assoc]
theorem isD_livL (d : List Nat) : ∀ l : List AV, (∀ x ∈ l, isD x = true) → AV.livL d l = true
 | [], _ => by simp [AV.livL]
 | x :: l, h => by
  simp only [AV.livL, isD_livL d l fun y hy => h y (by simp [hy]), Bool.and_true]
  have := h x (by simp)
  cases x <;> first | rfl | cases this
theorem livs_liv (d : List Nat) : ∀ (l : List TabS) (o : Nat), (∀ i, i < 2 * l.length → o + i ∉ d) → AV.livL d (livsA o l) = true
 | [], _, _ => by simp [livsA, AV.livL]
 | t :: l, o, h => by
  have h0 := h 0 (by simp)
  have h1 := h 1 (by simp; omega)
  simp only [Nat.add_zero] at h0
  simp only [livsA, livL_app2, livs_liv d l (o + 2) fun i hi => by have := h (i + 2) (by simp; omega); rwa [show o + 2 + i = o + (i + 2) by omega]]
  simp [livA, AV.livL, AV.liv, h0, h1]
theorem inner_liv (d : List Nat) (l : List TabS) : ∀ x ∈ inner l, livO d x = true := by
 induction l with
 | nil => intro x hx; cases hx
 | cons t l ih =>
  intro x hx
  simp only [inner, List.mem_cons] at hx
  rcases hx with rfl | rfl | hx
  ·simp only [rowL, livO, Bool.or_eq_true]; exact .inl (List.all_eq_true.2 ((colsA_all _).2 trivial))
  ·simp only [rowX, livO, Bool.or_eq_true]; exact .inl (List.all_eq_true.2 ((idxsA_all _).2 trivial))
  ·exact ih x hx
theorem livH_of (d : List Nat) : ∀ (h : List AObj) (i : Nat), (∀ x ∈ h, livO d x = true) → livH d [] i h = true
 | [], _, _ => by simp [livH]
 | x :: h, i, hx => by simp only [livH, hx x (by simp), livH_of d h (i + 1) fun y hy => hx y (by simp [hy])]; simp
theorem cpHead_liv (s : SchS) (j : Nat) (d : List Nat) (hd : ∀ k ∈ d, 3 + 2 * j ≤ k) : ∀ x ∈ cpHead s j, livO d x = true := by
 have hn : ∀ k, k < 3 + 2 * j → k ∉ d := fun k hk hm => by have := hd k hm; omega
 intro x hx
 simp only [cpHead, List.mem_cons] at hx
 rcases hx with rfl | rfl | rfl | hx
 ·simp [cpBox, livO, AV.livL, AV.liv, hn 2 (by omega)]
 ·simp [cpRes, livO, AV.livL, AV.liv]
 ·simp only [cpRow, livO, Bool.or_eq_true]
  refine .inr ?_
  rw [livL_app2, livs_liv d _ 3 fun i hi => hn _ (by simp at hi; omega), isD_livL d _ ((tabsA_all _).2 trivial)]; rfl
 ·exact inner_liv d _ x hx
theorem set_split {α : Type} (l : List α) (i : Nat) (y : α) (hi : i < l.length) : l.take i ++ y :: l.drop (i + 1) = l.set i y := by
 rw [List.set_eq_take_append_cons_drop, if_pos hi]
theorem cp_in {E : Env} (hE : E.ho = noHo) (hln : E.ln0 = []) {P : List AObj} {N : Nat} (hN : P.length = N) (hP : ∀ x ∈ P, livO (List.range' (N + 3) 2) x = true) (l : List IdxS) (i : Nat) (hi : i < l.length) (hx : l[i].cols.length ≤ 1000000) {T T' : List AV} (hT : wkL (List.range' (N + 3) 2) T T') (bt bx : List AV) (rl : AObj) (hb : AV.livL (List.range' (N + 3) 2) bt = true) (hr : livO (List.range' (N + 3) 2) rl = true) :
  Wk E ⟨T, P ++ [.o .box bt, rl, .o (.row 49 5) (List.take (i * 5 + 2) (idxsA l) ++ .sl (N + 4) 1 0 l[i].cols.length l[i].cols.length :: List.drop (i * 5 + 3) (idxsA l)), .o .box bx, .o (.row 3 1) (intsA l[i].cols)]⟩ ⟨T', P ++ [.o .box bt, rl, rowX l]⟩ := by
 have hil : i * 5 + 2 < (idxsA l).length := by simp; omega
 rw [set_split _ _ _ hil]
 obtain ⟨c, hc⟩ : ∃ c, c = (idxsA l).set (i * 5 + 2) (.sl (N + 4) 1 0 l[i].cols.length l[i].cols.length) := ⟨_, rfl⟩
 rw [← hc]
 have hg : ∀ k (h : AObj), [AObj.o .box bt, rl, .o (.row 49 5) c, .o .box bx, .o (.row 3 1) (intsA l[i].cols)][k]? = some h → (P ++ [AObj.o .box bt, rl, .o (.row 49 5) c, .o .box bx, .o (.row 3 1) (intsA l[i].cols)])[N + k]? = some h := fun k h hk => by
  rw [List.getElem?_append_right (by omega), show N + k - P.length = k by omega]; exact hk
 have hcd : c[i * 5 + 2]? = some (.sl (N + 4) 1 0 l[i].cols.length l[i].cols.length) := by rw [hc, List.getElem?_set_self hil]
 refine Wk.trans (wk_data (s := ⟨T, _⟩) (N + 2) (i * 5 + 2) (N + 4) (by rw [hE]; rfl) (by omega) (hg 2 _ rfl) hcd (hg 4 _ rfl) (by simp [intsA]) (by omega) (by unfold maxLen; omega) (List.all_eq_true.2 (by simp [intsA, isD]))) ?_
 have hcc : c.set (i * 5 + 2) (.fs 1 l[i].cols.length (intsA l[i].cols)) = idxsA l := by
  rw [hc, List.set_set]
  have h := idx_cols l i hi
  rw [List.getElem?_eq_getElem hil] at h
  injection h with h
  rw [← h, List.set_getElem_self]
 have hh : ((P ++ [AObj.o .box bt, rl, .o (.row 49 5) c, .o .box bx, .o (.row 3 1) (intsA l[i].cols)]).set (N + 4) (.o .fz (intsA l[i].cols))).set (N + 2) (.o (.row 49 5) (c.set (i * 5 + 2) (.fs 1 l[i].cols.length (intsA l[i].cols)))) = (P ++ [.o .box bt, rl, rowX l]) ++ [.o .box bx, .o .fz (intsA l[i].cols)] := by
  rw [appSet hN 4, appSet hN 2, hcc]; simp [rowX]
 rw [hh]
 refine wk_of (N + 3) 2 (by simp [hN]) (by rw [hln]; simp) ?_ (livH_of _ _ _ fun x hx => ?_) hT
 ·exact List.take_left' (by simp [hN])
 ·rcases List.mem_append.1 hx with h | h
  ·exact hP x h
  ·simp only [List.mem_cons, List.not_mem_nil, or_false] at h
   rcases h with rfl | rfl | rfl
   ·exact hb
   ·exact hr
   ·simp only [rowX, livO, Bool.or_eq_true]; exact .inl (List.all_eq_true.2 ((idxsA_all _).2 trivial))
def cpIn (s : SchS) (P : List AObj) (t : TabS) (j i : Nat) : AS := ⟨slotsOf 51 [(1, .ptr 0 0 3), (2, .ptr 1 0 3), (3, .c (.int .i64 (j : Nat))), (4, .ptr (3 + 2 * j) 0 4), (12, .sl 2 4 0 s.tabs.length (s.tabs.length * 4)), (13, .c (.int .i64 (s.tabs.length : Nat))), (14, .c (.int .i64 (j : Nat))),
 (28, .sl (3 + 2 * j + 1 + 1) 5 0 t.idxs.length (t.idxs.length * 5)), (29, .c (.int .i64 (t.idxs.length : Nat))), (30, .c (.int .i64 (i : Nat)))], P ++ [.o .box (livA (3 + 2 * j + 1) t), rowL t.cols, rowX t.idxs]⟩
set_option maxHeartbeats 4000000 in
theorem copy_w (s : SchS) (hl : s.tabs.length ≤ 1000000) (hb : ∀ t ∈ s.tabs, t.cols.length ≤ 1000000 ∧ t.idxs.length ≤ 1000000 ∧ ∀ x ∈ t.idxs, x.cols.length ≤ 1000000) :
  ACalls Tryz.prog 23 [.agg (schA s)] [] (fun _ => false) (fun r h' => r = .agg [.c (.int .i64 s.ver), .c (.int .i64 s.next), .sl 0 4 0 s.tabs.length (s.tabs.length * 4)] ∧ h' = heapS 0 s.tabs) := by
 refine acalls mixed Tryz.func23 rfl Tryz.ntmps23 rfl fun E hE hst hho => ?_
 have hct := clone_tabs s.tabs hl
 simp (maxSteps := 1000000) [hho, noHo, schA, -List.reduceReplicate]
 refine call_x [] hct rfl rfl ⟨rfl, rfl⟩ hho (by simp) (by decide) (by simp) (by simp) ?_
 simp (maxSteps := 1000000) [hho, noHo, -List.reduceReplicate]
 refine loop_k mixed (cpSt s) (fun j => s.tabs.length - j) (fun j => j ≤ s.tabs.length) 0 (Nat.zero_le _) ?_ ?_
 ·refine wk_of 3 0 rfl (by simp [hE]) (by simp [cpSt, cpHead, cpBox, cpRes, cpRow, livsA, inner]) (by simp [livH, livO, AV.livL, AV.liv, wkL, wkV, List.range', cpSt, cpHead, cpBox, cpRes, cpRow, livsA, inner]) (by simp [livH, livO, AV.livL, AV.liv, wkL, wkV, List.range', cpSt, slotsOf])
 ·rintro j hj
  by_cases hjn : j < s.tabs.length
  ·simp only [cpSt]
   have hN := cpHead_length s j hj
   have h0 : ∀ X, (cpHead s j ++ X)[0]? = some (cpBox s) := fun X => by simp [cpHead]
   have h2 : ∀ X, (cpHead s j ++ X)[2]? = some (cpRow s j) := fun X => by simp [cpHead]
   have h2' : (cpHead s j)[2]? = some (cpRow s j) := by simp [cpHead]
   obtain ⟨t, ht⟩ : ∃ t, t = s.tabs[j] := ⟨_, rfl⟩
   have hcell : List.take 4 (List.drop (j * 4) (livsA 3 (s.tabs.take j) ++ tabsA (s.tabs.drop j))) = tabA t := by
    rw [List.drop_append, List.drop_of_length_le (by simp; omega)]
    simp only [livsA_length, List.length_map, List.length_take, List.nil_append]
    rw [show j * 4 - min j s.tabs.length * 4 = 0 by rw [Nat.min_eq_left (by omega)]; omega, List.drop_zero, ← List.getElem_cons_drop hjn, ht]
    rw [show tabsA (s.tabs[j] :: s.tabs.drop (j + 1)) = tabA s.tabs[j] ++ tabsA (s.tabs.drop (j + 1)) from List.flatMap_cons ..]
    exact List.take_left' rfl
   have hfull : (livsA 3 (s.tabs.take j) ++ tabsA (s.tabs.drop j)).length = s.tabs.length * 4 := by simp; omega
   obtain ⟨P, hP⟩ : ∃ P, P = cpHead s j := ⟨_, rfl⟩
   rw [← hP] at hN h0 h2 h2' ⊢
   simp only [cpRow] at h2 h2'
   obtain ⟨R, hR⟩ : ∃ R, R = livsA 3 (s.tabs.take j) ++ tabsA (s.tabs.drop j) := ⟨_, rfl⟩
   rw [← hR] at hfull hcell h2'
   simp only [← hR] at h2
   have htm : t ∈ s.tabs := by rw [ht]; exact List.getElem_mem hjn
   obtain ⟨b1, b2, b3⟩ := hb t htm
   have hcc := clone_cols t.cols b1
   have hcx := clone_idxs t.idxs b2
   simp (maxSteps := 1000000) [hho, noHo, slotsOf, hN, h0, h2, h2', hjn, hfull, hcell, tabA, -List.reduceReplicate]
   refine ⟨by omega, ?_⟩
   have hN0 : ∀ (x : AObj) X, (P ++ x :: X)[3 + 2 * j]? = some x := fun x X => appAt hN 0
   have hN1 : ∀ (x y : AObj) X, (P ++ x :: y :: X)[3 + 2 * j + 1]? = some y := fun x y X => appAt hN 1
   have hN2 : ∀ (x y z : AObj) X, (P ++ x :: y :: z :: X)[3 + 2 * j + 1 + 1]? = some z := fun x y z X => appAt hN 2
   have hS0 : ∀ (x y : AObj) X, (P ++ x :: X).set (3 + 2 * j) y = P ++ y :: X := fun x y X => appSet hN 0 y
   have hl0 : ∀ (x : Nat) X, (List.map lnO P ++ x :: X)[3 + 2 * j]? = some x := fun x X => by rw [← hN, List.getElem?_append_right (by simp)]; simp
   have hl1 : ∀ (x y : Nat) X, (List.map lnO P ++ x :: y :: X)[3 + 2 * j + 1]? = some y := fun x y X => by rw [← hN, List.getElem?_append_right (by simp)]; simp
   have hl2 : ∀ (x y z : Nat) X, (List.map lnO P ++ x :: y :: z :: X)[3 + 2 * j + 1 + 1]? = some z := fun x y z X => by rw [← hN, List.getElem?_append_right (by simp; omega)]; simp [show P.length + 1 + 1 - P.length = 2 by omega]
   refine call_x [] hcc rfl rfl ⟨rfl, rfl⟩ hho (by simp) (by decide) (by simp) (by simp) ?_
   simp (maxSteps := 1000000) [hho, noHo, hN, h0, h2, hN0, hN1, hN2, hS0, hl0, hl1, hl2, frz_no, List.map_append, List.append_assoc, lnO, -List.reduceReplicate]
   refine call_x [] hcx rfl rfl ⟨rfl, rfl⟩ hho (by simp) (by decide) (by simp) (by simp) ?_
   simp (maxSteps := 1000000) [hho, noHo, hN, h0, h2, hN0, hN1, hN2, hS0, hl0, hl1, hl2, frz_no, List.map_append, List.append_assoc, lnO, -List.reduceReplicate]
   have ew : IntKind.i64.wrap ((j : Int) + 1) = (j + 1 : Nat) := by rw [IntWalk.i64_in _ (by omega)]; rfl
   have hP0 : P[0]? = some (cpBox s) := by have := h0 []; rwa [List.append_nil] at this
   have hq0 : ∀ X h, (List.map lnO P ++ X)[0]'h = 3 := fun X h => by
    have h1 : (List.map lnO P ++ X)[0]? = some 3 := by rw [List.getElem?_append_left (by simp; omega), List.getElem?_map, hP0]; rfl
    rw [List.getElem?_eq_getElem h] at h1; injection h1
   have hq2 : ∀ X h, (List.map lnO P ++ X)[2]'h = s.tabs.length * 4 := fun X h => by
    have h1 : (List.map lnO P ++ X)[2]? = some (s.tabs.length * 4) := by rw [List.getElem?_append_left (by simp; omega), List.getElem?_map, h2']; simp [lnO, hfull]
    rw [List.getElem?_eq_getElem h] at h1; injection h1
   have hg0 : ∀ X h, (P ++ X)[0]'h = cpBox s := fun X h => by
    have h1 := h0 X
    rw [List.getElem?_eq_getElem h] at h1; injection h1
   have hg2 : ∀ X h, (P ++ X)[2]'h = .o (.row 28 4) R := fun X h => by
    have h1 := h2 X
    rw [List.getElem?_eq_getElem h] at h1; injection h1
   refine loop_k mixed (cpIn s P t j) (fun i => t.idxs.length - i) (fun i => i ≤ t.idxs.length) 0 (Nat.zero_le _) ?_ ?_
   ·exact wk_eq (by simp [hE, lens]) (by simp [cpIn, livA, rowL, rowX]) (by simp [livH, livO, AV.livL, AV.liv, wkL, wkV, List.range', cpIn, slotsOf])
   rintro i hi
   by_cases hik : i < t.idxs.length
   ·simp only [cpIn]
    obtain ⟨x, hx⟩ : ∃ x, x = t.idxs[i] := ⟨_, rfl⟩
    have hat := idxsA_at t.idxs i hik
    rw [← hx] at hat
    have hci := clone_ints x.cols (b3 x (by rw [hx]; exact List.getElem_mem hik))
    have hN3 : ∀ (x y z u : AObj) X, (P ++ x :: y :: z :: u :: X)[3 + 2 * j + 3]? = some u := fun x y z u X => appAt hN 3
    have hN4 : ∀ (x y z u v : AObj) X, (P ++ x :: y :: z :: u :: v :: X)[3 + 2 * j + 4]? = some v := fun x y z u v X => appAt hN 4
    have hS2 : ∀ (x y z w : AObj) X, (P ++ x :: y :: z :: X).set (3 + 2 * j + 1 + 1) w = P ++ x :: y :: w :: X := fun x y z w X => appSet hN 2 w
    have hS3 : ∀ (x y z u w : AObj) X, (P ++ x :: y :: z :: u :: X).set (3 + 2 * j + 3) w = P ++ x :: y :: z :: w :: X := fun x y z u w X => appSet hN 3 w
    have hl3 : ∀ (x y z u : Nat) X, (List.map lnO P ++ x :: y :: z :: u :: X)[3 + 2 * j + 3]? = some u := fun x y z u X => by rw [← hN, List.getElem?_append_right (by simp)]; simp
    have hi5 : i * 5 + 5 ≤ t.idxs.length * 5 := by omega
    have kl0 := fun x X h => gq (hl0 x X) h
    have kl1 := fun x y X h => gq (hl1 x y X) h
    have kl2 := fun x y z X h => gq (hl2 x y z X) h
    have kl3 := fun x y z u X h => gq (hl3 x y z u X) h
    have kN0 := fun x X h => gq (hN0 x X) h
    have kN1 := fun x y X h => gq (hN1 x y X) h
    have kN2 := fun x y z X h => gq (hN2 x y z X) h
    have kN3 := fun x y z u X h => gq (hN3 x y z u X) h
    simp (maxSteps := 1000000) [hho, noHo, slotsOf, hN, h0, h2, hN0, hN1, hN2, hN3, hS0, hS2, hS3, hl0, hl1, hl2, hl3, frz_no, List.map_append, List.append_assoc, livA, rowL, rowX, hik, hat, hi5, idxA, kl0, kl1, kl2, kl3, kN0, kN1, kN2, kN3, -List.reduceReplicate]
    refine draw_k hho (.take 0 (.take 1 (.take 2 (.take 3 (.take 4 (.alt 5 (.take 6 (.take 7 (.alt 8 (.done) (.nil)))) (.nil))))))) [3 + 2 * j, 3 + 2 * j + 3] [] (by decide +kernel) (by simp [hN]) ?_
    simp (maxSteps := 1000000) [hho, noHo, hN, hN0, hN1, hN2, hN3, hS0, hS2, hS3, hl0, hl1, hl2, hl3, frz_no, List.map_append, List.append_assoc, kl0, kl1, kl2, kl3, kN0, kN1, kN2, kN3, roOf, holdOf, wrOf, altK, heldOk, Region.binds, -List.reduceReplicate]
    intro E1
    refine call_h [] (hci) rfl rfl ⟨rfl, rfl⟩ (by simp) (by simp) (by decide) (by simp) (by simp) ?_
    have hl4 : ∀ (x y z u v : Nat) X, (List.map lnO P ++ x :: y :: z :: u :: v :: X)[3 + 2 * j + 4]? = some v := fun x y z u v X => by rw [← hN, List.getElem?_append_right (by simp)]; simp
    have hne1 : ¬ (3 + 2 * j + 1 + 1 = 3 + 2 * j) := by omega
    have hne2 : ¬ (3 + 2 * j + 1 + 1 = 3 + 2 * j + 3) := by omega
    have hi52 : i * 5 + 2 + 1 ≤ t.idxs.length * 5 := by omega
    have kl4 := fun x y z u v X h => gq (hl4 x y z u v X) h
    have kN4 := fun x y z u v X h => gq (hN4 x y z u v X) h
    simp (maxSteps := 1000000) [hho, noHo, hN, hN0, hN1, hN2, hN3, hN4, hS0, hS2, hS3, hl0, hl1, hl2, hl3, hl4, frz_no, List.map_append, List.append_assoc, kl0, kl1, kl2, kl3, kl4, kN0, kN1, kN2, kN3, kN4, hik, hne1, hne2, hi52, roOf, holdOf, wrOf, altK, heldOk, Region.binds, -List.reduceReplicate]
    intro E2
    have ewi : IntKind.i64.wrap ((i : Int) + 1) = (i + 1 : Nat) := by rw [IntWalk.i64_in _ (by omega)]; rfl
    refine round_next (i + 1) (by omega) (by omega) ?_
    have hx3 := b3 t.idxs[i] (List.getElem_mem hik)
    rw [hx]
    refine cp_in hho (by rw [hE]; rfl) hN (by rw [hP]; exact cpHead_liv s j _ fun k hk => by rw [List.mem_range'_1] at hk; omega) t.idxs i hik hx3 ?_ _ _ _ ?_ ?_
    ·simp [livH, livO, AV.livL, AV.liv, wkL, wkV, List.range', slotsOf, ewi]
     omega
    ·simp [AV.livL, AV.liv, livA]
    ·simp only [livO, Bool.or_eq_true]; exact .inl (List.all_eq_true.2 ((colsA_all _).2 trivial))
   ·obtain rfl : i = t.idxs.length := by omega
    simp only [cpIn]
    simp (maxSteps := 1000000) [hho, noHo, slotsOf, hN, h0, h2, hN0, hN1, hN2, hS0, hl0, hl1, hl2, frz_no, List.map_append, List.append_assoc, livA, rowL, rowX, hq0, hq2, hg0, hg2, cpBox, -List.reduceReplicate]
    refine ⟨hjn, ⟨hfull, by omega⟩, ?_⟩
    refine round_next (j + 1) (by omega) (by omega) (Wk.trans (wk_eq (s' := ⟨(cpSt s (j + 1)).t, _⟩) (by simp [hE, lens]) rfl ?_) ?_)
    ·simp [livH, livO, AV.livL, AV.liv, wkL, wkV, List.range', cpSt, slotsOf, ew]
    ·have hcp := cp_round s j hjn hho (by rw [hE]; rfl) [.c (.int .i64 t.id), .c (.string t.name), .sl (3 + 2 * j + 1) 10 0 t.cols.length (t.cols.length * 10), .sl (3 + 2 * j + 1 + 1) 5 0 t.idxs.length (t.idxs.length * 5)]
     rw [← ht, ← hP, ← hR] at hcp
     exact hcp
  ·obtain rfl : j = s.tabs.length := by omega
   simp only [cpSt, cpHead]
   simp (maxSteps := 1000000) [hho, noHo, slotsOf, cpBox, cpRes, -List.reduceReplicate]
   refine Ret.wkS (r2 := .agg [.c (.int .i64 s.ver), .c (.int .i64 s.next), .sl 0 4 0 s.tabs.length (s.tabs.length * 4)]) (h2 := heapS 0 s.tabs) (fun E h1 h2 h3 => ?_) (Ret.same ⟨rfl, rfl⟩)
   have hw := wk_front (E := E) 2 (D := [.o .box [.c (.int .i64 s.ver), .c (.int .i64 s.next), .sl 2 4 0 s.tabs.length (s.tabs.length * 4)], .o .box [.c (.int .i64 s.ver), .c (.int .i64 s.next), .sl 2 4 0 s.tabs.length (s.tabs.length * 4)]]) (h := heapS 0 s.tabs)
    (T := [.agg [.c (.int .i64 s.ver), .c (.int .i64 s.next), .sl 2 4 0 s.tabs.length (s.tabs.length * 4)]]) (T' := [.agg [.c (.int .i64 s.ver), .c (.int .i64 s.next), .sl 0 4 0 s.tabs.length (s.tabs.length * 4)]]) h2 (fun k hk hs => by rw [h3] at hs; cases hs) rfl (by simp [AV.rebL, AV.reb])
   rw [heapS_shift] at hw
   have hrow : cpRow s s.tabs.length :: inner s.tabs = heapS (0 + 2) s.tabs := by simp [cpRow, heapS, tabsA]
   rw [hrow]
   exact hw
end Go.Proofs.YthgoocdldnkogaaGreatDoor
