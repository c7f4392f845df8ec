import Derived.Test.YthgoocdldnkogaaGreatDoorHMe
namespace Go.Proofs.YthgoocdldnkogaaGreatDoor
set_option linter.unusedVariables false
set_option linter.unusedSimpArgs false
open Go.RowKit
attribute [local simp] isCut_nil isCut_region isCut_seq isCut_block isCut_loop isCut_cond isCut_skip isCut_exit isCut_ret isCut_range swapK putK altK condK_bool pickP_bool stepP stepO onPure_some onPure_none onImpl_some onImpl_none stepC onGP_some onGP_none onGV_some condG mkG onIt_it nextP_ptr takeP_eq takeV_some takeV_none takeU_some takeU_none takeQ takeW_some takeN_none takeN_some takeG_some takeO_some altO_some pureV binV2 eqF eqOp ovlV ovl2 rowAt capV binV intBin strBin isSh shV fldV ixV sliceV slice3V loadAV nilV lenV callV unV convV viewS cellsH loadV fldCut AV.ung AV.ungs AV.gc AV.cells AS.ev AS.put anyS gcsV gcO lens lnO gV guardV retK RetP_eq resV oneV anyRo loIx hiIx implO callP_clo evL gcsL clearV storeAV AS.push AS.setO appV appZ shortS copyV buildV partsV fillV srcV fzO okV isCell_c isCell_ptr isCell_sl isCell_fs isCell_fp isCell_clo rowZ_one rowZ_zero rowZ_2 rowZ_3 rowZ_4 rowZ_5 rowZ_6 rowZ_7 rowZ_8 rowZ_9 rowZ_10 rowZ_11 rowZ_12 noHo Value.oneCell' max2V min2V lookV updV updK updW cvals mkAt basV lenM msAt afterH putBack frzFrom frzO rebO backIx nilEq_sl nilEq_fs nilEq_ifn nilEq_ifh ifOp_eql ifOp_neq isLit nilOp_eql nilOp_neq AV.reb AV.rebL
attribute [local simp ↓] runK_skip runK_region runK_draw runK_seq runK_cut runK_cond runK_block runK_loop runK_exit runK_label runK_goto runK_ret runK_range contK_nil contK_seq contK_seq_ret contK_seq_exit contK_seq_goto contK_block contK_block_ret contK_block_goto contK_block_exit runO_nil runO_cons roundK_exit roundK_ret roundK_goto exitK_ret cutK_ret cutK_exit runE_done runE_nil runE_take runE_alt condG_true condG_false
set_option maxRecDepth 10000
def livs3 : Nat → List TabS → List AV
 | _, [] => []
 | o, t :: l => livA o t ++ livs3 (o + 2 + t.idxs.length) l
def idx3 : Nat → List IdxS → List AV
 | _, [] => []
 | o, x :: l => [.c (.int .i64 x.id), .c (.string x.name), .sl o 1 0 x.cols.length x.cols.length, .c (.bool x.uniq), .c (.int .i64 x.st)] ++ idx3 (o + 1) l
def rowI (x : IdxS) : AObj := .o (.row 3 1) (intsA x.cols)
def rowX3 (o : Nat) (l : List IdxS) : AObj := .o (.row 49 5) (idx3 o l)
def grpH (o : Nat) (t : TabS) : List AObj := rowL t.cols :: rowX3 (o + 2) t.idxs :: t.idxs.map rowI
def inner3 : Nat → List TabS → List AObj
 | _, [] => []
 | o, t :: l => grpH o t ++ inner3 (o + 2 + t.idxs.length) l
def tot3 : List TabS → Nat
 | [] => 0
 | t :: l => 2 + t.idxs.length + tot3 l
def heap3 (o : Nat) (l : List TabS) : List AObj := .o (.row 28 4) (livs3 (o + 1) l) :: inner3 (o + 1) l
@[simp] theorem livs3_length : ∀ (l : List TabS) (o : Nat), (livs3 o l).length = l.length * 4
 | [], _ => rfl
 | t :: l, o => by simp [livs3, livs3_length l]; omega
@[simp] theorem idx3_length : ∀ (l : List IdxS) (o : Nat), (idx3 o l).length = l.length * 5
 | [], _ => rfl
 | t :: l, o => by simp [idx3, idx3_length l]; omega
@[simp] theorem grpH_length (o : Nat) (t : TabS) : (grpH o t).length = 2 + t.idxs.length := by simp [grpH]; omega
@[simp] theorem inner3_length : ∀ (l : List TabS) (o : Nat), (inner3 o l).length = tot3 l
 | [], _ => rfl
 | t :: l, o => by simp [inner3, tot3, inner3_length l]
@[simp] theorem heap3_length (o : Nat) (l : List TabS) : (heap3 o l).length = 1 + tot3 l := by simp [heap3]; omega
theorem tot3_app : ∀ a b : List TabS, tot3 (a ++ b) = tot3 a + tot3 b
 | [], b => by simp [tot3]
 | t :: a, b => by simp [tot3, tot3_app a b]; omega
theorem livs3_app : ∀ (a b : List TabS) (o : Nat), livs3 o (a ++ b) = livs3 o a ++ livs3 (o + tot3 a) b
 | [], b, o => by simp [livs3, tot3]
 | t :: a, b, o => by
  simp only [List.cons_append, livs3, livs3_app a b, List.append_assoc, tot3]
  rw [show o + 2 + t.idxs.length + tot3 a = o + (2 + t.idxs.length + tot3 a) by omega]
theorem inner3_app : ∀ (a b : List TabS) (o : Nat), inner3 o (a ++ b) = inner3 o a ++ inner3 (o + tot3 a) b
 | [], b, o => by simp [inner3, tot3]
 | t :: a, b, o => by
  simp only [List.cons_append, inner3, inner3_app a b, List.append_assoc, tot3]
  rw [show o + 2 + t.idxs.length + tot3 a = o + (2 + t.idxs.length + tot3 a) by omega]
theorem idx3_app : ∀ (a b : List IdxS) (o : Nat), idx3 o (a ++ b) = idx3 o a ++ idx3 (o + a.length) b
 | [], b, o => by simp [idx3]
 | t :: a, b, o => by
  simp only [List.cons_append, idx3, idx3_app a b, List.append_assoc, List.length_cons]
  rw [show o + 1 + a.length = o + (a.length + 1) by omega]
theorem reb_idx3 (f : Nat → Nat) : ∀ (l : List IdxS) (o o' : Nat), (∀ i, i < l.length → f (o + i) = o' + i) → AV.rebL f (idx3 o l) = idx3 o' l
 | [], _, _, _ => rfl
 | x :: l, o, o', h => by
  simp only [idx3, rebL_app]
  rw [reb_idx3 f l (o + 1) (o' + 1) fun i hi => by have := h (i + 1) (by simp; omega); rw [show o + 1 + i = o + (i + 1) by omega, this]; omega]
  have h0 := h 0 (by simp)
  simp only [Nat.add_zero] at h0
  simp [AV.rebL, AV.reb, h0]
theorem rowI_reb (f : Nat → Nat) (x : IdxS) : rebO f (rowI x) = rowI x := by
 simp only [rowI, rebO]
 rw [if_pos (List.all_eq_true.2 ((intsA_all _).2 trivial))]
theorem rowL_reb3 (f : Nat → Nat) (l : List ColS) : rebO f (rowL l) = rowL l := by
 simp only [rowL, rebO]
 rw [if_pos (List.all_eq_true.2 ((colsA_all _).2 trivial))]
theorem rowX3_reb (f : Nat → Nat) (l : List IdxS) (o o' : Nat) (h : ∀ i, i < l.length → f (o + i) = o' + i) : rebO f (rowX3 o l) = rowX3 o' l := by
 simp only [rowX3, rebO_eq, reb_idx3 f l o o' h]
theorem reb_grp (f : Nat → Nat) (t : TabS) (o o' : Nat) (h : ∀ i, i < 2 + t.idxs.length → f (o + i) = o' + i) : (grpH o t).map (rebO f) = grpH o' t := by
 simp only [grpH, List.map_cons, rowL_reb3]
 rw [rowX3_reb f t.idxs (o + 2) (o' + 2) fun i hi => by have := h (2 + i) (by omega); rw [show o + 2 + i = o + (2 + i) by omega, this]; omega]
 congr 2
 rw [List.map_map]
 exact List.map_congr_left fun x _ => rowI_reb f x
theorem reb_inner3 (f : Nat → Nat) : ∀ (l : List TabS) (o o' : Nat), (∀ i, i < tot3 l → f (o + i) = o' + i) → (inner3 o l).map (rebO f) = inner3 o' l
 | [], _, _, _ => rfl
 | t :: l, o, o', h => by
  simp only [inner3, List.map_append]
  rw [reb_grp f t o o' fun i hi => h i (by simp only [tot3]; omega), reb_inner3 f l _ (o' + 2 + t.idxs.length) fun i hi => by
   have := h (2 + t.idxs.length + i) (by simp only [tot3]; omega)
   rw [show o + 2 + t.idxs.length + i = o + (2 + t.idxs.length + i) by omega, this]; omega]
theorem reb_livs3 (f : Nat → Nat) : ∀ (l : List TabS) (o o' : Nat), (∀ i, i < tot3 l → f (o + i) = o' + i) → AV.rebL f (livs3 o l) = livs3 o' l
 | [], _, _, _ => rfl
 | t :: l, o, o', h => by
  simp only [livs3, rebL_app]
  rw [reb_livs3 f l _ (o' + 2 + t.idxs.length) fun i hi => by
   have := h (2 + t.idxs.length + i) (by simp only [tot3]; omega)
   rw [show o + 2 + t.idxs.length + i = o + (2 + t.idxs.length + i) by omega, this]; omega]
  have h0 := h 0 (by simp only [tot3]; omega)
  have h1 := h 1 (by simp only [tot3]; omega)
  simp only [Nat.add_zero] at h0
  simp [livA, AV.rebL, AV.reb, h0, h1]
theorem heap3_reb (f : Nat → Nat) (l : List TabS) (o o' : Nat) (h : ∀ i, i < 1 + tot3 l → f (o + i) = o' + i) : (heap3 o l).map (rebO f) = heap3 o' l := by
 have h2 : ∀ i, i < tot3 l → f (o + 1 + i) = o' + 1 + i := fun i hi => by
  have := h (1 + i) (by omega)
  rw [show o + 1 + i = o + (1 + i) by omega, this]; omega
 simp only [heap3, List.map_cons, rebO_eq]
 rw [reb_livs3 f l _ _ h2, reb_inner3 f l _ _ h2]
theorem wk_skip2 {E : Env} (N : Nat) {A B : List AObj} {b : AObj} {T T' : List AV} (hE : E.ho = noHo) (hln : E.ln0.length ≤ N) (hA : A.length = N) (ht : T = AV.rebL (skipF N) T') : Wk E ⟨T, A.map (rebO (skipF N)) ++ b :: B.map (rebO (skipF N))⟩ ⟨T', A ++ B⟩ := by
 have hobj : ∀ k x, (A ++ B)[k]? = some x → (A.map (rebO (skipF N)) ++ b :: B.map (rebO (skipF N)))[skipF N k]? = some (rebO (skipF N) x) := by
  intro k x hk
  by_cases h : k < N
  ·rw [List.getElem?_append_left (by omega)] at hk
   rw [skipF, if_pos h, List.getElem?_append_left (by simp; omega), List.getElem?_map, hk]; rfl
  ·rw [List.getElem?_append_right (by omega)] at hk
   rw [skipF, if_neg h, List.getElem?_append_right (by simp; omega), List.length_map, show k + 1 - A.length = (k - A.length) + 1 by omega, List.getElem?_cons_succ, List.getElem?_map, hk]; rfl
 refine wk_pick (skipF N) hE (fun k => ?_) (fun j k _ _ h => by unfold skipF at h; split at h <;> split at h <;> omega) hobj ht (fun k hk _ => by simp only [skipF]; rw [if_pos (by omega)])
 simp only [lens, List.getElem?_map]
 cases hk : (A ++ B)[k]? with
 | some x => rw [hobj k x hk, Option.map_some, Option.map_some, rebO_ln]
 | none =>
  have hkl := List.getElem?_eq_none_iff.1 hk
  rw [List.length_append] at hkl
  rw [skipF, if_neg (by omega), List.getElem?_eq_none_iff.2 (by simp; omega)]
theorem deep_idx3 {h : List AObj} {ok : Nat → Prop} : ∀ (l : List IdxS) (o : Nat), (∀ k x, l[k]? = some x → ok (o + k) ∧ hasKC h (o + k) (intsA x.cols)) → (∀ x ∈ l, x.cols.length ≤ maxLen) → ∀ (j : Nat) (u u' : AV), (idx3 o l)[j]? = some u → (idxsA l)[j]? = some u' → DeepD h ok u u'
 | [], o, _, _, j, u, u', h1, _ => by simp [idx3] at h1
 | x :: l, o, hk, hb, j, u, u', h1, h2 => by
  have hcut : idxsA (x :: l) = idxA x ++ idxsA l := List.flatMap_cons ..
  rw [hcut] at h2
  simp only [idx3] at h1
  by_cases hj : j < 5
  ·rw [List.getElem?_append_left (by simpa using hj)] at h1 h2
   match j, h1, h2 with
   | 0, h1, h2 => simp [idxA] at h1 h2; subst h1 h2; exact .d _ rfl
   | 1, h1, h2 => simp [idxA] at h1 h2; subst h1 h2; exact .d _ rfl
   | 2, h1, h2 =>
    simp [idxA] at h1 h2; subst h1 h2
    obtain ⟨k1, kd, k2⟩ := hk 0 x rfl
    simp only [Nat.add_zero] at k1 k2
    refine .sl o 1 0 _ _ _ _ _ k1 k2 (by simp) (by omega) (hb x (by simp)) (by simp) fun i u u' hu hu' => ?_
    rw [Nat.zero_add, hu'] at hu
    injection hu with hu; subst hu
    exact .d _ ((intsA_all _).2 trivial _ (List.mem_of_getElem? hu'))
   | 3, h1, h2 => simp [idxA] at h1 h2; subst h1 h2; exact .d _ rfl
   | 4, h1, h2 => simp [idxA] at h1 h2; subst h1 h2; exact .d _ rfl
   | j + 5, _, _ => omega
  ·rw [List.getElem?_append_right (by simp; omega)] at h1 h2
   refine deep_idx3 l (o + 1) (fun k x hx => ?_) (fun x hx => hb x (by simp [hx])) (j - 5) u u' (by simpa using h1) (by simpa using h2)
   have := hk (k + 1) x (by simpa using hx)
   rwa [show o + (k + 1) = o + 1 + k by omega] at this
def hasG (h : List AObj) (ok : Nat → Prop) (o : Nat) (t : TabS) : Prop := (ok o ∧ hasKC h o (colsA t.cols)) ∧ (ok (o + 1) ∧ hasKC h (o + 1) (idx3 (o + 2) t.idxs)) ∧ ∀ k x, t.idxs[k]? = some x → ok (o + 2 + k) ∧ hasKC h (o + 2 + k) (intsA x.cols)
structure Fit3 (t : TabS) : Prop where
 c : t.cols.length ≤ maxLen
 x : t.idxs.length ≤ maxLen
 i : ∀ x ∈ t.idxs, x.cols.length ≤ maxLen
theorem deep_tab3 {h : List AObj} {ok : Nat → Prop} {o : Nat} {t : TabS} (hg : hasG h ok o t) (hf : Fit3 t) :
  ∀ (j : Nat) (u u' : AV), (livA o t)[j]? = some u → (tabA t)[j]? = some u' → DeepD h ok u u'
 | 0, u, u', e1, e2 => by simp [livA, tabA] at e1 e2; subst e1 e2; exact .d _ rfl
 | 1, u, u', e1, e2 => by simp [livA, tabA] at e1 e2; subst e1 e2; exact .d _ rfl
 | 2, u, u', e1, e2 => by simp [livA, tabA] at e1 e2; subst e1 e2; exact deep_cols hg.1.1 hg.1.2 hf.c
 | 3, u, u', e1, e2 => by
  simp [livA, tabA] at e1 e2; subst e1 e2
  obtain ⟨q1, kd, q2⟩ := hg.2.1
  refine .sl (o + 1) 5 0 _ _ _ _ _ q1 q2 (by simp) (by omega) hf.x (by simp) fun i u u' hu hu' => ?_
  rw [Nat.zero_add] at hu
  exact deep_idx3 t.idxs (o + 2) hg.2.2 hf.i i u u' hu hu'
 | j + 4, u, u', e1, e2 => by simp [livA] at e1
theorem grp_has {h : List AObj} {o : Nat} {t : TabS} (hk : ∀ k x, (grpH o t)[k]? = some x → h[o + k]? = some x) : hasG h (fun _ => True) o t := by
 refine ⟨⟨trivial, _, hk 0 _ rfl⟩, ⟨trivial, _, hk 1 _ rfl⟩, fun k x hx => ⟨trivial, .row 3 1, ?_⟩⟩
 have := hk (k + 2) (rowI x) (by simp [grpH, hx])
 rwa [show o + (k + 2) = o + 2 + k by omega] at this
theorem livs3_deep {h : List AObj} : ∀ (l : List TabS) (o : Nat), (∀ k x, (inner3 o l)[k]? = some x → h[o + k]? = some x) → (∀ t ∈ l, Fit3 t) → ∀ (j : Nat) (u u' : AV), (livs3 o l)[j]? = some u → (tabsA l)[j]? = some u' → DeepD h (fun _ => True) u u'
 | [], o, _, _, j, u, u', h1, _ => by simp [livs3] at h1
 | t :: l, o, hk, hb, j, u, u', h1, h2 => by
  have hcut : tabsA ((t :: l)) = tabA t ++ tabsA (l) := List.flatMap_cons ..
  rw [hcut] at h2
  simp only [livs3] at h1
  by_cases hj : j < 4
  ·rw [List.getElem?_append_left (by simpa using hj)] at h1 h2
   refine deep_tab3 (grp_has fun k x hx => hk k x ?_) (hb t (by simp)) j u u' h1 h2
   simp only [inner3]
   rw [List.getElem?_append_left (List.getElem?_eq_some_iff.1 hx).1]; exact hx
  ·rw [List.getElem?_append_right (by simp; omega)] at h1 h2
   refine livs3_deep l (o + 2 + t.idxs.length) (fun k x hx => ?_) (fun t' ht' => hb t' (by simp [ht'])) (j - 4) u u' (by simpa using h1) (by simpa using h2)
   have := hk (2 + t.idxs.length + k) x (by
    simp only [inner3]
    rw [List.getElem?_append_right (by simp)]
    simpa using hx)
   rwa [show o + (2 + t.idxs.length + k) = o + 2 + t.idxs.length + k by omega] at this
theorem deep3_sch {h : List AObj} (o : Nat) (ver next : Int) (l : List TabS) (hk : ∀ k x, (heap3 o l)[k]? = some x → h[o + k]? = some x) (hl : l.length ≤ maxLen) (hb : ∀ t ∈ l, Fit3 t) :
  DeepV h (fun _ => True) (.agg [.c (.int .i64 ver), .c (.int .i64 next), .sl o 4 0 l.length (l.length * 4)]) (.agg (schA ⟨ver, next, l⟩)) := by
 refine .agg _ _ rfl fun j u u' e1 e2 => ?_
 match j, e1, e2 with
 | 0, e1, e2 => simp [schA] at e1 e2; subst e1 e2; exact .d _ _ (.d _ rfl)
 | 1, e1, e2 => simp [schA] at e1 e2; subst e1 e2; exact .d _ _ (.d _ rfl)
 | 2, e1, e2 =>
  simp [schA] at e1 e2; subst e1 e2
  have h1 := hk 0 _ rfl
  refine .d _ _ (.sl o 4 0 _ _ _ _ _ trivial h1 (by simp) (by omega) hl (by simp) fun i u u' hu hu' => ?_)
  rw [Nat.zero_add] at hu
  refine livs3_deep l (o + 1) (fun k x hx => ?_) hb i u u' hu hu'
  have := hk (k + 1) x (by simpa [heap3] using hx)
  rwa [show o + (k + 1) = o + 1 + k by omega] at this
 | j + 3, e1, e2 => simp at e1
end Go.Proofs.YthgoocdldnkogaaGreatDoor
