import Derived.Test.YthgoocdldnkogaaGreatDoorHMj
namespace Go.Proofs.YthgoocdldnkogaaGreatDoor
set_option linter.unusedVariables false
set_option linter.unusedSimpArgs false
open Go.RowKit
attribute [local simp] isCut_nil isCut_region isCut_seq isCut_block isCut_loop isCut_cond isCut_skip isCut_exit isCut_ret isCut_range swapK putK altK condK_bool pickP_bool stepP stepO onPure_some onPure_none onImpl_some onImpl_none stepC onGP_some onGP_none onGV_some condG mkG onIt_it nextP_ptr takeP_eq takeV_some takeV_none takeU_some takeU_none takeQ takeW_some takeN_none takeN_some takeG_some takeO_some altO_some pureV binV2 eqF eqOp ovlV ovl2 rowAt capV binV intBin strBin isSh shV fldV ixV sliceV slice3V loadAV nilV lenV callV unV convV viewS cellsH loadV fldCut AV.ung AV.ungs AV.gc AV.cells AS.ev AS.put anyS gcsV gcO lens lnO gV guardV retK RetP_eq resV oneV anyRo loIx hiIx implO callP_clo evL gcsL clearV storeAV AS.push AS.setO appV appZ shortS copyV buildV partsV fillV srcV fzO okV isCell_c isCell_ptr isCell_sl isCell_fs isCell_fp isCell_clo rowZ_one rowZ_zero rowZ_2 rowZ_3 rowZ_4 rowZ_5 rowZ_6 rowZ_7 rowZ_8 rowZ_9 rowZ_10 rowZ_11 rowZ_12 noHo Value.oneCell' max2V min2V lookV updV updK updW cvals mkAt basV lenM msAt afterH putBack frzFrom frzO rebO backIx nilEq_sl nilEq_fs nilEq_ifn nilEq_ifh ifOp_eql ifOp_neq isLit nilOp_eql nilOp_neq AV.reb AV.rebL
attribute [local simp ↓] runK_skip runK_region runK_draw runK_seq runK_cut runK_cond runK_block runK_loop runK_exit runK_label runK_goto runK_ret runK_range contK_nil contK_seq contK_seq_ret contK_seq_exit contK_seq_goto contK_block contK_block_ret contK_block_goto contK_block_exit runO_nil runO_cons roundK_exit roundK_ret roundK_goto exitK_ret cutK_ret cutK_exit runE_done runE_nil runE_take runE_alt condG_true condG_false
set_option maxRecDepth 10000
def twF (N k : Nat) : Nat := if k < N then k else if k = N then N + 1 else if k = N + 1 then N + 3 else k + 5
theorem wk_two {E : Env} (hE : E.ho = noHo) (hln : E.ln0 = []) (N : Nat) {A : List AObj} {b0 b1 b2 b3 b4 : AObj} {T T' : List AV} (hA : A.length = N) (ht : T = AV.rebL (twF N) T') (h1 : rebO (twF N) b1 = b1) (h3 : rebO (twF N) b3 = b3) : Wk E ⟨T, A.map (rebO (twF N)) ++ [b0, b1, b2, b3, b4]⟩ ⟨T', A ++ [b1, b3]⟩ := by
 have hobj : ∀ (k : Nat) (x : AObj), (A ++ [b1, b3])[k]? = some x → (A.map (rebO (twF N)) ++ [b0, b1, b2, b3, b4])[twF N k]? = some (rebO (twF N) x) := by
  intro k x hk
  by_cases h : k < N
  ·rw [List.getElem?_append_left (by omega)] at hk
   rw [twF, if_pos h, List.getElem?_append_left (by simp; omega), List.getElem?_map, hk]; rfl
  ·rw [List.getElem?_append_right (by omega)] at hk
   have hkl : k - A.length < 2 := by have := (List.getElem?_eq_some_iff.1 hk).1; simpa using this
   by_cases h2 : k = N
   ·subst h2
    rw [hA, Nat.sub_self] at hk
    simp at hk; subst hk
    have e : twF k k = k + 1 := by simp [twF]
    rw [e, h1, List.getElem?_append_right (by simp; omega), List.length_map, hA, show k + 1 - k = 1 by omega]; rfl
   ·obtain rfl : k = N + 1 := by omega
    rw [hA, show N + 1 - N = 1 by omega] at hk
    simp at hk; subst hk
    have e : twF N (N + 1) = N + 3 := by simp [twF]
    rw [e, h3, List.getElem?_append_right (by simp; omega), List.length_map, hA, show N + 3 - N = 3 by omega]; rfl
 refine wk_pick (twF N) hE (fun k => ?_) (fun j k hj hk h => ?_) hobj ht (fun k hk _ => by rw [hln] at hk; cases hk)
 ·simp only [lens, List.getElem?_map]
  cases hk : (A ++ [b1, b3])[k]? with
  | some x => rw [hobj k x hk, Option.map_some, Option.map_some, rebO_ln]
  | none =>
   have hkl := List.getElem?_eq_none_iff.1 hk
   rw [List.length_append] at hkl
   simp at hkl
   rw [twF, if_neg (by omega), if_neg (by omega), if_neg (by omega), List.getElem?_eq_none_iff.2 (by simp; omega)]
 ·simp only [twF] at h
  repeat' (split at h)
  all_goals omega
def ddOut (s : SchS) (j : Nat) : AObj := .o .box [.c (.int .i64 (s.ver + 1)), .c (.int .i64 s.next), .sl 3 4 0 j (j * 4)]
def ddRes : AObj := .o .box [.c (.int .i64 0), .c (.int .i64 0), .c (.slice none 0 0)]
def ddHead (s : SchS) (j : Nat) : List AObj := .o .box (schA s) :: ddRes :: ddOut s j :: .o (.row 28 4) (livsA 4 (s.tabs.take j)) :: inner (s.tabs.take j)
def ddT (s : SchS) (j : Nat) : List (Nat × AV) := [(1, .ptr 0 0 3), (2, .ptr 1 0 3), (3, .ptr 2 0 3), (16, .fs 4 s.tabs.length (tabsA s.tabs)), (17, .c (.int .i64 (s.tabs.length : Nat))), (18, .c (.int .i64 (j : Nat)))]
def ddSt (s : SchS) (j : Nat) : AS := ⟨slotsOf 58 (ddT s j), ddHead s j⟩
theorem ddHead_length (s : SchS) (j : Nat) (hj : j ≤ s.tabs.length) : (ddHead s j).length = 4 + 2 * j := by simp [ddHead]; omega
theorem ddHead_reb (s : SchS) (j : Nat) (f : Nat → Nat) (hj : j ≤ s.tabs.length) (hf : ∀ k, k < 4 + 2 * j → f k = k) : ∀ x ∈ ddHead s j, rebO f x = x := by
 intro x hx
 simp only [ddHead, List.mem_cons] at hx
 rcases hx with rfl | rfl | rfl | rfl | hx
 ·rw [rebO_eq, schA_reb]
 ·rw [ddRes, rebO_eq]; simp [AV.rebL, AV.reb]
 ·rw [ddOut, rebO_eq]; simp [AV.rebL, AV.reb, hf 3 (by omega)]
 ·rw [rebO_eq, rebL_livs f (s.tabs.take j) 4 4 fun i hi => hf _ (by simp at hi; omega)]
 ·exact inner_reb f _ x hx
theorem ddHead_liv (s : SchS) (j : Nat) (d : List Nat) (hd : ∀ k ∈ d, 4 + 2 * j ≤ k) : ∀ x ∈ ddHead s j, livO d x = true := by
 have hn : ∀ k, k < 4 + 2 * j → k ∉ d := fun k hk hm => by have := hd k hm; omega
 intro x hx
 simp only [ddHead, List.mem_cons] at hx
 rcases hx with rfl | rfl | rfl | rfl | hx
 ·simp only [livO]; exact isD_livL d _ ((schA_all s).2 trivial)
 ·simp [ddRes, livO, AV.livL, AV.liv]
 ·simp [ddOut, livO, AV.livL, AV.liv, hn 3 (by omega)]
 ·simp only [livO, Bool.or_eq_true]
  exact .inr (livs_liv d _ 4 fun i hi => hn _ (by simp at hi; omega))
 ·exact inner_liv d _ x hx
def swF (N k : Nat) : Nat := if k = N + 1 then N + 2 else if k = N + 2 then N + 1 else k
theorem wk_swap {E : Env} (hE : E.ho = noHo) (hln : E.ln0 = []) (N : Nat) {A : List AObj} {b x y : AObj} {T T' : List AV} (hA : A.length = N) (hAr : ∀ z ∈ A, rebO (swF N) z = z) (hb : rebO (swF N) b = b) (ht : T = AV.rebL (swF N) T') : Wk E ⟨T, A ++ [b, rebO (swF N) x, rebO (swF N) y]⟩ ⟨T', A ++ [b, y, x]⟩ := by
 have hobj : ∀ (k : Nat) (z : AObj), (A ++ [b, y, x])[k]? = some z → (A ++ [b, rebO (swF N) x, rebO (swF N) y])[swF N k]? = some (rebO (swF N) z) := by
  intro k z hk
  by_cases h : k < N
  ·rw [List.getElem?_append_left (by omega)] at hk
   rw [swF, if_neg (by omega), if_neg (by omega), List.getElem?_append_left (by omega), hk, hAr z (List.mem_of_getElem? hk)]
  ·rw [List.getElem?_append_right (by omega)] at hk
   have hkl : k - A.length < 3 := by have := (List.getElem?_eq_some_iff.1 hk).1; simpa using this
   obtain ⟨i, rfl⟩ : ∃ i, k = N + i := ⟨k - N, by omega⟩
   rw [hA, Nat.add_sub_cancel_left] at hk
   match i, hk with
   | 0, hk => simp at hk; subst hk; rw [show swF N (N + 0) = N by simp [swF], List.getElem?_append_right (by omega), hA, Nat.sub_self, hb]; rfl
   | 1, hk => simp at hk; subst hk; rw [show swF N (N + 1) = N + 2 by simp [swF], List.getElem?_append_right (by omega), hA, show N + 2 - N = 2 by omega]; rfl
   | 2, hk => simp at hk; subst hk; rw [show swF N (N + 2) = N + 1 by simp [swF], List.getElem?_append_right (by omega), hA, show N + 1 - N = 1 by omega]; rfl
   | i + 3, hk => simp at hk
 refine wk_pick (swF N) hE (fun k => ?_) (fun j k hj hk h => ?_) hobj ht (fun k hk _ => by rw [hln] at hk; cases hk)
 ·simp only [lens, List.getElem?_map]
  cases hk : (A ++ [b, y, x])[k]? with
  | some z => rw [hobj k z hk, Option.map_some, Option.map_some, rebO_ln]
  | none =>
   have hkl := List.getElem?_eq_none_iff.1 hk
   rw [List.length_append] at hkl
   simp at hkl
   rw [swF, if_neg (by omega), if_neg (by omega), List.getElem?_eq_none_iff.2 (by simp; omega)]
 ·simp only [swF] at h
  repeat' (split at h)
  all_goals omega
def ddIn (s : SchS) (P : List AObj) (N : Nat) (t : TabS) (j i : Nat) : AS := ⟨slotsOf 58 (ddT s j ++ [(6, .ptr (N + 2) 0 4), (32, .fs 5 t.idxs.length (idxsA t.idxs)), (33, .c (.int .i64 (t.idxs.length : Nat))), (34, .c (.int .i64 (i : Nat)))]),
 P ++ [.o .box (tabA t), rowL t.cols, .o .box [.c (.int .i64 t.id), .c (.string t.name), .sl (N + 1) 10 0 t.cols.length (t.cols.length * 10), .sl (N + 3) 5 0 i (i * 5)], .o (.row 49 5) (idxsA (t.idxs.take i))]⟩
theorem dd_in {E : Env} (hE : E.ho = noHo) (hln : E.ln0 = []) {P : List AObj} {N : Nat} (hN : P.length = N) (hP : ∀ x ∈ P, livO (List.range' (N + 4) 3) x = true) (l : List IdxS) (i : Nat) (hi : i < l.length) {x : IdxS} (hxe : x = l[i]) (hx : x.cols.length ≤ 1000000) {T T' : List AV} (hT : wkL (List.range' (N + 4) 3) T T') (b0 b1 b2 b4 b6 : AObj) (h0 : livO (List.range' (N + 4) 3) b0 = true) (h1 : livO (List.range' (N + 4) 3) b1 = true) (h2 : livO (List.range' (N + 4) 3) b2 = true) :
  Wk E ⟨T, P ++ [b0, b1, b2, .o (.row 49 5) (idxsA (l.take i) ++ [.c (.int .i64 x.id), .c (.string x.name), .sl (N + 5) 1 0 x.cols.length x.cols.length, .c (.bool x.uniq), .c (.int .i64 x.st)]), b4, .o (.row 3 1) (intsA x.cols), b6]⟩ ⟨T', P ++ [b0, b1, b2, .o (.row 49 5) (idxsA (l.take (i + 1)))]⟩ := by
 obtain ⟨A, hA⟩ : ∃ A, A = idxsA (l.take i) := ⟨_, rfl⟩
 have hAl : A.length = i * 5 := by rw [hA]; simp; omega
 have hA1 : idxsA (l.take (i + 1)) = A ++ idxA x := by rw [take_snoc _ _ hi, hA, hxe, idxsA, idxsA, List.flatMap_append, List.flatMap_singleton]
 rw [hA1, ← hA]
 obtain ⟨c, hc⟩ : ∃ c, c = A ++ [AV.c (.int .i64 x.id), .c (.string x.name), .sl (N + 5) 1 0 x.cols.length x.cols.length, .c (.bool x.uniq), .c (.int .i64 x.st)] := ⟨_, rfl⟩
 rw [← hc]
 have hg : ∀ k (h : AObj), [b0, b1, b2, AObj.o (.row 49 5) c, b4, .o (.row 3 1) (intsA x.cols), b6][k]? = some h → (P ++ [b0, b1, b2, AObj.o (.row 49 5) c, b4, .o (.row 3 1) (intsA x.cols), b6])[N + k]? = some h := fun k h hk => by
  rw [List.getElem?_append_right (by omega), show N + k - P.length = k by omega]; exact hk
 have hcd : c[i * 5 + 2]? = some (.sl (N + 5) 1 0 x.cols.length x.cols.length) := by
  rw [hc, List.getElem?_append_right (by omega), hAl, show i * 5 + 2 - i * 5 = 2 by omega]; rfl
 refine Wk.trans (wk_data (s := ⟨T, _⟩) (N + 3) (i * 5 + 2) (N + 5) (by rw [hE]; rfl) (by omega) (hg 3 _ rfl) hcd (hg 5 _ rfl) (by simp [intsA]) (by omega) (by unfold maxLen; omega) (List.all_eq_true.2 (by simp [intsA, isD]))) ?_
 have hcc : c.set (i * 5 + 2) (.fs 1 x.cols.length (intsA x.cols)) = A ++ idxA x := by
  rw [hc, List.set_append_right _ _ (by omega), hAl, show i * 5 + 2 - i * 5 = 2 by omega]; rfl
 have hh : ((P ++ [b0, b1, b2, AObj.o (.row 49 5) c, b4, .o (.row 3 1) (intsA x.cols), b6]).set (N + 5) (.o .fz (intsA x.cols))).set (N + 3) (.o (.row 49 5) (c.set (i * 5 + 2) (.fs 1 x.cols.length (intsA x.cols)))) = (P ++ [b0, b1, b2, .o (.row 49 5) (A ++ idxA x)]) ++ [b4, .o .fz (intsA x.cols), b6] := by
  rw [appSet hN 5, appSet hN 3, hcc]; simp
 rw [hh]
 refine wk_of (N + 4) 3 (by simp [hN]) (by rw [hln]; simp) ?_ (livH_of _ _ _ fun y hy => ?_) hT
 ·exact List.take_left' (by simp [hN])
 ·rcases List.mem_append.1 hy with h | h
  ·exact hP y h
  ·simp only [List.mem_cons, List.not_mem_nil, or_false] at h
   rcases h with rfl | rfl | rfl | rfl
   ·exact h0
   ·exact h1
   ·exact h2
   ·simp only [livO, Bool.or_eq_true]
    refine .inl (List.all_eq_true.2 fun z hz => ?_)
    rcases List.mem_append.1 hz with hz | hz
    ·rw [hA] at hz; exact (idxsA_all _).2 trivial z hz
    ·exact (idxA_all x).2 trivial z hz
theorem dd_round (s : SchS) (j : Nat) (hj : j < s.tabs.length) {E : Env} (hE : E.ho = noHo) (hln : E.ln0 = []) {t : TabS} (ht : t = s.tabs[j]) {N : Nat} (hN : N = 4 + 2 * j) (b0 b2 b4 : AObj) :
  Wk E ⟨(ddSt s (j + 1)).t, ((ddHead s j ++ [b0, rowL t.cols, b2, rowX t.idxs, b4]).set 3 (.o (.row 28 4) (livsA 4 (s.tabs.take j) ++ [.c (.int .i64 t.id), .c (.string t.name), .sl (N + 1) 10 0 t.cols.length (t.cols.length * 10), .sl (N + 3) 5 0 t.idxs.length (t.idxs.length * 5)]))).set 2 (ddOut s (j + 1))⟩ (ddSt s (j + 1)) := by
 have hmin : min j s.tabs.length = j := by omega
 have hsk : ∀ k, k < N → twF N k = k := fun k hk => by simp [twF, hk]
 have q1 : AV.rebL (twF N) (livsA 4 (s.tabs.take j)) = livsA 4 (s.tabs.take j) := rebL_livs _ _ _ _ fun i hi => hsk _ (by simp at hi; omega)
 have q2 : AV.rebL (twF N) (livA N t) = [.c (.int .i64 t.id), .c (.string t.name), .sl (N + 1) 10 0 t.cols.length (t.cols.length * 10), .sl (N + 3) 5 0 t.idxs.length (t.idxs.length * 5)] := by
  simp [livA, AV.rebL, AV.reb, twF]
 have q4 : livsA 4 (s.tabs.take (j + 1)) = livsA 4 (s.tabs.take j) ++ livA N t := by
  rw [take_snoc _ _ hj, livsA_app, ht]; simp [livsA, hmin, hN]
 have q5 : (inner (s.tabs.take j)).map (rebO (twF N)) = inner (s.tabs.take j) := by
  conv => rhs; rw [← List.map_id (inner (s.tabs.take j))]
  exact List.map_congr_left fun x hx => inner_reb _ _ x hx
 have hA : ((ddHead s j ++ [b0, rowL t.cols, b2, rowX t.idxs, b4]).set 3 (.o (.row 28 4) (livsA 4 (s.tabs.take j) ++ [.c (.int .i64 t.id), .c (.string t.name), .sl (N + 1) 10 0 t.cols.length (t.cols.length * 10), .sl (N + 3) 5 0 t.idxs.length (t.idxs.length * 5)]))).set 2 (ddOut s (j + 1)) =
   (AObj.o .box (schA s) :: ddRes :: ddOut s (j + 1) :: .o (.row 28 4) (livsA 4 (s.tabs.take (j + 1))) :: inner (s.tabs.take j)).map (rebO (twF N)) ++ [b0, rowL t.cols, b2, rowX t.idxs, b4] := by
  simp only [ddHead, List.cons_append, List.set_cons_succ, List.set_cons_zero, List.map_cons, q5, rebO_eq, schA_reb, rebL_app, q4, q1, q2]
  simp only [ddOut, ddRes, rebO_eq, AV.rebL, AV.reb, hsk 3 (by omega)]
 have hB : ddHead s (j + 1) = (AObj.o .box (schA s) :: ddRes :: ddOut s (j + 1) :: .o (.row 28 4) (livsA 4 (s.tabs.take (j + 1))) :: inner (s.tabs.take j)) ++ [rowL t.cols, rowX t.idxs] := by
  simp only [ddHead]
  rw [take_snoc _ _ hj, inner_app, ← ht]; rfl
 rw [hA]
 have hst : ddSt s (j + 1) = ⟨(ddSt s (j + 1)).t, ddHead s (j + 1)⟩ := rfl
 conv => rhs; rw [hst, hB]
 refine wk_two hE hln N (by simp; omega) ?_ (by rw [rowL_reb]) (by rw [rowX, rebO_eq, rebL_isD' ((idxsA_all _).2 trivial)])
 simp [ddSt, ddT, slotsOf, anyS, AV.rebL, AV.reb, hsk 0 (by omega), hsk 1 (by omega), hsk 2 (by omega), rebL_isD' ((tabsA_all _).2 trivial)]
set_option maxHeartbeats 4000000 in
theorem r14Copy_w (s : SchS) (hv : s.ver ≤ 2 ^ 62 ∧ -4 ≤ s.ver) (hl : s.tabs.length ≤ 1000) (hb : ∀ t ∈ s.tabs, t.cols.length ≤ 1000 ∧ t.idxs.length ≤ 1000 ∧ ∀ x ∈ t.idxs, x.cols.length ≤ 1000) :
  ACalls Tryz.prog 39 [.agg (schA s)] [] (fun _ => false) (fun r h' => r = .agg [.c (.int .i64 (s.ver + 1)), .c (.int .i64 s.next), .sl 0 4 0 s.tabs.length (s.tabs.length * 4)] ∧ h' = heapS 0 s.tabs) := by
 refine acalls mixed Tryz.func39 rfl Tryz.ntmps39 rfl fun E hE hst hho => ?_
 have hsc : schA s = [.c (.int .i64 s.ver), .c (.int .i64 s.next), .fs 4 s.tabs.length (tabsA s.tabs)] := rfl
 have ev : IntKind.i64.wrap (s.ver + 1) = s.ver + 1 := IntWalk.i64_in _ (by omega)
 simp (maxSteps := 1000000) [hho, noHo, hsc, ev, -List.reduceReplicate]
 refine loop_k mixed (ddSt s) (fun j => s.tabs.length - j) (fun j => j ≤ s.tabs.length) 0 (Nat.zero_le _) ?_ ?_
 ·refine Wk.trans (wk_virtC 2 2 28 4 rfl rfl) ?_
  exact wk_eq (by simp [hE, lens]) (by simp [ddSt, ddHead, ddRes, ddOut, livsA, inner, hsc]) (by simp [livH, livO, AV.livL, AV.liv, wkL, wkV, List.range', ddSt, ddT, slotsOf])
 rintro j hj
 by_cases hjn : j < s.tabs.length
 ·obtain ⟨N, hNN⟩ : ∃ N, N = 4 + 2 * j := ⟨_, rfl⟩
  have hN : (ddHead s j).length = N := by rw [hNN]; exact ddHead_length s j hj
  obtain ⟨t, ht⟩ : ∃ t, t = s.tabs[j] := ⟨_, rfl⟩
  have htm : t ∈ s.tabs := by rw [ht]; exact List.getElem_mem hjn
  obtain ⟨b1, b2, b3⟩ := hb t htm
  have hat := tabsA_at s.tabs j hjn
  rw [← ht] at hat
  have e0 : j * 4 + 4 ≤ s.tabs.length * 4 := by omega
  have ew : IntKind.i64.wrap ((j : Int) + 1) = (j + 1 : Nat) := by rw [IntWalk.i64_in _ (by omega)]; rfl
  have hta : tabA t = [.c (.int .i64 t.id), .c (.string t.name), .fs 10 t.cols.length (colsA t.cols), .fs 5 t.idxs.length (idxsA t.idxs)] := rfl
  simp only [ddSt, ddT]
  obtain ⟨P, hP⟩ : ∃ P, P = ddHead s j := ⟨_, rfl⟩
  rw [← hP] at hN ⊢
  have hN0 : ∀ (x : AObj) X, (P ++ x :: X)[N]? = some x := fun x X => appAt hN 0
  have hN1 : ∀ (x y : AObj) X, (P ++ x :: y :: X)[N + 1]? = some y := fun x y X => appAt hN 1
  have hN2 : ∀ (x y z : AObj) X, (P ++ x :: y :: z :: X)[N + 2]? = some z := fun x y z X => appAt hN 2
  have hN3 : ∀ (x y z u : AObj) X, (P ++ x :: y :: z :: u :: X)[N + 3]? = some u := fun x y z u X => appAt hN 3
  have hN4 : ∀ (x y z u v : AObj) X, (P ++ x :: y :: z :: u :: v :: X)[N + 4]? = some v := fun x y z u v X => appAt hN 4
  have hN5 : ∀ (x y z u v a : AObj) X, (P ++ x :: y :: z :: u :: v :: a :: X)[N + 5]? = some a := fun x y z u v a X => appAt hN 5
  have hN6 : ∀ (x y z u v a b : AObj) X, (P ++ x :: y :: z :: u :: v :: a :: b :: X)[N + 6]? = some b := fun x y z u v a b X => appAt hN 6
  have hS0 : ∀ (x w : AObj) X, (P ++ x :: X).set N w = P ++ w :: X := fun x w X => appSet hN 0 w
  have hS1 : ∀ (x y w : AObj) X, (P ++ x :: y :: X).set (N + 1) w = P ++ x :: w :: X := fun x y w X => appSet hN 1 w
  have hS2 : ∀ (x y z w : AObj) X, (P ++ x :: y :: z :: X).set (N + 2) w = P ++ x :: y :: w :: X := fun x y z w X => appSet hN 2 w
  have hS3 : ∀ (x y z u w : AObj) X, (P ++ x :: y :: z :: u :: X).set (N + 3) w = P ++ x :: y :: z :: w :: X := fun x y z u w X => appSet hN 3 w
  have hS4 : ∀ (x y z u v w : AObj) X, (P ++ x :: y :: z :: u :: v :: X).set (N + 4) w = P ++ x :: y :: z :: u :: w :: X := fun x y z u v w X => appSet hN 4 w
  have hS5 : ∀ (x y z u v a w : AObj) X, (P ++ x :: y :: z :: u :: v :: a :: X).set (N + 5) w = P ++ x :: y :: z :: u :: v :: w :: X := fun x y z u v a w X => appSet hN 5 w
  have lg : ∀ (X : List Nat) (k : Nat), (List.map lnO P ++ X)[N + k]? = X[k]? := fun X k => by rw [List.getElem?_append_right (by simp; omega)]; simp [hN]
  have hl0 : ∀ (x : Nat) X, (List.map lnO P ++ x :: X)[N]? = some x := fun x X => lg _ 0
  have hl1 : ∀ (x y : Nat) X, (List.map lnO P ++ x :: y :: X)[N + 1]? = some y := fun x y X => lg _ 1
  have hl2 : ∀ (x y z : Nat) X, (List.map lnO P ++ x :: y :: z :: X)[N + 2]? = some z := fun x y z X => lg _ 2
  have hl3 : ∀ (x y z u : Nat) X, (List.map lnO P ++ x :: y :: z :: u :: X)[N + 3]? = some u := fun x y z u X => lg _ 3
  have hl4 : ∀ (x y z u v : Nat) X, (List.map lnO P ++ x :: y :: z :: u :: v :: X)[N + 4]? = some v := fun x y z u v X => lg _ 4
  have hl5 : ∀ (x y z u v a : Nat) X, (List.map lnO P ++ x :: y :: z :: u :: v :: a :: X)[N + 5]? = some a := fun x y z u v a X => lg _ 5
  have hl6 : ∀ (x y z u v a b : Nat) X, (List.map lnO P ++ x :: y :: z :: u :: v :: a :: b :: X)[N + 6]? = some b := fun x y z u v a b X => lg _ 6
  have kN0 := fun x X h => gq (hN0 x X) h
  have kN1 := fun x y X h => gq (hN1 x y X) h
  have kN2 := fun x y z X h => gq (hN2 x y z X) h
  have kN3 := fun x y z u X h => gq (hN3 x y z u X) h
  have kN4 := fun x y z u v X h => gq (hN4 x y z u v X) h
  have kN5 := fun x y z u v a X h => gq (hN5 x y z u v a X) h
  have kN6 := fun x y z u v a b X h => gq (hN6 x y z u v a b X) h
  have kl0 := fun x X h => gq (hl0 x X) h
  have kl1 := fun x y X h => gq (hl1 x y X) h
  have kl2 := fun x y z X h => gq (hl2 x y z X) h
  have kl3 := fun x y z u X h => gq (hl3 x y z u X) h
  have kl4 := fun x y z u v X h => gq (hl4 x y z u v X) h
  have kl5 := fun x y z u v a X h => gq (hl5 x y z u v a X) h
  have kl6 := fun x y z u v a b X h => gq (hl6 x y z u v a b X) h
  simp (maxSteps := 1000000) [hho, noHo, slotsOf, hjn, hat, e0, hta, hN, hN0, hN1, hN2, hS0, hS1, hS2, hl0, hl1, hl2, kN0, kN1, kN2, kl0, kl1, kl2, frz_no, List.map_append, List.append_assoc, -List.reduceReplicate]
  refine draw_cut (fun _ : Unit => ⟨slotsOf 58 (ddT s j ++ [(5, .ptr N 0 4), (6, .ptr (N + 2) 0 4)]), P ++ [.o .box (tabA t), rowL t.cols, .o .box [.c (.int .i64 t.id), .c (.string t.name), .sl (N + 1) 10 0 t.cols.length (t.cols.length * 10), .c (.slice none 0 0)]]⟩) (fun _ => True) ?_ ?_
  ·intro _ _
   simp only [ddT, List.cons_append, List.nil_append]
   simp (maxSteps := 1000000) [hho, noHo, slotsOf, hN, hN0, hN1, hN2, hS0, hS1, hS2, hl0, hl1, hl2, kN0, kN1, kN2, kl0, kl1, kl2, frz_no, List.map_append, List.append_assoc, hta, -List.reduceReplicate]
   refine loop_k mixed (ddIn s P N t j) (fun i => t.idxs.length - i) (fun i => i ≤ t.idxs.length) 0 (Nat.zero_le _) ?_ ?_
   ·refine Wk.trans (wk_virtC (N + 2) 3 49 5 (hN2 _ _ _ _) rfl) ?_
    exact wk_eq (by simp [hE, lens]) (by simp [ddIn, hS2, hN, idxsA, hta, rowL]) (by simp [livH, livO, AV.livL, AV.liv, wkL, wkV, List.range', ddIn, ddT, slotsOf])
   rintro i hi
   by_cases hik : i < t.idxs.length
   ·obtain ⟨x, hxe⟩ : ∃ x, x = t.idxs[i] := ⟨_, rfl⟩
    have hat2 := idxsA_at t.idxs i hik
    rw [← hxe] at hat2
    have hxc := b3 x (by rw [hxe]; exact List.getElem_mem hik)
    have hi5 : i * 5 + 5 ≤ t.idxs.length * 5 := by omega
    have ewi : IntKind.i64.wrap ((i : Int) + 1) = (i + 1 : Nat) := by rw [IntWalk.i64_in _ (by omega)]; rfl
    have hdd := fun T T' hT b0 b1 b2 b4 b6 h0 h1 h2 => dd_in (E := E) (T := T) (T' := T') hho (by rw [hE]; rfl) hN (by rw [hP]; exact ddHead_liv s j _ fun k hk => by rw [List.mem_range'_1] at hk; omega) t.idxs i hik hxe (by omega) hT b0 b1 b2 b4 b6 h0 h1 h2
    obtain ⟨A, hA⟩ : ∃ A, A = idxsA (t.idxs.take i) := ⟨_, rfl⟩
    have hAl : A.length = i * 5 := by rw [hA]; simp; omega
    simp only [← hA] at hdd
    have hAd : ∀ z ∈ A, isD z = true := by rw [hA]; exact (idxsA_all _).2 trivial
    simp only [ddIn, ddT, ← hA, List.cons_append, List.nil_append]
    clear hA
    simp (maxSteps := 1000000) [hho, noHo, slotsOf, hik, hat2, hi5, idxA, hta, hN, hN0, hN1, hN2, hN3, hN4, hN5, hN6, hS0, hS1, hS2, hS3, hS4, hS5, hl0, hl1, hl2, hl3, hl4, hl5, hl6, kN0, kN1, kN2, kN3, kN4, kN5, kN6, kl0, kl1, kl2, kl3, kl4, kl5, kl6, frz_no, List.map_append, List.append_assoc, hAl, lnO, -List.reduceReplicate]
    refine ⟨by omega, by omega, round_next (i + 1) (by omega) (by omega) ?_⟩
    refine Wk.trans (wk_eq (s' := ⟨(ddIn s P N t j (i + 1)).t, P ++ [.o .box (tabA t), rowL t.cols, .o .box [.c (.int .i64 t.id), .c (.string t.name), .sl (N + 1) 10 0 t.cols.length (t.cols.length * 10), .sl (N + 3) 5 0 (i + 1) ((i + 1) * 5)], .o (.row 49 5) (A ++ [.c (.int .i64 x.id), .c (.string x.name), .sl (N + 5) 1 0 x.cols.length x.cols.length, .c (.bool x.uniq), .c (.int .i64 x.st)]), .o .box [.c (.int .i64 x.id), .c (.string x.name), .sl (N + 5) 1 0 x.cols.length x.cols.length, .c (.bool x.uniq), .c (.int .i64 x.st)], .o (.row 3 1) (intsA x.cols), .o (.row 49 5) [.c (.int .i64 x.id), .c (.string x.name), .sl (N + 5) 1 0 x.cols.length x.cols.length, .c (.bool x.uniq), .c (.int .i64 x.st)]]⟩) (by simp [hE, lens]) (by simp [Nat.add_mul, hta]) (by simp [livH, livO, AV.livL, AV.liv, wkL, wkV, List.range', ddIn, ddT, slotsOf, ewi])) (hdd _ _ ?_ _ _ _ _ _ ?_ ?_ ?_)
    ·simp [livH, livO, AV.livL, AV.liv, wkL, wkV, List.range', ddIn, ddT, slotsOf]
    ·simp only [livO]; exact isD_livL _ _ ((tabA_all t).2 trivial)
    ·simp only [rowL, livO, Bool.or_eq_true]; exact .inl (List.all_eq_true.2 ((colsA_all _).2 trivial))
    ·simp [livO, AV.livL, AV.liv]
   ·obtain rfl : i = t.idxs.length := by omega
    have hP2 : ∀ X, (P ++ X)[2]? = some (ddOut s j) := fun X => by rw [hP]; rfl
    have hP3 : ∀ X, (P ++ X)[3]? = some (.o (.row 28 4) (livsA 4 (s.tabs.take j))) := fun X => by rw [hP]; rfl
    have hq2 : ∀ X, (List.map lnO P ++ X)[2]? = some 3 := fun X => by rw [hP]; rfl
    have hq3 : ∀ X, (List.map lnO P ++ X)[3]? = some (j * 4) := fun X => by rw [hP]; simp [ddHead, lnO]; omega
    have hPm : P.length = N := hN
    simp only [ddOut] at hP2
    obtain ⟨L, hL⟩ : ∃ L, L = livsA 4 (s.tabs.take j) := ⟨_, rfl⟩
    have hLl : L.length = j * 4 := by rw [hL]; simp; omega
    rw [← hL] at hP3
    have kP2 := fun X h => gq (hP2 X) h
    have kP3 := fun X h => gq (hP3 X) h
    have kq2 := fun X h => gq (hq2 X) h
    have kq3 := fun X h => gq (hq3 X) h
    simp only [ddIn, ddT, List.cons_append, List.nil_append]
    rw [List.take_length]
    simp (maxSteps := 1000000) [hho, noHo, slotsOf, hta, hN, hN0, hN1, hN2, hN3, hN4, hS0, hS1, hS2, hS3, hS4, hl0, hl1, hl2, hl3, hl4, kN0, kN1, kN2, kN3, kN4, kl0, kl1, kl2, kl3, kl4, frz_no, List.map_append, List.append_assoc, hP2, hP3, hq2, hq3, kP2, kP3, kq2, kq3, hLl, lnO, -List.reduceReplicate]
    refine ⟨by omega, round_next (j + 1) (by omega) (by omega) ?_⟩
    have hdr := dd_round s j hjn (E := E) hho (by rw [hE]; rfl) ht hNN
    rw [← hP, ← hL] at hdr
    refine Wk.trans (wk_eq (s' := ⟨(ddSt s (j + 1)).t, ((P ++ [.o .box (tabA t), rowL t.cols, .o .box [.c (.int .i64 t.id), .c (.string t.name), .sl (N + 1) 10 0 t.cols.length (t.cols.length * 10), .sl (N + 3) 5 0 t.idxs.length (t.idxs.length * 5)], rowX t.idxs, .o (.row 28 4) [.c (.int .i64 t.id), .c (.string t.name), .sl (N + 1) 10 0 t.cols.length (t.cols.length * 10), .sl (N + 3) 5 0 t.idxs.length (t.idxs.length * 5)]]).set 3 (.o (.row 28 4) (L ++ [.c (.int .i64 t.id), .c (.string t.name), .sl (N + 1) 10 0 t.cols.length (t.cols.length * 10), .sl (N + 3) 5 0 t.idxs.length (t.idxs.length * 5)]))).set 2 (ddOut s (j + 1))⟩) (by simp [hE, lens]) (by simp [hta, ddOut, rowX, Nat.add_mul]) (by simp [livH, livO, AV.livL, AV.liv, wkL, wkV, List.range', ddSt, ddT, slotsOf, ew])) (hdr _ _ _)
  ·refine draw_k hho (.take 0 (.take 1 (.take 2 (.take 3 (.take 5 (.take 6 (.alt 4 (.alt 7 (.take 8 (.alt 9 (.alt 10 (.done) (.nil)) (.nil))) (.alt 9 (.alt 7 (.take 8 (.alt 10 (.done) (.nil))) (.nil)) (.nil))) (.alt 9 (.alt 4 (.alt 7 (.take 8 (.alt 10 (.done) (.nil))) (.nil)) (.nil)) (.nil))))))))) [N] [] (by decide +kernel) (by simp [hN]) ?_
   simp (maxSteps := 1000000) [hho, noHo, hN, hN0, hN1, hN2, hS0, hS1, hS2, hl0, hl1, hl2, kN0, kN1, kN2, kl0, kl1, kl2, frz_no, List.map_append, List.append_assoc, roOf, holdOf, wrOf, altK, heldOk, Region.binds, -List.reduceReplicate]
   have hgoal : ∀ (T : List AV), wkL [] T (slotsOf 58 (ddT s j ++ [(5, .ptr N 0 4), (6, .ptr (N + 2) 0 4)])) → dcutK E (fun _ : Unit => ⟨slotsOf 58 (ddT s j ++ [(5, .ptr N 0 4), (6, .ptr (N + 2) 0 4)]), P ++ [.o .box (tabA t), rowL t.cols, .o .box [.c (.int .i64 t.id), .c (.string t.name), .sl (N + 1) 10 0 t.cols.length (t.cols.length * 10), .c (.slice none 0 0)]]⟩) (fun _ => True) ⟨T, P ++ [.o .box (tabA t), rowL t.cols, .o .box [.c (.int .i64 t.id), .c (.string t.name), .sl (N + 1) 10 0 t.cols.length (t.cols.length * 10), .c (.slice none 0 0)]]⟩ := fun T hT => dcut_to () trivial (wk_eq (by simp [hE, lens]) rfl hT)
   refine ⟨fun E1 => ⟨fun E2 => ⟨by omega, fun E3 E4 => hgoal _ (by simp [livH, livO, AV.livL, AV.liv, wkL, wkV, List.range', ddT, slotsOf])⟩, fun E2 E3 => ⟨by omega, fun E4 => hgoal _ (by simp [livH, livO, AV.livL, AV.liv, wkL, wkV, List.range', ddT, slotsOf])⟩⟩, fun E1 E2 E3 => ⟨by omega, fun E4 => ?_⟩⟩
   refine dcut_to () trivial ?_
   have hsw := wk_swap (E := E) hho (by rw [hE]; rfl) N (A := P) (b := .o .box (tabA t)) (x := .o .box [.c (.int .i64 t.id), .c (.string t.name), .sl (N + 1) 10 0 t.cols.length (t.cols.length * 10), .c (.slice none 0 0)]) (y := rowL t.cols) (T' := slotsOf 58 (ddT s j ++ [(5, .ptr N 0 4), (6, .ptr (N + 2) 0 4)])) hN (by rw [hP]; exact ddHead_reb s j _ hj fun k hk => by rw [← hNN] at hk; simp only [swF]; rw [if_neg (by omega), if_neg (by omega)]) (by rw [rebO_eq, rebL_isD' ((tabA_all t).2 trivial)]) rfl
   refine Wk.trans (wk_eq (s' := ⟨_, _⟩) (by simp [hE, lens]) ?_ ?_) hsw
   ·rw [rowL_reb, rebO_eq]
    simp [AV.rebL, AV.reb, swF, hta, rowL]
   ·have f0 : swF N 0 = 0 := by simp only [swF]; rw [if_neg (by omega), if_neg (by omega)]
    have f1 : swF N 1 = 1 := by simp only [swF]; rw [if_neg (by omega), if_neg (by omega)]
    have f2 : swF N 2 = 2 := by simp only [swF]; rw [if_neg (by omega), if_neg (by omega)]
    have f3 : swF N N = N := by simp only [swF]; rw [if_neg (by omega), if_neg (by omega)]
    have f4 : swF N (N + 2) = N + 1 := by simp only [swF]; rw [if_neg (by omega)]; simp
    simp [livH, livO, AV.livL, AV.liv, wkL, wkV, List.range', ddT, slotsOf, anyS, AV.rebL, AV.reb, f0, f1, f2, f3, f4]
 ·obtain rfl : j = s.tabs.length := by omega
  simp only [ddSt, ddHead, ddT]
  rw [List.take_length]
  simp (maxSteps := 1000000) [hho, noHo, slotsOf, ddOut, ddRes, -List.reduceReplicate]
  refine Ret.wkS (r2 := .agg [.c (.int .i64 (s.ver + 1)), .c (.int .i64 s.next), .sl 0 4 0 s.tabs.length (s.tabs.length * 4)]) (h2 := heapS 0 s.tabs) (fun E h1 h2 h3 => ?_) (Ret.same ⟨rfl, rfl⟩)
  have hw := wk_front (E := E) 3 (D := [.o .box (schA s), .o .box [.c (.int .i64 (s.ver + 1)), .c (.int .i64 s.next), .sl 3 4 0 s.tabs.length (s.tabs.length * 4)], .o .box [.c (.int .i64 (s.ver + 1)), .c (.int .i64 s.next), .sl 3 4 0 s.tabs.length (s.tabs.length * 4)]]) (h := heapS 0 s.tabs)
   (T := [.agg [.c (.int .i64 (s.ver + 1)), .c (.int .i64 s.next), .sl 3 4 0 s.tabs.length (s.tabs.length * 4)]]) (T' := [.agg [.c (.int .i64 (s.ver + 1)), .c (.int .i64 s.next), .sl 0 4 0 s.tabs.length (s.tabs.length * 4)]]) h2 (fun k hk hs => by rw [h3] at hs; cases hs) rfl (by simp [AV.rebL, AV.reb])
  rw [heapS_shift] at hw
  exact hw
end Go.Proofs.YthgoocdldnkogaaGreatDoor
