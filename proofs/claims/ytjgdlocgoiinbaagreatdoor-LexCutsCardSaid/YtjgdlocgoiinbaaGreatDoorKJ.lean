import Derived.Test.YtjgdlocgoiinbaaGreatDoorKI
import Derived.Test.YtjgdlocgoiinbaaGreatDoorKGm
namespace Go.Proofs.YtjgdlocgoiinbaaGreatDoor
set_option linter.unusedVariables false
set_option linter.unusedSimpArgs false
open Go.RowKit Go.Shelf Go.Lib
attribute [local simp] isCut_nil isCut_region isCut_seq isCut_block isCut_loop isCut_cond isCut_skip isCut_exit isCut_ret isCut_range swapK putK altK condK_bool pickP_bool stepP stepO onPure_some onPure_none onImpl_some onImpl_none stepC onGP_some onGP_none onGV_some condG mkG onIt_it nextP_ptr takeP_eq takeV_some takeV_none takeU_some takeU_none takeQ takeW_some takeN_none takeN_some takeG_some takeO_some altO_some pureV binV2 eqF eqOp ovlV ovl2 rowAt capV binV intBin strBin isSh shV fldV ixV sliceV slice3V loadAV nilV lenV callV unV convV viewS cellsH loadV fldCut AV.ung AV.ungs AV.gc AV.cells AS.ev AS.put anyS gcsV gcO lens lnO gV guardV retK RetP_eq resV oneV anyRo loIx hiIx implO callP_clo evL gcsL clearV storeAV AS.push AS.setO appV appZ shortS copyV buildV partsV fillV srcV fzO okV isCell_c isCell_ptr isCell_sl isCell_fs isCell_fp isCell_clo rowZ_one rowZ_zero rowZ_2 rowZ_3 rowZ_4 rowZ_5 rowZ_6 rowZ_7 rowZ_8 rowZ_9 rowZ_10 rowZ_11 rowZ_12 noHo Value.oneCell' max2V min2V lookV updV lenM msAt afterH putBack frzFrom frzO rebO backIx nilEq_sl nilEq_fs nilEq_ifn nilEq_ifh ifOp_eql ifOp_neq isLit nilOp_eql nilOp_neq AV.reb AV.rebL
attribute [local simp ↓] runK_skip runK_region runK_draw runK_seq runK_cut runK_cond runK_block runK_loop runK_exit runK_label runK_goto runK_ret runK_range contK_nil contK_seq contK_seq_ret contK_seq_exit contK_seq_goto contK_block contK_block_ret contK_block_goto contK_block_exit runO_nil runO_cons roundK_exit roundK_ret roundK_goto exitK_ret cutK_ret cutK_exit runE_done runE_nil runE_take runE_alt condG_true condG_false
set_option maxRecDepth 10000
theorem r17_ok {s : ByteArray} (hs : s.size ≤ 2000) {ts : List TokS} (h : lexG 0 s.data.toList = (some ts, 0)) : ACalls Tryz.prog 40 [.c (.string s)] [] (fun _ => false) (fun r h' => r = .tup [slT7 0 ts.length, .c (.int .i64 0), .c (.bool true)] ∧ h' = [rowT ts]) :=
  (r17Lex_w s hs).weak fun r h' hp => by
    rcases hp with ⟨us, e1, e2, e3⟩ | ⟨p, e1, _⟩
    · rw [h] at e1; injection e1 with e1; injection e1 with e1; subst e1; exact ⟨e2, e3⟩
    · rw [h] at e1; cases e1
theorem r17_bad {s : ByteArray} (hs : s.size ≤ 2000) {p : Nat} (h : lexG 0 s.data.toList = (none, p)) : ACalls Tryz.prog 40 [.c (.string s)] [] (fun _ => false) (fun r h' => r = .tup [.c (.slice none 0 0), .c (.int .i64 (p : Nat)), .c (.bool false)] ∧ h' = []) :=
  (r17Lex_w s hs).weak fun r h' hp => by
    rcases hp with ⟨us, e1, _⟩ | ⟨q, e1, e2, e3⟩
    · rw [h] at e1; cases e1
    · rw [h] at e1; injection e1 with _ e1; subst e1; exact ⟨e2, e3⟩
theorem r17_long {s : ByteArray} (hs : 2000 < s.size) : ACalls Tryz.prog 40 [.c (.string s)] [] (fun _ => false) (fun r h' => r = .tup [.c (.slice none 0 0), .c (.int .i64 2000), .c (.bool false)] ∧ h' = []) := by
  refine acalls mixed Tryz.func40 rfl Tryz.ntmps40 rfl fun E hE hst hho => ?_
  have h0 : (2000 : Int) < s.size := by omega
  simp (maxSteps := 1000000) [hho, noHo, h0, hs, -List.reduceReplicate]
  exact Ret.drop (by rfl) ⟨rfl, rfl⟩
set_option maxHeartbeats 8000000 in
theorem lexcuts_w (s : ByteArray) (hs : s.size ≤ maxLen) : ACalls Tryz.prog 10 [.c (.string s)] [] (fun _ => false) (fun r h' => r = .c (.bool true)) := by
  refine acalls mixed Tryz.func10 rfl Tryz.ntmps10 rfl fun E hE hst hho => ?_
  have ls : s.data.toList.length = s.size := rfl
  have c0 := l17first_w
  have c9 := same_nil17
  by_cases hl : 5000 < s.size
  · have hli : (5000 : Int) < s.size := by omega
    simp (maxSteps := 1000000) [hho, noHo, -List.reduceReplicate]
    refine call_x [] (c0) rfl rfl ⟨rfl, rfl⟩ hho (by simp) (by decide) (by simp) (by simp) ?_
    simp (maxSteps := 1000000) [hho, noHo, hl, hli, undef, onGP_none, condG_false, -List.reduceReplicate]
    exact Ret.drop (by rfl) rfl
  have hli : ¬ (5000 : Int) < s.size := by omega
  by_cases h2 : 2000 < s.size
  · have c1 := lex_long h2
    have c2 := r17_long h2
    simp (maxSteps := 1000000) [hho, noHo, -List.reduceReplicate]
    refine call_x [] (c0) rfl rfl ⟨rfl, rfl⟩ hho (by simp) (by decide) (by simp) (by simp) ?_
    simp (maxSteps := 1000000) [hho, noHo, hl, hli, undef, onGP_none, condG_false, -List.reduceReplicate]
    refine call_x [] (c1) rfl rfl ⟨rfl, rfl⟩ hho (by simp) (by decide) (by simp) (by simp) ?_
    simp (maxSteps := 1000000) [hho, noHo, undef, onGP_none, condG_false, -List.reduceReplicate]
    refine call_x [] (c2) rfl rfl ⟨rfl, rfl⟩ hho (by simp) (by decide) (by simp) (by simp) ?_
    simp (maxSteps := 1000000) [hho, noHo, undef, onGP_none, condG_false, -List.reduceReplicate]
    refine call_x [] (c9) rfl rfl ⟨rfl, rfl⟩ hho (by simp) (by decide) (by simp) (by simp) ?_
    simp (maxSteps := 1000000) [hho, noHo, undef, onGP_none, condG_false, -List.reduceReplicate]
    exact Ret.drop (by rfl) rfl
  cases hlx : lexG 0 s.data.toList with
  | mk o x =>
  cases o with
  | none =>
    have c1 := lex_bad (s := s) (by omega) hlx
    have c2 := r17_bad (s := s) (by omega) hlx
    simp (maxSteps := 1000000) [hho, noHo, -List.reduceReplicate]
    refine call_x [] (c0) rfl rfl ⟨rfl, rfl⟩ hho (by simp) (by decide) (by simp) (by simp) ?_
    simp (maxSteps := 1000000) [hho, noHo, hl, hli, undef, onGP_none, condG_false, -List.reduceReplicate]
    refine call_x [] (c1) rfl rfl ⟨rfl, rfl⟩ hho (by simp) (by decide) (by simp) (by simp) ?_
    simp (maxSteps := 1000000) [hho, noHo, undef, onGP_none, condG_false, -List.reduceReplicate]
    refine call_x [] (c2) rfl rfl ⟨rfl, rfl⟩ hho (by simp) (by decide) (by simp) (by simp) ?_
    simp (maxSteps := 1000000) [hho, noHo, undef, onGP_none, condG_false, -List.reduceReplicate]
    refine call_x [] (c9) rfl rfl ⟨rfl, rfl⟩ hho (by simp) (by decide) (by simp) (by simp) ?_
    simp (maxSteps := 1000000) [hho, noHo, undef, onGP_none, condG_false, -List.reduceReplicate]
    exact Ret.drop (by rfl) rfl
  | some ts =>
  obtain rfl := lexG_x (m := s.data.toList.length) (Nat.le_refl _) hlx
  have c1 := lex_ok (s := s) (by omega) hlx
  have c2 := r17_ok (s := s) (by omega) hlx
  have hlen := lex_len hlx
  rw [ls] at hlen
  have c3 := same_w17 ts (by omega)
  have hgo : (toksA ts).length = ts.length * 7 := toksA_length ts
  have htk : List.take (ts.length * 7) (toksA ts) = toksA ts := List.take_of_length_le (by omega)
  simp (maxSteps := 1000000) [hho, noHo, -List.reduceReplicate]
  refine call_x [] (c0) rfl rfl ⟨rfl, rfl⟩ hho (by simp) (by decide) (by simp) (by simp) ?_
  simp (maxSteps := 1000000) [hho, noHo, hl, hli, undef, onGP_none, condG_false, -List.reduceReplicate]
  refine call_x [] (c1) rfl rfl ⟨rfl, rfl⟩ hho (by simp) (by decide) (by simp) (by simp) ?_
  simp (maxSteps := 1000000) [hho, noHo, undef, onGP_none, condG_false, -List.reduceReplicate]
  refine call_x [] (c2) rfl rfl ⟨rfl, rfl⟩ hho (by simp) (by decide) (by simp) (by simp) ?_
  simp (maxSteps := 1000000) [hho, noHo, slT7, rowT, undef, onGP_none, condG_false, -List.reduceReplicate]
  refine call_f [] (fun k => decide (k < 2)) (c3) rfl rfl ⟨?_, rfl⟩ hho (by simp) (by decide) (by simp) ?_ (by simp) ?_
  · simp [htk]
  · simp [isD_c, maxLen, htk]
    omega
  simp (maxSteps := 1000000) [hho, noHo, undef, onGP_none, condG_false, -List.reduceReplicate]
  exact Ret.drop (by rfl) rfl
theorem toksA_at1 (l : List TokS) (j : Nat) (hj : j < l.length) : (toksA l)[j * 7 + 1]? = some (.c (.int .i64 l[j].at_)) := by
  have h := toksA_at l j hj
  have h2 : (List.take 7 (List.drop (j * 7) (toksA l)))[1]? = (tokA l[j])[1]? := by rw [h]
  rw [List.getElem?_take, if_pos (by decide), List.getElem?_drop] at h2
  exact h2
def setAt (t : TokS) (v : Int) : TokS := ⟨t.k, v, t.t, t.v⟩
theorem toksA_set1 (l : List TokS) (j : Nat) (hj : j < l.length) (v : Int) : List.take (j * 7 + 1) (toksA l) ++ .c (.int .i64 v) :: List.drop (j * 7 + 2) (toksA l) = toksA (l.set j (setAt l[j] v)) := by
  have h := flat_set tokA 7 (by simp) l j hj (setAt l[j] v)
  unfold toksA
  rw [← h]
  have ht := toksA_at l j hj
  have h0 : (toksA l).drop (j * 7) = tokA l[j] ++ (toksA l).drop (j * 7 + 7) := by
    conv => lhs; rw [← List.take_append_drop 7 ((toksA l).drop (j * 7)), ht, List.drop_drop]
  have e1 : List.take (j * 7 + 1) (toksA l) = List.take (j * 7) (toksA l) ++ [.c (.int .i64 l[j].k)] := by
    rw [List.take_add, h0]; rfl
  have e2 : List.drop (j * 7 + 2) (toksA l) = (tokA l[j]).drop 2 ++ (toksA l).drop (j * 7 + 7) := by
    rw [← List.drop_drop, h0]; rfl
  show List.take (j * 7 + 1) (toksA l) ++ .c (.int .i64 v) :: List.drop (j * 7 + 2) (toksA l) = List.take (j * 7) (toksA l) ++ tokA (setAt l[j] v) ++ List.drop (j * 7 + 7) (toksA l)
  rw [e1, e2]
  simp [tokA, setAt]
def mixT (vs us : List TokS) (j : Nat) : List TokS := vs.take j ++ us.drop j
theorem mixT_len {vs us : List TokS} (h : vs.length = us.length) {j : Nat} (hj : j ≤ us.length) : (mixT vs us j).length = us.length := by
  unfold mixT
  rw [List.length_append, List.length_take, List.length_drop]; omega
theorem mixT_get {vs us : List TokS} (h : vs.length = us.length) {j : Nat} (hj : j < us.length) (hm : j < (mixT vs us j).length) : (mixT vs us j)[j] = us[j] := by
  have : (mixT vs us j)[j]? = us[j]? := by
    unfold mixT
    rw [List.getElem?_append_right (by rw [List.length_take]; omega), List.length_take, Nat.min_eq_left (by omega), Nat.sub_self, List.getElem?_drop, Nat.add_zero]
  rw [List.getElem?_eq_getElem hm, List.getElem?_eq_getElem hj] at this
  exact Option.some.inj this
theorem mixT_set {vs us : List TokS} (h : vs.length = us.length) {j : Nat} (hj : j < us.length) (hj2 : j < vs.length) : (mixT vs us j).set j vs[j] = mixT vs us (j + 1) := by
  unfold mixT
  rw [List.set_append_right _ _ (by rw [List.length_take]; omega), List.length_take, Nat.min_eq_left (by omega), Nat.sub_self, List.drop_eq_getElem_cons hj, List.set_cons_zero, List.take_succ_eq_append_getElem hj2, List.append_assoc]
  rfl
@[simp] theorem toksA_cell (l : List TokS) : (∀ x ∈ toksA l, isCell x = true) ↔ True := iff_true_intro <| by
  intro x hx
  obtain ⟨t, _, hx⟩ := List.mem_flatMap.1 hx
  simp only [tokA, List.mem_cons, List.not_mem_nil, or_false] at hx
  rcases hx with rfl | rfl | rfl | rfl | rfl | rfl | rfl <;> rfl
theorem toksA_app (a b : List TokS) : toksA (a ++ b) = toksA a ++ toksA b := by simp [toksA]
set_option maxHeartbeats 8000000 in
theorem lexjoins_w (a : ByteArray) (ha : a.size ≤ maxLen) (b : ByteArray) (hb : b.size ≤ maxLen) : ACalls Tryz.prog 12 [.c (.string a), .c (.string b)] [] (fun _ => false) (fun r h' => r = .c (.bool true)) := by
  refine acalls mixed Tryz.func12 rfl Tryz.ntmps12 rfl fun E hE hst hho => ?_
  have la : a.data.toList.length = a.size := rfl
  have lb : b.data.toList.length = b.size := rfl
  have c0 := l17first_w
  by_cases hl : 900 < max (a.size : Int) b.size
  · simp (maxSteps := 1000000) [hho, noHo, -List.reduceReplicate]
    refine call_x [] (c0) rfl rfl ⟨rfl, rfl⟩ hho (by simp) (by decide) (by simp) (by simp) ?_
    simp (maxSteps := 1000000) [hho, noHo, hl, undef, onGP_none, condG_false, -List.reduceReplicate]
    exact Ret.drop (by rfl) rfl
  have sa : a.size ≤ 900 := by omega
  have sb : b.size ≤ 900 := by omega
  have hab : a ++ (⟨#[10]⟩ : ByteArray) ++ b = baL (a.data.toList ++ 10 :: b.data.toList) := by
    have e1 : a = baL a.data.toList := rfl
    have e2 : b = baL b.data.toList := rfl
    conv => lhs; rw [e1, e2]
    rw [ba_app2, ba_app]
    simp
  have hsz : (a ++ (⟨#[10]⟩ : ByteArray)).size = a.size + 1 := by simp [ByteArray.size_append]
  have hjs : (baL (a.data.toList ++ 10 :: b.data.toList)).size = a.size + (b.size + 1) := by rw [ba_size, List.length_append, List.length_cons]; rfl
  have cj := lex_w (baL (a.data.toList ++ 10 :: b.data.toList)) (by rw [hjs]; omega)
  rw [toL_ba] at cj
  -- where one of them is no text of tokens
  have bad : (∃ p, lexG 0 a.data.toList = (none, p)) ∨ (∃ p, lexG 0 b.data.toList = (none, p)) ∨ ∃ ts us, lexG 0 a.data.toList = (some ts, 0) ∧ lexG 0 b.data.toList = (some us, 0) := by
    cases h1 : lexG 0 a.data.toList with
    | mk o x =>
      cases o with
      | none => exact .inl ⟨x, rfl⟩
      | some ts =>
        obtain rfl := lexG_x (m := a.data.toList.length) (Nat.le_refl _) h1
        cases h2 : lexG 0 b.data.toList with
        | mk o x =>
          cases o with
          | none => exact .inr (.inl ⟨x, rfl⟩)
          | some us =>
            obtain rfl := lexG_x (m := b.data.toList.length) (Nat.le_refl _) h2
            exact .inr (.inr ⟨ts, us, rfl, rfl⟩)
  have cb := lex_w b (by omega)
  rcases bad with ⟨p, h1⟩ | ⟨p, h2⟩ | ⟨ts, us, h1, h2⟩
  · have c1 := lex_bad (s := a) (by omega) h1
    cases hy : lexG 0 b.data.toList with
    | mk oy y =>
    cases hz : lexG 0 (a.data.toList ++ 10 :: b.data.toList) with
    | mk oz z =>
    cases oy with
    | none =>
      have c2 := lex_bad (s := b) (by omega) hy
      cases oz with
      | none =>
        have c3 := lex_bad (s := baL (a.data.toList ++ 10 :: b.data.toList)) (by rw [hjs]; omega) hz
        simp (maxSteps := 1000000) [hho, noHo, -List.reduceReplicate]
        refine call_x [] (c0) rfl rfl ⟨rfl, rfl⟩ hho (by simp) (by decide) (by simp) (by simp) ?_
        simp (maxSteps := 1000000) [hho, noHo, hl, undef, onGP_none, condG_false, -List.reduceReplicate]
        refine call_x [] (c1) rfl rfl ⟨rfl, rfl⟩ hho (by simp) (by decide) (by simp) (by simp) ?_
        simp (maxSteps := 1000000) [hho, noHo, undef, onGP_none, condG_false, -List.reduceReplicate]
        refine call_x [] (c2) rfl rfl ⟨rfl, rfl⟩ hho (by simp) (by decide) (by simp) (by simp) ?_
        simp (maxSteps := 1000000) [hho, noHo, hsz, hab, undef, onGP_none, condG_false, -List.reduceReplicate]
        repeat (with_reducible refine And.intro (by omega) ?_)
        refine call_x [] (c3) rfl rfl ⟨rfl, rfl⟩ hho (by simp) (by decide) (by simp) (by simp) ?_
        simp (maxSteps := 1000000) [hho, noHo, undef, onGP_none, condG_false, -List.reduceReplicate]
        exact Ret.drop (by rfl) rfl
      | some ws =>
        obtain rfl := lexG_x (m := (a.data.toList ++ 10 :: b.data.toList).length) (Nat.le_refl _) hz
        have c3 := lex_ok (s := baL (a.data.toList ++ 10 :: b.data.toList)) (by rw [hjs]; omega) hz
        simp (maxSteps := 1000000) [hho, noHo, -List.reduceReplicate]
        refine call_x [] (c0) rfl rfl ⟨rfl, rfl⟩ hho (by simp) (by decide) (by simp) (by simp) ?_
        simp (maxSteps := 1000000) [hho, noHo, hl, undef, onGP_none, condG_false, -List.reduceReplicate]
        refine call_x [] (c1) rfl rfl ⟨rfl, rfl⟩ hho (by simp) (by decide) (by simp) (by simp) ?_
        simp (maxSteps := 1000000) [hho, noHo, undef, onGP_none, condG_false, -List.reduceReplicate]
        refine call_x [] (c2) rfl rfl ⟨rfl, rfl⟩ hho (by simp) (by decide) (by simp) (by simp) ?_
        simp (maxSteps := 1000000) [hho, noHo, hsz, hab, undef, onGP_none, condG_false, -List.reduceReplicate]
        repeat (with_reducible refine And.intro (by omega) ?_)
        refine call_x [] (c3) rfl rfl ⟨rfl, rfl⟩ hho (by simp) (by decide) (by simp) (by simp) ?_
        simp (maxSteps := 1000000) [hho, noHo, slT7, rowT, undef, onGP_none, condG_false, -List.reduceReplicate]
        exact Ret.drop (by rfl) rfl
    | some us =>
      obtain rfl := lexG_x (m := b.data.toList.length) (Nat.le_refl _) hy
      have c2 := lex_ok (s := b) (by omega) hy
      cases oz with
      | none =>
        have c3 := lex_bad (s := baL (a.data.toList ++ 10 :: b.data.toList)) (by rw [hjs]; omega) hz
        simp (maxSteps := 1000000) [hho, noHo, -List.reduceReplicate]
        refine call_x [] (c0) rfl rfl ⟨rfl, rfl⟩ hho (by simp) (by decide) (by simp) (by simp) ?_
        simp (maxSteps := 1000000) [hho, noHo, hl, undef, onGP_none, condG_false, -List.reduceReplicate]
        refine call_x [] (c1) rfl rfl ⟨rfl, rfl⟩ hho (by simp) (by decide) (by simp) (by simp) ?_
        simp (maxSteps := 1000000) [hho, noHo, undef, onGP_none, condG_false, -List.reduceReplicate]
        refine call_x [] (c2) rfl rfl ⟨rfl, rfl⟩ hho (by simp) (by decide) (by simp) (by simp) ?_
        simp (maxSteps := 1000000) [hho, noHo, hsz, hab, slT7, rowT, undef, onGP_none, condG_false, -List.reduceReplicate]
        repeat (with_reducible refine And.intro (by omega) ?_)
        refine call_x [] (c3) rfl rfl ⟨rfl, rfl⟩ hho (by simp) (by decide) (by simp) (by simp) ?_
        simp (maxSteps := 1000000) [hho, noHo, undef, onGP_none, condG_false, -List.reduceReplicate]
        exact Ret.drop (by rfl) rfl
      | some ws =>
        obtain rfl := lexG_x (m := (a.data.toList ++ 10 :: b.data.toList).length) (Nat.le_refl _) hz
        have c3 := lex_ok (s := baL (a.data.toList ++ 10 :: b.data.toList)) (by rw [hjs]; omega) hz
        simp (maxSteps := 1000000) [hho, noHo, -List.reduceReplicate]
        refine call_x [] (c0) rfl rfl ⟨rfl, rfl⟩ hho (by simp) (by decide) (by simp) (by simp) ?_
        simp (maxSteps := 1000000) [hho, noHo, hl, undef, onGP_none, condG_false, -List.reduceReplicate]
        refine call_x [] (c1) rfl rfl ⟨rfl, rfl⟩ hho (by simp) (by decide) (by simp) (by simp) ?_
        simp (maxSteps := 1000000) [hho, noHo, undef, onGP_none, condG_false, -List.reduceReplicate]
        refine call_x [] (c2) rfl rfl ⟨rfl, rfl⟩ hho (by simp) (by decide) (by simp) (by simp) ?_
        simp (maxSteps := 1000000) [hho, noHo, hsz, hab, slT7, rowT, undef, onGP_none, condG_false, -List.reduceReplicate]
        repeat (with_reducible refine And.intro (by omega) ?_)
        refine call_x [] (c3) rfl rfl ⟨rfl, rfl⟩ hho (by simp) (by decide) (by simp) (by simp) ?_
        simp (maxSteps := 1000000) [hho, noHo, slT7, rowT, undef, onGP_none, condG_false, -List.reduceReplicate]
        exact Ret.drop (by rfl) rfl
  · have c2 := lex_bad (s := b) (by omega) h2
    cases hy : lexG 0 a.data.toList with
    | mk oy y =>
    cases hz : lexG 0 (a.data.toList ++ 10 :: b.data.toList) with
    | mk oz z =>
    cases oy with
    | none =>
      have c1 := lex_bad (s := a) (by omega) hy
      cases oz with
      | none =>
        have c3 := lex_bad (s := baL (a.data.toList ++ 10 :: b.data.toList)) (by rw [hjs]; omega) hz
        simp (maxSteps := 1000000) [hho, noHo, -List.reduceReplicate]
        refine call_x [] (c0) rfl rfl ⟨rfl, rfl⟩ hho (by simp) (by decide) (by simp) (by simp) ?_
        simp (maxSteps := 1000000) [hho, noHo, hl, undef, onGP_none, condG_false, -List.reduceReplicate]
        refine call_x [] (c1) rfl rfl ⟨rfl, rfl⟩ hho (by simp) (by decide) (by simp) (by simp) ?_
        simp (maxSteps := 1000000) [hho, noHo, undef, onGP_none, condG_false, -List.reduceReplicate]
        refine call_x [] (c2) rfl rfl ⟨rfl, rfl⟩ hho (by simp) (by decide) (by simp) (by simp) ?_
        simp (maxSteps := 1000000) [hho, noHo, hsz, hab, undef, onGP_none, condG_false, -List.reduceReplicate]
        repeat (with_reducible refine And.intro (by omega) ?_)
        refine call_x [] (c3) rfl rfl ⟨rfl, rfl⟩ hho (by simp) (by decide) (by simp) (by simp) ?_
        simp (maxSteps := 1000000) [hho, noHo, undef, onGP_none, condG_false, -List.reduceReplicate]
        exact Ret.drop (by rfl) rfl
      | some ws =>
        obtain rfl := lexG_x (m := (a.data.toList ++ 10 :: b.data.toList).length) (Nat.le_refl _) hz
        have c3 := lex_ok (s := baL (a.data.toList ++ 10 :: b.data.toList)) (by rw [hjs]; omega) hz
        simp (maxSteps := 1000000) [hho, noHo, -List.reduceReplicate]
        refine call_x [] (c0) rfl rfl ⟨rfl, rfl⟩ hho (by simp) (by decide) (by simp) (by simp) ?_
        simp (maxSteps := 1000000) [hho, noHo, hl, undef, onGP_none, condG_false, -List.reduceReplicate]
        refine call_x [] (c1) rfl rfl ⟨rfl, rfl⟩ hho (by simp) (by decide) (by simp) (by simp) ?_
        simp (maxSteps := 1000000) [hho, noHo, undef, onGP_none, condG_false, -List.reduceReplicate]
        refine call_x [] (c2) rfl rfl ⟨rfl, rfl⟩ hho (by simp) (by decide) (by simp) (by simp) ?_
        simp (maxSteps := 1000000) [hho, noHo, hsz, hab, undef, onGP_none, condG_false, -List.reduceReplicate]
        repeat (with_reducible refine And.intro (by omega) ?_)
        refine call_x [] (c3) rfl rfl ⟨rfl, rfl⟩ hho (by simp) (by decide) (by simp) (by simp) ?_
        simp (maxSteps := 1000000) [hho, noHo, slT7, rowT, undef, onGP_none, condG_false, -List.reduceReplicate]
        exact Ret.drop (by rfl) rfl
    | some us =>
      obtain rfl := lexG_x (m := a.data.toList.length) (Nat.le_refl _) hy
      have c1 := lex_ok (s := a) (by omega) hy
      cases oz with
      | none =>
        have c3 := lex_bad (s := baL (a.data.toList ++ 10 :: b.data.toList)) (by rw [hjs]; omega) hz
        simp (maxSteps := 1000000) [hho, noHo, -List.reduceReplicate]
        refine call_x [] (c0) rfl rfl ⟨rfl, rfl⟩ hho (by simp) (by decide) (by simp) (by simp) ?_
        simp (maxSteps := 1000000) [hho, noHo, hl, undef, onGP_none, condG_false, -List.reduceReplicate]
        refine call_x [] (c1) rfl rfl ⟨rfl, rfl⟩ hho (by simp) (by decide) (by simp) (by simp) ?_
        simp (maxSteps := 1000000) [hho, noHo, slT7, rowT, undef, onGP_none, condG_false, -List.reduceReplicate]
        refine call_x [] (c2) rfl rfl ⟨rfl, rfl⟩ hho (by simp) (by decide) (by simp) (by simp) ?_
        simp (maxSteps := 1000000) [hho, noHo, hsz, hab, undef, onGP_none, condG_false, -List.reduceReplicate]
        repeat (with_reducible refine And.intro (by omega) ?_)
        refine call_x [] (c3) rfl rfl ⟨rfl, rfl⟩ hho (by simp) (by decide) (by simp) (by simp) ?_
        simp (maxSteps := 1000000) [hho, noHo, undef, onGP_none, condG_false, -List.reduceReplicate]
        exact Ret.drop (by rfl) rfl
      | some ws =>
        obtain rfl := lexG_x (m := (a.data.toList ++ 10 :: b.data.toList).length) (Nat.le_refl _) hz
        have c3 := lex_ok (s := baL (a.data.toList ++ 10 :: b.data.toList)) (by rw [hjs]; omega) hz
        simp (maxSteps := 1000000) [hho, noHo, -List.reduceReplicate]
        refine call_x [] (c0) rfl rfl ⟨rfl, rfl⟩ hho (by simp) (by decide) (by simp) (by simp) ?_
        simp (maxSteps := 1000000) [hho, noHo, hl, undef, onGP_none, condG_false, -List.reduceReplicate]
        refine call_x [] (c1) rfl rfl ⟨rfl, rfl⟩ hho (by simp) (by decide) (by simp) (by simp) ?_
        simp (maxSteps := 1000000) [hho, noHo, slT7, rowT, undef, onGP_none, condG_false, -List.reduceReplicate]
        refine call_x [] (c2) rfl rfl ⟨rfl, rfl⟩ hho (by simp) (by decide) (by simp) (by simp) ?_
        simp (maxSteps := 1000000) [hho, noHo, hsz, hab, undef, onGP_none, condG_false, -List.reduceReplicate]
        repeat (with_reducible refine And.intro (by omega) ?_)
        refine call_x [] (c3) rfl rfl ⟨rfl, rfl⟩ hho (by simp) (by decide) (by simp) (by simp) ?_
        simp (maxSteps := 1000000) [hho, noHo, slT7, rowT, undef, onGP_none, condG_false, -List.reduceReplicate]
        exact Ret.drop (by rfl) rfl
  have c1 := lex_ok (s := a) (by omega) h1
  have c2 := lex_ok (s := b) (by omega) h2
  have hsh := lexG_shift (a.size + 1) b.data.toList.length b.data.toList 0 (Nat.le_refl _) us h2
  have hj := lexG_join b.data.toList a.data.toList.length a.data.toList 0 (Nat.le_refl _) ts (us.map (shT (a.size + 1))) h1 (by rw [la, show 0 + a.size + 1 = 0 + (a.size + 1) by omega]; exact hsh)
  have c3 := lex_ok (s := baL (a.data.toList ++ 10 :: b.data.toList)) (by rw [hjs]; omega) hj
  have l1 := lex_len h1
  have l2 := lex_len h2
  rw [la] at l1
  rw [lb] at l2
  obtain ⟨vs, hvs⟩ : ∃ v, v = us.map (shT (a.size + 1)) := ⟨_, rfl⟩
  have hvl : vs.length = us.length := by rw [hvs]; simp
  rw [← hvs] at c3
  have hpl := lex_placed h2
  have hat : ∀ (j : Nat) (hj : j < us.length), 0 ≤ us[j].at_ ∧ us[j].at_ ≤ b.size := by
    have key : ∀ (us : List TokS) (e : Nat), Placed b.data.toList e us → ∀ (j : Nat) (hj : j < us.length), 0 ≤ us[j].at_ ∧ us[j].at_ ≤ b.size := by
      intro us
      induction us with
      | nil => intro e _ j hj; simp at hj
      | cons u us ih =>
        intro e ⟨p, q1, _, q3, _, _, _, q7⟩ j hj
        cases j with
        | zero =>
          rw [List.getElem_cons_zero, q1]
          rw [lb] at q3
          omega
        | succ j =>
          rw [List.getElem_cons_succ]
          exact ih _ q7 j (by simpa using hj)
    exact key us 0 hpl
  have t1 : (toksA ts).length = ts.length * 7 := toksA_length ts
  have t3 : (toksA (ts ++ vs)).length = (ts.length + vs.length) * 7 := by rw [toksA_length, List.length_append]
  simp (maxSteps := 1000000) [hho, noHo, -List.reduceReplicate]
  refine call_x [] (c0) rfl rfl ⟨rfl, rfl⟩ hho (by simp) (by decide) (by simp) (by simp) ?_
  simp (maxSteps := 1000000) [hho, noHo, hl, undef, onGP_none, condG_false, -List.reduceReplicate]
  refine call_x [] (c1) rfl rfl ⟨rfl, rfl⟩ hho (by simp) (by decide) (by simp) (by simp) ?_
  simp (maxSteps := 1000000) [hho, noHo, slT7, rowT, undef, onGP_none, condG_false, -List.reduceReplicate]
  refine call_x [] (c2) rfl rfl ⟨rfl, rfl⟩ hho (by simp) (by decide) (by simp) (by simp) ?_
  simp (maxSteps := 1000000) [hho, noHo, hsz, hab, slT7, rowT, undef, onGP_none, condG_false, -List.reduceReplicate]
  repeat (with_reducible refine And.intro (by omega) ?_)
  refine call_x [] (c3) rfl rfl ⟨rfl, rfl⟩ hho (by simp) (by decide) (by simp) (by simp) ?_
  simp (maxSteps := 1000000) [hho, noHo, slT7, rowT, undef, onGP_none, condG_false, -List.reduceReplicate]
  have hlt : (ts ++ vs).length = ts.length + us.length := by rw [List.length_append, hvl]
  have c4 := same_w17 (ts ++ vs) (by omega)
  rw [hlt] at c4
  refine loop_k mixed (fun j : Nat => ⟨slotsOf 76 [(0, .c (.string a)), (5, slT7 0 ts.length), (8, slT7 1 us.length), (11, slT7 2 (ts.length + us.length)), (13, .c (.int .i64 0)), (51, .c (.int .i64 (us.length : Nat))), (52, .c (.int .i64 (j : Nat)))], [rowT ts, rowT (mixT vs us j), rowT (ts ++ vs)]⟩) (fun j => us.length - j) (fun j => j ≤ us.length) 0 (Nat.zero_le _) ?_ ?_
  · exact wk_of 3 0 (by simp) (by simp [hE, lens]) (by simp [rowT, mixT]) (by simp [livH, livO, AV.livL, AV.liv, wkL, wkV, List.range', rowT]) (by simp [livH, livO, AV.livL, AV.liv, wkL, wkV, List.range', slotsOf, slT7, hvl])
  rintro j hj
  have hml := mixT_len hvl hj
  have tm : (toksA (mixT vs us j)).length = us.length * 7 := by rw [toksA_length, hml]
  by_cases g1 : j < us.length
  · have g1i : (j : Int) < us.length := by omega
    have gm : j < (mixT vs us j).length := by omega
    have gv : j < vs.length := by omega
    have ta := toksA_at1 (mixT vs us j) j gm
    rw [mixT_get hvl g1 gm] at ta
    have hse := toksA_set1 (mixT vs us j) j gm (us[j].at_ + ((a.size : Int) + 1))
    rw [mixT_get hvl g1 gm] at hse
    have hvj : setAt us[j] (us[j].at_ + ((a.size : Int) + 1)) = vs[j] := by
      simp only [hvs, List.getElem_map, shT, setAt]
      rfl
    rw [hvj, mixT_set hvl g1 gv] at hse
    have hb2 := hat j g1
    obtain ⟨q, hq⟩ : ∃ q, q = us[j].at_ := ⟨_, rfl⟩
    rw [← hq] at ta hse hb2
    have e1 : IntKind.i64.wrap ((a.size : Int) + 1) = (a.size : Int) + 1 := IntWalk.i64_in _ (by omega)
    have e2 : IntKind.i64.wrap (q + ((a.size : Int) + 1)) = q + ((a.size : Int) + 1) := IntWalk.i64_in _ (by omega)
    have ej : IntKind.i64.wrap ((j : Int) + 1) = (j + 1 : Nat) := by rw [IntWalk.i64_in _ (by omega)]; rfl
    simp (maxSteps := 1000000) [hho, noHo, slotsOf, slT7, rowT, g1, g1i, ta, tm, e1, e2, undef, onGP_none, condG_false, -List.reduceReplicate]
    repeat (with_reducible refine And.intro (by omega) ?_)
    refine round_next (j + 1) (show j + 1 ≤ us.length by omega) (show us.length - (j + 1) < us.length - j by omega) ?_
    exact wk_of 3 0 (by simp) (by simp [hE, lens]) (by simp [rowT, ← hse]) (by simp [livH, livO, AV.livL, AV.liv, wkL, wkV, List.range', rowT]) (by simp [livH, livO, AV.livL, AV.liv, wkL, wkV, List.range', slotsOf, slT7, ej])
  have g1i : ¬ (j : Int) < us.length := by omega
  have hmv : mixT vs us j = vs := by
    unfold mixT
    rw [List.take_of_length_le (by omega), List.drop_eq_nil_of_le (by omega), List.append_nil]
  rw [hmv]
  have tv : (toksA vs).length = us.length * 7 := by rw [toksA_length, hvl]
  have ktv : List.take (us.length * 7) (toksA vs) = toksA vs := List.take_of_length_le (by omega)
  have tz : (toksA (ts ++ vs)).length = (ts.length + us.length) * 7 := by rw [toksA_length, hlt]
  have ktz : List.take ((ts.length + us.length) * 7) (toksA (ts ++ vs)) = toksA (ts ++ vs) := List.take_of_length_le (by omega)
  have hap := toksA_app ts vs
  have tx : List.take ((ts.length + us.length) * 7) (toksA ts ++ toksA vs) = toksA (ts ++ vs) := by rw [← hap]; exact ktz
  simp (maxSteps := 1000000) [hho, noHo, slotsOf, slT7, rowT, g1, g1i, tv, ktv, undef, onGP_none, condG_false, -List.reduceReplicate]
  repeat (with_reducible refine And.intro (by omega) ?_)
  refine call_f [] (fun k => k == 0 || k == 2) (c4) rfl rfl ⟨?_, rfl⟩ hho (by simp) (by decide) (by simp) ?_ (by simp) ?_
  · simp [ktz, tx]
  · simp [isD_c, maxLen, ktz, tx, tv, t1, tz]
    omega
  simp (maxSteps := 1000000) [hho, noHo, undef, onGP_none, condG_false, -List.reduceReplicate]
  exact Ret.drop (by rfl) rfl
end Go.Proofs.YtjgdlocgoiinbaaGreatDoor
