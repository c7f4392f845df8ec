import Derived.Test.YtjgdlocgoiinbaaGreatDoorKH
import Derived.Test.YtjgdlocgoiinbaaGreatDoorKF
import Derived.Test.YtjgdlocgoiinbaaGreatDoorQU
namespace Go.Proofs.YtjgdlocgoiinbaaGreatDoor
set_option linter.unusedVariables false
set_option linter.unusedSimpArgs false
open Go.RowKit Go.Shelf Go.Lib
attribute [local simp] isCut_nil isCut_region isCut_seq isCut_block isCut_loop isCut_cond isCut_skip isCut_exit isCut_ret isCut_range swapK putK altK condK_bool pickP_bool stepP stepO onPure_some onPure_none onImpl_some onImpl_none stepC onGP_some onGP_none onGV_some condG mkG onIt_it nextP_ptr takeP_eq takeV_some takeV_none takeU_some takeU_none takeQ takeW_some takeN_none takeN_some takeG_some takeO_some altO_some pureV binV2 eqF eqOp ovlV ovl2 rowAt capV binV intBin strBin isSh shV fldV ixV sliceV slice3V loadAV nilV lenV callV unV convV viewS cellsH loadV fldCut AV.ung AV.ungs AV.gc AV.cells AS.ev AS.put anyS gcsV gcO lens lnO gV guardV retK RetP_eq resV oneV anyRo loIx hiIx implO callP_clo evL gcsL clearV storeAV AS.push AS.setO appV appZ shortS copyV buildV partsV fillV srcV fzO okV isCell_c isCell_ptr isCell_sl isCell_fs isCell_fp isCell_clo rowZ_one rowZ_zero rowZ_2 rowZ_3 rowZ_4 rowZ_5 rowZ_6 rowZ_7 rowZ_8 rowZ_9 rowZ_10 rowZ_11 rowZ_12 noHo Value.oneCell' max2V min2V lookV updV lenM msAt afterH putBack frzFrom frzO rebO backIx nilEq_sl nilEq_fs nilEq_ifn nilEq_ifh ifOp_eql ifOp_neq isLit nilOp_eql nilOp_neq AV.reb AV.rebL
attribute [local simp ↓] runK_skip runK_region runK_draw runK_seq runK_cut runK_cond runK_block runK_loop runK_exit runK_label runK_goto runK_ret runK_range contK_nil contK_seq contK_seq_ret contK_seq_exit contK_seq_goto contK_block contK_block_ret contK_block_goto contK_block_exit runO_nil runO_cons roundK_exit roundK_ret roundK_goto exitK_ret cutK_ret cutK_exit runE_done runE_nil runE_take runE_alt condG_true condG_false
set_option maxRecDepth 10000
def TokOk (t : TokS) : Prop := t.k = 2 → okI t.v
theorem tokL_ok {s : List UInt8} {t : TokS} {n : Nat} (h : tokL s = some (t, n)) : TokOk t := by
  intro hk
  rcases s with _ | ⟨c, l⟩
  · cases h
  unfold tokL at h
  simp only at h
  have lit : ∀ w, litS w = some (t, n) → okI t.v := fun w hw => by
    have := lit_text hw
    exact ⟨this.2.2.2.1, this.2.2.2.2, Nat.le_trans (ok_size this.2.2.2.1) (by decide)⟩
  split at h
  · obtain ⟨m, h1, h2⟩ := Option.bind_eq_some_iff.1 h
    exact lit _ h2
  split at h
  · obtain ⟨m, h1, h2⟩ := Option.bind_eq_some_iff.1 h
    exact lit _ h2
  split at h
  · obtain ⟨p, h1, h2⟩ := Option.map_eq_some_iff.1 h
    injection h2 with h2 h3
    have hp := decP_i h1
    subst h2
    by_cases hk : 0 < p.2
    · simp only [if_pos hk]
      refine ⟨?_, ⟨hp.2.1, hp.2.2.1⟩, (by decide : (0 : Nat) ≤ _)⟩
      show valOk ⟨3, p.1, (p.2 : Int), ByteArray.empty⟩ = true
      unfold valOk
      rw [if_neg (by simp), if_neg (by simp), if_neg (by simp), if_pos rfl]
      unfold scaleOk
      simp
      omega
    · simp only [if_neg hk]
      refine ⟨?_, ⟨hp.2.1, hp.2.2.1⟩, (by decide : (0 : Nat) ≤ _)⟩
      show valOk ⟨2, p.1, 0, ByteArray.empty⟩ = true
      unfold valOk
      rw [if_neg (by simp), if_neg (by simp), if_pos rfl]
      simp
  all_goals
    exfalso
    revert h
    repeat' split
    all_goals intro h
    all_goals first
      | cases h; done
      | (injection h with h; injection h with h2 h3; subst h2; exact absurd hk (by simp))
theorem lexG_toks : ∀ (m : Nat) (s : List UInt8) (p : Nat), s.length ≤ m → ∀ ts x, lexG p s = (some ts, x) → ∀ t ∈ ts, TokOk t := by
  intro m
  induction m with
  | zero =>
    intro s p hm ts x h
    obtain rfl : s = [] := List.eq_nil_of_length_eq_zero (by omega)
    rw [lexG_nil] at h
    injection h with h1 h2
    injection h1 with h1
    subst h1
    intro t ht; cases ht
  | succ m ih =>
    intro s p hm ts x h
    rcases s with _ | ⟨c, l⟩
    · rw [lexG_nil] at h
      injection h with h1 h2
      injection h1 with h1
      subst h1
      intro t ht; cases ht
    simp only [List.length_cons] at hm
    by_cases hc : c = 32 ∨ c = 10
    · rw [lexG_blank hc] at h
      exact ih l (p + 1) (by omega) ts x h
    · cases ht : tokL (c :: l) with
      | none => rw [lexG_bad hc ht] at h; cases h
      | some r =>
        obtain ⟨t, n⟩ := r
        rw [lexG_tok hc ht] at h
        have hn := (tokL_text ht).2
        have hd : ((c :: l).drop n).length ≤ l.length := by rw [List.length_drop]; simp only [List.length_cons]; omega
        unfold putT at h
        cases hr : lexG (p + n) ((c :: l).drop n) with
        | mk a y =>
          rw [hr] at h
          cases a with
          | none => cases h
          | some us =>
            injection h with h4 h5
            injection h4 with h4
            subst h4
            intro u hu
            rcases List.mem_cons.1 hu with rfl | hu
            · exact fun hk => (tokL_ok (t := t) ht) hk
            · exact ih _ _ (by omega) us y hr u hu
theorem lexG_x {s : List UInt8} {ts : List TokS} {x : Nat} : ∀ {m p : Nat}, s.length ≤ m → lexG p s = (some ts, x) → x = 0 := by
  intro m p hm
  induction m generalizing s p ts x with
  | zero =>
    intro h
    obtain rfl : s = [] := List.eq_nil_of_length_eq_zero (by omega)
    rw [lexG_nil] at h
    injection h with h1 h2
    exact h2.symm
  | succ m ih =>
    intro h
    rcases s with _ | ⟨c, l⟩
    · rw [lexG_nil] at h
      injection h with h1 h2
      exact h2.symm
    simp only [List.length_cons] at hm
    by_cases hc : c = 32 ∨ c = 10
    · rw [lexG_blank hc] at h
      exact ih (by omega) h
    · cases ht : tokL (c :: l) with
      | none => rw [lexG_bad hc ht] at h; cases h
      | some r =>
        obtain ⟨t, n⟩ := r
        rw [lexG_tok hc ht] at h
        have hn := (tokL_text ht).2
        have hd : ((c :: l).drop n).length ≤ l.length := by rw [List.length_drop]; simp only [List.length_cons]; omega
        unfold putT at h
        cases hr : lexG (p + n) ((c :: l).drop n) with
        | mk a y =>
          rw [hr] at h
          cases a with
          | none => cases h
          | some us =>
            injection h with h4 h5
            rw [← h5]
            exact ih (by omega) hr
theorem lex_len {s : List UInt8} {ts : List TokS} {x : Nat} (h : lexG 0 s = (some ts, x)) : ts.length ≤ s.length := by
  have hp := lex_placed h
  have key : ∀ (ts : List TokS) (e : Nat), e ≤ s.length → Placed s e ts → e + ts.length ≤ s.length := by
    intro ts
    induction ts with
    | nil => intro e he _; simpa using he
    | cons t ts ih =>
      intro e he ⟨p, _, h2, h3, _, h5, _, h7⟩
      have := ih _ h3 h7
      simp only [List.length_cons]
      omega
  have := key ts 0 (Nat.zero_le _) hp
  omega
set_option maxHeartbeats 8000000 in
theorem lexplaces_w (s : ByteArray) (hs : s.size ≤ maxLen) : ACalls Tryz.prog 11 [.c (.string s)] [] (fun _ => false) (fun r h' => r = .c (.bool true)) := by
  refine acallsC [13] mixed Tryz.func11 rfl Tryz.ntmps11 rfl fun E hE hst hho => ?_
  have ls : s.data.toList.length = s.size := rfl
  have hb : s = baL s.data.toList := rfl
  have c0 := l17first_w
  by_cases hl : 2000 < s.size
  · have hli : (2000 : Int) < s.size := by omega
    have c1 := lex_long hl
    simp (maxSteps := 1000000) [hho, noHo, -List.reduceReplicate]
    refine call_x [] (c0) rfl rfl ⟨rfl, rfl⟩ hho (by simp) (by decide) (by simp) (by simp) ?_
    simp (maxSteps := 1000000) [hho, noHo, undef, onGP_none, condG_false, -List.reduceReplicate]
    refine call_x [] (c1) rfl rfl ⟨rfl, rfl⟩ hho (by simp) (by decide) (by simp) (by simp) ?_
    simp (maxSteps := 1000000) [hho, noHo, hl, hli, undef, onGP_none, condG_false, -List.reduceReplicate]
    exact Ret.drop (by rfl) rfl
  have hli : ¬ (2000 : Int) < s.size := by omega
  cases hlx : lexG 0 s.data.toList with
  | mk o x =>
  cases o with
  | none =>
    have c1 := lex_bad (s := s) (by omega) hlx
    simp (maxSteps := 1000000) [hho, noHo, -List.reduceReplicate]
    refine call_x [] (c0) rfl rfl ⟨rfl, rfl⟩ hho (by simp) (by decide) (by simp) (by simp) ?_
    simp (maxSteps := 1000000) [hho, noHo, undef, onGP_none, condG_false, -List.reduceReplicate]
    refine call_x [] (c1) rfl rfl ⟨rfl, rfl⟩ hho (by simp) (by decide) (by simp) (by simp) ?_
    simp (maxSteps := 1000000) [hho, noHo, hl, hli, undef, onGP_none, condG_false, -List.reduceReplicate]
    exact Ret.drop (by rfl) rfl
  | some ts =>
  obtain rfl := lexG_x (m := s.data.toList.length) (Nat.le_refl _) hlx
  have c1 := lex_ok (s := s) (by omega) hlx
  have hpl := lex_placed hlx
  have hok := lexG_toks s.data.toList.length _ 0 (Nat.le_refl _) ts 0 hlx
  have hlen := lex_len hlx
  rw [ls] at hlen
  simp (maxSteps := 1000000) [hho, noHo, -List.reduceReplicate]
  refine call_x [] (c0) rfl rfl ⟨rfl, rfl⟩ hho (by simp) (by decide) (by simp) (by simp) ?_
  simp (maxSteps := 1000000) [hho, noHo, undef, onGP_none, condG_false, -List.reduceReplicate]
  refine call_x [] (c1) rfl rfl ⟨rfl, rfl⟩ hho (by simp) (by decide) (by simp) (by simp) ?_
  simp (maxSteps := 1000000) [hho, noHo, hl, hli, slT7, rowT, undef, onGP_none, condG_false, -List.reduceReplicate]
  refine loop_kc [13] mixed (fun y : Nat × Nat => ⟨slotsOf 94 [(0, .c (.string s)), (6, .c (.int .i64 (y.2 : Nat))), (26, slT7 0 ts.length), (27, .c (.int .i64 (ts.length : Nat))), (28, .c (.int .i64 (y.1 : Nat)))], [rowT ts]⟩) (fun y => ts.length - y.1) (fun y => y.1 ≤ ts.length ∧ y.2 ≤ s.size ∧ Placed s.data.toList y.2 (ts.drop y.1)) (0, 0) ⟨Nat.zero_le _, Nat.zero_le _, hpl⟩ ?_ ?_
  · exact wk_eq (by simp [hE, lens]) (by simp [rowT]) (by simp [livH, livO, AV.livL, AV.liv, wkL, wkV, List.range', slotsOf, slT7])
  rintro ⟨j, e⟩ ⟨hj, he, hP⟩
  simp only at hj he hP
  by_cases g1 : j < ts.length
  case neg =>
    have g1i : ¬ (j : Int) < ts.length := by omega
    simp (maxSteps := 1000000) [hho, noHo, slotsOf, g1, g1i, undef, onGP_none, condG_false, -List.reduceReplicate]
    exact Ret.drop (by rfl) rfl
  have g1i : (j : Int) < ts.length := by omega
  have ta := toksA_at ts j g1
  have hm := hok _ (List.getElem_mem g1)
  rw [List.drop_eq_getElem_cons g1] at hP
  obtain ⟨t, ht⟩ : ∃ t, t = ts[j] := ⟨_, rfl⟩
  rw [← ht] at ta hm hP
  obtain ⟨p, hat, hep, hpt, htxt, htl, hbl, hPn⟩ := hP
  rw [ls] at hpt
  have ej : IntKind.i64.wrap ((j : Int) + 1) = (j + 1 : Nat) := by rw [IntWalk.i64_in _ (by omega)]; rfl
  obtain ⟨X, hX⟩ : ∃ X, X = textR t := ⟨_, rfl⟩
  rw [← hX] at hpt htxt htl hPn
  have hXs := ba_size X
  have hXne : ¬ baL X = (⟨#[]⟩ : ByteArray) := fun h => by
    have := congrArg (fun s : ByteArray => s.data.toList.length) h
    simp only [toL_ba] at this
    simp at this
    rw [this] at htl
    simp at htl
  have hXne2 : ¬ baL X = ByteArray.empty := hXne
  have hext := ext_tok (s := s) p (p + X.length)
  rw [show p + X.length - p = X.length by omega, htxt] at hext
  obtain ⟨k, a, tt, v⟩ := t
  simp only at hat
  subst hat
  unfold tokA at ta
  simp only at ta
  have b1 : ¬ (p : Int) < e := by omega
  have b1n : ¬ p < e := by omega
  have es : IntKind.i64.wrap ((s.size : Int) - p) = (s.size : Int) - p := IntWalk.i64_in _ (by omega)
  have b2 : ¬ (s.size : Int) - p < X.length := by omega
  have ep : IntKind.i64.wrap ((p : Int) + X.length) = (p : Int) + X.length := IntWalk.i64_in _ (by omega)
  have tp : ((p : Int) + X.length).toNat = p + X.length := by omega
  have hgo : (toksA ts).length = ts.length * 7 := toksA_length ts
  have hend : ∀ i, e ≤ i → i < p → ∃ (h : i < s.data.toList.length), (s.data.toList[i]).toNat = 32 ∨ (s.data.toList[i]).toNat = 10 := fun i h1 h2 => by
    refine ⟨by omega, ?_⟩
    rcases hbl i (by omega) h1 h2 with h | h
    · left; rw [h]; rfl
    · right; rw [h]; rfl
  simp (maxSteps := 1000000) [hho, noHo, slotsOf, g1, g1i, slT7, rowT, ta, undef, onGP_none, condG_false, -List.reduceReplicate]
  repeat (with_reducible refine And.intro (by omega) ?_)
  refine seq_cut mixed [] (fun _ : Unit => ⟨slotsOf 94 [(0, .c (.string s)), (6, .c (.int .i64 (e : Nat))), (8, .ptr 1 0 7), (9, .c (.string (baL X))), (26, slT7 0 ts.length), (27, .c (.int .i64 (ts.length : Nat))), (28, .c (.int .i64 (j : Nat)))], [rowT ts, .o .box (tokA ⟨k, p, tt, v⟩)]⟩) (fun _ => True) ?_ ?_
  case refine_2 =>
    by_cases hk : k = 2
    · have ok := hm hk
      have hXv : X = printR v := by rw [hX]; unfold textR; rw [if_pos hk]
      have c2 := r3Print_w v ok.2
      rw [plV_of ok.1, ← hXv] at c2
      unfold valA at c2
      simp (maxSteps := 1000000) [hho, noHo, hk, undef, onGP_none, condG_false, -List.reduceReplicate]
      refine call_x [] (c2) rfl rfl ⟨rfl, rfl⟩ hho (by simp) (by decide) (by simp) (by simp) ?_
      simp (maxSteps := 1000000) [hho, noHo, undef, onGP_none, condG_false, -List.reduceReplicate]
      refine cut_to () trivial ?_
      exact wk_of 2 0 (by simp) (by simp [hE, lens]) (by simp [rowT, tokA, hk]) (by simp [livH, livO, AV.livL, AV.liv, wkL, wkV, List.range', rowT, tokA]) (by simp [livH, livO, AV.livL, AV.liv, wkL, wkV, List.range', slotsOf, slT7])
    · have hXt : tt = baL X := by rw [hX]; unfold textR; rw [if_neg hk]; rfl
      simp (maxSteps := 1000000) [hho, noHo, hk, undef, onGP_none, condG_false, -List.reduceReplicate]
      refine cut_to () trivial ?_
      exact wk_of 2 0 (by simp) (by simp [hE, lens]) (by simp [rowT, tokA]) (by simp [livH, livO, AV.livL, AV.liv, wkL, wkV, List.range', rowT, tokA]) (by simp [livH, livO, AV.livL, AV.liv, wkL, wkV, List.range', slotsOf, slT7, hXt])
  rintro ⟨⟩ -
  simp (maxSteps := 1000000) [hho, noHo, slotsOf, slT7, rowT, tokA, hXs, b1, b1n, es, b2, ep, tp, hext, hXne, hXne2, undef, onGP_none, condG_false, -List.reduceReplicate]
  repeat (with_reducible refine And.intro (by omega) ?_)
  refine loop_k mixed (fun i : Nat => ⟨slotsOf 94 [(0, .c (.string s)), (6, .c (.int .i64 (e : Nat))), (8, .ptr 1 0 7), (9, .c (.string (baL X))), (10, .c (.int .i64 (i : Nat))), (26, slT7 0 ts.length), (27, .c (.int .i64 (ts.length : Nat))), (28, .c (.int .i64 (j : Nat)))], [rowT ts, .o .box (tokA ⟨k, p, tt, v⟩)]⟩) (fun i => p - i) (fun i => e ≤ i ∧ i ≤ p) e ⟨Nat.le_refl _, hep⟩ ?_ ?_
  · exact wk_of 2 0 (by simp) (by simp [hE, lens]) (by simp [rowT, tokA]) (by simp [livH, livO, AV.livL, AV.liv, wkL, wkV, List.range', rowT, tokA]) (by simp [livH, livO, AV.livL, AV.liv, wkL, wkV, List.range', slotsOf, slT7])
  rintro i ⟨i1, i2⟩
  by_cases f1 : i < p
  · have f1i : (i : Int) < p := by omega
    obtain ⟨fiL, hu⟩ := hend i i1 f1
    have bi := byte_at (s := s) fiL
    have bi2 := byte_at2 (s := s) fiL
    have fs1 : i < s.size := fiL
    have fs1i : (i : Int) < s.size := by omega
    obtain ⟨u, hu2⟩ : ∃ u : Nat, u = (s.data.toList[i]).toNat := ⟨_, rfl⟩
    rw [← hu2] at bi bi2 hu
    have ei : IntKind.i64.wrap ((i : Int) + 1) = (i + 1 : Nat) := by rw [IntWalk.i64_in _ (by omega)]; rfl
    by_cases u32 : u = 32
    · have u32i : (u : Int) = 32 := by omega
      simp (maxSteps := 1000000) [hho, noHo, slotsOf, slT7, rowT, tokA, f1, f1i, fs1, fs1i, bi, bi2, u32, u32i, undef, onGP_none, condG_false, -List.reduceReplicate]
      refine round_next (i + 1) ⟨by omega, by omega⟩ (by omega) ?_
      exact wk_of 2 0 (by simp) (by simp [hE, lens]) (by simp [rowT, tokA]) (by simp [livH, livO, AV.livL, AV.liv, wkL, wkV, List.range', rowT, tokA]) (by simp [livH, livO, AV.livL, AV.liv, wkL, wkV, List.range', slotsOf, slT7, ei])
    · have u32i : ¬ (u : Int) = 32 := by omega
      have u10 : u = 10 := hu.resolve_left u32
      have u10i : (u : Int) = 10 := by omega
      simp (maxSteps := 1000000) [hho, noHo, slotsOf, slT7, rowT, tokA, f1, f1i, fs1, fs1i, bi, bi2, u32, u32i, u10, u10i, undef, onGP_none, condG_false, -List.reduceReplicate]
      refine round_next (i + 1) ⟨by omega, by omega⟩ (by omega) ?_
      exact wk_of 2 0 (by simp) (by simp [hE, lens]) (by simp [rowT, tokA]) (by simp [livH, livO, AV.livL, AV.liv, wkL, wkV, List.range', rowT, tokA]) (by simp [livH, livO, AV.livL, AV.liv, wkL, wkV, List.range', slotsOf, slT7, ei])
  have f1i : ¬ (i : Int) < p := by omega
  simp (maxSteps := 1000000) [hho, noHo, slotsOf, slT7, rowT, tokA, f1, f1i, hXs, undef, onGP_none, condG_false, -List.reduceReplicate]
  refine round_next (j + 1, p + X.length) ⟨by simp only; omega, by simp only; omega, hPn⟩ (by simp only; omega) ?_
  exact wk_of 1 1 (by simp) (by simp [hE, lens]) (by simp [rowT]) (by simp [livH, livO, AV.livL, AV.liv, wkL, wkV, List.range', rowT]) (by simp [livH, livO, AV.livL, AV.liv, wkL, wkV, List.range', slotsOf, slT7, ej, ep])
end Go.Proofs.YtjgdlocgoiinbaaGreatDoor
