import Derived.Test.YtjgdlocgoiinbaaGreatDoorHKb
namespace Go.Proofs.YtjgdlocgoiinbaaGreatDoor
set_option linter.unusedVariables false
set_option linter.unusedSimpArgs false
open Go.RowKit Go.Shelf Go.Lib
attribute [local simp] isCut_nil isCut_region isCut_seq isCut_block isCut_loop isCut_cond isCut_skip isCut_exit isCut_ret isCut_range swapK putK altK condK_bool pickP_bool stepP stepO onPure_some onPure_none onImpl_some onImpl_none stepC onGP_some onGP_none onGV_some condG mkG onIt_it nextP_ptr takeP_eq takeV_some takeV_none takeU_some takeU_none takeQ takeW_some takeN_none takeN_some takeG_some takeO_some altO_some pureV binV2 eqF eqOp ovlV ovl2 rowAt capV binV intBin strBin isSh shV fldV ixV sliceV slice3V loadAV nilV lenV callV unV convV viewS cellsH loadV fldCut AV.ung AV.ungs AV.gc AV.cells AS.ev AS.put anyS gcsV gcO lens lnO gV guardV retK RetP_eq resV oneV anyRo loIx hiIx implO callP_clo evL gcsL clearV storeAV AS.push AS.setO appV appZ shortS copyV buildV partsV fillV srcV fzO okV isCell_c isCell_ptr isCell_sl isCell_fs isCell_fp isCell_clo rowZ_one rowZ_zero rowZ_2 rowZ_3 rowZ_4 rowZ_5 rowZ_6 rowZ_7 rowZ_8 rowZ_9 rowZ_10 rowZ_11 rowZ_12 noHo Value.oneCell' max2V min2V lookV updV lenM msAt afterH putBack frzFrom frzO rebO backIx nilEq_sl nilEq_fs nilEq_ifn nilEq_ifh ifOp_eql ifOp_neq isLit nilOp_eql nilOp_neq AV.reb AV.rebL
attribute [local simp ↓] runK_skip runK_region runK_draw runK_seq runK_cut runK_cond runK_block runK_loop runK_exit runK_label runK_goto runK_ret runK_range contK_nil contK_seq contK_seq_ret contK_seq_exit contK_seq_goto contK_block contK_block_ret contK_block_goto contK_block_exit runO_nil runO_cons roundK_exit roundK_ret roundK_goto exitK_ret cutK_ret cutK_exit runE_done runE_nil runE_take runE_alt condG_true condG_false
set_option maxRecDepth 10000
@[simp] theorem tokA_length (x : TokS) : (tokA x).length = 7 := rfl
@[simp] theorem tokA_take (x : TokS) : List.take 7 (tokA x) = tokA x := rfl
def toksA (l : List TokS) : List AV := l.flatMap tokA
@[simp] theorem toksA_length (l : List TokS) : (toksA l).length = l.length * 7 := flat_length tokA 7 (by simp) l
theorem toksA_at (l : List TokS) (j : Nat) (hj : j < l.length) : List.take 7 (List.drop (j * 7) (toksA l)) = tokA l[j] := flat_at tokA 7 (by simp) l j hj
theorem toksA_snoc (l : List TokS) (t : TokS) : toksA (l ++ [t]) = toksA l ++ tokA t := by simp [toksA]
@[simp] theorem toksA_all (l : List TokS) : (∀ x ∈ toksA l, isD x = true) ↔ True := iff_true_intro <| by
  intro x hx
  obtain ⟨t, _, hx⟩ := List.mem_flatMap.1 hx
  simp only [tokA, List.mem_cons, List.not_mem_nil, or_false] at hx
  rcases hx with rfl | rfl | rfl | rfl | rfl | rfl | rfl <;> rfl
def rowT (l : List TokS) : AObj := .o (.row 59 7) (toksA l)
def slT7 (k n : Nat) : AV := .sl k 7 0 n (n * 7)
theorem ACalls.weak {P : Program} {f : FuncId} {args : List AV} {h : List AObj} {st : Nat → Bool} {Post Post' : AV → List AObj → Prop} (hc : ACalls P f args h st Post) (hm : ∀ r h', Post r h' → Post' r h') : ACalls P f args h st Post' :=
  fun G F w vs a b c => (hc G F w vs a b c).mono fun _ _ ⟨x, r, h', G', F', e1, e2, e3, e4, e5⟩ => ⟨x, r, h', G', F', e1, e2, e3, e4, hm _ _ e5⟩
theorem ext_end {s : ByteArray} (p : Nat) : s.extract p s.size = baL (s.data.toList.drop p) := by
  have hb : s = baL s.data.toList := rfl
  conv => lhs; rw [hb]
  rw [ba_ext, List.take_of_length_le (by rw [List.length_drop, ba_size]; omega)]
set_option maxHeartbeats 8000000 in
theorem lex_w (s : ByteArray) (hs : s.size ≤ 2000) : ACalls Tryz.prog 39 [.c (.string s)] [] (fun _ => false) (fun r h' => (∃ ts, lexG 0 s.data.toList = (some ts, 0) ∧ r = .tup [slT7 0 ts.length, .c (.int .i64 0), .c (.int .i64 0)] ∧ h' = [rowT ts]) ∨ (∃ p : Nat, lexG 0 s.data.toList = (none, p) ∧ r = .tup [.c (.slice none 0 0), .c (.int .i64 (p : Nat)), .c (.int .i64 170)] ∧ h' = [])) := by
  refine acalls mixed Tryz.func39 rfl Tryz.ntmps39 rfl fun E hE hst hho => ?_
  have ls : s.data.toList.length = s.size := rfl
  have h0 : ¬ (2000 : Int) < s.size := by omega
  have h0n : ¬ 2000 < s.size := by omega
  simp (maxSteps := 1000000) [hho, noHo, h0, h0n, -List.reduceReplicate]
  refine loop_k mixed (fun y : Nat × List TokS => ⟨slotsOf 50 [(0, .c (.string s)), (5, slT7 0 y.2.length), (6, .c (.int .i64 (y.1 : Nat)))], [rowT y.2]⟩) (fun y => s.size - y.1) (fun y => y.2.length ≤ y.1 ∧ LexI s.data.toList y.1 y.2) (0, []) ⟨Nat.le_refl _, LexI.start _⟩ ?_ ?_
  · refine Wk.trans (wk_virt 5 59 7 rfl) ?_
    exact wk_eq (by simp [hE, lens]) (by simp [rowT, toksA]) (by simp [livH, livO, AV.livL, AV.liv, wkL, wkV, List.range', slotsOf, slT7])
  rintro ⟨p, acc⟩ ⟨hac, hI⟩
  simp only at hac hI
  have hp := hI.1
  rw [ls] at hp
  by_cases h1 : p < s.size
  case neg =>
    have h1i : ¬ (p : Int) < s.size := by omega
    have hfin := hI.fin (by rw [ls]; exact h1)
    simp (maxSteps := 1000000) [hho, noHo, slotsOf, h1, h1i, slT7, rowT, undef, onGP_none, condG_false, -List.reduceReplicate]
    refine Ret.sel [0] (fun _ => false) (ho := by rfl) (ha := by rfl) (by simp) (by simp) (by decide) (by simp) (fun i _ h => by cases h) ?_
    exact .inl ⟨acc, hfin, rfl, rfl⟩
  have h1i : (p : Int) < s.size := by omega
  have hpL : p < s.data.toList.length := h1
  have ba := byte_at (s := s) hpL
  have ba2 := byte_at2 (s := s) hpL
  have hcd : s.data.toList.drop p = s.data.toList[p] :: s.data.toList.drop (p + 1) := List.drop_eq_getElem_cons hpL
  obtain ⟨x, hx⟩ : ∃ x : Nat, x = (s.data.toList[p]).toNat := ⟨_, rfl⟩
  rw [← hx] at ba ba2
  have hb1 : s.data.toList[p] = 32 ↔ x = 32 := ⟨fun e => by rw [hx, e]; rfl, fun e => UInt8.toNat_inj.1 (by rw [← hx, e]; rfl)⟩
  have hb2 : s.data.toList[p] = 10 ↔ x = 10 := ⟨fun e => by rw [hx, e]; rfl, fun e => UInt8.toNat_inj.1 (by rw [← hx, e]; rfl)⟩
  have ew : IntKind.i64.wrap ((p : Int) + 1) = (p + 1 : Nat) := by rw [IntWalk.i64_in _ (by omega)]; rfl
  by_cases x32 : x = 32
  · have x32i : (x : Int) = 32 := by omega
    simp (maxSteps := 1000000) [hho, noHo, slotsOf, h1, h1i, ba, ba2, x32, x32i, undef, onGP_none, condG_false, -List.reduceReplicate]
    refine round_next (p + 1, acc) ⟨by simp only; omega, hI.blank hpL (.inl (hb1.2 x32))⟩ (by simp only; omega) ?_
    exact wk_of 1 0 (by simp) (by simp [hE, lens]) rfl (by simp [livH, livO, AV.livL, AV.liv, wkL, wkV, List.range', rowT]) (by simp [livH, livO, AV.livL, AV.liv, wkL, wkV, List.range', slotsOf, ew, slT7])
  have x32i : ¬ (x : Int) = 32 := by omega
  by_cases x10 : x = 10
  · have x10i : (x : Int) = 10 := by omega
    simp (maxSteps := 1000000) [hho, noHo, slotsOf, h1, h1i, ba, ba2, x32, x32i, x10, x10i, undef, onGP_none, condG_false, -List.reduceReplicate]
    refine round_next (p + 1, acc) ⟨by simp only; omega, hI.blank hpL (.inr (hb2.2 x10))⟩ (by simp only; omega) ?_
    exact wk_of 1 0 (by simp) (by simp [hE, lens]) rfl (by simp [livH, livO, AV.livL, AV.liv, wkL, wkV, List.range', rowT]) (by simp [livH, livO, AV.livL, AV.liv, wkL, wkV, List.range', slotsOf, ew, slT7])
  have x10i : ¬ (x : Int) = 10 := by omega
  have hnb : ¬ (s.data.toList[p] = 32 ∨ s.data.toList[p] = 10) := fun h => h.elim (fun h => x32 (hb1.1 h)) fun h => x10 (hb2.1 h)
  have hex := ext_end (s := s) p
  have hdl : (s.data.toList.drop p).length = s.size - p := by rw [List.length_drop, ls]
  have c1 := token_w (baL (s.data.toList.drop p)) (by rw [ba_size]; omega) (by rw [ba_size]; omega)
  rw [toL_ba] at c1
  have ht := tok_eq (s.data.toList.drop p)
  have htx := fun r m => tokL_text (s := s.data.toList.drop p) (t := r) (n := m)
  obtain ⟨T, hT⟩ : ∃ T, T = tokP (s.data.toList.drop p) := ⟨_, rfl⟩
  rw [← hT] at c1 ht
  obtain ⟨⟨k, a, t, v⟩, n, b⟩ := T
  unfold tokR tokA at c1
  simp only at c1 ht
  have hp0 : p ≤ s.size := by omega
  cases b with
  | false =>
    rw [if_neg (by decide)] at ht
    have hbad := hI.bad hpL hnb ht
    simp (maxSteps := 1000000) [hho, noHo, slotsOf, h1, h1i, ba, ba2, x32, x32i, x10, x10i, hex, undef, onGP_none, condG_false, -List.reduceReplicate]
    repeat (with_reducible refine And.intro (by omega) ?_)
    refine call_x [] (c1) rfl rfl ⟨rfl, rfl⟩ hho (by simp) (by decide) (by simp) (by simp) ?_
    simp (maxSteps := 1000000) [hho, noHo, undef, onGP_none, condG_false, -List.reduceReplicate]
    exact Ret.drop (by rfl) (.inr ⟨p, hbad, rfl, rfl⟩)
  | true =>
    rw [if_pos rfl] at ht
    have hn := htx _ _ ht
    have hn2 : 1 ≤ n.toNat ∧ n.toNat ≤ s.size - p := by rw [← hdl]; exact ⟨hn.2.1, hn.2.2⟩
    have hnx := hI.tok hpL hnb ht
    obtain ⟨m, rfl⟩ : ∃ m : Nat, n = m := ⟨n.toNat, by omega⟩
    rw [Int.toNat_natCast] at hn2 hnx
    have ew2 : IntKind.i64.wrap ((p : Int) + m) = (p : Int) + m := IntWalk.i64_in _ (by omega)
    have hlen : (toksA acc).length = acc.length * 7 := toksA_length acc
    simp (maxSteps := 1000000) [hho, noHo, slotsOf, h1, h1i, ba, ba2, x32, x32i, x10, x10i, hex, undef, onGP_none, condG_false, -List.reduceReplicate]
    repeat (with_reducible refine And.intro (by omega) ?_)
    refine call_x [] (c1) rfl rfl ⟨rfl, rfl⟩ hho (by simp) (by decide) (by simp) (by simp) ?_
    simp (maxSteps := 1000000) [hho, noHo, slT7, rowT, undef, onGP_none, condG_false, -List.reduceReplicate]
    repeat (with_reducible refine And.intro (by omega) ?_)
    refine round_next (p + m, acc ++ [⟨k, p, t, v⟩]) ⟨by simp; omega, hnx⟩ (by simp only; omega) ?_
    exact wk_of 1 2 (by simp) (by simp [hE, lens]) (by simp [rowT, toksA_snoc, tokA]) (by simp [livH, livO, AV.livL, AV.liv, wkL, wkV, List.range', rowT]) (by simp [livH, livO, AV.livL, AV.liv, wkL, wkV, List.range', slotsOf, ew2, slT7, Nat.add_mul])
theorem lex_ok {s : ByteArray} (hs : s.size ≤ 2000) {ts : List TokS} (h : lexG 0 s.data.toList = (some ts, 0)) : ACalls Tryz.prog 39 [.c (.string s)] [] (fun _ => false) (fun r h' => r = .tup [slT7 0 ts.length, .c (.int .i64 0), .c (.int .i64 0)] ∧ h' = [rowT ts]) :=
  (lex_w s hs).weak fun r h' hp => by
    rcases hp with ⟨us, e1, e2, e3⟩ | ⟨p, e1, _⟩
    · rw [h] at e1; injection e1 with e1; injection e1 with e1; subst e1; exact ⟨e2, e3⟩
    · rw [h] at e1; cases e1
theorem lex_bad {s : ByteArray} (hs : s.size ≤ 2000) {p : Nat} (h : lexG 0 s.data.toList = (none, p)) : ACalls Tryz.prog 39 [.c (.string s)] [] (fun _ => false) (fun r h' => r = .tup [.c (.slice none 0 0), .c (.int .i64 (p : Nat)), .c (.int .i64 170)] ∧ h' = []) :=
  (lex_w s hs).weak fun r h' hp => by
    rcases hp with ⟨us, e1, _⟩ | ⟨q, e1, e2, e3⟩
    · rw [h] at e1; cases e1
    · rw [h] at e1; injection e1 with _ e1; subst e1; exact ⟨e2, e3⟩
theorem lex_long {s : ByteArray} (hs : 2000 < s.size) : ACalls Tryz.prog 39 [.c (.string s)] [] (fun _ => false) (fun r h' => r = .tup [.c (.slice none 0 0), .c (.int .i64 2000), .c (.int .i64 170)] ∧ h' = []) := by
  refine acalls mixed Tryz.func39 rfl Tryz.ntmps39 rfl fun E hE hst hho => ?_
  have h0 : (2000 : Int) < s.size := by omega
  simp (maxSteps := 1000000) [hho, noHo, h0, hs, -List.reduceReplicate]
  exact Ret.drop (by rfl) ⟨rfl, rfl⟩
end Go.Proofs.YtjgdlocgoiinbaaGreatDoor
