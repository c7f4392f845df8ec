import Derived.Test.YtjgdlocgoiinbaaGreatDoorKE
import Derived.Test.YtjgdlocgoiinbaaGreatDoorQV
namespace Go.Proofs.YtjgdlocgoiinbaaGreatDoor
set_option linter.unusedVariables false
set_option linter.unusedSimpArgs false
open Go.RowKit Go.Shelf Go.Lib
attribute [local simp] isCut_nil isCut_region isCut_seq isCut_block isCut_loop isCut_cond isCut_skip isCut_exit isCut_ret isCut_range swapK putK altK condK_bool pickP_bool stepP stepO onPure_some onPure_none onImpl_some onImpl_none stepC onGP_some onGP_none onGV_some condG mkG onIt_it nextP_ptr takeP_eq takeV_some takeV_none takeU_some takeU_none takeQ takeW_some takeN_none takeN_some takeG_some takeO_some altO_some pureV binV2 eqF eqOp ovlV ovl2 rowAt capV binV intBin strBin isSh shV fldV ixV sliceV slice3V loadAV nilV lenV callV unV convV viewS cellsH loadV fldCut AV.ung AV.ungs AV.gc AV.cells AS.ev AS.put anyS gcsV gcO lens lnO gV guardV retK RetP_eq resV oneV anyRo loIx hiIx implO callP_clo evL gcsL clearV storeAV AS.push AS.setO appV appZ shortS copyV buildV partsV fillV srcV fzO okV isCell_c isCell_ptr isCell_sl isCell_fs isCell_fp isCell_clo rowZ_one rowZ_zero rowZ_2 rowZ_3 rowZ_4 rowZ_5 rowZ_6 rowZ_7 rowZ_8 rowZ_9 rowZ_10 rowZ_11 rowZ_12 noHo Value.oneCell' max2V min2V lookV updV lenM msAt afterH putBack frzFrom frzO rebO backIx nilEq_sl nilEq_fs nilEq_ifn nilEq_ifh ifOp_eql ifOp_neq isLit nilOp_eql nilOp_neq AV.reb AV.rebL
attribute [local simp ↓] runK_skip runK_region runK_draw runK_seq runK_cut runK_cond runK_block runK_loop runK_exit runK_label runK_goto runK_ret runK_range contK_nil contK_seq contK_seq_ret contK_seq_exit contK_seq_goto contK_block contK_block_ret contK_block_goto contK_block_exit runO_nil runO_cons roundK_exit roundK_ret roundK_goto exitK_ret cutK_ret cutK_exit runE_done runE_nil runE_take runE_alt condG_true condG_false
set_option maxRecDepth 10000
theorem in_dig (c : UInt8) : ACalls Tryz.prog 66 [.c (.int .u8 (c.toNat : Nat)), .c (.int .u8 48), .c (.int .u8 57)] [] (fun _ => false) (fun r h' => r = .c (.bool (isDig c)) ∧ h' = []) := by
  refine acalls mixed Tryz.func66 rfl Tryz.ntmps66 rfl fun E hE hst hho => ?_
  unfold isDig
  obtain ⟨x, hx⟩ : ∃ x, x = c.toNat := ⟨_, rfl⟩
  rw [← hx]
  by_cases h1 : 48 ≤ x
  · have h1i : (48 : Int) ≤ x := by omega
    by_cases h2 : x ≤ 57
    · have h2i : (x : Int) ≤ 57 := by omega
      simp (maxSteps := 1000000) [hho, noHo, h1, h1i, h2, h2i, undef, onGP_none, condG_false, -List.reduceReplicate]
      exact Ret.drop (by rfl) ⟨rfl, rfl⟩
    · have h2i : ¬ (x : Int) ≤ 57 := by omega
      simp (maxSteps := 1000000) [hho, noHo, h1, h1i, h2, h2i, undef, onGP_none, condG_false, -List.reduceReplicate]
      exact Ret.drop (by rfl) ⟨rfl, rfl⟩
  · have h1i : ¬ (48 : Int) ≤ x := by omega
    simp (maxSteps := 1000000) [hho, noHo, h1, h1i, undef, onGP_none, condG_false, -List.reduceReplicate]
    exact Ret.drop (by rfl) ⟨rfl, rfl⟩
theorem in_great (c : UInt8) : ACalls Tryz.prog 66 [.c (.int .u8 (c.toNat : Nat)), .c (.int .u8 65), .c (.int .u8 90)] [] (fun _ => false) (fun r h' => r = .c (.bool (isGreat c)) ∧ h' = []) := by
  refine acalls mixed Tryz.func66 rfl Tryz.ntmps66 rfl fun E hE hst hho => ?_
  unfold isGreat
  obtain ⟨x, hx⟩ : ∃ x, x = c.toNat := ⟨_, rfl⟩
  rw [← hx]
  by_cases h1 : 65 ≤ x
  · have h1i : (65 : Int) ≤ x := by omega
    by_cases h2 : x ≤ 90
    · have h2i : (x : Int) ≤ 90 := by omega
      simp (maxSteps := 1000000) [hho, noHo, h1, h1i, h2, h2i, undef, onGP_none, condG_false, -List.reduceReplicate]
      exact Ret.drop (by rfl) ⟨rfl, rfl⟩
    · have h2i : ¬ (x : Int) ≤ 90 := by omega
      simp (maxSteps := 1000000) [hho, noHo, h1, h1i, h2, h2i, undef, onGP_none, condG_false, -List.reduceReplicate]
      exact Ret.drop (by rfl) ⟨rfl, rfl⟩
  · have h1i : ¬ (65 : Int) ≤ x := by omega
    simp (maxSteps := 1000000) [hho, noHo, h1, h1i, undef, onGP_none, condG_false, -List.reduceReplicate]
    exact Ret.drop (by rfl) ⟨rfl, rfl⟩
theorem in_low (c : UInt8) : ACalls Tryz.prog 66 [.c (.int .u8 (c.toNat : Nat)), .c (.int .u8 97), .c (.int .u8 122)] [] (fun _ => false) (fun r h' => r = .c (.bool (isLow c)) ∧ h' = []) := by
  refine acalls mixed Tryz.func66 rfl Tryz.ntmps66 rfl fun E hE hst hho => ?_
  unfold isLow
  obtain ⟨x, hx⟩ : ∃ x, x = c.toNat := ⟨_, rfl⟩
  rw [← hx]
  by_cases h1 : 97 ≤ x
  · have h1i : (97 : Int) ≤ x := by omega
    by_cases h2 : x ≤ 122
    · have h2i : (x : Int) ≤ 122 := by omega
      simp (maxSteps := 1000000) [hho, noHo, h1, h1i, h2, h2i, undef, onGP_none, condG_false, -List.reduceReplicate]
      exact Ret.drop (by rfl) ⟨rfl, rfl⟩
    · have h2i : ¬ (x : Int) ≤ 122 := by omega
      simp (maxSteps := 1000000) [hho, noHo, h1, h1i, h2, h2i, undef, onGP_none, condG_false, -List.reduceReplicate]
      exact Ret.drop (by rfl) ⟨rfl, rfl⟩
  · have h1i : ¬ (97 : Int) ≤ x := by omega
    simp (maxSteps := 1000000) [hho, noHo, h1, h1i, undef, onGP_none, condG_false, -List.reduceReplicate]
    exact Ret.drop (by rfl) ⟨rfl, rfl⟩
set_option maxHeartbeats 4000000 in
theorem same_w17 (l : List TokS) (hl : l.length ≤ 1000000) : ACalls Tryz.prog 41 [.fs 7 l.length (toksA l), .fs 7 l.length (toksA l)] [] (fun _ => false) (fun r h' => r = .c (.bool true) ∧ h' = []) := by
  refine acalls mixed Tryz.func41 rfl Tryz.ntmps41 rfl fun E hE hst hho => ?_
  simp (maxSteps := 1000000) [hho, noHo, -List.reduceReplicate]
  refine loop_k mixed (fun j : Nat => ⟨slotsOf 26 [(0, .fs 7 l.length (toksA l)), (1, .fs 7 l.length (toksA l)), (12, .c (.int .i64 (l.length : Nat))), (13, .c (.int .i64 (j : Nat)))], []⟩) (fun j => l.length - j) (fun j => j ≤ l.length) 0 (Nat.zero_le _) ?_ ?_
  · exact wk_eq (by simp [hE, lens]) rfl (by simp [livH, livO, AV.livL, AV.liv, wkL, wkV, List.range', slotsOf])
  rintro j hj
  by_cases h1 : j < l.length
  case neg =>
    have h1i : ¬ (j : Int) < l.length := by omega
    simp (maxSteps := 1000000) [hho, noHo, slotsOf, h1, h1i, undef, onGP_none, condG_false, -List.reduceReplicate]
    exact Ret.drop (by rfl) ⟨rfl, rfl⟩
  have h1i : (j : Int) < l.length := by omega
  have ta := toksA_at l j h1
  obtain ⟨t, ht⟩ : ∃ t, t = l[j] := ⟨_, rfl⟩
  rw [← ht] at ta
  unfold tokA at ta
  have ew : IntKind.i64.wrap ((j : Int) + 1) = (j + 1 : Nat) := by rw [IntWalk.i64_in _ (by omega)]; rfl
  simp (maxSteps := 1000000) [hho, noHo, slotsOf, h1, h1i, undef, onGP_none, condG_false, -List.reduceReplicate]
  refine draw_k hho (.take 0 (.take 1 (.take 2 (.take 3 (.take 4 (.take 5 (.take 6 (.take 7 (.take 8 (.done)))))))))) [] [] (by decide +kernel) (by simp) ?_
  simp (maxSteps := 1000000) [hho, noHo, h1, h1i, ta, roOf, holdOf, wrOf, altK, heldOk, Region.binds, -List.reduceReplicate]
  refine round_next (j + 1) (show j + 1 ≤ l.length by omega) (show l.length - (j + 1) < l.length - j by omega) ?_
  exact wk_of 0 0 (by simp) (by simp [hE, lens]) rfl (by simp [livH, livO, AV.livL, AV.liv, wkL, wkV, List.range']) (by simp [livH, livO, AV.livL, AV.liv, wkL, wkV, List.range', slotsOf, ew])
theorem same_nil17 : ACalls Tryz.prog 41 [.c (.slice none 0 0), .c (.slice none 0 0)] [] (fun _ => false) (fun r h' => r = .c (.bool true) ∧ h' = []) := by
  refine acalls mixed Tryz.func41 rfl Tryz.ntmps41 rfl fun E hE hst hho => ?_
  simp (maxSteps := 1000000) [hho, noHo, -List.reduceReplicate]
  refine loop_k mixed (fun _ : Unit => ⟨slotsOf 26 [(12, .c (.int .i64 0)), (13, .c (.int .i64 0))], []⟩) (fun _ => 0) (fun _ => True) () trivial ?_ ?_
  · exact wk_eq (by simp [hE, lens]) rfl (by simp [livH, livO, AV.livL, AV.liv, wkL, wkV, List.range', slotsOf])
  rintro ⟨⟩ -
  simp (maxSteps := 1000000) [hho, noHo, slotsOf, undef, onGP_none, condG_false, -List.reduceReplicate]
  exact Ret.drop (by rfl) ⟨rfl, rfl⟩
theorem tokk_q {L : List UInt8} {p : Nat} (h : p < L.length) (hc : L[p] = 39) : tokL (L.drop p) = (scanQ (L.drop (p + 1))).bind fun m => litS ((L.drop p).take (m + 1)) := by
  conv => lhs; rw [List.drop_eq_getElem_cons h]
  unfold tokL
  simp only [if_pos hc]
  rw [← List.drop_eq_getElem_cons h]
theorem tokk_x {L : List UInt8} {p : Nat} (h : p < L.length) (h2 : p + 1 < L.length) (hc : L[p] = 88) (hd : L[p + 1] = 39) : tokL (L.drop p) = (scanQ (L.drop (p + 2))).bind fun m => litS ((L.drop p).take (m + 2)) := by
  conv => lhs; rw [List.drop_eq_getElem_cons h]
  have e : (L.drop (p + 1)).head? = some 39 := by rw [List.drop_eq_getElem_cons h2, hd]; rfl
  have hn : ¬ L[p] = 39 := fun e => by rw [hc] at e; cases e
  unfold tokL
  simp only [if_neg hn, if_pos (show L[p] = 88 ∧ (L.drop (p + 1)).head? = some 39 from ⟨hc, e⟩)]
  rw [← List.drop_eq_getElem_cons h, List.tail_drop]
def noQ (L : List UInt8) (p : Nat) (h : p < L.length) : Prop := ¬ L[p] = 39 ∧ ¬ (L[p] = 88 ∧ (L.drop (p + 1)).head? = some 39)
theorem tokk_d {L : List UInt8} {p : Nat} (h : p < L.length) (hq : noQ L p h) (hd : isDig L[p] = true) : tokL (L.drop p) = (decP (numW (L.drop p))).map fun q => (⟨2, 0, ByteArray.empty, if 0 < q.2 then ⟨3, q.1, q.2, ByteArray.empty⟩ else ⟨2, q.1, 0, ByteArray.empty⟩⟩, (numW (L.drop p)).length) := by
  conv => lhs; rw [List.drop_eq_getElem_cons h]
  unfold tokL
  simp only [if_neg hq.1, if_neg hq.2, if_pos hd]
  rw [← List.drop_eq_getElem_cons h]
theorem tokk_g {L : List UInt8} {p : Nat} (h : p < L.length) (hq : noQ L p h) (hd : isDig L[p] = false) (hg : isGreat L[p] = true) : tokL (L.drop p) = if keysB.contains ((L.drop p).takeWhile isGreat) = true then some (⟨1, 0, baL ((L.drop p).takeWhile isGreat), vN⟩, ((L.drop p).takeWhile isGreat).length) else none := by
  conv => lhs; rw [List.drop_eq_getElem_cons h]
  unfold tokL
  simp only [if_neg hq.1, if_neg hq.2, hd, Bool.false_eq_true, if_false, if_pos hg]
  rw [← List.drop_eq_getElem_cons h, keys_eq]
theorem tokk_l {L : List UInt8} {p : Nat} (h : p < L.length) (hq : noQ L p h) (hd : isDig L[p] = false) (hg : isGreat L[p] = false) (hl : isLow L[p] = true) : tokL (L.drop p) = if ((L.drop p).takeWhile isSmall).length ≤ 24 then some (⟨0, 0, baL ((L.drop p).takeWhile isSmall), vN⟩, ((L.drop p).takeWhile isSmall).length) else none := by
  conv => lhs; rw [List.drop_eq_getElem_cons h]
  unfold tokL
  simp only [if_neg hq.1, if_neg hq.2, hd, hg, Bool.false_eq_true, if_false, if_pos hl]
  rw [← List.drop_eq_getElem_cons h]
theorem tokk_s {L : List UInt8} {p : Nat} (h : p < L.length) (hq : noQ L p h) (hd : isDig L[p] = false) (hg : isGreat L[p] = false) (hl : isLow L[p] = false) : tokL (L.drop p) = if twosL.contains ((L.drop p).take 2) = true then some (⟨3, 0, baL ((L.drop p).take 2), vN⟩, 2) else if signsL.contains L[p] = true then some (⟨3, 0, baL [L[p]], vN⟩, 1) else none := by
  conv => lhs; rw [List.drop_eq_getElem_cons h]
  unfold tokL
  simp only [if_neg hq.1, if_neg hq.2, hd, hg, hl, Bool.false_eq_true, if_false]
  rw [← List.drop_eq_getElem_cons h]
structure RowTo (q : UInt8 → Bool) (L : List UInt8) (p i : Nat) : Prop where
  le : p ≤ i
  ge : i ≤ L.length
  tw : (L.drop p).takeWhile q = (L.drop p).take (i - p)
  dw : (L.drop p).dropWhile q = L.drop i
theorem RowTo.of {q : UInt8 → Bool} {L : List UInt8} {p i : Nat} (h1 : p ≤ i) (h2 : i ≤ L.length) (h3 : AllP q L p i) (h4 : ∀ h : i < L.length, q L[i] = false) : RowTo q L p i :=
  ⟨h1, h2, tw_stop (i - p) p i (Nat.le_refl _) h1 h2 h3 h4, (tw_stop_len h1 h2 h3 h4).2⟩
theorem RowTo.len {q : UInt8 → Bool} {L : List UInt8} {p i : Nat} (h : RowTo q L p i) : ((L.drop p).takeWhile q).length = i - p := by
  have h1 := h.le
  have h2 := h.ge
  rw [h.tw, List.length_take, List.length_drop]; omega
structure NumTo (L : List UInt8) (p i : Nat) : Prop where
  le : p ≤ i
  ge : i ≤ L.length
  eq : numW (L.drop p) = (L.drop p).take (i - p)
theorem NumTo.len {L : List UInt8} {p i : Nat} (h : NumTo L p i) : (numW (L.drop p)).length = i - p := by
  have h1 := h.le
  have h2 := h.ge
  rw [h.eq, List.length_take, List.length_drop]; omega
theorem numW_def (s : List UInt8) : numW s = (match s.dropWhile isDig with
    | 46 :: d :: r => if isDig d = true then s.takeWhile isDig ++ 46 :: (d :: r).takeWhile isDig else s.takeWhile isDig
    | _ => s.takeWhile isDig) := rfl
theorem NumTo.no {L : List UInt8} {p i : Nat} (h : RowTo isDig L p i) (hn : ∀ (h1 : i < L.length) (h2 : i + 1 < L.length), ¬ (L[i] = 46 ∧ isDig L[i + 1] = true)) : NumTo L p i := by
  refine ⟨h.le, h.ge, ?_⟩
  rw [numW_def, h.dw, h.tw]
  split
  · rename_i d r hd
    split
    · rename_i hdd
      exfalso
      have h2 : i + 1 < L.length := by
        have := congrArg List.length hd
        rw [List.length_drop] at this
        simp only [List.length_cons] at this
        omega
      have h1 : i < L.length := by omega
      rw [List.drop_eq_getElem_cons h1, List.drop_eq_getElem_cons h2] at hd
      injection hd with e1 e2
      injection e2 with e2 e3
      exact hn h1 h2 ⟨e1, by rw [e2]; exact hdd⟩
    · rfl
  · rfl
theorem NumTo.yes {L : List UInt8} {p i j : Nat} (h : RowTo isDig L p i) (h1 : i < L.length) (h2 : i + 1 < L.length) (hc : L[i] = 46) (hd : isDig L[i + 1] = true) (hj : RowTo isDig L (i + 1) j) : NumTo L p j := by
  have l1 := h.le
  have l2 := hj.le
  refine ⟨by omega, hj.ge, ?_⟩
  have e0 : L.drop i = 46 :: L[i + 1] :: L.drop (i + 2) := by rw [List.drop_eq_getElem_cons h1, List.drop_eq_getElem_cons h2, hc]
  have e1 : L[i + 1] :: L.drop (i + 2) = L.drop (i + 1) := (List.drop_eq_getElem_cons h2).symm
  rw [numW_def, h.dw, h.tw, e0]
  simp only [if_pos hd]
  rw [e1, hj.tw]
  have e2 : (L.drop p).take (j - p) = (L.drop p).take (i - p) ++ (L.drop i).take (j - i) := by
    rw [show j - p = (i - p) + (j - i) by omega, List.take_add, List.drop_drop, show p + (i - p) = i by omega]
  rw [e2, e0, show j - i = j - (i + 1) + 1 by omega, List.take_succ_cons, e1]
theorem ext_tok {s : ByteArray} (p i : Nat) : s.extract p i = baL ((s.data.toList.drop p).take (i - p)) := by
  have hb : s = baL s.data.toList := rfl
  conv => lhs; rw [hb]
  rw [ba_ext]
end Go.Proofs.YtjgdlocgoiinbaaGreatDoor
