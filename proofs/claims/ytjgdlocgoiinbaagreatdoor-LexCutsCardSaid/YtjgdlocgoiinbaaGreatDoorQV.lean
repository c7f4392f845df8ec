import Derived.Test.YtjgdlocgoiinbaaGreatDoorQU
namespace Go.Proofs.YtjgdlocgoiinbaaGreatDoor
set_option linter.unusedVariables false
set_option linter.unusedSimpArgs false
open Go.RowKit Go.Lib
attribute [local simp] isCut_nil isCut_region isCut_seq isCut_block isCut_loop isCut_cond isCut_skip isCut_exit isCut_ret isCut_range swapK putK altK condK_bool pickP_bool stepP stepO onPure_some onPure_none onImpl_some onImpl_none stepC onGP_some onGP_none onGV_some condG mkG onIt_it nextP_ptr takeP_eq takeV_some takeV_none takeU_some takeU_none takeQ takeW_some takeN_none takeN_some takeG_some takeO_some altO_some pureV binV2 eqF eqOp ovlV ovl2 rowAt capV binV intBin strBin isSh shV fldV ixV sliceV slice3V loadAV nilV lenV callV unV convV viewS cellsH loadV fldCut AV.ung AV.ungs AV.gc AV.cells AS.ev AS.put anyS gcsV gcO lens lnO gV guardV retK RetP_eq resV oneV anyRo loIx hiIx implO callP_clo evL gcsL clearV storeAV AS.push AS.setO appV appZ shortS copyV buildV partsV fillV srcV fzO okV isCell_c isCell_ptr isCell_sl isCell_fs isCell_fp isCell_clo rowZ_one rowZ_zero rowZ_2 rowZ_3 rowZ_4 rowZ_5 rowZ_6 rowZ_7 rowZ_8 rowZ_9 rowZ_10 rowZ_11 rowZ_12 noHo Value.oneCell' max2V min2V lookV updV lenM msAt afterH putBack frzFrom frzO rebO backIx nilEq_sl nilEq_fs nilEq_ifn nilEq_ifh ifOp_eql ifOp_neq isLit nilOp_eql nilOp_neq AV.reb AV.rebL
attribute [local simp ↓] runK_skip runK_region runK_draw runK_seq runK_cut runK_cond runK_block runK_loop runK_exit runK_label runK_goto runK_ret runK_range contK_nil contK_seq contK_seq_ret contK_seq_exit contK_seq_goto contK_block contK_block_ret contK_block_goto contK_block_exit runO_nil runO_cons roundK_exit roundK_ret roundK_goto exitK_ret cutK_ret cutK_exit runE_done runE_nil runE_take runE_alt condG_true condG_false
set_option maxRecDepth 10000
def innR (o : Option (List UInt8)) : List UInt8 × Bool := match o with | some t => (t, true) | none => ([], false)
theorem undbl_two (d : UInt8) (l : List UInt8) : undbl (39 :: d :: l) = if d = 39 then (undbl l).map (39 :: ·) else none := by simp [undbl]
set_option maxHeartbeats 8000000 in
theorem r3inner_w (s : ByteArray) (hs : s.size ≤ 100000) : ACalls Tryz.prog 60 [.c (.string s)] [] (fun _ => false) (fun r h' => r = .tup [.c (.string (baL (innR (innerL s.data.toList)).1)), .c (.bool (innR (innerL s.data.toList)).2)] ∧ h' = []) := by
  refine acalls mixed Tryz.func60 rfl Tryz.ntmps60 rfl fun E hE hst hho => ?_
  have ls : s.data.toList.length = s.size := rfl
  by_cases h2 : s.size < 2
  · have h2i : (s.size : Int) < 2 := by omega
    have e : innerL s.data.toList = none := if_neg (fun h => by have := h.1; omega)
    rw [e]
    simp (maxSteps := 1000000) [hho, noHo, h2, h2i, innR, undef, onGP_none, condG_false, -List.reduceReplicate]
    exact Ret.drop (by rfl) ⟨rfl, rfl⟩
  have h2i : ¬ (s.size : Int) < 2 := by omega
  have ba := byte_at (s := s) (j := 0) (by omega)
  have ba2 := byte_at2 (s := s) (j := 0) (by omega)
  have bb := byte_at (s := s) (j := s.size - 1) (by omega)
  have bb2 := byte_at2 (s := s) (j := s.size - 1) (by omega)
  have hh : s.data.toList.head? = some (s.data.toList[0]'(by omega)) := by rw [List.head?_eq_getElem?, List.getElem?_eq_getElem (by omega)]
  have hl := getLast_at (l := s.data.toList) (by omega)
  obtain ⟨c, hc⟩ : ∃ c : UInt8, c = s.data.toList[0]'(by omega) := ⟨_, rfl⟩
  obtain ⟨d, hd⟩ : ∃ c : UInt8, c = s.data.toList[s.size - 1]'(by omega) := ⟨_, rfl⟩
  rw [← hc] at ba ba2 hh
  simp only [ls] at hl
  rw [← hd] at bb bb2 hl
  obtain ⟨x, hx⟩ : ∃ x : Nat, x = c.toNat := ⟨_, rfl⟩
  obtain ⟨y, hy⟩ : ∃ x : Nat, x = d.toNat := ⟨_, rfl⟩
  rw [← hx] at ba ba2
  rw [← hy] at bb bb2
  have ew : IntKind.i64.wrap ((s.size : Int) - 1) = (s.size - 1 : Nat) := by rw [IntWalk.i64_in _ (by omega)]; omega
  have z1 : 0 < s.size := by omega
  have z2 : s.size - 1 < s.size := by omega
  by_cases hx39 : x = 39
  case neg =>
    have hxi : ¬ (x : Int) = 39 := by omega
    have e : innerL s.data.toList = none := if_neg (fun h => by have h := h.2.1; rw [hh] at h; injection h with h; rw [hx, h] at hx39; exact hx39 rfl)
    rw [e]
    simp (maxSteps := 1000000) [hho, noHo, h2, h2i, ba, ba2, hx39, hxi, z1, innR, undef, onGP_none, condG_false, -List.reduceReplicate]
    exact Ret.drop (by rfl) ⟨rfl, rfl⟩
  have hxi : (x : Int) = 39 := by omega
  by_cases hy39 : y = 39
  case neg =>
    have hyi : ¬ (y : Int) = 39 := by omega
    have e : innerL s.data.toList = none := if_neg (fun h => by have h := h.2.2; rw [hl] at h; injection h with h; rw [hy, h] at hy39; exact hy39 rfl)
    rw [e]
    simp (maxSteps := 1000000) [hho, noHo, h2, h2i, ba, ba2, bb, bb2, hx39, hxi, hy39, hyi, ew, z1, z2, innR, undef, onGP_none, condG_false, -List.reduceReplicate]
    exact Ret.drop (by rfl) ⟨rfl, rfl⟩
  have hyi : (y : Int) = 39 := by omega
  have hc39 : c = 39 := by apply UInt8.toNat_inj.1; rw [← hx, hx39]; rfl
  have hd39 : d = 39 := by apply UInt8.toNat_inj.1; rw [← hy, hy39]; rfl
  rw [hc39] at hh
  rw [hd39] at hl
  obtain ⟨I, hI⟩ : ∃ I, I = (s.data.toList.drop 1).dropLast := ⟨_, rfl⟩
  have e : innerL s.data.toList = undbl I := by rw [hI]; exact if_pos ⟨by omega, hh, hl⟩
  have hIl : I.length = s.size - 2 := by rw [hI]; simp [ls]; omega
  have hex : s.extract 1 (s.size - 1) = baL I := by
    have : s = baL s.data.toList := rfl
    rw [this, ba_ext, ba_size, hI, ls]
    rw [List.dropLast_eq_take, List.length_drop, ls]
  rw [e]
  have hIs : (baL I).size = I.length := ba_size I
  simp (maxSteps := 1000000) [hho, noHo, h2, h2i, ba, ba2, bb, bb2, hx39, hxi, hy39, hyi, ew, z1, z2, hex, undef, onGP_none, condG_false, -List.reduceReplicate]
  refine ⟨by omega, ?_⟩
  clear ba ba2 bb bb2 hh hl hex
  refine loop_k mixed (fun y : Nat × List UInt8 => ⟨slotsOf 57 [(0, .c (.string (baL I))), (4, .sl 0 1 0 y.2.length y.2.length), (5, .c (.int .i64 (y.1 : Nat)))], [.o (.row 5 1) (u8av y.2)]⟩) (fun y => I.length - y.1) (fun y => y.1 ≤ I.length ∧ y.2.length ≤ y.1 ∧ undbl I = (undbl (I.drop y.1)).map (y.2 ++ ·)) (0, []) ⟨Nat.zero_le _, Nat.le_refl _, by simp⟩ ?_ ?_
  · refine Wk.trans (wk_virt 4 5 1 rfl) ?_
    exact wk_eq (by simp [hE, lens]) (by simp [u8av]) (by simp [livH, livO, AV.livL, AV.liv, wkL, wkV, List.range', slotsOf])
  rintro ⟨j, t⟩ ⟨hj1, hj2, hU⟩
  simp only at hj1 hj2 hU
  have hlen : (u8av t).length = t.length := by simp [u8av]
  by_cases h1 : j < I.length
  case neg =>
    have h1i : ¬ (j : Int) < I.length := by omega
    have e : undbl I = some t := by
      rw [hU, List.drop_eq_nil_of_le (by omega)]
      simp [undbl]
    have htk : List.take t.length (u8av t) = u8av t := List.take_of_length_le (by omega)
    rw [e]
    simp (maxSteps := 1000000) [hho, noHo, slotsOf, h1, h1i, bytesOf_ba, hlen, htk, hIs, innR, undef, onGP_none, condG_false, -List.reduceReplicate]
    exact Ret.drop (by rfl) ⟨rfl, rfl⟩
  have h1i : (j : Int) < I.length := by omega
  have ba := byte_at (s := baL I) (j := j) (by rw [toL_ba]; exact h1)
  have ba2 := byte_at2 (s := baL I) (j := j) (by rw [toL_ba]; exact h1)
  simp only [toL_ba] at ba ba2
  have hdr : I.drop j = I[j] :: I.drop (j + 1) := List.drop_eq_getElem_cons h1
  obtain ⟨c, hc⟩ : ∃ c : UInt8, c = I[j] := ⟨_, rfl⟩
  rw [← hc] at ba ba2 hdr
  obtain ⟨x, hx⟩ : ∃ x : Nat, x = c.toNat := ⟨_, rfl⟩
  have hx256 : x < 256 := by rw [hx]; exact UInt8.toNat_lt _
  rw [← hx] at ba ba2
  have ew : IntKind.i64.wrap ((j : Int) + 1) = (j : Int) + 1 := IntWalk.i64_in _ (by omega)
  have hone : u8av (t ++ [c]) = u8av t ++ [.c (.int .u8 (x : Nat))] := by rw [u8av_app, u8av_one, ← hx]
  by_cases h39 : x = 39
  case neg =>
    have h39i : ¬ (x : Int) = 39 := by omega
    have hcn : c ≠ 39 := fun e => h39 (by rw [hx, e]; rfl)
    rw [hdr, undbl_cons hcn] at hU
    simp (maxSteps := 1000000) [hho, noHo, slotsOf, h1, h1i, ba, ba2, hIs, h39, h39i, hlen, undef, onGP_none, condG_false, -List.reduceReplicate]
    refine ⟨by omega, round_next (j + 1, t ++ [c]) ⟨by simp only; omega, by simp; omega, ?_⟩ (by simp only; omega) ?_⟩
    · rw [hU, Option.map_map]
      congr 1
      funext l
      simp
    exact wk_of 1 1 (by simp) (by simp [hE, lens]) (by simp [hone]) (by simp [livH, livO, AV.livL, AV.liv, wkL, wkV, List.range']) (by simp [livH, livO, AV.livL, AV.liv, wkL, wkV, List.range', slotsOf, ew])
  have h39i : (x : Int) = 39 := by omega
  have hc39 : c = 39 := UInt8.toNat_inj.1 (by rw [← hx, h39]; rfl)
  by_cases h3 : j + 1 < I.length
  case neg =>
    have h3i : (j : Int) + 1 = I.length := by omega
    have ewI : IntKind.i64.wrap (I.length : Int) = I.length := IntWalk.i64_in _ (by omega)
    have e : undbl I = none := by
      rw [hU, hdr, List.drop_eq_nil_of_le (by omega), hc39]
      rfl
    rw [e]
    simp (maxSteps := 1000000) [hho, noHo, slotsOf, h1, h1i, ba, ba2, hIs, h39, h39i, hlen, ew, ewI, h3i, innR, undef, onGP_none, condG_false, -List.reduceReplicate]
    repeat (with_reducible refine And.intro (by omega) ?_)
    exact Ret.drop (by rfl) ⟨rfl, rfl⟩
  have h3i : ¬ (j : Int) + 1 = I.length := by omega
  have h3l : (j : Int) + 1 < I.length := by omega
  have bb := byte_at (s := baL I) (j := j + 1) (by rw [toL_ba]; exact h3)
  have bb2 := byte_at2 (s := baL I) (j := j + 1) (by rw [toL_ba]; exact h3)
  simp only [toL_ba] at bb bb2
  have hdr2 : I.drop (j + 1) = I[j + 1] :: I.drop (j + 1 + 1) := List.drop_eq_getElem_cons h3
  obtain ⟨d, hd⟩ : ∃ c : UInt8, c = I[j + 1] := ⟨_, rfl⟩
  rw [← hd] at bb bb2 hdr2
  obtain ⟨y, hy⟩ : ∃ x : Nat, x = d.toNat := ⟨_, rfl⟩
  rw [← hy] at bb bb2
  rw [hdr, hdr2, hc39, undbl_two] at hU
  have ew2 : IntKind.i64.wrap ((j : Int) + 1 + 1) = (j : Int) + 1 + 1 := IntWalk.i64_in _ (by omega)
  have t5 : ((j : Int) + 1).toNat = j + 1 := by omega
  have h3n : (0 : Int) ≤ (j : Int) + 1 := by omega
  by_cases g39 : y = 39
  · have g39i : (y : Int) = 39 := by omega
    have hd39 : d = 39 := UInt8.toNat_inj.1 (by rw [← hy, g39]; rfl)
    rw [if_pos hd39] at hU
    simp (maxSteps := 1000000) [hho, noHo, slotsOf, h1, h1i, ba, ba2, bb, bb2, hIs, h39, h39i, hlen, ew, h3, h3i, h3l, h3n, t5, g39, g39i, undef, onGP_none, condG_false, -List.reduceReplicate]
    refine ⟨by omega, round_next (j + 1 + 1, t ++ [c]) ⟨by simp only; omega, by simp; omega, ?_⟩ (by simp only; omega) ?_⟩
    · rw [hU, Option.map_map, hc39]
      congr 1
      funext l
      simp
    exact wk_of 1 1 (by simp) (by simp [hE, lens]) (by simp [hone, h39]) (by simp [livH, livO, AV.livL, AV.liv, wkL, wkV, List.range']) (by simp [livH, livO, AV.livL, AV.liv, wkL, wkV, List.range', slotsOf, ew, ew2])
  · have g39i : ¬ (y : Int) = 39 := by omega
    have hdn : d ≠ 39 := fun e => g39 (by rw [hy, e]; rfl)
    rw [if_neg hdn] at hU
    have e : undbl I = none := hU
    rw [e]
    simp (maxSteps := 1000000) [hho, noHo, slotsOf, h1, h1i, ba, ba2, bb, bb2, hIs, h39, h39i, hlen, ew, h3, h3i, h3l, h3n, t5, g39, g39i, innR, undef, onGP_none, condG_false, -List.reduceReplicate]
    repeat (with_reducible refine And.intro (by omega) ?_)
    exact Ret.drop (by rfl) ⟨rfl, rfl⟩
theorem inn_len : ∀ s : List UInt8, (innR (innerL s)).1.length ≤ s.length := by
  intro s
  cases h : innerL s with
  | none => simp [innR]
  | some t =>
    have e := of_inner h
    have : t.length ≤ (dblQ t).length := by
      clear e h
      induction t with
      | nil => simp
      | cons c t ih =>
        rw [dblQ]
        split <;> simp only [List.length_cons] <;> omega
    rw [e]
    simp only [innR, List.length_cons, List.length_append]
    omega
def zV : List AV := [.c (.int .i64 0), .c (.int .i64 0), .c (.int .i64 0), .c (.string ByteArray.empty)]
set_option maxHeartbeats 16000000 in
theorem r3Parse_w (s : ByteArray) (hs : s.size ≤ 100000) : ACalls Tryz.prog 24 [.c (.string s)] [] (fun _ => false) (fun r h' => r = .tup [.agg (valA (pvR (parseR s.data.toList)).1), .c (.bool (pvR (parseR s.data.toList)).2)] ∧ h' = []) := by
  refine acalls mixed Tryz.func24 rfl Tryz.ntmps24 rfl fun E hE hst hho => ?_
  have ls : s.data.toList.length = s.size := rfl
  obtain ⟨Q, hQ⟩ : ∃ Q, Q = pvR (parseR s.data.toList) := ⟨_, rfl⟩
  rw [← hQ]
  unfold parseR at hQ
  by_cases hN : s = ⟨#[78, 85, 76, 76]⟩
  · rw [if_pos (show s.data.toList = nullB from ba_ne.1 hN)] at hQ
    rw [hQ]
    simp (maxSteps := 1000000) [hho, noHo, hN, valA, pvR, vN, undef, onGP_none, condG_false, -List.reduceReplicate]
    exact Ret.sel [] (fun _ => false) (ho := by rfl) (ha := by rfl) (by simp) (by simp) (by decide) (by simp) (fun i _ h => by cases h) ⟨rfl, rfl⟩
  rw [if_neg (show ¬ s.data.toList = nullB from fun h => hN (ba_ne.2 h))] at hQ
  by_cases hT : s = ⟨#[84, 82, 85, 69]⟩
  · rw [if_pos (show s.data.toList = trueB from ba_ne.1 hT)] at hQ
    rw [hQ]
    simp (maxSteps := 1000000) [hho, noHo, hT, valA, pvR, undef, onGP_none, condG_false, -List.reduceReplicate]
    exact Ret.sel [] (fun _ => false) (ho := by rfl) (ha := by rfl) (by simp) (by simp) (by decide) (by simp) (fun i _ h => by cases h) ⟨rfl, rfl⟩
  rw [if_neg (show ¬ s.data.toList = trueB from fun h => hT (ba_ne.2 h))] at hQ
  by_cases hF : s = ⟨#[70, 65, 76, 83, 69]⟩
  · rw [if_pos (show s.data.toList = falseB from ba_ne.1 hF)] at hQ
    rw [hQ]
    simp (maxSteps := 1000000) [hho, noHo, hF, valA, pvR, undef, onGP_none, condG_false, -List.reduceReplicate]
    exact Ret.sel [] (fun _ => false) (ho := by rfl) (ha := by rfl) (by simp) (by simp) (by decide) (by simp) (fun i _ h => by cases h) ⟨rfl, rfl⟩
  rw [if_neg (show ¬ s.data.toList = falseB from fun h => hF (ba_ne.2 h))] at hQ
  by_cases h0 : s.size = 0
  · have hse : s = ByteArray.empty := by
      apply ByteArray.ext
      apply Array.eq_empty_of_size_eq_zero
      exact h0
    rw [if_pos (by rw [hse]; rfl)] at hQ
    have hem : (ByteArray.empty = (⟨#[]⟩ : ByteArray)) = True := eq_true rfl
    rw [hQ, hse]
    simp (maxSteps := 1000000) [hho, noHo, valA, pvR, vN, hem, undef, onGP_none, condG_false, -List.reduceReplicate]
    exact Ret.sel [] (fun _ => false) (ho := by rfl) (ha := by rfl) (by simp) (by simp) (by decide) (by simp) (fun i _ h => by cases h) ⟨rfl, rfl⟩
  have hse : ¬ s = ByteArray.empty := fun e => h0 (by rw [e]; rfl)
  have hse2 : ¬ s = (⟨#[]⟩ : ByteArray) := hse
  rw [if_neg (show ¬ s.data.toList = [] from fun h => h0 (by rw [← ls, h]; rfl))] at hQ
  have ba := byte_at (s := s) (j := 0) (by omega)
  have ba2 := byte_at2 (s := s) (j := 0) (by omega)
  have bb := byte_at (s := s) (j := s.size - 1) (by omega)
  have bb2 := byte_at2 (s := s) (j := s.size - 1) (by omega)
  have hh : s.data.toList.head? = some (s.data.toList[0]'(by omega)) := by rw [List.head?_eq_getElem?, List.getElem?_eq_getElem (by omega)]
  have hl := getLast_at (l := s.data.toList) (by omega)
  obtain ⟨c, hc⟩ : ∃ c : UInt8, c = s.data.toList[0]'(by omega) := ⟨_, rfl⟩
  obtain ⟨d, hd⟩ : ∃ c : UInt8, c = s.data.toList[s.size - 1]'(by omega) := ⟨_, rfl⟩
  rw [← hc] at ba ba2 hh
  simp only [ls] at hl
  rw [← hd] at bb bb2 hl
  rw [hh, hl] at hQ
  obtain ⟨x, hx⟩ : ∃ x : Nat, x = c.toNat := ⟨_, rfl⟩
  obtain ⟨y, hy⟩ : ∃ x : Nat, x = d.toNat := ⟨_, rfl⟩
  rw [← hx] at ba ba2
  rw [← hy] at bb bb2
  have ew : IntKind.i64.wrap ((s.size : Int) - 1) = (s.size - 1 : Nat) := by rw [IntWalk.i64_in _ (by omega)]; omega
  have z1 : 0 < s.size := by omega
  have z2 : s.size - 1 < s.size := by omega
  have zz : ¬ s.size = 0 := h0
  by_cases x39 : x = 39
  · have x39i : (x : Int) = 39 := by omega
    have hc39 : c = 39 := UInt8.toNat_inj.1 (by rw [← hx, x39]; rfl)
    rw [if_pos (by rw [hc39])] at hQ
    have c1 := r3inner_w s hs
    have hil := inn_len s.data.toList
    cases hin : innerL s.data.toList with
    | none =>
      rw [hin] at c1 hQ hil
      have e : Q = (vN, false) := hQ
      rw [e]
      simp only [innR] at c1
      simp (maxSteps := 1000000) [hho, noHo, hN, hT, hF, hse, hse2, z1, ba, ba2, x39, x39i, undef, onGP_none, condG_false, -List.reduceReplicate]
      refine call_x [] (c1) rfl rfl ⟨rfl, rfl⟩ hho (by simp) (by decide) (by simp) (by simp) ?_
      simp (maxSteps := 1000000) [hho, noHo, valA, vN, undef, onGP_none, condG_false, -List.reduceReplicate]
      exact Ret.sel [] (fun _ => false) (ho := by rfl) (ha := by rfl) (by simp) (by simp) (by decide) (by simp) (fun i _ h => by cases h) ⟨rfl, rfl⟩
    | some t =>
      rw [hin] at c1 hQ hil
      simp only [innR] at c1 hil
      rw [Option.bind_some] at hQ
      have c2 := val_ref ⟨4, 0, 0, baL t⟩ (by show (baL t).size ≤ _; rw [ba_size]; omega)
      unfold okO at hQ
      by_cases ok : valOk ⟨4, 0, 0, baL t⟩ = true
      · rw [if_pos ok] at hQ
        rw [ok] at c2
        have e : Q = (⟨4, 0, 0, baL t⟩, true) := hQ
        rw [e]
        simp (maxSteps := 1000000) [hho, noHo, hN, hT, hF, hse, hse2, z1, ba, ba2, x39, x39i, undef, onGP_none, condG_false, -List.reduceReplicate]
        refine call_x [] (c1) rfl rfl ⟨rfl, rfl⟩ hho (by simp) (by decide) (by simp) (by simp) ?_
        simp (maxSteps := 1000000) [hho, noHo, undef, onGP_none, condG_false, -List.reduceReplicate]
        refine call_x [] (c2) rfl rfl ⟨rfl, rfl⟩ hho (by simp) (by decide) (by simp) (by simp) ?_
        simp (maxSteps := 1000000) [hho, noHo, valA, undef, onGP_none, condG_false, -List.reduceReplicate]
        exact Ret.sel [] (fun _ => false) (ho := by rfl) (ha := by rfl) (by simp) (by simp) (by decide) (by simp) (fun i _ h => by cases h) ⟨rfl, rfl⟩
      · rw [if_neg ok] at hQ
        rw [show valOk ⟨4, 0, 0, baL t⟩ = false by simpa using ok] at c2
        have e : Q = (vN, false) := hQ
        rw [e]
        simp (maxSteps := 1000000) [hho, noHo, hN, hT, hF, hse, hse2, z1, ba, ba2, x39, x39i, undef, onGP_none, condG_false, -List.reduceReplicate]
        refine call_x [] (c1) rfl rfl ⟨rfl, rfl⟩ hho (by simp) (by decide) (by simp) (by simp) ?_
        simp (maxSteps := 1000000) [hho, noHo, undef, onGP_none, condG_false, -List.reduceReplicate]
        refine call_x [] (c2) rfl rfl ⟨rfl, rfl⟩ hho (by simp) (by decide) (by simp) (by simp) ?_
        simp (maxSteps := 1000000) [hho, noHo, valA, vN, undef, onGP_none, condG_false, -List.reduceReplicate]
        exact Ret.sel [] (fun _ => false) (ho := by rfl) (ha := by rfl) (by simp) (by simp) (by decide) (by simp) (fun i _ h => by cases h) ⟨rfl, rfl⟩
  have x39i : ¬ (x : Int) = 39 := by omega
  rw [if_neg (fun h => x39 (by rw [hx, Option.some.inj h]; rfl))] at hQ
  by_cases x88 : x = 88
  case neg =>
    have x88i : ¬ (x : Int) = 88 := by omega
    rw [if_neg (fun h => x88 (by rw [hx, Option.some.inj h]; rfl))] at hQ
    by_cases y46 : y = 46
    · have y46i : (y : Int) = 46 := by omega
      have hd46 : d = 46 := UInt8.toNat_inj.1 (by rw [← hy, y46]; rfl)
      rw [if_pos (by rw [hd46])] at hQ
      have hex : s.extract 0 (s.size - 1) = baL s.data.toList.dropLast := by
        have : s = baL s.data.toList := rfl
        conv => lhs; rw [this]
        rw [ba_ext, ba_size, ls, List.drop_zero, List.dropLast_eq_take, ls]
        simp
      have c1 := r2Parse_w (baL s.data.toList.dropLast) (by rw [ba_size, List.length_dropLast]; omega)
      rw [toL_ba] at c1
      cases hp : decP s.data.toList.dropLast with
      | none =>
        rw [hp] at c1 hQ
        have e : Q = (vN, false) := hQ
        rw [e]
        simp only [dec3, r3A] at c1
        simp (maxSteps := 1000000) [hho, noHo, hN, hT, hF, hse, hse2, z1, z2, ba, ba2, bb, bb2, x39, x39i, x88, x88i, y46, y46i, ew, hex, undef, onGP_none, condG_false, -List.reduceReplicate]
        refine call_x [] (c1) rfl rfl ⟨rfl, rfl⟩ hho (by simp) (by decide) (by simp) (by simp) ?_
        simp (maxSteps := 1000000) [hho, noHo, valA, vN, undef, onGP_none, condG_false, -List.reduceReplicate]
        exact Ret.sel [] (fun _ => false) (ho := by rfl) (ha := by rfl) (by simp) (by simp) (by decide) (by simp) (fun i _ h => by cases h) ⟨rfl, rfl⟩
      | some p =>
        rw [hp] at c1 hQ
        rw [Option.bind_some] at hQ
        obtain ⟨n, k⟩ := p
        simp only [dec3, r3A] at c1 hQ
        by_cases hk : 0 < k
        · have hki : (0 : Int) < k := by omega
          rw [if_pos hk] at hQ
          have e : Q = (vN, false) := hQ
          rw [e]
          simp (maxSteps := 1000000) [hho, noHo, hN, hT, hF, hse, hse2, z1, z2, ba, ba2, bb, bb2, x39, x39i, x88, x88i, y46, y46i, ew, hex, undef, onGP_none, condG_false, -List.reduceReplicate]
          refine call_x [] (c1) rfl rfl ⟨rfl, rfl⟩ hho (by simp) (by decide) (by simp) (by simp) ?_
          simp (maxSteps := 1000000) [hho, noHo, hk, hki, valA, vN, undef, onGP_none, condG_false, -List.reduceReplicate]
          exact Ret.sel [] (fun _ => false) (ho := by rfl) (ha := by rfl) (by simp) (by simp) (by decide) (by simp) (fun i _ h => by cases h) ⟨rfl, rfl⟩
        · have hki : ¬ (0 : Int) < k := by omega
          rw [if_neg hk] at hQ
          have e : Q = (⟨3, n, 0, ByteArray.empty⟩, true) := hQ
          rw [e]
          simp (maxSteps := 1000000) [hho, noHo, hN, hT, hF, hse, hse2, z1, z2, ba, ba2, bb, bb2, x39, x39i, x88, x88i, y46, y46i, ew, hex, undef, onGP_none, condG_false, -List.reduceReplicate]
          refine call_x [] (c1) rfl rfl ⟨rfl, rfl⟩ hho (by simp) (by decide) (by simp) (by simp) ?_
          simp (maxSteps := 1000000) [hho, noHo, hk, hki, valA, undef, onGP_none, condG_false, -List.reduceReplicate]
          exact Ret.sel [] (fun _ => false) (ho := by rfl) (ha := by rfl) (by simp) (by simp) (by decide) (by simp) (fun i _ h => by cases h) ⟨rfl, rfl⟩
    · have y46i : ¬ (y : Int) = 46 := by omega
      rw [if_neg (fun h => y46 (by rw [hy, Option.some.inj h]; rfl))] at hQ
      have c1 := r2Parse_w s hs
      cases hp : decP s.data.toList with
      | none =>
        rw [hp] at c1 hQ
        have e : Q = (vN, false) := hQ
        rw [e]
        simp only [dec3, r3A] at c1
        simp (maxSteps := 1000000) [hho, noHo, hN, hT, hF, hse, hse2, z1, z2, ba, ba2, bb, bb2, x39, x39i, x88, x88i, y46, y46i, ew, undef, onGP_none, condG_false, -List.reduceReplicate]
        refine call_x [] (c1) rfl rfl ⟨rfl, rfl⟩ hho (by simp) (by decide) (by simp) (by simp) ?_
        simp (maxSteps := 1000000) [hho, noHo, valA, vN, undef, onGP_none, condG_false, -List.reduceReplicate]
        exact Ret.sel [] (fun _ => false) (ho := by rfl) (ha := by rfl) (by simp) (by simp) (by decide) (by simp) (fun i _ h => by cases h) ⟨rfl, rfl⟩
      | some p =>
        rw [hp] at c1 hQ
        rw [Option.map_some] at hQ
        obtain ⟨n, k⟩ := p
        simp only [dec3, r3A] at c1 hQ
        by_cases hk : 0 < k
        · have hki : (0 : Int) < k := by omega
          rw [if_pos hk] at hQ
          have e : Q = (⟨3, n, k, ByteArray.empty⟩, true) := hQ
          rw [e]
          simp (maxSteps := 1000000) [hho, noHo, hN, hT, hF, hse, hse2, z1, z2, ba, ba2, bb, bb2, x39, x39i, x88, x88i, y46, y46i, ew, undef, onGP_none, condG_false, -List.reduceReplicate]
          refine call_x [] (c1) rfl rfl ⟨rfl, rfl⟩ hho (by simp) (by decide) (by simp) (by simp) ?_
          simp (maxSteps := 1000000) [hho, noHo, hk, hki, valA, undef, onGP_none, condG_false, -List.reduceReplicate]
          exact Ret.sel [] (fun _ => false) (ho := by rfl) (ha := by rfl) (by simp) (by simp) (by decide) (by simp) (fun i _ h => by cases h) ⟨rfl, rfl⟩
        · have hki : ¬ (0 : Int) < k := by omega
          rw [if_neg hk] at hQ
          have e : Q = (⟨2, n, 0, ByteArray.empty⟩, true) := hQ
          rw [e]
          simp (maxSteps := 1000000) [hho, noHo, hN, hT, hF, hse, hse2, z1, z2, ba, ba2, bb, bb2, x39, x39i, x88, x88i, y46, y46i, ew, undef, onGP_none, condG_false, -List.reduceReplicate]
          refine call_x [] (c1) rfl rfl ⟨rfl, rfl⟩ hho (by simp) (by decide) (by simp) (by simp) ?_
          simp (maxSteps := 1000000) [hho, noHo, hk, hki, valA, undef, onGP_none, condG_false, -List.reduceReplicate]
          exact Ret.sel [] (fun _ => false) (ho := by rfl) (ha := by rfl) (by simp) (by simp) (by decide) (by simp) (fun i _ h => by cases h) ⟨rfl, rfl⟩
  have x88i : (x : Int) = 88 := by omega
  have hc88 : c = 88 := UInt8.toNat_inj.1 (by rw [← hx, x88]; rfl)
  rw [if_pos (by rw [hc88])] at hQ
  have hex : s.extract 1 s.size = baL s.data.toList.tail := by
    have : s = baL s.data.toList := rfl
    conv => lhs; rw [this]
    rw [ba_ext, ba_size, ls, List.drop_one, List.take_of_length_le (by rw [List.length_tail, ls]; omega)]
  have c1 := r3inner_w (baL s.data.toList.tail) (by rw [ba_size, List.length_tail]; omega)
  rw [toL_ba] at c1
  have hil := inn_len s.data.toList.tail
  rw [List.length_tail, ls] at hil
  have z3 : 1 ≤ s.size := by omega
  cases hin : innerL s.data.toList.tail with
  | none =>
    rw [hin] at c1 hQ
    have e : Q = (vN, false) := hQ
    rw [e]
    simp only [innR] at c1
    simp (maxSteps := 1000000) [hho, noHo, hN, hT, hF, hse, hse2, z1, ba, ba2, x39, x39i, x88, x88i, hex, undef, onGP_none, condG_false, -List.reduceReplicate]
    refine ⟨by omega, ?_⟩
    refine call_x [] (c1) rfl rfl ⟨rfl, rfl⟩ hho (by simp) (by decide) (by simp) (by simp) ?_
    simp (maxSteps := 1000000) [hho, noHo, valA, vN, undef, onGP_none, condG_false, -List.reduceReplicate]
    exact Ret.sel [] (fun _ => false) (ho := by rfl) (ha := by rfl) (by simp) (by simp) (by decide) (by simp) (fun i _ h => by cases h) ⟨rfl, rfl⟩
  | some H =>
  rw [hin] at c1 hQ hil
  simp only [innR] at c1 hil
  rw [Option.bind_some] at hQ
  have hHs : (baL H).size = H.length := ba_size H
  by_cases hodd : H.length % 2 = 0
  case neg =>
    have hoi : ((H.length : Int)).tmod 2 = 1 := by rw [Int.tmod_eq_emod_of_nonneg (by omega)]; omega
    have e : Q = (vN, false) := by rw [hQ, unhex_odd H.length H (Nat.le_refl _) hodd]; rfl
    rw [e]
    simp (maxSteps := 1000000) [hho, noHo, hN, hT, hF, hse, hse2, z1, ba, ba2, x39, x39i, x88, x88i, hex, undef, onGP_none, condG_false, -List.reduceReplicate]
    refine ⟨by omega, ?_⟩
    refine call_x [] (c1) rfl rfl ⟨rfl, rfl⟩ hho (by simp) (by decide) (by simp) (by simp) ?_
    simp (maxSteps := 1000000) [hho, noHo, hHs, hoi, valA, vN, undef, onGP_none, condG_false, -List.reduceReplicate]
    exact Ret.sel [] (fun _ => false) (ho := by rfl) (ha := by rfl) (by simp) (by simp) (by decide) (by simp) (fun i _ h => by cases h) ⟨rfl, rfl⟩
  have hoi : ¬ ((H.length : Int)).tmod 2 = 1 := by rw [Int.tmod_eq_emod_of_nonneg (by omega)]; omega
  simp (maxSteps := 1000000) [hho, noHo, hN, hT, hF, hse, hse2, z1, ba, ba2, x39, x39i, x88, x88i, hex, undef, onGP_none, condG_false, -List.reduceReplicate]
  refine ⟨by omega, ?_⟩
  refine call_x [] (c1) rfl rfl ⟨rfl, rfl⟩ hho (by simp) (by decide) (by simp) (by simp) ?_
  simp (maxSteps := 1000000) [hho, noHo, hHs, hoi, undef, onGP_none, condG_false, -List.reduceReplicate]
  clear ba ba2 bb bb2 hex c1
  have hbat := fun (j : Nat) (h : j < H.length) => byte_at (s := baL H) (j := j) (by rw [toL_ba]; exact h)
  have hbat2 := fun (j : Nat) (h : j < H.length) => byte_at2 (s := baL H) (j := j) (by rw [toL_ba]; exact h)
  simp only [toL_ba] at hbat hbat2
  refine loop_k mixed (fun y : Nat × List UInt8 => ⟨slotsOf 157 [(2, .ptr 0 0 4), (4, .ptr 1 0 4), (7, .c (.string (baL H))), (9, .sl 2 1 0 y.2.length y.2.length), (10, .c (.int .i64 ((2 * y.1 : Nat) : Int)))], [.o .box zV, .o .box zV, .o (.row 5 1) (u8av y.2)]⟩) (fun y => H.length - 2 * y.1) (fun y => 2 * y.1 ≤ H.length ∧ y.2.length = y.1 ∧ unhexL H = (unhexL (H.drop (2 * y.1))).map (y.2 ++ ·)) (0, []) ⟨Nat.zero_le _, rfl, by simp⟩ ?_ ?_
  · refine Wk.trans (wk_virt 9 5 1 rfl) ?_
    exact wk_eq (by simp [hE, lens]) (by simp [u8av, zV]) (by simp [livH, livO, AV.livL, AV.liv, wkL, wkV, List.range', slotsOf])
  rintro ⟨n, t⟩ ⟨hj1, hj2, hI⟩
  simp only at hj1 hj2 hI
  have hlen : (u8av t).length = t.length := by simp [u8av]
  by_cases h1 : 2 * n < H.length
  case neg =>
    have h1i : ¬ (2 * (n : Int)) < H.length := by omega
    have eU : unhexL H = some t := by
      rw [hI, List.drop_eq_nil_of_le (by omega)]
      simp [unhexL]
    have htk : List.take t.length (u8av t) = u8av t := List.take_of_length_le (by omega)
    rw [eU, Option.bind_some] at hQ
    have c2 := val_ref ⟨5, 0, 0, baL t⟩ (by show (baL t).size ≤ _; rw [ba_size]; omega)
    unfold okO at hQ
    by_cases ok : valOk ⟨5, 0, 0, baL t⟩ = true
    · rw [if_pos ok] at hQ
      rw [ok] at c2
      have e : Q = (⟨5, 0, 0, baL t⟩, true) := hQ
      rw [e]
      simp (maxSteps := 1000000) [hho, noHo, slotsOf, h1, h1i, hHs, bytesOf_ba, hlen, htk, zV, undef, onGP_none, condG_false, -List.reduceReplicate]
      refine call_x [] (c2) rfl rfl ⟨rfl, rfl⟩ hho (by simp) (by decide) (by simp) (by simp) ?_
      simp (maxSteps := 1000000) [hho, noHo, valA, undef, onGP_none, condG_false, -List.reduceReplicate]
      exact Ret.sel [] (fun _ => false) (ho := by rfl) (ha := by rfl) (by simp) (by simp) (by decide) (by simp) (fun i _ h => by cases h) ⟨rfl, rfl⟩
    · rw [if_neg ok] at hQ
      rw [show valOk ⟨5, 0, 0, baL t⟩ = false by simpa using ok] at c2
      have e : Q = (vN, false) := hQ
      rw [e]
      simp (maxSteps := 1000000) [hho, noHo, slotsOf, h1, h1i, hHs, bytesOf_ba, hlen, htk, zV, undef, onGP_none, condG_false, -List.reduceReplicate]
      refine call_x [] (c2) rfl rfl ⟨rfl, rfl⟩ hho (by simp) (by decide) (by simp) (by simp) ?_
      simp (maxSteps := 1000000) [hho, noHo, valA, vN, undef, onGP_none, condG_false, -List.reduceReplicate]
      exact Ret.sel [] (fun _ => false) (ho := by rfl) (ha := by rfl) (by simp) (by simp) (by decide) (by simp) (fun i _ h => by cases h) ⟨rfl, rfl⟩
  have h1i : (2 * (n : Int)) < H.length := by omega
  have h12 : 2 * n + 1 < H.length := by omega
  have hdr : H.drop (2 * n) = H[2 * n] :: H[2 * n + 1] :: H.drop (2 * (n + 1)) := by
    rw [List.drop_eq_getElem_cons (by omega), List.drop_eq_getElem_cons (i := 2 * n + 1) (by omega)]
    rfl
  rw [hdr, unhex_two] at hI
  obtain ⟨a, ha⟩ : ∃ c : UInt8, c = H[2 * n] := ⟨_, rfl⟩
  obtain ⟨b, hb⟩ : ∃ c : UInt8, c = H[2 * n + 1] := ⟨_, rfl⟩
  rw [← ha, ← hb] at hI
  simp (maxSteps := 1000000) [hho, noHo, slotsOf, h1, h1i, hHs, undef, onGP_none, condG_false, -List.reduceReplicate]
  refine loop_k mixed (fun y : Nat × Nat => ⟨slotsOf 157 [(2, .ptr 0 0 4), (4, .ptr 1 0 4), (7, .c (.string (baL H))), (9, .sl 2 1 0 t.length t.length), (10, .c (.int .i64 ((2 * n : Nat) : Int))), (11, .c (.int .i64 (y.2 : Nat))), (12, .c (.int .i64 ((2 * n + y.1 : Nat) : Int)))], [.o .box zV, .o .box zV, .o (.row 5 1) (u8av t)]⟩) (fun y => 2 - y.1) (fun y => (y.1 = 0 ∧ y.2 = 0) ∨ (y.1 = 1 ∧ unD a = some y.2 ∧ y.2 < 16) ∨ (y.1 = 2 ∧ ∃ p q, unD a = some p ∧ unD b = some q ∧ y.2 = 16 * p + q ∧ p < 16 ∧ q < 16)) (0, 0) (.inl ⟨rfl, rfl⟩) ?_ ?_
  · exact wk_eq (by simp [hE, lens]) (by simp [zV]) (by simp [livH, livO, AV.livL, AV.liv, wkL, wkV, List.range', slotsOf])
  rintro ⟨j, v⟩ hJ
  have hjv : j ≤ 2 ∧ v < 256 := by
    rcases hJ with ⟨e1, e2⟩ | ⟨e1, e2, e3⟩ | ⟨e1, p, q, e2, e3, e4, e5, e6⟩ <;> simp only at * <;> omega
  have ek : IntKind.i64.wrap (2 * (n : Int) + 2) = 2 * (n : Int) + 2 := IntWalk.i64_in _ (by omega)
  by_cases hj2' : j < 2
  case neg =>
    obtain ⟨p, q, ep, eq, ev, lp, lq⟩ : ∃ p q, unD a = some p ∧ unD b = some q ∧ v = 16 * p + q ∧ p < 16 ∧ q < 16 := by
      rcases hJ with ⟨e1, e2⟩ | ⟨e1, e2, e3⟩ | ⟨e1, e2⟩
      · simp only at e1; omega
      · simp only at e1; omega
      · exact e2
    rw [ep, eq] at hI
    have hji : ¬ (2 * (n : Int) + j < 2 * (n : Int) + 2) := by omega
    have ev8 : IntKind.u8.wrap (v : Int) = v := u8_small ⟨by omega, by omega⟩
    have evt : ((v : Int)).toNat = v := by omega
    have hun : (UInt8.ofNat v).toNat = v := by rw [UInt8.toNat_ofNat']; omega
    have hone : u8av (t ++ [UInt8.ofNat v]) = u8av t ++ [.c (.int .u8 (v : Nat))] := by rw [u8av_app, u8av_one, hun]
    simp (maxSteps := 1000000) [hho, noHo, slotsOf, ek, hji, hj2', ev8, hlen, undef, onGP_none, condG_false, -List.reduceReplicate]
    refine ⟨by omega, round_next (n + 1, t ++ [UInt8.ofNat v]) ⟨by simp only; omega, by simp [hj2], ?_⟩ (by simp only; omega) ?_⟩
    · rw [hI]
      simp only [Option.bind_some, Option.map_map, ev]
      congr 1
      funext l
      simp
    exact wk_of 3 1 (by simp) (by simp [hE, lens]) (by simp [hone, zV]) (by simp [livH, livO, AV.livL, AV.liv, wkL, wkV, List.range', zV]) (by simp [livH, livO, AV.livL, AV.liv, wkL, wkV, List.range', slotsOf, ek, Int.mul_add])
  have hji : 2 * (n : Int) + j < 2 * (n : Int) + 2 := by omega
  have hkl : 2 * n + j < H.length := by omega
  have hkli : 2 * (n : Int) + j < H.length := by omega
  have ba := hbat (2 * n + j) hkl
  have ba2 := hbat2 (2 * n + j) hkl
  obtain ⟨z, hz⟩ : ∃ c : UInt8, c = H[2 * n + j] := ⟨_, rfl⟩
  rw [← hz] at ba ba2
  have hzz : (j = 0 → z = a) ∧ (j = 1 → z = b) := by
    refine ⟨fun e => ?_, fun e => ?_⟩
    · subst e; rw [hz, ha]; rfl
    · subst e; rw [hz, hb]
  obtain ⟨w, hw⟩ : ∃ x : Nat, x = z.toNat := ⟨_, rfl⟩
  rw [← hw] at ba ba2
  have tk : (2 * (n : Int) + j).toNat = 2 * n + j := by omega
  have tk0 : (0 : Int) ≤ 2 * (n : Int) + j := by omega
  simp (maxSteps := 1000000) [hho, noHo, slotsOf, ek, hji, hj2', undef, onGP_none, condG_false, -List.reduceReplicate]
  refine loop_k mixed (fun d : Nat => ⟨slotsOf 157 [(2, .ptr 0 0 4), (4, .ptr 1 0 4), (7, .c (.string (baL H))), (9, .sl 2 1 0 t.length t.length), (10, .c (.int .i64 ((2 * n : Nat) : Int))), (11, .c (.int .i64 (v : Nat))), (12, .c (.int .i64 ((2 * n + j : Nat) : Int))), (13, .c (.int .i64 (d : Nat)))], [.o .box zV, .o .box zV, .o (.row 5 1) (u8av t)]⟩) (fun d => 16 - d) (fun d => d ≤ 16 ∧ ∀ e, e < d → hexD e ≠ z) 0 ⟨Nat.zero_le _, fun e h => by omega⟩ ?_ ?_
  · exact wk_eq (by simp [hE, lens]) (by simp [zV]) (by simp [livH, livO, AV.livL, AV.liv, wkL, wkV, List.range', slotsOf])
  rintro g ⟨hg, hne⟩
  have x7 : (⟨#[48, 49, 50, 51, 52, 53, 54, 55, 56, 57, 65, 66, 67, 68, 69, 70]⟩ : ByteArray).size = 16 := rfl
  by_cases hg16 : g = 16
  · subst hg16
    have hzn : unD z = none := by
      cases h : unD z with
      | none => rfl
      | some e => exact absurd (hex_unD h).1 (hne e (hex_unD h).2)
    have e : Q = (vN, false) := by
      rw [hQ]
      have : unhexL H = none := by
        rw [hI]
        rcases hJ with ⟨e1, e2⟩ | ⟨e1, e2, e3⟩ | ⟨e1, e2⟩
        · rw [← hzz.1 e1, hzn]; rfl
        · rw [← hzz.2 e1, hzn, e2]; rfl
        · simp only at e1; omega
      rw [this]; rfl
    rw [e]
    simp (maxSteps := 1000000) [hho, noHo, slotsOf, undef, onGP_none, condG_false, -List.reduceReplicate]
    refine draw_k hho (.take 0 (.take 1 (.take 2 (.take 3 (.take 4 (.take 5 (.take 6 (.take 7 (.take 8 (.take 9 (.done))))))))))) [] [] (by decide +kernel) (by simp) ?_
    simp (maxSteps := 1000000) [hho, noHo, undef, onGP_none, condG_false, x7, hHs, hkl, hkli, tk, tk0, ba, ba2, valA, vN, zV, roOf, holdOf, wrOf, altK, heldOk, Region.binds, -List.reduceReplicate]
    exact Ret.sel [] (fun _ => false) (ho := by rfl) (ha := by rfl) (by simp) (by simp) (by decide) (by simp) (fun i _ h => by cases h) ⟨rfl, rfl⟩
  have hgl : g < 16 := by omega
  have hgi : (g : Int) < 16 := by omega
  have hgi2 : ¬ (g : Int) = 16 := by omega
  have q1 := hex_at hgl
  have q2 := hex_atL hgl
  have q3 : ([48, 49, 50, 51, 52, 53, 54, 55, 56, 57, 65, 66, 67, 68, 69, 70] : List UInt8)[g]'(by simpa using hgl) = hexD g := by
    rw [← q2, List.getElem?_eq_getElem (by simpa using hgl)]; rfl
  obtain ⟨y, hy⟩ : ∃ y : Nat, y = (hexD g).toNat := ⟨_, rfl⟩
  have eg : IntKind.i64.wrap ((g : Int) + 1) = (g + 1 : Nat) := by rw [IntWalk.i64_in _ (by omega)]; rfl
  by_cases hyw : y = w
  · have hywi : (y : Int) = w := by omega
    have hgz : hexD g = z := UInt8.toNat_inj.1 (by rw [← hy, ← hw, hyw])
    have hzu : unD z = some g := by rw [← hgz]; exact unD_hex hgl
    have e1 : IntKind.i64.wrap (16 * (v : Int)) = 16 * (v : Int) := IntWalk.i64_in _ (by omega)
    have e2 : IntKind.i64.wrap (16 * (v : Int) + g) = 16 * (v : Int) + g := IntWalk.i64_in _ (by omega)
    have e3 : IntKind.i64.wrap (2 * (n : Int) + j + 1) = 2 * (n : Int) + j + 1 := IntWalk.i64_in _ (by omega)
    simp (maxSteps := 1000000) [hho, noHo, slotsOf, undef, onGP_none, condG_false, -List.reduceReplicate]
    refine draw_k hho (.take 0 (.take 1 (.take 2 (.take 3 (.take 4 (.take 5 (.take 6 (.take 7 (.take 8 (.take 9 (.done))))))))))) [] [] (by decide +kernel) (by simp) ?_
    simp (maxSteps := 1000000) [hho, noHo, x7, hHs, hkl, hkli, tk, tk0, ba, ba2, hgl, hgi, hgi2, hg16, q1, q2, q3, ← hy, hyw, hywi, e1, e2, e3, roOf, holdOf, wrOf, altK, heldOk, Region.binds, -List.reduceReplicate]
    repeat (with_reducible refine And.intro (by omega) ?_)
    refine round_next (j + 1, 16 * v + g) ?_ (show 2 - (j + 1) < 2 - j by omega) ?_
    · rcases hJ with ⟨f1, f2⟩ | ⟨f1, f2, f3⟩ | ⟨f1, f2⟩
      · simp only at f1 f2
        subst f1 f2
        rw [hzz.1 rfl] at hzu
        exact .inr (.inl ⟨rfl, by simpa using hzu, by simp only; omega⟩)
      · simp only at f1 f2 f3
        subst f1
        rw [hzz.2 rfl] at hzu
        exact .inr (.inr ⟨rfl, v, f2, g, hzu, rfl, f3, hgl⟩)
      · simp only at f1; omega
    exact wk_of 3 0 (by simp) (by simp [hE, lens]) (by simp [zV]) (by simp [livH, livO, AV.livL, AV.liv, wkL, wkV, List.range', zV]) (by simp [livH, livO, AV.livL, AV.liv, wkL, wkV, List.range', slotsOf, Int.add_assoc])
  · have hywi : ¬ (y : Int) = w := by omega
    have hgz : hexD g ≠ z := fun e => hyw (by rw [hy, hw, e])
    simp (maxSteps := 1000000) [hho, noHo, slotsOf, undef, onGP_none, condG_false, -List.reduceReplicate]
    refine draw_k hho (.take 0 (.take 1 (.take 2 (.take 3 (.take 4 (.take 5 (.take 6 (.take 7 (.take 8 (.take 9 (.done))))))))))) [] [] (by decide +kernel) (by simp) ?_
    simp (maxSteps := 1000000) [hho, noHo, x7, hHs, hkl, hkli, tk, tk0, ba, ba2, hgl, hgi, hgi2, hg16, q1, q2, q3, ← hy, hyw, hywi, roOf, holdOf, wrOf, altK, heldOk, Region.binds, -List.reduceReplicate]
    repeat (with_reducible refine And.intro (by omega) ?_)
    refine round_next (g + 1) ⟨by omega, fun e h => ?_⟩ (show 16 - (g + 1) < 16 - g by omega) ?_
    · by_cases he : e = g
      · rw [he]; exact hgz
      · exact hne e (by omega)
    exact wk_of 3 0 (by simp) (by simp [hE, lens]) (by simp [zV]) (by simp [livH, livO, AV.livL, AV.liv, wkL, wkV, List.range', zV]) (by simp [livH, livO, AV.livL, AV.liv, wkL, wkV, List.range', slotsOf, eg])
end Go.Proofs.YtjgdlocgoiinbaaGreatDoor
