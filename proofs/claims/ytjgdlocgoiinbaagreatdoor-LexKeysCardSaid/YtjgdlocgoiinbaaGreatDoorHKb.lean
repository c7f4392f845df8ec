import Derived.Test.YtjgdlocgoiinbaaGreatDoorHKa
namespace Go.Proofs.YtjgdlocgoiinbaaGreatDoor
set_option linter.unusedVariables false
set_option linter.unusedSimpArgs false
open Go.RowKit Go.Shelf Go.Lib
attribute [local simp] isCut_nil isCut_region isCut_seq isCut_block isCut_loop isCut_cond isCut_skip isCut_exit isCut_ret isCut_range swapK putK altK condK_bool pickP_bool stepP stepO onPure_some onPure_none onImpl_some onImpl_none stepC onGP_some onGP_none onGV_some condG mkG onIt_it nextP_ptr takeP_eq takeV_some takeV_none takeU_some takeU_none takeQ takeW_some takeN_none takeN_some takeG_some takeO_some altO_some pureV binV2 eqF eqOp ovlV ovl2 rowAt capV binV intBin strBin isSh shV fldV ixV sliceV slice3V loadAV nilV lenV callV unV convV viewS cellsH loadV fldCut AV.ung AV.ungs AV.gc AV.cells AS.ev AS.put anyS gcsV gcO lens lnO gV guardV retK RetP_eq resV oneV anyRo loIx hiIx implO callP_clo evL gcsL clearV storeAV AS.push AS.setO appV appZ shortS copyV buildV partsV fillV srcV fzO okV isCell_c isCell_ptr isCell_sl isCell_fs isCell_fp isCell_clo rowZ_one rowZ_zero rowZ_2 rowZ_3 rowZ_4 rowZ_5 rowZ_6 rowZ_7 rowZ_8 rowZ_9 rowZ_10 rowZ_11 rowZ_12 noHo Value.oneCell' max2V min2V lookV updV lenM msAt afterH putBack frzFrom frzO rebO backIx nilEq_sl nilEq_fs nilEq_ifn nilEq_ifh ifOp_eql ifOp_neq isLit nilOp_eql nilOp_neq AV.reb AV.rebL
attribute [local simp ↓] runK_skip runK_region runK_draw runK_seq runK_cut runK_cond runK_block runK_loop runK_exit runK_label runK_goto runK_ret runK_range contK_nil contK_seq contK_seq_ret contK_seq_exit contK_seq_goto contK_block contK_block_ret contK_block_goto contK_block_exit runO_nil runO_cons roundK_exit roundK_ret roundK_goto exitK_ret cutK_ret cutK_exit runE_done runE_nil runE_take runE_alt condG_true condG_false
set_option maxRecDepth 10000
def zT : List AV := [.c (.int .i64 0), .c (.int .i64 0), .c (.string ByteArray.empty), .c (.int .i64 0), .c (.int .i64 0), .c (.int .i64 0), .c (.string ByteArray.empty)]
theorem tw_split (p : UInt8 → Bool) (s : List UInt8) : s = s.takeWhile p ++ s.dropWhile p := (tw_dw p s).symm
theorem ext_from {s : ByteArray} {D R : List UInt8} (h : s.data.toList = D ++ R) : s.extract D.length s.size = baL R := by
  have hb : s = baL (D ++ R) := by rw [← h]; rfl
  rw [hb, ba_ext, ba_size, List.drop_left, List.take_of_length_le (by simp)]
set_option maxHeartbeats 8000000 in
theorem number_w17 (s : ByteArray) (hs : s.size ≤ 50000) : ACalls Tryz.prog 89 [.c (.string s)] [] (fun _ => false) (fun r h' => r = tokR (numP17 s.data.toList) ∧ h' = []) := by
  refine acallsC [5] mixed Tryz.func89 rfl Tryz.ntmps89 rfl fun E hE hst hho => ?_
  have ls : s.data.toList.length = s.size := rfl
  have c1 := row_w 88 isDig (by simp) digit_w s (by omega)
  have hsp := tw_split isDig s.data.toList
  have hnw : numW s.data.toList = (match s.data.toList.dropWhile isDig with
    | 46 :: d :: r => if isDig d = true then s.data.toList.takeWhile isDig ++ 46 :: (d :: r).takeWhile isDig else s.data.toList.takeWhile isDig
    | _ => s.data.toList.takeWhile isDig) := rfl
  have hlen := congrArg List.length hsp
  rw [List.length_append] at hlen
  have hext := ext_from hsp
  obtain ⟨W, hW⟩ : ∃ W, W = numW s.data.toList := ⟨_, rfl⟩
  have hWl := (numW_take s.data.toList).2
  rw [← hW] at hnw hWl
  unfold numP17
  rw [← hW]
  clear hW hsp
  obtain ⟨D, hD⟩ : ∃ D, D = s.data.toList.takeWhile isDig := ⟨_, rfl⟩
  obtain ⟨R, hR⟩ : ∃ D, D = s.data.toList.dropWhile isDig := ⟨_, rfl⟩
  rw [← hD] at c1 hnw hext hlen
  rw [← hR] at hnw hext hlen
  rw [ls] at hlen hWl
  have hDs := ba_size D
  have hRs := ba_size R
  obtain ⟨B, hB⟩ : ∃ B : ByteArray, B = baL R := ⟨_, rfl⟩
  have hBl : B.data.toList = R := by rw [hB]; rfl
  rw [← hB] at hext hRs
  have hdig := fun c : UInt8 => digit_w c
  simp (maxSteps := 1000000) [hho, noHo, -List.reduceReplicate]
  refine call_x [] (c1) rfl rfl ⟨rfl, rfl⟩ hho (by simp) (by decide) (by simp) (by simp) ?_
  simp (maxSteps := 1000000) [hho, noHo, undef, onGP_none, condG_false, -List.reduceReplicate]
  refine seq_cut mixed [] (fun _ : Unit => ⟨slotsOf 54 [(2, .ptr 0 0 7), (5, .c (.string (baL W)))], [.o .box zT]⟩) (fun _ => True) ?_ ?_
  case refine_1 =>
    rintro ⟨⟩ -
    have c3 := dcParse_w (baL W) (by rw [ba_size]; omega)
    rw [toL_ba] at c3
    have hWs := ba_size W
    obtain ⟨d, hd⟩ : ∃ d, d = dec3 (decP W) := ⟨_, rfl⟩
    rw [← hd] at c3 ⊢
    obtain ⟨n, k, b⟩ := d
    unfold r3A at c3
    simp only at c3
    unfold tokR tokA numV
    simp only
    simp (maxSteps := 1000000) [hho, noHo, slotsOf, zT, undef, onGP_none, condG_false, -List.reduceReplicate]
    refine call_x [] (c3) rfl rfl ⟨rfl, rfl⟩ hho (by simp) (by decide) (by simp) (by simp) ?_
    by_cases hk : 0 < k
    · rw [if_pos hk]
      simp (maxSteps := 1000000) [hho, noHo, hk, hWs, undef, onGP_none, condG_false, -List.reduceReplicate]
      exact ret_tok ⟨rfl, rfl⟩
    · rw [if_neg hk]
      simp (maxSteps := 1000000) [hho, noHo, hk, hWs, undef, onGP_none, condG_false, -List.reduceReplicate]
      exact ret_tok ⟨rfl, rfl⟩
  by_cases h2 : 1 < R.length
  case neg =>
    have h2i : ¬ (1 : Int) < R.length := by omega
    have eW : W = D := by
      rw [hnw]
      cases R with
      | nil => rfl
      | cons x R =>
        cases R with
        | nil =>
          split
          · rename_i h; cases h
          · rfl
        | cons y R => simp at h2
    simp (maxSteps := 1000000) [hho, noHo, hDs, hext, hRs, h2, h2i, undef, onGP_none, condG_false, -List.reduceReplicate]
    repeat (with_reducible refine And.intro (by omega) ?_)
    exact cut_to () trivial (wk_eq (by simp [hE, lens]) (by simp [zT]) (by simp [livH, livO, AV.livL, AV.liv, wkL, wkV, List.range', slotsOf, eW]))
  have h2i : (1 : Int) < R.length := by omega
  obtain ⟨x, y, r, rfl⟩ : ∃ x y r, R = x :: y :: r := by
    cases R with
    | nil => simp at h2
    | cons x R =>
      cases R with
      | nil => simp at h2
      | cons y r => exact ⟨x, y, r, rfl⟩
  have hBL : B.data.toList.length = r.length + 2 := by rw [hBl]; rfl
  have ba := byte_at (s := B) (j := 0) (by omega)
  have ba2 := byte_at2 (s := B) (j := 0) (by omega)
  have bb := byte_at (s := B) (j := 1) (by omega)
  have bb2 := byte_at2 (s := B) (j := 1) (by omega)
  simp only [hBl, List.getElem_cons_zero, List.getElem_cons_succ] at ba ba2 bb bb2
  have hex1 : B.extract 1 (r.length + 2) = baL (y :: r) := by
    rw [hB, ba_ext]
    simp
  obtain ⟨n, hn⟩ : ∃ n, n = r.length + 2 := ⟨_, rfl⟩
  have hBn : B.size = n := by rw [hn]; exact hRs
  have hsn : s.size = D.length + n := by rw [hn]; exact hlen
  rw [← hn] at hex1
  have g1 : 1 < n := by omega
  have g1i : (1 : Int) < n := by omega
  have g0 : 0 < n := by omega
  have c4 := hdig y
  obtain ⟨u, hu⟩ : ∃ u : Nat, u = x.toNat := ⟨_, rfl⟩
  rw [← hu] at ba ba2
  have hwd := tw_take isDig (y :: r)
  have c5 := row_w 88 isDig (by simp) digit_w (baL (y :: r)) (by rw [ba_size, List.length_cons]; omega)
  rw [toL_ba] at c5
  by_cases u46 : u = 46
  case neg =>
    have u46i : ¬ (u : Int) = 46 := by omega
    have hx46 : ¬ x = 46 := fun e => u46 (by rw [hu, e]; rfl)
    have eW : W = D := by
      rw [hnw]
      split
      · rename_i h; injection h with h; exact absurd h hx46
      · rfl
    simp (maxSteps := 1000000) [hho, noHo, hDs, hext, hBn, g0, g1, g1i, ba, ba2, u46, u46i, undef, onGP_none, condG_false, -List.reduceReplicate]
    repeat (with_reducible refine And.intro (by omega) ?_)
    exact cut_to () trivial (wk_eq (by simp [hE, lens]) (by simp [zT]) (by simp [livH, livO, AV.livL, AV.liv, wkL, wkV, List.range', slotsOf, eW]))
  have u46i : (u : Int) = 46 := by omega
  have hx46 : x = 46 := UInt8.toNat_inj.1 (by rw [← hu, u46]; rfl)
  subst hx46
  simp only at hnw
  cases hyd : isDig y with
  | false =>
    rw [hyd] at c4
    have eW : W = D := by rw [hnw, if_neg (by rw [hyd]; decide)]
    simp (maxSteps := 1000000) [hho, noHo, hDs, hext, hBn, g0, g1, g1i, ba, ba2, bb, bb2, u46, u46i, undef, onGP_none, condG_false, -List.reduceReplicate]
    repeat (with_reducible refine And.intro (by omega) ?_)
    refine call_x [] (c4) rfl rfl ⟨rfl, rfl⟩ hho (by simp) (by decide) (by simp) (by simp) ?_
    simp (maxSteps := 1000000) [hho, noHo, undef, onGP_none, condG_false, -List.reduceReplicate]
    exact cut_to () trivial (wk_eq (by simp [hE, lens]) (by simp [zT]) (by simp [livH, livO, AV.livL, AV.liv, wkL, wkV, List.range', slotsOf, eW]))
  | true =>
    rw [hyd] at c4
    rw [if_pos hyd] at hnw
    obtain ⟨X, hX⟩ : ∃ X, X = (y :: r).takeWhile isDig := ⟨_, rfl⟩
    rw [← hX] at c5 hnw hwd
    have hXs := ba_size X
    have hXl : X.length ≤ r.length + 1 := hwd.2
    have e1 : (⟨#[46]⟩ : ByteArray) ++ baL X = baL (46 :: X) := ba_app1 46 X
    have e2 : baL D ++ baL (46 :: X) = baL W := by rw [ba_app, hnw]
    have e3 : (baL (46 :: X)).size = X.length + 1 := by rw [ba_size]; rfl
    simp (maxSteps := 1000000) [hho, noHo, hDs, hext, hBn, g0, g1, g1i, ba, ba2, bb, bb2, u46, u46i, undef, onGP_none, condG_false, -List.reduceReplicate]
    repeat (with_reducible refine And.intro (by omega) ?_)
    refine call_x [] (c4) rfl rfl ⟨rfl, rfl⟩ hho (by simp) (by decide) (by simp) (by simp) ?_
    simp (maxSteps := 1000000) [hho, noHo, hBn, hex1, undef, onGP_none, condG_false, -List.reduceReplicate]
    repeat (with_reducible refine And.intro (by omega) ?_)
    refine call_x [] (c5) rfl rfl ⟨rfl, rfl⟩ hho (by simp) (by decide) (by simp) (by simp) ?_
    simp (maxSteps := 1000000) [hho, noHo, e1, e2, e3, hDs, hXs, undef, onGP_none, condG_false, -List.reduceReplicate]
    repeat (with_reducible refine And.intro (by omega) ?_)
    exact cut_to () trivial (wk_eq (by simp [hE, lens]) (by simp [zT]) (by simp [livH, livO, AV.livL, AV.liv, wkL, wkV, List.range', slotsOf]))
end Go.Proofs.YtjgdlocgoiinbaaGreatDoor
namespace Go.Proofs.YtjgdlocgoiinbaaGreatDoor
set_option linter.unusedVariables false
set_option linter.unusedSimpArgs false
open Go.RowKit Go.Shelf Go.Lib
attribute [local simp] isCut_nil isCut_region isCut_seq isCut_block isCut_loop isCut_cond isCut_skip isCut_exit isCut_ret isCut_range swapK putK altK condK_bool pickP_bool stepP stepO onPure_some onPure_none onImpl_some onImpl_none stepC onGP_some onGP_none onGV_some condG mkG onIt_it nextP_ptr takeP_eq takeV_some takeV_none takeU_some takeU_none takeQ takeW_some takeN_none takeN_some takeG_some takeO_some altO_some pureV binV2 eqF eqOp ovlV ovl2 rowAt capV binV intBin strBin isSh shV fldV ixV sliceV slice3V loadAV nilV lenV callV unV convV viewS cellsH loadV fldCut AV.ung AV.ungs AV.gc AV.cells AS.ev AS.put anyS gcsV gcO lens lnO gV guardV retK RetP_eq resV oneV anyRo loIx hiIx implO callP_clo evL gcsL clearV storeAV AS.push AS.setO appV appZ shortS copyV buildV partsV fillV srcV fzO okV isCell_c isCell_ptr isCell_sl isCell_fs isCell_fp isCell_clo rowZ_one rowZ_zero rowZ_2 rowZ_3 rowZ_4 rowZ_5 rowZ_6 rowZ_7 rowZ_8 rowZ_9 rowZ_10 rowZ_11 rowZ_12 noHo Value.oneCell' max2V min2V lookV updV lenM msAt afterH putBack frzFrom frzO rebO backIx nilEq_sl nilEq_fs nilEq_ifn nilEq_ifh ifOp_eql ifOp_neq isLit nilOp_eql nilOp_neq AV.reb AV.rebL
attribute [local simp ↓] runK_skip runK_region runK_draw runK_seq runK_cut runK_cond runK_block runK_loop runK_exit runK_label runK_goto runK_ret runK_range contK_nil contK_seq contK_seq_ret contK_seq_exit contK_seq_goto contK_block contK_block_ret contK_block_goto contK_block_exit runO_nil runO_cons roundK_exit roundK_ret roundK_goto exitK_ret cutK_ret cutK_exit runE_done runE_nil runE_take runE_alt condG_true condG_false
set_option maxRecDepth 10000
def idxK (v : List UInt8) (l : List (List UInt8)) : Int := if l.contains v = true then ((l.findIdx fun x => decide (v = x) : Nat) : Int) else -1
set_option maxHeartbeats 8000000 in
theorem indexK_w (l : List (List UInt8)) (v : List UInt8) (hl : l.length ≤ 1000000) : ACalls Tryz.prog 139 [.fs 1 l.length (strsK l), .c (.string (baL v))] [] (fun _ => false) (fun r h' => (∃ i : Int, (0 ≤ i ↔ v ∈ l) ∧ r = .c (.int .i64 i)) ∧ h' = []) := by
  refine acalls mixed Tryz.func139 rfl Tryz.ntmps139 rfl fun E hE hst hho => ?_
  simp (maxSteps := 1000000) [hho, noHo, -List.reduceReplicate]
  refine loop_k mixed (fun j : Nat => ⟨slotsOf 19 [(0, .fs 1 l.length (strsK l)), (1, .c (.string (baL v))), (7, .c (.int .i64 l.length)), (8, .c (.int .i64 (j : Nat)))], []⟩) (fun j => l.length - j) (fun j => j ≤ l.length ∧ v ∉ l.take j) 0 ⟨Nat.zero_le _, by simp⟩ ?_ ?_
  · exact wk_eq (by simp [hE, lens]) (by simp) (by simp [livH, livO, AV.livL, AV.liv, wkL, wkV, List.range', slotsOf])
  rintro j ⟨hj, hI⟩
  by_cases hjl : j < l.length
  · have hji : (j : Int) < l.length := by omega
    have ta := strsK_at l j hjl
    have htk : l.take (j + 1) = l.take j ++ [l[j]] := List.take_succ_eq_append_getElem hjl
    obtain ⟨x, hx⟩ : ∃ x, x = l[j] := ⟨_, rfl⟩
    rw [← hx] at ta htk
    have ew : IntKind.i64.wrap ((j : Int) + 1) = (j + 1 : Nat) := by rw [IntWalk.i64_in _ (by omega)]; rfl
    by_cases hp : v = x
    · have hp' : baL v = baL x := by rw [hp]
      have hm : v ∈ l := by rw [hp, hx]; exact List.getElem_mem hjl
      simp (maxSteps := 1000000) [hho, noHo, slotsOf, hjl, hji, ta, hp', undef, onGP_none, condG_false, -List.reduceReplicate]
      repeat (with_reducible refine And.intro (by omega) ?_)
      exact Ret.drop (by rfl) ⟨⟨_, by simp [hm], rfl⟩, rfl⟩
    · have hp' : ¬ baL v = baL x := fun h => hp (by have := congrArg (fun s : ByteArray => s.data.toList) h; exact this)
      simp (maxSteps := 1000000) [hho, noHo, slotsOf, hjl, hji, ta, hp', undef, onGP_none, condG_false, -List.reduceReplicate]
      repeat (with_reducible refine And.intro (by omega) ?_)
      refine round_next (j + 1) ⟨by omega, by rw [htk]; intro h; rcases List.mem_append.1 h with h | h; exact hI h; exact hp (List.mem_singleton.1 h)⟩ (by omega) ?_
      exact wk_eq (by simp [hE, lens]) (by simp) (by simp [livH, livO, AV.livL, AV.liv, wkL, wkV, List.range', slotsOf, ew])
  · have hji : ¬ (j : Int) < l.length := by omega
    rw [List.take_of_length_le (by omega)] at hI
    simp (maxSteps := 1000000) [hho, noHo, slotsOf, hjl, hji, undef, onGP_none, condG_false, -List.reduceReplicate]
    exact Ret.drop (by rfl) ⟨⟨_, by simp [hI], rfl⟩, rfl⟩
theorem containsK_w (l : List (List UInt8)) (v : List UInt8) (hl : l.length ≤ 1000000) : ACalls Tryz.prog 119 [.fs 1 l.length (strsK l), .c (.string (baL v))] [] (fun _ => false) (fun r h' => r = .c (.bool (l.contains v)) ∧ h' = []) := by
  refine acalls mixed Tryz.func119 rfl Tryz.ntmps119 rfl fun E hE hst hho => ?_
  have hc : ∀ i : Int, (0 ≤ i ↔ v ∈ l) → l.contains v = decide (0 ≤ i) := fun i hi => by
    by_cases h : v ∈ l
    · rw [decide_eq_true (hi.2 h)]; simpa using h
    · rw [decide_eq_false fun h2 => h (hi.1 h2), Bool.eq_false_iff]; simpa using h
  obtain ⟨C, hC⟩ : ∃ C, C = l.contains v := ⟨_, rfl⟩
  rw [← hC] at hc ⊢
  simp (maxSteps := 1000000) [hho, noHo, -List.reduceReplicate]
  refine call_plain (fun _ => false) (indexK_w l v hl) (ha := by rfl) (by simp) ?_
  rintro r h' ⟨⟨i, hi, rfl⟩, rfl⟩
  refine ⟨rfl, ?_⟩
  rw [hc i hi]
  simp (maxSteps := 1000000) [hho, noHo, -List.reduceReplicate]
  exact Ret.drop (by rfl) ⟨rfl, rfl⟩
def signB : ByteArray := ⟨#[40, 41, 44, 46, 43, 45, 42, 47, 37, 61, 60, 62]⟩
theorem sign_idx (c : UInt8) : decide (0 ≤ indexByte signB.data.toList c) = signsL.contains c := by
  have h : ∀ n : Nat, n < 256 → decide (0 ≤ indexByte signB.data.toList (UInt8.ofNat n)) = signsL.contains (UInt8.ofNat n) := by decide +kernel
  have := h c.toNat c.toNat_lt
  rwa [UInt8.ofNat_toNat] at this
theorem signs_w (c : UInt8) : ACalls Tryz.prog 120 [.c (.string signB), .c (.string ⟨#[c]⟩)] [] (fun _ => false) (fun r h' => r = .c (.bool (signsL.contains c)) ∧ h' = []) := by
  rw [← sign_idx]
  exact acalls_plain (args := [.string signB, .string ⟨#[c]⟩]) _ fun w _ => (Tryz.strings_Contains_one signB c w).mono fun e w' ⟨he, hw⟩ => ⟨he, by rw [hw]; exact .refl _ _⟩
theorem twos_lit : strsK twosL = [.c (.string ⟨#[60, 61]⟩), .c (.string ⟨#[62, 61]⟩), .c (.string ⟨#[60, 62]⟩)] := rfl
set_option maxHeartbeats 8000000 in
theorem sign_w17 (s : ByteArray) (hs : s.size ≤ 50000) (h1 : 1 ≤ s.size) : ACalls Tryz.prog 94 [.c (.string s)] [] (fun _ => false) (fun r h' => r = tokR (signP s.data.toList) ∧ h' = []) := by
  refine acalls mixed Tryz.func94 rfl Tryz.ntmps94 rfl fun E hE hst hho => ?_
  have ls : s.data.toList.length = s.size := rfl
  have hb : s = baL s.data.toList := rfl
  have x1 : s.extract 0 1 = baL (s.data.toList.take 1) := by
    conv => lhs; rw [hb]
    rw [ba_ext]; simp
  have x2 : s.extract 0 2 = baL (s.data.toList.take 2) := by
    conv => lhs; rw [hb]
    rw [ba_ext]; simp
  obtain ⟨c, l, hcl⟩ : ∃ c l, s.data.toList = c :: l := by
    cases h : s.data.toList with
    | nil => rw [h] at ls; simp at ls; omega
    | cons c l => exact ⟨c, l, rfl⟩
  have hR : signP s.data.toList = if twosL.contains (s.data.toList.take 2) = true then (⟨3, 0, baL (s.data.toList.take 2), vN⟩, 2, true) else (⟨3, 0, baL [c], vN⟩, 1, signsL.contains c) := by
    unfold signP
    rw [hcl]
    rfl
  have x1' : baL (s.data.toList.take 1) = (⟨#[c]⟩ : ByteArray) := by rw [hcl]; rfl
  rw [x1'] at x1
  have c1 := containsK_w twosL (s.data.toList.take 2) (by decide)
  have c2 := signs_w c
  rw [twos_lit, show twosL.length = 3 from rfl, ← x2] at c1
  rw [← x2] at hR
  rw [hR]
  obtain ⟨S, hS⟩ : ∃ S, S = signsL.contains c := ⟨_, rfl⟩
  rw [← hS] at c2 ⊢
  have hT1 : s.size = 1 → twosL.contains (s.data.toList.take 2) = false := fun e => by
    have : (s.data.toList.take 2).length = 1 := by rw [List.length_take, ls]; omega
    rw [Bool.eq_false_iff]
    intro h
    have hm : s.data.toList.take 2 ∈ twosL := by simpa using h
    have hall : ∀ x ∈ twosL, x.length = 2 := by decide
    have := hall _ hm
    omega
  obtain ⟨T, hT⟩ : ∃ T, T = twosL.contains (s.data.toList.take 2) := ⟨_, rfl⟩
  rw [← hT] at c1 hT1 ⊢
  unfold signB at c2
  unfold tokR tokA
  have zz : (1 : Int) ≤ s.size := by omega
  by_cases h2 : 1 < s.size
  · have h2i : (1 : Int) < s.size := by omega
    have z2 : (2 : Int) ≤ s.size := by omega
    have z2n : 2 ≤ s.size := by omega
    cases T with
    | true =>
      rw [if_pos rfl]
      simp (maxSteps := 1000000) [hho, noHo, h2, h2i, z2, z2n, undef, onGP_none, condG_false, -List.reduceReplicate]
      refine call_f [] (fun k => k == 1) (c1) rfl rfl ⟨rfl, rfl⟩ hho (by simp) (by decide) (by simp) (by simp [isD_c, maxLen]) (by simp) ?_
      simp (maxSteps := 1000000) [hho, noHo, undef, onGP_none, condG_false, -List.reduceReplicate]
      refine draw_k hho (.take 0 (.take 1 (.take 2 (.take 3 (.take 4 (.take 5 (.take 6 (.take 7 (.take 8 (.take 9 (.alt 10 (.take 11 (.alt 12 (.take 13 (.take 14 (.done))) (.nil))) (.nil)))))))))))) [] [(12, [0])] (by decide +kernel) (by simp) ?_
      simp (maxSteps := 1000000) [hho, noHo, undef, onGP_none, condG_false, z2, z2n, roOf, holdOf, wrOf, altK, heldOk, Region.binds, -List.reduceReplicate]
      intros
      exact ret_tok ⟨rfl, rfl⟩
    | false =>
      rw [if_neg (by decide)]
      simp (maxSteps := 1000000) [hho, noHo, h2, h2i, z2, z2n, undef, onGP_none, condG_false, -List.reduceReplicate]
      refine call_f [] (fun k => k == 1) (c1) rfl rfl ⟨rfl, rfl⟩ hho (by simp) (by decide) (by simp) (by simp [isD_c, maxLen]) (by simp) ?_
      simp (maxSteps := 1000000) [hho, noHo, undef, onGP_none, condG_false, -List.reduceReplicate]
      refine draw_k hho (.take 0 (.take 1 (.take 2 (.take 3 (.take 4 (.take 5 (.take 6 (.take 7 (.take 8 (.take 9 (.alt 10 (.take 11 (.alt 12 (.take 13 (.take 14 (.done))) (.nil))) (.nil)))))))))))) [] [(12, [0])] (by decide +kernel) (by simp) ?_
      simp (maxSteps := 1000000) [hho, noHo, x1, zz, h1, roOf, holdOf, wrOf, altK, heldOk, Region.binds, -List.reduceReplicate]
      intros
      refine call_h [] (c2) rfl rfl ⟨rfl, rfl⟩ (by simp) (by simp) (by decide) (by simp) (by simp) ?_
      simp (maxSteps := 1000000) [hho, noHo, roOf, holdOf, wrOf, altK, heldOk, Region.binds, -List.reduceReplicate]
      intros
      exact ret_tok ⟨rfl, rfl⟩
  · have h2i : ¬ (1 : Int) < s.size := by omega
    rw [hT1 (by omega)]
    rw [if_neg (by decide)]
    simp (maxSteps := 1000000) [hho, noHo, h2, h2i, undef, onGP_none, condG_false, -List.reduceReplicate]
    refine draw_k hho (.take 0 (.take 1 (.take 2 (.take 3 (.take 4 (.take 5 (.take 6 (.take 7 (.take 8 (.take 9 (.alt 10 (.take 11 (.alt 12 (.take 13 (.take 14 (.done))) (.nil))) (.nil)))))))))))) [] [(12, [0])] (by decide +kernel) (by simp) ?_
    simp (maxSteps := 1000000) [hho, noHo, x1, zz, h1, roOf, holdOf, wrOf, altK, heldOk, Region.binds, -List.reduceReplicate]
    intros
    refine call_h [] (c2) rfl rfl ⟨rfl, rfl⟩ (by simp) (by simp) (by decide) (by simp) (by simp) ?_
    simp (maxSteps := 1000000) [hho, noHo, roOf, holdOf, wrOf, altK, heldOk, Region.binds, -List.reduceReplicate]
    intros
    exact ret_tok ⟨rfl, rfl⟩
theorem drop1_ba {s : ByteArray} : s.extract 1 s.size = baL (s.data.toList.drop 1) := by
  have hb : s = baL s.data.toList := rfl
  conv => lhs; rw [hb]
  rw [ba_ext, List.take_of_length_le (by rw [List.length_drop, ba_size]; omega)]
theorem qP_len (s : List UInt8) : (qP s).length ≤ s.length := by
  unfold qP
  split
  · simp
  · rw [List.length_take]; omega
set_option maxHeartbeats 8000000 in
theorem token_w (s : ByteArray) (hs : s.size ≤ 50000) (h1 : 1 ≤ s.size) : ACalls Tryz.prog 65 [.c (.string s)] [] (fun _ => false) (fun r h' => r = tokR (tokP s.data.toList) ∧ h' = []) := by
  refine acalls mixed Tryz.func65 rfl Tryz.ntmps65 rfl fun E hE hst hho => ?_
  have ls : s.data.toList.length = s.size := rfl
  have z1 : 0 < s.size := by omega
  have ba := byte_at (s := s) (j := 0) (by omega)
  have ba2 := byte_at2 (s := s) (j := 0) (by omega)
  obtain ⟨c, l, hcl⟩ : ∃ c l, s.data.toList = c :: l := by
    cases h : s.data.toList with
    | nil => rw [h] at ls; simp at ls; omega
    | cons c l => exact ⟨c, l, rfl⟩
  have ba : (s.data[0]?.getD 0).toNat = c.toNat := by rw [ba]; simp only [hcl, List.getElem_cons_zero]
  have ba2 : s.data[0].toNat = c.toNat := by rw [ba2]; simp only [hcl, List.getElem_cons_zero]
  have hll : l.length + 1 = s.size := by rw [← ls, hcl]; rfl
  have c1 := quoted_w s (by omega)
  have c2 := literal_w (baL (qP s.data.toList)) (by rw [ba_size]; have := qP_len s.data.toList; omega)
  rw [toL_ba] at c2
  have c3 := digit_w c
  have c4 := number_w17 s hs
  have c5 := great_w c
  have c6 := row_w 90 isGreat (by simp) great_w s (by omega)
  have c7 := lexKeys_w
  have c8 := search_w (baL (s.data.toList.takeWhile isGreat))
  rw [toL_ba] at c8
  have c9 := small_w c
  have c10 := row_w 93 isSmall (by simp) small_w s (by omega)
  have c11 := sign_w17 s hs h1
  have hQ : ∀ R, R = tokP s.data.toList → R = if c = 39 then litP (qP s.data.toList)
    else if c = 88 ∧ l.head? = some 39 then (if qP l = [] then (⟨0, 0, ByteArray.empty, vN⟩, 0, false) else litP (88 :: qP l))
    else if isDig c = true then numP17 s.data.toList
    else if isGreat c = true then (⟨1, 0, baL (s.data.toList.takeWhile isGreat), vN⟩, (((s.data.toList.takeWhile isGreat).length : Nat) : Int), keysB.contains (s.data.toList.takeWhile isGreat))
    else if isLow c = true then (⟨0, 0, baL (s.data.toList.takeWhile isSmall), vN⟩, (((s.data.toList.takeWhile isSmall).length : Nat) : Int), decide ((s.data.toList.takeWhile isSmall).length ≤ 24))
    else signP s.data.toList := fun R hR => by rw [hR, hcl]; rfl
  obtain ⟨R, hR⟩ : ∃ R, R = tokP s.data.toList := ⟨_, rfl⟩
  have hQ := hQ R hR
  rw [← hR]
  clear hR
  have hG := ba_size (s.data.toList.takeWhile isGreat)
  have hS := ba_size (s.data.toList.takeWhile isSmall)
  have hGl := (tw_take isGreat s.data.toList).2
  have hSl := (tw_take isSmall s.data.toList).2
  obtain ⟨WG, hWG⟩ : ∃ W, W = s.data.toList.takeWhile isGreat := ⟨_, rfl⟩
  obtain ⟨WS, hWS⟩ : ∃ W, W = s.data.toList.takeWhile isSmall := ⟨_, rfl⟩
  rw [← hWG] at c6 c8 hQ hG hGl
  rw [← hWS] at c10 hQ hS hSl
  obtain ⟨C, hC⟩ : ∃ C, C = keysB.contains WG := ⟨_, rfl⟩
  rw [← hC] at c8 hQ
  obtain ⟨x, hx⟩ : ∃ x : Nat, x = c.toNat := ⟨_, rfl⟩
  rw [← hx] at ba ba2 c3 c5 c9
  have hx256 : x < 256 := by rw [hx]; exact c.toNat_lt
  obtain ⟨K, hK⟩ : ∃ K, K = strsK keysB := ⟨_, rfl⟩
  rw [← hK] at c7 c8
  by_cases h39 : x = 39
  · have h39i : (x : Int) = 39 := by omega
    have hc : c = 39 := UInt8.toNat_inj.1 (by rw [← hx, h39]; rfl)
    rw [if_pos hc] at hQ
    rw [← hQ] at c2
    unfold tokR tokA at c2 ⊢
    simp (maxSteps := 1000000) [hho, noHo, z1, ba, ba2, h39, h39i, undef, onGP_none, condG_false, -List.reduceReplicate]
    refine call_x [] (c1) rfl rfl ⟨rfl, rfl⟩ hho (by simp) (by decide) (by simp) (by simp) ?_
    simp (maxSteps := 1000000) [hho, noHo, undef, onGP_none, condG_false, -List.reduceReplicate]
    refine call_x [] (c2) rfl rfl ⟨rfl, rfl⟩ hho (by simp) (by decide) (by simp) (by simp) ?_
    simp (maxSteps := 1000000) [hho, noHo, undef, onGP_none, condG_false, -List.reduceReplicate]
    exact ret_tok ⟨rfl, rfl⟩
  have h39i : ¬ (x : Int) = 39 := by omega
  have hc39 : ¬ c = 39 := fun e => h39 (by rw [hx, e]; rfl)
  rw [if_neg hc39] at hQ
  -- an X and an apostrophe
  by_cases h88 : c = 88 ∧ l.head? = some 39
  · rw [if_pos h88] at hQ
    obtain ⟨hc, hl⟩ := h88
    have x88 : x = 88 := by rw [hx, hc]; rfl
    have x88i : (x : Int) = 88 := by omega
    obtain ⟨l2, rfl⟩ : ∃ l2, l = 39 :: l2 := by
      cases l with
      | nil => cases hl
      | cons d l2 => injection hl with hl; exact ⟨l2, by rw [hl]⟩
    have h2 : 1 < s.size := by rw [← hll]; simp
    have h2i : (1 : Int) < s.size := by omega
    have bb := byte_at (s := s) (j := 1) (by omega)
    have bb2 := byte_at2 (s := s) (j := 1) (by omega)
    simp only [hcl, List.getElem_cons_zero, List.getElem_cons_succ] at bb bb2
    have bb : (s.data[1]?.getD 0).toNat = 39 := bb
    have bb2 : s.data[1].toNat = 39 := bb2
    have hd1 : s.data.toList.drop 1 = 39 :: l2 := by rw [hcl]; rfl
    have hex := drop1_ba (s := s)
    rw [hd1] at hex
    have zs : (1 : Int) ≤ s.size := by omega
    have c12 := quoted_w (baL (39 :: l2)) (by rw [ba_size]; omega)
    rw [toL_ba] at c12
    have hql := qP_len (39 :: l2)
    have hqs := ba_size (qP (39 :: l2))
    by_cases hq : qP (39 :: l2) = []
    · rw [if_pos hq] at hQ
      rw [hq] at c12
      have hem : (baL [] = ByteArray.empty) := rfl
      have hem2 : (baL [] = (⟨#[]⟩ : ByteArray)) := rfl
      rw [hQ]
      unfold tokR tokA
      simp (maxSteps := 1000000) [hho, noHo, z1, ba, ba2, h39, h39i, x88, x88i, h2, h2i, bb, bb2, undef, onGP_none, condG_false, -List.reduceReplicate]
      simp (maxSteps := 1000000) [hho, noHo, hex, zs, undef, onGP_none, condG_false, -List.reduceReplicate]
      repeat (with_reducible refine And.intro (by omega) ?_)
      refine call_x [] (c12) rfl rfl ⟨rfl, rfl⟩ hho (by simp) (by decide) (by simp) (by simp) ?_
      simp (maxSteps := 1000000) [hho, noHo, hem, hem2, vN, undef, onGP_none, condG_false, -List.reduceReplicate]
      exact ret_tok ⟨rfl, rfl⟩
    · rw [if_neg hq] at hQ
      have hne : ¬ baL (qP (39 :: l2)) = (⟨#[]⟩ : ByteArray) := fun h => hq (by have := congrArg (fun s : ByteArray => s.data.toList) h; exact this)
      have hne2 : ¬ baL (qP (39 :: l2)) = ByteArray.empty := hne
      have e1 : (⟨#[88]⟩ : ByteArray) ++ baL (qP (39 :: l2)) = baL (88 :: qP (39 :: l2)) := ba_app1 88 _
      have c13 := literal_w (baL (88 :: qP (39 :: l2))) (by rw [ba_size, List.length_cons]; omega)
      rw [toL_ba, ← hQ] at c13
      obtain ⟨q, hqq⟩ : ∃ q, q = qP (39 :: l2) := ⟨_, rfl⟩
      rw [← hqq] at c12 c13 hne hne2 e1 hql hqs
      unfold tokR tokA at c13 ⊢
      have hql2 : q.length ≤ s.size := by omega
      simp (maxSteps := 1000000) [hho, noHo, z1, ba, ba2, h39, h39i, x88, x88i, h2, h2i, bb, bb2, undef, onGP_none, condG_false, -List.reduceReplicate]
      simp (maxSteps := 1000000) [hho, noHo, hex, zs, undef, onGP_none, condG_false, -List.reduceReplicate]
      repeat (with_reducible refine And.intro (by omega) ?_)
      refine call_x [] (c12) rfl rfl ⟨rfl, rfl⟩ hho (by simp) (by decide) (by simp) (by simp) ?_
      simp (maxSteps := 1000000) [hho, noHo, hne, hne2, e1, hqs, undef, onGP_none, condG_false, -List.reduceReplicate]
      repeat (with_reducible refine And.intro (by omega) ?_)
      refine call_x [] (c13) rfl rfl ⟨rfl, rfl⟩ hho (by simp) (by decide) (by simp) (by simp) ?_
      simp (maxSteps := 1000000) [hho, noHo, undef, onGP_none, condG_false, -List.reduceReplicate]
      exact ret_tok ⟨rfl, rfl⟩
  rw [if_neg h88] at hQ
  -- how region 4 comes to false
  have hno : ¬ x = 88 ∨ (x = 88 ∧ ¬ 1 < s.size) ∨ (x = 88 ∧ 1 < s.size ∧ ∃ y : Nat, ¬ y = 39 ∧ (s.data[1]?.getD 0).toNat = y ∧ ∀ h : 1 < s.data.size, (s.data[1]'h).toNat = y) := by
    by_cases h : x = 88
    · right
      by_cases h2 : 1 < s.size
      · right
        refine ⟨h, h2, ?_⟩
        have hc : c = 88 := UInt8.toNat_inj.1 (by rw [← hx, h]; rfl)
        have bb := byte_at (s := s) (j := 1) (by omega)
        have bb2 := byte_at2 (s := s) (j := 1) (by omega)
        cases l with
        | nil => simp at hll; omega
        | cons d l2 =>
          simp only [hcl, List.getElem_cons_zero, List.getElem_cons_succ] at bb bb2
          refine ⟨d.toNat, fun e => h88 ⟨hc, ?_⟩, bb, fun _ => bb2⟩
          show some d = some 39
          congr 1
          exact UInt8.toNat_inj.1 e
      · exact .inl ⟨h, h2⟩
    · exact .inl h
  obtain ⟨DG, hDG⟩ : ∃ D, D = isDig c := ⟨_, rfl⟩
  obtain ⟨GR, hGR⟩ : ∃ D, D = isGreat c := ⟨_, rfl⟩
  obtain ⟨SM, hSM⟩ : ∃ D, D = isSmall c := ⟨_, rfl⟩
  obtain ⟨LW, hLW⟩ : ∃ D, D = isLow c := ⟨_, rfl⟩
  have hsm : SM = (LW || DG || decide (c = 95)) := by rw [hSM, hLW, hDG]; rfl
  have h95 : decide (c = 95) = decide (x = 95) := by
    by_cases h : c = 95
    · rw [h, hx, h]; rfl
    · rw [decide_eq_false h, decide_eq_false]
      intro e
      exact h (UInt8.toNat_inj.1 (by rw [← hx, e]; rfl))
  have hlow95 : LW = true → ¬ x = 95 := fun h e => by
    rw [hLW] at h
    unfold isLow at h
    rw [← hx, e] at h
    cases h
  have hX88 : x = 88 → DG = false ∧ GR = true := fun e => by
    have hc : c = 88 := UInt8.toNat_inj.1 (by rw [← hx, e]; rfl)
    rw [hDG, hGR, hc]
    exact ⟨rfl, rfl⟩
  rw [h95] at hsm
  rw [← hDG] at c3 hQ
  rw [← hGR] at c5 hQ
  rw [← hSM] at c9
  rw [← hLW] at hQ
  clear hDG hGR hSM hLW
  unfold tokR tokA at c4 c11 ⊢
  rcases hno with hno | ⟨hno, hn2⟩ | ⟨hno, hn2, y, hy, by1, by2⟩
  · have hnoi : ¬ (x : Int) = 88 := by omega
    simp (maxSteps := 1000000) [hho, noHo, z1, ba, ba2, h39, h39i, hno, hnoi, undef, onGP_none, condG_false, -List.reduceReplicate]
    refine call_x [] (c3) rfl rfl ⟨rfl, rfl⟩ hho (by simp) (by decide) (by simp) (by simp) ?_
    cases DG with
    | true =>
      rw [if_pos rfl] at hQ
      rw [← hQ] at c4
      simp (maxSteps := 1000000) [hho, noHo, undef, onGP_none, condG_false, -List.reduceReplicate]
      refine call_x [] (c4) rfl rfl ⟨rfl, rfl⟩ hho (by simp) (by decide) (by simp) (by simp) ?_
      simp (maxSteps := 1000000) [hho, noHo, undef, onGP_none, condG_false, -List.reduceReplicate]
      exact ret_tok ⟨rfl, rfl⟩
    | false =>
      rw [if_neg (by decide)] at hQ
      simp (maxSteps := 1000000) [hho, noHo, undef, onGP_none, condG_false, -List.reduceReplicate]
      refine call_x [] (c5) rfl rfl ⟨rfl, rfl⟩ hho (by simp) (by decide) (by simp) (by simp) ?_
      cases GR with
      | true =>
        rw [if_pos rfl] at hQ
        rw [hQ]
        simp (maxSteps := 1000000) [hho, noHo, undef, onGP_none, condG_false, -List.reduceReplicate]
        refine call_x [] (c6) rfl rfl ⟨rfl, rfl⟩ hho (by simp) (by decide) (by simp) (by simp) ?_
        simp (maxSteps := 1000000) [hho, noHo, undef, onGP_none, condG_false, -List.reduceReplicate]
        refine call_x [] (c7) rfl rfl ⟨rfl, rfl⟩ hho (by simp) (by decide) (by simp) (by simp) ?_
        simp (maxSteps := 1000000) [hho, noHo, undef, onGP_none, condG_false, -List.reduceReplicate]
        refine call_plain (fun _ => false) (c8) (ha := by rfl) (by simp) ?_
        rintro r h' ⟨⟨i, rfl⟩, rfl⟩
        refine ⟨rfl, ?_⟩
        simp (maxSteps := 1000000) [hho, noHo, hG, vN, undef, onGP_none, condG_false, -List.reduceReplicate]
        exact ret_tok ⟨rfl, rfl⟩
      | false =>
        rw [if_neg (by decide)] at hQ
        simp (maxSteps := 1000000) [hho, noHo, undef, onGP_none, condG_false, -List.reduceReplicate]
        refine call_x [] (c9) rfl rfl ⟨rfl, rfl⟩ hho (by simp) (by decide) (by simp) (by simp) ?_
        rw [Bool.or_false] at hsm
        cases LW with
        | true =>
          rw [if_pos rfl] at hQ
          rw [hQ]
          have h95n := hlow95 rfl
          have h95i : ¬ (x : Int) = 95 := by omega
          rw [hsm]
          by_cases hw : WS.length ≤ 24
          · have hwi : (WS.length : Int) ≤ 24 := by omega
            simp (maxSteps := 1000000) [hho, noHo, h95n, h95i, undef, onGP_none, condG_false, -List.reduceReplicate]
            refine call_x [] (c10) rfl rfl ⟨rfl, rfl⟩ hho (by simp) (by decide) (by simp) (by simp) ?_
            simp (maxSteps := 1000000) [hho, noHo, hS, hw, hwi, vN, undef, onGP_none, condG_false, -List.reduceReplicate]
            exact ret_tok ⟨rfl, rfl⟩
          · have hwi : ¬ (WS.length : Int) ≤ 24 := by omega
            simp (maxSteps := 1000000) [hho, noHo, h95n, h95i, undef, onGP_none, condG_false, -List.reduceReplicate]
            refine call_x [] (c10) rfl rfl ⟨rfl, rfl⟩ hho (by simp) (by decide) (by simp) (by simp) ?_
            simp (maxSteps := 1000000) [hho, noHo, hS, hw, hwi, vN, undef, onGP_none, condG_false, -List.reduceReplicate]
            exact ret_tok ⟨rfl, rfl⟩
        | false =>
          rw [if_neg (by decide)] at hQ
          rw [← hQ] at c11
          rw [hsm]
          by_cases h95x : x = 95
          · have h95i : (x : Int) = 95 := by omega
            simp (maxSteps := 1000000) [hho, noHo, h95x, h95i, undef, onGP_none, condG_false, -List.reduceReplicate]
            refine call_x [] (c11) rfl rfl ⟨rfl, rfl⟩ hho (by simp) (by decide) (by simp) (by simp) ?_
            simp (maxSteps := 1000000) [hho, noHo, undef, onGP_none, condG_false, -List.reduceReplicate]
            exact ret_tok ⟨rfl, rfl⟩
          · simp (maxSteps := 1000000) [hho, noHo, h95x, undef, onGP_none, condG_false, -List.reduceReplicate]
            refine call_x [] (c11) rfl rfl ⟨rfl, rfl⟩ hho (by simp) (by decide) (by simp) (by simp) ?_
            simp (maxSteps := 1000000) [hho, noHo, undef, onGP_none, condG_false, -List.reduceReplicate]
            exact ret_tok ⟨rfl, rfl⟩
  · have hnoi : (x : Int) = 88 := by omega
    have hn2i : ¬ (1 : Int) < s.size := by omega
    obtain ⟨rfl, rfl⟩ := hX88 hno
    rw [hno] at c3 c5
    rw [if_neg (by decide), if_pos rfl] at hQ
    rw [hQ]
    simp (maxSteps := 1000000) [hho, noHo, z1, ba, ba2, h39, h39i, hno, hnoi, hn2, hn2i, undef, onGP_none, condG_false, -List.reduceReplicate]
    refine call_x [] (c3) rfl rfl ⟨rfl, rfl⟩ hho (by simp) (by decide) (by simp) (by simp) ?_
    simp (maxSteps := 1000000) [hho, noHo, undef, onGP_none, condG_false, -List.reduceReplicate]
    refine call_x [] (c5) rfl rfl ⟨rfl, rfl⟩ hho (by simp) (by decide) (by simp) (by simp) ?_
    simp (maxSteps := 1000000) [hho, noHo, undef, onGP_none, condG_false, -List.reduceReplicate]
    refine call_x [] (c6) rfl rfl ⟨rfl, rfl⟩ hho (by simp) (by decide) (by simp) (by simp) ?_
    simp (maxSteps := 1000000) [hho, noHo, undef, onGP_none, condG_false, -List.reduceReplicate]
    refine call_x [] (c7) rfl rfl ⟨rfl, rfl⟩ hho (by simp) (by decide) (by simp) (by simp) ?_
    simp (maxSteps := 1000000) [hho, noHo, undef, onGP_none, condG_false, -List.reduceReplicate]
    refine call_plain (fun _ => false) (c8) (ha := by rfl) (by simp) ?_
    rintro r h' ⟨⟨i, rfl⟩, rfl⟩
    refine ⟨rfl, ?_⟩
    simp (maxSteps := 1000000) [hho, noHo, hG, vN, undef, onGP_none, condG_false, -List.reduceReplicate]
    exact ret_tok ⟨rfl, rfl⟩
  · have hnoi : (x : Int) = 88 := by omega
    have hn2i : (1 : Int) < s.size := by omega
    have hyi : ¬ (y : Int) = 39 := by omega
    obtain ⟨rfl, rfl⟩ := hX88 hno
    rw [hno] at c3 c5
    rw [if_neg (by decide), if_pos rfl] at hQ
    rw [hQ]
    simp (maxSteps := 1000000) [hho, noHo, z1, ba, ba2, h39, h39i, hno, hnoi, hn2, hn2i, by1, by2, hy, hyi, undef, onGP_none, condG_false, -List.reduceReplicate]
    refine call_x [] (c3) rfl rfl ⟨rfl, rfl⟩ hho (by simp) (by decide) (by simp) (by simp) ?_
    simp (maxSteps := 1000000) [hho, noHo, undef, onGP_none, condG_false, -List.reduceReplicate]
    refine call_x [] (c5) rfl rfl ⟨rfl, rfl⟩ hho (by simp) (by decide) (by simp) (by simp) ?_
    simp (maxSteps := 1000000) [hho, noHo, undef, onGP_none, condG_false, -List.reduceReplicate]
    refine call_x [] (c6) rfl rfl ⟨rfl, rfl⟩ hho (by simp) (by decide) (by simp) (by simp) ?_
    simp (maxSteps := 1000000) [hho, noHo, undef, onGP_none, condG_false, -List.reduceReplicate]
    refine call_x [] (c7) rfl rfl ⟨rfl, rfl⟩ hho (by simp) (by decide) (by simp) (by simp) ?_
    simp (maxSteps := 1000000) [hho, noHo, undef, onGP_none, condG_false, -List.reduceReplicate]
    refine call_plain (fun _ => false) (c8) (ha := by rfl) (by simp) ?_
    rintro r h' ⟨⟨i, rfl⟩, rfl⟩
    refine ⟨rfl, ?_⟩
    simp (maxSteps := 1000000) [hho, noHo, hG, vN, undef, onGP_none, condG_false, -List.reduceReplicate]
    exact ret_tok ⟨rfl, rfl⟩
end Go.Proofs.YtjgdlocgoiinbaaGreatDoor
