import Derived.Test.YtmgpiminicgbiaaP7b
namespace Go.Proofs.Ytmgpiminicgbiaa
set_option linter.unusedVariables false
set_option linter.unusedSimpArgs false
open Go.RowKit
attribute [local simp] isCut_nil isCut_region isCut_seq isCut_block isCut_loop isCut_cond isCut_skip isCut_exit isCut_ret isCut_range swapK putK altK condK_bool pickP_bool stepP stepO onPure_some onPure_none onImpl_some onImpl_none stepC onGP_some onGP_none onGV_some condG mkG onIt_it nextP_ptr takeP_eq takeV_some takeV_none takeU_some takeU_none takeQ takeW_some takeN_none takeN_some takeG_some takeO_some altO_some pureV binV2 eqF eqOp ovlV ovl2 rowAt capV binV intBin strBin isSh shV fldV ixV sliceV slice3V loadAV nilV lenV callV unV convV viewS cellsH loadV fldCut AV.ung AV.ungs AV.gc AV.cells AS.ev AS.put anyS gcsV gcO lens lnO gV guardV retK RetP_eq resV oneV anyRo loIx hiIx implO callP_clo evL gcsL clearV storeAV AS.push AS.setO appV appZ shortS copyV buildV partsV fillV srcV fzO okV isCell_c isCell_ptr isCell_sl isCell_fs isCell_fp isCell_clo rowZ_one rowZ_zero rowZ_2 rowZ_3 rowZ_4 rowZ_5 rowZ_6 rowZ_7 rowZ_8 rowZ_9 rowZ_10 rowZ_11 rowZ_12 noHo Value.oneCell' max2V min2V lookV updV updK updW cvals mkAt basV lenM msAt afterH putBack frzFrom frzO rebO backIx nilEq_sl nilEq_fs nilEq_ifn nilEq_ifh ifOp_eql ifOp_neq isLit nilOp_eql nilOp_neq AV.reb AV.rebL
attribute [local simp ↓] runK_skip runK_region runK_draw runK_seq runK_cut runK_cond runK_block runK_loop runK_exit runK_label runK_goto runK_ret runK_range contK_nil contK_seq contK_seq_ret contK_seq_exit contK_seq_goto contK_block contK_block_ret contK_block_goto contK_block_exit runO_nil runO_cons roundK_exit roundK_ret roundK_goto exitK_ret cutK_ret cutK_exit runE_done runE_nil runE_take runE_alt condG_true condG_false
set_option maxRecDepth 10000
/-! ## The reference's heads and frames, walked -/
def head7 (h : HeadS) : List AV := [.c (.int .i64 h.n), .c (.int .i64 h.epoch), .c (.int .i64 h.base), .c (.string (str h.body))]
def head70 : List AV := [.c (.int .i64 0), .c (.int .i64 0), .c (.int .i64 0), .c (.string ByteArray.empty)]
def headR7 : Option HeadS → AV
  | some h => .tup [.agg (head7 h), .c (.bool true)]
  | none => .tup [.agg head70, .c (.bool false)]
structure HeadS.Nat (h : HeadS) : Prop where
  n : 0 ≤ h.n ∧ h.n < 9223372036854775807
  e : 0 ≤ h.epoch ∧ h.epoch < 9223372036854775807
  b : 0 ≤ h.base ∧ h.base < 9223372036854775807
  l : h.body.length ≤ 32
theorem bytes7i (n : Int) (size : Nat) (hs : size ≤ 8) (hn : 0 ≤ n ∧ n < 9223372036854775807) : ACalls Try.prog 58 [.c (.int .i64 n), .c (.int .i64 size)] [] (fun _ => false) (fun r h' => r = .c (.string (str (beL n size))) ∧ h' = []) := by
  obtain ⟨m, rfl⟩ : ∃ m : Nat, n = m := ⟨n.toNat, by omega⟩
  exact bytes7 m size hs (by omega)
theorem str_one : (⟨#[1]⟩ : ByteArray) = str [1] := rfl
theorem str_get (l : List UInt8) (k : Nat) (h : k < (str l).data.size) : (str l).data[k] = at8 l k := by
  have h' : k < l.length := by simpa [str] using h
  simp [str, at8, h']
theorem byte1 (n : Nat) : AV.c (Value.int .u8 (IntKind.u8.wrap (n : Int))) = AV.c (u8 (byteOf n)) := by rw [u8_of_wrap]; rfl
theorem bytesOf1 (n : Nat) : bytesOf [AV.c (Value.int .u8 (IntKind.u8.wrap (n : Int)))] = str [byteOf n] := by rw [byte1]; exact bytesOf_str [byteOf n]
theorem isU81 (n : Nat) : isU8 (AV.c (Value.int .u8 (IntKind.u8.wrap (n : Int)))) = true := by rw [byte1]; exact isU8_all [byteOf n] _ (by simp [u8av])
set_option maxHeartbeats 4000000 in
theorem headSector7 (h : HeadS) (hh : h.Nat) : ACalls Try.prog 57 [.agg (head7 h)] [] (fun _ => false) (fun r h' => r = .c (.string (str (headL h))) ∧ h' = []) := by
  obtain ⟨n1, e1, b1, l1⟩ := hh
  refine acalls mixed Try.func57 rfl Try.ntmps57 rfl fun E hE hst hho => ?_
  have c8 := bytes7i h.n 8 (by decide) n1
  have c4 := bytes7i h.epoch 4 (by decide) e1
  have c4' := bytes7i h.base 4 (by decide) b1
  have cp := pad7 (beL h.n 8 ++ beL h.epoch 4 ++ beL h.base 4 ++ [byteOf h.body.length] ++ h.body) 56 (by simp; omega) (by decide)
  have hr := headR_eq h l1
  unfold headR at hr
  obtain ⟨pd, hpd⟩ : ∃ pd, pd = padL (beL h.n 8 ++ beL h.epoch 4 ++ beL h.base 4 ++ [byteOf h.body.length] ++ h.body) 56 := ⟨_, rfl⟩
  have hpl : pd.length ≤ 100 := by rw [hpd]; simp [padL]; omega
  rw [← hpd] at cp hr
  simp only [List.append_assoc] at cp
  simp (maxSteps := 1000000) [hho, noHo, head7, -List.reduceReplicate]
  refine draw_k hho (.take 0 (.take 1 (.take 3 (.take 4 (.take 7 (.take 8 (.take 11 (.take 12 (.take 13 (.take 14 (.take 18 (.take 19 (.take 22 (.take 23 (.alt 2 (.alt 5 (.take 6 (.alt 9 (.take 10 (.alt 15 (.alt 16 (.take 17 (.take 20 (.alt 21 (.alt 24 (.take 25 (.take 26 (.done))) (.nil)) (.nil)))) (.nil)) (.nil))) (.alt 15 (.alt 9 (.take 10 (.alt 16 (.take 17 (.take 20 (.alt 21 (.alt 24 (.take 25 (.take 26 (.done))) (.nil)) (.nil)))) (.nil))) (.alt 16 (.alt 9 (.take 10 (.take 17 (.take 20 (.alt 21 (.alt 24 (.take 25 (.take 26 (.done))) (.nil)) (.nil))))) (.nil)) (.nil))) (.nil)))) (.alt 15 (.alt 5 (.take 6 (.alt 9 (.take 10 (.alt 16 (.take 17 (.take 20 (.alt 21 (.alt 24 (.take 25 (.take 26 (.done))) (.nil)) (.nil)))) (.nil))) (.alt 16 (.alt 9 (.take 10 (.take 17 (.take 20 (.alt 21 (.alt 24 (.take 25 (.take 26 (.done))) (.nil)) (.nil))))) (.nil)) (.nil)))) (.alt 16 (.alt 5 (.take 6 (.alt 9 (.take 10 (.take 17 (.take 20 (.alt 21 (.alt 24 (.take 25 (.take 26 (.done))) (.nil)) (.nil))))) (.nil))) (.nil)) (.nil))) (.nil))) (.alt 15 (.alt 2 (.alt 5 (.take 6 (.alt 9 (.take 10 (.alt 16 (.take 17 (.take 20 (.alt 21 (.alt 24 (.take 25 (.take 26 (.done))) (.nil)) (.nil)))) (.nil))) (.alt 16 (.alt 9 (.take 10 (.take 17 (.take 20 (.alt 21 (.alt 24 (.take 25 (.take 26 (.done))) (.nil)) (.nil))))) (.nil)) (.nil)))) (.alt 16 (.alt 5 (.take 6 (.alt 9 (.take 10 (.take 17 (.take 20 (.alt 21 (.alt 24 (.take 25 (.take 26 (.done))) (.nil)) (.nil))))) (.nil))) (.nil)) (.nil))) (.alt 16 (.alt 2 (.alt 5 (.take 6 (.alt 9 (.take 10 (.take 17 (.take 20 (.alt 21 (.alt 24 (.take 25 (.take 26 (.done))) (.nil)) (.nil))))) (.nil))) (.nil)) (.nil)) (.nil))) (.nil))))))))))))))))) [0] [] (by decide +kernel) (by simp) ?_
  simp (maxSteps := 1000000) [hho, noHo, str_app, bytesOf1, isU81, roOf, holdOf, wrOf, altK, heldOk, Region.binds, -List.reduceReplicate]
  repeat' (first
    | apply And.intro
    | (refine call_h [] c8 rfl rfl ⟨rfl, rfl⟩ (by simp) (by simp) (by decide) (by simp) (by simp) ?_
       simp (maxSteps := 1000000) [hho, noHo, str_app, bytesOf1, isU81, roOf, holdOf, wrOf, altK, heldOk, Region.binds, -List.reduceReplicate]
      )
    | (refine call_h [] c4 rfl rfl ⟨rfl, rfl⟩ (by simp) (by simp) (by decide) (by simp) (by simp) ?_
       simp (maxSteps := 1000000) [hho, noHo, str_app, bytesOf1, isU81, roOf, holdOf, wrOf, altK, heldOk, Region.binds, -List.reduceReplicate]
      )
    | (refine call_h [] c4' rfl rfl ⟨rfl, rfl⟩ (by simp) (by simp) (by decide) (by simp) (by simp) ?_
       simp (maxSteps := 1000000) [hho, noHo, str_app, bytesOf1, isU81, roOf, holdOf, wrOf, altK, heldOk, Region.binds, -List.reduceReplicate]
      )
    | (refine call_h [] cp rfl rfl ⟨rfl, rfl⟩ (by simp) (by simp) (by decide) (by simp) (by simp) ?_
       simp (maxSteps := 1000000) [hho, noHo, str_app, bytesOf1, isU81, roOf, holdOf, wrOf, altK, heldOk, Region.binds, -List.reduceReplicate]
      )
    | exact Ret.drop (by rfl) ⟨by rw [hr], rfl⟩
    | omega
    | intro (_ : Env))
set_option maxHeartbeats 4000000 in
theorem readHead7 (l : List UInt8) (hl : l.length = 64) (i : Int) : ACalls Try.prog 41 [.c (.string (str l)), .c (.int .i64 i)] [] (fun _ => false) (fun r h' => r = headR7 (parseH l i) ∧ h' = []) := by
  refine acallsC [2] mixed Try.func41 rfl Try.ntmps41 rfl fun E hE hst hho => ?_
  simp (maxSteps := 1000000) [hho, noHo, -List.reduceReplicate]
  have w1 : l.take 8 = win l 0 8 := by simp [win]
  have w2 : (l.take 12).drop 8 = win l 8 4 := by simp [win, List.drop_take]
  have w3 : (l.take 16).drop 12 = win l 12 4 := by simp [win, List.drop_take]
  have n1 := num7 (win l 0 8) (by simp [win]; omega)
  have n2 := num7 (win l 8 4) (by simp [win]; omega)
  have n3 := num7 (win l 12 4) (by simp [win]; omega)
  refine seq_cut mixed [] (fun _ : Unit => ⟨slotsOf 61 [(0, .c (.string (str l))), (1, .c (.int .i64 i)), (4, .ptr 0 0 4), (5, .c (.bool false)), (6, .ptr 1 0 4)], [.o .box head70, .o .box [.c (.int .i64 (numR (win l 0 8))), .c (.int .i64 (numR (win l 8 4))), .c (.int .i64 (numR (win l 12 4))), .c (.string ByteArray.empty)]]⟩) (fun _ => True) ?_ ?_
  · rintro _ _
    have ez : IntKind.i64.wrap ((at8 l 16).toNat : Int) = (at8 l 16).toNat := IntWalk.i64_in _ (by have := (at8 l 16).toNat_lt; omega)
    obtain ⟨sz, hsz⟩ : ∃ sz, sz = (at8 l 16).toNat := ⟨_, rfl⟩
    obtain ⟨n0, hn0⟩ : ∃ n0, n0 = numR (win l 0 8) := ⟨_, rfl⟩
    obtain ⟨n1, hn1⟩ : ∃ n0, n0 = numR (win l 8 4) := ⟨_, rfl⟩
    obtain ⟨n2, hn2⟩ : ∃ n0, n0 = numR (win l 12 4) := ⟨_, rfl⟩
    rw [← hsz] at ez
    rw [← hn0, ← hn1, ← hn2]
    simp (maxSteps := 1000000) [hho, noHo, slotsOf, head70, hl, str_get, ← hsz, ez, -List.reduceReplicate]
    refine draw_k hho (.take 0 (.take 1 (.take 2 (.take 3 (.take 4 (.take 5 (.take 6 (.take 7 (.take 8 (.take 9 (.take 10 (.take 11 (.take 12 (.take 13 (.take 14 (.take 15 (.take 16 (.take 17 (.take 18 (.take 19 (.take 20 (.take 21 (.take 22 (.take 23 (.take 24 (.take 25 (.take 26 (.take 27 (.take 28 (.take 29 (.take 30 (.take 31 (.take 32 (.done)))))))))))))))))))))))))))))))))) [1] [] (by decide +kernel) (by simp) ?_
    have d56 : l.drop 56 = win l 56 8 := by unfold win; rw [List.take_of_length_le (by simp; omega)]
    have eif : (str (win l 0 8) = str (List.drop 56 l)) ↔ l.take 8 = l.drop 56 := by rw [str_inj, w1]
    have hsl := (at8 l 16).toNat_lt
    have ew : IntKind.i64.wrap (17 + (sz : Int)) = (17 + sz : Nat) := by rw [IntWalk.i64_in _ (by omega)]; rfl
    obtain ⟨pb, pg⟩ := parse_ref l hl i
    unfold bad7 at pb pg
    rw [← hn0, ← hn1, ← hn2, ← hsz] at pb pg
    simp (maxSteps := 1000000) [hho, noHo, hl, str_ext, List.take_of_length_le, w1, eif, ew, roOf, holdOf, wrOf, altK, heldOk, Region.binds, -List.reduceReplicate]
    by_cases hbad : l.take 8 ≠ l.drop 56 ∨ n0 < 1 ∨ 4611686018427387904 ≤ n0 ∨ n0.tmod 2 ≠ i ∨ 32 < sz ∨ n1 < n2
    · rw [if_pos (by rcases hbad with h | h | h | h | h | h; exact .inl (.inl (.inl (.inl (.inl h)))); exact .inl (.inl (.inl (.inl (.inr h)))); exact .inl (.inl (.inl (.inr h))); exact .inl (.inl (.inr h)); exact .inl (.inr (by omega)); exact .inr h), pb hbad]
      refine Ret.sel [] (fun _ => false) (ho := by rfl) (ha := by rfl) ?_ ?_ (by decide) (by simp) (by simp) ⟨?_, ?_⟩
      · simp
      · simp
      · rfl
      · rfl
    · rw [if_neg (by rintro (((((h | h) | h) | h) | h) | h); exact hbad (.inl h); exact hbad (.inr (.inl h)); exact hbad (.inr (.inr (.inl h))); exact hbad (.inr (.inr (.inr (.inl h)))); exact hbad (.inr (.inr (.inr (.inr (.inl (by omega)))))); exact hbad (.inr (.inr (.inr (.inr (.inr h)))))), pg hbad]
      have h32 : sz ≤ 32 := by
        rcases Nat.lt_or_ge 32 sz with h | h
        · exact absurd (.inr (.inr (.inr (.inr (.inl h))))) hbad
        · exact h
      refine ⟨⟨by omega, by omega⟩, ?_⟩
      have et : ((17 : Int) + (sz : Int)).toNat = 17 + sz := by omega
      have ed : List.drop 17 (List.take (17 + sz) l) = (l.drop 17).take sz := by rw [List.drop_take]; congr 1; omega
      simp only [et, ed]
      refine Ret.sel [] (fun _ => false) (ho := by rfl) (ha := by rfl) ?_ ?_ (by decide) (by simp) (by simp) ⟨?_, ?_⟩
      · simp
      · simp
      · rfl
      · rfl
  · simp (maxSteps := 1000000) [hho, noHo, -List.reduceReplicate]
    refine draw_k hho (.take 0 (.take 1 (.take 3 (.take 4 (.take 6 (.take 7 (.alt 2 (.alt 5 (.alt 8 (.take 9 (.alt 10 (.alt 11 (.done) (.nil)) (.nil))) (.alt 10 (.alt 8 (.take 9 (.alt 11 (.done) (.nil))) (.nil)) (.nil))) (.alt 10 (.alt 5 (.alt 8 (.take 9 (.alt 11 (.done) (.nil))) (.nil)) (.nil)) (.nil))) (.alt 10 (.alt 2 (.alt 5 (.alt 8 (.take 9 (.alt 11 (.done) (.nil))) (.nil)) (.nil)) (.nil)) (.nil))))))))) [] [] (by decide +kernel) (by simp) ?_
    simp (maxSteps := 1000000) [hho, noHo, hl, str_ext, w1, w2, w3, roOf, holdOf, wrOf, altK, heldOk, Region.binds, -List.reduceReplicate]
    repeat' (first
      | (refine cut_to () trivial ?_; exact wk_all (by simp [hE, lens]) (by simp [head70]) (by simp [livH, livO, AV.livL, AV.liv, wkL, wkV, List.range', slotsOf]))
      | apply And.intro
      | (refine call_h [] n1 rfl rfl ⟨rfl, rfl⟩ (by simp) (by simp) (by decide) (by simp) (by simp) ?_
         simp (maxSteps := 1000000) [hho, noHo, roOf, holdOf, wrOf, altK, heldOk, Region.binds, -List.reduceReplicate]
        )
      | (refine call_h [] n2 rfl rfl ⟨rfl, rfl⟩ (by simp) (by simp) (by decide) (by simp) (by simp) ?_
         simp (maxSteps := 1000000) [hho, noHo, roOf, holdOf, wrOf, altK, heldOk, Region.binds, -List.reduceReplicate]
        )
      | (refine call_h [] n3 rfl rfl ⟨rfl, rfl⟩ (by simp) (by simp) (by decide) (by simp) (by simp) ?_
         simp (maxSteps := 1000000) [hho, noHo, roOf, holdOf, wrOf, altK, heldOk, Region.binds, -List.reduceReplicate]
        )
      | intro _)
set_option maxHeartbeats 4000000 in
theorem frame7 (f : FrameS) (he : 0 ≤ f.epoch ∧ f.epoch < 9223372036854775807) (hk : 0 ≤ f.k ∧ f.k < 9223372036854775807) (hb : f.body.length ≤ 46) : ACalls Try.prog 44 [.c (.int .i64 f.epoch), .c (.int .i64 f.k), .c (.bool f.last), .c (.string (str f.body))] [] (fun _ => false) (fun r h' => r = .c (.string (str (frameL f))) ∧ h' = []) := by
  refine acalls mixed Try.func44 rfl Try.ntmps44 rfl fun E hE hst hho => ?_
  have c4 := bytes7i f.epoch 4 (by decide) he
  have c4' := bytes7i f.k 4 (by decide) hk
  simp (maxSteps := 1000000) [hho, noHo, -List.reduceReplicate]
  refine call_0 (c4) rfl rfl hho (by simp) ?_
  simp (maxSteps := 1000000) [hho, noHo, -List.reduceReplicate]
  refine call_0 (c4') rfl rfl hho (by simp) ?_
  have cp := pad7 (beL f.epoch 4 ++ beL f.k 4 ++ [if f.last then 1 else 0] ++ [byteOf f.body.length] ++ f.body) 56 (by simp; omega) (by decide)
  have hr := frameR_eq f hb
  unfold frameR at hr
  obtain ⟨pd, hpd⟩ : ∃ pd, pd = padL (beL f.epoch 4 ++ beL f.k 4 ++ [if f.last then 1 else 0] ++ [byteOf f.body.length] ++ f.body) 56 := ⟨_, rfl⟩
  have hpl : pd.length ≤ 102 := by rw [hpd]; simp [padL]; omega
  rw [← hpd] at cp hr
  simp only [List.append_assoc] at cp
  cases hf : f.last <;> rw [hf] at cp
  all_goals
    simp (maxSteps := 1000000) [hho, noHo, str_app, bytesOf1, isU81, str_one, str_zero, hf, -List.reduceReplicate]
    refine ⟨by omega, ?_⟩
    refine call_0 (cp) rfl rfl hho (by simp) ?_
    simp (maxSteps := 1000000) [hho, noHo, str_app, -List.reduceReplicate]
    refine ⟨by omega, ?_⟩
    exact Ret.drop (by rfl) ⟨by rw [hr], rfl⟩
end Go.Proofs.Ytmgpiminicgbiaa
