import Derived.Test.YtjgdlocgoiinbaaGreatDoorVb
import Derived.Test.YtjgdlocgoiinbaaGreatDoorHD
import Derived.Test.YtjgdlocgoiinbaaGreatDoorIx
import Derived.IntWalk
namespace Go.Proofs.YtjgdlocgoiinbaaGreatDoor
set_option linter.unusedVariables false
set_option linter.unusedSimpArgs false
open Go.RowKit
attribute [local simp] isCut_nil isCut_region isCut_seq isCut_block isCut_loop isCut_cond isCut_skip isCut_exit isCut_ret isCut_range swapK putK altK condK_bool pickP_bool stepP stepO onPure_some onPure_none onImpl_some onImpl_none stepC onGP_some onGP_none onGV_some condG mkG onIt_it nextP_ptr takeP_eq takeV_some takeV_none takeU_some takeU_none takeQ takeW_some takeN_none takeN_some takeG_some takeO_some altO_some pureV binV2 eqF eqOp ovlV ovl2 rowAt capV binV intBin strBin isSh shV fldV ixV sliceV slice3V loadAV nilV lenV callV unV convV viewS cellsH loadV fldCut AV.ung AV.ungs AV.gc AV.cells AS.ev AS.put anyS gcsV gcO lens lnO gV guardV retK RetP_eq resV oneV anyRo loIx hiIx implO callP_clo evL gcsL clearV storeAV AS.push AS.setO appV appZ shortS copyV buildV partsV fillV srcV fzO okV isCell_c isCell_ptr isCell_sl isCell_fs isCell_fp isCell_clo rowZ_one rowZ_zero rowZ_2 rowZ_3 rowZ_4 rowZ_5 rowZ_6 rowZ_7 rowZ_8 rowZ_9 rowZ_10 rowZ_11 rowZ_12 noHo Value.oneCell' max2V min2V lookV updV lenM msAt afterH putBack frzFrom frzO rebO backIx nilEq_sl nilEq_fs nilEq_ifn nilEq_ifh ifOp_eql ifOp_neq isLit nilOp_eql nilOp_neq AV.reb AV.rebL
attribute [local simp ↓] runK_skip runK_region runK_draw runK_seq runK_cut runK_cond runK_block runK_loop runK_exit runK_label runK_goto runK_ret runK_range contK_nil contK_seq contK_seq_ret contK_seq_exit contK_seq_goto contK_block contK_block_ret contK_block_goto contK_block_exit runO_nil runO_cons roundK_exit roundK_ret roundK_goto exitK_ret cutK_ret cutK_exit runE_done runE_nil runE_take runE_alt condG_true condG_false
set_option maxRecDepth 10000
/-! ## Comparing numbers -/
section
variable {P : Program} {E : Env} {s : AS}
/-- as call_f, where blocks are held -/
theorem call_hd {g : FuncId} {args : List AV} {K : AV → AS → Prop} (lent : List Nat) (ok : Nat → Bool) {cargs : List AV} {ch : List AObj} {st : Nat → Bool} {r : AV} {h' : List AObj} {pa po : Prop} {cargs' : List AV} {ch' : List AObj} (hc : ACalls P g cargs' ch' st (fun a b => a = r ∧ b = h'))
    (ha : AV.convL lent ok s.h args = some (pa, cargs)) (ho : convOs lent ok s.h lent = some (po, ch)) (hx : cargs = cargs' ∧ ch = ch') (hE : ∀ k ∈ lent, E.ho k = false) (hE2 : ∀ k, ok k = true → E.ho k = false) (hst : ∀ i, i < lent.length → st i = true) (hn : lent.Nodup) (hok : ∀ k ∈ lent, ok k = false) (hp : pa ∧ po) (hl : lent.length ≤ h'.length)
    (hK : K (r.reb (backIx lent s.h.length)) ⟨s.t, afterH lent ok s.h h'⟩) : CallG P E g args s K := by
  obtain ⟨rfl, rfl⟩ := hx
  exact call_of lent ok [] hc ha hp.1 ho hp.2 hn hok (fun i k h => .inl (hst i (List.getElem?_eq_some_iff.1 h).1)) (livL_nil _) (livH_nil _ _ _) (fun k h => by cases h) hE hE2 fun a b ⟨e1, e2⟩ => by subst e1 e2; exact ⟨hl, hK⟩
end
theorem nanInt_w (a : Int) : ACalls Tryz.prog 73 [.c (.int .i64 a)] [] (fun _ => false) (fun r h' => r = .c (.bool false) ∧ h' = []) := by
  refine acalls mixed Tryz.func73 rfl Tryz.ntmps73 rfl fun E hE hst hho => ?_
  simp (maxSteps := 1000000) [hho, noHo, -List.reduceReplicate]
  exact Ret.same ⟨rfl, rfl⟩
theorem nanKind_w (a : Int) : ACalls Tryz.prog 74 [.c (.int .i64 a)] [] (fun _ => false) (fun r h' => r = .c (.bool false) ∧ h' = []) := by
  refine acalls mixed Tryz.func74 rfl Tryz.ntmps74 rfl fun E hE hst hho => ?_
  simp (maxSteps := 1000000) [hho, noHo, -List.reduceReplicate]
  exact Ret.same ⟨rfl, rfl⟩
theorem nanU64_w (a : Int) : ACalls Tryz.prog 123 [.c (.int .u64 a)] [] (fun _ => false) (fun r h' => r = .c (.bool false) ∧ h' = []) := by
  refine acalls mixed Tryz.func123 rfl Tryz.ntmps123 rfl fun E hE hst hho => ?_
  simp (maxSteps := 1000000) [hho, noHo, -List.reduceReplicate]
  exact Ret.same ⟨rfl, rfl⟩
theorem cmpInt_w (a b : Int) : ACalls Tryz.prog 50 [.c (.int .i64 a), .c (.int .i64 b)] [] (fun _ => false) (fun r h' => r = .c (.int .i64 (cmpN a b)) ∧ h' = []) := by
  refine acalls mixed Tryz.func50 rfl Tryz.ntmps50 rfl fun E hE hst hho => ?_
  unfold cmpN
  simp (maxSteps := 1000000) [hho, noHo, -List.reduceReplicate]
  refine call_x [] (nanInt_w a) rfl rfl ⟨rfl, rfl⟩ hho (by simp) (by decide) (by simp) (by simp) ?_
  simp (maxSteps := 1000000) [hho, noHo, -List.reduceReplicate]
  refine call_x [] (nanInt_w b) rfl rfl ⟨rfl, rfl⟩ hho (by simp) (by decide) (by simp) (by simp) ?_
  by_cases h1 : a < b
  · simp (maxSteps := 1000000) [hho, noHo, h1, -List.reduceReplicate]
    exact Ret.drop (by rfl) ⟨rfl, rfl⟩
  by_cases h2 : b < a
  · simp (maxSteps := 1000000) [hho, noHo, h1, h2, -List.reduceReplicate]
    exact Ret.drop (by rfl) ⟨rfl, rfl⟩
  · simp (maxSteps := 1000000) [hho, noHo, h1, h2, -List.reduceReplicate]
    exact Ret.drop (by rfl) ⟨rfl, rfl⟩
theorem cmpKind_w (a b : Int) : ACalls Tryz.prog 52 [.c (.int .i64 a), .c (.int .i64 b)] [] (fun _ => false) (fun r h' => r = .c (.int .i64 (cmpN a b)) ∧ h' = []) := by
  refine acalls mixed Tryz.func52 rfl Tryz.ntmps52 rfl fun E hE hst hho => ?_
  unfold cmpN
  simp (maxSteps := 1000000) [hho, noHo, -List.reduceReplicate]
  refine call_x [] (nanKind_w a) rfl rfl ⟨rfl, rfl⟩ hho (by simp) (by decide) (by simp) (by simp) ?_
  simp (maxSteps := 1000000) [hho, noHo, -List.reduceReplicate]
  refine call_x [] (nanKind_w b) rfl rfl ⟨rfl, rfl⟩ hho (by simp) (by decide) (by simp) (by simp) ?_
  by_cases h1 : a < b
  · simp (maxSteps := 1000000) [hho, noHo, h1, -List.reduceReplicate]
    exact Ret.drop (by rfl) ⟨rfl, rfl⟩
  by_cases h2 : b < a
  · simp (maxSteps := 1000000) [hho, noHo, h1, h2, -List.reduceReplicate]
    exact Ret.drop (by rfl) ⟨rfl, rfl⟩
  · simp (maxSteps := 1000000) [hho, noHo, h1, h2, -List.reduceReplicate]
    exact Ret.drop (by rfl) ⟨rfl, rfl⟩
theorem cmpU64_w (a b : Int) : ACalls Tryz.prog 101 [.c (.int .u64 a), .c (.int .u64 b)] [] (fun _ => false) (fun r h' => r = .c (.int .i64 (cmpN a b)) ∧ h' = []) := by
  refine acalls mixed Tryz.func101 rfl Tryz.ntmps101 rfl fun E hE hst hho => ?_
  unfold cmpN
  simp (maxSteps := 1000000) [hho, noHo, -List.reduceReplicate]
  refine call_x [] (nanU64_w a) rfl rfl ⟨rfl, rfl⟩ hho (by simp) (by decide) (by simp) (by simp) ?_
  simp (maxSteps := 1000000) [hho, noHo, -List.reduceReplicate]
  refine call_x [] (nanU64_w b) rfl rfl ⟨rfl, rfl⟩ hho (by simp) (by decide) (by simp) (by simp) ?_
  by_cases h1 : a < b
  · simp (maxSteps := 1000000) [hho, noHo, h1, -List.reduceReplicate]
    exact Ret.drop (by rfl) ⟨rfl, rfl⟩
  by_cases h2 : b < a
  · simp (maxSteps := 1000000) [hho, noHo, h1, h2, -List.reduceReplicate]
    exact Ret.drop (by rfl) ⟨rfl, rfl⟩
  · simp (maxSteps := 1000000) [hho, noHo, h1, h2, -List.reduceReplicate]
    exact Ret.drop (by rfl) ⟨rfl, rfl⟩
/-- the first that isn't nought -/
def orL : List Int → Int
  | [] => 0
  | x :: l => if x ≠ 0 then x else orL l
theorem orL_drop {l : List Int} {j : Nat} (hj : j < l.length) (h : l[j] = 0) : orL (l.drop j) = orL (l.drop (j + 1)) := by
  rw [List.drop_eq_getElem_cons hj, orL, h]; simp
theorem orL_hit {l : List Int} {j : Nat} (hj : j < l.length) (h : l[j] ≠ 0) : orL (l.drop j) = l[j] := by
  rw [List.drop_eq_getElem_cons hj, orL, if_pos h]
theorem intsA_at' (l : List Int) (j : Nat) (hj : j < l.length) : (intsA l)[j]? = some (.c (.int .i64 l[j])) := by
  simp [intsA, hj]
set_option maxHeartbeats 4000000 in
theorem cmpOr_w (l : List Int) (hl : l.length ≤ 1000000) : ACalls Tryz.prog 51 [.fs 1 l.length (intsA l)] [] (fun _ => false) (fun r h' => r = .c (.int .i64 (orL l)) ∧ h' = []) := by
  refine acalls mixed Tryz.func51 rfl Tryz.ntmps51 rfl fun E hE hst hho => ?_
  simp (maxSteps := 1000000) [hho, noHo, -List.reduceReplicate]
  refine loop_k mixed (fun j : Nat => ⟨slotsOf 18 [(3, .c (.int .i64 0)), (6, .fs 1 l.length (intsA l)), (7, .c (.int .i64 l.length)), (8, .c (.int .i64 (j : Nat)))], []⟩) (fun j => l.length - j) (fun j => j ≤ l.length ∧ orL l = orL (l.drop j)) 0 ⟨Nat.zero_le _, by simp⟩ ?_ ?_
  · exact wk_eq (by simp [hE, lens]) rfl (by simp [livH, livO, AV.livL, AV.liv, wkL, wkV, List.range', slotsOf])
  rintro j ⟨hj, hI⟩
  by_cases hjl : j < l.length
  · have hat := intsA_at' l j hjl
    have ew : IntKind.i64.wrap ((j : Int) + 1) = (j + 1 : Nat) := by rw [IntWalk.i64_in _ (by omega)]; rfl
    have h0 := @orL_drop l j hjl
    have h1 := @orL_hit l j hjl
    have hts : List.take 1 (List.drop j (intsA l)) = [.c (.int .i64 l[j])] := by
      rw [List.drop_eq_getElem_cons (by simpa [intsA] using hjl)]
      simp [intsA]
    obtain ⟨x, hx⟩ : ∃ x, x = l[j] := ⟨_, rfl⟩
    rw [← hx] at hat h0 h1 hts
    by_cases hx0 : x = 0
    · subst hx0
      simp (maxSteps := 1000000) [hho, noHo, slotsOf, hjl, hat, hts, ew, -List.reduceReplicate]
      refine round_next (j + 1) ⟨by omega, by rw [hI, h0 rfl]⟩ (by omega) ?_
      exact wk_of 0 0 (by simp) (by simp [hE, lens]) rfl (by simp [livH, livO, AV.livL, AV.liv, wkL, wkV, List.range']) (by simp [livH, livO, AV.livL, AV.liv, wkL, wkV, List.range', slotsOf])
    · simp (maxSteps := 1000000) [hho, noHo, slotsOf, hjl, hat, hts, hx0, -List.reduceReplicate]
      exact Ret.drop (by rfl) ⟨by rw [hI, h1 hx0], rfl⟩
  · obtain rfl : j = l.length := by omega
    simp (maxSteps := 1000000) [hho, noHo, slotsOf, -List.reduceReplicate]
    exact Ret.drop (by rfl) ⟨by rw [hI, List.drop_length]; rfl, rfl⟩
theorem dcsize_w (n : Int) (h : -9223372036854775808 ≤ n ∧ n ≤ 9223372036854775807) : ACalls Tryz.prog 99 [.c (.int .i64 n)] [] (fun _ => false) (fun r h' => r = .c (.int .u64 (n.natAbs : Nat)) ∧ h' = []) := by
  refine acalls mixed Tryz.func99 rfl Tryz.ntmps99 rfl fun E hE hst hho => ?_
  by_cases h0 : n < 0
  · have e : IntKind.u64.wrap (0 - IntKind.u64.wrap n) = (n.natAbs : Nat) := by
      rw [IntKind.wrap_u64, IntKind.wrap_u64]; omega
    have e' : IntKind.u64.wrap (-IntKind.u64.wrap n) = (n.natAbs : Nat) := by
      rw [IntKind.wrap_u64, IntKind.wrap_u64]; omega
    simp (maxSteps := 1000000) [hho, noHo, h0, e, e', -List.reduceReplicate]
    exact Ret.drop (by rfl) ⟨rfl, rfl⟩
  · have e : IntKind.u64.wrap n = (n.natAbs : Nat) := by rw [IntKind.wrap_u64]; omega
    simp (maxSteps := 1000000) [hho, noHo, h0, e, -List.reduceReplicate]
    exact Ret.drop (by rfl) ⟨rfl, rfl⟩
def tenN (k : Nat) : Nat := 10 ^ k
theorem tenN_succ (k : Nat) : tenN (k + 1) = tenN k * 10 := Nat.pow_succ ..
theorem tenN_le {k : Nat} (h : k ≤ 6) : tenN k ≤ 1000000 := Nat.pow_le_pow_right (by decide : 0 < 10) h
set_option maxHeartbeats 4000000 in
theorem dcten_w (k : Nat) (hk : k ≤ 6) : ACalls Tryz.prog 100 [.c (.int .i64 k)] [] (fun _ => false) (fun r h' => r = .c (.int .u64 (tenN k : Nat)) ∧ h' = []) := by
  refine acalls mixed Tryz.func100 rfl Tryz.ntmps100 rfl fun E hE hst hho => ?_
  have hm : min (k : Int) 13 = k := by omega
  simp (maxSteps := 1000000) [hho, noHo, hm, -List.reduceReplicate]
  refine loop_k mixed (fun j : Nat => ⟨slotsOf 12 [(3, .c (.int .u64 (tenN j : Nat))), (5, .c (.int .i64 k)), (6, .c (.int .i64 (j : Nat)))], []⟩) (fun j => k - j) (fun j => j ≤ k) 0 (Nat.zero_le _) ?_ ?_
  · exact wk_eq (by simp [hE, lens]) rfl (by simp [livH, livO, AV.livL, AV.liv, wkL, wkV, List.range', slotsOf, tenN])
  intro j hj
  by_cases hjk : j < k
  · have ew : IntKind.i64.wrap ((j : Int) + 1) = (j + 1 : Nat) := by rw [IntWalk.i64_in _ (by omega)]; rfl
    have hp := tenN_le (k := j) (by omega)
    have hs := tenN_succ j
    have eu : IntKind.u64.wrap ((tenN j : Int) * 10) = (tenN (j + 1) : Nat) := by
      rw [IntKind.wrap_u64, hs]; omega
    have hjk' : (j : Int) < k := by omega
    simp (maxSteps := 1000000) [hho, noHo, slotsOf, hjk, hjk', eu, ew, -List.reduceReplicate]
    refine round_next (j + 1) (by omega) (by omega) ?_
    exact wk_of 0 0 (by simp) (by simp [hE, lens]) rfl (by simp [livH, livO, AV.livL, AV.liv, wkL, wkV, List.range']) (by simp [livH, livO, AV.livL, AV.liv, wkL, wkV, List.range', slotsOf])
  · obtain rfl : j = k := by omega
    simp (maxSteps := 1000000) [hho, noHo, slotsOf, -List.reduceReplicate]
    exact Ret.drop (by rfl) ⟨rfl, rfl⟩
set_option maxHeartbeats 4000000 in
theorem dcall_w (a b : Int) : ACalls Tryz.prog 97 [.fs 1 2 [.c (.int .i64 a), .c (.int .i64 b)]] [] (fun _ => false) (fun r h' => r = .c (.bool (scaleOk a && scaleOk b)) ∧ h' = []) := by
  refine acalls mixed Tryz.func97 rfl Tryz.ntmps97 rfl fun E hE hst hho => ?_
  simp (maxSteps := 1000000) [hho, noHo, -List.reduceReplicate]
  refine loop_k mixed (fun j : Nat => ⟨slotsOf 15 [(5, .fs 1 2 [.c (.int .i64 a), .c (.int .i64 b)]), (6, .c (.int .i64 2)), (7, .c (.int .i64 (j : Nat)))], []⟩) (fun j => 2 - j) (fun j => j = 0 ∨ (j = 1 ∧ scaleOk a = true) ∨ (j = 2 ∧ scaleOk a = true ∧ scaleOk b = true)) 0 (.inl rfl) ?_ ?_
  · exact wk_eq (by simp [hE, lens]) rfl (by simp [livH, livO, AV.livL, AV.liv, wkL, wkV, List.range', slotsOf])
  intro j hj
  rcases hj with rfl | ⟨rfl, ha⟩ | ⟨rfl, ha, hb⟩
  · have c1 := right_dec a
    cases h : scaleOk a with
    | true =>
      rw [h] at c1
      simp (maxSteps := 1000000) [hho, noHo, slotsOf, -List.reduceReplicate]
      refine call_x [] (c1) rfl rfl ⟨rfl, rfl⟩ hho (by simp) (by decide) (by simp) (by simp) ?_
      simp (maxSteps := 1000000) [hho, noHo, show IntKind.i64.wrap 1 = 1 by decide, -List.reduceReplicate]
      refine round_next 1 (by simp [h]) (by omega) ?_
      exact wk_of 0 0 (by simp) (by simp [hE, lens]) rfl (by simp [livH, livO, AV.livL, AV.liv, wkL, wkV, List.range']) (by simp [livH, livO, AV.livL, AV.liv, wkL, wkV, List.range', slotsOf])
    | false =>
      rw [h] at c1
      simp (maxSteps := 1000000) [hho, noHo, slotsOf, -List.reduceReplicate]
      refine call_x [] (c1) rfl rfl ⟨rfl, rfl⟩ hho (by simp) (by decide) (by simp) (by simp) ?_
      simp (maxSteps := 1000000) [hho, noHo, -List.reduceReplicate]
      exact Ret.drop (by rfl) ⟨rfl, rfl⟩
  · have c1 := right_dec b
    cases h : scaleOk b with
    | true =>
      rw [h] at c1
      simp (maxSteps := 1000000) [hho, noHo, slotsOf, -List.reduceReplicate]
      refine call_x [] (c1) rfl rfl ⟨rfl, rfl⟩ hho (by simp) (by decide) (by simp) (by simp) ?_
      simp (maxSteps := 1000000) [hho, noHo, show IntKind.i64.wrap 2 = 2 by decide, -List.reduceReplicate]
      refine round_next 2 (by simp [ha, h]) (by omega) ?_
      exact wk_of 0 0 (by simp) (by simp [hE, lens]) rfl (by simp [livH, livO, AV.livL, AV.liv, wkL, wkV, List.range']) (by simp [livH, livO, AV.livL, AV.liv, wkL, wkV, List.range', slotsOf])
    | false =>
      rw [h] at c1
      simp (maxSteps := 1000000) [hho, noHo, slotsOf, -List.reduceReplicate]
      refine call_x [] (c1) rfl rfl ⟨rfl, rfl⟩ hho (by simp) (by decide) (by simp) (by simp) ?_
      simp (maxSteps := 1000000) [hho, noHo, -List.reduceReplicate]
      exact Ret.drop (by rfl) (by simp)
  · simp (maxSteps := 1000000) [hho, noHo, slotsOf, -List.reduceReplicate]
    exact Ret.drop (by rfl) (by simp [ha, hb])
end Go.Proofs.YtjgdlocgoiinbaaGreatDoor
