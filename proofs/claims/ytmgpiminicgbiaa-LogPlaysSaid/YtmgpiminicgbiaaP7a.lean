import Derived.Test.YtmgpiminicgbiaaG8
namespace Go.Proofs.Ytmgpiminicgbiaa
set_option linter.unusedVariables false
set_option linter.unusedSimpArgs false
open Go.RowKit
attribute [local simp] isCut_nil isCut_region isCut_seq isCut_block isCut_loop isCut_cond isCut_skip isCut_exit isCut_ret isCut_range swapK putK altK condK_bool pickP_bool stepP stepO onPure_some onPure_none onImpl_some onImpl_none stepC onGP_some onGP_none onGV_some condG mkG onIt_it nextP_ptr takeP_eq takeV_some takeV_none takeU_some takeU_none takeQ takeW_some takeN_none takeN_some takeG_some takeO_some altO_some pureV binV2 eqF eqOp ovlV ovl2 rowAt capV binV intBin strBin isSh shV fldV ixV sliceV slice3V loadAV nilV lenV callV unV convV viewS cellsH loadV fldCut AV.ung AV.ungs AV.gc AV.cells AS.ev AS.put anyS gcsV gcO lens lnO gV guardV retK RetP_eq resV oneV anyRo loIx hiIx implO callP_clo evL gcsL clearV storeAV AS.push AS.setO appV appZ shortS copyV buildV partsV fillV srcV fzO okV isCell_c isCell_ptr isCell_sl isCell_fs isCell_fp isCell_clo rowZ_one rowZ_zero rowZ_2 rowZ_3 rowZ_4 rowZ_5 rowZ_6 rowZ_7 rowZ_8 rowZ_9 rowZ_10 rowZ_11 rowZ_12 noHo Value.oneCell' max2V min2V lookV updV updK updW cvals mkAt basV lenM msAt afterH putBack frzFrom frzO rebO backIx nilEq_sl nilEq_fs nilEq_ifn nilEq_ifh ifOp_eql ifOp_neq isLit nilOp_eql nilOp_neq AV.reb AV.rebL
attribute [local simp ↓] runK_skip runK_region runK_draw runK_seq runK_cut runK_cond runK_block runK_loop runK_exit runK_label runK_goto runK_ret runK_range contK_nil contK_seq contK_seq_ret contK_seq_exit contK_seq_goto contK_block contK_block_ret contK_block_goto contK_block_exit runO_nil runO_cons roundK_exit roundK_ret roundK_goto exitK_ret cutK_ret cutK_exit runE_done runE_nil runE_take runE_alt condG_true condG_false
set_option maxRecDepth 10000
/-! ## The reference's log: its numbers -/
@[simp] theorem str_size (l : List UInt8) : (str l).size = l.length := by simp [str, ByteArray.size]
theorem str_app (a b : List UInt8) : str a ++ str b = str (a ++ b) := by
  apply ByteArray.ext; simp [str, ByteArray.data_append]
theorem str_ext (l : List UInt8) (a b : Nat) : (str l).extract a b = str ((l.take b).drop a) := by
  apply ByteArray.ext
  apply Array.toList_inj.1
  simp [str, ByteArray.data_extract, List.extract_eq_take_drop, List.drop_take]
theorem beL_succ (n i : Nat) : beL (n : Int) (i + 1) = UInt8.ofNat (n / 256 ^ i % 256) :: beL (n : Int) i := by
  unfold beL
  rw [List.range_succ_eq_map, List.map_cons, List.map_map]
  congr 1
  · apply UInt8.toNat_inj.1
    rw [beB_nat n (i + 1) 0 (by omega), UInt8.toNat_ofNat']
    simp
  · apply List.map_congr_left
    intro k hk
    have hk := List.mem_range.1 hk
    apply UInt8.toNat_inj.1
    simp only [Function.comp]
    rw [beB_nat n (i + 1) (k + 1) (by omega), beB_nat n i k hk]
    congr 3; omega
def beN (l : List UInt8) : Nat := l.foldl (fun u c => u * 256 + c.toNat) 0
theorem beN_snoc (l : List UInt8) (c : UInt8) : beN (l ++ [c]) = beN l * 256 + c.toNat := by simp [beN]
theorem beN_lt (l : List UInt8) : beN l < 256 ^ l.length := by
  have key : ∀ (n : Nat) (l : List UInt8), l.length = n → beN l < 256 ^ n := by
    intro n
    induction n with
    | zero => intro l h; have := List.length_eq_zero_iff.1 h; subst this; decide
    | succ n ih =>
      intro l h
      rcases List.eq_nil_or_concat l with rfl | ⟨a, c, rfl⟩
      · simp at h
      · have ha : a.length = n := by simpa using h
        have := ih a ha
        have hc := c.toNat_lt
        rw [List.concat_eq_append, beN_snoc, Nat.pow_succ]
        omega
  exact key _ l rfl
theorem getU_beN (l : List UInt8) (h8 : l.length ≤ 8) : getU l = beN l := by
  have key : ∀ (n : Nat) (l : List UInt8), l.length = n → n ≤ 8 → getU l = beN l := by
    intro n
    induction n with
    | zero => intro l h _; have := List.length_eq_zero_iff.1 h; subst this; rfl
    | succ n ih =>
      intro l h h8
      rcases List.eq_nil_or_concat l with rfl | ⟨a, c, rfl⟩
      · simp at h
      · have ha : a.length = n := by simpa using h
        rw [List.concat_eq_append, getU_snoc, beN_snoc, ih a ha (by omega)]
        unfold getStep
        have hl := beN_lt (a ++ [c])
        rw [beN_snoc] at hl
        have : (256 : Nat) ^ (a ++ [c]).length ≤ 256 ^ 8 := Nat.pow_le_pow_right (by decide) (by simp; omega)
        have e : (256 : Nat) ^ 8 = 18446744073709551616 := by decide
        rw [Nat.mod_eq_of_lt (by omega)]
  exact key _ l rfl h8
theorem beN_grow (l : List UInt8) : ∀ u, u ≤ l.foldl (fun u c => u * 256 + c.toNat) u := by
  induction l with
  | nil => intro u; exact Nat.le_refl _
  | cons c l ih => intro u; rw [List.foldl_cons]; exact Nat.le_trans (by omega) (ih _)
theorem beN_take (l : List UInt8) (i : Nat) : beN (l.take i) ≤ beN l := by
  have e : beN l = (l.drop i).foldl (fun u c => u * 256 + c.toNat) (beN (l.take i)) := by
    unfold beN; rw [← List.foldl_append, List.take_append_drop]
  rw [e]; exact beN_grow _ _
theorem beN_inj {a b : List UInt8} (h : a.length = b.length) (he : beN a = beN b) : a = b := by
  have key : ∀ (n : Nat) (a b : List UInt8), a.length = n → b.length = n → beN a = beN b → a = b := by
    intro n
    induction n with
    | zero => intro a b h1 h2 _; rw [List.length_eq_zero_iff.1 h1, List.length_eq_zero_iff.1 h2]
    | succ n ih =>
      intro a b h1 h2 he
      rcases List.eq_nil_or_concat a with rfl | ⟨a', x, rfl⟩
      · simp at h1
      rcases List.eq_nil_or_concat b with rfl | ⟨b', y, rfl⟩
      · simp at h2
      rw [List.concat_eq_append, List.concat_eq_append, beN_snoc, beN_snoc] at he
      have hx := x.toNat_lt; have hy := y.toNat_lt
      have e1 : beN a' = beN b' := by omega
      have e2 : x = y := UInt8.toNat_inj.1 (by omega)
      rw [ih a' b' (by simpa using h1) (by simpa using h2) e1, e2]
  exact key _ a b rfl h.symm he
def numR (l : List UInt8) : Int := if beN l < 4611686018427387904 then (beN l : Int) else -1
def dv (n i : Nat) : Nat := n / 256 ^ i
theorem bytes7 (n size : Nat) (hs : size ≤ 8) (hn : n < 9223372036854775808) : ACalls Try.prog 58 [.c (.int .i64 n), .c (.int .i64 size)] [] (fun _ => false) (fun r h' => r = .c (.string (str (beL n size))) ∧ h' = []) := by
  refine acalls mixed Try.func58 rfl Try.ntmps58 rfl fun E hE hst hho => ?_
  simp (maxSteps := 1000000) [hho, noHo, -List.reduceReplicate]
  refine loop_k mixed (fun i : Nat => ⟨slotsOf 22 [(0, .c (.int .i64 (dv n i : Nat))), (1, .c (.int .i64 size)), (5, .fs 1 i (u8av (beL n i))), (6, .c (.int .i64 (i : Int)))], []⟩) (fun i => size - i) (fun i => i ≤ size) 0 (Nat.zero_le _) ?_ ?_
  · refine Wk.trans (wk_slot 5 rfl fun G F w v _ h => nil_fs0 1 h) ?_
    exact wk_all (by simp [hE, lens]) (by simp) (by simp [livH, livO, AV.livL, AV.liv, wkL, wkV, List.range', slotsOf, beL, dv])
  · intro i hi
    by_cases his : i < size
    · have ew : IntKind.i64.wrap ((i : Int) + 1) = (i + 1 : Nat) := by rw [IntWalk.i64_in _ (by omega)]; rfl
      obtain ⟨m, hm⟩ : ∃ m, m = dv n i := ⟨_, rfl⟩
      have hmn : m < 9223372036854775808 := by rw [hm]; exact Nat.lt_of_le_of_lt (Nat.div_le_self _ _) hn
      have ed : dv n (i + 1) = m / 256 := by rw [hm]; unfold dv; rw [Nat.div_div_eq_div_mul, Nat.pow_succ]
      have eq : IntKind.i64.wrap ((m : Int) / 256) = (m / 256 : Nat) := by rw [IntWalk.i64_in _ (by omega)]; rfl
      have er : IntKind.u8.wrap ((m : Int).tmod 256) = (m % 256 : Nat) := by
        have : (m : Int).tmod 256 = ((m % 256 : Nat) : Int) := by rw [Int.tmod_eq_emod_of_nonneg (by omega)]; rfl
        rw [this, IntKind.wrap_u8]; omega
      have eb : AV.c (Value.int .u8 ((m : Int) % 256)) :: u8av (beL n i) = u8av (beL n (i + 1)) := by
        rw [beL_succ, ← show dv n i = n / 256 ^ i from rfl, ← hm]
        simp only [u8av, List.map_cons, u8, UInt8.toNat_ofNat']
        congr 4
        omega
      rw [← hm]
      simp (maxSteps := 1000000) [hho, noHo, slotsOf, his, eq, er, ew, -List.reduceReplicate]
      refine ⟨by omega, ?_⟩
      simp only [eb]
      refine round_next (i + 1) (by omega) (by omega) ?_
      refine Wk.trans (wk_frozen 5 0 rfl rfl hho (by simp; omega) (by unfold maxLen; omega) (by rw [List.all_eq_true]; exact (u8av_all _).2 trivial)) ?_
      exact wk_of 0 1 (by simp) (by simp [hE, lens]) rfl (by simp [livH, livO, AV.livL, AV.liv, wkL, wkV, List.range']) (by simp [livH, livO, AV.livL, AV.liv, wkL, wkV, List.range', slotsOf, ed, Nat.add_comm])
    · obtain rfl : i = size := by omega
      simp (maxSteps := 1000000) [hho, noHo, slotsOf, bytesOf_str, -List.reduceReplicate]
      exact ⟨isU8_all _, Ret.same ⟨rfl, rfl⟩⟩
theorem num7 (l : List UInt8) (hl : l.length ≤ 8) : ACalls Try.prog 42 [.c (.string (str l))] [] (fun _ => false) (fun r h' => r = .c (.int .i64 (numR l)) ∧ h' = []) := by
  refine acalls mixed Try.func42 rfl Try.ntmps42 rfl fun E hE hst hho => ?_
  simp (maxSteps := 1000000) [hho, noHo, -List.reduceReplicate]
  refine loop_k mixed (fun i : Nat => ⟨slotsOf 21 [(0, .c (.string (str l))), (3, .c (.int .i64 (beN (l.take i) : Nat))), (4, .c (.int .i64 (i : Int)))], []⟩) (fun i => l.length - i) (fun i => i ≤ l.length ∧ beN (l.take i) < 4611686018427387904) 0 ⟨Nat.zero_le _, by simp [beN]⟩ ?_ ?_
  · exact wk_all (by simp [hE, lens]) (by simp) (by simp [livH, livO, AV.livL, AV.liv, wkL, wkV, List.range', slotsOf, beN])
  · rintro i ⟨hi, hI⟩
    by_cases his : i < l.length
    · have ew : IntKind.i64.wrap ((i : Int) + 1) = (i + 1 : Nat) := by rw [IntWalk.i64_in _ (by omega)]; rfl
      have et : l.take (i + 1) = l.take i ++ [l[i]] := List.take_succ_eq_append_getElem his
      have es : beN (l.take (i + 1)) = beN (l.take i) * 256 + l[i].toNat := by rw [et, beN_snoc]
      have hc := l[i].toNat_lt
      obtain ⟨u, hu⟩ : ∃ u, u = beN (l.take i) := ⟨_, rfl⟩
      rw [← hu] at es hI ⊢
      by_cases hb : 18014398509481984 ≤ u
      · have hbi : (18014398509481984 : Int) ≤ u := by omega
        simp (maxSteps := 1000000) [hho, noHo, slotsOf, his, hb, hbi, -List.reduceReplicate]
        refine Ret.same ⟨?_, rfl⟩
        have := beN_take l (i + 1)
        unfold numR
        rw [if_neg (by omega)]
      · have hbi : ¬ (18014398509481984 : Int) ≤ u := by omega
        simp (maxSteps := 1000000) [hho, noHo, slotsOf, his, hb, hbi, ew, -List.reduceReplicate]
        have ed : (str l).data[i]'(by simpa using his) = l[i] := by simp [str]
        have e3 : IntKind.i64.wrap (IntKind.i64.wrap (256 * (u : Int)) + IntKind.i64.wrap (l[i].toNat : Int)) = (beN (l.take (i + 1)) : Nat) := by
          rw [IntWalk.i64_in (256 * (u : Int)) (by omega), IntWalk.i64_in (l[i].toNat : Int) (by omega), IntWalk.i64_in _ (by omega), es]; omega
        refine round_next (i + 1) ⟨by omega, by omega⟩ (by omega) ?_
        simp only [ed, e3]
        exact wk_all (by simp [hE, lens]) (by simp) (by simp [livH, livO, AV.livL, AV.liv, wkL, wkV, List.range', slotsOf])
    · obtain rfl : i = l.length := by omega
      simp (maxSteps := 1000000) [hho, noHo, slotsOf, -List.reduceReplicate]
      rw [List.take_length] at hI
      refine Ret.same ⟨?_, rfl⟩
      unfold numR
      rw [if_pos hI]
def padL (l : List UInt8) (n : Nat) : List UInt8 := l ++ List.replicate (n - l.length) 0
theorem str_zero : (⟨#[0]⟩ : ByteArray) = str [0] := rfl
theorem pad7 (l : List UInt8) (n : Nat) (hl : l.length ≤ 1000000) (hn : n ≤ 1000000) : ACalls Try.prog 59 [.c (.string (str l)), .c (.int .i64 n)] [] (fun _ => false) (fun r h' => r = .c (.string (str (padL l n))) ∧ h' = []) := by
  refine acalls mixed Try.func59 rfl Try.ntmps59 rfl fun E hE hst hho => ?_
  simp (maxSteps := 1000000) [hho, noHo, -List.reduceReplicate]
  refine loop_k mixed (fun j : Nat => ⟨slotsOf 12 [(0, .c (.string (str (l ++ List.replicate j 0)))), (1, .c (.int .i64 n))], []⟩) (fun j => n - l.length - j) (fun j => j ≤ n - l.length) 0 (Nat.zero_le _) ?_ ?_
  · exact wk_all (by simp [hE, lens]) (by simp) (by simp [livH, livO, AV.livL, AV.liv, wkL, wkV, List.range', slotsOf])
  · intro j hj
    by_cases hjn : l.length + j < n
    · have hji : (l.length : Int) + j < n := by omega
      have e1 : (⟨#[0]⟩ : ByteArray).size = 1 := rfl
      simp (maxSteps := 1000000) [hho, noHo, slotsOf, hjn, hji, -List.reduceReplicate]
      refine ⟨by omega, ?_⟩
      refine round_next (j + 1) (by omega) (by omega) ?_
      rw [str_zero, str_app, List.append_assoc, ← List.replicate_succ']
      exact wk_all (by simp [hE, lens]) (by simp) (by simp [livH, livO, AV.livL, AV.liv, wkL, wkV, List.range', slotsOf])
    · obtain rfl : j = n - l.length := by omega
      have hji : ¬ (l.length : Int) + (n - l.length : Nat) < n := by omega
      simp (maxSteps := 1000000) [hho, noHo, slotsOf, hji, -List.reduceReplicate]
      exact Ret.same ⟨rfl, rfl⟩
end Go.Proofs.Ytmgpiminicgbiaa
