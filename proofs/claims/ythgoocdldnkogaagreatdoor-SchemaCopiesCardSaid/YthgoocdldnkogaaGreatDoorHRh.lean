import Derived.Test.YthgoocdldnkogaaGreatDoorHR5
import Derived.Test.YthgoocdldnkogaaGreatDoorHU
namespace Go.Proofs.YthgoocdldnkogaaGreatDoor
set_option linter.unusedVariables false
set_option linter.unusedSimpArgs false
open Go.RowKit
attribute [local simp] isCut_nil isCut_region isCut_seq isCut_block isCut_loop isCut_cond isCut_skip isCut_exit isCut_ret isCut_range swapK putK altK condK_bool pickP_bool stepP stepO onPure_some onPure_none onImpl_some onImpl_none stepC onGP_some onGP_none onGV_some condG mkG onIt_it nextP_ptr takeP_eq takeV_some takeV_none takeU_some takeU_none takeQ takeW_some takeN_none takeN_some takeG_some takeO_some altO_some pureV binV2 eqF eqOp ovlV ovl2 rowAt capV binV intBin strBin isSh shV fldV ixV sliceV slice3V loadAV nilV lenV callV unV convV viewS cellsH loadV fldCut AV.ung AV.ungs AV.gc AV.cells AS.ev AS.put anyS gcsV gcO lens lnO gV guardV retK RetP_eq resV oneV anyRo loIx hiIx implO callP_clo evL gcsL clearV storeAV AS.push AS.setO appV appZ shortS copyV buildV partsV fillV srcV fzO okV isCell_c isCell_ptr isCell_sl isCell_fs isCell_fp isCell_clo rowZ_one rowZ_zero rowZ_2 rowZ_3 rowZ_4 rowZ_5 rowZ_6 rowZ_7 rowZ_8 rowZ_9 rowZ_10 rowZ_11 rowZ_12 noHo Value.oneCell' max2V min2V lookV updV updK updW cvals mkAt basV lenM msAt afterH putBack frzFrom frzO rebO backIx nilEq_sl nilEq_fs nilEq_ifn nilEq_ifh ifOp_eql ifOp_neq isLit nilOp_eql nilOp_neq AV.reb AV.rebL
attribute [local simp ↓] runK_skip runK_region runK_draw runK_seq runK_cut runK_cond runK_block runK_loop runK_exit runK_label runK_goto runK_ret runK_range contK_nil contK_seq contK_seq_ret contK_seq_exit contK_seq_goto contK_block contK_block_ret contK_block_goto contK_block_exit runO_nil runO_cons roundK_exit roundK_ret roundK_goto exitK_ret cutK_ret cutK_exit runE_done runE_nil runE_take runE_alt condG_true condG_false
set_option maxRecDepth 10000
theorem rtextS_lens {s : Option (List UInt8)} {m : Nat} (h : ∀ l, s = some l → l.length ≤ m) : (rtextS s).1.length ≤ m ∧ ∀ l, (rtextS s).2 = some l → l.length ≤ m := by
 have h1 := rnumS_len h
 unfold rtextS
 obtain ⟨v, hv⟩ : ∃ v, v = rnumS s := ⟨_, rfl⟩
 rw [← hv] at h1 ⊢
 obtain ⟨n, s2⟩ := v
 rcases s2 with _ | l2
 ·exact ⟨Nat.zero_le _, fun l e => by cases e⟩
 ·have h2 := h1 l2 rfl
  simp only
  split
  ·exact ⟨Nat.zero_le _, fun l e => by cases e⟩
  ·refine ⟨by simp only [List.length_take]; omega, fun l e => ?_⟩
   injection e with e; subst e; rw [List.length_drop]; omega
theorem getVS_le {s : Option (List UInt8)} {m : Nat} (h : ∀ l, s = some l → l.length ≤ m) : (getVS s).1.t.size ≤ m ∧ ∀ l, (getVS s).2 = some l → l.length ≤ m := by
 have h1 := rnumS_len h
 have e0 : ByteArray.empty.size = 0 := rfl
 unfold getVS
 split
 ·exact ⟨by simp only [e0]; omega, rcountS_len' h1⟩
 ·split
  ·exact ⟨by simp only [e0]; omega, rnumS_len h1⟩
  ·split
   ·exact ⟨by simp only [e0]; omega, rnumS_len (rnumS_len h1)⟩
   ·obtain ⟨a, b⟩ := rtextS_lens h1
    exact ⟨a, b⟩
theorem getCS_le {s : Option (List UInt8)} {m : Nat} (h : ∀ l, s = some l → l.length ≤ m) : (getCS s).1.v.t.size ≤ m ∧ ∀ l, (getCS s).2 = some l → l.length ≤ m := getVS_le (rnumS_len h)
theorem rdC_le {s : Option (List UInt8)} {m : Nat} (h : ∀ l, s = some l → l.length ≤ m) (j : Nat) : (∀ c ∈ (rdC s j).1, c.v.t.size ≤ m) ∧ ∀ l, (rdC s j).2 = some l → l.length ≤ m := by
 induction j with
 | zero => exact ⟨fun c hc => (by cases hc), h⟩
 | succ j ih =>
  obtain ⟨a, b⟩ := getCS_le ih.2
  refine ⟨fun c hc => ?_, b⟩
  rcases List.mem_append.1 hc with hc | hc
  ·exact ih.1 c hc
  ·rw [List.mem_singleton.1 hc]; exact a
theorem rcountS_rng (s : Option (List UInt8)) (m : Int) (hm : 0 ≤ m) : 0 ≤ (rcountS s m).1 ∧ (rcountS s m).1 ≤ m := by
 unfold rcountS
 split
 ·exact ⟨Int.le_refl _, hm⟩
 ·rename_i h; exact ⟨by omega, by omega⟩
theorem cellsA_snoc (l : List CellS) (x : CellS) : cellsA (l ++ [x]) = cellsA l ++ cellA x := by rw [cellsA_app, cellsA_one]
def rowParseA (b : List UInt8) : AV := match parseS b with
 | some l => .tup [.fs 5 l.length (cellsA l), .c (.bool true)]
 | none => .tup [.c (.slice none 0 0), .c (.bool false)]
set_option maxHeartbeats 4000000 in
theorem parse_row (b : List UInt8) (hb : b.length ≤ 100000) : ACalls Tryz.prog 166 [.fs 1 b.length (u8av b)] [] (fun _ => false) (fun r h' => r = rowParseA b ∧ h' = []) := by
 refine acalls mixed Tryz.func166 rfl Tryz.ntmps166 rfl fun E hE hst hho => ?_
 have hb0 : ∀ l, some b = some l → l.length ≤ 100000 := fun l e => by injection e with e; subst e; exact hb
 have hb1 : ∀ l, some b = some l → l.length ≤ 1000000000 := fun l e => Nat.le_trans (hb0 l e) (by omega)
 have hrd := read_r b (by omega)
 have hc := count_r (some b) hb1 b.length
 have hcl := rcountS_len' (m := (b.length : Int)) hb0
 have hcr := rcountS_rng (some b) b.length (by omega)
 unfold rowParseA parseS
 obtain ⟨v, hv⟩ : ∃ v, v = rcountS (some b) b.length := ⟨_, rfl⟩
 rw [← hv] at hc hcl hcr ⊢
 obtain ⟨ni, s⟩ := v
 simp only at hc hcl hcr ⊢
 obtain ⟨n, rfl⟩ : ∃ n : Nat, ni = n := ⟨ni.toNat, by omega⟩
 rw [Int.toNat_natCast]
 clear hv
 have hn : n ≤ 100000 := by omega
 rw [rdS_some] at hc
 simp (maxSteps := 1000000) [hho, noHo, -List.reduceReplicate]
 refine call_x [] hrd rfl rfl ⟨rfl, rfl⟩ hho (by simp) (by decide) (by simp) (by simp) ?_
 have start : ∀ s : Option (List UInt8), ∃ cs, rdS s = [.o .box cs] ∧ cs.length = 2 ∧ ∀ β, AV.rebL β cs = cs := fun s => by cases s <;> exact ⟨_, rfl, rfl, fun β => rebL_isD rfl⟩
 obtain ⟨cs, hcs, hcs2, hcs3⟩ := start s
 rw [hcs] at hc
 simp (maxSteps := 1000000) [rdS_some, hho, noHo, -List.reduceReplicate]
 refine call_x [0] hc rfl rfl ⟨rfl, rfl⟩ hho (by simp) (by decide) (by simp) (by simp) ?_
 simp (maxSteps := 1000000) [hho, noHo, -List.reduceReplicate]
 refine loop_k mixed (fun j : Nat => ⟨slotsOf 35 [(4, .ptr 0 0 2), (5, .sl 1 5 0 j (j * 5)), (12, .c (.int .i64 n)), (13, .c (.int .i64 (j : Nat)))], rdS (rdC s j).2 ++ [rowC (rdC s j).1]⟩) (fun j => n - j) (fun j => j ≤ n) 0 (Nat.zero_le _) ?_ ?_
 ·refine Wk.trans (wk_virt 5 190 5 rfl) ?_
  exact wk_eq (by simp [hE, lens]) (by simp [rdC, hcs, hcs3, rowC, cellsA]) (by simp [livH, livO, AV.livL, AV.liv, wkL, wkV, List.range', slotsOf])
 ·intro j hj
  have hle := (rdC_le hcl j).2
  have hle1 : ∀ l, (rdC s j).2 = some l → l.length ≤ 1000000000 := fun l e => Nat.le_trans (hle l e) (by omega)
  have hln := rdC_len s j
  by_cases hjn : j < n
  ·have e1 : rdC s (j + 1) = ((rdC s j).1 ++ [⟨(rnumS (rdC s j).2).1, (getVS (rnumS (rdC s j).2).2).1⟩], (getVS (rnumS (rdC s j).2).2).2) := rfl
   have ew : IntKind.i64.wrap ((j : Int) + 1) = (j + 1 : Nat) := by rw [IntWalk.i64_in _ (by omega)]; rfl
   have k1 := number_r (rdC s j).2 hle1
   have k2 := get_r (rnumS (rdC s j).2).2 (rnumS_len hle1)
   obtain ⟨p, hp⟩ : ∃ p, p = rdC s j := ⟨_, rfl⟩
   rw [← hp] at e1 k1 k2 hln ⊢
   obtain ⟨l, s0⟩ := p
   simp only at e1 k1 k2 hln ⊢
   obtain ⟨p1, hp1⟩ : ∃ p, p = rnumS s0 := ⟨_, rfl⟩
   rw [← hp1] at e1 k1 k2
   obtain ⟨x1, s1⟩ := p1
   simp only at e1 k1 k2
   obtain ⟨p2, hp2⟩ : ∃ p, p = getVS s1 := ⟨_, rfl⟩
   rw [← hp2] at e1 k2
   obtain ⟨x2, s2⟩ := p2
   simp only at e1 k2
   clear hp hp1 hp2 hle hle1
   have hsn := cellsA_snoc l ⟨x1, x2⟩
   rcases s0 with _ | s0 <;> rcases s1 with _ | s1 <;> rcases s2 with _ | s2 <;>
   ·simp (maxSteps := 1000000) [slotsOf, rdS_none, rdS_some, rowC, hho, noHo, hjn, -List.reduceReplicate]
    refine call_x [0] k1 rfl rfl ⟨rfl, rfl⟩ hho (by simp) (by decide) (by simp) (by simp [rdS]) ?_
    simp (maxSteps := 1000000) [rdS_none, rdS_some, hho, noHo, -List.reduceReplicate]
    refine call_x [0] k2 rfl rfl ⟨rfl, rfl⟩ hho (by simp) (by decide) (by simp) (by simp [rdS]) ?_
    simp (maxSteps := 1000000) [rdS_none, rdS_some, hho, noHo, valA, ew, hln, -List.reduceReplicate]
    refine ⟨by omega, round_next (j + 1) (by omega) (by omega) ?_⟩
    exact wk_of 2 2 (by simp) (by simp [hE, lens]) (by simp [e1, rdS_none, rdS_some, rowC, hsn, cellA, valA]) (by simp [livH, livO, AV.livL, AV.liv, wkL, wkV, List.range', e1, rdS_none, rdS_some, rowC]) (by simp [livH, livO, AV.livL, AV.liv, wkL, wkV, List.range', slotsOf, Nat.add_mul])
  ·obtain rfl : j = n := by omega
   have hsz := (rdC_le hcl j).1
   obtain ⟨p, hp⟩ : ∃ p, p = rdC s j := ⟨_, rfl⟩
   rw [← hp] at hln hsz ⊢
   obtain ⟨l, sf⟩ := p
   simp only at hln hsz ⊢
   have hend := end_r sf
   have hR := right_row l (by omega) fun c hc => Nat.le_trans (hsz c hc) (by omega)
   have hLl : (cellsA l).length = j * 5 := by rw [cellsA_length, hln]
   have htk : List.take (j * 5) (cellsA l) = cellsA l := List.take_of_length_le (by omega)
   clear hp hle hle1
   rw [hln] at hR
   have eR : AV.fs 5 j (cellsA l) = .fs 5 j (List.take (j * 5) (List.drop 0 (cellsA l))) := by rw [List.drop_zero, htk]
   by_cases hsf : sf = some []
   ·subst hsf
    rw [eR] at hR
    simp (maxSteps := 1000000) [slotsOf, rdS_some, rdS_none, rowC, hho, noHo, -List.reduceReplicate]
    refine call_x [0] hend rfl rfl ⟨rfl, rfl⟩ hho (by simp) (by decide) (by simp) (by simp [rdS]) ?_
    simp (maxSteps := 1000000) [rdS_some, rdS_none, rowC, hho, noHo, -List.reduceReplicate]
    refine call_plain (fun k => k == 1) hR (ha := by rfl) ?_ ?_
    ·exact ⟨⟨hLl, by omega, by unfold maxLen; omega, by rw [List.drop_zero, htk]; exact List.all_eq_true.2 ((cellsA_all l).2 trivial)⟩, trivial⟩
    rintro r h' ⟨rfl, rfl⟩
    refine ⟨rfl, ?_⟩
    cases hok : okR (-1) l with
    | false =>
     simp (maxSteps := 1000000) [rdS_some, rdS_none, rowC, hho, noHo, -List.reduceReplicate]
     exact Ret.drop (by rfl) ⟨rfl, rfl⟩
    | true =>
     simp (maxSteps := 1000000) [rdS_some, rdS_none, rowC, hho, noHo, -List.reduceReplicate]
     refine Ret.sel [] (fun k => k == 1) (ho := by rfl) (ha := by rfl) ?_ ?_ (by decide) (by simp) (fun i _ h => by cases h) ⟨?_, rfl⟩
     ·simp
     ·simp [hLl]
      exact ⟨by unfold maxLen; omega, by rw [htk]; exact (cellsA_all l).2 trivial⟩
     ·show AV.tup [AV.fs 5 j (List.take (j * 5) (List.drop 0 (cellsA l))), .c (.bool true)] = _
      rw [List.drop_zero, htk, hln]
   ·have hsf' : decide (sf = some []) = false := decide_eq_false hsf
    rw [hsf'] at hend
    rw [if_neg fun h => hsf h.1]
    rcases sf with _ | sf <;>
    ·simp (maxSteps := 1000000) [slotsOf, rdS_some, rdS_none, rowC, hho, noHo, -List.reduceReplicate]
     refine call_x [0] hend rfl rfl ⟨rfl, rfl⟩ hho (by simp) (by decide) (by simp) (by simp [rdS]) ?_
     simp (maxSteps := 1000000) [rdS_some, rdS_none, rowC, hho, noHo, undef, onGP_none, condG_false, -List.reduceReplicate]
     exact Ret.drop (by rfl) ⟨rfl, rfl⟩

theorem valOk_size {v : ValS} (hv : valOk v = true) : v.t.size ≤ 200 := by
 have e0 : ByteArray.empty.size = 0 := rfl
 unfold valOk at hv
 repeat' split at hv
 all_goals try simp only [Bool.and_eq_true, decide_eq_true_eq] at hv
 ·rw [hv.2]; omega
 ·rw [hv.2]; omega
 ·rw [hv.2]; omega
 ·rw [hv.1]; omega
 ·omega
 ·omega
 ·cases hv
end Go.Proofs.YthgoocdldnkogaaGreatDoor
