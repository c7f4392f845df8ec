import Derived.Test.YtglhmhpaoebifaaCH
import Derived.Test.YtglhmhpaoebifaaBX
namespace Go.Proofs.Ytglhmhpaoebifaa
set_option linter.unusedVariables false
set_option linter.unusedSimpArgs false
open Go.RowKit
attribute [local simp] isCut_nil isCut_region isCut_seq isCut_block isCut_loop isCut_cond isCut_skip isCut_exit isCut_ret isCut_range swapK putK altK condK_bool pickP_bool stepP stepO onPure_some onPure_none onImpl_some onImpl_none stepC onGP_some onGP_none onGV_some condG mkG onIt_it nextP_ptr takeP_eq takeV_some takeN_none takeN_some takeG_some takeO_some altO_some pureV binV2 eqF eqOp ovlV ovl2 rowAt capV binV intBin strBin isSh shV fldV ixV sliceV slice3V loadAV nilV lenV callV unV convV viewS cellsH loadV fldCut AV.ung AV.ungs AV.gc AV.cells AS.ev AS.put anyS gcsV lens lnO gV guardV retK RetP_eq resV oneV anyRo loIx hiIx implO callP_clo evL gcsL clearV storeAV AS.push AS.setO appV appZ shortS copyV buildV partsV fillV srcV fzO okV isCell_c isCell_ptr isCell_sl isCell_fs isCell_fp isCell_clo rowZ_one rowZ_zero rowZ_2 rowZ_3 rowZ_4 rowZ_5 rowZ_6 rowZ_7 rowZ_8 rowZ_9 rowZ_10 rowZ_11 rowZ_12 noHo Value.oneCell' max2V min2V afterH putBack frzFrom frzO rebO backIx nilEq_sl nilEq_fs nilOp_eql nilOp_neq AV.reb AV.rebL
attribute [local simp ↓] runK_skip runK_region runK_draw runK_seq runK_cut runK_cond runK_block runK_loop runK_exit runK_label runK_goto runK_ret runK_range contK_nil contK_seq contK_seq_ret contK_seq_exit contK_seq_goto contK_block contK_block_ret contK_block_goto contK_block_exit runO_nil runO_cons roundK_exit roundK_ret roundK_goto exitK_ret cutK_ret cutK_exit runE_done runE_nil runE_take runE_alt condG_true condG_false
set_option maxRecDepth 10000
/-! ## lease.Parse -/
theorem rnumS_len {s : Option (List UInt8)} {m : Nat} (h : ∀ l, s = some l → l.length ≤ m) : ∀ l, (rnumS s).2 = some l → l.length ≤ m := by
  intro l hl
  rcases s with _ | b
  · cases hl
  · have hb := h b rfl
    rcases b with _ | ⟨x, t⟩
    · cases hl
    · by_cases h8 : 8 < x.toNat % 128
      · simp [rnumS, rnum, h8] at hl
      · rw [rnumS_cons x t _ rfl h8] at hl
        simp only [List.length_cons] at hb
        split at hl
        · cases hl
        · split at hl
          · cases hl
          · simp only [Option.some.injEq] at hl
            rw [← hl, List.length_drop]; omega
/-- j leases read from a reader's state -/
def rdA (s : Option (List UInt8)) : Nat → List LeaseS × Option (List UInt8)
  | 0 => ([], s)
  | j + 1 => ((rdA s j).1 ++ [⟨(rnumS (rdA s j).2).1, (rnumS (rnumS (rdA s j).2).2).1, (rnumS (rnumS (rnumS (rdA s j).2).2).2).1⟩], (rnumS (rnumS (rnumS (rdA s j).2).2).2).2)
theorem rdA_len (s : Option (List UInt8)) (j : Nat) : (rdA s j).1.length = j := by
  induction j with
  | zero => rfl
  | succ j ih => simp [rdA, ih]
theorem rdA_le {s : Option (List UInt8)} {m : Nat} (h : ∀ l, s = some l → l.length ≤ m) (j : Nat) : ∀ l, (rdA s j).2 = some l → l.length ≤ m := by
  induction j with
  | zero => exact h
  | succ j ih => exact rnumS_len (rnumS_len (rnumS_len ih))
theorem rdA_i64 (s : Option (List UInt8)) (j : Nat) : ∀ x ∈ (rdA s j).1, i64L x := by
  induction j with
  | zero => intro x hx; cases hx
  | succ j ih =>
    intro x hx
    rcases List.mem_append.1 hx with hx | hx
    · exact ih x hx
    · rw [List.mem_singleton.1 hx]
      exact ⟨rnumS_le _, rnumS_le _, rnumS_le _⟩
def inOrd (l : List LeaseS) : Prop := ∀ (i : Nat) (h0 : 0 < i) (hi : i < l.length), l[i - 1].s ≤ l[i].s
theorem order_book {l : List LeaseS} (h : SrtOk l) (ho : inOrd l) : BookOk l := by
  have mono : ∀ (d i : Nat) (h1 : i + d < l.length), (l[i]'(by omega)).s ≤ l[i + d].s := by
    intro d
    induction d with
    | zero => intro i h1; exact Int.le_refl _
    | succ d ih =>
      intro i h1
      have a := ih i (by omega)
      have b := ho (i + (d + 1)) (by omega) h1
      exact Int.le_trans a b
  refine ⟨?_, h.2⟩
  unfold SortedL
  rw [List.pairwise_iff_getElem]
  intro i j hi hj hij
  simp only [List.length_map] at hi hj
  simp only [List.getElem_map]
  have h1 := mono (j - i) i (by omega)
  have e : i + (j - i) = j := by omega
  simp only [e] at h1
  rcases Int.lt_or_eq_of_le h1 with h2 | h2
  · exact h2
  · exfalso
    obtain ⟨r1, r2⟩ := rightL_s (h.2 _ (List.getElem_mem hj))
    have hc := h.1 l[j].s.toNat (by omega)
    rw [show ((l[j].s.toNat : Nat) : Int) = l[j].s by omega] at hc
    have hsub : [l[i], l[j]].Sublist l := by
      have hd2 : l = l.take j ++ l[j] :: l.drop (j + 1) := by rw [List.getElem_cons_drop, List.take_append_drop]
      have h3 : [l[i]].Sublist (l.take j) := by
        rw [List.singleton_sublist]
        exact List.mem_take_iff_getElem.2 ⟨i, by omega, rfl⟩
      have h4 : [l[j]].Sublist (l[j] :: l.drop (j + 1)) := by
        rw [List.singleton_sublist]; exact List.mem_cons_self
      have h5 := h3.append h4
      rw [← hd2] at h5
      exact h5
    have hf := hsub.filter fun x => decide (x.s = l[j].s)
    have := hf.length_le
    simp [h2] at this
    omega
theorem order_stab {l : List LeaseS} (h : SrtOk l) (ho : inOrd l) : stabS ltL l = l := by
  rw [← (srtOk_new h).2, srtP_self (order_book h ho)]
/-- the bytes are a book's -/
def ParseOk (b : List UInt8) : Prop := (rdA (rcountS (some b) 16).2 (rcountS (some b) 16).1.toNat).2 = some [] ∧ SrtOk (rdA (rcountS (some b) 16).2 (rcountS (some b) 16).1.toNat).1 ∧ inOrd (rdA (rcountS (some b) 16).2 (rcountS (some b) 16).1.toNat).1
theorem rcountS_le (s : Option (List UInt8)) : 0 ≤ (rcountS s 16).1 ∧ (rcountS s 16).1 ≤ 16 := by
  unfold rcountS
  split
  · simp
  · omega
theorem rcountS_len {s : Option (List UInt8)} {m : Nat} (h : ∀ l, s = some l → l.length ≤ m) : ∀ l, (rcountS s 16).2 = some l → l.length ≤ m := by
  unfold rcountS
  split
  · intro l h; cases h
  · exact rnumS_len h
set_option maxHeartbeats 8000000 in
theorem parse_book (b : List UInt8) (hb : b.length ≤ 1000000000) (Post : AV → List AObj → Prop) (h1 : ParseOk b → Post (.tup [.ptr 0 0 1, .c (.bool true)]) (bookO (rdA (rcountS (some b) 16).2 (rcountS (some b) 16).1.toNat).1)) (h2 : ¬ ParseOk b → Post (.tup [.c (.pointer none), .c (.bool false)]) []) : ACalls Try.prog 28 [.fs 1 b.length (u8av b)] [] (fun _ => false) Post := by
  refine acalls mixed Try.func28 rfl Try.ntmps28 rfl fun E hE hst hho => ?_
  simp (maxSteps := 1000000) [hho, noHo, -List.reduceReplicate]
  refine call_x [] (read_r b hb) rfl rfl ⟨rfl, rfl⟩ hho (by simp) (by decide) (by simp) (by simp) ?_
  have hcl := rcountS_len (s := some b) (m := 1000000000) fun l h => by injection h with h; rw [← h]; exact hb
  have hcb := rcountS_le (some b)
  have hc := count_r (some b) (fun l h => by injection h with h; rw [← h]; exact hb) 16
  unfold ParseOk at h1 h2
  obtain ⟨v, hv⟩ : ∃ v, v = rcountS (some b) 16 := ⟨_, rfl⟩
  rw [← hv] at hc hcl hcb h1 h2
  obtain ⟨c, s⟩ := v
  simp only at hc hcl hcb h1 h2
  obtain ⟨n, rfl⟩ : ∃ n : Nat, c = (n : Int) := ⟨c.toNat, by omega⟩
  rw [Int.toNat_natCast] at h1 h2
  clear hv
  have start : ∀ s : Option (List UInt8), ∃ cs, rdS s = [.o .box cs] ∧ cs.length = 2 ∧ ∀ β, AV.rebL β cs = cs := fun s => by cases s <;> exact ⟨_, rfl, rfl, fun β => rebL_isD rfl⟩
  obtain ⟨cs, hcs, hcs2, hcs3⟩ := start s
  rw [hcs] at hc
  simp (maxSteps := 1000000) [rdS_some, hho, noHo, -List.reduceReplicate]
  refine call_x [0] hc rfl rfl ⟨rfl, rfl⟩ hho (by simp) (by decide) (by simp) (by simp) ?_
  simp (maxSteps := 1000000) [hho, noHo, -List.reduceReplicate]
  refine loop_k mixed (fun j : Nat => ⟨slotsOf 43 [(4, .ptr 0 0 2), (5, .sl 1 3 0 j (j * 3)), (11, .c (.int .i64 n)), (12, .c (.int .i64 (j : Nat)))], rdS (rdA s j).2 ++ [rowL (rdA s j).1]⟩) (fun j => n - j) (fun j => j ≤ n) 0 (Nat.zero_le _) ?_ ?_
  · refine Wk.trans (wk_virt 5 48 3 rfl) ?_
    exact wk_eq (by simp [hE, lens]) (by simp [rdA, hcs, hcs3, rowL, leasesA]) (by simp [livH, livO, AV.livL, AV.liv, wkL, wkV, List.range', slotsOf])
  · intro j hj
    have hle := rdA_le hcl j
    have hln := rdA_len s j
    by_cases hjn : j < n
    · have e1 : rdA s (j + 1) = ((rdA s j).1 ++ [⟨(rnumS (rdA s j).2).1, (rnumS (rnumS (rdA s j).2).2).1, (rnumS (rnumS (rnumS (rdA s j).2).2).2).1⟩], (rnumS (rnumS (rnumS (rdA s j).2).2).2).2) := rfl
      have ew : IntKind.i64.wrap ((j : Int) + 1) = (j + 1 : Nat) := by rw [IntWalk.i64_in _ (by omega)]; rfl
      have k1 := number_r (rdA s j).2 hle
      have k2 := number_r (rnumS (rdA s j).2).2 (rnumS_len hle)
      have k3 := number_r (rnumS (rnumS (rdA s j).2).2).2 (rnumS_len (rnumS_len hle))
      obtain ⟨p, hp⟩ : ∃ p, p = rdA s j := ⟨_, rfl⟩
      rw [← hp] at e1 k1 k2 k3 hln ⊢
      obtain ⟨l, s0⟩ := p
      simp only at e1 k1 k2 k3 hln ⊢
      obtain ⟨p1, hp1⟩ : ∃ p, p = rnumS s0 := ⟨_, rfl⟩
      rw [← hp1] at e1 k1 k2 k3
      obtain ⟨x1, s1⟩ := p1
      simp only at e1 k1 k2 k3
      obtain ⟨p2, hp2⟩ : ∃ p, p = rnumS s1 := ⟨_, rfl⟩
      rw [← hp2] at e1 k2 k3
      obtain ⟨x2, s2⟩ := p2
      simp only at e1 k2 k3
      obtain ⟨p3, hp3⟩ : ∃ p, p = rnumS s2 := ⟨_, rfl⟩
      rw [← hp3] at e1 k3
      obtain ⟨x3, s3⟩ := p3
      simp only at e1 k3
      clear hp hp1 hp2 hp3
      have hsn := leasesA_snoc l ⟨x1, x2, x3⟩
      rcases s0 with _ | s0 <;> rcases s1 with _ | s1 <;> rcases s2 with _ | s2 <;> rcases s3 with _ | s3 <;>
      · simp (maxSteps := 1000000) [slotsOf, rdS_none, rdS_some, rowL, hho, hjn, -List.reduceReplicate]
        refine call_x [0] k1 rfl rfl ⟨rfl, rfl⟩ hho (by simp) (by decide) (by simp) (by simp [rdS]) ?_
        simp (maxSteps := 1000000) [rdS_none, rdS_some, hho, -List.reduceReplicate]
        refine call_x [0] k2 rfl rfl ⟨rfl, rfl⟩ hho (by simp) (by decide) (by simp) (by simp [rdS]) ?_
        simp (maxSteps := 1000000) [rdS_none, rdS_some, hho, -List.reduceReplicate]
        refine call_x [0] k3 rfl rfl ⟨rfl, rfl⟩ hho (by simp) (by decide) (by simp) (by simp [rdS]) ?_
        simp (maxSteps := 1000000) [rdS_none, rdS_some, hho, ew, hln, -List.reduceReplicate]
        refine ⟨by omega, round_next (j + 1) (by omega) (by omega) ?_⟩
        exact wk_of 2 1 (by simp) (by simp [hE, lens]) (by simp [e1, rdS_none, rdS_some, rowL, hsn]) (by simp [livH, livO, AV.livL, AV.liv, wkL, wkV, List.range', e1, rdS_none, rdS_some, rowL]) (by simp [livH, livO, AV.livL, AV.liv, wkL, wkV, List.range', slotsOf, Nat.add_mul])
    · obtain rfl : j = n := by omega
      obtain ⟨p, hp⟩ : ∃ p, p = rdA s j := ⟨_, rfl⟩
      have hi64 := rdA_i64 s j
      rw [← hp] at hln h1 h2 hi64 ⊢
      obtain ⟨l, sf⟩ := p
      simp only at hln h1 h2 hi64 ⊢
      have hend := end_r sf
      clear hp hle
      by_cases hok : SrtOk l
      · have hnew := new_row l (by omega) hok
        by_cases hsf : sf = some []
        · subst hsf
          have hall : ∃ R : Bool, (R = true ↔ inOrd l) := ⟨@decide (inOrd l) (Classical.propDecidable _), by simp⟩
          obtain ⟨R, hR⟩ := hall
          have hso := isSorted_lease l (by omega) R hR
          obtain ⟨d, hd⟩ : ∃ d, d = stabS ltL l := ⟨_, rfl⟩
          rw [← hd] at hnew
          simp (maxSteps := 1000000) [slotsOf, rdS_some, rdS_none, rowL, hho, -List.reduceReplicate]
          refine call_x [1] hnew rfl rfl ⟨by rw [hln], rfl⟩ hho (by simp) (by decide) (by simp) (by simp) ?_
          simp (maxSteps := 1000000) [rowL, hho, -List.reduceReplicate]
          refine call_x [0] hend rfl rfl ⟨rfl, rfl⟩ hho (by simp) (by decide) (by simp) (by simp [rdS]) ?_
          simp (maxSteps := 1000000) [rdS_some, rdS_none, hho, undef, onGP_none, condG_false, -List.reduceReplicate]
          refine call_f [] (fun k => k == 1) hso rfl rfl ⟨?_, rfl⟩ hho (by simp) (by decide) (by simp) ?_ (by simp) ?_
          · simp only [List.drop_zero]
            rw [List.take_of_length_le (by simp; omega), hln]
            rfl
          · simp [hln]
            exact ⟨by unfold maxLen; omega, fun x hx => (leasesA_all l).2 trivial x (List.mem_of_mem_take hx)⟩
          cases R with
          | true =>
            have hio := hR.1 rfl
            have hP := h1 ⟨rfl, hok, hio⟩
            have hdl : d = l := by rw [hd]; exact order_stab hok hio
            rw [hdl]
            simp (maxSteps := 1000000) [hho, undef, onGP_none, condG_false, -List.reduceReplicate]
            refine Ret.sel [2, 3] (fun _ => false) (ho := by rfl) (ha := by rfl) ?_ ?_ (by decide) (by simp) (by simp) hP
            · simp
            · simp
          | false =>
            have hP := h2 fun h => by have := hR.2 h.2.2; cases this
            simp (maxSteps := 1000000) [hho, undef, onGP_none, condG_false, -List.reduceReplicate]
            refine Ret.sel [] (fun _ => false) (ho := by rfl) (ha := by rfl) ?_ ?_ (by decide) (by simp) (by simp) hP <;> simp
        · have hno : ¬ (sf = some [] ∧ SrtOk l ∧ inOrd l) := fun h => hsf h.1
          have hP := h2 hno
          clear h1 h2 hno
          rcases sf with _ | _ | ⟨y, t⟩
          case some.nil => exact absurd rfl hsf
          all_goals
            simp (maxSteps := 1000000) [slotsOf, rdS_some, rdS_none, rowL, hho, -List.reduceReplicate]
            refine call_x [1] hnew rfl rfl ⟨by rw [hln], rfl⟩ hho (by simp) (by decide) (by simp) (by simp) ?_
            simp (maxSteps := 1000000) [rowL, hho, -List.reduceReplicate]
            refine call_x [0] hend rfl rfl ⟨rfl, rfl⟩ hho (by simp) (by decide) (by simp) (by simp [rdS]) ?_
            simp (maxSteps := 1000000) [rdS_some, rdS_none, hho, undef, onGP_none, condG_false, -List.reduceReplicate]
            refine Ret.sel [] (fun _ => false) (ho := by rfl) (ha := by rfl) ?_ ?_ (by decide) (by simp) (by simp) hP <;> simp
      · have hnew := new_row_bad l (by omega) hok
        have hno : ¬ (sf = some [] ∧ SrtOk l ∧ inOrd l) := fun h => hok h.2.1
        have hP := h2 hno
        clear h1 h2 hno
        rcases sf with _ | _ | ⟨y, t⟩ <;>
        · simp (maxSteps := 1000000) [slotsOf, rdS_some, rdS_none, rowL, hho, -List.reduceReplicate]
          refine call_x [1] hnew rfl rfl ⟨by rw [hln], rfl⟩ hho (by simp) (by decide) (by simp) (by simp) ?_
          simp (maxSteps := 1000000) [rowL, hho, -List.reduceReplicate]
          refine call_x [0] hend rfl rfl ⟨rfl, rfl⟩ hho (by simp) (by decide) (by simp) (by simp [rdS]) ?_
          simp (maxSteps := 1000000) [rdS_some, rdS_none, hho, undef, onGP_none, condG_false, -List.reduceReplicate]
          refine Ret.sel [] (fun _ => false) (ho := by rfl) (ha := by rfl) ?_ ?_ (by decide) (by simp) (by simp) hP <;> simp
end Go.Proofs.Ytglhmhpaoebifaa
