import Derived.Test.YtjkllofkdhjlaaaS14
namespace Go.Proofs.Ytjkllofkdhjlaaa
set_option linter.unusedVariables false
set_option linter.unusedSimpArgs false
open Go.RowKit
attribute [local simp] isCut_nil isCut_region isCut_seq isCut_block isCut_loop isCut_cond isCut_skip isCut_exit isCut_ret isCut_range swapK putK altK condK_bool pickP_bool stepP stepO onPure_some onPure_none onImpl_some onImpl_none stepC onGP_some onGP_none onGV_some condG onIt_it nextP_ptr takeP_eq takeV_some takeN_none takeN_some takeG_some takeO_some altO_some pureV binV intBin strBin isSh shV fldV ixV sliceV loadAV nilV lenV callV unV convV viewS cellsH loadV fldCut AV.ung AV.gc AV.cells AS.ev AS.put anyS gcsV lens lnO gV guardV retK RetP_eq resV oneV anyRo loIx hiIx implO callP_clo evL gcsL storeAV AS.push AS.setO appV copyV buildV partsV fillV srcV fzO okV isCell_c isCell_ptr isCell_sl isCell_fs isCell_fp isCell_clo rowZ_one rowZ_zero rowZ_2 rowZ_3 rowZ_4 rowZ_5 rowZ_6 rowZ_7 rowZ_8 rowZ_9 rowZ_10 rowZ_11 rowZ_12 noHo Value.oneCell' max2V min2V afterH putBack frzFrom frzO rebO backIx nilEq_sl nilEq_fs nilOp_eql nilOp_neq AV.reb AV.rebL
attribute [local simp ↓] runK_skip runK_region runK_draw runK_seq runK_cut runK_cond runK_block runK_loop runK_exit runK_label runK_goto runK_ret runK_range contK_nil contK_seq contK_seq_ret contK_seq_exit contK_seq_goto contK_block contK_block_ret contK_block_goto contK_block_exit runO_nil runO_cons roundK_exit roundK_ret roundK_goto exitK_ret cutK_ret cutK_exit runE_done runE_nil runE_take runE_alt condG_true condG_false
set_option maxRecDepth 10000
/-- a device whose blocks begin at handle k -/
def devAt (k : Nat) (d : DevS) : List AObj :=
  [.o .box [.sl (k + 1) 64 0 d.kept.length (d.kept.length * 64), .sl (k + 2) 65 0 d.wait.length (d.wait.length * 65), .c (.bool d.bound), .c (.int .i64 d.left), .c (.int .i64 d.calls)],
   .o (.row 61 64) (keptA d.kept), .o (.row 63 65) (waitA d.wait)]
def ixU (m : Int) (i : Int) : Int := IntKind.i64.wrap (Int.tmod (IntKind.u64.wrap i) m)
theorem u64_range (i : Int) : 0 ≤ IntKind.u64.wrap i ∧ IntKind.u64.wrap i < 18446744073709551616 := by
  rw [IntKind.wrap_u64]; omega
theorem ixU_range (m : Int) (h1 : 0 < m) (h2 : m ≤ 100) (i : Int) : 0 ≤ ixU m i ∧ ixU m i < m := by
  obtain ⟨a, b⟩ := u64_range i
  unfold ixU
  rw [Int.tmod_eq_emod_of_nonneg a]
  have := Int.emod_nonneg (IntKind.u64.wrap i) (by omega : m ≠ 0)
  have := Int.emod_lt_of_pos (IntKind.u64.wrap i) h1
  rw [IntWalk.i64_in _ (by omega)]
  omega
theorem bytesOf_u8 (l : List UInt8) : bytesOf (u8av l) = ⟨l.toArray⟩ := by
  have : ∀ l : List UInt8, (u8av l).map u8of = l := by
    intro l
    induction l with
    | nil => rfl
    | cons b l ih =>
      have e : u8of (.c (u8 b)) = b := by simp [u8of, u8]
      simp only [u8av, List.map_cons] at ih ⊢
      rw [ih, e]
  unfold bytesOf
  rw [this]
theorem full_of (b : List UInt8) (hb : b.length ≤ 64) : bytesOf (u8av (padB b).1) = fullB (bytesOf (u8av b)) (64 - (bytesOf (u8av b)).size) := by
  rw [bytesOf_u8 b, full_pad ⟨b.toArray⟩ (by simpa [ByteArray.size] using hb), bytesOf_u8]
  rfl
/-- what is known of the devices in the first loop -/
structure AlOk (b : List UInt8) (n : Nat) (D : DevS) : Prop where
  kept : D.kept = List.replicate 5 zB
  bound : D.bound = false
  calls : D.calls = n
  wait : D.wait.length = n
  cur : lastW D.wait 4 zB = padB b
  w1 : ∀ x ∈ D.wait, x.1 < 5
  left : D.left = 0
theorem AlOk.ok {b : List UInt8} {n : Nat} {D : DevS} (h : AlOk b n D) (hn : n ≤ 60) : D.Ok := by
  have hk : D.kept.length = 5 := by rw [h.kept]; rfl
  exact ⟨fun x hx => by rw [hk]; exact h.w1 x hx, by omega, by omega, by rw [h.left]; decide, by rw [h.left]; decide, by rw [h.calls]; omega, by rw [h.calls]; omega, by rw [h.wait]; omega⟩
theorem AlOk.chk {b : List UInt8} {n : Nat} {D : DevS} (h : AlOk b n D) (i : Int) (hi : 0 ≤ i ∧ i < 5) (m : Nat) (hm : m ≤ 64) : checkS D i m = 0 := by
  have hk : D.kept.length = 5 := by rw [h.kept]; rfl
  unfold checkS
  rw [if_neg (by rw [hk]; omega), if_neg (by rw [h.bound]; simp)]
theorem AlOk.step {b : List UInt8} {n : Nat} {D : DevS} (h : AlOk b n D) (i : Int) (hi : 0 ≤ i ∧ i < 4) (l : List UInt8) (hl : l.length ≤ 64) : AlOk b (n + 1) (writeS D i l) := by
  have hc := h.chk i ⟨hi.1, by omega⟩ l.length hl
  unfold writeS
  rw [if_pos hc]
  refine ⟨h.kept, h.bound, ?_, ?_, ?_, fun x hx => ?_, ?_⟩
  · simp only [countS, h.calls]; omega
  · simp [countS, h.wait]
  · have := h.cur
    simp only [countS, lastW, List.foldl_append, List.foldl_cons, List.foldl_nil] at this ⊢
    rw [if_neg (by omega)]; exact this
  · simp only [countS, List.mem_append, List.mem_singleton] at hx
    rcases hx with hx | rfl
    · exact h.w1 x hx
    · simp only; omega
  · simp only [countS, h.bound]; exact h.left
theorem AlOk.cur4 {b : List UInt8} {n : Nat} {D : DevS} (h : AlOk b n D) : curS D 4 = padB b := by
  rw [← h.cur]
  simp only [curS, h.kept]
  rfl
theorem intAV_liv (dead : List Nat) (l : List Int) : AV.livL dead (intAV l) = true := by
  induction l with
  | nil => rfl
  | cons b l ih => simpa [intAV, AV.livL, AV.liv] using ih
theorem intAV_isD (l : List Int) : ∀ x ∈ intAV l, isD x = true := by simp [intAV, isD]
def fillI (n k : Nat) : List Int := List.replicate k 64 ++ List.replicate (n - k) 0
@[simp] theorem fillI_length (n k : Nat) (h : k ≤ n) : (fillI n k).length = n := by simp [fillI]; omega
theorem fillI_set (n k : Nat) (h : k < n) : List.take k (intAV (fillI n k)) ++ AV.c (.int .i64 64) :: List.drop (k + 1) (intAV (fillI n k)) = intAV (fillI n (k + 1)) := by
  have e : (AV.c (.int .i64 64)) :: List.drop (k + 1) (intAV (fillI n k)) = intAV (64 :: (fillI n k).drop (k + 1)) := by simp [intAV]
  rw [e]
  simp only [intAV, ← List.map_take, ← List.map_append]
  congr 1
  have e2 : n - k = (n - (k + 1)) + 1 := by omega
  simp only [fillI]
  rw [List.take_append_of_le_length (by simp), List.take_of_length_le (by simp), List.drop_append, List.drop_eq_nil_of_le (by simp), e2, List.replicate_succ]
  simp [List.replicate_succ']
theorem crash64 (w : List (Nat × B64)) (k : List B64) (n : Nat) (h : w.length ≤ n) : ∀ j, j ≤ w.length → crashTo (List.replicate n 64) ⟨k, w, false, 0, 0⟩ j = (w.take j).foldl putW k := by
  intro j
  induction j with
  | zero => intro _; rfl
  | succ j ih =>
    intro hj
    simp only [crashTo, crashStep]
    rw [ih (by omega), List.getElem?_replicate, if_pos (by omega), List.take_succ_eq_append_getElem (by omega), List.foldl_append, List.getElem?_eq_getElem (by omega), Option.getD_some]
    simp only [List.foldl_cons, List.foldl_nil, putW]
    congr 1
    apply Subtype.ext
    simp only [tearB]
    have e1 : (min (max (64 : Int) 0) 64).toNat = 64 := by decide
    rw [e1]
    simp
set_option maxHeartbeats 4000000 in
theorem alone_walk (b : List UInt8) (hb : b.length ≤ maxLen) (sc : List Op6) (hs : sc.length ≤ maxLen ∧ ∀ o ∈ sc, o.Ok) : ACalls Try.prog 6 [.fs 1 b.length (u8av b), .fs 4 sc.length (scriptA sc)] [] (fun _ => false) (fun r h' => r = .c (.bool true)) := by
  refine acalls mixed Try.func6 rfl Try.ntmps6 rfl fun E hE hst hho => ?_
  simp (maxSteps := 1000000) [hho, -List.reduceReplicate]
  refine call_plain (fun _ => false) first_sec (ha := by rfl) (by simp) ?_
  rintro r h' ⟨rfl, rfl⟩
  refine ⟨rfl, ?_⟩
  simp (maxSteps := 1000000) [hho, -List.reduceReplicate]
  split <;> rename_i h64
  · exact Ret.drop (by decide) rfl
  have h64' : b.length ≤ 64 := by omega
  obtain ⟨d0, h0⟩ : ∃ d0, d0 = newS 5 := ⟨_, rfl⟩
  have hd0 : d0.Ok := by rw [h0]; exact newS_ok 5 (by decide) (by decide)
  refine call_x [] (new_ok 5 (by decide) (by decide)) rfl rfl ⟨rfl, rfl⟩ hho (by simp) (by decide) (by simp) (by simp) ?_
  rw [show (5 : Int).toNat = 5 from rfl, ← h0]
  simp (maxSteps := 1000000) [hho, devO, -List.reduceReplicate]
  refine call_x [] (new_ok 5 (by decide) (by decide)) rfl rfl ⟨rfl, rfl⟩ hho (by simp) (by decide) (by simp) (by simp) ?_
  rw [show (5 : Int).toNat = 5 from rfl, ← h0]
  simp (maxSteps := 1000000) [hho, devO, -List.reduceReplicate]
  have hc0 : checkS d0 4 b.length = 0 := by
    unfold checkS
    rw [if_neg (by rw [h0]; simp [newS]; omega), if_neg (by rw [h0]; simp [newS])]
  refine call_x [0, 1, 2] (write_fs d0 hd0 4 b) rfl rfl ⟨rfl, rfl⟩ hho (by simp) (by decide) (by simp) (by simp [devO]) ?_
  obtain ⟨d1, h1⟩ : ∃ d1, d1 = writeS d0 4 b := ⟨_, rfl⟩
  rw [hc0, ← h1]
  simp (maxSteps := 1000000) [hho, devO, -List.reduceReplicate]
  refine call_x [3, 4, 5] (write_fs d0 hd0 4 b) rfl rfl ⟨rfl, rfl⟩ hho (by simp) (by decide) (by simp) (by simp [devO]) ?_
  rw [hc0, ← h1]
  simp (maxSteps := 1000000) [hho, devO, -List.reduceReplicate]
  refine loop_k2 mixed (fun x : Nat × DevS => ⟨slotsOf 138 [(0, .fs 1 b.length (u8av b)), (5, .ptr 0 0 5), (7, .ptr 3 0 5), (9, .c (.int .i64 ((x.1 + 1 : Nat) : Int))), (40, .fs 4 sc.length (scriptA sc)), (41, .c (.int .i64 sc.length)), (42, .c (.int .i64 (x.1 : Int)))], devAt 0 x.2 ++ devAt 3 x.2⟩) (fun x => sc.length - x.1) (fun x => x.1 ≤ sc.length ∧ x.1 ≤ 50 ∧ AlOk b (x.1 + 1) x.2) (0, d1)
    (fun x : Nat × DevS => ⟨slotsOf 138 [(5, .ptr 0 0 5), (7, .ptr 3 0 5), (9, .c (.int .i64 ((x.1 + 1 : Nat) : Int)))], devAt 0 x.2 ++ devAt 3 x.2⟩) (fun x => x.1 ≤ 50 ∧ AlOk b (x.1 + 1) x.2) 0 ⟨Nat.zero_le _, Nat.zero_le _, ?_⟩ ?_ ?_ ?_
  · rw [h1]
    unfold writeS
    rw [if_pos hc0, h0]
    refine ⟨rfl, rfl, rfl, rfl, ?_, ?_, rfl⟩
    · simp [countS, newS, lastW]
    · simp [countS, newS]
  · simp (maxSteps := 1000000) [devAt, slotsOf]
    exact wk_of 6 0 (by simp) (by simp [hE, lens]) rfl (by simp [livH, livO, AV.livL, AV.liv, wkL, wkV, List.range']) (by simp [livH, livO, AV.livL, AV.liv, wkL, wkV, List.range'])
  · rintro ⟨m, D⟩ ⟨hm, hD⟩
    simp only at hm hD
    obtain ⟨n, hn⟩ : ∃ n, n = m + 1 := ⟨_, rfl⟩
    rw [← hn] at hD
    have hn2 : n ≤ 51 := by omega
    have hcast : ((m : Int) + 1) = (n : Nat) := by omega
    simp (maxSteps := 1000000) [devAt, slotsOf, hho, hcast, -List.reduceReplicate]
    have hrz : rowZ n [Value.int IntKind.i64 0] = intAV (fillI n 0) := by
      simp only [fillI, List.replicate_zero, List.nil_append, Nat.sub_zero]
      clear hn hD hn2 hcast
      induction n with
      | zero => simp [rowZ_zero]; rfl
      | succ n ih => rw [rowZ_succ, ih, List.replicate_succ]; rfl
    rw [hrz]
    refine ⟨by omega, by simp, ?_⟩
    refine loop_k mixed (fun k : Nat => ⟨slotsOf 138 [(5, .ptr 0 0 5), (7, .ptr 3 0 5), (9, .c (.int .i64 n)), (14, .sl 6 1 0 n n), (94, .c (.int .i64 n)), (95, .c (.int .i64 k))], devAt 0 D ++ devAt 3 D ++ [.o (.row 3 1) (intAV (fillI n k))]⟩) (fun k => n - k) (fun k => k ≤ n) 0 (Nat.zero_le _) ?_ ?_
    · simp (maxSteps := 1000000) [devAt, slotsOf]
      exact wk_of 7 0 (by simp) (by simp [hE, lens]) rfl (by simp [livH, livO, AV.livL, AV.liv, wkL, wkV, List.range', intAV_liv]) (by simp [livH, livO, AV.livL, AV.liv, wkL, wkV, List.range'])
    · intro k hk
      by_cases hkn : k < n
      · have ew : IntKind.i64.wrap ((k : Int) + 1) = (k + 1 : Nat) := by rw [IntWalk.i64_in _ (by omega)]; rfl
        have hle : k ≤ n := hk
        simp (maxSteps := 1000000) [devAt, slotsOf, hho, hkn, ew, hle, fillI_set n k hkn, -List.reduceReplicate]
        refine ⟨hkn, round_next (k + 1) hkn (by omega) ?_⟩
        simp (maxSteps := 1000000) [devAt, slotsOf]
        exact wk_of 7 0 (by simp) (by simp [hE, lens]) rfl (by simp [livH, livO, AV.livL, AV.liv, wkL, wkV, List.range', intAV_liv]) (by simp [livH, livO, AV.livL, AV.liv, wkL, wkV, List.range'])
      · obtain rfl : k = n := by omega
        simp (maxSteps := 1000000) [devAt, slotsOf, hho, -List.reduceReplicate]
        have hDok := hD.ok (by omega)
        have hml : k ≤ maxLen := by unfold maxLen; omega
        have hfl : (fillI k k).length = k := fillI_length k k (Nat.le_refl _)
        have hfa : List.take k (intAV (fillI k k)) = intAV (fillI k k) := List.take_of_length_le (by simp)
        have st12 : ∀ (c : Nat) (i q : Nat), ([c, c + 1, c + 2] : List Nat)[i]? = some q → decide (i < 2) = true ∨ q ∈ [c + 2] := by
          intro c i q h
          match i, h with
          | 0, _ => exact .inl rfl
          | 1, _ => exact .inl rfl
          | 2, h => simp at h; exact .inr (by simp [h])
          | i + 3, h => simp at h
        refine call_d [0, 1, 2] (fun q => q == 6) [2] (crash_dev D hDok (fillI k k)) rfl rfl ⟨by simp [hfl, hfa], rfl⟩ hho (st12 0) (by simp [livH, livO, AV.livL, AV.liv, wkL, wkV, List.range']) (by simp [livH, livO, AV.livL, AV.liv, wkL, wkV, List.range', intAV_liv]) (by simp [hE, lens]) (by decide) (by decide) (by simp [hfl, hml, hfa]; exact intAV_isD _) (by simp [devO]) ?_
        obtain ⟨DC, hDC⟩ : ∃ DC, DC = crashS (fillI k k) D := ⟨_, rfl⟩
        rw [← hDC]
        simp (maxSteps := 1000000) [hho, devO, devAt, -List.reduceReplicate]
        have hcF : checkS D 0 0 = 0 := hD.chk 0 (by decide) 0 (by decide)
        refine call_d [3, 4, 5] (fun _ => false) [5] (flush_dev D hDok) rfl rfl ⟨rfl, rfl⟩ hho (st12 3) (by simp [livH, livO, AV.livL, AV.liv, wkL, wkV, List.range']) (by simp [livH, livO, AV.livL, AV.liv, wkL, wkV, List.range', intAV_liv]) (by simp [hE, lens]) (by decide) (by decide) (by simp) (by simp [devO]) ?_
        obtain ⟨DF, hDF⟩ : ∃ DF, DF = flushS D := ⟨_, rfl⟩
        rw [hcF, ← hDF]
        simp (maxSteps := 1000000) [hho, devO, devAt, -List.reduceReplicate]
        have hF : DF = { D with calls := D.calls + 1, kept := D.wait.foldl putW D.kept, wait := [] } := by
          rw [hDF]; unfold flushS; rw [if_pos hcF]; simp [countS, hD.bound]
        have hC : DC = { D with kept := D.wait.foldl putW D.kept, wait := [], bound := false } := by
          rw [hDC]
          unfold crashS
          have e : crashTo (fillI k k) D D.wait.length = D.wait.foldl putW D.kept := by
            have := crash64 D.wait D.kept k (by rw [hD.wait]; omega) D.wait.length (Nat.le_refl _)
            rw [List.take_length] at this
            rw [← this]
            have e3 : fillI k k = List.replicate k 64 := by simp [fillI]
            rw [e3]
            have : ∀ j, crashTo (List.replicate k 64) D j = crashTo (List.replicate k 64) ⟨D.kept, D.wait, false, 0, 0⟩ j := by
              intro j
              induction j with
              | zero => rfl
              | succ j ih => simp only [crashTo, ih]
            exact this _
          rw [e]
        have hk5 : (D.wait.foldl putW D.kept).length = 5 := by rw [foldl_putW_length, hD.kept]; rfl
        have hCok : DC.Ok := by rw [hC]; exact ⟨by simp, by simp [hk5], by simp [hk5], by simp [hD.left], by simp [hD.left], by simp [hD.calls] <;> omega, by simp [hD.calls] <;> omega, by simp⟩
        have hFok : DF.Ok := by rw [hF]; exact ⟨by simp, by simp [hk5], by simp [hk5], by simp [hD.left], by simp [hD.left], by simp [hD.calls] <;> omega, by simp [hD.calls] <;> omega, by simp⟩
        have hcur : ∀ i : Nat, curS DC i = curS DF i := by intro i; rw [hC, hF]; rfl
        have hchk : ∀ i : Int, 0 ≤ i → i < 5 → checkS DC i 0 = 0 ∧ checkS DF i 0 = 0 := by
          intro i h0 h5
          rw [hC, hF]
          constructor
          · unfold checkS; rw [if_neg (by simp [hk5]; omega), if_neg (by simp)]
          · unfold checkS; rw [if_neg (by simp [hk5]; omega), if_neg (by simp [hD.bound])]
        refine loop_k mixed (fun q : Nat => ⟨slotsOf 138 [(5, .ptr 0 0 5), (7, .ptr 3 0 5), (9, .c (.int .i64 k)), (107, .c (.int .i64 q))], devAt 0 DC ++ devAt 3 DF⟩) (fun q => 5 - q) (fun q => q ≤ 5) 0 (Nat.zero_le _) ?_ ?_
        · simp (maxSteps := 1000000) [devAt, slotsOf]
          exact wk_of 6 1 (by simp) (by simp [hE, lens]) rfl (by simp [livH, livO, AV.livL, AV.liv, wkL, wkV, List.range']) (by simp [livH, livO, AV.livL, AV.liv, wkL, wkV, List.range'])
        · intro q hq
          by_cases hq5 : q < 5
          · have ew : IntKind.i64.wrap ((q : Int) + 1) = (q + 1 : Nat) := by rw [IntWalk.i64_in _ (by omega)]; rfl
            obtain ⟨c1, c2⟩ := hchk q (by omega) (by omega)
            have hqn : ((q : Int)).toNat = q := by omega
            have hq5i : (q : Int) < 5 := by omega
            simp (maxSteps := 1000000) [devAt, slotsOf, hho, hq5, hq5i, -List.reduceReplicate]
            refine call_x [0, 1, 2] (read_ok DC hCok q c1) rfl rfl ⟨rfl, rfl⟩ hho (by simp) (by decide) (by simp) (by simp [devO]) ?_
            rw [hqn, hcur]
            simp (maxSteps := 1000000) [hho, devO, devAt, -List.reduceReplicate]
            refine call_x [3, 4, 5] (read_ok DF hFok q c2) rfl rfl ⟨rfl, rfl⟩ hho (by simp) (by decide) (by simp) (by simp [devO]) ?_
            rw [hqn]
            simp (maxSteps := 1000000) [hho, ew, devO, devAt, -List.reduceReplicate]
            refine ⟨isU8_all _, ?_⟩
            refine round_next (q + 1) hq5 (by omega) ?_
            simp (maxSteps := 1000000) [devAt, slotsOf]
            exact wk_of 6 2 (by simp) (by simp [hE, lens]) rfl (by simp [livH, livO, AV.livL, AV.liv, wkL, wkV, List.range']) (by simp [livH, livO, AV.livL, AV.liv, wkL, wkV, List.range'])
          · obtain rfl : q = 5 := by omega
            have hw0 : DC.wait.length = 0 := by rw [hC]; rfl
            have hcl : DF.calls = (k : Int) + 1 := by rw [hF]; simp [hD.calls]
            have ewk : IntKind.i64.wrap ((k : Int) + 1) = (k : Int) + 1 := IntWalk.i64_in _ (by omega)
            simp (maxSteps := 1000000) [devAt, slotsOf, hho, -List.reduceReplicate]
            refine call_x [0, 1, 2] (waiting_dev DC) rfl rfl ⟨rfl, rfl⟩ hho (by simp) (by decide) (by simp) (by simp [devO]) ?_
            rw [hw0]
            simp (maxSteps := 1000000) [hho, devO, devAt, -List.reduceReplicate]
            refine call_x [3, 4, 5] (calls_dev DF) rfl rfl ⟨rfl, rfl⟩ hho (by simp) (by decide) (by simp) (by simp [devO]) ?_
            rw [hcl]
            simp (maxSteps := 1000000) [hho, ewk, devO, devAt, -List.reduceReplicate]
            exact Ret.drop (by decide) rfl
  · rintro ⟨j, D⟩ ⟨hj, hj50, hD⟩
    simp only at hj hj50 hD
    by_cases hlt : j < sc.length
    · obtain ⟨o, ho⟩ : ∃ o, o = sc[j] := ⟨_, rfl⟩
      have hat : List.take 4 (List.drop (j * 4) (scriptA sc)) = op6A o := by rw [ho]; exact flat_at op6A 4 (by simp) sc j hlt
      by_cases h50 : j < 50
      · have h50i : ¬ (50 : Int) ≤ j := by omega
        by_cases hB : o.b.length ≤ 64
        · have hBi : ¬ (64 : Int) < o.b.length := by omega
          simp (maxSteps := 1000000) [devAt, slotsOf, hho, hlt, hat, op6A, h50, h50i, hB, hBi, -List.reduceReplicate]
          have hDok := hD.ok (by omega)
          have hix := ixU_range 4 (by decide) (by decide) o.i
          have hc := hD.chk (ixU 4 o.i) ⟨hix.1, by omega⟩ o.b.length hB
          have hD2 := hD.step (ixU 4 o.i) hix o.b hB
          obtain ⟨D2, e2⟩ : ∃ D2, D2 = writeS D (ixU 4 o.i) o.b := ⟨_, rfl⟩
          rw [← e2] at hD2
          refine call_x [0, 1, 2] (write_fs D hDok (ixU 4 o.i) o.b) rfl rfl ⟨rfl, rfl⟩ hho (by simp) (by decide) (by simp) (by simp [devO]) ?_
          rw [hc, ← e2]
          simp (maxSteps := 1000000) [hho, devO, devAt, -List.reduceReplicate]
          refine call_x [3, 4, 5] (write_fs D hDok (ixU 4 o.i) o.b) rfl rfl ⟨rfl, rfl⟩ hho (by simp) (by decide) (by simp) (by simp [devO]) ?_
          rw [hc, ← e2]
          simp (maxSteps := 1000000) [hho, devO, devAt, -List.reduceReplicate]
          have hc4 : checkS D2 4 0 = 0 := hD2.chk 4 (by decide) 0 (by decide)
          refine call_x [0, 1, 2] (read_ok D2 (hD2.ok (by omega)) 4 hc4) rfl rfl ⟨rfl, rfl⟩ hho (by simp) (by decide) (by simp) (by simp [devO]) ?_
          rw [show (4 : Int).toNat = 4 from rfl, hD2.cur4]
          simp (maxSteps := 1000000) [hho, devO, devAt, -List.reduceReplicate]
          obtain ⟨sb, hsb⟩ : ∃ sb, sb = bytesOf (u8av b) := ⟨_, rfl⟩
          have hxs : bytesOf (u8av (padB b).1) = fullB sb (64 - sb.size) := by rw [hsb]; exact full_of b h64'
          have hsz : sb.size ≤ 1000000 := by rw [hsb, bytesOf_u8]; simp [ByteArray.size]; omega
          refine draw_k hho (.take 0 (.take 1 (.take 2 (.take 3 (.take 4 (.take 5 (.take 6 (.alt 7 (.take 8 (.take 9 (.done))) (.nil))))))))) [7] [] (by decide +kernel) (by simp) ?_
          simp (maxSteps := 1000000) [roOf, holdOf, wrOf, altK, heldOk, Region.binds, hxs, ← hsb, -List.reduceReplicate]
          refine ⟨isU8_all _, isU8_all _, fun _ => ?_⟩
          refine call_plain (fun _ => false) (full_ref sb hsz) (ha := by rfl) (by simp) ?_
          rintro r h' ⟨rfl, rfl⟩
          refine ⟨rfl, ?_⟩
          have ew : IntKind.i64.wrap ((j : Int) + 1) = (j + 1 : Nat) := by rw [IntWalk.i64_in _ (by omega)]; rfl
          have ew2 : IntKind.i64.wrap ((j : Int) + 1 + 1) = (j + 1 + 1 : Nat) := by rw [IntWalk.i64_in _ (by omega)]; rfl
          simp (maxSteps := 1000000) [roOf, holdOf, wrOf, altK, heldOk, Region.binds, hxs, ew, ew2, -List.reduceReplicate]
          refine round_next (j + 1, D2) ⟨by simp only; omega, by simp only; omega, hD2⟩ (by simp only; omega) ?_
          simp (maxSteps := 1000000) [devAt, slotsOf]
          exact wk_of 6 2 (by simp) (by simp [hE, lens]) rfl (by simp [livH, livO, AV.livL, AV.liv, wkL, wkV, List.range']) (by simp [livH, livO, AV.livL, AV.liv, wkL, wkV, List.range'])
        · have hBi : (64 : Int) < o.b.length := by omega
          simp (maxSteps := 1000000) [devAt, slotsOf, hho, hlt, hat, op6A, h50, h50i, hB, hBi, -List.reduceReplicate]
          exact exit_to (j, D) ⟨hj50, hD⟩ (wk_of 6 1 (by simp) (by simp [hE, lens]) rfl (by simp [livH, livO, AV.livL, AV.liv, wkL, wkV, List.range']) (by simp [livH, livO, AV.livL, AV.liv, wkL, wkV, List.range']))
      · have h50i : (50 : Int) ≤ j := by omega
        simp (maxSteps := 1000000) [devAt, slotsOf, hho, hlt, hat, op6A, h50, h50i, -List.reduceReplicate]
        exact exit_to (j, D) ⟨hj50, hD⟩ (wk_of 6 1 (by simp) (by simp [hE, lens]) rfl (by simp [livH, livO, AV.livL, AV.liv, wkL, wkV, List.range']) (by simp [livH, livO, AV.livL, AV.liv, wkL, wkV, List.range']))
    · simp (maxSteps := 1000000) [devAt, slotsOf, hho, hlt, -List.reduceReplicate]
      exact exit_to (j, D) ⟨hj50, hD⟩ (wk_of 6 0 (by simp) (by simp [hE, lens]) rfl (by simp [livH, livO, AV.livL, AV.liv, wkL, wkV, List.range']) (by simp [livH, livO, AV.livL, AV.liv, wkL, wkV, List.range']))
end Go.Proofs.Ytjkllofkdhjlaaa
