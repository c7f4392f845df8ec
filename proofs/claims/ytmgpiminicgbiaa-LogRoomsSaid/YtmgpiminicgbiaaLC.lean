import Derived.Test.YtmgpiminicgbiaaLB
namespace Go.Proofs.Ytmgpiminicgbiaa
set_option linter.unusedVariables false
set_option linter.unusedSimpArgs false
open Go.RowKit
attribute [local simp] isCut_nil isCut_region isCut_seq isCut_block isCut_loop isCut_cond isCut_skip isCut_exit isCut_ret isCut_range swapK putK altK condK_bool pickP_bool stepP stepO onPure_some onPure_none onImpl_some onImpl_none stepC onGP_some onGP_none onGV_some condG mkG onIt_it nextP_ptr takeP_eq takeV_some takeN_none takeN_some takeG_some takeO_some altO_some pureV binV intBin strBin isSh shV fldV ixV sliceV loadAV nilV lenV callV unV convV viewS cellsH loadV fldCut AV.ung AV.gc AV.cells AS.ev AS.put anyS gcsV lens lnO gV guardV retK RetP_eq resV oneV anyRo loIx hiIx implO callP_clo evL gcsL storeAV AS.push AS.setO appV copyV buildV partsV fillV srcV fzO okV isCell_c isCell_ptr isCell_sl isCell_fs isCell_fp isCell_clo rowZ_one rowZ_zero rowZ_2 rowZ_3 rowZ_4 rowZ_5 rowZ_6 rowZ_7 rowZ_8 rowZ_9 rowZ_10 rowZ_11 rowZ_12 noHo Value.oneCell' max2V min2V afterH putBack frzFrom frzO rebO backIx nilEq_sl nilEq_fs nilOp_eql nilOp_neq AV.reb AV.rebL
attribute [local simp ↓] runK_skip runK_region runK_draw runK_seq runK_cut runK_cond runK_block runK_loop runK_exit runK_label runK_goto runK_ret runK_range contK_nil contK_seq contK_seq_ret contK_seq_exit contK_seq_goto contK_block contK_block_ret contK_block_goto contK_block_exit runO_nil runO_cons roundK_exit roundK_ret roundK_goto exitK_ret cutK_ret cutK_exit runE_done runE_nil runE_take runE_alt condG_true condG_false
set_option maxRecDepth 10000
def getI (l : List UInt8) (off size : Nat) : Int := IntKind.i64.wrap (getU ((l.drop off).take size))
def at8 (l : List UInt8) (k : Nat) : UInt8 := (l[k]?).getD 0
/-- the head of a sector, if it counts -/
def parseH (l : List UInt8) (i : Int) : Option HeadS :=
  if getI l 56 8 ≠ getI l 0 8 ∨ getI l 0 8 ≤ 0 ∨ 4611686018427387904 ≤ getI l 0 8 ∨ (getI l 0 8).tmod 2 ≠ i ∨ 32 < (at8 l 16).toNat ∨ getI l 8 4 < getI l 12 4 then none
  else some ⟨getI l 0 8, getI l 8 4, getI l 12 4, (l.drop 17).take (at8 l 16).toNat⟩
def head0 : List AV := [.c (.int .i64 0), .c (.int .i64 0), .c (.int .i64 0), .c (.slice none 0 0)]
def parseR : Option HeadS → AV
  | some h => .tup [.agg (headA h), .c (.bool true)]
  | none => .tup [.agg head0, .c (.bool false)]
theorem u8av_drop0' (l : List UInt8) (k : Nat) (hk : k < l.length) : (u8av (List.drop k l))[0]? = some (AV.c (.int .u8 ((at8 l k).toNat))) := by
  rw [u8av_drop0 l k hk, at8, List.getElem?_eq_getElem hk]; rfl
theorem u8av_drop_get (l : List UInt8) (k : Nat) (h : 0 < (u8av (List.drop k l)).length) : (u8av (List.drop k l))[0] = AV.c (.int .u8 ((at8 l k).toNat)) := by
  have hk : k < l.length := by simp at h; omega
  have := u8av_drop0' l k hk
  rw [List.getElem?_eq_getElem h] at this
  injection this
theorem clone8_sl (l : List UInt8) (off n m : Nat) (e : TypeId) (hl : l.length = m) (h1 : off + n ≤ m) (hm : 0 < m) (hm2 : m ≤ 1000000000) : ACalls Try.prog 37 [.sl 0 1 off n m] [.o (.row e 1) (u8av l)] (fun _ => true) (fun r h' => r = .sl 1 1 0 n n ∧ h' = [.o (.row e 1) (u8av l), .o (.row 5 1) (u8av ((l.drop off).take n))]) := by
  refine acalls mixed Try.func37 rfl Try.ntmps37 rfl fun E hE _ hho => ?_
  have hm0 : ¬ m = 0 := by omega
  simp (maxSteps := 1000000) [hho, noHo, hl, hm0, h1, -List.reduceReplicate]
  exact ⟨by omega, Ret.same ⟨rfl, rfl⟩⟩
theorem st_0 {l : List Nat} {n : Nat} : ∀ i, i < n → decide (i = 0) = true → (0 :: l)[i]? = some i := by
  intro i _ h
  obtain rfl : i = 0 := by simpa using h
  rfl
set_option maxHeartbeats 2000000 in
theorem parse_row (l : List UInt8) (hl : l.length = 64) (i : Int) (e : TypeId) : ACalls Try.prog 51 [.sl 0 1 0 64 64, .c (.int .i64 i)] [.o (.row e 1) (u8av l)] (fun k => decide (k < 1)) (fun r h' => r = parseR (parseH l i) ∧ h' = [.o (.row e 1) (u8av l)]) := by
  refine acallsC [2] mixed Try.func51 rfl Try.ntmps51 rfl fun E hE _ hho => ?_
  simp (maxSteps := 1000000) [hho, -List.reduceReplicate]
  refine seq_cut mixed [] (fun _ : Unit => ⟨slotsOf 63 [(0, .sl 0 1 0 64 64), (1, .c (.int .i64 i)), (4, .ptr 1 0 4), (6, .ptr 2 0 4)], [.o (.row e 1) (u8av l), .o .box head0, .o .box [.c (.int .i64 (getI l 0 8)), .c (.int .i64 (getI l 8 4)), .c (.int .i64 (getI l 12 4)), .c (.slice none 0 0)]]⟩) (fun _ => True) ?_ ?_
  · rintro _ _
    simp (maxSteps := 1000000) [slotsOf, head0, hho, hl, u8av_drop_get, -List.reduceReplicate]
    have ez : IntKind.i64.wrap ((at8 l 16).toNat : Int) = (at8 l 16).toNat := IntWalk.i64_in _ (by have := (at8 l 16).toNat_lt; omega)
    rw [ez]
    refine draw_k hho (.take 0 (.take 1 (.take 3 (.take 4 (.alt 2 (.take 5 (.take 6 (.take 7 (.take 8 (.take 9 (.take 10 (.take 11 (.take 12 (.take 13 (.take 14 (.take 15 (.take 16 (.take 17 (.take 18 (.take 19 (.take 20 (.take 21 (.take 22 (.take 23 (.take 24 (.take 25 (.take 26 (.take 27 (.take 28 (.take 29 (.take 30 (.take 31 (.take 32 (.take 33 (.done)))))))))))))))))))))))))))))) (.nil)))))) [2] [] (by decide +kernel) (by simp) ?_
    simp (maxSteps := 1000000) [roOf, holdOf, wrOf, altK, heldOk, Region.binds, hl, -List.reduceReplicate]
    intro E1
    refine call_h [0] (get_row 56 8 64 8 l hl (by decide) (by decide) (by decide) e) rfl rfl ⟨rfl, rfl⟩ (by simp) (by simp) (by decide) (by simp) (by simp) ?_
    have eg : IntKind.i64.wrap (getU (List.take 8 (List.drop 56 l))) = getI l 56 8 := rfl
    rw [eg]
    obtain ⟨n0, hn0⟩ : ∃ n0, n0 = getI l 0 8 := ⟨_, rfl⟩
    obtain ⟨n1, hn1⟩ : ∃ n0, n0 = getI l 56 8 := ⟨_, rfl⟩
    obtain ⟨ep, hep⟩ : ∃ n0, n0 = getI l 8 4 := ⟨_, rfl⟩
    obtain ⟨bs, hbs⟩ : ∃ n0, n0 = getI l 12 4 := ⟨_, rfl⟩
    obtain ⟨sz, hsz⟩ : ∃ n0, n0 = (at8 l 16).toNat := ⟨_, rfl⟩
    rw [← hn0, ← hn1, ← hep, ← hbs, ← hsz]
    by_cases hc : n1 ≠ n0 ∨ n0 ≤ 0 ∨ 4611686018427387904 ≤ n0 ∨ n0.tmod 2 ≠ i ∨ 32 < sz ∨ ep < bs
    · have hP : parseH l i = none := by unfold parseH; rw [← hn0, ← hn1, ← hep, ← hbs, ← hsz, if_pos hc]
      rw [hP]
      have hc' : ((((¬ n1 = n0 ∨ n0 ≤ 0) ∨ 4611686018427387904 ≤ n0) ∨ ¬ n0.tmod 2 = i) ∨ 32 < (sz : Int)) ∨ ep < bs := by omega
      simp (maxSteps := 1000000) [hho, roOf, holdOf, wrOf, altK, heldOk, Region.binds, hl, hc', -List.reduceReplicate]
      refine Ret.sel [0] (fun _ => false) (ho := by rfl) (ha := by rfl) ?_ ?_ (by decide) (by simp) st_0 ⟨?_, ?_⟩
      · simp
      · simp
      · rfl
      · rfl
    · have hP : parseH l i = some ⟨n0, ep, bs, (l.drop 17).take sz⟩ := by unfold parseH; rw [← hn0, ← hn1, ← hep, ← hbs, ← hsz, if_neg hc]
      rw [hP]
      have hc' : ¬ (((((¬ n1 = n0 ∨ n0 ≤ 0) ∨ 4611686018427387904 ≤ n0) ∨ ¬ n0.tmod 2 = i) ∨ 32 < (sz : Int)) ∨ ep < bs) := by omega
      have ez2 : IntKind.i64.wrap (17 + (sz : Int)) = (17 + sz : Nat) := by rw [IntWalk.i64_in _ (by omega)]; rfl
      simp (maxSteps := 1000000) [hho, roOf, holdOf, wrOf, altK, heldOk, Region.binds, hl, hc', ez2, -List.reduceReplicate]
      have en : (17 + (sz : Int)).toNat - 17 = sz := by omega
      rw [en]
      refine ⟨by omega, ?_⟩
      refine call_x [0] (clone8_sl l 17 sz 64 e hl (by omega) (by decide) (by decide)) rfl rfl ⟨rfl, rfl⟩ hho (by simp) (by decide) (by simp) (by simp) ?_
      simp (maxSteps := 1000000) [hho, hl, -List.reduceReplicate]
      have hbl : (List.take sz (List.drop 17 l)).length = sz := by simp [hl]; omega
      refine Ret.sel [0] (fun k => k == 3) (ho := by rfl) (ha := by rfl) ?_ ?_ (by decide) (by simp) st_0 ⟨?_, ?_⟩
      · simp
      · simp [hl, maxLen]; omega
      · simp only [parseR, headA, hbl]
        have ef : List.take (sz * 1) (List.drop 0 (u8av (List.take sz (List.drop 17 l)))) = u8av (List.take sz (List.drop 17 l)) := by rw [Nat.mul_one, List.drop_zero, List.take_of_length_le (by rw [u8av_length, hbl]; exact Nat.le_refl _)]
        rw [ef]
      · rfl
  · simp (maxSteps := 1000000) [hho, -List.reduceReplicate]
    refine draw_k hho (.take 0 (.take 2 (.take 3 (.take 5 (.take 6 (.alt 1 (.alt 4 (.alt 7 (.take 8 (.alt 9 (.alt 10 (.done) (.nil)) (.nil))) (.alt 9 (.alt 7 (.take 8 (.alt 10 (.done) (.nil))) (.nil)) (.nil))) (.alt 9 (.alt 4 (.alt 7 (.take 8 (.alt 10 (.done) (.nil))) (.nil)) (.nil)) (.nil))) (.alt 9 (.alt 1 (.alt 4 (.alt 7 (.take 8 (.alt 10 (.done) (.nil))) (.nil)) (.nil)) (.nil)) (.nil)))))))) [] [] (by decide +kernel) (by simp) ?_
    simp (maxSteps := 1000000) [roOf, holdOf, wrOf, altK, heldOk, Region.binds, hl, -List.reduceReplicate]
    have g1 := get_row 0 64 64 8 l hl (by decide) (by decide) (by decide) e
    have g2 := get_row 8 56 64 4 l hl (by decide) (by decide) (by decide) e
    have g3 := get_row 12 52 64 4 l hl (by decide) (by decide) (by decide) e
    repeat' (first
      | (refine cut_to () trivial ?_; exact wk_all (by simp [hE, lens]) (by simp [head0, getI]) (by simp [livH, livO, AV.livL, AV.liv, wkL, wkV, List.range', slotsOf]))
      | apply And.intro
      | (intro E1; refine call_h [0] g1 rfl rfl ⟨rfl, rfl⟩ (by simp) (by simp) (by decide) (by simp) (by simp) ?_; simp (maxSteps := 1000000) [roOf, holdOf, wrOf, altK, heldOk, Region.binds, hl, -List.reduceReplicate])
      | (intro E1; refine call_h [0] g2 rfl rfl ⟨rfl, rfl⟩ (by simp) (by simp) (by decide) (by simp) (by simp) ?_; simp (maxSteps := 1000000) [roOf, holdOf, wrOf, altK, heldOk, Region.binds, hl, -List.reduceReplicate])
      | (intro E1; refine call_h [0] g3 rfl rfl ⟨rfl, rfl⟩ (by simp) (by simp) (by decide) (by simp) (by simp) ?_; simp (maxSteps := 1000000) [roOf, holdOf, wrOf, altK, heldOk, Region.binds, hl, -List.reduceReplicate])
      | intro E1)
/-! ## A frame -/
def frame0 : List AV := [.c (.int .i64 0), .c (.int .i64 0), .c (.bool false), .c (.slice none 0 0)]
/-- the frame of a sector, if it is one of that number -/
def unframeF (l : List UInt8) (k : Int) : Option FrameS :=
  if l.take 8 ≠ l.drop 56 ∨ getI l 4 4 ≠ k ∨ 1 < (at8 l 8).toNat ∨ 46 < (at8 l 9).toNat ∨ getI l 0 4 < 1 then none
  else some ⟨getI l 0 4, getI l 4 4, decide ((at8 l 8).toNat = 1), (l.drop 10).take (at8 l 9).toNat⟩
def unframeR : Option FrameS → AV
  | some f => .tup [.agg (frameA f), .c (.bool true)]
  | none => .tup [.agg frame0, .c (.bool false)]
theorem equal8_row (l : List UInt8) (a b n m : Nat) (e : TypeId) (hl : l.length = m) (h1 : a + n ≤ m) (h2 : b + n ≤ m) (hm : m ≤ 1000000) : ACalls Try.prog 62 [.sl 0 1 a n m, .sl 0 1 b n m] [.o (.row e 1) (u8av l)] (fun _ => true) (fun r h' => r = .c (.bool (decide ((l.drop a).take n = (l.drop b).take n))) ∧ h' = [.o (.row e 1) (u8av l)]) := by
  refine acalls mixed Try.func62 rfl Try.ntmps62 rfl fun E hE _ hho => ?_
  simp (maxSteps := 1000000) [hho, hl, -List.reduceReplicate]
  refine loop_k mixed (fun i : Nat => ⟨slotsOf 26 [(0, .sl 0 1 a n m), (1, .sl 0 1 b n m), (12, .c (.int .i64 n)), (13, .c (.int .i64 (i : Int)))], [.o (.row e 1) (u8av l)]⟩) (fun i => n - i) (fun i => i ≤ n ∧ ∀ p, p < i → l[a + p]? = l[b + p]?) 0 ⟨Nat.zero_le _, fun p hp => by omega⟩ ?_ ?_
  · exact wk_all (by simp [hE, lens]) (by simp) (by simp [livH, livO, AV.livL, AV.liv, wkL, wkV, List.range', slotsOf])
  · rintro i ⟨hi, hI⟩
    by_cases hin : i < n
    · have ew : IntKind.i64.wrap ((i : Int) + 1) = (i + 1 : Nat) := by rw [IntWalk.i64_in _ (by omega)]; rfl
      have ha : a + i + 1 ≤ m := by omega
      have hb : b + i + 1 ≤ m := by omega
      simp (maxSteps := 1000000) [slotsOf, hho, hin, hl, -List.reduceReplicate]
      refine draw_k hho (.take 0 (.take 1 (.take 2 (.take 3 (.take 4 (.take 5 (.take 6 (.take 7 (.take 8 (.done)))))))))) [0] [] (by decide +kernel) (by simp) ?_
      simp (maxSteps := 1000000) [hho, roOf, holdOf, wrOf, altK, heldOk, Region.binds, hl, hin, ha, hb, u8av_drop0' l (a + i) (by omega), u8av_drop0' l (b + i) (by omega), -List.reduceReplicate]
      have hga : l[a + i]? = some (at8 l (a + i)) := by rw [at8, List.getElem?_eq_getElem (by omega)]; rfl
      have hgb : l[b + i]? = some (at8 l (b + i)) := by rw [at8, List.getElem?_eq_getElem (by omega)]; rfl
      by_cases heq : at8 l (a + i) = at8 l (b + i)
      · simp (maxSteps := 1000000) [hho, heq, ew, -List.reduceReplicate]
        refine round_next (i + 1) ⟨by omega, fun p hp => ?_⟩ (by omega) (wk_all (by simp [hE, lens]) (by simp) (by simp [livH, livO, AV.livL, AV.liv, wkL, wkV, List.range', slotsOf]))
        rcases Nat.lt_or_ge p i with h | h
        · exact hI p h
        · obtain rfl : p = i := by omega
          rw [hga, hgb, heq]
      · have hne : ¬ ((at8 l (a + i)).toNat : Int) = ((at8 l (b + i)).toNat : Int) := fun h => heq (UInt8.toNat_inj.1 (by omega))
        simp (maxSteps := 1000000) [hho, hne, -List.reduceReplicate]
        refine Ret.same ⟨?_, rfl⟩
        have : ¬ (List.take n (List.drop a l) = List.take n (List.drop b l)) := fun h => by
          have h := congrArg (fun x => x[i]?) h
          simp only [List.getElem?_take, if_pos hin, List.getElem?_drop] at h
          rw [hga, hgb] at h
          injection h with h
          exact heq h
        simp [this]
    · obtain rfl : i = n := by omega
      simp (maxSteps := 1000000) [slotsOf, hho, -List.reduceReplicate]
      refine Ret.same ⟨?_, rfl⟩
      have : List.take i (List.drop a l) = List.take i (List.drop b l) := by
        apply List.ext_getElem?
        intro p
        rw [List.getElem?_take, List.getElem?_take]
        split
        · rw [List.getElem?_drop, List.getElem?_drop]; exact hI p (by assumption)
        · rfl
      simp [this]
set_option maxHeartbeats 2000000 in
theorem unframe_row (l : List UInt8) (hl : l.length = 64) (k : Int) (e : TypeId) : ACalls Try.prog 52 [.sl 0 1 0 64 64, .c (.int .i64 k)] [.o (.row e 1) (u8av l)] (fun k => decide (k < 1)) (fun r h' => r = unframeR (unframeF l k) ∧ h' = [.o (.row e 1) (u8av l)]) := by
  refine acallsC [2] mixed Try.func52 rfl Try.ntmps52 rfl fun E hE _ hho => ?_
  simp (maxSteps := 1000000) [hho, -List.reduceReplicate]
  refine seq_cut mixed [] (fun _ : Unit => ⟨slotsOf 57 [(0, .sl 0 1 0 64 64), (1, .c (.int .i64 k)), (4, .ptr 1 0 4), (6, .ptr 2 0 4)], [.o (.row e 1) (u8av l), .o .box frame0, .o .box [.c (.int .i64 (getI l 0 4)), .c (.int .i64 (getI l 4 4)), .c (.bool (decide ((at8 l 8).toNat = 1))), .c (.slice none 0 0)]]⟩) (fun _ => True) ?_ ?_
  · rintro _ _
    simp (maxSteps := 1000000) [slotsOf, frame0, hho, hl, u8av_drop_get, -List.reduceReplicate]
    have ez : IntKind.i64.wrap ((at8 l 9).toNat : Int) = (at8 l 9).toNat := IntWalk.i64_in _ (by have := (at8 l 9).toNat_lt; omega)
    rw [ez]
    refine draw_k hho (.take 0 (.take 1 (.take 2 (.take 3 (.alt 4 (.take 5 (.take 6 (.take 7 (.take 9 (.alt 8 (.take 10 (.take 11 (.take 12 (.take 13 (.take 14 (.alt 15 (.take 16 (.take 17 (.take 18 (.take 19 (.take 20 (.take 21 (.take 22 (.take 23 (.alt 24 (.take 25 (.take 26 (.done))) (.nil)))))))))) (.nil))))))) (.nil)))))) (.nil)))))) [] [] (by decide +kernel) (by simp) ?_
    simp (maxSteps := 1000000) [roOf, holdOf, wrOf, altK, heldOk, Region.binds, hl, -List.reduceReplicate]
    intro E1
    refine call_h [0] (equal8_row l 0 56 8 64 e hl (by decide) (by decide) (by decide)) rfl rfl ⟨rfl, rfl⟩ (by simp) (by simp) (by decide) (by simp) (by simp) ?_
    have e8 : List.take 8 (List.drop 56 l) = l.drop 56 := List.take_of_length_le (by simp [hl])
    have e9 : List.take 8 (List.drop 0 l) = l.take 8 := rfl
    rw [e8, e9]
    obtain ⟨eq, heq⟩ : ∃ eq, eq = decide (l.take 8 = l.drop 56) := ⟨_, rfl⟩
    rw [← heq]
    obtain ⟨kk, hkk⟩ : ∃ n0, n0 = getI l 4 4 := ⟨_, rfl⟩
    obtain ⟨ep, hep⟩ : ∃ n0, n0 = getI l 0 4 := ⟨_, rfl⟩
    obtain ⟨lb, hlb⟩ : ∃ n0, n0 = (at8 l 8).toNat := ⟨_, rfl⟩
    obtain ⟨sz, hsz⟩ : ∃ n0, n0 = (at8 l 9).toNat := ⟨_, rfl⟩
    rw [← hkk, ← hep, ← hlb, ← hsz]
    simp (maxSteps := 1000000) [hho, roOf, holdOf, wrOf, altK, heldOk, Region.binds, hl, u8av_drop_get, ← hlb, ← hsz, -List.reduceReplicate]
    intro E2 E3 E4
    have heqf : eq = false ↔ l.take 8 ≠ l.drop 56 := by rw [heq]; simp
    by_cases hc : (((eq = false ∨ ¬ kk = k) ∨ 1 < (lb : Int)) ∨ 46 < (sz : Int)) ∨ ep < 1
    · have hP : unframeF l k = none := by
        unfold unframeF; rw [← hkk, ← hep, ← hlb, ← hsz, if_pos]
        rcases hc with (((h | h) | h) | h) | h
        · exact .inl (heqf.1 h)
        · exact .inr (.inl h)
        · exact .inr (.inr (.inl (by omega)))
        · exact .inr (.inr (.inr (.inl (by omega))))
        · exact .inr (.inr (.inr (.inr h)))
      rw [hP, if_pos hc]
      refine Ret.sel [0] (fun _ => false) (ho := by rfl) (ha := by rfl) ?_ ?_ (by decide) (by simp) st_0 ⟨?_, ?_⟩
      · simp
      · simp
      · rfl
      · rfl
    · have hP : unframeF l k = some ⟨ep, kk, decide (lb = 1), (l.drop 10).take sz⟩ := by
        unfold unframeF; rw [← hkk, ← hep, ← hlb, ← hsz, if_neg]
        rintro (h | h | h | h | h)
        · exact hc (.inl (.inl (.inl (.inl (heqf.2 h)))))
        · exact hc (.inl (.inl (.inl (.inr h))))
        · exact hc (.inl (.inl (.inr (by omega))))
        · exact hc (.inl (.inr (by omega)))
        · exact hc (.inr h)
      have hs46 : sz ≤ 46 := by
        rcases Nat.lt_or_ge 46 sz with h | h
        · exact absurd (.inl (.inr (by omega))) hc
        · exact h
      rw [hP, if_neg hc]
      have ez2 : IntKind.i64.wrap (10 + (sz : Int)) = (10 + sz : Nat) := by rw [IntWalk.i64_in _ (by omega)]; rfl
      rw [ez2]
      have en : ((10 + sz : Nat) : Int).toNat - 10 = sz := by omega
      rw [en]
      refine ⟨by omega, ?_⟩
      refine call_x [0] (clone8_sl l 10 sz 64 e hl (by omega) (by decide) (by decide)) rfl rfl ⟨rfl, rfl⟩ hho (by simp) (by decide) (by simp) (by simp) ?_
      simp (maxSteps := 1000000) [hho, hl, -List.reduceReplicate]
      have hbl : (List.take sz (List.drop 10 l)).length = sz := by simp [hl]; omega
      refine Ret.sel [0] (fun k => k == 3) (ho := by rfl) (ha := by rfl) ?_ ?_ (by decide) (by simp) st_0 ⟨?_, ?_⟩
      · simp
      · simp [hl, maxLen]; omega
      · simp only [unframeR, frameA, hbl]
        have ef : List.take (sz * 1) (List.drop 0 (u8av (List.take sz (List.drop 10 l)))) = u8av (List.take sz (List.drop 10 l)) := by rw [Nat.mul_one, List.drop_zero, List.take_of_length_le (by rw [u8av_length, hbl]; exact Nat.le_refl _)]
        rw [ef]
      · rfl
  · simp (maxSteps := 1000000) [hho, hl, -List.reduceReplicate]
    refine draw_k hho (.take 0 (.take 2 (.take 3 (.take 5 (.take 6 (.alt 1 (.alt 4 (.alt 7 (.take 8 (.take 9 (.alt 10 (.alt 11 (.done) (.nil)) (.nil)))) (.alt 10 (.alt 7 (.take 8 (.take 9 (.alt 11 (.done) (.nil)))) (.nil)) (.nil))) (.alt 7 (.take 8 (.alt 4 (.take 9 (.alt 10 (.alt 11 (.done) (.nil)) (.nil))) (.alt 10 (.alt 4 (.take 9 (.alt 11 (.done) (.nil))) (.nil)) (.nil)))) (.alt 10 (.alt 4 (.alt 7 (.take 8 (.take 9 (.alt 11 (.done) (.nil)))) (.nil)) (.alt 7 (.take 8 (.alt 4 (.take 9 (.alt 11 (.done) (.nil))) (.nil))) (.nil))) (.nil)))) (.alt 7 (.take 8 (.alt 1 (.alt 4 (.take 9 (.alt 10 (.alt 11 (.done) (.nil)) (.nil))) (.alt 10 (.alt 4 (.take 9 (.alt 11 (.done) (.nil))) (.nil)) (.nil))) (.alt 10 (.alt 1 (.alt 4 (.take 9 (.alt 11 (.done) (.nil))) (.nil)) (.nil)) (.nil)))) (.alt 10 (.alt 1 (.alt 4 (.alt 7 (.take 8 (.take 9 (.alt 11 (.done) (.nil)))) (.nil)) (.alt 7 (.take 8 (.alt 4 (.take 9 (.alt 11 (.done) (.nil))) (.nil))) (.nil))) (.alt 7 (.take 8 (.alt 1 (.alt 4 (.take 9 (.alt 11 (.done) (.nil))) (.nil)) (.nil))) (.nil))) (.nil))))))))) [] [] (by decide +kernel) (by simp) ?_
    simp (maxSteps := 1000000) [roOf, holdOf, wrOf, altK, heldOk, Region.binds, hl, u8av_drop_get, -List.reduceReplicate]
    have g1 := get_row 0 64 64 4 l hl (by decide) (by decide) (by decide) e
    have g2 := get_row 4 60 64 4 l hl (by decide) (by decide) (by decide) e
    have h81 : (↑(at8 l 8).toNat = (1 : Int)) ↔ (at8 l 8).toNat = 1 := by omega
    repeat' (first
      | (refine cut_to () trivial ?_; exact wk_all (by simp [hE, lens]) (by simp [frame0, getI, h81]) (by simp [livH, livO, AV.livL, AV.liv, wkL, wkV, List.range', slotsOf]))
      | apply And.intro
      | (intro E1; refine call_h [0] g1 rfl rfl ⟨rfl, rfl⟩ (by simp) (by simp) (by decide) (by simp) (by simp) ?_; simp (maxSteps := 1000000) [roOf, holdOf, wrOf, altK, heldOk, Region.binds, hl, u8av_drop_get, -List.reduceReplicate])
      | (intro E1; refine call_h [0] g2 rfl rfl ⟨rfl, rfl⟩ (by simp) (by simp) (by decide) (by simp) (by simp) ?_; simp (maxSteps := 1000000) [roOf, holdOf, wrOf, altK, heldOk, Region.binds, hl, u8av_drop_get, -List.reduceReplicate])
      | intro E1)
end Go.Proofs.Ytmgpiminicgbiaa
