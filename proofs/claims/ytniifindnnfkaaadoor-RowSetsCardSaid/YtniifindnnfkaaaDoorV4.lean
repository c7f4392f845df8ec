import Derived.Test.YtniifindnnfkaaaDoorV3
namespace Go.Proofs.YtniifindnnfkaaaDoor
set_option linter.unusedVariables false
set_option linter.unusedSimpArgs false
open Go.RowKit Go.Lib
attribute [local simp] isCut_nil isCut_region isCut_seq isCut_block isCut_loop isCut_cond isCut_skip isCut_exit isCut_ret isCut_range swapK putK altK condK_bool pickP_bool stepP stepO onPure_some onPure_none onImpl_some onImpl_none stepC onGP_some onGP_none onGV_some condG mkG onIt_it nextP_ptr takeP_eq takeV_some takeV_none takeU_some takeU_none takeQ takeW_some takeN_none takeN_some takeG_some takeO_some altO_some pureV binV2 eqF eqOp ovlV ovl2 rowAt capV binV intBin strBin isSh shV fldV ixV sliceV slice3V loadAV nilV lenV callV unV convV viewS cellsH loadV fldCut AV.ung AV.ungs AV.gc AV.cells AS.ev AS.put anyS gcsV lens lnO gV guardV retK RetP_eq resV oneV anyRo loIx hiIx implO callP_clo evL gcsL clearV storeAV AS.push AS.setO appV appZ shortS copyV buildV partsV fillV srcV fzO okV isCell_c isCell_ptr isCell_sl isCell_fs isCell_fp isCell_clo rowZ_one rowZ_zero rowZ_2 rowZ_3 rowZ_4 rowZ_5 rowZ_6 rowZ_7 rowZ_8 rowZ_9 rowZ_10 rowZ_11 rowZ_12 noHo Value.oneCell' max2V min2V lookV updV lenM msAt afterH putBack frzFrom frzO rebO backIx nilEq_sl nilEq_fs nilOp_eql nilOp_neq AV.reb AV.rebL
attribute [local simp ↓] runK_skip runK_region runK_draw runK_seq runK_cut runK_cond runK_block runK_loop runK_exit runK_label runK_goto runK_ret runK_range contK_nil contK_seq contK_seq_ret contK_seq_exit contK_seq_goto contK_block contK_block_ret contK_block_goto contK_block_exit runO_nil runO_cons roundK_exit roundK_ret roundK_goto exitK_ret cutK_ret cutK_exit runE_done runE_nil runE_take runE_alt condG_true condG_false
set_option maxRecDepth 10000
def utfX (x0 : Nat) (g : Nat → Nat) : Nat → Nat
  | 0 => x0
  | k + 1 => 64 * utfX x0 g k + g (k + 1) - 128
def utfCls (c n least x0 : Nat) : Prop := (c < 128 ∧ n = 0 ∧ least = 0 ∧ x0 = c) ∨ (192 ≤ c ∧ c < 224 ∧ n = 1 ∧ least = 128 ∧ x0 = c - 192) ∨ (224 ≤ c ∧ c < 240 ∧ n = 2 ∧ least = 2048 ∧ x0 = c - 224) ∨ (240 ≤ c ∧ c < 248 ∧ n = 3 ∧ least = 65536 ∧ x0 = c - 240)
def gB (l : List UInt8) (j : Nat) : Nat := (l.getD j 0).toNat
theorem valid_bad {l : List UInt8} (hl : l ≠ []) (h : (128 ≤ gB l 0 ∧ gB l 0 < 192) ∨ 248 ≤ gB l 0) : validD l = false := by
  unfold gB at h
  rw [validD_lead l hl (by omega), utf_check _ _ _ _ _ (by omega), utfN, if_pos (by omega)]
open Classical in
theorem utf_cls {l : List UInt8} (hl : l ≠ []) {n least x0 : Nat} (h : utfCls (gB l 0) n least x0) : validD l = if l.length < n + 1 ∨ (∃ j, 1 ≤ j ∧ j ≤ n ∧ (gB l j < 128 ∨ 191 < gB l j)) ∨ utfBad least (utfX x0 (gB l) n) = true then false else validD (l.drop (n + 1)) := by
  rcases h with ⟨h, rfl, rfl, rfl⟩ | ⟨h, h', rfl, rfl, rfl⟩ | ⟨h, h', rfl, rfl, rfl⟩ | ⟨h, h', rfl, rfl, rfl⟩
  · rcases l with _ | ⟨b, t⟩
    · exact absurd rfl hl
    · rw [if_neg]
      · exact validD_cons b t h
      · rintro (h1 | ⟨j, h1, h2, _⟩ | h1)
        · simp at h1
        · omega
        · simp [utfBad, utfX, gB] at h1 h
          omega
  · have e : (∃ j, 1 ≤ j ∧ j ≤ 1 ∧ (gB l j < 128 ∨ 191 < gB l j)) ↔ (gB l 1 < 128 ∨ 191 < gB l 1) := ⟨fun ⟨j, h1, h2, h3⟩ => by
      obtain rfl : j = 1 := by omega
      exact h3, fun h => ⟨1, by omega, by omega, h⟩⟩
    rw [e]
    unfold gB at *
    rw [validD_lead l hl (by omega), utf_check _ _ _ _ _ (by omega), utfN, if_neg (by omega), if_pos h']
    by_cases hc : l.length < 2 ∨ (l.getD 1 0).toNat < 128 ∨ 191 < (l.getD 1 0).toNat ∨ utfBad 128 (64 * ((l.getD 0 0).toNat - 192) + (l.getD 1 0).toNat - 128) = true
    · rw [if_pos hc, if_pos (by simp only [utfX]; grind)]
    · rw [if_neg hc, if_neg (by simp only [utfX]; grind)]
  · have e : (∃ j, 1 ≤ j ∧ j ≤ 2 ∧ (gB l j < 128 ∨ 191 < gB l j)) ↔ (gB l 1 < 128 ∨ 191 < gB l 1 ∨ gB l 2 < 128 ∨ 191 < gB l 2) := by
      constructor
      · rintro ⟨j, h1, h2, h3⟩
        have : j = 1 ∨ j = 2 := by omega
        rcases this with rfl | rfl <;> grind
      · rintro (h | h | h | h)
        · exact ⟨1, by omega, by omega, .inl h⟩
        · exact ⟨1, by omega, by omega, .inr h⟩
        · exact ⟨2, by omega, by omega, .inl h⟩
        · exact ⟨2, by omega, by omega, .inr h⟩
    rw [e]
    unfold gB at *
    rw [validD_lead l hl (by omega), utf_check _ _ _ _ _ (by omega), utfN, if_neg (by omega), if_neg (by omega), if_pos h']
    by_cases hc : l.length < 3 ∨ (l.getD 1 0).toNat < 128 ∨ 191 < (l.getD 1 0).toNat ∨ (l.getD 2 0).toNat < 128 ∨ 191 < (l.getD 2 0).toNat ∨ utfBad 2048 (64 * (64 * ((l.getD 0 0).toNat - 224) + (l.getD 1 0).toNat - 128) + (l.getD 2 0).toNat - 128) = true
    · rw [if_pos hc, if_pos (by simp only [utfX]; grind)]
    · rw [if_neg hc, if_neg (by simp only [utfX]; grind)]
  · have e : (∃ j, 1 ≤ j ∧ j ≤ 3 ∧ (gB l j < 128 ∨ 191 < gB l j)) ↔ (gB l 1 < 128 ∨ 191 < gB l 1 ∨ gB l 2 < 128 ∨ 191 < gB l 2 ∨ gB l 3 < 128 ∨ 191 < gB l 3) := by
      constructor
      · rintro ⟨j, h1, h2, h3⟩
        have : j = 1 ∨ j = 2 ∨ j = 3 := by omega
        rcases this with rfl | rfl | rfl <;> grind
      · rintro (h | h | h | h | h | h)
        · exact ⟨1, by omega, by omega, .inl h⟩
        · exact ⟨1, by omega, by omega, .inr h⟩
        · exact ⟨2, by omega, by omega, .inl h⟩
        · exact ⟨2, by omega, by omega, .inr h⟩
        · exact ⟨3, by omega, by omega, .inl h⟩
        · exact ⟨3, by omega, by omega, .inr h⟩
    rw [e]
    unfold gB at *
    rw [validD_lead l hl (by omega), utf_check _ _ _ _ _ (by omega), utfN, if_neg (by omega), if_neg (by omega), if_neg (by omega)]
    by_cases hc : l.length < 4 ∨ (l.getD 1 0).toNat < 128 ∨ 191 < (l.getD 1 0).toNat ∨ (l.getD 2 0).toNat < 128 ∨ 191 < (l.getD 2 0).toNat ∨ (l.getD 3 0).toNat < 128 ∨ 191 < (l.getD 3 0).toNat ∨ utfBad 65536 (64 * (64 * (64 * ((l.getD 0 0).toNat - 240) + (l.getD 1 0).toNat - 128) + (l.getD 2 0).toNat - 128) + (l.getD 3 0).toNat - 128) = true
    · rw [if_pos hc, if_pos (by simp only [utfX]; grind)]
    · rw [if_neg hc, if_neg (by simp only [utfX]; grind)]
set_option maxHeartbeats 8000000 in
theorem utf_ref (s : ByteArray) (hs : s.size ≤ 9000000000000000000) : ACalls Tryd.prog 52 [.c (.string s)] [] (fun _ => false) (fun r h' => r = .c (.bool (utfOk s)) ∧ h' = []) := by
  refine acalls mixed Tryd.func52 rfl Tryd.ntmps52 rfl fun E hE hst hho => ?_
  simp [hho, noHo, -List.reduceReplicate]
  refine loop_kc [19] mixed (fun i : Nat => ⟨slotsOf 89 [(0, .c (.string s)), (3, .c (.int .i64 (i : Nat)))], []⟩) (fun i => s.size - i) (fun i => i ≤ s.size ∧ validD (s.data.toList.drop i) = utfOk s) 0 ⟨Nat.zero_le _, rfl⟩ ?_ ?_
  · exact wk_eq (by simp [hE, lens]) (by simp) (by simp [livH, livO, AV.livL, AV.liv, wkL, wkV, List.range', slotsOf])
  · rintro i ⟨hi, hv⟩
    by_cases hil : i < s.size
    · have hiI : (i : Int) < s.size := by omega
      have hil' : i < s.data.size := hil
      obtain ⟨c, hc⟩ : ∃ c, c = gB (s.data.toList.drop i) 0 := ⟨_, rfl⟩
      have hcb : (s.data[i]?.getD 0).toNat = c := by rw [hc, gB]; simp [List.getD]
      have hc256 : c < 256 := by rw [hc]; exact UInt8.toNat_lt _
      have ew1 : IntKind.i64.wrap (c : Int) = (c : Int) := IntWalk.i64_in _ (by omega)
      have ew2 : IntKind.i64.wrap ((c : Int) - 240) = (c : Int) - 240 := IntWalk.i64_in _ (by omega)
      have ew3 : IntKind.i64.wrap ((c : Int) - 224) = (c : Int) - 224 := IntWalk.i64_in _ (by omega)
      have ew4 : IntKind.i64.wrap ((c : Int) - 192) = (c : Int) - 192 := IntWalk.i64_in _ (by omega)
      have hne : s.data.toList.drop i ≠ [] := by
        intro h
        have := congrArg List.length h
        simp at this
        omega
      have hlen : (s.data.toList.drop i).length = s.size - i := by rw [List.length_drop]; rfl
      obtain ⟨g, hg⟩ : ∃ g, g = gB (s.data.toList.drop i) := ⟨_, rfl⟩
      have hgj : ∀ j, (s.data[i + j]?.getD 0).toNat = g j := fun j => by rw [hg, gB]; simp [List.getD]
      have hg256 : ∀ j, g j < 256 := fun j => by rw [hg]; exact UInt8.toNat_lt _
      simp (maxSteps := 1000000) [slotsOf, hho, noHo, hiI, hcb, ew1, ew2, ew3, ew4, -List.reduceReplicate]
      refine seq_cut mixed [] (fun y : Nat × Nat × Nat => ⟨slotsOf 89 [(0, .c (.string s)), (3, .c (.int .i64 (i : Nat))), (4, .c (.int .i64 (c : Nat))), (5, .c (.int .i64 (y.1 : Nat))), (6, .c (.int .i64 (y.2.1 : Nat))), (7, .c (.int .i64 (y.2.2 : Nat)))], []⟩) (fun y => 248 ≤ c ∨ (c < 248 ∧ utfCls c y.1 y.2.1 y.2.2)) ?_ ?_
      · rintro ⟨n, least, x0⟩ h
        simp only at h
        rcases h with h248 | ⟨h248, hcls⟩
        · have hb := valid_bad hne (.inr (by rw [← hc]; exact h248))
          rw [hv] at hb
          have h248' : (248 : Int) ≤ c := by omega
          simp (maxSteps := 1000000) [slotsOf, hho, noHo, h248', undef, onGP_none, condG_false, -List.reduceReplicate]
          exact Ret.same ⟨by rw [hb], rfl⟩
        · have h248' : ¬ (248 : Int) ≤ c := by omega
          have hst := utf_cls hne (by rw [← hc]; exact hcls)
          rw [hv, hlen, ← hg] at hst
          have hn3 : n ≤ 3 ∧ x0 < 256 ∧ least ≤ 65536 := by rcases hcls with h | h | h | h <;> omega
          have ew5 : IntKind.i64.wrap ((s.size : Int) - 1) = (s.size : Int) - 1 := IntWalk.i64_in _ (by omega)
          have ew6 : IntKind.i64.wrap ((s.size : Int) - 1 - i) = (s.size : Int) - 1 - i := IntWalk.i64_in _ (by omega)
          by_cases hfar : (s.size : Int) - 1 - i < n
          · rw [if_pos (.inl (by omega))] at hst
            simp (maxSteps := 1000000) [slotsOf, hho, noHo, h248', ew5, ew6, hfar, undef, onGP_none, condG_false, -List.reduceReplicate]
            exact Ret.same ⟨by rw [hst], rfl⟩
          · simp (maxSteps := 1000000) [slotsOf, hho, noHo, h248', ew5, ew6, hfar, undef, onGP_none, condG_false, -List.reduceReplicate]
            refine loop_k mixed (fun k : Nat => ⟨slotsOf 89 [(0, .c (.string s)), (3, .c (.int .i64 (i : Nat))), (4, .c (.int .i64 (c : Nat))), (5, .c (.int .i64 (n : Nat))), (6, .c (.int .i64 (least : Nat))), (7, .c (.int .i64 (utfX x0 g k : Nat))), (8, .c (.int .i64 ((k + 1 : Nat) : Int)))], []⟩) (fun k => n - k) (fun k => k ≤ n ∧ ∀ j, 1 ≤ j → j ≤ k → 128 ≤ g j ∧ g j ≤ 191) 0 ⟨Nat.zero_le _, fun j h1 h2 => by omega⟩ ?_ ?_
            · exact wk_eq (by simp [hE, lens]) (by simp) (by simp [livH, livO, AV.livL, AV.liv, wkL, wkV, List.range', slotsOf, utfX])
            · rintro k ⟨hk, hI⟩
              have hX : ∀ k, k ≤ 3 → (∀ j, 1 ≤ j → j ≤ k → 128 ≤ g j ∧ g j ≤ 191) → utfX x0 g k < 256 * 64 ^ k := by
                intro k
                induction k with
                | zero => intro _ _; simp [utfX]; omega
                | succ k ih =>
                  intro h1 h2
                  have a := ih (by omega) fun j h3 h4 => h2 j h3 (by omega)
                  have b := h2 (k + 1) (by omega) (by omega)
                  have e : 256 * 64 ^ (k + 1) = 64 * (256 * 64 ^ k) := by rw [Nat.pow_succ]; omega
                  simp only [utfX]
                  omega
              have hXk := hX k (by omega) hI
              have hpk : (64 : Nat) ^ k ≤ 64 ^ 3 := Nat.pow_le_pow_right (by decide) (by omega)
              by_cases hkn : k < n
              · have hkI : (k : Int) + 1 ≤ n := by omega
                have hsz : i + (k + 1) < s.size := by omega
                have hszI : (i : Int) + (k + 1) < s.size := by omega
                have ewi : IntKind.i64.wrap ((i : Int) + ((k : Int) + 1)) = (i : Int) + ((k : Int) + 1) := IntWalk.i64_in _ (by omega)
                have hgk := hgj (k + 1)
                have hg2 := hg256 (k + 1)
                have eti : ((i : Int) + ((k : Int) + 1)).toNat = i + (k + 1) := by omega
                have ewg : IntKind.i64.wrap (g (k + 1) : Int) = (g (k + 1) : Int) := IntWalk.i64_in _ (by omega)
                obtain ⟨X, hXe⟩ : ∃ X, X = utfX x0 g k := ⟨_, rfl⟩
                rw [← hXe] at hXk
                have ewa : IntKind.i64.wrap (64 * (X : Int)) = 64 * (X : Int) := IntWalk.i64_in _ (by omega)
                have ewb : IntKind.i64.wrap (64 * (X : Int) + g (k + 1)) = 64 * (X : Int) + g (k + 1) := IntWalk.i64_in _ (by omega)
                have ewc : IntKind.i64.wrap (64 * (X : Int) + g (k + 1) - 128) = 64 * (X : Int) + g (k + 1) - 128 := IntWalk.i64_in _ (by omega)
                have ewd : IntKind.i64.wrap ((k : Int) + 1 + 1) = ((k + 1 + 1 : Nat) : Int) := by rw [IntWalk.i64_in _ (by omega)]; omega
                by_cases hbad : g (k + 1) < 128 ∨ 191 < g (k + 1)
                · rw [if_pos (.inr (.inl ⟨k + 1, by omega, by omega, hbad⟩))] at hst
                  have hbI : (g (k + 1) : Int) < 128 ∨ (191 : Int) < g (k + 1) := by omega
                  simp (maxSteps := 1000000) [slotsOf, hho, noHo, hkI, ← hXe, eti, ewi, hgk, ewg, hbI, hszI, undef, onGP_none, condG_false, -List.reduceReplicate]
                  exact ⟨by omega, Ret.same ⟨by rw [hst], rfl⟩⟩
                · have hbI : ¬ ((g (k + 1) : Int) < 128 ∨ (191 : Int) < g (k + 1)) := by omega
                  have hbI1 : ¬ (g (k + 1) : Int) < 128 := by omega
                  have hbI2 : ¬ (191 : Int) < g (k + 1) := by omega
                  simp (maxSteps := 1000000) [slotsOf, hho, noHo, hkI, ← hXe, eti, ewi, hgk, ewg, hbI1, hbI2, ewa, ewb, ewc, ewd, hszI, -List.reduceReplicate]
                  refine ⟨by omega, ?_⟩
                  refine round_next (k + 1) ⟨by omega, fun j h1 h2 => ?_⟩ (by omega) ?_
                  · by_cases e : j = k + 1
                    · subst e; omega
                    · exact hI j h1 (by omega)
                  · exact wk_eq (by simp [hE, lens]) (by simp) (by
                      have e : ((utfX x0 g (k + 1) : Nat) : Int) = 64 * (X : Int) + g (k + 1) - 128 := by simp only [utfX, ← hXe]; omega
                      simp [livH, livO, AV.livL, AV.liv, wkL, wkV, List.range', slotsOf, e])
              · obtain rfl : k = n := by omega
                have hkI : ¬ (k : Int) + 1 ≤ k := by omega
                obtain ⟨X, hXe⟩ : ∃ X, X = utfX x0 g k := ⟨_, rfl⟩
                rw [← hXe] at hst hXk
                have ewe : IntKind.i64.wrap (1 + (k : Int)) = 1 + (k : Int) := IntWalk.i64_in _ (by omega)
                have ewf : IntKind.i64.wrap ((i : Int) + (1 + (k : Int))) = ((i + (k + 1) : Nat) : Int) := by rw [IntWalk.i64_in _ (by omega)]; omega
                have hno : ¬ ∃ j, 1 ≤ j ∧ j ≤ k ∧ (g j < 128 ∨ 191 < g j) := fun ⟨j, h1, h2, h3⟩ => by have := hI j h1 h2; omega
                by_cases hB : utfBad least X = true
                · rw [if_pos (.inr (.inr hB))] at hst
                  have hBI : ((X : Int) < least ∨ (1114111 : Int) < X) ∨ (55296 : Int) ≤ X ∧ (X : Int) < 57344 := by
                    simp [utfBad] at hB
                    omega
                  simp (maxSteps := 1000000) [slotsOf, hho, noHo, hkI, ← hXe, undef, onGP_none, condG_false, -List.reduceReplicate]
                  refine ⟨by omega, ?_⟩
                  rw [if_pos (by omega)]
                  exact Ret.same ⟨by rw [hst], rfl⟩
                · rw [if_neg (by rintro (h | h | h); · omega
                                 · exact hno h
                                 · exact hB h)] at hst
                  have hBI : ¬ (((X : Int) < least ∨ (1114111 : Int) < X) ∨ (55296 : Int) ≤ X ∧ (X : Int) < 57344) := by
                    simp [utfBad] at hB
                    omega
                  simp (maxSteps := 1000000) [slotsOf, hho, noHo, hkI, ← hXe, ewe, ewf, undef, onGP_none, condG_false, -List.reduceReplicate]
                  refine ⟨by omega, ?_⟩
                  rw [if_neg (by omega)]
                  refine round_next (i + (k + 1)) ⟨by omega, ?_⟩ (by omega) ?_
                  · rw [hst, List.drop_drop]
                  · exact wk_eq (by simp [hE, lens]) (by simp) (by simp [livH, livO, AV.livL, AV.liv, wkL, wkV, List.range', slotsOf])
      · by_cases c1 : c < 128
        · have q1 : ¬ (240 : Int) ≤ c := by omega
          have q2 : ¬ (224 : Int) ≤ c := by omega
          have q3 : ¬ (192 : Int) ≤ c := by omega
          have q4 : ¬ (128 : Int) ≤ c := by omega
          simp (maxSteps := 1000000) [hho, noHo, q1, q2, q3, q4, undef, onGP_none, condG_false, -List.reduceReplicate]
          refine cut_to (0, 0, c) (.inr ⟨by omega, .inl ⟨c1, rfl, rfl, rfl⟩⟩) ?_
          exact wk_eq (by simp [hE, lens]) (by simp) (by simp [livH, livO, AV.livL, AV.liv, wkL, wkV, List.range', slotsOf])
        · by_cases c2 : c < 192
          · have q1 : ¬ (240 : Int) ≤ c := by omega
            have q2 : ¬ (224 : Int) ≤ c := by omega
            have q3 : ¬ (192 : Int) ≤ c := by omega
            have q4 : (128 : Int) ≤ c := by omega
            have hb := valid_bad hne (.inl (by rw [← hc]; omega))
            rw [hv] at hb
            simp (maxSteps := 1000000) [hho, noHo, q1, q2, q3, q4, undef, onGP_none, condG_false, -List.reduceReplicate]
            exact Ret.same ⟨by rw [hb], rfl⟩
          · by_cases c3 : c < 224
            · have q1 : ¬ (240 : Int) ≤ c := by omega
              have q2 : ¬ (224 : Int) ≤ c := by omega
              have q3 : (192 : Int) ≤ c := by omega
              simp (maxSteps := 1000000) [hho, noHo, q1, q2, q3, undef, onGP_none, condG_false, -List.reduceReplicate]
              refine cut_to (1, 128, c - 192) (.inr ⟨by omega, .inr (.inl ⟨by omega, c3, rfl, rfl, rfl⟩)⟩) ?_
              have e : ((c - 192 : Nat) : Int) = (c : Int) - 192 := by omega
              exact wk_eq (by simp [hE, lens]) (by simp) (by simp [livH, livO, AV.livL, AV.liv, wkL, wkV, List.range', slotsOf, e, ew2, ew3, ew4])
            · by_cases c4 : c < 240
              · have q1 : ¬ (240 : Int) ≤ c := by omega
                have q2 : (224 : Int) ≤ c := by omega
                simp (maxSteps := 1000000) [hho, noHo, q1, q2, undef, onGP_none, condG_false, -List.reduceReplicate]
                refine cut_to (2, 2048, c - 224) (.inr ⟨by omega, .inr (.inr (.inl ⟨by omega, c4, rfl, rfl, rfl⟩))⟩) ?_
                have e : ((c - 224 : Nat) : Int) = (c : Int) - 224 := by omega
                exact wk_eq (by simp [hE, lens]) (by simp) (by simp [livH, livO, AV.livL, AV.liv, wkL, wkV, List.range', slotsOf, e, ew2, ew3, ew4])
              · by_cases c5 : c < 248
                · have q1 : (240 : Int) ≤ c := by omega
                  have q2 : (c : Int) < 248 := by omega
                  simp (maxSteps := 1000000) [hho, noHo, q1, q2, undef, onGP_none, condG_false, -List.reduceReplicate]
                  refine cut_to (3, 65536, c - 240) (.inr ⟨by omega, .inr (.inr (.inr ⟨by omega, c5, rfl, rfl, rfl⟩))⟩) ?_
                  have e : ((c - 240 : Nat) : Int) = (c : Int) - 240 := by omega
                  exact wk_eq (by simp [hE, lens]) (by simp) (by simp [livH, livO, AV.livL, AV.liv, wkL, wkV, List.range', slotsOf, e, ew2, ew3, ew4])
                · have q1 : (240 : Int) ≤ c := by omega
                  have q2 : ¬ (c : Int) < 248 := by omega
                  have q3 : (224 : Int) ≤ c := by omega
                  simp (maxSteps := 1000000) [hho, noHo, q1, q2, q3, undef, onGP_none, condG_false, -List.reduceReplicate]
                  refine cut_to (2, 2048, c - 224) (.inl (by omega)) ?_
                  have e : ((c - 224 : Nat) : Int) = (c : Int) - 224 := by omega
                  exact wk_eq (by simp [hE, lens]) (by simp) (by simp [livH, livO, AV.livL, AV.liv, wkL, wkV, List.range', slotsOf, e, ew2, ew3, ew4])
    · obtain rfl : i = s.size := by omega
      have hv2 : utfOk s = true := by
        rw [← hv, List.drop_eq_nil_of_le (by simp)]; rfl
      simp (maxSteps := 1000000) [slotsOf, hho, noHo, -List.reduceReplicate]
      exact Ret.same ⟨by rw [hv2], rfl⟩
end Go.Proofs.YtniifindnnfkaaaDoor
