import Derived.Test.YtniifindnnfkaaaDoorU8
import Derived.Test.YtniifindnnfkaaaDoorPl1
namespace Go.Proofs.YtniifindnnfkaaaDoor
set_option linter.unusedVariables false
set_option linter.unusedSimpArgs false
open Go.RowKit
attribute [local simp] isCut_nil isCut_region isCut_seq isCut_block isCut_loop isCut_cond isCut_skip isCut_exit isCut_ret isCut_range swapK putK altK condK_bool pickP_bool stepP stepO onPure_some onPure_none onImpl_some onImpl_none stepC onGP_some onGP_none onGV_some condG mkG onIt_it nextP_ptr takeP_eq takeV_some takeV_none takeU_some takeU_none takeQ takeW_some takeN_none takeN_some takeG_some takeO_some altO_some pureV binV2 eqF eqOp ovlV ovl2 rowAt capV binV intBin strBin isSh shV fldV ixV sliceV slice3V loadAV nilV lenV callV unV convV viewS cellsH loadV fldCut AV.ung AV.ungs AV.gc AV.cells AS.ev AS.put anyS gcsV lens lnO gV guardV retK RetP_eq resV oneV anyRo loIx hiIx implO callP_clo evL gcsL clearV storeAV AS.push AS.setO appV appZ shortS copyV buildV partsV fillV srcV fzO okV isCell_c isCell_ptr isCell_sl isCell_fs isCell_fp isCell_clo rowZ_one rowZ_zero rowZ_2 rowZ_3 rowZ_4 rowZ_5 rowZ_6 rowZ_7 rowZ_8 rowZ_9 rowZ_10 rowZ_11 rowZ_12 noHo Value.oneCell' max2V min2V lookV updV lenM msAt afterH putBack frzFrom frzO rebO backIx nilEq_sl nilEq_fs nilOp_eql nilOp_neq AV.reb AV.rebL
attribute [local simp ↓] runK_skip runK_region runK_draw runK_seq runK_cut runK_cond runK_block runK_loop runK_exit runK_label runK_goto runK_ret runK_range contK_nil contK_seq contK_seq_ret contK_seq_exit contK_seq_goto contK_block contK_block_ret contK_block_goto contK_block_exit runO_nil runO_cons roundK_exit roundK_ret roundK_goto exitK_ret cutK_ret cutK_exit runE_done runE_nil runE_take runE_alt condG_true condG_false
set_option maxRecDepth 10000
/-! ## The writer -/
def RevI (l d : List UInt8) (i : Nat) : Prop := d.length = l.length ∧ ∀ m (hm : m < l.length) (hd : m < d.length), d[m] = if m < i ∨ l.length ≤ m + i then l[l.length - 1 - m] else l[m]
theorem RevI.step {l d : List UInt8} {i : Nat} (h : RevI l d i) (hi : i < l.length) (h2 : i < l.length - 1 - i) (h3 : l.length - 1 - i < d.length) (h4 : i < d.length) : RevI l ((d.set i d[l.length - 1 - i]).set (l.length - 1 - i) d[i]) (i + 1) := by
  refine ⟨by simp [h.1], fun m hm hd => ?_⟩
  have e1 := h.2 i hi h4
  have e2 := h.2 (l.length - 1 - i) (by omega) h3
  rw [if_neg (by omega)] at e1 e2
  rw [List.getElem_set]
  by_cases c1 : l.length - 1 - i = m
  · subst c1
    rw [if_pos rfl, if_pos (by omega), e1]
    congr 1
    omega
  · rw [if_neg c1, List.getElem_set]
    by_cases c2 : i = m
    · subst c2
      rw [if_pos rfl, if_pos (by omega), e2]
    · rw [if_neg c2, h.2 m hm (by rw [h.1]; exact hm)]
      by_cases c3 : m < i ∨ l.length ≤ m + i
      · rw [if_pos c3, if_pos (by omega)]
      · rw [if_neg c3, if_neg (by omega)]
theorem RevI.done {l d : List UInt8} {i : Nat} (h : RevI l d i) (hi : l.length ≤ 2 * i + 1) : d = l.reverse := by
  refine List.ext_getElem (by simp [h.1]) fun m h1 h2 => ?_
  rw [h.2 m (by rw [← h.1]; exact h1) h1, List.getElem_reverse]
  split
  · rfl
  · have e : m = l.length - 1 - m := by have := h.1; omega
    congr 1
theorem reverse_bytes (l : List UInt8) (n : Nat) (hn : n = l.length) (hl : n ≤ 1000000000000) : ACalls Tryd.prog 47 [.sl 0 1 0 n n] [.o (.row 5 1) (u8av l)] (fun k => decide (k < 1)) (fun r h' => r = .tup [] ∧ h' = [.o (.row 5 1) (u8av l.reverse)]) := by
  refine acalls mixed Tryd.func47 rfl Tryd.ntmps47 rfl fun E hE hst hho => ?_
  simp (maxSteps := 1000000) [hho, ← hn, -List.reduceReplicate]
  refine loop_k mixed (fun x : Nat × List UInt8 => ⟨slotsOf 28 [(0, .sl 0 1 0 n n), (2, .c (.int .i64 (x.1 : Int))), (3, .c (.int .i64 ((n : Int) - 1 - x.1)))], [.o (.row 5 1) (u8av x.2)]⟩) (fun x => n - x.1) (fun x => x.1 ≤ n ∧ RevI l x.2 x.1) (0, l) ⟨Nat.zero_le _, rfl, fun m hm hd => by rw [if_neg (by omega)]⟩ ?_ ?_
  · have e : IntKind.i64.wrap ((n : Int) - 1) = (n : Int) - 1 := IntWalk.i64_in _ (by omega)
    exact wk_eq (by simp [hE, lens]) (by simp) (by simp [livH, livO, AV.livL, AV.liv, wkL, wkV, List.range', slotsOf, e])
  · rintro ⟨i, d⟩ ⟨hi, hR⟩
    simp only at hi hR
    by_cases hlt : (i : Int) < (n : Int) - 1 - i
    · obtain ⟨J, hJ⟩ : ∃ J, J = n - 1 - i := ⟨_, rfl⟩
      have hJe : (n : Int) - 1 - i = (J : Nat) := by omega
      have hdl := hR.1
      have hin : i < n := by omega
      have hJn : J < n := by omega
      have hid : i < d.length := by omega
      have hJd : J < d.length := by omega
      have e1 := u8av_get d i hid
      have e0 := u8av_get d J hJd
      have hs1 := u8av_set d i hid d[J]
      have hs2 := u8av_set (d.set i d[J]) J (by simpa using hJd) d[i]
      have ew1 : IntKind.i64.wrap ((i : Int) + 1) = (i + 1 : Nat) := by rw [IntWalk.i64_in _ (by omega)]; rfl
      have ew2 : IntKind.i64.wrap ((J : Int) - 1) = (n : Int) - 1 - (i + 1 : Nat) := by rw [IntWalk.i64_in _ (by omega)]; omega
      have hiJ : (i : Int) < (J : Nat) := by omega
      have hiJn : i < J := by omega
      have hdn : d.length = n := by omega
      rw [hJe]
      simp (maxSteps := 1000000) [slotsOf, hho, hiJ, hiJn, -List.reduceReplicate]
      refine draw_k hho (.take 0 (.take 1 (.take 2 (.take 3 (.take 4 (.take 5 (.take 6 (.take 7 (.take 8 (.take 9 (.take 10 (.take 11 (.take 12 (.alt 13 (.take 14 (.alt 15 (.done) (.nil))) (.nil))))))))))))))) [0] [(13, [0]), (15, [0])] (by decide +kernel) (by simp) ?_
      simp (maxSteps := 1000000) [hho, hdn, hin, hJn, e0, e1, u8av_getE, hs1, hs2, ew1, ew2, roOf, holdOf, wrOf, altK, heldOk, Region.binds, -List.reduceReplicate]
      refine ⟨by omega, by omega, fun _ => ⟨by omega, fun _ => ⟨by omega, ?_⟩⟩⟩
      have hst : RevI l ((d.set i d[J]).set J d[i]) (i + 1) := by
        obtain rfl : J = l.length - 1 - i := by omega
        exact hR.step (by omega) (by omega) hJd hid
      refine round_next (i + 1, (d.set i d[J]).set J d[i]) ⟨by simp only; omega, hst⟩ (by simp only; omega) ?_
      exact wk_eq (by simp [hE, lens]) (by simp) (by simp [livH, livO, AV.livL, AV.liv, wkL, wkV, List.range'])
    · simp (maxSteps := 1000000) [slotsOf, hho, hlt, -List.reduceReplicate]
      exact Ret.same ⟨rfl, by rw [hR.done (by omega)]⟩
def wrO (b : List UInt8) : List AObj := [.o .box [.sl 1 1 0 b.length b.length], .o (.row 5 1) (u8av b)]
theorem clone_bytes (n : Nat) (l : List AV) (hl : l.length = n) (hn : n ≤ 1000000000000) (hc : ∀ x ∈ l, isCell x = true) : ACalls Tryd.prog 50 [.fs 1 n l] [] (fun _ => false) (fun r h' => r = .sl 0 1 0 n n ∧ h' = [.o (.row 5 1) l]) := by
  refine acalls mixed Tryd.func50 rfl Tryd.ntmps50 rfl fun E hE _ hho => ?_
  simp [hho, noHo, -List.reduceReplicate]
  refine ⟨⟨⟨by omega, hc⟩, Ret.same ⟨rfl, rfl⟩⟩, fun h0 => ?_⟩
  subst h0
  have : l = [] := List.eq_nil_of_length_eq_zero hl
  subst this
  refine Ret.wk (h2 := [.o (.row 5 1) []]) (r2 := .sl 0 1 0 0 0) (fun E hE => wk_virt 0 5 1 rfl) (Ret.same ⟨rfl, rfl⟩)
theorem shr8 (u : Nat) (h : u < 18446744073709551616) : Int.fdiv (u : Int) (2 ^ min 8 IntKind.u64.bits) = ((u / 256 : Nat) : Int) := by
  have e : (2 : Int) ^ min 8 IntKind.u64.bits = 256 := by decide
  rw [e, Int.fdiv_eq_ediv_of_nonneg _ (by decide)]; omega
set_option maxHeartbeats 4000000 in
theorem number_w (b : List UInt8) (hb : b.length ≤ 1000000000000) (n : Int) (h1 : -9223372036854775808 ≤ n) (h2 : n ≤ 9223372036854775807) : ACalls Tryd.prog 23 [.ptr 0 0 1, .c (.int .i64 n)] (wrO b) (fun k => decide (k < 2)) (fun r h' => r = .tup [] ∧ h' = wrO (b ++ num n)) := by
  refine acallsC [4] mixed Tryd.func23 rfl Tryd.ntmps23 rfl fun E hE hst hho => ?_
  simp (maxSteps := 1000000) [wrO, hho, noHo, -List.reduceReplicate]
  obtain ⟨U, hU⟩ : ∃ U, U = mag n := ⟨_, rfl⟩
  have hUl : U < 9223372036854775808 := by rw [hU]; exact mag_lt n h1 h2
  refine seq_cut mixed [] (fun _ : Unit => ⟨slotsOf 43 [(0, .ptr 0 0 1), (4, .c (.int .u8 (sig n : Nat))), (5, .c (.int .u64 (U : Nat)))], wrO b⟩) (fun _ => True) ?_ ?_
  rotate_left
  · by_cases hn : n < 0
    · have e1 := u64_of_neg n h1 hn
      have e2 : sig n = 128 := by unfold sig; rw [if_pos hn]
      have e3 : U = (-n - 1).toNat := by rw [hU]; unfold mag; rw [if_pos hn]
      simp (maxSteps := 1000000) [hho, hn, -List.reduceReplicate]
      refine cut_to () trivial (wk_eq (by simp [hE, lens, wrO]) (by simp [wrO]) ?_)
      simp [bits] at e1
      simp [livH, livO, AV.livL, AV.liv, wkL, wkV, List.range', slotsOf, e2, e3]
      rw [if_pos (show IntKind.i64.signed = true from rfl)]
      exact e1
    · have e1 := u64_of_nonneg n (by omega) h2
      have e2 : sig n = 0 := by unfold sig; rw [if_neg hn]
      have e3 : U = n.toNat := by rw [hU]; unfold mag; rw [if_neg hn]
      simp (maxSteps := 1000000) [hho, hn, e1, -List.reduceReplicate]
      exact cut_to () trivial (wk_eq (by simp [hE, lens, wrO]) (by simp [wrO]) (by simp [livH, livO, AV.livL, AV.liv, wkL, wkV, List.range', slotsOf, e2, e3]))
  rintro _ _
  simp (maxSteps := 1000000) [wrO, slotsOf, hho, -List.reduceReplicate]
  refine loop_k mixed (fun x : Nat × List UInt8 => ⟨slotsOf 43 [(0, .ptr 0 0 1), (4, .c (.int .u8 (sig n : Nat))), (5, .c (.int .u64 (x.1 : Nat))), (6, .sl 2 1 0 x.2.length x.2.length)], wrO b ++ [.o (.row 5 1) (u8av x.2)]⟩) (fun x => x.1) (fun x => x.1 ≤ U ∧ x.2 ++ digs x.1 = digs U) (U, []) (by simp) ?_ ?_
  · refine Wk.trans (wk_virt 6 5 1 rfl) ?_
    exact wk_eq (by simp [hE, lens, wrO]) (by simp [wrO]) (by simp [livH, livO, AV.livL, AV.liv, wkL, wkV, List.range', slotsOf])
  · rintro ⟨u, d⟩ ⟨hu, hd⟩
    simp only at hd hu
    by_cases h0 : u = 0
    · subst h0
      have hdU : d = digs U := by simpa [digs_zero] using hd
      have hl8 : (digs U).length ≤ 8 := digs_len8 U (by omega)
      simp (maxSteps := 1000000) [wrO, slotsOf, hho, -List.reduceReplicate]
      refine call_x [2] (reverse_bytes d d.length rfl (by rw [hdU]; omega)) rfl rfl ⟨rfl, rfl⟩ hho (by simp) (by decide) (by simp) (by simp) ?_
      simp (maxSteps := 1000000) [hho, -List.reduceReplicate]
      have hcl : List.take d.length (u8av d.reverse) = u8av d.reverse := List.take_of_length_le (by simp)
      have hdl : d.length ≤ 8 := by rw [hdU]; exact hl8
      rw [hcl]
      refine ⟨by omega, ⟨by omega, by simp⟩, ?_⟩
      have ho := or_head (sig n) d.length (by unfold sig; split <;> simp) hdl
      have hw8 : IntKind.u8.wrap (d.length : Int) = (d.length : Int) := IntWalk.u8_in _ (by omega)
      rw [hw8]
      simp [bits] at ho
      have hk : ((d.length : Int) % 2 ^ IntKind.u8.bits).toNat = d.length % 2 ^ IntKind.u8.bits := by
        have e : ((2 : Int) ^ IntKind.u8.bits) = ((2 ^ IntKind.u8.bits : Nat) : Int) := by simp
        rw [e, ← Int.natCast_emod, Int.toNat_natCast]
      simp only [hk, ho]
      have hnl : (num n).length = d.length + 1 := by rw [hdU, hU]; simp [num]
      have hnu : u8av (b ++ num n) = u8av b ++ AV.c (.int .u8 ((((sig n : Nat) : Int) + (d.length : Int)) % 256)) :: u8av d.reverse := by
        rw [u8av_app]; simp [num, u8av, u8, hdU, hU]
      rw [hnl, hnu, ← Nat.add_assoc, Nat.add_right_comm]
      refine Ret.sel [0, 1] (fun _ => false) (ho := by rfl) (ha := by rfl) ?_ ?_ (by decide) (by simp) (fun i _ h4 => match i, h4 with | 0, _ => rfl | 1, _ => rfl | i + 2, h => absurd (of_decide_eq_true h) (by omega)) ⟨?_, ?_⟩
      · simp [show ∀ v, isD (AV.c v) = true from fun _ => rfl]
      · trivial
      · rfl
      · rfl
    · have hl8 : (digs U).length ≤ 8 := digs_len8 U (by omega)
      have hdd : d.length + (digs u).length ≤ 8 := by rw [← hd] at hl8; simpa using hl8
      have hup : 0 < u := by omega
      have hw : IntKind.u64.wrap ((u / 256 : Nat) : Int) = ((u / 256 : Nat) : Int) := IntWalk.u64_in _ (by omega)
      have hs := shr8 u (by omega)
      rw [digs_pos hup] at hd hdd
      simp at hdd
      simp (maxSteps := 1000000) [wrO, slotsOf, hho, h0, hup, -List.reduceReplicate]
      refine ⟨by omega, ?_⟩
      refine round_next (u / 256, d ++ [UInt8.ofNat u]) ⟨by simp only; omega, by simpa using hd⟩ (by simp only; omega) ?_
      exact wk_of 3 1 (by simp) (by simp [hE, lens, wrO]) (by simp [u8av, u8, u8_wrap_nat]) (by simp [livH, livO, AV.livL, AV.liv, wkL, wkV, List.range']) (by simp [livH, livO, AV.livL, AV.liv, wkL, wkV, List.range', hs, hw])
theorem clone_row (l : List UInt8) (n : Nat) (hl : l.length = n) (hm : 0 < n) (hm2 : n ≤ 1000000000000) : ACalls Tryd.prog 50 [.sl 0 1 0 n n] [.o (.row 5 1) (u8av l)] (fun _ => true) (fun r h' => r = .sl 1 1 0 n n ∧ h' = [.o (.row 5 1) (u8av l), .o (.row 5 1) (u8av l)]) := by
  refine acalls mixed Tryd.func50 rfl Tryd.ntmps50 rfl fun E hE _ hho => ?_
  have hm0 : ¬ n = 0 := by omega
  have hcl : List.take n (u8av l) = u8av l := List.take_of_length_le (by simp [hl])
  simp (maxSteps := 1000000) [hho, noHo, hl, hm0, hcl, -List.reduceReplicate]
  exact ⟨by omega, Ret.same ⟨rfl, rfl⟩⟩
set_option maxHeartbeats 4000000 in
theorem bytes_w (b : List UInt8) (h0 : 0 < b.length) (hb : b.length ≤ 900000000000) : ACalls Tryd.prog 25 [.ptr 0 0 1] (wrO b) (fun k => decide (k < 2)) (fun r h' => r = .sl 2 1 0 b.length b.length ∧ h' = wrO b ++ [.o (.row 5 1) (u8av b)]) := by
  refine acalls mixed Tryd.func25 rfl Tryd.ntmps25 rfl fun E hE hst hho => ?_
  simp (maxSteps := 1000000) [wrO, hho, noHo, -List.reduceReplicate]
  refine call_x [1] (clone_row b b.length rfl h0 (by omega)) rfl rfl ⟨rfl, rfl⟩ hho (by simp) (by decide) (by simp) (by simp) ?_
  simp (maxSteps := 1000000) [hho, noHo, -List.reduceReplicate]
  exact Ret.same ⟨rfl, rfl⟩
end Go.Proofs.YtniifindnnfkaaaDoor
