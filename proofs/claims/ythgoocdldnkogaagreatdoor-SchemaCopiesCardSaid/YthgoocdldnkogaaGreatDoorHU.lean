import Derived.Test.YthgoocdldnkogaaGreatDoorHW
import Derived.Test.YthgoocdldnkogaaGreatDoorTy
import Derived.Test.YthgoocdldnkogaaGreatDoorHN
namespace Go.Proofs.YthgoocdldnkogaaGreatDoor
set_option linter.unusedVariables false
set_option linter.unusedSimpArgs false
open Go.RowKit
@[simp] theorem u8av_length (l : List UInt8) : (u8av l).length = l.length := by simp [u8av]
@[simp] theorem u8av_nil : u8av [] = [] := rfl
@[simp] theorem u8av_all (l : List UInt8) : (∀ x ∈ u8av l, isD x = true) ↔ True := iff_true_intro (by simp [u8av, isD])
@[simp] theorem u8av_cell (l : List UInt8) : (∀ x ∈ u8av l, isCell x = true) ↔ True := iff_true_intro (by simp [u8av, isCell_c, Value.oneCell', u8])
theorem u8av_app (l k : List UInt8) : u8av (l ++ k) = u8av l ++ u8av k := by simp [u8av]
theorem u8av_get (l : List UInt8) (k : Nat) (hk : k < l.length) : (u8av l)[k]? = some (.c (.int .u8 (l[k].toNat))) := by simp [u8av, hk, u8]
theorem u8av_getE (l : List UInt8) (k : Nat) (h : k < (u8av l).length) : (u8av l)[k] = .c (.int .u8 ((l[k]'(by simpa using h)).toNat)) := by simp [u8av, u8]
theorem u8av_set (l : List UInt8) (k : Nat) (hk : k < l.length) (b : UInt8) : List.take k (u8av l) ++ (AV.c (.int .u8 b.toNat)) :: List.drop (k + 1) (u8av l) = u8av (l.set k b) := by
 rw [List.set_eq_take_append_cons_drop, if_pos hk]
 simp [u8av, u8]
end Go.Proofs.YthgoocdldnkogaaGreatDoor
namespace Go.Proofs.YthgoocdldnkogaaGreatDoor
set_option linter.unusedVariables false
set_option linter.unusedSimpArgs false
open Go.RowKit
attribute [local simp] isCut_nil isCut_region isCut_seq isCut_block isCut_loop isCut_cond isCut_skip isCut_exit isCut_ret isCut_range swapK putK altK condK_bool pickP_bool stepP stepO onPure_some onPure_none onImpl_some onImpl_none stepC onGP_some onGP_none onGV_some condG mkG onIt_it nextP_ptr takeP_eq takeV_some takeV_none takeU_some takeU_none takeQ takeW_some takeN_none takeN_some takeG_some takeO_some altO_some pureV binV2 eqF eqOp ovlV ovl2 rowAt capV binV intBin strBin isSh shV fldV ixV sliceV slice3V loadAV nilV lenV callV unV convV viewS cellsH loadV fldCut AV.ung AV.ungs AV.gc AV.cells AS.ev AS.put anyS gcsV gcO lens lnO gV guardV retK RetP_eq resV oneV anyRo loIx hiIx implO callP_clo evL gcsL clearV storeAV AS.push AS.setO appV appZ shortS copyV buildV partsV fillV srcV fzO okV isCell_c isCell_ptr isCell_sl isCell_fs isCell_fp isCell_clo rowZ_one rowZ_zero rowZ_2 rowZ_3 rowZ_4 rowZ_5 rowZ_6 rowZ_7 rowZ_8 rowZ_9 rowZ_10 rowZ_11 rowZ_12 noHo Value.oneCell' max2V min2V lookV updV updK updW cvals mkAt basV lenM msAt afterH putBack frzFrom frzO rebO backIx nilEq_sl nilEq_fs nilEq_ifn nilEq_ifh ifOp_eql ifOp_neq isLit nilOp_eql nilOp_neq AV.reb AV.rebL
attribute [local simp ↓] runK_skip runK_region runK_draw runK_seq runK_cut runK_cond runK_block runK_loop runK_exit runK_label runK_goto runK_ret runK_range contK_nil contK_seq contK_seq_ret contK_seq_exit contK_seq_goto contK_block contK_block_ret contK_block_goto contK_block_exit runO_nil runO_cons roundK_exit roundK_ret roundK_goto exitK_ret cutK_ret cutK_exit runE_done runE_nil runE_take runE_alt condG_true condG_false
set_option maxRecDepth 10000
def RevI (l d : List UInt8) (i : Nat) : Prop := d.length = l.length ∧ ∀ m (hm : m < l.length) (hd : m < d.length), d[m] = if m < i ∨ l.length ≤ m + i then l[l.length - 1 - m] else l[m]
theorem RevI.step {l d : List UInt8} {i : Nat} (h : RevI l d i) (hi : i < l.length) (h2 : i < l.length - 1 - i) (h3 : l.length - 1 - i < d.length) (h4 : i < d.length) : RevI l ((d.set i d[l.length - 1 - i]).set (l.length - 1 - i) d[i]) (i + 1) := by
 refine ⟨by simp [h.1], fun m hm hd => ?_⟩
 have e1 := h.2 i hi h4
 have e2 := h.2 (l.length - 1 - i) (by omega) h3
 rw [if_neg (by omega)] at e1 e2
 rw [List.getElem_set]
 by_cases c1 : l.length - 1 - i = m
 ·subst c1
  rw [if_pos rfl, if_pos (by omega), e1]
  congr 1
  omega
 ·rw [if_neg c1, List.getElem_set]
  by_cases c2 : i = m
  ·subst c2
   rw [if_pos rfl, if_pos (by omega), e2]
  ·rw [if_neg c2, h.2 m hm (by rw [h.1]; exact hm)]
   by_cases c3 : m < i ∨ l.length ≤ m + i
   ·rw [if_pos c3, if_pos (by omega)]
   ·rw [if_neg c3, if_neg (by omega)]
theorem RevI.done {l d : List UInt8} {i : Nat} (h : RevI l d i) (hi : l.length ≤ 2 * i + 1) : d = l.reverse := by
 refine List.ext_getElem (by simp [h.1]) fun m h1 h2 => ?_
 rw [h.2 m (by rw [← h.1]; exact h1) h1, List.getElem_reverse]
 split
 ·rfl
 ·have e : m = l.length - 1 - m := by have := h.1; omega
  congr 1
theorem reverse_bytes (l : List UInt8) (n : Nat) (hn : n = l.length) (hl : n ≤ 1000000000000) : ACalls Tryz.prog 144 [.sl 0 1 0 n n] [.o (.row 5 1) (u8av l)] (fun k => decide (k < 1)) (fun r h' => r = .tup [] ∧ h' = [.o (.row 5 1) (u8av l.reverse)]) := by
 refine acalls mixed Tryz.func144 rfl Tryz.ntmps144 rfl fun E hE hst hho => ?_
 simp (maxSteps := 1000000) [hho, ← hn, -List.reduceReplicate]
 refine loop_k mixed (fun x : Nat × List UInt8 => ⟨slotsOf 28 [(0, .sl 0 1 0 n n), (2, .c (.int .i64 (x.1 : Int))), (3, .c (.int .i64 ((n : Int) - 1 - x.1)))], [.o (.row 5 1) (u8av x.2)]⟩) (fun x => n - x.1) (fun x => x.1 ≤ n ∧ RevI l x.2 x.1) (0, l) ⟨Nat.zero_le _, rfl, fun m hm hd => by rw [if_neg (by omega)]⟩ ?_ ?_
 ·have e : IntKind.i64.wrap ((n : Int) - 1) = (n : Int) - 1 := IntWalk.i64_in _ (by omega)
  exact wk_eq (by simp [hE, lens]) (by simp) (by simp [livH, livO, AV.livL, AV.liv, wkL, wkV, List.range', slotsOf, e])
 ·rintro ⟨i, d⟩ ⟨hi, hR⟩
  simp only at hi hR
  by_cases hlt : (i : Int) < (n : Int) - 1 - i
  ·obtain ⟨J, hJ⟩ : ∃ J, J = n - 1 - i := ⟨_, rfl⟩
   have hJe : (n : Int) - 1 - i = (J : Nat) := by omega
   have hdl := hR.1
   have hin : i < n := by omega
   have hJn : J < n := by omega
   have hid : i < d.length := by omega
   have hJd : J < d.length := by omega
   have e1 := u8av_get d i hid
   have e0 := u8av_get d J hJd
   have hs1 := u8av_set d i hid d[J]
   have hs2 := u8av_set (d.set i d[J]) J (by simpa using hJd) d[i]
   have ew1 : IntKind.i64.wrap ((i : Int) + 1) = (i + 1 : Nat) := by rw [IntWalk.i64_in _ (by omega)]; rfl
   have ew2 : IntKind.i64.wrap ((J : Int) - 1) = (n : Int) - 1 - (i + 1 : Nat) := by rw [IntWalk.i64_in _ (by omega)]; omega
   have hiJ : (i : Int) < (J : Nat) := by omega
   have hiJn : i < J := by omega
   have hdn : d.length = n := by omega
   rw [hJe]
   simp (maxSteps := 1000000) [slotsOf, hho, hiJ, hiJn, -List.reduceReplicate]
   refine draw_k hho (.take 0 (.take 1 (.take 2 (.take 3 (.take 4 (.take 5 (.take 6 (.take 7 (.take 8 (.take 9 (.take 10 (.take 11 (.take 12 (.alt 13 (.take 14 (.alt 15 (.done) (.nil))) (.nil))))))))))))))) [0] [(13, [0]), (15, [0])] (by decide +kernel) (by simp) ?_
   simp (maxSteps := 1000000) [hho, hdn, hin, hJn, e0, e1, u8av_getE, hs1, hs2, ew1, ew2, roOf, holdOf, wrOf, altK, heldOk, Region.binds, -List.reduceReplicate]
   refine ⟨by omega, by omega, fun _ => ⟨by omega, fun _ => ⟨by omega, ?_⟩⟩⟩
   have hst : RevI l ((d.set i d[J]).set J d[i]) (i + 1) := by
    obtain rfl : J = l.length - 1 - i := by omega
    exact hR.step (by omega) (by omega) hJd hid
   refine round_next (i + 1, (d.set i d[J]).set J d[i]) ⟨by simp only; omega, hst⟩ (by simp only; omega) ?_
   exact wk_eq (by simp [hE, lens]) (by simp) (by simp [livH, livO, AV.livL, AV.liv, wkL, wkV, List.range'])
  ·simp (maxSteps := 1000000) [slotsOf, hho, hlt, -List.reduceReplicate]
   exact Ret.same ⟨rfl, by rw [hR.done (by omega)]⟩
def wrO (b : List UInt8) : List AObj := [.o .box [.sl 1 1 0 b.length b.length], .o (.row 5 1) (u8av b)]
theorem clone_bytes (n : Nat) (l : List AV) (hl : l.length = n) (hn : n ≤ 1000000000000) (hc : ∀ x ∈ l, isCell x = true) : ACalls Tryz.prog 146 [.fs 1 n l] [] (fun _ => false) (fun r h' => r = .sl 0 1 0 n n ∧ h' = [.o (.row 5 1) l]) := by
 refine acalls mixed Tryz.func146 rfl Tryz.ntmps146 rfl fun E hE _ hho => ?_
 simp [hho, noHo, -List.reduceReplicate]
 refine ⟨⟨⟨by omega, hc⟩, Ret.same ⟨rfl, rfl⟩⟩, fun h0 => ?_⟩
 subst h0
 have : l = [] := List.eq_nil_of_length_eq_zero hl
 subst this
 refine Ret.wk (h2 := [.o (.row 5 1) []]) (r2 := .sl 0 1 0 0 0) (fun E hE => wk_virt 0 5 1 rfl) (Ret.same ⟨rfl, rfl⟩)
theorem shr8 (u : Nat) (h : u < 18446744073709551616) : Int.fdiv (u : Int) (2 ^ min 8 IntKind.u64.bits) = ((u / 256 : Nat) : Int) := by
 have e : (2 : Int) ^ min 8 IntKind.u64.bits = 256 := by decide
 rw [e, Int.fdiv_eq_ediv_of_nonneg _ (by decide)]; omega
set_option maxHeartbeats 4000000 in
theorem number_w (b : List UInt8) (hb : b.length ≤ 1000000000000) (n : Int) (h1 : -9223372036854775808 ≤ n) (h2 : n ≤ 9223372036854775807) : ACalls Tryz.prog 89 [.ptr 0 0 1, .c (.int .i64 n)] (wrO b) (fun k => decide (k < 2)) (fun r h' => r = .tup [] ∧ h' = wrO (b ++ num n)) := by
 refine acallsC [4] mixed Tryz.func89 rfl Tryz.ntmps89 rfl fun E hE hst hho => ?_
 simp (maxSteps := 1000000) [wrO, hho, noHo, -List.reduceReplicate]
 obtain ⟨U, hU⟩ : ∃ U, U = mag n := ⟨_, rfl⟩
 have hUl : U < 9223372036854775808 := by rw [hU]; exact mag_lt n h1 h2
 refine seq_cut mixed [] (fun _ : Unit => ⟨slotsOf 43 [(0, .ptr 0 0 1), (4, .c (.int .u8 (sig n : Nat))), (5, .c (.int .u64 (U : Nat)))], wrO b⟩) (fun _ => True) ?_ ?_
 rotate_left
 ·by_cases hn : n < 0
  ·have e1 := u64_of_neg n h1 hn
   have e2 : sig n = 128 := by unfold sig; rw [if_pos hn]
   have e3 : U = (-n - 1).toNat := by rw [hU]; unfold mag; rw [if_pos hn]
   simp (maxSteps := 1000000) [hho, hn, -List.reduceReplicate]
   refine cut_to () trivial (wk_eq (by simp [hE, lens, wrO]) (by simp [wrO]) ?_)
   simp [bits] at e1
   simp [livH, livO, AV.livL, AV.liv, wkL, wkV, List.range', slotsOf, e2, e3]
   rw [if_pos (show IntKind.i64.signed = true from rfl)]
   exact e1
  ·have e1 := u64_of_nonneg n (by omega) h2
   have e2 : sig n = 0 := by unfold sig; rw [if_neg hn]
   have e3 : U = n.toNat := by rw [hU]; unfold mag; rw [if_neg hn]
   simp (maxSteps := 1000000) [hho, hn, e1, -List.reduceReplicate]
   exact cut_to () trivial (wk_eq (by simp [hE, lens, wrO]) (by simp [wrO]) (by simp [livH, livO, AV.livL, AV.liv, wkL, wkV, List.range', slotsOf, e2, e3]))
 rintro _ _
 simp (maxSteps := 1000000) [wrO, slotsOf, hho, -List.reduceReplicate]
 refine loop_k mixed (fun x : Nat × List UInt8 => ⟨slotsOf 43 [(0, .ptr 0 0 1), (4, .c (.int .u8 (sig n : Nat))), (5, .c (.int .u64 (x.1 : Nat))), (6, .sl 2 1 0 x.2.length x.2.length)], wrO b ++ [.o (.row 5 1) (u8av x.2)]⟩) (fun x => x.1) (fun x => x.1 ≤ U ∧ x.2 ++ digs x.1 = digs U) (U, []) (by simp) ?_ ?_
 ·refine Wk.trans (wk_virt 6 5 1 rfl) ?_
  exact wk_eq (by simp [hE, lens, wrO]) (by simp [wrO]) (by simp [livH, livO, AV.livL, AV.liv, wkL, wkV, List.range', slotsOf])
 ·rintro ⟨u, d⟩ ⟨hu, hd⟩
  simp only at hd hu
  by_cases h0 : u = 0
  ·subst h0
   have hdU : d = digs U := by simpa [digs_zero] using hd
   have hl8 : (digs U).length ≤ 8 := digs_len8 U (by omega)
   simp (maxSteps := 1000000) [wrO, slotsOf, hho, -List.reduceReplicate]
   refine call_x [2] (reverse_bytes d d.length rfl (by rw [hdU]; omega)) rfl rfl ⟨rfl, rfl⟩ hho (by simp) (by decide) (by simp) (by simp) ?_
   simp (maxSteps := 1000000) [hho, -List.reduceReplicate]
   have hcl : List.take d.length (u8av d.reverse) = u8av d.reverse := List.take_of_length_le (by simp)
   have hdl : d.length ≤ 8 := by rw [hdU]; exact hl8
   rw [hcl]
   refine ⟨by omega, ⟨by omega, by simp⟩, ?_⟩
   have ho := or_head (sig n) d.length (by unfold sig; split <;> simp) hdl
   have hw8 : IntKind.u8.wrap (d.length : Int) = (d.length : Int) := IntWalk.u8_in _ (by omega)
   rw [hw8]
   simp [bits] at ho
   have hk : ((d.length : Int) % 2 ^ IntKind.u8.bits).toNat = d.length % 2 ^ IntKind.u8.bits := by
    have e : ((2 : Int) ^ IntKind.u8.bits) = ((2 ^ IntKind.u8.bits : Nat) : Int) := by simp
    rw [e, ← Int.natCast_emod, Int.toNat_natCast]
   simp only [hk, ho]
   have hnl : (num n).length = d.length + 1 := by rw [hdU, hU]; simp [num]
   have hnu : u8av (b ++ num n) = u8av b ++ AV.c (.int .u8 ((((sig n : Nat) : Int) + (d.length : Int)) % 256)) :: u8av d.reverse := by
    rw [u8av_app]; simp [num, u8av, u8, hdU, hU]
   rw [hnl, hnu, ← Nat.add_assoc, Nat.add_right_comm]
   refine Ret.sel [0, 1] (fun _ => false) (ho := by rfl) (ha := by rfl) ?_ ?_ (by decide) (by simp) (fun i _ h4 => match i, h4 with | 0, _ => rfl | 1, _ => rfl | i + 2, h => absurd (of_decide_eq_true h) (by omega)) ⟨?_, ?_⟩
   ·simp [show ∀ v, isD (AV.c v) = true from fun _ => rfl]
   ·trivial
   ·rfl
   ·rfl
  ·have hl8 : (digs U).length ≤ 8 := digs_len8 U (by omega)
   have hdd : d.length + (digs u).length ≤ 8 := by rw [← hd] at hl8; simpa using hl8
   have hup : 0 < u := by omega
   have hw : IntKind.u64.wrap ((u / 256 : Nat) : Int) = ((u / 256 : Nat) : Int) := IntWalk.u64_in _ (by omega)
   have hs := shr8 u (by omega)
   rw [digs_pos hup] at hd hdd
   simp at hdd
   simp (maxSteps := 1000000) [wrO, slotsOf, hho, h0, hup, -List.reduceReplicate]
   refine ⟨by omega, ?_⟩
   refine round_next (u / 256, d ++ [UInt8.ofNat u]) ⟨by simp only; omega, by simpa using hd⟩ (by simp only; omega) ?_
   exact wk_of 3 1 (by simp) (by simp [hE, lens, wrO]) (by simp [u8av, u8, u8_wrap_nat]) (by simp [livH, livO, AV.livL, AV.liv, wkL, wkV, List.range']) (by simp [livH, livO, AV.livL, AV.liv, wkL, wkV, List.range', hs, hw])
theorem clone_row (l : List UInt8) (n : Nat) (hl : l.length = n) (hm : 0 < n) (hm2 : n ≤ 1000000000000) : ACalls Tryz.prog 146 [.sl 0 1 0 n n] [.o (.row 5 1) (u8av l)] (fun _ => true) (fun r h' => r = .sl 1 1 0 n n ∧ h' = [.o (.row 5 1) (u8av l), .o (.row 5 1) (u8av l)]) := by
 refine acalls mixed Tryz.func146 rfl Tryz.ntmps146 rfl fun E hE _ hho => ?_
 have hm0 : ¬ n = 0 := by omega
 have hcl : List.take n (u8av l) = u8av l := List.take_of_length_le (by simp [hl])
 simp (maxSteps := 1000000) [hho, noHo, hl, hm0, hcl, -List.reduceReplicate]
 exact ⟨by omega, Ret.same ⟨rfl, rfl⟩⟩
set_option maxHeartbeats 4000000 in
theorem bytes_w (b : List UInt8) (h0 : 0 < b.length) (hb : b.length ≤ 900000000000) : ACalls Tryz.prog 99 [.ptr 0 0 1] (wrO b) (fun k => decide (k < 2)) (fun r h' => r = .sl 2 1 0 b.length b.length ∧ h' = wrO b ++ [.o (.row 5 1) (u8av b)]) := by
 refine acalls mixed Tryz.func99 rfl Tryz.ntmps99 rfl fun E hE hst hho => ?_
 simp (maxSteps := 1000000) [wrO, hho, noHo, -List.reduceReplicate]
 refine call_x [1] (clone_row b b.length rfl h0 (by omega)) rfl rfl ⟨rfl, rfl⟩ hho (by simp) (by decide) (by simp) (by simp) ?_
 simp (maxSteps := 1000000) [hho, noHo, -List.reduceReplicate]
 exact Ret.same ⟨rfl, rfl⟩


theorem u8av_cons (x : UInt8) (t : List UInt8) : u8av (x :: t) = AV.c (.int .u8 x.toNat) :: u8av t := by simp [u8av, u8]
theorem u8av_at1 (l : List UInt8) (k : Nat) (hk : k < l.length) : List.take 1 (List.drop k (u8av l)) = [AV.c (.int .u8 l[k].toNat)] := by
 rw [List.drop_eq_getElem_cons (by simpa using hk), List.take_succ_cons, List.take_zero, u8av_getE]

def str (l : List UInt8) : ByteArray := ⟨l.toArray⟩
theorem str_size (a : List UInt8) : (str a).size = a.length := by simp [str, ByteArray.size]
theorem bytesOf_str (l : List UInt8) : bytesOf (u8av l) = str l := by
 unfold bytesOf str u8av
 congr 1
 rw [List.map_map]
 congr 1
 conv => rhs; rw [← List.map_id l]
 apply List.map_congr_left
 intro x _
 simp [u8of, u8]
@[simp] theorem u8av_u8 (l : List UInt8) : (∀ x ∈ u8av l, isU8 x = true) ↔ True := iff_true_intro <| by
 intro x hx
 simp [u8av] at hx
 obtain ⟨b, _, rfl⟩ := hx
 have := b.toNat_lt
 simp [isU8, u8]
 omega
theorem rnumS_len {s : Option (List UInt8)} {m : Nat} (h : ∀ l, s = some l → l.length ≤ m) : ∀ l, (rnumS s).2 = some l → l.length ≤ m := by
 intro l hl
 rcases s with _ | b
 ·cases hl
 ·have hb := h b rfl
  rcases b with _ | ⟨x, t⟩
  ·cases hl
  ·by_cases h8 : 8 < x.toNat % 128
   ·simp [rnumS, rnum, h8] at hl
   ·rw [rnumS_cons x t _ rfl h8] at hl
    simp only [List.length_cons] at hb
    split at hl
    ·cases hl
    ·split at hl
     ·cases hl
     ·simp only [Option.some.injEq] at hl
      rw [← hl, List.length_drop]; omega

theorem u8av_take (l : List UInt8) (n : Nat) : u8av (l.take n) = (u8av l).take n := by simp [u8av, List.map_take]
theorem u8av_drop (l : List UInt8) (n : Nat) : u8av (l.drop n) = (u8av l).drop n := by simp [u8av, List.map_drop]
def rdS : Option (List UInt8) → List AObj
 | some l => [.o .box [.fs 1 l.length (u8av l), .c (.bool false)]]
 | none => [.o .box [.c (.slice none 0 0), .c (.bool true)]]
theorem ok_r (s : Option (List UInt8)) : ACalls Tryz.prog 149 [.ptr 0 0 2] (rdS s) (fun k => decide (k < 1)) (fun r h' => r = .c (.bool s.isSome) ∧ h' = rdS s) := by
 refine acalls mixed Tryz.func149 rfl Tryz.ntmps149 rfl fun E hE hst hho => ?_
 cases s <;> simp (maxSteps := 1000000) [rdS, hho, noHo, -List.reduceReplicate] <;> exact Ret.same ⟨rfl, rfl⟩
theorem fail_r (s : Option (List UInt8)) : ACalls Tryz.prog 148 [.ptr 0 0 2] (rdS s) (fun k => decide (k < 1)) (fun r h' => r = .tup [] ∧ h' = rdS none) := by
 refine acalls mixed Tryz.func148 rfl Tryz.ntmps148 rfl fun E hE hst hho => ?_
 cases s <;> simp (maxSteps := 1000000) [rdS, hho, noHo, -List.reduceReplicate] <;> exact Ret.same ⟨rfl, rfl⟩
theorem end_r (s : Option (List UInt8)) : ACalls Tryz.prog 104 [.ptr 0 0 2] (rdS s) (fun k => decide (k < 1)) (fun r h' => r = .c (.bool (decide (s = some []))) ∧ h' = rdS s) := by
 refine acalls mixed Tryz.func104 rfl Tryz.ntmps104 rfl fun E hE hst hho => ?_
 have hok := ok_r s
 cases s with
 | none =>
  simp (maxSteps := 1000000) [rdS, hho, noHo, -List.reduceReplicate]
  refine call_x [0] hok rfl rfl ⟨rfl, rfl⟩ hho (by simp) (by decide) (by simp) (by simp [rdS]) ?_
  simp (maxSteps := 1000000) [rdS, hho, noHo, undef, onGP_none, condG_false, -List.reduceReplicate]
  exact Ret.same ⟨rfl, rfl⟩
 | some l =>
  simp (maxSteps := 1000000) [rdS, hho, noHo, -List.reduceReplicate]
  refine call_x [0] hok rfl rfl ⟨rfl, rfl⟩ hho (by simp) (by decide) (by simp) (by simp [rdS]) ?_
  have e : decide (some l = some []) = decide (l.length = 0) := by
   cases l <;> simp
  simp (maxSteps := 1000000) [rdS, hho, noHo, undef, onGP_none, condG_false, -List.reduceReplicate]
  exact Ret.same ⟨by cases l <;> simp, rfl⟩
theorem take_r (l : List UInt8) (hl : l.length ≤ 1000000000) (n : Nat) (hn : n ≤ l.length) : ACalls Tryz.prog 147 [.ptr 0 0 2, .c (.int .i64 (n : Nat))] (rdS (some l)) (fun k => decide (k < 1)) (fun r h' => r = .tup [.fs 1 n (u8av (l.take n)), .c (.bool true)] ∧ h' = rdS (some (l.drop n))) := by
 refine acalls mixed Tryz.func147 rfl Tryz.ntmps147 rfl fun E hE hst hho => ?_
 have hc1 : ¬ l.length < n := by omega
 have hc2 : ¬ (n : Int) < 0 := by omega
 simp (maxSteps := 1000000) [rdS, hho, noHo, hc1, hc2, hn, u8av_take, u8av_drop, -List.reduceReplicate]
 have e : List.take (l.length - n) (List.drop n (u8av l)) = List.drop n (u8av l) := List.take_of_length_le (by simp)
 rw [e]
 exact Ret.same ⟨rfl, rfl⟩
theorem take_r_bad (l : List UInt8) (hl : l.length ≤ 1000000000) (n : Int) (hn : n < 0 ∨ (l.length : Int) < n) : ACalls Tryz.prog 147 [.ptr 0 0 2, .c (.int .i64 n)] (rdS (some l)) (fun k => decide (k < 1)) (fun r h' => r = .tup [.c (.slice none 0 0), .c (.bool false)] ∧ h' = rdS none) := by
 refine acalls mixed Tryz.func147 rfl Tryz.ntmps147 rfl fun E hE hst hho => ?_
 have hf := fail_r (some l)
 by_cases h0 : n < 0
 ·simp (maxSteps := 1000000) [rdS, hho, noHo, h0, undef, onGP_none, condG_false, -List.reduceReplicate]
  refine call_x [0] hf rfl rfl ⟨rfl, rfl⟩ hho (by simp) (by decide) (by simp) (by simp [rdS]) ?_
  simp (maxSteps := 1000000) [rdS, hho, -List.reduceReplicate]
  exact Ret.same ⟨rfl, rfl⟩
 ·have h1 : (l.length : Int) < n := by omega
  simp (maxSteps := 1000000) [rdS, hho, noHo, h0, h1, undef, onGP_none, condG_false, -List.reduceReplicate]
  refine call_x [0] hf rfl rfl ⟨rfl, rfl⟩ hho (by simp) (by decide) (by simp) (by simp [rdS]) ?_
  simp (maxSteps := 1000000) [rdS, hho, -List.reduceReplicate]
  exact Ret.same ⟨rfl, rfl⟩
theorem take_r_none (n : Int) : ACalls Tryz.prog 147 [.ptr 0 0 2, .c (.int .i64 n)] (rdS none) (fun k => decide (k < 1)) (fun r h' => r = .tup [.c (.slice none 0 0), .c (.bool false)] ∧ h' = rdS none) := by
 refine acalls mixed Tryz.func147 rfl Tryz.ntmps147 rfl fun E hE hst hho => ?_
 have hf := fail_r none
 simp (maxSteps := 1000000) [rdS, hho, noHo, undef, onGP_none, condG_false, -List.reduceReplicate]
 refine call_x [0] hf rfl rfl ⟨rfl, rfl⟩ hho (by simp) (by decide) (by simp) (by simp [rdS]) ?_
 simp (maxSteps := 1000000) [rdS, hho, -List.reduceReplicate]
 exact Ret.same ⟨rfl, rfl⟩

theorem or_step (v d : Nat) (hd : d < 256) (hv : v * 256 + d < 9223372036854775808) : IntKind.i64.wrap ↑((IntKind.i64.wrap ((v : Int) * 2 ^ min 8 IntKind.i64.bits) % 2 ^ IntKind.i64.bits).toNat ||| (IntKind.i64.wrap (d : Int) % 2 ^ IntKind.i64.bits).toNat) = ((v * 256 + d : Nat) : Int) := by
 have e : (2 : Int) ^ min 8 IntKind.i64.bits = 256 := by decide
 have e2 : (2 : Int) ^ IntKind.i64.bits = 18446744073709551616 := by decide
 rw [e, e2, IntWalk.i64_in ((v : Int) * 256) (by omega), IntWalk.i64_in (d : Int) (by omega)]
 have a1 : (((v : Int) * 256) % 18446744073709551616).toNat = v * 256 := by omega
 have a2 : ((d : Int) % 18446744073709551616).toNat = d := by omega
 have a3 : v * 256 ||| d = v * 256 + d := by
  have := Nat.shiftLeft_add_eq_or_of_lt (i := 8) (b := d) (by omega) v
  rw [Nat.shiftLeft_eq, show (2:Nat)^8 = 256 from rfl] at this
  omega
 rw [a1, a2, a3]
 exact IntWalk.i64_in _ (by omega)
theorem rdS_some (l : List UInt8) : rdS (some l) = [.o .box [.fs 1 l.length (u8av l), .c (.bool false)]] := rfl
theorem rdS_none : rdS none = [.o .box [.c (.slice none 0 0), .c (.bool true)]] := rfl
set_option maxHeartbeats 8000000 in
theorem number_r (s : Option (List UInt8)) (hs : ∀ l, s = some l → l.length ≤ 1000000000) : ACalls Tryz.prog 101 [.ptr 0 0 2] (rdS s) (fun k => decide (k < 1)) (fun r h' => r = .c (.int .i64 (rnumS s).1) ∧ h' = rdS (rnumS s).2) := by
 refine acallsC [12] mixed Tryz.func101 rfl Tryz.ntmps101 rfl fun E hE hst hho => ?_
 cases s with
 | none =>
  have ht := take_r_none 1
  simp (maxSteps := 1000000) [rdS_some, rdS_none, hho, noHo, -List.reduceReplicate]
  refine call_x [0] ht rfl rfl ⟨rfl, rfl⟩ hho (by simp) (by decide) (by simp) (by simp [rdS]) ?_
  simp (maxSteps := 1000000) [rdS_some, rdS_none, hho, -List.reduceReplicate]
  exact Ret.same ⟨rfl, rfl⟩
 | some b =>
 have hbl := hs b rfl
 rcases b with _ | ⟨h, t⟩
 ·have ht := take_r_bad [] (by simp) 1 (by simp)
  simp (maxSteps := 1000000) [rdS_some, rdS_none, hho, noHo, -List.reduceReplicate]
  refine call_x [0] ht rfl rfl ⟨rfl, rfl⟩ hho (by simp) (by decide) (by simp) (by simp [rdS]) ?_
  simp (maxSteps := 1000000) [rdS_some, rdS_none, hho, -List.reduceReplicate]
  exact Ret.same ⟨rfl, rfl⟩
 have htl : t.length ≤ 1000000000 := by simp at hbl; omega
 have ht := take_r (h :: t) hbl 1 (by simp)
 rw [show (h :: t).take 1 = [h] from rfl, show (h :: t).drop 1 = t from rfl] at ht
 obtain ⟨n, hn⟩ : ∃ n, n = h.toNat % 128 := ⟨_, rfl⟩
 have h256 := h.toNat_lt
 obtain ⟨K, hK⟩ : ∃ K, K = h.toNat % 16 := ⟨_, rfl⟩
 obtain ⟨M, hM⟩ : ∃ M, M = h.toNat % 128 / 16 * 16 := ⟨_, rfl⟩
 have e15 := and15 h
 have e143 := andNot143 h
 rw [← hK] at e15
 rw [← hM] at e143
 simp [bits] at e15 e143
 have hf := fail_r (some t)
 simp (maxSteps := 1000000) [rdS_some, rdS_none, hho, noHo, -List.reduceReplicate]
 refine call_x [0] ht rfl rfl ⟨rfl, rfl⟩ hho (by simp) (by decide) (by simp) (by simp [rdS]) ?_
 by_cases h16 : 16 ≤ n
 ·have hr : rnumS (some (h :: t)) = (0, none) := by simp [rnumS, rnum, ← hn, show 8 < n by omega]
  have hz : ¬ M = 0 := by omega
  rw [hr]
  simp (maxSteps := 1000000) [rdS_some, rdS_none, hho, noHo, u8av_cons, e15, e143, hz, undef, onGP_none, condG_false, -List.reduceReplicate]
  refine call_x [0] hf rfl rfl ⟨rfl, rfl⟩ hho (by simp) (by decide) (by simp) (by simp [rdS]) ?_
  simp (maxSteps := 1000000) [rdS_some, rdS_none, hho, -List.reduceReplicate]
  exact Ret.same ⟨rfl, rfl⟩
 ·have hz : M = 0 := by omega
  obtain rfl : K = n := by omega
  have ewn : IntKind.i64.wrap (K : Int) = (K : Int) := IntWalk.i64_in _ (by omega)
  rw [hz] at e143
  simp at e143
  by_cases h8 : 8 < K
  ·have h8' : (8 : Int) < K := by omega
   have hr : rnumS (some (h :: t)) = (0, none) := by simp [rnumS, rnum, ← hn, h8]
   rw [hr]
   simp (maxSteps := 1000000) [rdS_some, rdS_none, hho, noHo, u8av_cons, e15, e143, ewn, h8', undef, onGP_none, condG_false, -List.reduceReplicate]
   refine call_x [0] hf rfl rfl ⟨rfl, rfl⟩ hho (by simp) (by decide) (by simp) (by simp [rdS]) ?_
   simp (maxSteps := 1000000) [rdS_some, rdS_none, hho, -List.reduceReplicate]
   exact Ret.same ⟨rfl, rfl⟩
  ·have h8' : ¬ (8 : Int) < K := by omega
   have Hr := rnumS_cons h t K hn h8
   simp (maxSteps := 1000000) [rdS_some, rdS_none, hho, noHo, u8av_cons, e15, e143, ewn, h8', undef, onGP_none, condG_false, -List.reduceReplicate]
   by_cases hfar : t.length < K
   ·have htb := take_r_bad t htl K (.inr (by omega))
    have hfn := fail_r none
    rw [if_pos hfar] at Hr
    rw [Hr]
    refine call_x [0] htb rfl rfl ⟨rfl, rfl⟩ hho (by simp) (by decide) (by simp) (by simp [rdS]) ?_
    simp (maxSteps := 1000000) [rdS_some, rdS_none, hho, undef, onGP_none, condG_false, -List.reduceReplicate]
    refine seq_cut mixed [] (fun _ : Unit => ⟨slotsOf 83 [], []⟩) (fun _ => False) (fun _ h => h.elim) ?_
    simp (maxSteps := 1000000) [rdS_some, rdS_none, hho, undef, onGP_none, condG_false, -List.reduceReplicate]
    refine call_x [0] hfn rfl rfl ⟨rfl, rfl⟩ hho (by simp) (by decide) (by simp) (by simp [rdS]) ?_
    simp (maxSteps := 1000000) [rdS_some, rdS_none, hho, -List.reduceReplicate]
    exact Ret.same ⟨rfl, rfl⟩
   ·have htg := take_r t htl K (by omega)
    rw [if_neg hfar] at Hr
    have hdl : (t.take K).length = K := by rw [List.length_take]; omega
    obtain ⟨ds, hds⟩ : ∃ ds, ds = t.take K := ⟨_, rfl⟩
    obtain ⟨re, hre⟩ : ∃ re, re = t.drop K := ⟨_, rfl⟩
    rw [← hds, ← hre] at Hr htg
    rw [← hds] at hdl
    refine call_x [0] htg rfl rfl ⟨rfl, rfl⟩ hho (by simp) (by decide) (by simp) (by simp [rdS]) ?_
    simp (maxSteps := 1000000) [rdS_some, rdS_none, hho, undef, onGP_none, condG_false, -List.reduceReplicate]
    refine seq_cut mixed [] (fun _ : Unit => ⟨slotsOf 83 [(3, .fs 1 1 [.c (.int .u8 h.toNat)]), (6, .fs 1 K (u8av ds))], rdS (some re)⟩) (fun _ => badLead ds = false) ?_ ?_
    ·rintro _ hb
     have hsm : ∀ k, be (ds.take k) < 9223372036854775808 := be_small ds (by omega) fun d l e1 e2 => by
      rw [e1] at hb
      simp only [badLead, List.head?_cons, Option.any_some, Bool.or_eq_false_iff, Bool.and_eq_false_iff] at hb
      rcases hb.2 with h9 | h9
      ·rw [e1] at e2; simp [e2] at h9
      ·simp [UInt8.le_iff_toNat_le] at h9; omega
     rw [hb, if_neg (by decide)] at Hr
     rw [Hr]
     simp (maxSteps := 1000000) [slotsOf, rdS_some, rdS_none, hho, -List.reduceReplicate]
     refine loop_k mixed (fun k : Nat => ⟨slotsOf 83 [(3, .fs 1 1 [.c (.int .u8 h.toNat)]), (7, .c (.int .i64 (be (ds.take k) : Nat))), (63, .fs 1 K (u8av ds)), (64, .c (.int .i64 K)), (65, .c (.int .i64 (k : Nat)))], rdS (some re)⟩) (fun k => K - k) (fun k => k ≤ K) 0 (Nat.zero_le _) ?_ ?_
     ·exact wk_eq (by simp [hE, lens, rdS_some]) (by simp [rdS_some]) (by simp [livH, livO, AV.livL, AV.liv, wkL, wkV, List.range', slotsOf, be])
     ·intro k hk
      by_cases hkn : k < K
      ·have hat := u8av_at1 ds k (by omega)
       have hst := be_step ds k (by omega)
       have hsm1 := hsm (k + 1)
       have hd256 := ds[k].toNat_lt
       rw [hst] at hsm1
       have hor := or_step (be (ds.take k)) ds[k].toNat (by omega) (by omega)
       rw [← hst] at hor
       have ew : IntKind.i64.wrap ((k : Int) + 1) = (k + 1 : Nat) := by rw [IntWalk.i64_in _ (by omega)]; rfl
       simp (maxSteps := 1000000) [slotsOf, rdS_some, hho, hkn, hat, ew, hor, -List.reduceReplicate]
       refine round_next (k + 1) (by omega) (by omega) ?_
       exact wk_eq (by simp [hE, lens, rdS_some]) (by simp [rdS_some]) (by simp [livH, livO, AV.livL, AV.liv, wkL, wkV, List.range', slotsOf])
      ·obtain rfl : k = K := by omega
       have htk : ds.take k = ds := List.take_of_length_le (by omega)
       have hv := hsm ds.length
       rw [List.take_length] at hv
       rw [htk]
       have e128 := and128 h
       by_cases hs : 128 ≤ h.toNat
       ·rw [if_pos hs] at e128 ⊢
        simp [bits] at e128
        have en := not_i64 (be ds) (by omega) (by omega)
        simp [bits] at en
        simp (maxSteps := 1000000) [slotsOf, rdS_some, hho, e128, -List.reduceReplicate]
        refine Ret.same ⟨?_, rfl⟩
        rw [if_pos (show IntKind.i64.signed = true from rfl), en]
       ·rw [if_neg hs] at e128 ⊢
        simp [bits] at e128
        simp (maxSteps := 1000000) [slotsOf, rdS_some, hho, e128, -List.reduceReplicate]
        exact Ret.same ⟨rfl, rfl⟩
    ·have hf2 := fail_r (some re)
     by_cases hK0 : K = 0
     ·have hds0 : ds = [] := List.eq_nil_of_length_eq_zero (by omega)
      have hK0' : ¬ 0 < K := by omega
      have hK8 : ¬ (K : Int) = 8 := by omega
      subst hds0
      simp (maxSteps := 1000000) [rdS_some, rdS_none, hho, undef, onGP_none, condG_false, hK0', hK8, -List.reduceReplicate]
      exact cut_to () (by simp [badLead]) (wk_eq (by simp [hE, lens, rdS_some]) (by simp [rdS_some]) (by simp [livH, livO, AV.livL, AV.liv, wkL, wkV, List.range', slotsOf]))
     ·have hKp : 0 < K := by omega
      rcases ds with _ | ⟨d0, dt⟩
      ·simp at hdl; omega
      have hd256 := d0.toNat_lt
      by_cases hz : d0 = 0
      ·have hbd : badLead (d0 :: dt) = true := by simp [badLead, hz]
       have hz' : d0.toNat = 0 := by rw [hz]; rfl
       rw [Hr, if_pos hbd]
       simp (maxSteps := 1000000) [rdS_some, rdS_none, hho, u8av_cons, undef, onGP_none, condG_false, hKp, hz', -List.reduceReplicate]
       refine call_x [0] hf2 rfl rfl ⟨rfl, rfl⟩ hho (by simp) (by decide) (by simp) (by simp [rdS]) ?_
       simp (maxSteps := 1000000) [rdS_some, rdS_none, hho, -List.reduceReplicate]
       exact Ret.same ⟨rfl, rfl⟩
      ·have hz' : ¬ d0.toNat = 0 := fun e => hz (UInt8.toNat_inj.1 (by simpa using e))
       by_cases hK8 : (K : Int) = 8
       ·have hK8' : ((K : Int) = 8) = True := eq_true hK8
        by_cases hd : (128 : Int) ≤ d0.toNat
        ·have hbd : badLead (d0 :: dt) = true := by
          simp [badLead, UInt8.le_iff_toNat_le]
          right
          simp at hdl
          omega
         rw [Hr, if_pos hbd]
         simp (maxSteps := 1000000) [rdS_some, rdS_none, hho, u8av_cons, undef, onGP_none, condG_false, hKp, hz', hK8', hd, -List.reduceReplicate]
         refine call_x [0] hf2 rfl rfl ⟨rfl, rfl⟩ hho (by simp) (by decide) (by simp) (by simp [rdS]) ?_
         simp (maxSteps := 1000000) [rdS_some, rdS_none, hho, -List.reduceReplicate]
         exact Ret.same ⟨rfl, rfl⟩
        ·have hbd : badLead (d0 :: dt) = false := badLead_no hz fun e => by omega
         simp (maxSteps := 1000000) [rdS_some, rdS_none, hho, u8av_cons, undef, onGP_none, condG_false, hKp, hz', hK8', hd, -List.reduceReplicate]
         exact cut_to () hbd (wk_eq (by simp [hE, lens, rdS_some]) (by simp [rdS_some]) (by simp [livH, livO, AV.livL, AV.liv, wkL, wkV, List.range', slotsOf, u8av_cons]))
       ·have hbd : badLead (d0 :: dt) = false := badLead_no hz fun e => by omega
        simp (maxSteps := 1000000) [rdS_some, rdS_none, hho, u8av_cons, undef, onGP_none, condG_false, hKp, hz', hK8, -List.reduceReplicate]
        exact cut_to () hbd (wk_eq (by simp [hE, lens, rdS_some]) (by simp [rdS_some]) (by simp [livH, livO, AV.livL, AV.liv, wkL, wkV, List.range', slotsOf, u8av_cons]))

theorem count_r (s : Option (List UInt8)) (hs : ∀ l, s = some l → l.length ≤ 1000000000) (most : Int) : ACalls Tryz.prog 115 [.ptr 0 0 2, .c (.int .i64 most)] (rdS s) (fun k => decide (k < 1)) (fun r h' => r = .c (.int .i64 (rcountS s most).1) ∧ h' = rdS (rcountS s most).2) := by
 refine acalls mixed Tryz.func115 rfl Tryz.ntmps115 rfl fun E hE hst hho => ?_
 have hn := number_r s hs
 unfold rcountS
 obtain ⟨v, hv⟩ : ∃ v, v = rnumS s := ⟨_, rfl⟩
 rw [← hv] at hn ⊢
 obtain ⟨n, s2⟩ := v
 simp only at hn ⊢
 have hf := fail_r s2
 clear hv hs
 by_cases h2 : n < 0
 ·rw [if_pos (.inl h2)]
  rcases s with _ | l <;> rcases s2 with _ | l2 <;>
  ·simp (maxSteps := 1000000) [rdS_none, rdS_some, hho, noHo, -List.reduceReplicate]
   refine call_x [0] hn rfl rfl ⟨rfl, rfl⟩ hho (by simp) (by decide) (by simp) (by simp [rdS]) ?_
   simp (maxSteps := 1000000) [rdS_some, rdS_none, hho, noHo, h2, undef, onGP_none, condG_false, -List.reduceReplicate]
   refine call_x [0] hf rfl rfl ⟨rfl, rfl⟩ hho (by simp) (by decide) (by simp) (by simp [rdS]) ?_
   simp (maxSteps := 1000000) [rdS_some, rdS_none, hho, -List.reduceReplicate]
   exact Ret.same ⟨rfl, rfl⟩
 ·by_cases h3 : most < n
  ·rw [if_pos (.inr h3)]
   rcases s with _ | l <;> rcases s2 with _ | l2 <;>
   ·simp (maxSteps := 1000000) [rdS_none, rdS_some, hho, noHo, -List.reduceReplicate]
    refine call_x [0] hn rfl rfl ⟨rfl, rfl⟩ hho (by simp) (by decide) (by simp) (by simp [rdS]) ?_
    simp (maxSteps := 1000000) [rdS_some, rdS_none, hho, noHo, h2, h3, undef, onGP_none, condG_false, -List.reduceReplicate]
    refine call_x [0] hf rfl rfl ⟨rfl, rfl⟩ hho (by simp) (by decide) (by simp) (by simp [rdS]) ?_
    simp (maxSteps := 1000000) [rdS_some, rdS_none, hho, -List.reduceReplicate]
    exact Ret.same ⟨rfl, rfl⟩
  ·rw [if_neg (fun h => h.elim h2 h3)]
   rcases s with _ | l <;> rcases s2 with _ | l2 <;>
   ·simp (maxSteps := 1000000) [rdS_none, rdS_some, hho, noHo, -List.reduceReplicate]
    refine call_x [0] hn rfl rfl ⟨rfl, rfl⟩ hho (by simp) (by decide) (by simp) (by simp [rdS]) ?_
    simp (maxSteps := 1000000) [rdS_some, rdS_none, hho, noHo, h2, h3, undef, onGP_none, condG_false, -List.reduceReplicate]
    exact Ret.same ⟨rfl, rfl⟩
theorem read_r (l : List UInt8) (hl : l.length ≤ 1000000000) : ACalls Tryz.prog 100 [.fs 1 l.length (u8av l)] [] (fun _ => false) (fun r h' => r = .ptr 0 0 2 ∧ h' = rdS (some l)) := by
 refine acalls mixed Tryz.func100 rfl Tryz.ntmps100 rfl fun E hE hst hho => ?_
 simp (maxSteps := 1000000) [hho, noHo, -List.reduceReplicate]
 refine call_x [] (clone_bytes l.length (u8av l) (by simp) (by omega) ((u8av_cell l).2 trivial)) rfl rfl ⟨rfl, rfl⟩ hho (by simp) (by decide) (by simp) (by simp) ?_
 simp (maxSteps := 1000000) [hho, noHo, -List.reduceReplicate]
 refine Ret.sel [1] (fun k => k == 0) (ho := by rfl) (ha := by rfl) ?_ ?_ (by decide) (by simp) (by simp) ⟨rfl, ?_⟩
 ·simp
  exact ⟨by unfold maxLen; omega, fun x hx => (u8av_all l).2 trivial x (List.mem_of_mem_take hx)⟩
 ·simp
 ·rw [rdS_some]
  simp [List.take_of_length_le]
end Go.Proofs.YthgoocdldnkogaaGreatDoor
