import Derived.Test.YtjgdlocgoiinbaaGreatDoorHQb
namespace Go.Proofs.YtjgdlocgoiinbaaGreatDoor
set_option linter.unusedVariables false
set_option linter.unusedSimpArgs false
open Go.RowKit Go.Lib
attribute [local simp] isCut_nil isCut_region isCut_seq isCut_block isCut_loop isCut_cond isCut_skip isCut_exit isCut_ret isCut_range swapK putK altK condK_bool pickP_bool stepP stepO onPure_some onPure_none onImpl_some onImpl_none stepC onGP_some onGP_none onGV_some condG mkG onIt_it nextP_ptr takeP_eq takeV_some takeV_none takeU_some takeU_none takeQ takeW_some takeN_none takeN_some takeG_some takeO_some altO_some pureV binV2 eqF eqOp ovlV ovl2 rowAt capV binV intBin strBin isSh shV fldV ixV sliceV slice3V loadAV nilV lenV callV unV convV viewS cellsH loadV fldCut AV.ung AV.ungs AV.gc AV.cells AS.ev AS.put anyS gcsV gcO lens lnO gV guardV retK RetP_eq resV oneV anyRo loIx hiIx implO callP_clo evL gcsL clearV storeAV AS.push AS.setO appV appZ shortS copyV buildV partsV fillV srcV fzO okV isCell_c isCell_ptr isCell_sl isCell_fs isCell_fp isCell_clo rowZ_one rowZ_zero rowZ_2 rowZ_3 rowZ_4 rowZ_5 rowZ_6 rowZ_7 rowZ_8 rowZ_9 rowZ_10 rowZ_11 rowZ_12 noHo Value.oneCell' max2V min2V lookV updV lenM msAt afterH putBack frzFrom frzO rebO backIx nilEq_sl nilEq_fs nilEq_ifn nilEq_ifh ifOp_eql ifOp_neq isLit nilOp_eql nilOp_neq AV.reb AV.rebL
attribute [local simp ↓] runK_skip runK_region runK_draw runK_seq runK_cut runK_cond runK_block runK_loop runK_exit runK_label runK_goto runK_ret runK_range contK_nil contK_seq contK_seq_ret contK_seq_exit contK_seq_goto contK_block contK_block_ret contK_block_goto contK_block_exit runO_nil runO_cons roundK_exit roundK_ret roundK_goto exitK_ret cutK_ret cutK_exit runE_done runE_nil runE_take runE_alt condG_true condG_false
set_option maxRecDepth 10000
theorem bytesOf_ba (l : List UInt8) : bytesOf (u8av l) = baL l := by
  unfold bytesOf baL u8av
  congr 1
  rw [List.map_map]
  congr 1
  conv => rhs; rw [← List.map_id l]
  apply List.map_congr_left
  intro x _
  simp [u8of, u8]
@[simp] theorem u8av_isU (l : List UInt8) : (∀ x ∈ u8av l, isU8 x = true) ↔ True := iff_true_intro <| by
  intro x hx
  simp [u8av] at hx
  obtain ⟨b, _, rfl⟩ := hx
  have := b.toNat_lt
  simp [isU8, u8]
  omega
@[simp] theorem u8av_isD (l : List UInt8) : (∀ x ∈ u8av l, isD x = true) ↔ True := iff_true_intro <| by
  intro x hx
  simp [u8av] at hx
  obtain ⟨b, _, rfl⟩ := hx
  rfl
theorem u8av_app (a b : List UInt8) : u8av (a ++ b) = u8av a ++ u8av b := by simp [u8av]
theorem u8av_two (a b : UInt8) : u8av [a, b] = [.c (.int .u8 a.toNat), .c (.int .u8 b.toNat)] := by simp [u8av, u8]
theorem u8av_one (a : UInt8) : u8av [a] = [.c (.int .u8 a.toNat)] := by simp [u8av, u8]
theorem hexB_len : ∀ l : List UInt8, (hexB l).length = 2 * l.length
  | [] => rfl
  | c :: l => by simp only [hexB, List.length_cons, hexB_len l]; omega
theorem hexB_app : ∀ a b : List UInt8, hexB (a ++ b) = hexB a ++ hexB b
  | [], _ => rfl
  | c :: a, b => by simp only [List.cons_append, hexB, hexB_app a b]
theorem shr4 (x : Nat) : (x : Int).fdiv (2 ^ min 4 IntKind.u8.bits) = ((x / 16 : Nat) : Int) := by
  have : ((2 : Int) ^ min 4 IntKind.u8.bits) = ((16 : Nat) : Int) := by decide
  rw [this, Int.fdiv_eq_ediv_of_nonneg _ (by omega)]
  omega
theorem and15 (x : Nat) (h : x < 256) : IntKind.u8.wrap ((x % 2 ^ IntKind.u8.bits &&& 15 % 2 ^ IntKind.u8.bits : Nat) : Int) = ((x % 16 : Nat) : Int) := by
  have e1 : x % 2 ^ IntKind.u8.bits = x := Nat.mod_eq_of_lt h
  have e2 : 15 % 2 ^ IntKind.u8.bits = 2 ^ 4 - 1 := by decide
  rw [e1, e2, Nat.and_two_pow_sub_one_eq_mod]
  have : x % 2 ^ 4 < 16 := Nat.mod_lt _ (by decide)
  unfold IntKind.wrap
  simp [IntKind.bits, IntKind.signed]
  omega
theorem hex_atL {k : Nat} (h : k < 16) : (([48, 49, 50, 51, 52, 53, 54, 55, 56, 57, 65, 66, 67, 68, 69, 70] : List UInt8)[k]?.getD 0) = hexD k := by
  have : ∀ k, k < 16 → (([48, 49, 50, 51, 52, 53, 54, 55, 56, 57, 65, 66, 67, 68, 69, 70] : List UInt8)[k]?.getD 0) = hexD k := by decide
  exact this k h
theorem hex_at {k : Nat} (h : k < 16) : ((#[48, 49, 50, 51, 52, 53, 54, 55, 56, 57, 65, 66, 67, 68, 69, 70] : Array UInt8)[k]?.getD 0) = hexD k := by
  have : ∀ k, k < 16 → ((#[48, 49, 50, 51, 52, 53, 54, 55, 56, 57, 65, 66, 67, 68, 69, 70] : Array UInt8)[k]?.getD 0) = hexD k := by decide
  exact this k h
set_option maxHeartbeats 4000000 in
theorem vhex_w (s : ByteArray) (hs : s.size ≤ 100000) : ACalls Tryz.prog 57 [.c (.string s)] [] (fun _ => false) (fun r h' => r = .c (.string (baL (hexB s.data.toList))) ∧ h' = []) := by
  refine acalls mixed Tryz.func57 rfl Tryz.ntmps57 rfl fun E hE hst hho => ?_
  have ls : s.data.toList.length = s.size := rfl
  simp (maxSteps := 1000000) [hho, noHo, -List.reduceReplicate]
  refine loop_k mixed (fun j : Nat => ⟨slotsOf 26 [(0, .c (.string s)), (3, .sl 0 1 0 (2 * j) (2 * j)), (6, .c (.int .i64 (s.size : Nat))), (7, .c (.int .i64 (j : Nat)))], [.o (.row 5 1) (u8av (hexB (s.data.toList.take j)))]⟩) (fun j => s.size - j) (fun j => j ≤ s.size) 0 (Nat.zero_le _) ?_ ?_
  · refine Wk.trans (wk_virt 3 5 1 rfl) ?_
    exact wk_eq (by simp [hE, lens]) (by simp [u8av, hexB]) (by simp [livH, livO, AV.livL, AV.liv, wkL, wkV, List.range', slotsOf])
  rintro j hj1
  have hlen : (u8av (hexB (s.data.toList.take j))).length = 2 * j := by simp [u8av, hexB_len, ls]; omega
  by_cases h1 : j < s.size
  case neg =>
    have h1i : ¬ (j : Int) < s.size := by omega
    have hj : j = s.data.toList.length := by omega
    have e0 : s.data.toList.take j = s.data.toList := by rw [hj, List.take_length]
    rw [e0] at hlen ⊢
    have htk : List.take (2 * j) (u8av (hexB s.data.toList)) = u8av (hexB s.data.toList) := List.take_of_length_le (by omega)
    simp (maxSteps := 1000000) [hho, noHo, slotsOf, h1, h1i, bytesOf_ba, hlen, htk, undef, onGP_none, condG_false, -List.reduceReplicate]
    exact Ret.drop (by rfl) ⟨rfl, rfl⟩
  have h1i : (j : Int) < s.size := by omega
  have ba := byte_at (s := s) (j := j) (by omega)
  have ba2 := byte_at2 (s := s) (j := j) (by omega)
  have htk : s.data.toList.take (j + 1) = s.data.toList.take j ++ [s.data.toList[j]'(by omega)] := by rw [List.take_succ_eq_append_getElem (by omega)]
  obtain ⟨c, hc⟩ : ∃ c : UInt8, c = s.data.toList[j]'(by omega) := ⟨_, rfl⟩
  rw [← hc] at ba ba2 htk
  obtain ⟨x, hx⟩ : ∃ x : Nat, x = c.toNat := ⟨_, rfl⟩
  have hx256 : x < 256 := by rw [hx]; exact UInt8.toNat_lt _
  rw [← hx] at ba ba2
  have ew : IntKind.i64.wrap ((j : Int) + 1) = (j + 1 : Nat) := by rw [IntWalk.i64_in _ (by omega)]; rfl
  simp (maxSteps := 1000000) [hho, noHo, slotsOf, h1, h1i, ba, ba2, -List.reduceReplicate]
  refine draw_k hho (.take 0 (.take 1 (.take 2 (.take 3 (.take 4 (.take 5 (.take 6 (.take 7 (.take 8 (.take 9 (.take 10 (.alt 11 (.alt 12 (.take 13 (.done)) (.nil)) (.nil))))))))))))) [] [] (by decide +kernel) (by simp) ?_
  have q1 := shr4 x
  have q2 := and15 x hx256
  have q3 : (⟨#[48, 49, 50, 51, 52, 53, 54, 55, 56, 57, 65, 66, 67, 68, 69, 70]⟩ : ByteArray).size = 16 := rfl
  have q4 : x / 16 < 16 := by omega
  have q5 : x % 16 < 16 := by omega
  have q6 := hex_at q4
  have q7 := hex_at q5
  simp (maxSteps := 1000000) [hho, noHo, ba, ba2, h1, h1i, hlen, q1, q2, q3, q4, q5, q6, q7, roOf, holdOf, wrOf, altK, heldOk, Region.binds, -List.reduceReplicate]
  refine ⟨by omega, by omega, fun _ _ => ⟨by omega, ?_⟩⟩
  refine round_next (j + 1) (show j + 1 ≤ s.size by omega) (show s.size - (j + 1) < s.size - j by omega) ?_
  have t4 : ((x : Int) / 16).toNat = x / 16 := by omega
  have t5 : ((x : Int) % 16).toNat = x % 16 := by omega
  have hn : hexB (List.take (j + 1) s.data.toList) = hexB (List.take j s.data.toList) ++ [hexD (x / 16), hexD (x % 16)] := by rw [htk, hexB_app, hx]; rfl
  exact wk_of 1 1 (by simp) (by simp [hE, lens]) (by simp [hn, u8av_app, u8av_two, t4, t5, hex_atL q4, hex_atL q5]) (by simp [livH, livO, AV.livL, AV.liv, wkL, wkV, List.range']) (by simp [livH, livO, AV.livL, AV.liv, wkL, wkV, List.range', slotsOf, ew, Nat.mul_add])
def hexC : ByteArray := ⟨#[48, 49, 50, 51, 52, 53, 54, 55, 56, 57, 65, 66, 67, 68, 69, 70]⟩
def unI (c : UInt8) : Int := match unD c with | none => -1 | some d => (d : Int)
theorem index_hex (c : UInt8) : indexByte hexC.data.toList c = unI c := by
  have h : ∀ n : Nat, n < 256 → indexByte hexC.data.toList (UInt8.ofNat n) = unI (UInt8.ofNat n) := by decide +kernel
  have := h c.toNat c.toNat_lt
  rwa [UInt8.ofNat_toNat] at this
theorem unD_lt {c : UInt8} {d : Nat} (h : unD c = some d) : d < 16 := (hex_unD h).2
theorem or_hex {x y : Nat} (hx : x < 16) (hy : y < 16) : (16 * x) ||| y = 16 * x + y := by
  have := Nat.shiftLeft_add_eq_or_of_lt (b := y) (i := 4) hy x
  rw [Nat.shiftLeft_eq] at this
  rw [Nat.mul_comm 16 x]
  exact this.symm
theorem orv {p q : Nat} (hp : p < 16) (hq : q < 16) : IntKind.u8.wrap (IntKind.i64.wrap (((IntKind.i64.wrap ((p : Int) * 2 ^ min 4 IntKind.i64.bits) % 2 ^ IntKind.i64.bits).toNat ||| ((q : Int) % 2 ^ IntKind.i64.bits).toNat : Nat) : Int)) = 16 * (p : Int) + q := by
  have e1 : ((2 : Int) ^ min 4 IntKind.i64.bits) = 16 := by decide
  have e2 : ((2 : Int) ^ IntKind.i64.bits) = 18446744073709551616 := by decide
  have w1 : IntKind.i64.wrap ((p : Int) * 16) = (p : Int) * 16 := IntWalk.i64_in _ (by omega)
  rw [e1, e2, w1]
  have e3 : ((p : Int) * 16 % 18446744073709551616).toNat = 16 * p := by omega
  have e4 : ((q : Int) % 18446744073709551616).toNat = q := by omega
  rw [e3, e4, or_hex hp hq, IntWalk.i64_in _ (by omega)]
  unfold IntKind.wrap
  simp [IntKind.bits, IntKind.signed]
  omega
def unhexR (l : List UInt8) : List UInt8 × Bool := match unhexL l with | none => ([], false) | some t => (t, true)
theorem unhex_odd : ∀ (n : Nat) (l : List UInt8), l.length ≤ n → l.length % 2 ≠ 0 → unhexL l = none
  | _, [], _, h => absurd rfl h
  | _, [_], _, _ => rfl
  | n, c :: d :: l, hn, h => by
    cases n with
    | zero => simp at hn
    | succ n =>
      have ih := unhex_odd n l (by simp only [List.length_cons] at hn; omega) (by simp only [List.length_cons] at h; omega)
      rw [unhexL, ih]
      cases unD c <;> cases unD d <;> rfl
theorem unhex_two (c d : UInt8) (l : List UInt8) : unhexL (c :: d :: l) = (unD c).bind fun x => (unD d).bind fun y => (unhexL l).map (UInt8.ofNat (16 * x + y) :: ·) := rfl
set_option maxHeartbeats 4000000 in
theorem vunhex_w (s : ByteArray) (hs : s.size ≤ 100000) : ACalls Tryz.prog 79 [.c (.string s)] [] (fun _ => false) (fun r h' => r = .tup [.c (.string (baL (unhexR s.data.toList).1)), .c (.bool (unhexR s.data.toList).2)] ∧ h' = []) := by
  refine acalls mixed Tryz.func79 rfl Tryz.ntmps79 rfl fun E hE hst hho => ?_
  have ls : s.data.toList.length = s.size := rfl
  by_cases hodd : s.size % 2 = 0
  case neg =>
    have e : unhexR s.data.toList = ([], false) := by
      unfold unhexR
      rw [unhex_odd s.size s.data.toList (by omega) (by omega)]
    have hoi : ¬ ((s.size : Int)).tmod 2 = 0 := by rw [Int.tmod_eq_emod_of_nonneg (by omega)]; omega
    rw [e]
    simp (maxSteps := 1000000) [hho, noHo, hodd, hoi, -List.reduceReplicate]
    exact Ret.drop (by rfl) ⟨rfl, rfl⟩
  have hoi : ((s.size : Int)).tmod 2 = 0 := by rw [Int.tmod_eq_emod_of_nonneg (by omega)]; omega
  simp (maxSteps := 1000000) [hho, noHo, hodd, hoi, -List.reduceReplicate]
  refine loop_k mixed (fun y : Nat × List UInt8 => ⟨slotsOf 43 [(0, .c (.string s)), (4, .sl 0 1 0 y.2.length y.2.length), (5, .c (.int .i64 ((2 * y.1 : Nat) : Int)))], [.o (.row 5 1) (u8av y.2)]⟩) (fun y => s.size - 2 * y.1) (fun y => 2 * y.1 ≤ s.size ∧ y.2.length = y.1 ∧ unhexL s.data.toList = (unhexL (s.data.toList.drop (2 * y.1))).map (y.2 ++ ·)) (0, []) ⟨Nat.zero_le _, rfl, by simp⟩ ?_ ?_
  · refine Wk.trans (wk_virt 4 5 1 rfl) ?_
    exact wk_eq (by simp [hE, lens]) (by simp [u8av]) (by simp [livH, livO, AV.livL, AV.liv, wkL, wkV, List.range', slotsOf])
  rintro ⟨j, t⟩ ⟨hj1, hj2, hI⟩
  simp only at hj1 hj2 hI
  have hlen : (u8av t).length = t.length := by simp [u8av]
  by_cases h1 : 2 * j < s.size
  case neg =>
    have h1i : ¬ (2 * (j : Int)) < s.size := by omega
    have e : unhexR s.data.toList = (t, true) := by
      unfold unhexR
      rw [hI, List.drop_eq_nil_of_le (by omega)]
      simp [unhexL]
    have htk : List.take t.length (u8av t) = u8av t := List.take_of_length_le (by omega)
    rw [e]
    simp (maxSteps := 1000000) [hho, noHo, slotsOf, h1, h1i, bytesOf_ba, hlen, htk, undef, onGP_none, condG_false, -List.reduceReplicate]
    exact Ret.drop (by rfl) ⟨rfl, rfl⟩
  have h1i : (2 * (j : Int)) < s.size := by omega
  have ba := byte_at (s := s) (j := 2 * j) (by omega)
  have ba2 := byte_at2 (s := s) (j := 2 * j) (by omega)
  have bb := byte_at (s := s) (j := 2 * j + 1) (by omega)
  have bb2 := byte_at2 (s := s) (j := 2 * j + 1) (by omega)
  have hdr : s.data.toList.drop (2 * j) = s.data.toList[2 * j]'(by omega) :: s.data.toList[2 * j + 1]'(by omega) :: s.data.toList.drop (2 * (j + 1)) := by
    rw [List.drop_eq_getElem_cons (by omega), List.drop_eq_getElem_cons (i := 2 * j + 1) (by omega)]
    rfl
  obtain ⟨c, hc⟩ : ∃ c : UInt8, c = s.data.toList[2 * j]'(by omega) := ⟨_, rfl⟩
  obtain ⟨d, hd⟩ : ∃ c : UInt8, c = s.data.toList[2 * j + 1]'(by omega) := ⟨_, rfl⟩
  rw [← hc] at ba ba2 hdr
  rw [← hd] at bb bb2 hdr
  rw [hdr, unhex_two] at hI
  have c1 := indexByte_w hexC (c.toNat : Int)
  have c2 := indexByte_w hexC (d.toNat : Int)
  have ec : ((c.toNat : Int)).toNat.toUInt8 = c := by rw [Int.toNat_natCast]; exact UInt8.ofNat_toNat
  have ed : ((d.toNat : Int)).toNat.toUInt8 = d := by rw [Int.toNat_natCast]; exact UInt8.ofNat_toNat
  rw [ec, index_hex] at c1
  rw [ed, index_hex] at c2
  unfold hexC at c1 c2
  obtain ⟨x, hx⟩ : ∃ x : Nat, x = c.toNat := ⟨_, rfl⟩
  obtain ⟨y, hy⟩ : ∃ x : Nat, x = d.toNat := ⟨_, rfl⟩
  have hx256 : x < 256 := by rw [hx]; exact UInt8.toNat_lt _
  have hy256 : y < 256 := by rw [hy]; exact UInt8.toNat_lt _
  rw [← hx] at ba ba2 c1
  rw [← hy] at bb bb2 c2
  obtain ⟨u, hu⟩ : ∃ u, u = unI c := ⟨_, rfl⟩
  obtain ⟨v, hv⟩ : ∃ u, u = unI d := ⟨_, rfl⟩
  rw [← hu] at c1
  rw [← hv] at c2
  have ew : IntKind.i64.wrap (2 * (j : Int) + 1) = (2 * j + 1 : Nat) := by rw [IntWalk.i64_in _ (by omega)]; rfl
  have ew2 : IntKind.i64.wrap (2 * (j : Int) + 2) = (2 * (j + 1) : Nat) := by rw [IntWalk.i64_in _ (by omega)]; omega
  have t4 : (2 * (j : Int)).toNat = 2 * j := by omega
  have t5 : (2 * (j : Int) + 1).toNat = 2 * j + 1 := by omega
  have h2 : 2 * j + 1 < s.size := by omega
  have h2i : 2 * (j : Int) + 1 < s.size := by omega
  have h3i : 0 ≤ 2 * (j : Int) + 1 := by omega
  simp (maxSteps := 1000000) [hho, noHo, slotsOf, h1, h1i, -List.reduceReplicate]
  refine draw_k hho (.take 0 (.take 1 (.take 2 (.take 4 (.take 5 (.take 6 (.take 7 (.alt 3 (.alt 8 (.take 9 (.take 10 (.done))) (.nil)) (.nil))))))))) [] [] (by decide +kernel) (by simp) ?_
  simp (maxSteps := 1000000) [hho, noHo, ba, ba2, bb, bb2, h1, h1i, ew, t4, t5, h2, h2i, h3i, roOf, holdOf, wrOf, altK, heldOk, Region.binds, -List.reduceReplicate]
  refine ⟨by omega, ?_⟩
  intros
  refine call_h [] (c1) rfl rfl ⟨rfl, rfl⟩ (by simp) (by simp) (by decide) (by simp) (by simp) ?_
  simp (maxSteps := 1000000) [hho, noHo, roOf, holdOf, wrOf, altK, heldOk, Region.binds, -List.reduceReplicate]
  intros
  refine call_h [] (c2) rfl rfl ⟨rfl, rfl⟩ (by simp) (by simp) (by decide) (by simp) (by simp) ?_
  simp (maxSteps := 1000000) [hho, noHo, roOf, holdOf, wrOf, altK, heldOk, Region.binds, -List.reduceReplicate]
  cases hX : unD c with
  | none =>
    have hu1 : u = -1 := by rw [hu]; unfold unI; rw [hX]
    have e : unhexR s.data.toList = ([], false) := by
      unfold unhexR
      rw [hI, hX]
      rfl
    rw [e]
    simp (maxSteps := 1000000) [hho, noHo, hu1, undef, onGP_none, condG_false, undef, onGP_none, condG_false, -List.reduceReplicate]
    exact Ret.drop (by rfl) ⟨rfl, rfl⟩
  | some p =>
    have hp := unD_lt hX
    have hu1 : u = p := by rw [hu]; unfold unI; rw [hX]
    have hu2 : ¬ (p : Int) < 0 := by omega
    cases hY : unD d with
    | none =>
      have hv1 : v = -1 := by rw [hv]; unfold unI; rw [hY]
      have e : unhexR s.data.toList = ([], false) := by
        unfold unhexR
        rw [hI, hX, hY]
        rfl
      rw [e]
      simp (maxSteps := 1000000) [hho, noHo, hu1, hu2, hv1, undef, onGP_none, condG_false, -List.reduceReplicate]
      exact Ret.drop (by rfl) ⟨rfl, rfl⟩
    | some q =>
      have hq := unD_lt hY
      have hv1 : v = q := by rw [hv]; unfold unI; rw [hY]
      have hv2 : ¬ (q : Int) < 0 := by omega
      rw [hX, hY] at hI
      simp (maxSteps := 1000000) [hho, noHo, hu1, hu2, hv1, hv2, -List.reduceReplicate]
      refine ⟨⟨hlen, by omega⟩, round_next (j + 1, t ++ [UInt8.ofNat (16 * p + q)]) ⟨by omega, by simp [hj2], ?_⟩ (by simp only; omega) ?_⟩
      · rw [hI]
        simp only [Option.bind_some, Option.map_map]
        congr 1
        funext l
        simp
      refine wk_of 1 1 (by simp) (by simp [hE, lens]) ?_ (by simp [livH, livO, AV.livL, AV.liv, wkL, wkV, List.range']) (by simp [livH, livO, AV.livL, AV.liv, wkL, wkV, List.range', slotsOf, ew2, Int.mul_add])
      simp [u8av_app, u8av_one]
      rw [orv hp hq]
      omega
theorem getLast_at {l : List UInt8} (h : 0 < l.length) : l.getLast? = some (l[l.length - 1]'(by omega)) := by
  rw [List.getLast?_eq_getElem?, List.getElem?_eq_getElem (by omega)]
theorem und_len : ∀ (n : Nat) (l : List UInt8), l.length ≤ n → (replaceAll l [39, 39] [39]).length ≤ l.length := by
  intro n
  induction n with
  | zero =>
    intro l hl
    rw [List.length_eq_zero_iff.1 (by omega : l.length = 0), replaceAll_r (by decide), rAll_nil (by decide)]
    simp
  | succ n ih =>
    intro l hl
    rw [replaceAll_r (by decide)]
    cases l with
    | nil => rw [rAll_nil (by decide)]; simp
    | cons c l =>
      by_cases hp : List.isPrefixOf [39, 39] (c :: l) = true
      · rw [rAll_hit (by decide) hp, ← replaceAll_r (by decide)]
        have := ih ((c :: l).drop 2) (by simp only [List.length_drop, List.length_cons] at hl ⊢; omega)
        have hpl := (List.isPrefixOf_iff_prefix.1 hp).length_le
        have e2 : ((c :: l).drop ([39, 39] : List UInt8).length).length = l.length - 1 := by simp
        have e3 : ((c :: l).drop 2).length = l.length - 1 := by simp
        have e4 : (([39, 39] : List UInt8)).length = 2 := rfl
        rw [List.length_append, List.length_cons, List.length_nil]
        rw [e3] at this
        rw [e4, List.length_cons] at hpl
        have e5 : ([39, 39] : List UInt8).length = 2 := rfl
        rw [e5]
        simp only [List.length_cons] at *
        omega
      · rw [rAll_skip (by decide) (Bool.eq_false_iff.2 hp), ← replaceAll_r (by decide)]
        have := ih l (by simp only [List.length_cons] at hl; omega)
        simp only [List.length_cons]
        omega
set_option maxHeartbeats 4000000 in
theorem vquoted_w (s : ByteArray) (hs : s.size ≤ 100000) : ACalls Tryz.prog 78 [.c (.string s)] [] (fun _ => false) (fun r h' => r = .tup [.c (.string (baL (quotedP s.data.toList).1)), .c (.bool (quotedP s.data.toList).2)] ∧ h' = []) := by
  refine acalls mixed Tryz.func78 rfl Tryz.ntmps78 rfl fun E hE hst hho => ?_
  have ls : s.data.toList.length = s.size := rfl
  by_cases h2 : s.size < 2
  · have h2i : (s.size : Int) < 2 := by omega
    have e : quotedP s.data.toList = ([], false) := if_pos (.inl (by omega))
    rw [e]
    simp (maxSteps := 1000000) [hho, noHo, h2, h2i, undef, onGP_none, condG_false, undef, onGP_none, condG_false, -List.reduceReplicate]
    exact Ret.drop (by rfl) ⟨rfl, rfl⟩
  have h2i : ¬ (s.size : Int) < 2 := by omega
  have ba := byte_at (s := s) (j := 0) (by omega)
  have ba2 := byte_at2 (s := s) (j := 0) (by omega)
  have bb := byte_at (s := s) (j := s.size - 1) (by omega)
  have bb2 := byte_at2 (s := s) (j := s.size - 1) (by omega)
  have hh : s.data.toList.head? = some (s.data.toList[0]'(by omega)) := by rw [List.head?_eq_getElem?, List.getElem?_eq_getElem (by omega)]
  have hl := getLast_at (l := s.data.toList) (by omega)
  obtain ⟨c, hc⟩ : ∃ c : UInt8, c = s.data.toList[0]'(by omega) := ⟨_, rfl⟩
  obtain ⟨d, hd⟩ : ∃ c : UInt8, c = s.data.toList[s.size - 1]'(by omega) := ⟨_, rfl⟩
  rw [← hc] at ba ba2 hh
  simp only [ls] at hl
  rw [← hd] at bb bb2 hl
  obtain ⟨x, hx⟩ : ∃ x : Nat, x = c.toNat := ⟨_, rfl⟩
  obtain ⟨y, hy⟩ : ∃ x : Nat, x = d.toNat := ⟨_, rfl⟩
  rw [← hx] at ba ba2
  rw [← hy] at bb bb2
  have ew : IntKind.i64.wrap ((s.size : Int) - 1) = (s.size - 1 : Nat) := by rw [IntWalk.i64_in _ (by omega)]; omega
  have z1 : 0 < s.size := by omega
  have z2 : s.size - 1 < s.size := by omega
  by_cases hx39 : x = 39
  case neg =>
    have hxi : ¬ (x : Int) = 39 := by omega
    have e : quotedP s.data.toList = ([], false) := if_pos (.inr (.inl (by rw [hh]; intro h; injection h with h; rw [hx, h] at hx39; exact hx39 rfl)))
    rw [e]
    simp (maxSteps := 1000000) [hho, noHo, h2, h2i, ba, ba2, hx39, hxi, z1, undef, onGP_none, condG_false, undef, onGP_none, condG_false, -List.reduceReplicate]
    exact Ret.drop (by rfl) ⟨rfl, rfl⟩
  have hxi : (x : Int) = 39 := by omega
  by_cases hy39 : y = 39
  case neg =>
    have hyi : ¬ (y : Int) = 39 := by omega
    have e : quotedP s.data.toList = ([], false) := if_pos (.inr (.inr (by rw [hl]; intro h; injection h with h; rw [hy, h] at hy39; exact hy39 rfl)))
    rw [e]
    simp (maxSteps := 1000000) [hho, noHo, h2, h2i, ba, ba2, bb, bb2, hx39, hxi, hy39, hyi, ew, z1, z2, undef, onGP_none, condG_false, -List.reduceReplicate]
    exact Ret.drop (by rfl) ⟨rfl, rfl⟩
  have hyi : (y : Int) = 39 := by omega
  have hc39 : c = 39 := by apply UInt8.toNat_inj.1; rw [← hx, hx39]; rfl
  have hd39 : d = 39 := by apply UInt8.toNat_inj.1; rw [← hy, hy39]; rfl
  rw [hc39] at hh
  rw [hd39] at hl
  obtain ⟨I, hI⟩ : ∃ I, I = (s.data.toList.drop 1).dropLast := ⟨_, rfl⟩
  have e : quotedP s.data.toList = (replaceAll I [39, 39] [39], decide (I.count 39 = 2 * (replaceAll I [39, 39] [39]).count 39)) := by
    rw [hI]
    exact if_neg (fun h => by rcases h with h | h | h; exact absurd h (by omega); exact h hh; exact h hl)
  have hIl : I.length = s.size - 2 := by rw [hI]; simp [ls]; omega
  have hex : s.extract 1 (s.size - 1) = baL I := by
    have : s = baL s.data.toList := rfl
    rw [this, ba_ext, ba_size, hI, ls]
    rw [List.dropLast_eq_take, List.length_drop, ls]
  have c1 := replaceAll_w (baL I) ⟨#[39, 39]⟩ ⟨#[39]⟩ (by rw [ba_size]; omega) (by decide) (by decide) (by decide)
  have c2 := countOne_w (baL I) 39
  have e1 : ((⟨#[39, 39]⟩ : ByteArray).data.toList) = [39, 39] := rfl
  have e2 : ((⟨#[39]⟩ : ByteArray).data.toList) = [39] := rfl
  rw [toL_ba, e1, e2] at c1
  rw [toL_ba] at c2
  obtain ⟨J, hJ⟩ : ∃ J, J = replaceAll I [39, 39] [39] := ⟨_, rfl⟩
  rw [← hJ] at c1 e
  have hJl : J.length ≤ I.length := by
    rw [hJ]
    exact und_len I.length I (Nat.le_refl _)
  have c3 := countOne_w (baL J) 39
  rw [toL_ba] at c3
  rw [e]
  obtain ⟨a, ha⟩ : ∃ a, a = I.count 39 := ⟨_, rfl⟩
  obtain ⟨b, hb⟩ : ∃ a, a = J.count 39 := ⟨_, rfl⟩
  have hbl : b ≤ s.size := by
    rw [hb]
    have := List.count_le_length (a := (39 : UInt8)) (l := J)
    omega
  rw [← ha] at c2
  rw [← hb] at c3
  rw [← ha, ← hb]
  have ew2 : IntKind.i64.wrap (2 * (b : Int)) = (2 * b : Nat) := by rw [IntWalk.i64_in _ (by omega)]; rfl
  have ew3 : IntKind.i64.wrap ((b : Int) * 2) = (2 * b : Nat) := by rw [IntWalk.i64_in _ (by omega)]; omega
  simp (maxSteps := 1000000) [hho, noHo, h2, h2i, ba, ba2, bb, bb2, hx39, hxi, hy39, hyi, ew, z1, z2, hex, -List.reduceReplicate]
  refine ⟨by omega, ?_⟩
  refine call_x [] (c1) rfl rfl ⟨rfl, rfl⟩ hho (by simp) (by decide) (by simp) (by simp) ?_
  simp (maxSteps := 1000000) [hho, noHo, -List.reduceReplicate]
  refine call_x [] (c2) rfl rfl ⟨rfl, rfl⟩ hho (by simp) (by decide) (by simp) (by simp) ?_
  simp (maxSteps := 1000000) [hho, noHo, -List.reduceReplicate]
  refine call_x [] (c3) rfl rfl ⟨rfl, rfl⟩ hho (by simp) (by decide) (by simp) (by simp) ?_
  simp (maxSteps := 1000000) [hho, noHo, -List.reduceReplicate]
  have ef : decide ((a : Int) = IntKind.i64.wrap (2 * (b : Int))) = decide (a = 2 * b) := by
    rw [ew2]
    exact decide_eq_decide.2 (by omega)
  rw [ef]
  exact Ret.drop (by rfl) ⟨rfl, rfl⟩
end Go.Proofs.YtjgdlocgoiinbaaGreatDoor
