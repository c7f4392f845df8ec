import Derived.Test.YtniifindnnfkaaaDoorWa
namespace Go.Proofs.YtniifindnnfkaaaDoor
set_option linter.unusedVariables false
set_option linter.unusedSimpArgs false
open Go.RowKit
attribute [local simp] isCut_nil isCut_region isCut_seq isCut_block isCut_loop isCut_cond isCut_skip isCut_exit isCut_ret isCut_range swapK putK altK condK_bool pickP_bool stepP stepO onPure_some onPure_none onImpl_some onImpl_none stepC onGP_some onGP_none onGV_some condG mkG onIt_it nextP_ptr takeP_eq takeV_some takeV_none takeU_some takeU_none takeQ takeW_some takeN_none takeN_some takeG_some takeO_some altO_some pureV binV2 eqF eqOp ovlV ovl2 rowAt capV binV intBin strBin isSh shV fldV ixV sliceV slice3V loadAV nilV lenV callV unV convV viewS cellsH loadV fldCut AV.ung AV.ungs AV.gc AV.cells AS.ev AS.put anyS gcsV lens lnO gV guardV retK RetP_eq resV oneV anyRo loIx hiIx implO callP_clo evL gcsL clearV storeAV AS.push AS.setO appV appZ shortS copyV buildV partsV fillV srcV fzO okV isCell_c isCell_ptr isCell_sl isCell_fs isCell_fp isCell_clo rowZ_one rowZ_zero rowZ_2 rowZ_3 rowZ_4 rowZ_5 rowZ_6 rowZ_7 rowZ_8 rowZ_9 rowZ_10 rowZ_11 rowZ_12 noHo Value.oneCell' max2V min2V lookV updV lenM msAt afterH putBack frzFrom frzO rebO backIx nilEq_sl nilEq_fs nilOp_eql nilOp_neq AV.reb AV.rebL
attribute [local simp ↓] runK_skip runK_region runK_draw runK_seq runK_cut runK_cond runK_block runK_loop runK_exit runK_label runK_goto runK_ret runK_range contK_nil contK_seq contK_seq_ret contK_seq_exit contK_seq_goto contK_block contK_block_ret contK_block_goto contK_block_exit runO_nil runO_cons roundK_exit roundK_ret roundK_goto exitK_ret cutK_ret cutK_exit runE_done runE_nil runE_take runE_alt condG_true condG_false
set_option maxRecDepth 10000
/-! ## The reference's number -/
theorem tmod_nat (u c : Nat) : (u : Int).tmod (c : Int) = ((u % c : Nat) : Int) := (Int.ofNat_tmod u c).symm
theorem tdiv_nat (u c : Nat) : (u : Int).tdiv (c : Int) = ((u / c : Nat) : Int) := (Int.ofNat_tdiv u c).symm
theorem u8_low (u : Nat) : IntKind.u8.wrap ((u % 256 : Nat) : Int) = ((UInt8.ofNat u).toNat : Int) := by
  rw [u8_wrap_nat]; simp
set_option maxHeartbeats 4000000 in
theorem ref1num_gen (n : Int) (h1 : -9223372036854775808 ≤ n) (h2 : n ≤ 9223372036854775807) (Post : AV → List AObj → Prop) (hpost : ∀ x : AObj, Ret (fun _ => false) Post [x, .o (.row 5 1) (u8av (num n))] (.sl 1 1 0 (num n).length (num n).length)) : ACalls Tryd.prog 33 [.c (.int .i64 n)] [] (fun _ => false) Post := by
  refine acallsC [5] mixed Tryd.func33 rfl Tryd.ntmps33 rfl fun E hE hst hho => ?_
  simp (maxSteps := 1000000) [hho, noHo, -List.reduceReplicate]
  obtain ⟨U, hU⟩ : ∃ U, U = mag n := ⟨_, rfl⟩
  have hUl : U < 9223372036854775808 := by rw [hU]; exact mag_lt n h1 h2
  refine seq_cut mixed [] (fun _ : Unit => ⟨slotsOf 27 [(0, .c (.int .i64 (U : Nat))), (3, .c (.int .u8 (sig n : Nat)))], []⟩) (fun _ => True) ?_ ?_
  rotate_left
  · by_cases hn : n < 0
    · have e2 : sig n = 128 := by unfold sig; rw [if_pos hn]
      have e3 : U = (-n - 1).toNat := by rw [hU]; unfold mag; rw [if_pos hn]
      have e4 : IntKind.i64.wrap (-1 - n) = (U : Int) := by rw [IntWalk.i64_in _ (by omega)]; omega
      simp (maxSteps := 1000000) [hho, hn, e4, -List.reduceReplicate]
      exact cut_to () trivial (wk_eq (by simp [hE, lens]) (by simp) (by simp [livH, livO, AV.livL, AV.liv, wkL, wkV, List.range', slotsOf, e2]))
    · have e2 : sig n = 0 := by unfold sig; rw [if_neg hn]
      have e3 : (U : Int) = n := by rw [hU]; unfold mag; rw [if_neg hn]; omega
      simp (maxSteps := 1000000) [hho, hn, -List.reduceReplicate]
      exact cut_to () trivial (wk_eq (by simp [hE, lens]) (by simp) (by simp [livH, livO, AV.livL, AV.liv, wkL, wkV, List.range', slotsOf, e2, e3]))
  rintro _ _
  simp (maxSteps := 1000000) [slotsOf, hho, -List.reduceReplicate]
  refine loop_k mixed (fun x : Nat × List UInt8 => ⟨slotsOf 27 [(0, .c (.int .i64 (x.1 : Nat))), (3, .c (.int .u8 (sig n : Nat))), (4, .sl 0 1 0 x.2.length x.2.length)], [.o (.row 5 1) (u8av x.2)]⟩) (fun x => x.1) (fun x => x.1 ≤ U ∧ (digs x.1).reverse ++ x.2 = (digs U).reverse) (U, []) (by simp) ?_ ?_
  · refine Wk.trans (wk_virt 4 5 1 rfl) ?_
    exact wk_eq (by simp [hE, lens]) (by simp) (by simp [livH, livO, AV.livL, AV.liv, wkL, wkV, List.range', slotsOf])
  · rintro ⟨u, d⟩ ⟨hu, hd⟩
    simp only at hd hu
    have hl8 : (digs U).length ≤ 8 := digs_len8 U (by omega)
    have hdd : (digs u).length + d.length ≤ 8 := by
      have := congrArg List.length hd
      simp at this; omega
    by_cases h0 : u = 0
    · subst h0
      have hdU : d = (digs U).reverse := by simpa [digs_zero] using hd
      have hdl : d.length = (digs U).length := by rw [hdU, List.length_reverse]
      have hb : IntKind.u8.wrap ((sig n : Nat) + IntKind.u8.wrap (d.length : Int)) = ((UInt8.ofNat (sig n + d.length)).toNat : Int) := by
        have hs : sig n = 0 ∨ sig n = 128 := by unfold sig; split <;> simp
        rw [add_head _ _ hs (by omega), IntWalk.u8_in (d.length : Int) (by omega), IntWalk.u8_in _ (by omega)]
      have hcl : List.take d.length (u8av d) = u8av d := List.take_of_length_le (by simp)
      have htk : ∀ a : AV, List.take (1 + d.length) (a :: u8av d) = a :: u8av d := fun a => List.take_of_length_le (by simp; omega)
      have hnu : u8av (num n) = AV.c (.int .u8 ((UInt8.ofNat (sig n + d.length)).toNat : Int)) :: u8av d := by
        simp [num, u8av, u8, hdU, hU]
      have hnl : (num n).length = 1 + d.length := by rw [hdU, hU]; simp [num]; omega
      simp (maxSteps := 1000000) [slotsOf, hho, hcl, hb, -List.reduceReplicate]
      refine ⟨by omega, ?_⟩
      rw [hnl, hnu] at hpost
      exact hpost _
    · have hup : 0 < u := by omega
      have em := tmod_nat u 256
      have ed := tdiv_nat u 256
      simp only [Int.cast_ofNat_Int] at em ed
      have hw := u8_low u
      simp at hw
      have ew : IntKind.i64.wrap ((u : Int) / 256) = (u : Int) / 256 := IntWalk.i64_in _ (by omega)
      rw [digs_pos hup] at hd hdd
      simp at hdd
      have hcl : List.take d.length (u8av d) = u8av d := List.take_of_length_le (by simp)
      simp (maxSteps := 1000000) [slotsOf, hho, h0, hup, em, ed, ew, hw, hcl, -List.reduceReplicate]
      refine ⟨by omega, ?_⟩
      refine round_next (u / 256, UInt8.ofNat u :: d) ⟨by simp only; omega, by simpa using hd⟩ (by simp only; omega) ?_
      refine wk_sel [1] (slotsOf 27 [(0, .c (.int .i64 ((u / 256 : Nat) : Int))), (3, .c (.int .u8 (sig n : Nat))), (4, .sl 1 1 0 (1 + d.length) (1 + d.length))]) hho (by simp [livH, livO, AV.livL, AV.liv, wkL, wkV, List.range', slotsOf, ew]) rfl rfl ?_ ?_ (by decide) (by simp [hst]) (by simp [hE, lens]) ?_ ?_
      · refine ⟨List.all_eq_true.2 fun x hx => ?_, trivial⟩
        rcases List.mem_cons.1 hx with rfl | hx
        · rfl
        · exact (u8av_all d).2 trivial x hx
      · simp
      · simp [slotsOf, Nat.add_comm]
      · simp [u8av, u8, hw]
theorem ref1num_w (n : Int) (h1 : -9223372036854775808 ≤ n) (h2 : n ≤ 9223372036854775807) : ACalls Tryd.prog 33 [.c (.int .i64 n)] [] (fun _ => false) (fun r h' => r = .fs 1 (num n).length (u8av (num n)) ∧ h' = []) := by
  have hl := num_len n h1 h2
  refine ref1num_gen n h1 h2 _ fun x => ?_
  refine Ret.sel [] (fun k => k == 1) (ho := by rfl) (ha := by rfl) ?_ ?_ (by decide) (by simp) (by simp) ⟨?_, rfl⟩
  · simp
  · simp
    exact ⟨by unfold maxLen; omega, fun x hx => (u8av_all _).2 trivial x (List.mem_of_mem_take hx)⟩
  · simp [List.take_of_length_le]
/-- its bytes lie where they can grow -/
theorem ref1num_l (n : Int) (h1 : -9223372036854775808 ≤ n) (h2 : n ≤ 9223372036854775807) : ACalls Tryd.prog 33 [.c (.int .i64 n)] [] (fun _ => false) (fun r h' => r = .sl 0 1 0 (num n).length (num n).length ∧ h' = [.o (.row 5 1) (u8av (num n))]) := by
  refine ref1num_gen n h1 h2 _ fun x => ?_
  refine Ret.sel [1] (fun _ => false) (ho := by rfl) (ha := by rfl) ?_ ?_ (by decide) (by simp) (by simp) ⟨rfl, rfl⟩
  · simp
  · simp
end Go.Proofs.YtniifindnnfkaaaDoor
