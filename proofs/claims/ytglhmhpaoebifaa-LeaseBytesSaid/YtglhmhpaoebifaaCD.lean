import Derived.Test.YtglhmhpaoebifaaCC
import Derived.Test.YtglhmhpaoebifaaCA
namespace Go.Proofs.Ytglhmhpaoebifaa
set_option linter.unusedVariables false
set_option linter.unusedSimpArgs false
open Go.RowKit
attribute [local simp] isCut_nil isCut_region isCut_seq isCut_block isCut_loop isCut_cond isCut_skip isCut_exit isCut_ret isCut_range swapK putK altK condK_bool pickP_bool stepP stepO onPure_some onPure_none onImpl_some onImpl_none stepC onGP_some onGP_none onGV_some condG mkG onIt_it nextP_ptr takeP_eq takeV_some takeN_none takeN_some takeG_some takeO_some altO_some pureV binV2 eqF eqOp ovlV ovl2 rowAt capV binV intBin strBin isSh shV fldV ixV sliceV slice3V loadAV nilV lenV callV unV convV viewS cellsH loadV fldCut AV.ung AV.ungs AV.gc AV.cells AS.ev AS.put anyS gcsV lens lnO gV guardV retK RetP_eq resV oneV anyRo loIx hiIx implO callP_clo evL gcsL clearV storeAV AS.push AS.setO appV appZ shortS copyV buildV partsV fillV srcV fzO okV isCell_c isCell_ptr isCell_sl isCell_fs isCell_fp isCell_clo rowZ_one rowZ_zero rowZ_2 rowZ_3 rowZ_4 rowZ_5 rowZ_6 rowZ_7 rowZ_8 rowZ_9 rowZ_10 rowZ_11 rowZ_12 noHo Value.oneCell' max2V min2V afterH putBack frzFrom frzO rebO backIx nilEq_sl nilEq_fs nilOp_eql nilOp_neq AV.reb AV.rebL
attribute [local simp ↓] runK_skip runK_region runK_draw runK_seq runK_cut runK_cond runK_block runK_loop runK_exit runK_label runK_goto runK_ret runK_range contK_nil contK_seq contK_seq_ret contK_seq_exit contK_seq_goto contK_block contK_block_ret contK_block_goto contK_block_exit runO_nil runO_cons roundK_exit roundK_ret roundK_goto exitK_ret cutK_ret cutK_exit runE_done runE_nil runE_take runE_alt condG_true condG_false
set_option maxRecDepth 10000
/-! ## The reference's bytes of a book -/
def str (l : List UInt8) : ByteArray := ⟨l.toArray⟩
theorem str_app (a b : List UInt8) : str a ++ str b = str (a ++ b) := by
  apply ByteArray.ext
  simp [str]
theorem str_size (a : List UInt8) : (str a).size = a.length := by simp [str, ByteArray.size]
theorem str_inj {a b : List UInt8} : str a = str b ↔ a = b := ⟨fun h => by have := congrArg (fun x : ByteArray => x.data.toList) h; simpa [str] using this, fun h => by rw [h]⟩
theorem bytesOf_str (l : List UInt8) : bytesOf (u8av l) = str l := by
  unfold bytesOf str u8av
  congr 1
  rw [List.map_map]
  congr 1
  conv => rhs; rw [← List.map_id l]
  apply List.map_congr_left
  intro x _
  simp [u8of, u8]
@[simp] theorem u8av_u8 (l : List UInt8) : (∀ x ∈ u8av l, isU8 x = true) ↔ True := iff_true_intro <| by
  intro x hx
  simp [u8av] at hx
  obtain ⟨b, _, rfl⟩ := hx
  have := b.toNat_lt
  simp [isU8, u8]
  omega
set_option maxHeartbeats 8000000 in
theorem bytes_ref (l : List LeaseS) (hl : l.length ≤ 1000000) (hi : ∀ x ∈ l, i64L x) : ACalls Try.prog 30 [.fs 3 l.length (leasesA l)] [] (fun _ => false) (fun r h' => r = .c (.string (str (bookB l))) ∧ h' = []) := by
  refine acalls mixed Try.func30 rfl Try.ntmps30 rfl fun E hE hst hho => ?_
  have hnl := num_len (l.length : Int) (by omega) (by omega)
  simp (maxSteps := 1000000) [hho, noHo, -List.reduceReplicate]
  refine call_x [] (ref1num_w (l.length : Int) (by omega) (by omega)) rfl rfl ⟨rfl, rfl⟩ hho (by simp) (by decide) (by simp) (by simp) ?_
  simp (maxSteps := 1000000) [hho, bytesOf_str, -List.reduceReplicate]
  refine loop_k mixed (fun j : Nat => ⟨slotsOf 34 [(3, .c (.string (str (num l.length ++ (l.take j).flatMap recB)))), (10, .fs 3 l.length (leasesA l)), (11, .c (.int .i64 l.length)), (12, .c (.int .i64 (j : Int)))], []⟩) (fun j => l.length - j) (fun j => j ≤ l.length) 0 (Nat.zero_le _) ?_ ?_
  · exact wk_eq (by simp [hE, lens]) (by simp) (by simp [livH, livO, AV.livL, AV.liv, wkL, wkV, List.range', slotsOf])
  · intro j hj
    by_cases hjl : j < l.length
    · have hat := leasesA_at l j hjl
      have ew : IntKind.i64.wrap ((j : Int) + 1) = (j + 1 : Nat) := by rw [IntWalk.i64_in _ (by omega)]; rfl
      have el : j * 3 + 3 ≤ l.length * 3 := by omega
      have hs := recs_succ l j hjl
      have hbl := recs_len (l.take j) fun y hy => hi y (List.mem_of_mem_take hy)
      rw [List.length_take] at hbl
      have hxi := hi l[j] (List.getElem_mem hjl)
      obtain ⟨x, hx⟩ : ∃ x, x = l[j] := ⟨_, rfl⟩
      rw [← hx] at hat hs hxi
      obtain ⟨b, hb⟩ : ∃ b, b = num l.length ++ (l.take j).flatMap recB := ⟨_, rfl⟩
      have hbl2 : b.length ≤ 27000100 := by rw [hb, List.length_append]; omega
      have h1 := num_len x.s hxi.1.1 hxi.1.2
      have h2 := num_len x.v hxi.2.1.1 hxi.2.1.2
      have h3 := num_len x.u hxi.2.2.1 hxi.2.2.2
      have c1 := ref1num_w x.s hxi.1.1 hxi.1.2
      have c2 := ref1num_w x.v hxi.2.1.1 hxi.2.1.2
      have c3 := ref1num_w x.u hxi.2.2.1 hxi.2.2.2
      have hbe : num l.length ++ (l.take (j + 1)).flatMap recB = b ++ (num x.s ++ num x.v ++ num x.u) := by rw [hs, hb]; simp [recB]
      rw [← hb]
      simp (maxSteps := 1000000) [slotsOf, leaseA, hho, hjl, hat, el, -List.reduceReplicate]
      refine draw_k hho (.take 0 (.take 1 (.take 2 (.take 5 (.take 6 (.take 10 (.take 11 (.alt 3 (.take 4 (.alt 7 (.take 8 (.take 9 (.alt 12 (.take 13 (.take 14 (.take 15 (.take 16 (.done))))) (.nil)))) (.nil))) (.nil))))))))) [0] [] (by decide +kernel) (by simp) ?_
      simp (maxSteps := 1000000) [leaseA, hho, roOf, holdOf, wrOf, altK, heldOk, Region.binds, -List.reduceReplicate]
      intro E1
      refine call_h [] c1 rfl rfl ⟨rfl, rfl⟩ (by simp) (by simp) (by decide) (by simp) (by simp) ?_
      simp (maxSteps := 1000000) [hho, bytesOf_str, roOf, holdOf, wrOf, altK, heldOk, Region.binds, -List.reduceReplicate]
      intro E2
      refine call_h [] c2 rfl rfl ⟨rfl, rfl⟩ (by simp) (by simp) (by decide) (by simp) (by simp) ?_
      simp (maxSteps := 1000000) [hho, bytesOf_str, str_app, str_size, roOf, holdOf, wrOf, altK, heldOk, Region.binds, -List.reduceReplicate]
      refine ⟨by omega, fun E3 => ?_⟩
      refine call_h [] c3 rfl rfl ⟨rfl, rfl⟩ (by simp) (by simp) (by decide) (by simp) (by simp) ?_
      simp (maxSteps := 1000000) [hho, ew, bytesOf_str, str_app, str_size, roOf, holdOf, wrOf, altK, heldOk, Region.binds, -List.reduceReplicate]
      refine ⟨by omega, by omega, ?_⟩
      intros
      refine round_next (j + 1) (by omega) (by omega) ?_
      exact wk_of 0 1 (by simp) (by simp [hE, lens]) (by simp) (by simp [livH, livO, AV.livL, AV.liv, wkL, wkV, List.range']) (by simp [livH, livO, AV.livL, AV.liv, wkL, wkV, List.range', slotsOf, hbe])
    · obtain rfl : j = l.length := by omega
      rw [List.take_length]
      simp (maxSteps := 1000000) [slotsOf, hho, -List.reduceReplicate]
      exact Ret.same ⟨rfl, rfl⟩
end Go.Proofs.Ytglhmhpaoebifaa
