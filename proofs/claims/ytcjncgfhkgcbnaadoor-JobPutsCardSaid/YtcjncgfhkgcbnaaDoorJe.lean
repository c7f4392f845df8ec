import Derived.Test.YtcjncgfhkgcbnaaDoorWq
import Derived.Test.YtcjncgfhkgcbnaaDoorHRh
import Derived.Test.YtcjncgfhkgcbnaaDoorHZ1
namespace Go.Proofs.YtcjncgfhkgcbnaaDoor
set_option linter.unusedVariables false
set_option linter.unusedSimpArgs false
open Go.RowKit
attribute [local simp] isCut_nil isCut_region isCut_seq isCut_block isCut_loop isCut_cond isCut_skip isCut_exit isCut_ret isCut_range swapK putK altK condK_bool pickP_bool stepP stepO onPure_some onPure_none onImpl_some onImpl_none stepC onGP_some onGP_none onGV_some condG mkG onIt_it nextP_ptr takeP_eq takeV_some takeV_none takeU_some takeU_none takeQ takeW_some takeN_none takeN_some takeG_some takeO_some altO_some pureV binV2 eqF eqOp ovlV ovl2 rowAt capV binV intBin strBin isSh shV fldV ixV sliceV slice3V loadAV nilV lenV callV unV convV viewS cellsH loadV fldCut AV.ung AV.ungs AV.gc AV.cells AS.ev AS.put anyS gcsV gcO lens lnO gV guardV retK RetP_eq resV oneV anyRo loIx hiIx implO callP_clo evL gcsL clearV storeAV AS.push AS.setO appV appZ shortS copyV buildV partsV fillV srcV fzO okV isCell_c isCell_ptr isCell_sl isCell_fs isCell_fp isCell_clo rowZ_one rowZ_zero rowZ_2 rowZ_3 rowZ_4 rowZ_5 rowZ_6 rowZ_7 rowZ_8 rowZ_9 rowZ_10 rowZ_11 rowZ_12 noHo Value.oneCell' max2V min2V lookV updV lenM msAt afterH putBack frzFrom frzO rebO backIx nilEq_sl nilEq_fs nilOp_eql nilOp_neq AV.reb AV.rebL
attribute [local simp ↓] runK_skip runK_region runK_draw runK_seq runK_cut runK_cond runK_block runK_loop runK_exit runK_label runK_goto runK_ret runK_range contK_nil contK_seq contK_seq_ret contK_seq_exit contK_seq_goto contK_block contK_block_ret contK_block_goto contK_block_exit runO_nil runO_cons roundK_exit roundK_ret roundK_goto exitK_ret cutK_ret cutK_exit runE_done runE_nil runE_take runE_alt condG_true condG_false
set_option maxRecDepth 10000
section
variable {P : Program} {E : Env} {s : AS}
theorem call_hd {g : FuncId} {args : List AV} {K : AV → AS → Prop} (lent : List Nat) (ok : Nat → Bool) {cargs : List AV} {ch : List AObj} {st : Nat → Bool} {r : AV} {h' : List AObj} {pa po : Prop} {cargs' : List AV} {ch' : List AObj} (hc : ACalls P g cargs' ch' st (fun a b => a = r ∧ b = h'))
    (ha : AV.convL lent ok s.h args = some (pa, cargs)) (ho : convOs lent ok s.h lent = some (po, ch)) (hx : cargs = cargs' ∧ ch = ch') (hE : ∀ k ∈ lent, E.ho k = false) (hE2 : ∀ k, ok k = true → E.ho k = false) (hst : ∀ i, i < lent.length → st i = true) (hn : lent.Nodup) (hok : ∀ k ∈ lent, ok k = false) (hp : pa ∧ po) (hl : lent.length ≤ h'.length)
    (hK : K (r.reb (backIx lent s.h.length)) ⟨s.t, afterH lent ok s.h h'⟩) : CallG P E g args s K := by
  obtain ⟨rfl, rfl⟩ := hx
  exact call_of lent ok [] hc ha hp.1 ho hp.2 hn hok (fun i k h => .inl (hst i (List.getElem?_eq_some_iff.1 h).1)) (livL_nil _) (livH_nil _ _ _) (fun k h => by cases h) hE hE2 fun a b ⟨e1, e2⟩ => by subst e1 e2; exact ⟨hl, hK⟩
end
theorem r16num_w (l : List Int) (hl : l.length ≤ 100000) (hi : ∀ k ∈ l, i64v k) : ACalls Tryd.prog 37 [.fs 1 l.length (intsA l)] [] (fun _ => false) (fun r h' => r = .c (.string (str (numsB l))) ∧ h' = []) := by
  refine acalls mixed Tryd.func37 rfl Tryd.ntmps37 rfl fun E hE hst hho => ?_
  simp (maxSteps := 1000000) [hho, noHo, -List.reduceReplicate]
  refine loop_k mixed (fun j : Nat => ⟨slotsOf 19 [(3, .c (.string (str (numsB (l.take j))))), (6, .fs 1 l.length (intsA l)), (7, .c (.int .i64 l.length)), (8, .c (.int .i64 (j : Nat)))], []⟩) (fun j => l.length - j) (fun j => j ≤ l.length) 0 (Nat.zero_le _) ?_ ?_
  · exact wk_eq (by simp [hE, lens]) (by simp) (by simp [livH, livO, AV.livL, AV.liv, wkL, wkV, List.range', slotsOf, numsB, str])
  intro j hj
  by_cases hjl : j < l.length
  · have hat := intsA_get l j hjl
    have ew : IntKind.i64.wrap ((j : Int) + 1) = (j + 1 : Nat) := by rw [IntWalk.i64_in _ (by omega)]; rfl
    have hsn := numsB_snoc l j hjl
    have hbl := numsB_len (l.take j) fun z hz => hi z (List.mem_of_mem_take hz)
    rw [List.length_take] at hbl
    have hko := hi l[j] (List.getElem_mem hjl)
    obtain ⟨k, hk⟩ : ∃ k, k = l[j] := ⟨_, rfl⟩
    rw [← hk] at hat hsn hko
    obtain ⟨B, hB⟩ : ∃ B, B = numsB (l.take j) := ⟨_, rfl⟩
    rw [← hB] at hsn hbl ⊢
    have hnl := num_len k hko.1 hko.2
    simp (maxSteps := 1000000) [hho, noHo, slotsOf, hjl, hat, -List.reduceReplicate]
    refine ⟨by omega, ?_⟩
    refine call_x [] (ref1num_w k hko.1 hko.2) rfl rfl ⟨rfl, rfl⟩ hho (by simp) (by decide) (by simp) (by simp) ?_
    simp (maxSteps := 1000000) [hho, noHo, bytesOf_str, str_app, str_size, ew, -List.reduceReplicate]
    refine ⟨by omega, round_next (j + 1) (by omega) (by omega) ?_⟩
    exact wk_eq (by simp [hE, lens]) (by simp) (by simp [livH, livO, AV.livL, AV.liv, wkL, wkV, List.range', slotsOf, hsn])
  obtain rfl : j = l.length := by omega
  rw [List.take_length]
  simp (maxSteps := 1000000) [hho, noHo, slotsOf, -List.reduceReplicate]
  exact Ret.drop (by rfl) ⟨rfl, rfl⟩
theorem r16flag_w (x : Bool) : ACalls Tryd.prog 39 [.c (.bool x)] [] (fun _ => false) (fun r h' => r = .c (.int .i64 (flagI x)) ∧ h' = []) := by
  refine acalls mixed Tryd.func39 rfl Tryd.ntmps39 rfl fun E hE hst hho => ?_
  cases x
  · simp (maxSteps := 1000000) [hho, noHo, -List.reduceReplicate]
    exact Ret.drop (by rfl) ⟨rfl, rfl⟩
  · simp (maxSteps := 1000000) [hho, noHo, -List.reduceReplicate]
    exact Ret.drop (by rfl) ⟨rfl, rfl⟩
theorem r16text_w (s : ByteArray) (hs : s.size ≤ 100000000000) : ACalls Tryd.prog 38 [.c (.string s)] [] (fun _ => false) (fun r h' => r = .c (.string (str (txt s))) ∧ h' = []) := by
  refine acalls mixed Tryd.func38 rfl Tryd.ntmps38 rfl fun E hE hst hho => ?_
  simp (maxSteps := 1000000) [hho, noHo, -List.reduceReplicate]
  refine call_x [] (text_ref s hs) rfl rfl ⟨rfl, rfl⟩ hho (by simp) (by decide) (by simp) (by simp) ?_
  simp (maxSteps := 1000000) [hho, noHo, bytesOf_str, -List.reduceReplicate]
  exact Ret.drop (by rfl) ⟨rfl, rfl⟩
end Go.Proofs.YtcjncgfhkgcbnaaDoor
