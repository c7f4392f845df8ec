import Derived.Test.YtmgpiminicgbiaaP7o
namespace Go.Proofs.Ytmgpiminicgbiaa
set_option linter.unusedVariables false
set_option linter.unusedSimpArgs false
open Go.RowKit
attribute [local simp] isCut_nil isCut_region isCut_seq isCut_block isCut_loop isCut_cond isCut_skip isCut_exit isCut_ret isCut_range swapK putK altK condK_bool pickP_bool stepP stepO onPure_some onPure_none onImpl_some onImpl_none stepC onGP_some onGP_none onGV_some condG mkG onIt_it nextP_ptr takeP_eq takeV_some takeV_none takeU_some takeU_none takeQ takeW_some takeN_none takeN_some takeG_some takeO_some altO_some pureV binV2 eqF eqOp ovlV ovl2 rowAt capV binV intBin strBin isSh shV fldV ixV sliceV slice3V loadAV nilV lenV callV unV convV viewS cellsH loadV fldCut AV.ung AV.ungs AV.gc AV.cells AS.ev AS.put anyS gcsV gcO lens lnO gV guardV retK RetP_eq resV oneV anyRo loIx hiIx implO callP_clo evL gcsL clearV storeAV AS.push AS.setO appV appZ shortS copyV buildV partsV fillV srcV fzO okV isCell_c isCell_ptr isCell_sl isCell_fs isCell_fp isCell_clo rowZ_one rowZ_zero rowZ_2 rowZ_3 rowZ_4 rowZ_5 rowZ_6 rowZ_7 rowZ_8 rowZ_9 rowZ_10 rowZ_11 rowZ_12 noHo Value.oneCell' max2V min2V lookV updV updK updW cvals mkAt basV lenM msAt afterH putBack frzFrom frzO rebO backIx nilEq_sl nilEq_fs nilEq_ifn nilEq_ifh ifOp_eql ifOp_neq isLit nilOp_eql nilOp_neq AV.reb AV.rebL
attribute [local simp ↓] runK_skip runK_region runK_draw runK_seq runK_cut runK_cond runK_block runK_loop runK_exit runK_label runK_goto runK_ret runK_range contK_nil contK_seq contK_seq_ret contK_seq_exit contK_seq_goto contK_block contK_block_ret contK_block_goto contK_block_exit runO_nil runO_cons roundK_exit roundK_ret roundK_goto exitK_ret cutK_ret cutK_exit runE_done runE_nil runE_take runE_alt condG_true condG_false
set_option maxRecDepth 10000
/-! ## LogPlays: small contracts -/
theorem call_dh {P : Program} {E : Env} {s : AS} {g : FuncId} {args : List AV} {K : AV → AS → Prop} (lent : List Nat) (dead : List Nat) {cargs : List AV} {ch : List AObj} {st : Nat → Bool} {r : AV} {h' : List AObj} {pa po : Prop} {cargs' : List AV} {ch' : List AObj} (hc : ACalls P g cargs' ch' st (fun a b => a = r ∧ b = h'))
    (ha : AV.convL lent (fun _ => false) s.h args = some (pa, cargs)) (ho : convOs lent (fun _ => false) s.h lent = some (po, ch)) (hx : cargs = cargs' ∧ ch = ch') (hE : ∀ k ∈ lent, E.ho k = false) (hst : ∀ (i k : Nat), lent[i]? = some k → st i = true ∨ k ∈ dead) (hdt : AV.livL dead s.t = true) (hdo : livH dead lent 0 s.h = true) (hde : ∀ k ∈ dead, E.st k = false ∨ E.ln0.length ≤ k)
    (hn : lent.Nodup) (hp : pa ∧ po) (hl : lent.length ≤ h'.length) (hK : K (r.reb (backIx lent s.h.length)) ⟨s.t, afterH lent (fun _ => false) s.h h'⟩) : CallG P E g args s K := by
  obtain ⟨rfl, rfl⟩ := hx
  exact call_of lent (fun _ => false) dead hc ha hp.1 ho hp.2 hn (fun _ _ => rfl) hst hdt hdo hde hE (fun k h => by cases h) fun a b ⟨e1, e2⟩ => by subst e1 e2; exact ⟨hl, hK⟩
theorem openF (D : DevS) (hD : D.Ok) (hcl : D.calls ≤ 100000) (hwl : D.wait.length ≤ 100000) (n : Nat) (h1 : 1 ≤ n) (h2 : (n : Int) ≤ D.kept.length - 2) (W : Int × DevS × LogS) (hW : openS D n = W) (h0 : W.1 ≠ 0) :
    ACalls Try.prog 9 [.ptr 0 0 5, .c (.int .i64 n)] (devO D) (fun k => decide (k < 2)) (fun r h' => r = .tup [.c (.pointer none), .c (.int .i64 W.1)] ∧ h' = devO W.2.1) := by
  refine open_dev D hD hcl hwl n h1 h2 _ ⟨fun h => ?_, fun _ => ⟨by rw [hW], by rw [hW]⟩⟩
  rw [hW] at h
  exact absurd h h0
theorem open7T (D : DevS) (hD : D.Ok) (hcl : D.calls ≤ 100000) (hwl : D.wait.length ≤ 100000) (n : Nat) (h1 : 1 ≤ n) (h2 : (n : Int) ≤ D.kept.length - 2) (W : Int × DevS × LogS) (hW : openS D n = W) (h0 : W.1 = 0) :
    ACalls Try.prog 22 [.ptr 0 0 4, .c (.int .i64 n)] (refO D) (fun k => decide (k < 2)) (fun r h' => r = .tup [.ptr 3 0 9, .c (.int .i64 0)] ∧ h' = dlR W.2.1 W.2.2) := by
  refine open7 D hD hcl hwl n h1 h2 _ ⟨fun _ => ⟨rfl, by rw [hW]⟩, fun h => ?_⟩
  rw [hW] at h
  exact absurd h0 h
theorem open7F (D : DevS) (hD : D.Ok) (hcl : D.calls ≤ 100000) (hwl : D.wait.length ≤ 100000) (n : Nat) (h1 : 1 ≤ n) (h2 : (n : Int) ≤ D.kept.length - 2) (W : Int × DevS × LogS) (hW : openS D n = W) (h0 : W.1 ≠ 0) :
    ACalls Try.prog 22 [.ptr 0 0 4, .c (.int .i64 n)] (refO D) (fun k => decide (k < 2)) (fun r h' => r = .tup [.c (.pointer none), .c (.int .i64 W.1)] ∧ h' = refO W.2.1) := by
  refine open7 D hD hcl hwl n h1 h2 _ ⟨fun h => ?_, fun _ => ⟨by rw [hW], by rw [hW]⟩⟩
  rw [hW] at h
  exact absurd h h0
theorem open_nil7 : ACalls Try.prog 9 [.c (.pointer none), .c (.int .i64 1)] [] (fun _ => false) (fun r h' => r = .tup [.c (.pointer none), .c (.int .i64 1)] ∧ h' = []) := by
  refine acalls mixed Try.func9 rfl Try.ntmps9 rfl fun E hE hst hho => ?_
  simp (maxSteps := 1000000) [hho, noHo, undef, onGP_none, condG_false, -List.reduceReplicate]
  exact Ret.same ⟨rfl, rfl⟩
theorem up_nil : ACalls Try.prog 36 [.c (.pointer none)] [] (fun _ => false) (fun r h' => r = .c (.int .i64 1) ∧ h' = []) := by
  refine acalls mixed Try.func36 rfl Try.ntmps36 rfl fun E hE hst hho => ?_
  simp (maxSteps := 1000000) [hho, noHo, undef, onGP_none, condG_false, -List.reduceReplicate]
  exact Ret.same ⟨rfl, rfl⟩
theorem append_nil : ACalls Try.prog 13 [.c (.pointer none), .c (.slice none 0 0)] [] (fun _ => false) (fun r h' => r = .c (.int .i64 1) ∧ h' = []) := by
  refine acallsM mixed Try.func13 rfl Try.ntmps13 rfl fun E hE hst hho hmk => ?_
  simp (maxSteps := 1000000) [hho, noHo, undef, onGP_none, condG_false, -List.reduceReplicate]
  refine call_0 (up_nil) rfl rfl hho (by simp) ?_
  simp (maxSteps := 1000000) [hho, noHo, undef, onGP_none, condG_false, -List.reduceReplicate]
  exact Ret.drop (by rfl) ⟨rfl, rfl⟩
theorem reset_nil : ACalls Try.prog 12 [.c (.pointer none), .c (.slice none 0 0)] [] (fun _ => false) (fun r h' => r = .c (.int .i64 1) ∧ h' = []) := by
  refine acalls mixed Try.func12 rfl Try.ntmps12 rfl fun E hE hst hho => ?_
  simp (maxSteps := 1000000) [hho, noHo, undef, onGP_none, condG_false, -List.reduceReplicate]
  refine call_0 (up_nil) rfl rfl hho (by simp) ?_
  simp (maxSteps := 1000000) [hho, noHo, undef, onGP_none, condG_false, -List.reduceReplicate]
  exact Ret.same ⟨rfl, rfl⟩
theorem head_nil : ACalls Try.prog 18 [.c (.pointer none)] [] (fun _ => false) (fun r h' => r = .c (.slice none 0 0) ∧ h' = []) := by
  refine acalls mixed Try.func18 rfl Try.ntmps18 rfl fun E hE hst hho => ?_
  simp (maxSteps := 1000000) [hho, noHo, undef, onGP_none, condG_false, -List.reduceReplicate]
  exact Ret.same ⟨rfl, rfl⟩
theorem batches_nil : ACalls Try.prog 16 [.c (.pointer none)] [] (fun _ => false) (fun r h' => r = .c (.slice none 0 0) ∧ h' = []) := by
  refine acalls mixed Try.func16 rfl Try.ntmps16 rfl fun E hE hst hho => ?_
  simp (maxSteps := 1000000) [hho, noHo, undef, onGP_none, condG_false, -List.reduceReplicate]
  exact Ret.same ⟨rfl, rfl⟩
theorem epoch_nil : ACalls Try.prog 20 [.c (.pointer none)] [] (fun _ => false) (fun r h' => r = .c (.int .i64 0) ∧ h' = []) := by
  refine acalls mixed Try.func20 rfl Try.ntmps20 rfl fun E hE hst hho => ?_
  simp (maxSteps := 1000000) [hho, noHo, undef, onGP_none, condG_false, -List.reduceReplicate]
  exact Ret.same ⟨rfl, rfl⟩
theorem room_nil : ACalls Try.prog 19 [.c (.pointer none)] [] (fun _ => false) (fun r h' => r = .c (.int .i64 0) ∧ h' = []) := by
  refine acalls mixed Try.func19 rfl Try.ntmps19 rfl fun E hE hst hho => ?_
  simp (maxSteps := 1000000) [hho, noHo, undef, onGP_none, condG_false, -List.reduceReplicate]
  exact Ret.same ⟨rfl, rfl⟩
def longS (o : Op7) : Int := if (400 < o.b.length ∧ o.b.length ≤ 65536) ∨ 200 < o.tears.length then 2000 else o.tears.length
theorem long7 (o : Op7) : ACalls Try.prog 10 [.agg (op7A o)] [] (fun _ => false) (fun r h' => r = .c (.int .i64 (longS o))) := by
  refine acalls mixed Try.func10 rfl Try.ntmps10 rfl fun E hE hst hho => ?_
  by_cases h1 : 400 < o.b.length
  · have h1i : (400 : Int) < o.b.length := by omega
    by_cases h2 : o.b.length ≤ 65536
    · have h2i : (o.b.length : Int) ≤ 65536 := by omega
      have hl : longS o = 2000 := by unfold longS; rw [if_pos (.inl ⟨h1, h2⟩)]
      rw [hl]
      simp (maxSteps := 1000000) [op7A, hho, h1, h1i, h2, h2i, -List.reduceReplicate]
      exact Ret.drop (by decide) rfl
    · have h2i : ¬ (o.b.length : Int) ≤ 65536 := by omega
      by_cases h3 : 200 < o.tears.length
      · have h3i : (200 : Int) < o.tears.length := by omega
        have hl : longS o = 2000 := by unfold longS; rw [if_pos (.inr h3)]
        rw [hl]
        simp (maxSteps := 1000000) [op7A, hho, h1, h1i, h2, h2i, h3, h3i, -List.reduceReplicate]
        exact Ret.drop (by decide) rfl
      · have h3i : ¬ (200 : Int) < o.tears.length := by omega
        have hl : longS o = o.tears.length := by unfold longS; rw [if_neg (by omega)]
        rw [hl]
        simp (maxSteps := 1000000) [op7A, hho, h1, h1i, h2, h2i, h3, h3i, -List.reduceReplicate]
        exact Ret.drop (by rfl) rfl
  · have h1i : ¬ (400 : Int) < o.b.length := by omega
    by_cases h3 : 200 < o.tears.length
    · have h3i : (200 : Int) < o.tears.length := by omega
      have hl : longS o = 2000 := by unfold longS; rw [if_pos (.inr h3)]
      rw [hl]
      simp (maxSteps := 1000000) [op7A, hho, h1, h1i, h3, h3i, -List.reduceReplicate]
      exact Ret.drop (by decide) rfl
    · have h3i : ¬ (200 : Int) < o.tears.length := by omega
      have hl : longS o = o.tears.length := by unfold longS; rw [if_neg (by omega)]
      rw [hl]
      simp (maxSteps := 1000000) [op7A, hho, h1, h1i, h3, h3i, -List.reduceReplicate]
      exact Ret.drop (by rfl) rfl
end Go.Proofs.Ytmgpiminicgbiaa
