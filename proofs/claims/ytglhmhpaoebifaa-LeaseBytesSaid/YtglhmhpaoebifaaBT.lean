import Derived.Test.YtglhmhpaoebifaaBS
namespace Go.Proofs.Ytglhmhpaoebifaa
set_option linter.unusedVariables false
set_option linter.unusedSimpArgs false
open Go.RowKit
attribute [local simp] isCut_nil isCut_region isCut_seq isCut_block isCut_loop isCut_cond isCut_skip isCut_exit isCut_ret isCut_range swapK putK altK condK_bool pickP_bool stepP stepO onPure_some onPure_none onImpl_some onImpl_none stepC onGP_some onGP_none onGV_some condG mkG onIt_it nextP_ptr takeP_eq takeV_some takeN_none takeN_some takeG_some takeO_some altO_some pureV binV2 eqF eqOp ovlV ovl2 rowAt capV binV intBin strBin isSh shV fldV ixV sliceV slice3V loadAV nilV lenV callV unV convV viewS cellsH loadV fldCut AV.ung AV.ungs AV.gc AV.cells AS.ev AS.put anyS gcsV lens lnO gV guardV retK RetP_eq resV oneV anyRo loIx hiIx implO callP_clo evL gcsL clearV storeAV AS.push AS.setO appV appZ shortS copyV buildV partsV fillV srcV fzO okV isCell_c isCell_ptr isCell_sl isCell_fs isCell_fp isCell_clo rowZ_one rowZ_zero rowZ_2 rowZ_3 rowZ_4 rowZ_5 rowZ_6 rowZ_7 rowZ_8 rowZ_9 rowZ_10 rowZ_11 rowZ_12 noHo Value.oneCell' max2V min2V afterH putBack frzFrom frzO rebO backIx nilEq_sl nilEq_fs nilOp_eql nilOp_neq AV.reb AV.rebL
attribute [local simp ↓] runK_skip runK_region runK_draw runK_seq runK_cut runK_cond runK_block runK_loop runK_exit runK_label runK_goto runK_ret runK_range contK_nil contK_seq contK_seq_ret contK_seq_exit contK_seq_goto contK_block contK_block_ret contK_block_goto contK_block_exit runO_nil runO_cons roundK_exit roundK_ret roundK_goto exitK_ret cutK_ret cutK_exit runE_done runE_nil runE_take runE_alt condG_true condG_false
set_option maxRecDepth 10000
/-! ## Put of the document; All, Give; what a nil book answers -/
section
variable {P : Program} {E : Env} {s : AS}
/-- as call_f, where blocks are held -/
theorem call_hf {g : FuncId} {args : List AV} {K : AV → AS → Prop} (lent : List Nat) (ok : Nat → Bool) {cargs : List AV} {ch : List AObj} {st : Nat → Bool} {r : AV} {h' : List AObj} {pa po : Prop} {cargs' : List AV} {ch' : List AObj} (hc : ACalls P g cargs' ch' st (fun a b => a = r ∧ b = h'))
    (ha : AV.convL lent ok s.h args = some (pa, cargs)) (ho : convOs lent ok s.h lent = some (po, ch)) (hx : cargs = cargs' ∧ ch = ch') (hE : ∀ k ∈ lent, E.ho k = false) (hE2 : ∀ k, ok k = true → E.ho k = false) (hst : ∀ i, i < lent.length → st i = true) (hn : lent.Nodup) (hok : ∀ k ∈ lent, ok k = false) (hp : pa ∧ po) (hl : lent.length ≤ h'.length)
    (hK : K (r.reb (backIx lent s.h.length)) ⟨s.t, afterH lent ok s.h h'⟩) : CallG P E g args s K := by
  obtain ⟨rfl, rfl⟩ := hx
  exact call_of lent ok [] hc ha hp.1 ho hp.2 hn hok (fun i k h => .inl (hst i (List.getElem?_eq_some_iff.1 h).1)) (livL_nil _) (livH_nil _ _ _) (fun k h => by cases h) hE hE2 fun a b ⟨e1, e2⟩ => by subst e1 e2; exact ⟨hl, hK⟩
end
set_option maxHeartbeats 8000000 in
theorem put_ref (l : List LeaseS) (hl : l.length ≤ 900) (x : LeaseS) (hok : SrtOk (l.filter (fun y => decide (y.s ≠ x.s)) ++ [x])) : ACalls Try.prog 22 [.fs 3 l.length (leasesA l), .agg (leaseA x)] [] (fun _ => false) (fun r h' => r = .fs 3 (srtP (l.filter (fun y => decide (y.s ≠ x.s)) ++ [x]) 16).length (leasesA (srtP (l.filter (fun y => decide (y.s ≠ x.s)) ++ [x]) 16)) ∧ h' = []) := by
  refine acalls mixed Try.func22 rfl Try.ntmps22 rfl fun E hE hst hho => ?_
  have h3 : List.take 3 (leaseA x) = leaseA x := rfl
  have hdl : (l.filter fun y => decide (y.s ≠ x.s)).length ≤ 900 := Nat.le_trans (List.length_filter_le _ _) hl
  have hdr := drop_row l (by omega) x.s
  obtain ⟨d, hd⟩ : ∃ d, d = l.filter fun y => decide (y.s ≠ x.s) := ⟨_, rfl⟩
  rw [← hd] at hok hdl hdr ⊢
  have hso := sorted_ref (d ++ [x]) (by simp; omega) (fun r h' => r = .tup [.fs 3 (srtP (d ++ [x]) 16).length (leasesA (srtP (d ++ [x]) 16)), .c (.bool true)] ∧ h' = []) (fun _ => ⟨rfl, rfl⟩) (fun h => absurd hok h)
  obtain ⟨q, hq⟩ : ∃ q, q = srtP (d ++ [x]) 16 := ⟨_, rfl⟩
  rw [← hq] at hso ⊢
  have hs2 := leasesA_snoc d x
  simp (maxSteps := 1000000) [hho, h3, -List.reduceReplicate]
  refine draw_k hho (.take 0 (.take 1 (.take 2 (.take 4 (.alt 3 (.alt 5 (.alt 6 (.alt 7 (.take 8 (.take 9 (.take 10 (.take 11 (.take 12 (.done)))))) (.nil)) (.nil)) (.nil)) (.alt 5 (.alt 3 (.alt 6 (.alt 7 (.take 8 (.take 9 (.take 10 (.take 11 (.take 12 (.done)))))) (.nil)) (.nil)) (.nil)) (.nil))))))) [0] [] (by decide +kernel) (by simp) ?_
  simp (maxSteps := 1000000) [hho, h3, leaseA, roOf, holdOf, wrOf, altK, heldOk, Region.binds, -List.reduceReplicate]
  constructor
  · intro E1
    refine call_h [] hdr rfl rfl ⟨rfl, rfl⟩ (by simp) (by simp) (by decide) (by simp) (by simp) ?_
    simp (maxSteps := 1000000) [hho, rowL, h3, leaseA, roOf, holdOf, wrOf, altK, heldOk, Region.binds, -List.reduceReplicate]
    intro E3
    intro E4
    refine ⟨by omega, fun E5 => ?_⟩
    refine call_hf [] (fun k => k == 1) hso rfl rfl ⟨?_, rfl⟩ (by simp) (by simp) (by simp) (by decide) (by simp) ?_ (by simp) ?_
    · simp only [List.drop_zero]
      rw [List.take_of_length_le (by simp; omega), hs2, List.length_append]
      rfl
    · refine ⟨⟨⟨by simp, by omega, by unfold maxLen; omega, ?_⟩, trivial⟩, trivial⟩
      rw [List.drop_zero, List.take_of_length_le (by simp; omega), ← hs2]
      exact List.all_eq_true.2 ((leasesA_all _).2 trivial)
    simp (maxSteps := 1000000) [hho, rowL, h3, leaseA, roOf, holdOf, wrOf, altK, heldOk, Region.binds, -List.reduceReplicate]
    intros
    refine Ret.sel [] (fun _ => false) (ho := by rfl) (ha := by rfl) ?_ ?_ (by decide) (by simp) (by simp) ⟨rfl, rfl⟩
    · simp
    · simp
  · intro E1 E2
    refine call_h [] hdr rfl rfl ⟨rfl, rfl⟩ (by simp) (by simp) (by decide) (by simp) (by simp) ?_
    simp (maxSteps := 1000000) [hho, rowL, h3, leaseA, roOf, holdOf, wrOf, altK, heldOk, Region.binds, -List.reduceReplicate]
    intro E3
    refine ⟨by omega, fun E4 => ?_⟩
    refine call_hf [] (fun k => k == 2) hso rfl rfl ⟨?_, rfl⟩ (by simp) (by simp) (by simp) (by decide) (by simp) ?_ (by simp) ?_
    · simp only [List.drop_zero]
      rw [List.take_of_length_le (by simp; omega), hs2, List.length_append]
      rfl
    · refine ⟨⟨⟨by simp, by omega, by unfold maxLen; omega, ?_⟩, trivial⟩, trivial⟩
      rw [List.drop_zero, List.take_of_length_le (by simp; omega), ← hs2]
      exact List.all_eq_true.2 ((leasesA_all _).2 trivial)
    simp (maxSteps := 1000000) [hho, rowL, h3, leaseA, roOf, holdOf, wrOf, altK, heldOk, Region.binds, -List.reduceReplicate]
    intros
    refine Ret.sel [] (fun _ => false) (ho := by rfl) (ha := by rfl) ?_ ?_ (by decide) (by simp) (by simp) ⟨rfl, rfl⟩
    · simp
    · simp
/-! a nil book -/
theorem find_nil (k : Int) : ACalls Try.prog 36 [.c (.pointer none), .c (.int .i64 k)] [] (fun _ => false) (fun r h' => r = .tup [.c (.int .i64 0), .c (.bool false)] ∧ h' = []) := by
  refine acalls mixed Try.func36 rfl Try.ntmps36 rfl fun E hE hst hho => ?_
  simp (maxSteps := 1000000) [hho, -List.reduceReplicate]
  exact Ret.drop (by rfl) ⟨rfl, rfl⟩
theorem take_nil (k v u : Int) : ACalls Try.prog 11 [.c (.pointer none), .c (.int .i64 k), .c (.int .i64 v), .c (.int .i64 u)] [] (fun _ => false) (fun r h' => r = .c (.int .i64 1) ∧ h' = []) := by
  refine acalls mixed Try.func11 rfl Try.ntmps11 rfl fun E hE hst hho => ?_
  simp (maxSteps := 1000000) [hho, -List.reduceReplicate]
  refine call_x [] (find_nil k) rfl rfl ⟨rfl, rfl⟩ hho (by simp) (by decide) (by simp) (by simp) ?_
  simp (maxSteps := 1000000) [hho, -List.reduceReplicate]
  exact Ret.drop (by rfl) ⟨rfl, rfl⟩
theorem give_nil (k : Int) : ACalls Try.prog 17 [.c (.pointer none), .c (.int .i64 k)] [] (fun _ => false) (fun r h' => r = .c (.bool false) ∧ h' = []) := by
  refine acalls mixed Try.func17 rfl Try.ntmps17 rfl fun E hE hst hho => ?_
  simp (maxSteps := 1000000) [hho, -List.reduceReplicate]
  refine call_x [] (find_nil k) rfl rfl ⟨rfl, rfl⟩ hho (by simp) (by decide) (by simp) (by simp) ?_
  simp (maxSteps := 1000000) [hho, -List.reduceReplicate]
  exact Ret.drop (by rfl) ⟨rfl, rfl⟩
theorem get_nil (k now : Int) : ACalls Try.prog 16 [.c (.pointer none), .c (.int .i64 k), .c (.int .i64 now)] [] (fun _ => false) (fun r h' => r = .tup [.c (.int .i64 0), .c (.bool false)] ∧ h' = []) := by
  refine acalls mixed Try.func16 rfl Try.ntmps16 rfl fun E hE hst hho => ?_
  simp (maxSteps := 1000000) [hho, -List.reduceReplicate]
  refine call_x [] (find_nil k) rfl rfl ⟨rfl, rfl⟩ hho (by simp) (by decide) (by simp) (by simp) ?_
  simp (maxSteps := 1000000) [hho, undef, onGP_none, condG_false, -List.reduceReplicate]
  exact Ret.drop (by rfl) ⟨rfl, rfl⟩
theorem expire_nil (now : Int) : ACalls Try.prog 12 [.c (.pointer none), .c (.int .i64 now)] [] (fun _ => false) (fun r h' => r = .c (.int .i64 0) ∧ h' = []) := by
  refine acalls mixed Try.func12 rfl Try.ntmps12 rfl fun E hE hst hho => ?_
  simp (maxSteps := 1000000) [hho, -List.reduceReplicate]
  exact Ret.drop (by rfl) ⟨rfl, rfl⟩
theorem versions_nil (now : Int) : ACalls Try.prog 40 [.c (.pointer none), .c (.int .i64 now)] [] (fun _ => false) (fun r h' => r = .c (.slice none 0 0) ∧ h' = []) := by
  refine acalls mixed Try.func40 rfl Try.ntmps40 rfl fun E hE hst hho => ?_
  simp (maxSteps := 1000000) [hho, -List.reduceReplicate]
  exact Ret.drop (by rfl) ⟨rfl, rfl⟩
theorem oldest_nil (now : Int) : ACalls Try.prog 13 [.c (.pointer none), .c (.int .i64 now)] [] (fun _ => false) (fun r h' => r = .tup [.c (.int .i64 0), .c (.bool false)] ∧ h' = []) := by
  refine acalls mixed Try.func13 rfl Try.ntmps13 rfl fun E hE hst hho => ?_
  simp (maxSteps := 1000000) [hho, -List.reduceReplicate]
  refine call_x [] (versions_nil now) rfl rfl ⟨rfl, rfl⟩ hho (by simp) (by decide) (by simp) (by simp) ?_
  simp (maxSteps := 1000000) [hho, -List.reduceReplicate]
  exact Ret.drop (by rfl) ⟨rfl, rfl⟩
theorem newest_nil (now : Int) : ACalls Try.prog 14 [.c (.pointer none), .c (.int .i64 now)] [] (fun _ => false) (fun r h' => r = .tup [.c (.int .i64 0), .c (.bool false)] ∧ h' = []) := by
  refine acalls mixed Try.func14 rfl Try.ntmps14 rfl fun E hE hst hho => ?_
  simp (maxSteps := 1000000) [hho, -List.reduceReplicate]
  refine call_x [] (versions_nil now) rfl rfl ⟨rfl, rfl⟩ hho (by simp) (by decide) (by simp) (by simp) ?_
  simp (maxSteps := 1000000) [hho, -List.reduceReplicate]
  exact Ret.drop (by rfl) ⟨rfl, rfl⟩
theorem may_nil (v now : Int) : ACalls Try.prog 10 [.c (.pointer none), .c (.int .i64 v), .c (.int .i64 now)] [] (fun _ => false) (fun r h' => r = .c (.bool true) ∧ h' = []) := by
  refine acalls mixed Try.func10 rfl Try.ntmps10 rfl fun E hE hst hho => ?_
  simp (maxSteps := 1000000) [hho, -List.reduceReplicate]
  refine call_x [] (oldest_nil now) rfl rfl ⟨rfl, rfl⟩ hho (by simp) (by decide) (by simp) (by simp) ?_
  simp (maxSteps := 1000000) [hho, -List.reduceReplicate]
  exact Ret.drop (by rfl) ⟨rfl, rfl⟩
theorem wait_nil (v now : Int) : ACalls Try.prog 9 [.c (.pointer none), .c (.int .i64 v), .c (.int .i64 now)] [] (fun _ => false) (fun r h' => r = .c (.int .i64 0) ∧ h' = []) := by
  refine acalls mixed Try.func9 rfl Try.ntmps9 rfl fun E hE hst hho => ?_
  simp (maxSteps := 1000000) [hho, -List.reduceReplicate]
  refine call_x [] (may_nil v now) rfl rfl ⟨rfl, rfl⟩ hho (by simp) (by decide) (by simp) (by simp) ?_
  simp (maxSteps := 1000000) [hho, -List.reduceReplicate]
  exact Ret.drop (by rfl) ⟨rfl, rfl⟩
theorem all_nil : ACalls Try.prog 18 [.c (.pointer none)] [] (fun _ => false) (fun r h' => r = .c (.slice none 0 0) ∧ h' = []) := by
  refine acalls mixed Try.func18 rfl Try.ntmps18 rfl fun E hE hst hho => ?_
  simp (maxSteps := 1000000) [hho, -List.reduceReplicate]
  exact Ret.drop (by rfl) ⟨rfl, rfl⟩
theorem bytes_nil : ACalls Try.prog 19 [.c (.pointer none)] [] (fun _ => false) (fun r h' => r = .c (.slice none 0 0) ∧ h' = []) := by
  refine acalls mixed Try.func19 rfl Try.ntmps19 rfl fun E hE hst hho => ?_
  simp (maxSteps := 1000000) [hho, -List.reduceReplicate]
  exact Ret.drop (by rfl) ⟨rfl, rfl⟩
/-! All, Give -/
theorem clone_lease (l : List LeaseS) (hl : l.length ≤ 1000000) : ACalls Try.prog 44 [.sl 0 3 0 l.length (l.length * 3)] [rowL l] (fun k => decide (k = 0)) (fun r h' => r = .fs 3 l.length (leasesA l) ∧ h' = [rowL l]) := by
  refine acalls mixed Try.func44 rfl Try.ntmps44 rfl fun E hE hst hho => ?_
  simp (maxSteps := 1000000) [rowL, hho, -List.reduceReplicate]
  refine ⟨⟨⟨by omega, fun x hx => (leasesA_cell l).2 trivial x (List.mem_of_mem_take hx)⟩, ?_⟩, fun h0 => ?_⟩
  · refine Ret.sel [0] (fun k => k == 1) (ho := by rfl) (ha := by rfl) ?_ ?_ (by decide) (by simp) (fun i _ h => ?_) ⟨?_, rfl⟩
    · simp
    · refine ⟨by simp, by simp, by unfold maxLen; omega, ?_⟩
      rw [List.drop_zero, List.take_of_length_le (by simp), List.take_of_length_le (by simp)]
      exact List.all_eq_true.2 ((leasesA_all _).2 trivial)
    · have e : i = 0 := of_decide_eq_true h
      subst e; rfl
    · simp [List.take_of_length_le]
  · have hl0 : l.length = 0 := by omega
    obtain rfl : l = [] := List.eq_nil_of_length_eq_zero hl0
    refine Ret.wk (h2 := [.o (.row 48 3) (leasesA [])]) (r2 := .fs 3 0 []) (fun E hE => wk_slot 0 (old := .c (.slice none 0 0)) rfl fun G F w v _ hv => nil_fs0 3 hv) ?_
    exact Ret.same ⟨rfl, rfl⟩
theorem all_book (l : List LeaseS) (hl : l.length ≤ 1000000) : ACalls Try.prog 18 [.ptr 0 0 1] (bookO l) (fun k => decide (k < 2)) (fun r h' => r = .fs 3 l.length (leasesA l) ∧ h' = bookO l) := by
  refine acalls mixed Try.func18 rfl Try.ntmps18 rfl fun E hE hst hho => ?_
  simp (maxSteps := 1000000) [bookO, rowL, hho, noHo, -List.reduceReplicate]
  refine call_x [1] (clone_lease l hl) rfl rfl ⟨rfl, rfl⟩ hho (by simp) (by decide) (by simp) (by simp) ?_
  simp (maxSteps := 1000000) [bookO, rowL, hho, -List.reduceReplicate]
  exact Ret.same ⟨rfl, rfl⟩
theorem give_has (l : List LeaseS) (hl : l.length ≤ 1000000) (k : Int) (hF : findH l k = true) : ACalls Try.prog 17 [.ptr 0 0 1, .c (.int .i64 k)] (bookO l) (fun k => decide (k = 0)) (fun r h' => r = .c (.bool true) ∧ h' = bookO (l.take (findI l k) ++ l.drop (findI l k + 1))) := by
  refine acalls mixed Try.func17 rfl Try.ntmps17 rfl fun E hE hst hho => ?_
  obtain ⟨x, hx, _⟩ := findH_at hF
  obtain ⟨i, hi⟩ : ∃ i, i = findI l k := ⟨_, rfl⟩
  simp (maxSteps := 1000000) [bookO, rowL, hho, noHo, -List.reduceReplicate]
  refine call_x [0, 1] (find_book l (by omega) k) rfl rfl ⟨rfl, rfl⟩ hho (by simp) (by decide) (by simp) (by simp [bookO]) ?_
  rw [hF]
  rw [← hi] at hx ⊢
  obtain ⟨hil, hxe⟩ := List.getElem?_eq_some_iff.1 hx
  have ewi : IntKind.i64.wrap ((i : Int) + 1) = (i + 1 : Nat) := by rw [IntWalk.i64_in _ (by omega)]; rfl
  have hdel := delete_lease (l.take i) (l.drop (i + 1)) x i (l.length - (i + 1)) l.length (by simp; omega) (by simp) (by omega) (by omega)
  have hcat : l.take i ++ x :: l.drop (i + 1) = l := by rw [← hxe, List.getElem_cons_drop, List.take_append_drop]
  rw [hcat] at hdel
  have hlen : (l.take i ++ l.drop (i + 1)).length = i + (l.length - (i + 1)) := by simp; omega
  simp (maxSteps := 1000000) [bookO, rowL, hho, ewi, -List.reduceReplicate]
  refine callG_less 0 [.any] (slotsOf 26 [(6, .c (.bool true)), (14, .ptr 0 0 1)]) rfl (by simp [livH, livO, AV.livL, AV.liv, wkL, wkV, List.range']) (by simp [livH, livO, AV.livL, AV.liv, wkL, wkV, List.range', slotsOf]) ?_
  refine call_d [1] (fun _ => false) [1] hdel rfl rfl ⟨rfl, rfl⟩ hho (fun i k h => ?_) (by simp [livH, livO, AV.livL, AV.liv, wkL, wkV, List.range', slotsOf]) (by simp [livH, livO, AV.livL, AV.liv, wkL, wkV, List.range']) (by simp [hst]) (by decide) (by decide) (by simp) (by simp) ?_
  · match i, h with
    | 0, h => simp at h; subst h; exact .inr (by simp)
    | i + 1, h => simp at h
  simp (maxSteps := 1000000) [bookO, rowL, slotsOf, hho, -List.reduceReplicate]
  refine Ret.sel [0, 1] (fun _ => false) (ho := by rfl) (ha := by rfl) ?_ ?_ (by decide) (by simp) (fun i _ h => ?_) ⟨rfl, ?_⟩
  · simp
  · simp
  · have e : i = 0 := of_decide_eq_true h
    subst e; rfl
  · have hmin : min i l.length = i := by omega
    rw [hmin]
end Go.Proofs.Ytglhmhpaoebifaa
