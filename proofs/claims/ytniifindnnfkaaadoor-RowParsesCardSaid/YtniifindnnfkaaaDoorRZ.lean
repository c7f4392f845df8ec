import Derived.Test.YtniifindnnfkaaaDoorRY
namespace Go.Proofs.YtniifindnnfkaaaDoor
set_option linter.unusedVariables false
set_option linter.unusedSimpArgs false
open Go.RowKit Go.ChangeShapes Go.WideShapes Go.ChangeAt
attribute [local simp] isCut_nil isCut_region isCut_seq isCut_block isCut_loop isCut_cond isCut_skip isCut_exit isCut_ret isCut_range swapK putK altK condK_bool pickP_bool stepP stepO onPure_some onPure_none onImpl_some onImpl_none stepC onGP_some onGP_none onGV_some condG mkG onIt_it nextP_ptr takeP_eq takeV_some takeV_none takeU_some takeU_none takeQ takeW_some takeN_none takeN_some takeG_some takeO_some altO_some pureV binV2 eqF eqOp ovlV ovl2 rowAt capV binV intBin strBin isSh shV fldV ixV sliceV slice3V loadAV nilV lenV callV unV convV viewS cellsH loadV fldCut AV.ung AV.ungs AV.gc AV.cells AS.ev AS.put anyS gcsV lens lnO gV guardV retK RetP_eq resV oneV anyRo loIx hiIx implO callP_clo evL gcsL clearV storeAV AS.push AS.setO appV appZ shortS copyV buildV partsV fillV srcV fzO okV isCell_c isCell_ptr isCell_sl isCell_fs isCell_fp isCell_clo rowZ_one rowZ_zero rowZ_2 rowZ_3 rowZ_4 rowZ_5 rowZ_6 rowZ_7 rowZ_8 rowZ_9 rowZ_10 rowZ_11 rowZ_12 noHo Value.oneCell' max2V min2V lookV updV lenM msAt afterH putBack frzFrom frzO rebO backIx nilEq_sl nilEq_fs nilOp_eql nilOp_neq AV.reb AV.rebL
attribute [local simp ↓] runK_skip runK_region runK_draw runK_seq runK_cut runK_cond runK_block runK_loop runK_exit runK_label runK_goto runK_ret runK_range contK_nil contK_seq contK_seq_ret contK_seq_exit contK_seq_goto contK_block contK_block_ret contK_block_goto contK_block_exit runO_nil runO_cons roundK_exit roundK_ret roundK_goto exitK_ret cutK_ret cutK_exit runE_done runE_nil runE_take runE_alt condG_true condG_false
set_option maxRecDepth 10000
/-! ## RowSets -/
theorem drawG_w {P : Program} {E : Env} {s s' : AS} {ops : Array Oper} {K : AS → Prop} (hw : Wk E s s') (h : DrawG P E ops s' K) : DrawG P E ops s K := fun a w hs => h a w (hw a w hs)
/-- a row in a slot stays as it is from now on, and is data there -/
theorem wk_froz {P : Program} {E : Env} {s : AS} (i r : Nat) {e sz n m : Nat} {l : List AV} (h0 : s.t[i]? = some (.sl r sz 0 n m)) (h1 : s.h[r]? = some (.o (.row e sz) l)) (hho : E.ho = noHo) (hl : l.length = m) (hnm : n * sz = m) (hn : n ≤ maxLen) (hd : l.all isD = true) : Wk E s ⟨s.t.set i (.fs sz n l), s.h.set r (.o .fz l)⟩ := by
  refine Wk.trans (wk_fz r h1 (by rw [hho]; rfl)) ?_
  have h2 : (s.h.set r (.o .fz l))[r]? = some (.o .fz l) := List.getElem?_set_self (List.getElem?_eq_some_iff.1 h1).1
  have e1 : (l.drop 0).take (n * sz) = l := by rw [List.drop_zero, List.take_of_length_le (by omega)]
  refine wk_slot i h0 fun G F w v hh hv => ?_
  have := fz_fs (off := 0) (n := n) h2 hl (by omega) hn (by rw [e1]; exact hd) hh hv
  rw [e1] at this
  exact this
theorem same_dec (a b : List CellS) : ∃ R : Bool, R = true ↔ a = b := ⟨@decide (a = b) (Classical.propDecidable _), by simp⟩
theorem flat_ints (l : List Int) : l.flatMap (fun b => [AV.c (.int .i64 b)]) = intsA l := by
  induction l with
  | nil => rfl
  | cons b l ih => rw [List.flatMap_cons, ih]; rfl
def opnIntL : Opn Tryd.prog 41 (List Int) :=
  (opnSlice opnI 1 Tryd.underlying41 (by kernel_rfl) (by kernel_rfl) (by decide)).map id (fun l => [.fs 1 l.length (intsA l)]) (fun _ => True) (fun l => by simp only [opnSlice, opnI, opnInt, id]; rw [flat_ints]) (fun l h => trivial) fun _ => by kernel_rfl
theorem flat_u8l (l : List UInt8) : l.flatMap (fun n => [AV.c (u8 n)]) = u8av l := by
  induction l with
  | nil => rfl
  | cons b l ih => rw [List.flatMap_cons, ih]; rfl
def opnByteL : Opn Tryd.prog 25 (List UInt8) :=
  (opnSlice (opnU8 Tryd.underlying5 (by kernel_rfl)) 1 Tryd.underlying25 (by kernel_rfl) (by kernel_rfl) (by decide)).map id (fun l => [.fs 1 l.length (u8av l)]) (fun l => l.length ≤ maxLen) (fun l => by simp only [opnSlice, opnU8, id]; rw [flat_u8l]) (fun l h => h.1) fun _ => by kernel_rfl
set_option maxHeartbeats 8000000 in
theorem sets_w (l : List CellS) (ho : ∀ x ∈ l, x.Ok) (c : CellS) (hoc : c.Ok) (ks : List Int) (_ : True) : ACalls Tryd.prog 6 [.fs 5 l.length (cellsA l), .agg (cellA c), .fs 1 ks.length (intsA ks)] [] (fun _ => false) (fun r h' => r = .c (.bool true)) := by
  refine acalls mixed Tryd.func6 rfl Tryd.ntmps6 rfl fun E hE hst hho => ?_
  obtain ⟨R, hR⟩ := long_dec l
  have c0 := long_row l R hR
  have hS : R = false → shortR l := fun e => by
    apply Classical.byContradiction
    intro h; have := hR.2 h; rw [e] at this; cases this
  simp (maxSteps := 1000000) [cellA, valA, hho, noHo, -List.reduceReplicate]
  refine call_x [] first11 rfl rfl ⟨rfl, rfl⟩ hho (by simp) (by decide) (by simp) (by simp) ?_
  simp (maxSteps := 1000000) [hho, noHo, -List.reduceReplicate]
  refine call_x [] c0 rfl rfl ⟨rfl, rfl⟩ hho (by simp) (by decide) (by simp) (by simp) ?_
  cases R with
  | true =>
    simp (maxSteps := 1000000) [hho, noHo, undef, onGP_none, condG_false, -List.reduceReplicate]
    exact Ret.drop (by rfl) rfl
  | false =>
  have hS := hS rfl
  have hl := hS.1
  have hs := shortR_mem hS
  by_cases h5 : 500 < c.v.t.size
  · have h5' : (500 : Int) < c.v.t.size := by omega
    simp (maxSteps := 1000000) [hho, noHo, h5, h5', undef, onGP_none, condG_false, -List.reduceReplicate]
    exact Ret.drop (by rfl) rfl
  have h5' : ¬ (500 : Int) < c.v.t.size := by omega
  by_cases h6 : 50 < ks.length
  · have h6' : (50 : Int) < ks.length := by omega
    simp (maxSteps := 1000000) [hho, noHo, h5, h5', h6, h6', undef, onGP_none, condG_false, -List.reduceReplicate]
    exact Ret.drop (by rfl) rfl
  have h6' : ¬ (50 : Int) < ks.length := by omega
  have ew9 : IntKind.i64.wrap ((l.length : Int) + 9) = (l.length + 9 : Nat) := by rw [IntWalk.i64_in _ (by omega)]; rfl
  simp (maxSteps := 1000000) [hho, noHo, h5, h5', h6, h6', ew9, undef, onGP_none, condG_false, -List.reduceReplicate]
  refine ⟨⟨by omega, by omega, by omega⟩, by omega, ?_⟩
  refine drawG_w (s' := ⟨slotsOf 100 [(0, .fs 5 l.length (cellsA l)), (2, .fs 1 ks.length (intsA ks)), (4, .ptr 0 0 5), (7, .fs 5 l.length (cellsA l))], [.o .box (cellA c), .o .fz (cellsA l)]⟩) ?_ ?_
  · refine Wk.trans (wk_froz (P := Tryd.prog) 7 1 rfl rfl hho (by simp) rfl (by unfold maxLen; omega) (List.all_eq_true.2 ((cellsA_all l).2 trivial))) ?_
    exact wk_eq (by simp [hE, lens]) (by simp [cellA, valA]) (by simp [livH, livO, AV.livL, AV.liv, wkL, wkV, List.range', slotsOf])
  have k1 := keep_row l (by omega) ks (by omega)
  have k2 := keep_ref l (by omega) ks (by omega)
  have hkl := keepR_len l ks
  obtain ⟨K, hK⟩ : ∃ K, K = keepR l ks := ⟨_, rfl⟩
  rw [← hK] at k1 k2 hkl
  have k3 := same_ref K K (by omega) true (by simp)
  have k4 := get_row l (by omega) c.col
  have k5 := get_ref l (by omega) c.col
  obtain ⟨V, hV⟩ : ∃ V, V = getR l c.col := ⟨_, rfl⟩
  rw [← hV] at k4 k5
  have k6 := right_rows l (by omega) fun c hc => Nat.le_trans (hs c hc) (by omega)
  simp (maxSteps := 1000000) [slotsOf, cellA, hho, noHo, -List.reduceReplicate]
  refine draw_k hho (.take 0 (.take 1 (.take 3 (.take 4 (.alt 2 (.alt 5 (.alt 6 (.take 7 (.take 8 (.take 9 (.take 10 (.take 11 (.take 13 (.take 14 (.take 15 (.alt 12 (.alt 16 (.take 17 (.take 18 (.done))) (.nil)) (.nil)))))))))) (.nil)) (.nil)) (.nil)))))) [0] [] (by decide +kernel) (by simp) ?_
  simp (maxSteps := 1000000) [hho, noHo, valA, undef, onGP_none, condG_false, roOf, holdOf, wrOf, altK, heldOk, Region.binds, -List.reduceReplicate]
  intros
  refine call_h [] k1 rfl rfl ⟨rfl, rfl⟩ (by simp) (by simp) (by decide) (by simp) (by simp) ?_
  simp (maxSteps := 1000000) [hho, noHo, valA, undef, onGP_none, condG_false, roOf, holdOf, wrOf, altK, heldOk, Region.binds, -List.reduceReplicate]
  intros
  refine call_h [] k2 rfl rfl ⟨rfl, rfl⟩ (by simp) (by simp) (by decide) (by simp) (by simp) ?_
  simp (maxSteps := 1000000) [hho, noHo, valA, undef, onGP_none, condG_false, roOf, holdOf, wrOf, altK, heldOk, Region.binds, -List.reduceReplicate]
  intros
  refine call_h [] k3 rfl rfl ⟨rfl, rfl⟩ (by simp) (by simp) (by decide) (by simp) (by simp) ?_
  simp (maxSteps := 1000000) [hho, noHo, valA, undef, onGP_none, condG_false, roOf, holdOf, wrOf, altK, heldOk, Region.binds, -List.reduceReplicate]
  intros
  refine call_h [] k4 rfl rfl ⟨rfl, rfl⟩ (by simp) (by simp) (by decide) (by simp) (by simp) ?_
  simp (maxSteps := 1000000) [hho, noHo, valA, undef, onGP_none, condG_false, roOf, holdOf, wrOf, altK, heldOk, Region.binds, -List.reduceReplicate]
  intros
  refine call_h [] k5 rfl rfl ⟨rfl, rfl⟩ (by simp) (by simp) (by decide) (by simp) (by simp) ?_
  simp (maxSteps := 1000000) [hho, noHo, valA, undef, onGP_none, condG_false, roOf, holdOf, wrOf, altK, heldOk, Region.binds, -List.reduceReplicate]
  intros
  refine call_x [] k6 rfl rfl ⟨rfl, rfl⟩ hho (by simp) (by decide) (by simp) (by simp) ?_
  cases hok : okR (-1) l with
  | false =>
    simp (maxSteps := 1000000) [hho, noHo, undef, onGP_none, condG_false, -List.reduceReplicate]
    exact Ret.drop (by rfl) rfl
  | true =>
  have j1 := set_row l (by omega) hok c.col c.v (by omega)
  have j2 := set_row l (by omega) hok c.col ⟨1, 0, 0, ByteArray.empty⟩ (by decide)
  have j3 := set_ref l (by omega) c.col c.v (by omega)
  have j4 := set_ref l (by omega) c.col ⟨1, 0, 0, ByteArray.empty⟩ (by decide)
  have hX := setR_len hok c.col c.v
  have hY := setR_len hok c.col ⟨1, 0, 0, ByteArray.empty⟩
  have hXok := okR_set hok c.col c.v
  have hXs := setR_size (k := c.col) (v := c.v) (m := 500) hs (by omega)
  obtain ⟨X, hXe⟩ : ∃ X, X = setR l c.col c.v := ⟨_, rfl⟩
  obtain ⟨Y, hYe⟩ : ∃ Y, Y = setR l c.col ⟨1, 0, 0, ByteArray.empty⟩ := ⟨_, rfl⟩
  rw [← hXe] at j1 j3 hX hXok hXs
  rw [← hYe] at j2 j4 hY
  have j5 := same_ref l l (by omega) true (by simp)
  have j6 := same_ref X X (by omega) true (by simp)
  have j7 := right_rows X (by omega) fun c hc => Nat.le_trans (hXs c hc) (by omega)
  rw [hXok] at j7
  have j8 := same_ref Y Y (by omega) true (by simp)
  obtain ⟨R, hR⟩ := same_dec X Y
  have j9 := same_row X Y (by omega) R hR
  have j10 := same_ref X Y (by omega) R hR
  simp (maxSteps := 1000000) [hho, noHo, -List.reduceReplicate]
  refine call_x [] j1 rfl rfl ⟨rfl, rfl⟩ hho (by simp) (by decide) (by simp) (by simp) ?_
  simp (maxSteps := 1000000) [hho, noHo, valA, undef, onGP_none, condG_false, -List.reduceReplicate]
  refine call_x [] j2 rfl rfl ⟨rfl, rfl⟩ hho (by simp) (by decide) (by simp) (by simp) ?_
  simp (maxSteps := 1000000) [hho, noHo, valA, undef, onGP_none, condG_false, -List.reduceReplicate]
  refine call_x [] j5 rfl rfl ⟨rfl, rfl⟩ hho (by simp) (by decide) (by simp) (by simp) ?_
  simp (maxSteps := 1000000) [hho, noHo, valA, undef, onGP_none, condG_false, -List.reduceReplicate]
  refine call_x [] j3 rfl rfl ⟨rfl, rfl⟩ hho (by simp) (by decide) (by simp) (by simp) ?_
  simp (maxSteps := 1000000) [hho, noHo, valA, undef, onGP_none, condG_false, -List.reduceReplicate]
  refine call_x [] j6 rfl rfl ⟨rfl, rfl⟩ hho (by simp) (by decide) (by simp) (by simp) ?_
  simp (maxSteps := 1000000) [hho, noHo, valA, undef, onGP_none, condG_false, -List.reduceReplicate]
  refine call_x [] j7 rfl rfl ⟨rfl, rfl⟩ hho (by simp) (by decide) (by simp) (by simp) ?_
  simp (maxSteps := 1000000) [hho, noHo, valA, undef, onGP_none, condG_false, -List.reduceReplicate]
  refine call_x [] j4 rfl rfl ⟨rfl, rfl⟩ hho (by simp) (by decide) (by simp) (by simp) ?_
  simp (maxSteps := 1000000) [hho, noHo, valA, undef, onGP_none, condG_false, -List.reduceReplicate]
  refine call_x [] j8 rfl rfl ⟨rfl, rfl⟩ hho (by simp) (by decide) (by simp) (by simp) ?_
  simp (maxSteps := 1000000) [hho, noHo, valA, undef, onGP_none, condG_false, -List.reduceReplicate]
  refine call_x [] j9 rfl rfl ⟨rfl, rfl⟩ hho (by simp) (by decide) (by simp) (by simp) ?_
  simp (maxSteps := 1000000) [hho, noHo, valA, undef, onGP_none, condG_false, -List.reduceReplicate]
  refine call_x [] j10 rfl rfl ⟨rfl, rfl⟩ hho (by simp) (by decide) (by simp) (by simp) ?_
  simp (maxSteps := 1000000) [hho, noHo, valA, undef, onGP_none, condG_false, -List.reduceReplicate]
  exact Ret.drop (by rfl) rfl
end Go.Proofs.YtniifindnnfkaaaDoor
