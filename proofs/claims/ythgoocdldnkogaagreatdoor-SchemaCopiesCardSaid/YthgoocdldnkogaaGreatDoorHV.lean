import Derived.Test.YthgoocdldnkogaaGreatDoorHW
import Derived.Shelf.Unicode.ValidAny
import Derived.Lib.ValidLaws
namespace Go.Proofs.YthgoocdldnkogaaGreatDoor
set_option linter.unusedVariables false
set_option linter.unusedSimpArgs false
open Go.RowKit
attribute [local simp] isCut_nil isCut_region isCut_seq isCut_block isCut_loop isCut_cond isCut_skip isCut_exit isCut_ret isCut_range swapK putK altK condK_bool pickP_bool stepP stepO onPure_some onPure_none onImpl_some onImpl_none stepC onGP_some onGP_none onGV_some condG mkG onIt_it nextP_ptr takeP_eq takeV_some takeV_none takeU_some takeU_none takeQ takeW_some takeN_none takeN_some takeG_some takeO_some altO_some pureV binV2 eqF eqOp ovlV ovl2 rowAt capV binV intBin strBin isSh shV fldV ixV sliceV slice3V loadAV nilV lenV callV unV convV viewS cellsH loadV fldCut AV.ung AV.ungs AV.gc AV.cells AS.ev AS.put anyS gcsV gcO lens lnO gV guardV retK RetP_eq resV oneV anyRo loIx hiIx implO callP_clo evL gcsL clearV storeAV AS.push AS.setO appV appZ shortS copyV buildV partsV fillV srcV fzO okV isCell_c isCell_ptr isCell_sl isCell_fs isCell_fp isCell_clo rowZ_one rowZ_zero rowZ_2 rowZ_3 rowZ_4 rowZ_5 rowZ_6 rowZ_7 rowZ_8 rowZ_9 rowZ_10 rowZ_11 rowZ_12 noHo Value.oneCell' max2V min2V lookV updV updK updW cvals mkAt basV lenM msAt afterH putBack frzFrom frzO rebO backIx nilEq_sl nilEq_fs nilEq_ifn nilEq_ifh ifOp_eql ifOp_neq isLit nilOp_eql nilOp_neq AV.reb AV.rebL
attribute [local simp ↓] runK_skip runK_region runK_draw runK_seq runK_cut runK_cond runK_block runK_loop runK_exit runK_label runK_goto runK_ret runK_range contK_nil contK_seq contK_seq_ret contK_seq_exit contK_seq_goto contK_block contK_block_ret contK_block_goto contK_block_exit runO_nil runO_cons roundK_exit roundK_ret roundK_goto exitK_ret cutK_ret cutK_exit runE_done runE_nil runE_take runE_alt condG_true condG_false
set_option maxRecDepth 10000
def i64v (n : Int) : Prop := -9223372036854775808 ≤ n ∧ n ≤ 9223372036854775807
structure TypS where
 k : Int
 s : Int
structure ValS where
 k : Int
 n : Int
 s : Int
 t : ByteArray
def typA (t : TypS) : List AV := [.c (.int .i64 t.k), .c (.int .i64 t.s)]
def valA (v : ValS) : List AV := [.c (.int .i64 v.k), .c (.int .i64 v.n), .c (.int .i64 v.s), .c (.string v.t)]
@[simp] theorem typA_length (t : TypS) : (typA t).length = 2 := rfl
@[simp] theorem valA_length (v : ValS) : (valA v).length = 4 := rfl
def TypS.Ok (t : TypS) : Prop := i64v t.k ∧ i64v t.s
def ValS.Ok (v : ValS) : Prop := i64v v.k ∧ i64v v.n ∧ i64v v.s ∧ v.t.size ≤ maxLen
def scaleOk (n : Int) : Bool := decide (0 ≤ n) && decide (n ≤ 6)
def typOk (t : TypS) : Bool := if t.k = 3 then scaleOk t.s else decide (1 ≤ t.k) && decide (t.k ≤ 5) && decide (t.s = 0)
theorem right_dec (n : Int) : ACalls Tryz.prog 188 [.c (.int .i64 n)] [] (fun _ => false) (fun r h' => r = .c (.bool (scaleOk n)) ∧ h' = []) := by
 refine acalls mixed Tryz.func188 rfl Tryz.ntmps188 rfl fun E hE hst hho => ?_
 simp [hho, noHo, -List.reduceReplicate]
 exact Ret.same ⟨rfl, rfl⟩
theorem type_right (t : TypS) : ACalls Tryz.prog 172 [.agg (typA t)] [] (fun _ => false) (fun r h' => r = .c (.bool (typOk t)) ∧ h' = []) := by
 refine acalls mixed Tryz.func172 rfl Tryz.ntmps172 rfl fun E hE hst hho => ?_
 by_cases h3 : t.k = 3
 ·simp [hho, noHo, typA, h3, -List.reduceReplicate]
  refine call_x [] (right_dec t.s) rfl rfl ⟨rfl, rfl⟩ hho (by simp) (by decide) (by simp) (by simp) ?_
  simp [hho, noHo, -List.reduceReplicate]
  exact Ret.drop (by rfl) ⟨by simp [typOk, h3], rfl⟩
 ·simp [hho, noHo, typA, h3, -List.reduceReplicate]
  exact Ret.drop (by rfl) ⟨by simp [typOk, h3, Bool.and_assoc], rfl⟩
def opnI : Opn Tryz.prog 3 Int := opnInt .i64 Tryz.underlying3 (by kernel_rfl)
def opnKind : Opn Tryz.prog 37 Int := opnInt .i64 Tryz.underlying37 (by kernel_rfl)
def opnStr : Opn Tryz.prog 9 ByteArray := opnString Tryz.underlying9 (by kernel_rfl)
def opnBo : Opn Tryz.prog 4 Bool := opnBool Tryz.underlying4 (by kernel_rfl)
def opnTyp : Opn Tryz.prog 39 TypS :=
 (opnStruct Tryz.underlying39 rfl (opnCons 1 opnKind (by kernel_rfl) rfl (opnCons 1 opnI (by kernel_rfl) rfl (opnNil 2))) (by kernel_rfl)).map
  (fun x : Int × Int × Unit => (⟨x.1, x.2.1⟩ : TypS)) typA TypS.Ok (fun _ => rfl) (fun x h => ⟨bounds_i64 h.1, bounds_i64 h.2.1⟩) fun _ => by kernel_rfl
def opnVal : Opn Tryz.prog 41 ValS :=
 (opnStruct Tryz.underlying41 rfl (opnCons 1 opnKind (by kernel_rfl) rfl (opnCons 1 opnI (by kernel_rfl) rfl (opnCons 1 opnI (by kernel_rfl) rfl (opnCons 1 opnStr (by kernel_rfl) rfl (opnNil 4))))) (by kernel_rfl)).map
  (fun x : Int × Int × Int × ByteArray × Unit => (⟨x.1, x.2.1, x.2.2.1, x.2.2.2.1⟩ : ValS)) valA ValS.Ok (fun _ => rfl) (fun x h => ⟨bounds_i64 h.1, bounds_i64 h.2.1, bounds_i64 h.2.2.1, h.2.2.2.1⟩) fun _ => by kernel_rfl
end Go.Proofs.YthgoocdldnkogaaGreatDoor
namespace Go.Proofs.YthgoocdldnkogaaGreatDoor
set_option linter.unusedVariables false
set_option linter.unusedSimpArgs false
open Go.RowKit Go.Shelf
attribute [local simp] isCut_nil isCut_region isCut_seq isCut_block isCut_loop isCut_cond isCut_skip isCut_exit isCut_ret isCut_range swapK putK altK condK_bool pickP_bool stepP stepO onPure_some onPure_none onImpl_some onImpl_none stepC onGP_some onGP_none onGV_some condG mkG onIt_it nextP_ptr takeP_eq takeV_some takeV_none takeU_some takeU_none takeQ takeW_some takeN_none takeN_some takeG_some takeO_some altO_some pureV binV2 eqF eqOp ovlV ovl2 rowAt capV binV intBin strBin isSh shV fldV ixV sliceV slice3V loadAV nilV lenV callV unV convV viewS cellsH loadV fldCut AV.ung AV.ungs AV.gc AV.cells AS.ev AS.put anyS gcsV gcO lens lnO gV guardV retK RetP_eq resV oneV anyRo loIx hiIx implO callP_clo evL gcsL clearV storeAV AS.push AS.setO appV appZ shortS copyV buildV partsV fillV srcV fzO okV isCell_c isCell_ptr isCell_sl isCell_fs isCell_fp isCell_clo rowZ_one rowZ_zero rowZ_2 rowZ_3 rowZ_4 rowZ_5 rowZ_6 rowZ_7 rowZ_8 rowZ_9 rowZ_10 rowZ_11 rowZ_12 noHo Value.oneCell' max2V min2V lookV updV updK updW cvals mkAt basV lenM msAt afterH putBack frzFrom frzO rebO backIx nilEq_sl nilEq_fs nilEq_ifn nilEq_ifh ifOp_eql ifOp_neq isLit nilOp_eql nilOp_neq AV.reb AV.rebL
attribute [local simp ↓] runK_skip runK_region runK_draw runK_seq runK_cut runK_cond runK_block runK_loop runK_exit runK_label runK_goto runK_ret runK_range contK_nil contK_seq contK_seq_ret contK_seq_exit contK_seq_goto contK_block contK_block_ret contK_block_goto contK_block_exit runO_nil runO_cons roundK_exit roundK_ret roundK_goto exitK_ret cutK_ret cutK_exit runE_done runE_nil runE_take runE_alt condG_true condG_false
set_option maxRecDepth 10000
def valid_ren : Go.Shelf.Ren := ⟨fun | 196 => 190 | 259 => 193 | n => n, fun | 0 => 0 | 3 => 3 | 4 => 4 | 5 => 5 | 9 => 9 | 12 => 12 | 46 => 174 | 53 => 173 | 119 => 216 | 138 => 218 | 139 => 219 | n => n, fun | 3 => 0 | 4 => 1 | n => n⟩
theorem valid_lays : Lays.n196 Tryz.prog valid_ren := { mixed := by kernel_rfl, f196 := Tryz.func190.trans (congrArg some (by kernel_rfl)), f259 := Tryz.func193.trans (congrArg some (by kernel_rfl)), t0 := Tryz.underlying0, a0 := Tryz.isAgg0, z0 := Tryz.sizeOf0, v0 := Tryz.zeroValue0, t3 := Tryz.underlying3, a3 := Tryz.isAgg3, z3 := Tryz.sizeOf3, v3 := Tryz.zeroValue3, t4 := Tryz.underlying4, a4 := Tryz.isAgg4, z4 := Tryz.sizeOf4, v4 := Tryz.zeroValue4, t5 := Tryz.underlying5, a5 := Tryz.isAgg5, z5 := Tryz.sizeOf5, v5 := Tryz.zeroValue5, t9 := Tryz.underlying9, a9 := Tryz.isAgg9, z9 := Tryz.sizeOf9, v9 := Tryz.zeroValue9, t12 := Tryz.underlying12, a12 := Tryz.isAgg12, z12 := Tryz.sizeOf12, v12 := Tryz.zeroValue12, t46 := Tryz.underlying174, a46 := Tryz.isAgg174, z46 := Tryz.sizeOf174, v46 := Tryz.zeroValue174, t53 := Tryz.underlying173, a53 := Tryz.isAgg173, z53 := Tryz.sizeOf173, v53 := Tryz.zeroValue173, t119 := Tryz.underlying216, a119 := Tryz.isAgg216, z119 := Tryz.sizeOf216, t138 := Tryz.underlying218, a138 := Tryz.isAgg218, z138 := Tryz.sizeOf218, v138 := Tryz.zeroValue218, t139 := Tryz.underlying219, a139 := Tryz.isAgg219, z139 := Tryz.sizeOf219, v139 := Tryz.zeroValue219, g3 := by kernel_rfl, g4 := by kernel_rfl }
theorem acalls_plain {P : Program} {f : FuncId} {args : List Value} {v : Value} (st : Nat → Bool) (h : ∀ w, TabW w → Calls P f args.toArray w fun e w' => e = .returned v ∧ Below w.heap.size w w') : ACalls P f (args.map AV.c) [] st (fun r h' => r = .c v ∧ h' = []) := by
 intro G F w vs hr hfc hl
 have hvs : vs = args.toArray := by
  apply Array.ext'
  simp only [List.toList_toArray]
  apply List.ext_getElem?
  intro j
  obtain ⟨h1, h2⟩ := hl
  by_cases hj : j < args.length
  ·have hj2 : j < vs.size := by rw [← h1]; simpa using hj
   have := (h2 j (.c args[j]) vs[j] (by simp [hj]) (by simp [hj2])).c_inv
   simp [hj, hj2, this]
  ·have hj2 : ¬ j < vs.size := by rw [← h1]; simpa using hj
   simp [hj, hj2]
 subst hvs
 refine (h w hfc.tabW).mono fun e w' ⟨he, hb⟩ => ?_
 have hk : ∀ b, F b → w'.heap[b]? = w.heap[b]? := fun b hb' => hb.block b (hfc.lt b hb')
 refine ⟨v, .c v, [], G, F, he, ⟨⟨fun k x hk => by simp at hk, fun j k x y hj => by simp at hj⟩, Mod.of_below hb |>.mono fun k h1 h2 => absurd h1 (by omega), fun k x hk => by simp at hk, fun b hb' => .inl hb', fun b hb' => hb', hfc.keep hk⟩, .d _ _ (.c v), fun k m _ hk => by simp [lens] at hk, rfl, rfl⟩
theorem tab_cell {w : World} {b : Nat} {cs : Array Value} (h : TabW w) (hm : (b, isTab cs) ∈ tabB) (i : Nat) : w.cell? ⟨b, i, none⟩ = cs[i]? := by
 obtain ⟨_, ty, fr, rfl, h1⟩ := h _ hm
 simp [World.cell?, h1]
theorem utf8_tabs {w : World} (h : TabW w) : Lib.Utf8Tabs (valid_ren.g 3) (valid_ren.g 4) w := by
 refine ⟨fun c hc => ?_, fun i hi => ?_⟩
 ·rw [tab_cell h (b := valid_ren.g 3) (cs := firstTab) (by simp [tabB, valid_ren])]
  simp [firstTab, hc]
 ·have hl : ∀ j, j < 32 → accTab[j]? = some (if j % 2 = 0 then Value.int .u8 (Lib.accLo (j / 2) : Nat) else Value.int .u8 (Lib.accHi (j / 2) : Nat)) := by
   intro j hj
   have h : j = 0 ∨ j = 1 ∨ j = 2 ∨ j = 3 ∨ j = 4 ∨ j = 5 ∨ j = 6 ∨ j = 7 ∨ j = 8 ∨ j = 9 ∨ j = 10 ∨ j = 11 ∨ j = 12 ∨ j = 13 ∨ j = 14 ∨ j = 15 ∨ j = 16 ∨ j = 17 ∨ j = 18 ∨ j = 19 ∨ j = 20 ∨ j = 21 ∨ j = 22 ∨ j = 23 ∨ j = 24 ∨ j = 25 ∨ j = 26 ∨ j = 27 ∨ j = 28 ∨ j = 29 ∨ j = 30 ∨ j = 31 := by omega
   rcases h with rfl | rfl | rfl | rfl | rfl | rfl | rfl | rfl | rfl | rfl | rfl | rfl | rfl | rfl | rfl | rfl | rfl | rfl | rfl | rfl | rfl | rfl | rfl | rfl | rfl | rfl | rfl | rfl | rfl | rfl | rfl | rfl <;> rfl
  rw [tab_cell h (b := valid_ren.g 4) (cs := accTab) (by simp [tabB, valid_ren]), tab_cell h (b := valid_ren.g 4) (cs := accTab) (by simp [tabB, valid_ren]), hl _ (by omega), hl _ (by omega), if_pos (by omega), if_neg (by omega)]
  rw [show 2 * i / 2 = i by omega, show (2 * i + 1) / 2 = i by omega]
  exact ⟨rfl, rfl⟩
def utfOk (s : ByteArray) : Bool := Lib.validD s.data.toList
theorem valid_utf (s : ByteArray) (hs : s.size ≤ 9223372036854775807) : ACalls Tryz.prog 190 [.c (.string s)] [] (fun _ => false) (fun r h' => r = .c (.bool (utfOk s)) ∧ h' = []) :=
 acalls_plain (args := [.string s]) (fun _ => false) fun w hT => Any.utf8_ValidString valid_lays s w hs (utf8_tabs hT)
end Go.Proofs.YthgoocdldnkogaaGreatDoor
namespace Go.Proofs.YthgoocdldnkogaaGreatDoor
set_option linter.unusedVariables false
set_option linter.unusedSimpArgs false
open Go.RowKit Go.Lib

end Go.Proofs.YthgoocdldnkogaaGreatDoor
namespace Go.Proofs.YthgoocdldnkogaaGreatDoor
set_option linter.unusedVariables false
set_option linter.unusedSimpArgs false
open Go.RowKit Go.Lib
attribute [local simp] isCut_nil isCut_region isCut_seq isCut_block isCut_loop isCut_cond isCut_skip isCut_exit isCut_ret isCut_range swapK putK altK condK_bool pickP_bool stepP stepO onPure_some onPure_none onImpl_some onImpl_none stepC onGP_some onGP_none onGV_some condG mkG onIt_it nextP_ptr takeP_eq takeV_some takeV_none takeU_some takeU_none takeQ takeW_some takeN_none takeN_some takeG_some takeO_some altO_some pureV binV2 eqF eqOp ovlV ovl2 rowAt capV binV intBin strBin isSh shV fldV ixV sliceV slice3V loadAV nilV lenV callV unV convV viewS cellsH loadV fldCut AV.ung AV.ungs AV.gc AV.cells AS.ev AS.put anyS gcsV gcO lens lnO gV guardV retK RetP_eq resV oneV anyRo loIx hiIx implO callP_clo evL gcsL clearV storeAV AS.push AS.setO appV appZ shortS copyV buildV partsV fillV srcV fzO okV isCell_c isCell_ptr isCell_sl isCell_fs isCell_fp isCell_clo rowZ_one rowZ_zero rowZ_2 rowZ_3 rowZ_4 rowZ_5 rowZ_6 rowZ_7 rowZ_8 rowZ_9 rowZ_10 rowZ_11 rowZ_12 noHo Value.oneCell' max2V min2V lookV updV updK updW cvals mkAt basV lenM msAt afterH putBack frzFrom frzO rebO backIx nilEq_sl nilEq_fs nilEq_ifn nilEq_ifh ifOp_eql ifOp_neq isLit nilOp_eql nilOp_neq AV.reb AV.rebL
attribute [local simp ↓] runK_skip runK_region runK_draw runK_seq runK_cut runK_cond runK_block runK_loop runK_exit runK_label runK_goto runK_ret runK_range contK_nil contK_seq contK_seq_ret contK_seq_exit contK_seq_goto contK_block contK_block_ret contK_block_goto contK_block_exit runO_nil runO_cons roundK_exit roundK_ret roundK_goto exitK_ret cutK_ret cutK_exit runE_done runE_nil runE_take runE_alt condG_true condG_false
set_option maxRecDepth 10000

def valOk (v : ValS) : Bool :=
 if v.k = 0 then decide (v.n = 0) && decide (v.s = 0) && decide (v.t = ByteArray.empty)
 else if v.k = 1 then (decide (v.n = 0) || decide (v.n = 1)) && decide (v.s = 0) && decide (v.t = ByteArray.empty)
 else if v.k = 2 then decide (v.s = 0) && decide (v.t = ByteArray.empty)
 else if v.k = 3 then decide (v.t = ByteArray.empty) && scaleOk v.s
 else if v.k = 4 then decide (v.n = 0) && decide (v.s = 0) && decide (v.t.size ≤ 200) && utfOk v.t
 else if v.k = 5 then decide (v.n = 0) && decide (v.s = 0) && decide (v.t.size ≤ 200)
 else false
theorem and_one (n : Int) : (n = IntKind.i64.wrap (((n % 2 ^ IntKind.i64.bits).toNat &&& 1 % 2 ^ IntKind.i64.bits : Nat) : Int)) ↔ (n = 0 ∨ n = 1) := by
 have hb : IntKind.i64.bits = 64 := rfl
 have e : (1 : Nat) % 2 ^ 64 = 1 := by decide
 rw [hb, e, Nat.and_one_is_mod, IntWalk.i64_in _ (by omega)]
 have : ((2 : Int) ^ 64) = 18446744073709551616 := by decide
 omega
set_option maxHeartbeats 8000000 in
theorem val_right (v : ValS) (hv : v.t.size ≤ 9000000000000000000) : ACalls Tryz.prog 180 [.agg (valA v)] [] (fun _ => false) (fun r h' => r = .c (.bool (valOk v)) ∧ h' = []) := by
 refine acalls mixed Tryz.func180 rfl Tryz.ntmps180 rfl fun E hE hst hho => ?_
 have hu := valid_utf v.t (by omega)
 by_cases h0 : v.k = 0
 ·simp [hho, noHo, valA, h0, -List.reduceReplicate]
  exact Ret.drop (by rfl) ⟨by simp [valOk, h0, Bool.and_assoc], rfl⟩
 by_cases h1 : v.k = 1
 ·simp [hho, noHo, valA, h1, -List.reduceReplicate]
  refine Ret.drop (by rfl) ⟨?_, rfl⟩
  congr 2
  rw [Bool.eq_iff_iff]
  simp only [Bool.and_eq_true, decide_eq_true_eq, and_one, valOk, h1]
  simp [and_assoc]
 by_cases h2 : v.k = 2
 ·simp [hho, noHo, valA, h2, -List.reduceReplicate]
  exact Ret.drop (by rfl) ⟨by simp [valOk, h2, Bool.and_assoc], rfl⟩
 by_cases h3 : v.k = 3
 ·by_cases ht : v.t = ByteArray.empty
  ·simp [hho, noHo, valA, h3, ht, -List.reduceReplicate]
   refine call_x [] (right_dec v.s) rfl rfl ⟨rfl, rfl⟩ hho (by simp) (by decide) (by simp) (by simp) ?_
   simp [hho, noHo, -List.reduceReplicate]
   exact Ret.drop (by rfl) ⟨by simp [valOk, h3, ht], rfl⟩
  ·simp [hho, noHo, valA, h3, ht, undef, onGP_none, condG_false, -List.reduceReplicate]
   exact Ret.drop (by rfl) ⟨by simp [valOk, h3, ht], rfl⟩
 by_cases h4 : v.k = 4
 ·by_cases ha : v.n = 0 ∧ v.s = 0 ∧ (v.t.size : Int) ≤ 200
  ·obtain ⟨a1, a2, a3⟩ := ha
   simp [hho, noHo, valA, h4, a1, a2, a3, -List.reduceReplicate]
   refine call_x [] hu rfl rfl ⟨rfl, rfl⟩ hho (by simp) (by decide) (by simp) (by simp) ?_
   simp [hho, noHo, -List.reduceReplicate]
   have a3' : v.t.size ≤ 200 := by omega
   exact Ret.drop (by rfl) ⟨by simp [valOk, h4, a1, a2, a3'], rfl⟩
  ·have ha' : ¬ ((v.n = 0 ∧ v.s = 0) ∧ (v.t.size : Int) ≤ 200) := fun h => ha ⟨h.1.1, h.1.2, h.2⟩
   have hv : valOk v = false := by
    have hc : ((decide (v.n = 0) && decide (v.s = 0)) && decide (v.t.size ≤ 200)) = false := by
     rw [Bool.eq_false_iff]
     intro h
     simp only [Bool.and_eq_true, decide_eq_true_eq] at h
     exact ha ⟨h.1.1, h.1.2, by omega⟩
    simp [valOk, h4, hc]
   by_cases b1 : v.n = 0 <;> by_cases b2 : v.s = 0 <;> by_cases b3 : (v.t.size : Int) ≤ 200
   ·exact absurd ⟨b1, b2, b3⟩ ha
   all_goals
    simp [hho, noHo, valA, h4, b1, b2, b3, undef, onGP_none, condG_false, -List.reduceReplicate]
    exact Ret.drop (by rfl) ⟨by rw [hv], rfl⟩
 by_cases h5 : v.k = 5
 ·simp [hho, noHo, valA, h5, -List.reduceReplicate]
  have e : decide ((v.t.size : Int) ≤ 200) = decide (v.t.size ≤ 200) := by
   rw [decide_eq_decide]; omega
  exact Ret.drop (by rfl) ⟨by simp [valOk, h5, e], rfl⟩
 simp [hho, noHo, valA, h0, h1, h2, h3, h4, h5, -List.reduceReplicate]
 exact Ret.drop (by rfl) ⟨by simp [valOk, h0, h1, h2, h3, h4, h5], rfl⟩
def ofOk (v : ValS) (t : TypS) : Bool := typOk t && valOk v && (decide (v.k = 0) || (decide (v.k = t.k) && decide (v.s = t.s)))
set_option maxHeartbeats 8000000 in
theorem val_of (v : ValS) (t : TypS) (hv : v.t.size ≤ 9000000000000000000) : ACalls Tryz.prog 173 [.agg (valA v), .agg (typA t)] [] (fun _ => false) (fun r h' => r = .c (.bool (ofOk v t)) ∧ h' = []) := by
 refine acalls mixed Tryz.func173 rfl Tryz.ntmps173 rfl fun E hE hst hho => ?_
 have h1 := type_right t
 have h2 := val_right v hv
 cases hT : typOk t with
 | false =>
  rw [hT] at h1
  simp [hho, noHo, valA, typA, -List.reduceReplicate]
  refine call_x [] h1 rfl rfl ⟨rfl, rfl⟩ hho (by simp) (by decide) (by simp) (by simp) ?_
  simp [hho, noHo, undef, onGP_none, condG_false, -List.reduceReplicate]
  exact Ret.drop (by rfl) ⟨by simp [ofOk, hT], rfl⟩
 | true =>
  rw [hT] at h1
  cases hV : valOk v with
  | false =>
   rw [hV] at h2
   simp [hho, noHo, valA, typA, -List.reduceReplicate]
   refine call_x [] h1 rfl rfl ⟨rfl, rfl⟩ hho (by simp) (by decide) (by simp) (by simp) ?_
   simp [hho, noHo, undef, onGP_none, condG_false, -List.reduceReplicate]
   refine call_x [] h2 rfl rfl ⟨rfl, rfl⟩ hho (by simp) (by decide) (by simp) (by simp) ?_
   simp [hho, noHo, undef, onGP_none, condG_false, -List.reduceReplicate]
   exact Ret.drop (by rfl) ⟨by simp [ofOk, hT, hV], rfl⟩
  | true =>
   rw [hV] at h2
   simp [hho, noHo, valA, typA, -List.reduceReplicate]
   refine call_x [] h1 rfl rfl ⟨rfl, rfl⟩ hho (by simp) (by decide) (by simp) (by simp) ?_
   simp [hho, noHo, undef, onGP_none, condG_false, -List.reduceReplicate]
   refine call_x [] h2 rfl rfl ⟨rfl, rfl⟩ hho (by simp) (by decide) (by simp) (by simp) ?_
   by_cases c0 : v.k = 0
   ·simp [hho, noHo, c0, undef, onGP_none, condG_false, -List.reduceReplicate]
    exact Ret.drop (by rfl) ⟨by simp [ofOk, hT, hV, c0], rfl⟩
   ·by_cases c1 : v.k = t.k
    ·simp [hho, noHo, c0, c1, undef, onGP_none, condG_false, -List.reduceReplicate]
     exact Ret.drop (by rfl) ⟨by simp [ofOk, hT, hV, c1], rfl⟩
    ·simp [hho, noHo, c0, c1, undef, onGP_none, condG_false, -List.reduceReplicate]
     exact Ret.drop (by rfl) ⟨by simp [ofOk, hT, hV, c0, c1], rfl⟩

def nameC (i : Nat) (c : UInt8) : Bool := (decide (97 ≤ c.toNat) && decide (c.toNat ≤ 122)) || (decide (i ≠ 0) && ((decide (48 ≤ c.toNat) && decide (c.toNat ≤ 57)) || decide (c.toNat = 95)))
def nameFrom : Nat → List UInt8 → Bool
 | _, [] => true
 | i, c :: l => nameC i c && nameFrom (i + 1) l
def nameOk (s : ByteArray) : Bool := nameFrom 0 s.data.toList && decide (s.size ≠ 0) && decide (s.size ≤ 24)
theorem decode_hi (s : ByteArray) (i : Nat) (h : 128 ≤ (s.get! i).toNat) : 122 < (Utf8.decode s i).1 := by
 rw [decode_at]
 unfold decodeN
 repeat' split
 all_goals first | omega | (simp only [Utf8.runeError]; omega) | (simp only; omega)
set_option maxHeartbeats 8000000 in
theorem name_schB (s : ByteArray) (hs : s.size ≤ 9223372036854775807) : ACalls Tryz.prog 33 [.c (.string s)] [] (fun _ => false) (fun r h' => r = .c (.bool (nameOk s)) ∧ h' = []) := by
 refine acalls mixed Tryz.func33 rfl Tryz.ntmps33 rfl fun E hE hst hho => ?_
 simp [hho, noHo, -List.reduceReplicate]
 refine loop_k mixed (fun i : Nat => ⟨slotsOf 44 [(0, .c (.string s)), (7, .ptr 0 0 0)], [.raw (.it s i)]⟩) (fun i => s.size - i) (fun i => i ≤ s.size ∧ nameFrom i (s.data.toList.drop i) = nameFrom 0 s.data.toList) 0 ⟨Nat.zero_le _, rfl⟩ ?_ ?_
 ·exact wk_eq (by simp [hE, lens]) (by simp) (by simp [livH, livO, AV.livL, AV.liv, wkL, wkV, List.range', slotsOf])
 ·rintro i ⟨hi, hv⟩
  by_cases hil : i < s.size
  ·have hiI : (i : Int) < s.size := by omega
   have hil' : i < s.data.toList.length := by simpa using hil
   rw [List.drop_eq_getElem_cons hil', nameFrom] at hv
   obtain ⟨c, hc⟩ : ∃ c, c = s.data.toList[i] := ⟨_, rfl⟩
   rw [← hc] at hv
   have hget : s.get! i = c := by
    rw [hc]
    simp at hil'
    simp [ByteArray.get!, hil']
   have hdec : (c.toNat < 128 ∧ Utf8.decode s i = (c.toNat, 1)) ∨ (nameC i c = false ∧ 122 < (Utf8.decode s i).1) := by
    by_cases h : c.toNat < 128
    ·have hg : (s[i]'hil) = c := by rw [hc]; rfl
     refine .inl ⟨h, ?_⟩
     rw [decode_ascii s i hil (by rw [hg]; exact h), hg]
    ·refine .inr ⟨?_, decode_hi s i (by rw [hget]; omega)⟩
     have := c.toNat_lt
     rw [Bool.eq_false_iff]
     intro hC
     simp only [nameC, Bool.or_eq_true, Bool.and_eq_true, decide_eq_true_eq] at hC
     omega
   simp (maxSteps := 1000000) [slotsOf, hho, noHo, hiI, hil, undef, onGP_none, condG_false, -List.reduceReplicate]
   obtain ⟨r, hr⟩ : ∃ r, r = Utf8.decode s i := ⟨_, rfl⟩
   obtain ⟨r1, r2⟩ := r
   rw [← hr] at hdec ⊢
   simp only at hdec ⊢
   refine ⟨by omega, by omega, by omega, ?_⟩
   by_cases hC : nameC i c = true
   ·rcases hdec with ⟨h, hd⟩ | ⟨h, _⟩
    ·injection hd with d1 d2
     subst d1 d2
     have hC2 := hC
     simp only [nameC, Bool.or_eq_true, Bool.and_eq_true, decide_eq_true_eq] at hC2
     rw [if_neg (by omega)]
     rw [hC, Bool.true_and] at hv
     refine round_next (i + 1) ⟨by omega, hv⟩ (by omega) ?_
     exact wk_eq (by simp [hE, lens]) (by simp) (by simp [livH, livO, AV.livL, AV.liv, wkL, wkV, List.range', slotsOf])
    ·rw [hC] at h; cases h
   ·have hbad : ¬ ((97 ≤ r1 ∧ r1 ≤ 122) ∨ (i ≠ 0 ∧ (r1 = 95 ∨ (48 ≤ r1 ∧ r1 ≤ 57)))) := by
     intro hx
     rcases hdec with ⟨h, hd⟩ | ⟨_, h⟩
     ·injection hd with d1 d2
      subst d1
      apply hC
      simp only [nameC, Bool.or_eq_true, Bool.and_eq_true, decide_eq_true_eq]
      omega
     ·omega
    rw [if_pos (by omega)]
    rw [Bool.eq_false_iff.2 hC, Bool.false_and] at hv
    exact Ret.drop (by rfl) ⟨by simp [nameOk, ← hv], rfl⟩
  ·obtain rfl : i = s.size := by omega
   rw [List.drop_eq_nil_of_le (by simp), nameFrom] at hv
   simp (maxSteps := 1000000) [slotsOf, hho, noHo, undef, onGP_none, condG_false, -List.reduceReplicate]
   refine Ret.drop (by rfl) ⟨?_, rfl⟩
   congr 2
   rw [Bool.eq_iff_iff]
   simp only [nameOk, ← hv, Bool.true_and, Bool.and_eq_true, decide_eq_true_eq]
   omega
theorem name_sch (s : ByteArray) (hs : s.size ≤ 9000000000000000000) : ACalls Tryz.prog 33 [.c (.string s)] [] (fun _ => false) (fun r h' => r = .c (.bool (nameOk s)) ∧ h' = []) := name_schB s (by omega)
end Go.Proofs.YthgoocdldnkogaaGreatDoor
