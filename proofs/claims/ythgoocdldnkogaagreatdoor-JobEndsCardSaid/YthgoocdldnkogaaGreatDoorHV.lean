import Derived.Test.YthgoocdldnkogaaGreatDoorHW
import Derived.Shelf.Unicode.ValidAny
import Derived.Lib.ValidLaws
namespace Go.Proofs.YthgoocdldnkogaaGreatDoor
set_option linter.unusedVariables false
set_option linter.unusedSimpArgs false
open Go.RowKit
attribute [local simp] isCut_nil isCut_region isCut_seq isCut_block isCut_loop isCut_cond isCut_skip isCut_exit isCut_ret isCut_range swapK putK altK condK_bool pickP_bool stepP stepO onPure_some onPure_none onImpl_some onImpl_none stepC onGP_some onGP_none onGV_some condG mkG onIt_it nextP_ptr takeP_eq takeV_some takeV_none takeU_some takeU_none takeQ takeW_some takeN_none takeN_some takeG_some takeO_some altO_some pureV binV2 eqF eqOp ovlV ovl2 rowAt capV binV intBin strBin isSh shV fldV ixV sliceV slice3V loadAV nilV lenV callV unV convV viewS cellsH loadV fldCut AV.ung AV.ungs AV.gc AV.cells AS.ev AS.put anyS gcsV gcO lens lnO gV guardV retK RetP_eq resV oneV anyRo loIx hiIx implO callP_clo evL gcsL clearV storeAV AS.push AS.setO appV appZ shortS copyV buildV partsV fillV srcV fzO okV isCell_c isCell_ptr isCell_sl isCell_fs isCell_fp isCell_clo rowZ_one rowZ_zero rowZ_2 rowZ_3 rowZ_4 rowZ_5 rowZ_6 rowZ_7 rowZ_8 rowZ_9 rowZ_10 rowZ_11 rowZ_12 noHo Value.oneCell' max2V min2V lookV updV updK updW cvals mkAt basV lenM msAt afterH putBack frzFrom frzO rebO backIx nilEq_sl nilEq_fs nilEq_ifn nilEq_ifh ifOp_eql ifOp_neq isLit nilOp_eql nilOp_neq AV.reb AV.rebL
attribute [local simp ↓] runK_skip runK_region runK_draw runK_seq runK_cut runK_cond runK_block runK_loop runK_exit runK_label runK_goto runK_ret runK_range contK_nil contK_seq contK_seq_ret contK_seq_exit contK_seq_goto contK_block contK_block_ret contK_block_goto contK_block_exit runO_nil runO_cons roundK_exit roundK_ret roundK_goto exitK_ret cutK_ret cutK_exit runE_done runE_nil runE_take runE_alt condG_true condG_false
set_option maxRecDepth 10000
def i64v (n : Int) : Prop := -9223372036854775808 ≤ n ∧ n ≤ 9223372036854775807
structure TypS where
 k : Int
 s : Int
structure ValS where
 k : Int
 n : Int
 s : Int
 t : ByteArray
def typA (t : TypS) : List AV := [.c (.int .i64 t.k), .c (.int .i64 t.s)]
def valA (v : ValS) : List AV := [.c (.int .i64 v.k), .c (.int .i64 v.n), .c (.int .i64 v.s), .c (.string v.t)]
@[simp] theorem typA_length (t : TypS) : (typA t).length = 2 := rfl
@[simp] theorem valA_length (v : ValS) : (valA v).length = 4 := rfl
def TypS.Ok (t : TypS) : Prop := i64v t.k ∧ i64v t.s
def ValS.Ok (v : ValS) : Prop := i64v v.k ∧ i64v v.n ∧ i64v v.s ∧ v.t.size ≤ maxLen
def scaleOk (n : Int) : Bool := decide (0 ≤ n) && decide (n ≤ 6)
def typOk (t : TypS) : Bool := if t.k = 3 then scaleOk t.s else decide (1 ≤ t.k) && decide (t.k ≤ 5) && decide (t.s = 0)
theorem right_dec (n : Int) : ACalls Tryz.prog 188 [.c (.int .i64 n)] [] (fun _ => false) (fun r h' => r = .c (.bool (scaleOk n)) ∧ h' = []) := by
 refine acalls mixed Tryz.func188 rfl Tryz.ntmps188 rfl fun E hE hst hho => ?_
 simp [hho, noHo, -List.reduceReplicate]
 exact Ret.same ⟨rfl, rfl⟩
theorem scale_ref (n : Int) : ACalls Tryz.prog 186 [.c (.int .i64 n)] [] (fun _ => false) (fun r h' => r = .c (.bool (scaleOk n)) ∧ h' = []) := by
 refine acalls mixed Tryz.func186 rfl Tryz.ntmps186 rfl fun E hE hst hho => ?_
 simp [hho, noHo, -List.reduceReplicate]
 exact Ret.same ⟨rfl, rfl⟩
theorem type_right (t : TypS) : ACalls Tryz.prog 172 [.agg (typA t)] [] (fun _ => false) (fun r h' => r = .c (.bool (typOk t)) ∧ h' = []) := by
 refine acalls mixed Tryz.func172 rfl Tryz.ntmps172 rfl fun E hE hst hho => ?_
 by_cases h3 : t.k = 3
 ·simp [hho, noHo, typA, h3, -List.reduceReplicate]
  refine call_x [] (right_dec t.s) rfl rfl ⟨rfl, rfl⟩ hho (by simp) (by decide) (by simp) (by simp) ?_
  simp [hho, noHo, -List.reduceReplicate]
  exact Ret.drop (by rfl) ⟨by simp [typOk, h3], rfl⟩
 ·simp [hho, noHo, typA, h3, -List.reduceReplicate]
  exact Ret.drop (by rfl) ⟨by simp [typOk, h3, Bool.and_assoc], rfl⟩
theorem type_ref (t : TypS) : ACalls Tryz.prog 168 [.agg (typA t)] [] (fun _ => false) (fun r h' => r = .c (.bool (typOk t)) ∧ h' = []) := by
 refine acalls mixed Tryz.func168 rfl Tryz.ntmps168 rfl fun E hE hst hho => ?_
 by_cases h3 : t.k = 3
 ·simp [hho, noHo, typA, h3, -List.reduceReplicate]
  refine call_x [] (scale_ref t.s) rfl rfl ⟨rfl, rfl⟩ hho (by simp) (by decide) (by simp) (by simp) ?_
  simp [hho, noHo, -List.reduceReplicate]
  exact Ret.drop (by rfl) ⟨by simp [typOk, h3], rfl⟩
 ·by_cases h1 : t.k = 1
  ·simp [hho, noHo, typA, h1, -List.reduceReplicate]
   exact Ret.drop (by rfl) ⟨by simp [typOk, h1], rfl⟩
  ·by_cases h2 : t.k = 2
   ·simp [hho, noHo, typA, h2, -List.reduceReplicate]
    exact Ret.drop (by rfl) ⟨by simp [typOk, h2], rfl⟩
   ·by_cases h4 : t.k = 4
    ·simp [hho, noHo, typA, h4, -List.reduceReplicate]
     exact Ret.drop (by rfl) ⟨by simp [typOk, h4], rfl⟩
    ·by_cases h5 : t.k = 5
     ·simp [hho, noHo, typA, h5, -List.reduceReplicate]
      exact Ret.drop (by rfl) ⟨by simp [typOk, h5], rfl⟩
     ·simp [hho, noHo, typA, h1, h2, h3, h4, h5, -List.reduceReplicate]
      refine Ret.drop (by rfl) ⟨?_, rfl⟩
      congr 2
      simp [typOk, h3]
      intro q1 q2
      omega
def opnI : Opn Tryz.prog 3 Int := opnInt .i64 Tryz.underlying3 (by kernel_rfl)
def opnKind : Opn Tryz.prog 37 Int := opnInt .i64 Tryz.underlying37 (by kernel_rfl)
def opnStr : Opn Tryz.prog 9 ByteArray := opnString Tryz.underlying9 (by kernel_rfl)
def opnBo : Opn Tryz.prog 4 Bool := opnBool Tryz.underlying4 (by kernel_rfl)
def opnTyp : Opn Tryz.prog 39 TypS :=
 (opnStruct Tryz.underlying39 rfl (opnCons 1 opnKind (by kernel_rfl) rfl (opnCons 1 opnI (by kernel_rfl) rfl (opnNil 2))) (by kernel_rfl)).map
  (fun x : Int × Int × Unit => (⟨x.1, x.2.1⟩ : TypS)) typA TypS.Ok (fun _ => rfl) (fun x h => ⟨bounds_i64 h.1, bounds_i64 h.2.1⟩) fun _ => by kernel_rfl
def opnVal : Opn Tryz.prog 41 ValS :=
 (opnStruct Tryz.underlying41 rfl (opnCons 1 opnKind (by kernel_rfl) rfl (opnCons 1 opnI (by kernel_rfl) rfl (opnCons 1 opnI (by kernel_rfl) rfl (opnCons 1 opnStr (by kernel_rfl) rfl (opnNil 4))))) (by kernel_rfl)).map
  (fun x : Int × Int × Int × ByteArray × Unit => (⟨x.1, x.2.1, x.2.2.1, x.2.2.2.1⟩ : ValS)) valA ValS.Ok (fun _ => rfl) (fun x h => ⟨bounds_i64 h.1, bounds_i64 h.2.1, bounds_i64 h.2.2.1, h.2.2.2.1⟩) fun _ => by kernel_rfl
end Go.Proofs.YthgoocdldnkogaaGreatDoor
namespace Go.Proofs.YthgoocdldnkogaaGreatDoor
set_option linter.unusedVariables false
set_option linter.unusedSimpArgs false
open Go.RowKit Go.Shelf
attribute [local simp] isCut_nil isCut_region isCut_seq isCut_block isCut_loop isCut_cond isCut_skip isCut_exit isCut_ret isCut_range swapK putK altK condK_bool pickP_bool stepP stepO onPure_some onPure_none onImpl_some onImpl_none stepC onGP_some onGP_none onGV_some condG mkG onIt_it nextP_ptr takeP_eq takeV_some takeV_none takeU_some takeU_none takeQ takeW_some takeN_none takeN_some takeG_some takeO_some altO_some pureV binV2 eqF eqOp ovlV ovl2 rowAt capV binV intBin strBin isSh shV fldV ixV sliceV slice3V loadAV nilV lenV callV unV convV viewS cellsH loadV fldCut AV.ung AV.ungs AV.gc AV.cells AS.ev AS.put anyS gcsV gcO lens lnO gV guardV retK RetP_eq resV oneV anyRo loIx hiIx implO callP_clo evL gcsL clearV storeAV AS.push AS.setO appV appZ shortS copyV buildV partsV fillV srcV fzO okV isCell_c isCell_ptr isCell_sl isCell_fs isCell_fp isCell_clo rowZ_one rowZ_zero rowZ_2 rowZ_3 rowZ_4 rowZ_5 rowZ_6 rowZ_7 rowZ_8 rowZ_9 rowZ_10 rowZ_11 rowZ_12 noHo Value.oneCell' max2V min2V lookV updV updK updW cvals mkAt basV lenM msAt afterH putBack frzFrom frzO rebO backIx nilEq_sl nilEq_fs nilEq_ifn nilEq_ifh ifOp_eql ifOp_neq isLit nilOp_eql nilOp_neq AV.reb AV.rebL
attribute [local simp ↓] runK_skip runK_region runK_draw runK_seq runK_cut runK_cond runK_block runK_loop runK_exit runK_label runK_goto runK_ret runK_range contK_nil contK_seq contK_seq_ret contK_seq_exit contK_seq_goto contK_block contK_block_ret contK_block_goto contK_block_exit runO_nil runO_cons roundK_exit roundK_ret roundK_goto exitK_ret cutK_ret cutK_exit runE_done runE_nil runE_take runE_alt condG_true condG_false
set_option maxRecDepth 10000
def valid_ren : Go.Shelf.Ren := ⟨fun | 196 => 190 | 259 => 193 | n => n, fun | 0 => 0 | 3 => 3 | 4 => 4 | 5 => 5 | 9 => 9 | 12 => 12 | 46 => 174 | 53 => 173 | 119 => 216 | 138 => 218 | 139 => 219 | n => n, fun | 3 => 0 | 4 => 1 | n => n⟩
theorem valid_lays : Lays.n196 Tryz.prog valid_ren := { mixed := by kernel_rfl, f196 := Tryz.func190.trans (congrArg some (by kernel_rfl)), f259 := Tryz.func193.trans (congrArg some (by kernel_rfl)), t0 := Tryz.underlying0, a0 := Tryz.isAgg0, z0 := Tryz.sizeOf0, v0 := Tryz.zeroValue0, t3 := Tryz.underlying3, a3 := Tryz.isAgg3, z3 := Tryz.sizeOf3, v3 := Tryz.zeroValue3, t4 := Tryz.underlying4, a4 := Tryz.isAgg4, z4 := Tryz.sizeOf4, v4 := Tryz.zeroValue4, t5 := Tryz.underlying5, a5 := Tryz.isAgg5, z5 := Tryz.sizeOf5, v5 := Tryz.zeroValue5, t9 := Tryz.underlying9, a9 := Tryz.isAgg9, z9 := Tryz.sizeOf9, v9 := Tryz.zeroValue9, t12 := Tryz.underlying12, a12 := Tryz.isAgg12, z12 := Tryz.sizeOf12, v12 := Tryz.zeroValue12, t46 := Tryz.underlying174, a46 := Tryz.isAgg174, z46 := Tryz.sizeOf174, v46 := Tryz.zeroValue174, t53 := Tryz.underlying173, a53 := Tryz.isAgg173, z53 := Tryz.sizeOf173, v53 := Tryz.zeroValue173, t119 := Tryz.underlying216, a119 := Tryz.isAgg216, z119 := Tryz.sizeOf216, t138 := Tryz.underlying218, a138 := Tryz.isAgg218, z138 := Tryz.sizeOf218, v138 := Tryz.zeroValue218, t139 := Tryz.underlying219, a139 := Tryz.isAgg219, z139 := Tryz.sizeOf219, v139 := Tryz.zeroValue219, g3 := by kernel_rfl, g4 := by kernel_rfl }
theorem acalls_plain {P : Program} {f : FuncId} {args : List Value} {v : Value} (st : Nat → Bool) (h : ∀ w, TabW w → Calls P f args.toArray w fun e w' => e = .returned v ∧ Below w.heap.size w w') : ACalls P f (args.map AV.c) [] st (fun r h' => r = .c v ∧ h' = []) := by
 intro G F w vs hr hfc hl
 have hvs : vs = args.toArray := by
  apply Array.ext'
  simp only [List.toList_toArray]
  apply List.ext_getElem?
  intro j
  obtain ⟨h1, h2⟩ := hl
  by_cases hj : j < args.length
  ·have hj2 : j < vs.size := by rw [← h1]; simpa using hj
   have := (h2 j (.c args[j]) vs[j] (by simp [hj]) (by simp [hj2])).c_inv
   simp [hj, hj2, this]
  ·have hj2 : ¬ j < vs.size := by rw [← h1]; simpa using hj
   simp [hj, hj2]
 subst hvs
 refine (h w hfc.tabW).mono fun e w' ⟨he, hb⟩ => ?_
 have hk : ∀ b, F b → w'.heap[b]? = w.heap[b]? := fun b hb' => hb.block b (hfc.lt b hb')
 refine ⟨v, .c v, [], G, F, he, ⟨⟨fun k x hk => by simp at hk, fun j k x y hj => by simp at hj⟩, Mod.of_below hb |>.mono fun k h1 h2 => absurd h1 (by omega), fun k x hk => by simp at hk, fun b hb' => .inl hb', fun b hb' => hb', hfc.keep hk⟩, .d _ _ (.c v), fun k m _ hk => by simp [lens] at hk, rfl, rfl⟩
theorem tab_cell {w : World} {b : Nat} {cs : Array Value} (h : TabW w) (hm : (b, isTab cs) ∈ tabB) (i : Nat) : w.cell? ⟨b, i, none⟩ = cs[i]? := by
 obtain ⟨_, ty, fr, rfl, h1⟩ := h _ hm
 simp [World.cell?, h1]
theorem utf8_tabs {w : World} (h : TabW w) : Lib.Utf8Tabs (valid_ren.g 3) (valid_ren.g 4) w := by
 refine ⟨fun c hc => ?_, fun i hi => ?_⟩
 ·rw [tab_cell h (b := valid_ren.g 3) (cs := firstTab) (by simp [tabB, valid_ren])]
  simp [firstTab, hc]
 ·have hl : ∀ j, j < 32 → accTab[j]? = some (if j % 2 = 0 then Value.int .u8 (Lib.accLo (j / 2) : Nat) else Value.int .u8 (Lib.accHi (j / 2) : Nat)) := by
   intro j hj
   have h : j = 0 ∨ j = 1 ∨ j = 2 ∨ j = 3 ∨ j = 4 ∨ j = 5 ∨ j = 6 ∨ j = 7 ∨ j = 8 ∨ j = 9 ∨ j = 10 ∨ j = 11 ∨ j = 12 ∨ j = 13 ∨ j = 14 ∨ j = 15 ∨ j = 16 ∨ j = 17 ∨ j = 18 ∨ j = 19 ∨ j = 20 ∨ j = 21 ∨ j = 22 ∨ j = 23 ∨ j = 24 ∨ j = 25 ∨ j = 26 ∨ j = 27 ∨ j = 28 ∨ j = 29 ∨ j = 30 ∨ j = 31 := by omega
   rcases h with rfl | rfl | rfl | rfl | rfl | rfl | rfl | rfl | rfl | rfl | rfl | rfl | rfl | rfl | rfl | rfl | rfl | rfl | rfl | rfl | rfl | rfl | rfl | rfl | rfl | rfl | rfl | rfl | rfl | rfl | rfl | rfl <;> rfl
  rw [tab_cell h (b := valid_ren.g 4) (cs := accTab) (by simp [tabB, valid_ren]), tab_cell h (b := valid_ren.g 4) (cs := accTab) (by simp [tabB, valid_ren]), hl _ (by omega), hl _ (by omega), if_pos (by omega), if_neg (by omega)]
  rw [show 2 * i / 2 = i by omega, show (2 * i + 1) / 2 = i by omega]
  exact ⟨rfl, rfl⟩
def utfOk (s : ByteArray) : Bool := Lib.validD s.data.toList
theorem valid_utf (s : ByteArray) (hs : s.size ≤ 9223372036854775807) : ACalls Tryz.prog 190 [.c (.string s)] [] (fun _ => false) (fun r h' => r = .c (.bool (utfOk s)) ∧ h' = []) :=
 acalls_plain (args := [.string s]) (fun _ => false) fun w hT => Any.utf8_ValidString valid_lays s w hs (utf8_tabs hT)
end Go.Proofs.YthgoocdldnkogaaGreatDoor
namespace Go.Proofs.YthgoocdldnkogaaGreatDoor
set_option linter.unusedVariables false
set_option linter.unusedSimpArgs false
open Go.RowKit Go.Lib
def utfBad (least x : Nat) : Bool := decide (x < least) || decide (1114111 < x) || (decide (55296 ≤ x) && decide (x < 57344))
def utfN (n c b1 b2 b3 : Nat) : Option Nat :=
 if c < 192 ∨ 248 ≤ c then none
 else if c < 224 then (if n < 2 ∨ b1 < 128 ∨ 191 < b1 ∨ utfBad 128 (64 * (c - 192) + b1 - 128) = true then none else some 2)
 else if c < 240 then (if n < 3 ∨ b1 < 128 ∨ 191 < b1 ∨ b2 < 128 ∨ 191 < b2 ∨ utfBad 2048 (64 * (64 * (c - 224) + b1 - 128) + b2 - 128) = true then none else some 3)
 else (if n < 4 ∨ b1 < 128 ∨ 191 < b1 ∨ b2 < 128 ∨ 191 < b2 ∨ b3 < 128 ∨ 191 < b3 ∨ utfBad 65536 (64 * (64 * (64 * (c - 240) + b1 - 128) + b2 - 128) + b3 - 128) = true then none else some 4)
set_option maxHeartbeats 4000000 in
theorem firstT_hi (c : Nat) (h0 : 128 ≤ c) : (c < 194 ∧ firstT c = 241) ∨ (194 ≤ c ∧ c < 224 ∧ firstT c = 2) ∨ (c = 224 ∧ firstT c = 19) ∨ (225 ≤ c ∧ c < 240 ∧ c ≠ 237 ∧ firstT c = 3) ∨ (c = 237 ∧ firstT c = 35) ∨ (c = 240 ∧ firstT c = 52) ∨ (241 ≤ c ∧ c < 244 ∧ firstT c = 4) ∨ (c = 244 ∧ firstT c = 68) ∨ (245 ≤ c ∧ firstT c = 241) := by
 unfold firstT
 repeat' split
 all_goals omega
set_option maxHeartbeats 8000000 in
theorem utf_check (n c b1 b2 b3 : Nat) (h0 : 128 ≤ c) : checkN n b1 b2 b3 (firstT c % 8) (accLo (firstT c / 16)) (accHi (firstT c / 16)) = utfN n c b1 b2 b3 := by
 have key : ∀ sz lo hi, firstT c % 8 = sz → accLo (firstT c / 16) = lo → accHi (firstT c / 16) = hi → checkN n b1 b2 b3 sz lo hi = utfN n c b1 b2 b3 → checkN n b1 b2 b3 (firstT c % 8) (accLo (firstT c / 16)) (accHi (firstT c / 16)) = utfN n c b1 b2 b3 := fun sz lo hi e1 e2 e3 h => by rw [e1, e2, e3]; exact h
 rcases firstT_hi c h0 with ⟨h, e⟩ | ⟨h, h', e⟩ | ⟨h, e⟩ | ⟨h, h', h'', e⟩ | ⟨h, e⟩ | ⟨h, e⟩ | ⟨h, h', e⟩ | ⟨h, e⟩ | ⟨h, e⟩
 ·refine key 1 0 0 (by rw [e]) (by rw [e]; decide) (by rw [e]; decide) ?_
  simp (decide := true) only [checkN, utfN, utfBad, Bool.or_eq_true, Bool.and_eq_true, decide_eq_true_eq, if_false]
  repeat' split
  all_goals first | rfl | (exfalso; omega)
 ·refine key 2 128 191 (by rw [e]) (by rw [e]; decide) (by rw [e]; decide) ?_
  simp (decide := true) only [checkN, utfN, utfBad, Bool.or_eq_true, Bool.and_eq_true, decide_eq_true_eq, if_false, if_true]
  repeat' split
  all_goals first | rfl | (exfalso; omega)
 ·refine key 3 160 191 (by rw [e]) (by rw [e]; decide) (by rw [e]; decide) ?_
  simp (decide := true) only [checkN, utfN, utfBad, Bool.or_eq_true, Bool.and_eq_true, decide_eq_true_eq, if_false, if_true]
  repeat' split
  all_goals first | rfl | (exfalso; omega)
 ·refine key 3 128 191 (by rw [e]) (by rw [e]; decide) (by rw [e]; decide) ?_
  simp (decide := true) only [checkN, utfN, utfBad, Bool.or_eq_true, Bool.and_eq_true, decide_eq_true_eq, if_false, if_true]
  repeat' split
  all_goals first | rfl | (exfalso; omega)
 ·refine key 3 128 159 (by rw [e]) (by rw [e]; decide) (by rw [e]; decide) ?_
  simp (decide := true) only [checkN, utfN, utfBad, Bool.or_eq_true, Bool.and_eq_true, decide_eq_true_eq, if_false, if_true]
  repeat' split
  all_goals first | rfl | (exfalso; omega)
 ·refine key 4 144 191 (by rw [e]) (by rw [e]; decide) (by rw [e]; decide) ?_
  simp (decide := true) only [checkN, utfN, utfBad, Bool.or_eq_true, Bool.and_eq_true, decide_eq_true_eq, if_false, if_true]
  repeat' split
  all_goals first | rfl | (exfalso; omega)
 ·refine key 4 128 191 (by rw [e]) (by rw [e]; decide) (by rw [e]; decide) ?_
  simp (decide := true) only [checkN, utfN, utfBad, Bool.or_eq_true, Bool.and_eq_true, decide_eq_true_eq, if_false, if_true]
  repeat' split
  all_goals first | rfl | (exfalso; omega)
 ·refine key 4 128 143 (by rw [e]) (by rw [e]; decide) (by rw [e]; decide) ?_
  simp (decide := true) only [checkN, utfN, utfBad, Bool.or_eq_true, Bool.and_eq_true, decide_eq_true_eq, if_false, if_true]
  repeat' split
  all_goals first | rfl | (exfalso; omega)
 ·refine key 1 0 0 (by rw [e]) (by rw [e]; decide) (by rw [e]; decide) ?_
  simp (decide := true) only [checkN, utfN, utfBad, Bool.or_eq_true, Bool.and_eq_true, decide_eq_true_eq, if_false]
  repeat' split
  all_goals first | rfl | (exfalso; omega)
end Go.Proofs.YthgoocdldnkogaaGreatDoor
namespace Go.Proofs.YthgoocdldnkogaaGreatDoor
set_option linter.unusedVariables false
set_option linter.unusedSimpArgs false
open Go.RowKit Go.Lib
attribute [local simp] isCut_nil isCut_region isCut_seq isCut_block isCut_loop isCut_cond isCut_skip isCut_exit isCut_ret isCut_range swapK putK altK condK_bool pickP_bool stepP stepO onPure_some onPure_none onImpl_some onImpl_none stepC onGP_some onGP_none onGV_some condG mkG onIt_it nextP_ptr takeP_eq takeV_some takeV_none takeU_some takeU_none takeQ takeW_some takeN_none takeN_some takeG_some takeO_some altO_some pureV binV2 eqF eqOp ovlV ovl2 rowAt capV binV intBin strBin isSh shV fldV ixV sliceV slice3V loadAV nilV lenV callV unV convV viewS cellsH loadV fldCut AV.ung AV.ungs AV.gc AV.cells AS.ev AS.put anyS gcsV gcO lens lnO gV guardV retK RetP_eq resV oneV anyRo loIx hiIx implO callP_clo evL gcsL clearV storeAV AS.push AS.setO appV appZ shortS copyV buildV partsV fillV srcV fzO okV isCell_c isCell_ptr isCell_sl isCell_fs isCell_fp isCell_clo rowZ_one rowZ_zero rowZ_2 rowZ_3 rowZ_4 rowZ_5 rowZ_6 rowZ_7 rowZ_8 rowZ_9 rowZ_10 rowZ_11 rowZ_12 noHo Value.oneCell' max2V min2V lookV updV updK updW cvals mkAt basV lenM msAt afterH putBack frzFrom frzO rebO backIx nilEq_sl nilEq_fs nilEq_ifn nilEq_ifh ifOp_eql ifOp_neq isLit nilOp_eql nilOp_neq AV.reb AV.rebL
attribute [local simp ↓] runK_skip runK_region runK_draw runK_seq runK_cut runK_cond runK_block runK_loop runK_exit runK_label runK_goto runK_ret runK_range contK_nil contK_seq contK_seq_ret contK_seq_exit contK_seq_goto contK_block contK_block_ret contK_block_goto contK_block_exit runO_nil runO_cons roundK_exit roundK_ret roundK_goto exitK_ret cutK_ret cutK_exit runE_done runE_nil runE_take runE_alt condG_true condG_false
set_option maxRecDepth 10000
def utfX (x0 : Nat) (g : Nat → Nat) : Nat → Nat
 | 0 => x0
 | k + 1 => 64 * utfX x0 g k + g (k + 1) - 128
def utfCls (c n least x0 : Nat) : Prop := (c < 128 ∧ n = 0 ∧ least = 0 ∧ x0 = c) ∨ (192 ≤ c ∧ c < 224 ∧ n = 1 ∧ least = 128 ∧ x0 = c - 192) ∨ (224 ≤ c ∧ c < 240 ∧ n = 2 ∧ least = 2048 ∧ x0 = c - 224) ∨ (240 ≤ c ∧ c < 248 ∧ n = 3 ∧ least = 65536 ∧ x0 = c - 240)
def gB (l : List UInt8) (j : Nat) : Nat := (l.getD j 0).toNat
theorem valid_bad {l : List UInt8} (hl : l ≠ []) (h : (128 ≤ gB l 0 ∧ gB l 0 < 192) ∨ 248 ≤ gB l 0) : validD l = false := by
 unfold gB at h
 rw [validD_lead l hl (by omega), utf_check _ _ _ _ _ (by omega), utfN, if_pos (by omega)]
open Classical in
theorem utf_cls {l : List UInt8} (hl : l ≠ []) {n least x0 : Nat} (h : utfCls (gB l 0) n least x0) : validD l = if l.length < n + 1 ∨ (∃ j, 1 ≤ j ∧ j ≤ n ∧ (gB l j < 128 ∨ 191 < gB l j)) ∨ utfBad least (utfX x0 (gB l) n) = true then false else validD (l.drop (n + 1)) := by
 rcases h with ⟨h, rfl, rfl, rfl⟩ | ⟨h, h', rfl, rfl, rfl⟩ | ⟨h, h', rfl, rfl, rfl⟩ | ⟨h, h', rfl, rfl, rfl⟩
 ·rcases l with _ | ⟨b, t⟩
  ·exact absurd rfl hl
  ·rw [if_neg]
   ·exact validD_cons b t h
   ·rintro (h1 | ⟨j, h1, h2, _⟩ | h1)
    ·simp at h1
    ·omega
    ·simp [utfBad, utfX, gB] at h1 h
     omega
 ·have e : (∃ j, 1 ≤ j ∧ j ≤ 1 ∧ (gB l j < 128 ∨ 191 < gB l j)) ↔ (gB l 1 < 128 ∨ 191 < gB l 1) := ⟨fun ⟨j, h1, h2, h3⟩ => by
   obtain rfl : j = 1 := by omega
   exact h3, fun h => ⟨1, by omega, by omega, h⟩⟩
  rw [e]
  unfold gB at *
  rw [validD_lead l hl (by omega), utf_check _ _ _ _ _ (by omega), utfN, if_neg (by omega), if_pos h']
  by_cases hc : l.length < 2 ∨ (l.getD 1 0).toNat < 128 ∨ 191 < (l.getD 1 0).toNat ∨ utfBad 128 (64 * ((l.getD 0 0).toNat - 192) + (l.getD 1 0).toNat - 128) = true
  ·rw [if_pos hc, if_pos (by simp only [utfX]; grind)]
  ·rw [if_neg hc, if_neg (by simp only [utfX]; grind)]
 ·have e : (∃ j, 1 ≤ j ∧ j ≤ 2 ∧ (gB l j < 128 ∨ 191 < gB l j)) ↔ (gB l 1 < 128 ∨ 191 < gB l 1 ∨ gB l 2 < 128 ∨ 191 < gB l 2) := by
   constructor
   ·rintro ⟨j, h1, h2, h3⟩
    have : j = 1 ∨ j = 2 := by omega
    rcases this with rfl | rfl <;> grind
   ·rintro (h | h | h | h)
    ·exact ⟨1, by omega, by omega, .inl h⟩
    ·exact ⟨1, by omega, by omega, .inr h⟩
    ·exact ⟨2, by omega, by omega, .inl h⟩
    ·exact ⟨2, by omega, by omega, .inr h⟩
  rw [e]
  unfold gB at *
  rw [validD_lead l hl (by omega), utf_check _ _ _ _ _ (by omega), utfN, if_neg (by omega), if_neg (by omega), if_pos h']
  by_cases hc : l.length < 3 ∨ (l.getD 1 0).toNat < 128 ∨ 191 < (l.getD 1 0).toNat ∨ (l.getD 2 0).toNat < 128 ∨ 191 < (l.getD 2 0).toNat ∨ utfBad 2048 (64 * (64 * ((l.getD 0 0).toNat - 224) + (l.getD 1 0).toNat - 128) + (l.getD 2 0).toNat - 128) = true
  ·rw [if_pos hc, if_pos (by simp only [utfX]; grind)]
  ·rw [if_neg hc, if_neg (by simp only [utfX]; grind)]
 ·have e : (∃ j, 1 ≤ j ∧ j ≤ 3 ∧ (gB l j < 128 ∨ 191 < gB l j)) ↔ (gB l 1 < 128 ∨ 191 < gB l 1 ∨ gB l 2 < 128 ∨ 191 < gB l 2 ∨ gB l 3 < 128 ∨ 191 < gB l 3) := by
   constructor
   ·rintro ⟨j, h1, h2, h3⟩
    have : j = 1 ∨ j = 2 ∨ j = 3 := by omega
    rcases this with rfl | rfl | rfl <;> grind
   ·rintro (h | h | h | h | h | h)
    ·exact ⟨1, by omega, by omega, .inl h⟩
    ·exact ⟨1, by omega, by omega, .inr h⟩
    ·exact ⟨2, by omega, by omega, .inl h⟩
    ·exact ⟨2, by omega, by omega, .inr h⟩
    ·exact ⟨3, by omega, by omega, .inl h⟩
    ·exact ⟨3, by omega, by omega, .inr h⟩
  rw [e]
  unfold gB at *
  rw [validD_lead l hl (by omega), utf_check _ _ _ _ _ (by omega), utfN, if_neg (by omega), if_neg (by omega), if_neg (by omega)]
  by_cases hc : l.length < 4 ∨ (l.getD 1 0).toNat < 128 ∨ 191 < (l.getD 1 0).toNat ∨ (l.getD 2 0).toNat < 128 ∨ 191 < (l.getD 2 0).toNat ∨ (l.getD 3 0).toNat < 128 ∨ 191 < (l.getD 3 0).toNat ∨ utfBad 65536 (64 * (64 * (64 * ((l.getD 0 0).toNat - 240) + (l.getD 1 0).toNat - 128) + (l.getD 2 0).toNat - 128) + (l.getD 3 0).toNat - 128) = true
  ·rw [if_pos hc, if_pos (by simp only [utfX]; grind)]
  ·rw [if_neg hc, if_neg (by simp only [utfX]; grind)]
set_option maxHeartbeats 8000000 in
theorem utf_ref (s : ByteArray) (hs : s.size ≤ 9000000000000000000) : ACalls Tryz.prog 187 [.c (.string s)] [] (fun _ => false) (fun r h' => r = .c (.bool (utfOk s)) ∧ h' = []) := by
 refine acalls mixed Tryz.func187 rfl Tryz.ntmps187 rfl fun E hE hst hho => ?_
 simp [hho, noHo, -List.reduceReplicate]
 refine loop_kc [19] mixed (fun i : Nat => ⟨slotsOf 89 [(0, .c (.string s)), (3, .c (.int .i64 (i : Nat)))], []⟩) (fun i => s.size - i) (fun i => i ≤ s.size ∧ validD (s.data.toList.drop i) = utfOk s) 0 ⟨Nat.zero_le _, rfl⟩ ?_ ?_
 ·exact wk_eq (by simp [hE, lens]) (by simp) (by simp [livH, livO, AV.livL, AV.liv, wkL, wkV, List.range', slotsOf])
 ·rintro i ⟨hi, hv⟩
  by_cases hil : i < s.size
  ·have hiI : (i : Int) < s.size := by omega
   have hil' : i < s.data.size := hil
   obtain ⟨c, hc⟩ : ∃ c, c = gB (s.data.toList.drop i) 0 := ⟨_, rfl⟩
   have hcb : (s.data[i]?.getD 0).toNat = c := by rw [hc, gB]; simp [List.getD]
   have hc256 : c < 256 := by rw [hc]; exact UInt8.toNat_lt _
   have ew1 : IntKind.i64.wrap (c : Int) = (c : Int) := IntWalk.i64_in _ (by omega)
   have ew2 : IntKind.i64.wrap ((c : Int) - 240) = (c : Int) - 240 := IntWalk.i64_in _ (by omega)
   have ew3 : IntKind.i64.wrap ((c : Int) - 224) = (c : Int) - 224 := IntWalk.i64_in _ (by omega)
   have ew4 : IntKind.i64.wrap ((c : Int) - 192) = (c : Int) - 192 := IntWalk.i64_in _ (by omega)
   have hne : s.data.toList.drop i ≠ [] := by
    intro h
    have := congrArg List.length h
    simp at this
    omega
   have hlen : (s.data.toList.drop i).length = s.size - i := by rw [List.length_drop]; rfl
   obtain ⟨g, hg⟩ : ∃ g, g = gB (s.data.toList.drop i) := ⟨_, rfl⟩
   have hgj : ∀ j, (s.data[i + j]?.getD 0).toNat = g j := fun j => by rw [hg, gB]; simp [List.getD]
   have hg256 : ∀ j, g j < 256 := fun j => by rw [hg]; exact UInt8.toNat_lt _
   simp (maxSteps := 1000000) [slotsOf, hho, noHo, hiI, hcb, ew1, ew2, ew3, ew4, -List.reduceReplicate]
   refine seq_cut mixed [] (fun y : Nat × Nat × Nat => ⟨slotsOf 89 [(0, .c (.string s)), (3, .c (.int .i64 (i : Nat))), (4, .c (.int .i64 (c : Nat))), (5, .c (.int .i64 (y.1 : Nat))), (6, .c (.int .i64 (y.2.1 : Nat))), (7, .c (.int .i64 (y.2.2 : Nat)))], []⟩) (fun y => 248 ≤ c ∨ (c < 248 ∧ utfCls c y.1 y.2.1 y.2.2)) ?_ ?_
   ·rintro ⟨n, least, x0⟩ h
    simp only at h
    rcases h with h248 | ⟨h248, hcls⟩
    ·have hb := valid_bad hne (.inr (by rw [← hc]; exact h248))
     rw [hv] at hb
     have h248' : (248 : Int) ≤ c := by omega
     simp (maxSteps := 1000000) [slotsOf, hho, noHo, h248', undef, onGP_none, condG_false, -List.reduceReplicate]
     exact Ret.same ⟨by rw [hb], rfl⟩
    ·have h248' : ¬ (248 : Int) ≤ c := by omega
     have hst := utf_cls hne (by rw [← hc]; exact hcls)
     rw [hv, hlen, ← hg] at hst
     have hn3 : n ≤ 3 ∧ x0 < 256 ∧ least ≤ 65536 := by rcases hcls with h | h | h | h <;> omega
     have ew5 : IntKind.i64.wrap ((s.size : Int) - 1) = (s.size : Int) - 1 := IntWalk.i64_in _ (by omega)
     have ew6 : IntKind.i64.wrap ((s.size : Int) - 1 - i) = (s.size : Int) - 1 - i := IntWalk.i64_in _ (by omega)
     by_cases hfar : (s.size : Int) - 1 - i < n
     ·rw [if_pos (.inl (by omega))] at hst
      simp (maxSteps := 1000000) [slotsOf, hho, noHo, h248', ew5, ew6, hfar, undef, onGP_none, condG_false, -List.reduceReplicate]
      exact Ret.same ⟨by rw [hst], rfl⟩
     ·simp (maxSteps := 1000000) [slotsOf, hho, noHo, h248', ew5, ew6, hfar, undef, onGP_none, condG_false, -List.reduceReplicate]
      refine loop_k mixed (fun k : Nat => ⟨slotsOf 89 [(0, .c (.string s)), (3, .c (.int .i64 (i : Nat))), (4, .c (.int .i64 (c : Nat))), (5, .c (.int .i64 (n : Nat))), (6, .c (.int .i64 (least : Nat))), (7, .c (.int .i64 (utfX x0 g k : Nat))), (8, .c (.int .i64 ((k + 1 : Nat) : Int)))], []⟩) (fun k => n - k) (fun k => k ≤ n ∧ ∀ j, 1 ≤ j → j ≤ k → 128 ≤ g j ∧ g j ≤ 191) 0 ⟨Nat.zero_le _, fun j h1 h2 => by omega⟩ ?_ ?_
      ·exact wk_eq (by simp [hE, lens]) (by simp) (by simp [livH, livO, AV.livL, AV.liv, wkL, wkV, List.range', slotsOf, utfX])
      ·rintro k ⟨hk, hI⟩
       have hX : ∀ k, k ≤ 3 → (∀ j, 1 ≤ j → j ≤ k → 128 ≤ g j ∧ g j ≤ 191) → utfX x0 g k < 256 * 64 ^ k := by
        intro k
        induction k with
        | zero => intro _ _; simp [utfX]; omega
        | succ k ih =>
         intro h1 h2
         have a := ih (by omega) fun j h3 h4 => h2 j h3 (by omega)
         have b := h2 (k + 1) (by omega) (by omega)
         have e : 256 * 64 ^ (k + 1) = 64 * (256 * 64 ^ k) := by rw [Nat.pow_succ]; omega
         simp only [utfX]
         omega
       have hXk := hX k (by omega) hI
       have hpk : (64 : Nat) ^ k ≤ 64 ^ 3 := Nat.pow_le_pow_right (by decide) (by omega)
       by_cases hkn : k < n
       ·have hkI : (k : Int) + 1 ≤ n := by omega
        have hsz : i + (k + 1) < s.size := by omega
        have hszI : (i : Int) + (k + 1) < s.size := by omega
        have ewi : IntKind.i64.wrap ((i : Int) + ((k : Int) + 1)) = (i : Int) + ((k : Int) + 1) := IntWalk.i64_in _ (by omega)
        have hgk := hgj (k + 1)
        have hg2 := hg256 (k + 1)
        have eti : ((i : Int) + ((k : Int) + 1)).toNat = i + (k + 1) := by omega
        have ewg : IntKind.i64.wrap (g (k + 1) : Int) = (g (k + 1) : Int) := IntWalk.i64_in _ (by omega)
        obtain ⟨X, hXe⟩ : ∃ X, X = utfX x0 g k := ⟨_, rfl⟩
        rw [← hXe] at hXk
        have ewa : IntKind.i64.wrap (64 * (X : Int)) = 64 * (X : Int) := IntWalk.i64_in _ (by omega)
        have ewb : IntKind.i64.wrap (64 * (X : Int) + g (k + 1)) = 64 * (X : Int) + g (k + 1) := IntWalk.i64_in _ (by omega)
        have ewc : IntKind.i64.wrap (64 * (X : Int) + g (k + 1) - 128) = 64 * (X : Int) + g (k + 1) - 128 := IntWalk.i64_in _ (by omega)
        have ewd : IntKind.i64.wrap ((k : Int) + 1 + 1) = ((k + 1 + 1 : Nat) : Int) := by rw [IntWalk.i64_in _ (by omega)]; omega
        by_cases hbad : g (k + 1) < 128 ∨ 191 < g (k + 1)
        ·rw [if_pos (.inr (.inl ⟨k + 1, by omega, by omega, hbad⟩))] at hst
         have hbI : (g (k + 1) : Int) < 128 ∨ (191 : Int) < g (k + 1) := by omega
         simp (maxSteps := 1000000) [slotsOf, hho, noHo, hkI, ← hXe, eti, ewi, hgk, ewg, hbI, hszI, undef, onGP_none, condG_false, -List.reduceReplicate]
         exact ⟨by omega, Ret.same ⟨by rw [hst], rfl⟩⟩
        ·have hbI : ¬ ((g (k + 1) : Int) < 128 ∨ (191 : Int) < g (k + 1)) := by omega
         have hbI1 : ¬ (g (k + 1) : Int) < 128 := by omega
         have hbI2 : ¬ (191 : Int) < g (k + 1) := by omega
         simp (maxSteps := 1000000) [slotsOf, hho, noHo, hkI, ← hXe, eti, ewi, hgk, ewg, hbI1, hbI2, ewa, ewb, ewc, ewd, hszI, -List.reduceReplicate]
         refine ⟨by omega, ?_⟩
         refine round_next (k + 1) ⟨by omega, fun j h1 h2 => ?_⟩ (by omega) ?_
         ·by_cases e : j = k + 1
          ·subst e; omega
          ·exact hI j h1 (by omega)
         ·exact wk_eq (by simp [hE, lens]) (by simp) (by
           have e : ((utfX x0 g (k + 1) : Nat) : Int) = 64 * (X : Int) + g (k + 1) - 128 := by simp only [utfX, ← hXe]; omega
           simp [livH, livO, AV.livL, AV.liv, wkL, wkV, List.range', slotsOf, e])
       ·obtain rfl : k = n := by omega
        have hkI : ¬ (k : Int) + 1 ≤ k := by omega
        obtain ⟨X, hXe⟩ : ∃ X, X = utfX x0 g k := ⟨_, rfl⟩
        rw [← hXe] at hst hXk
        have ewe : IntKind.i64.wrap (1 + (k : Int)) = 1 + (k : Int) := IntWalk.i64_in _ (by omega)
        have ewf : IntKind.i64.wrap ((i : Int) + (1 + (k : Int))) = ((i + (k + 1) : Nat) : Int) := by rw [IntWalk.i64_in _ (by omega)]; omega
        have hno : ¬ ∃ j, 1 ≤ j ∧ j ≤ k ∧ (g j < 128 ∨ 191 < g j) := fun ⟨j, h1, h2, h3⟩ => by have := hI j h1 h2; omega
        by_cases hB : utfBad least X = true
        ·rw [if_pos (.inr (.inr hB))] at hst
         have hBI : ((X : Int) < least ∨ (1114111 : Int) < X) ∨ (55296 : Int) ≤ X ∧ (X : Int) < 57344 := by
          simp [utfBad] at hB
          omega
         simp (maxSteps := 1000000) [slotsOf, hho, noHo, hkI, ← hXe, undef, onGP_none, condG_false, -List.reduceReplicate]
         refine ⟨by omega, ?_⟩
         rw [if_pos (by omega)]
         exact Ret.same ⟨by rw [hst], rfl⟩
        ·rw [if_neg (by rintro (h | h | h); (· omega); (· exact hno h); (· exact hB h))] at hst
         have hBI : ¬ (((X : Int) < least ∨ (1114111 : Int) < X) ∨ (55296 : Int) ≤ X ∧ (X : Int) < 57344) := by
          simp [utfBad] at hB
          omega
         simp (maxSteps := 1000000) [slotsOf, hho, noHo, hkI, ← hXe, ewe, ewf, undef, onGP_none, condG_false, -List.reduceReplicate]
         refine ⟨by omega, ?_⟩
         rw [if_neg (by omega)]
         refine round_next (i + (k + 1)) ⟨by omega, ?_⟩ (by omega) ?_
         ·rw [hst, List.drop_drop]
         ·exact wk_eq (by simp [hE, lens]) (by simp) (by simp [livH, livO, AV.livL, AV.liv, wkL, wkV, List.range', slotsOf])
   ·by_cases c1 : c < 128
    ·have q1 : ¬ (240 : Int) ≤ c := by omega
     have q2 : ¬ (224 : Int) ≤ c := by omega
     have q3 : ¬ (192 : Int) ≤ c := by omega
     have q4 : ¬ (128 : Int) ≤ c := by omega
     simp (maxSteps := 1000000) [hho, noHo, q1, q2, q3, q4, undef, onGP_none, condG_false, -List.reduceReplicate]
     refine cut_to (0, 0, c) (.inr ⟨by omega, .inl ⟨c1, rfl, rfl, rfl⟩⟩) ?_
     exact wk_eq (by simp [hE, lens]) (by simp) (by simp [livH, livO, AV.livL, AV.liv, wkL, wkV, List.range', slotsOf])
    ·by_cases c2 : c < 192
     ·have q1 : ¬ (240 : Int) ≤ c := by omega
      have q2 : ¬ (224 : Int) ≤ c := by omega
      have q3 : ¬ (192 : Int) ≤ c := by omega
      have q4 : (128 : Int) ≤ c := by omega
      have hb := valid_bad hne (.inl (by rw [← hc]; omega))
      rw [hv] at hb
      simp (maxSteps := 1000000) [hho, noHo, q1, q2, q3, q4, undef, onGP_none, condG_false, -List.reduceReplicate]
      exact Ret.same ⟨by rw [hb], rfl⟩
     ·by_cases c3 : c < 224
      ·have q1 : ¬ (240 : Int) ≤ c := by omega
       have q2 : ¬ (224 : Int) ≤ c := by omega
       have q3 : (192 : Int) ≤ c := by omega
       simp (maxSteps := 1000000) [hho, noHo, q1, q2, q3, undef, onGP_none, condG_false, -List.reduceReplicate]
       refine cut_to (1, 128, c - 192) (.inr ⟨by omega, .inr (.inl ⟨by omega, c3, rfl, rfl, rfl⟩)⟩) ?_
       have e : ((c - 192 : Nat) : Int) = (c : Int) - 192 := by omega
       exact wk_eq (by simp [hE, lens]) (by simp) (by simp [livH, livO, AV.livL, AV.liv, wkL, wkV, List.range', slotsOf, e, ew2, ew3, ew4])
      ·by_cases c4 : c < 240
       ·have q1 : ¬ (240 : Int) ≤ c := by omega
        have q2 : (224 : Int) ≤ c := by omega
        simp (maxSteps := 1000000) [hho, noHo, q1, q2, undef, onGP_none, condG_false, -List.reduceReplicate]
        refine cut_to (2, 2048, c - 224) (.inr ⟨by omega, .inr (.inr (.inl ⟨by omega, c4, rfl, rfl, rfl⟩))⟩) ?_
        have e : ((c - 224 : Nat) : Int) = (c : Int) - 224 := by omega
        exact wk_eq (by simp [hE, lens]) (by simp) (by simp [livH, livO, AV.livL, AV.liv, wkL, wkV, List.range', slotsOf, e, ew2, ew3, ew4])
       ·by_cases c5 : c < 248
        ·have q1 : (240 : Int) ≤ c := by omega
         have q2 : (c : Int) < 248 := by omega
         simp (maxSteps := 1000000) [hho, noHo, q1, q2, undef, onGP_none, condG_false, -List.reduceReplicate]
         refine cut_to (3, 65536, c - 240) (.inr ⟨by omega, .inr (.inr (.inr ⟨by omega, c5, rfl, rfl, rfl⟩))⟩) ?_
         have e : ((c - 240 : Nat) : Int) = (c : Int) - 240 := by omega
         exact wk_eq (by simp [hE, lens]) (by simp) (by simp [livH, livO, AV.livL, AV.liv, wkL, wkV, List.range', slotsOf, e, ew2, ew3, ew4])
        ·have q1 : (240 : Int) ≤ c := by omega
         have q2 : ¬ (c : Int) < 248 := by omega
         have q3 : (224 : Int) ≤ c := by omega
         simp (maxSteps := 1000000) [hho, noHo, q1, q2, q3, undef, onGP_none, condG_false, -List.reduceReplicate]
         refine cut_to (2, 2048, c - 224) (.inl (by omega)) ?_
         have e : ((c - 224 : Nat) : Int) = (c : Int) - 224 := by omega
         exact wk_eq (by simp [hE, lens]) (by simp) (by simp [livH, livO, AV.livL, AV.liv, wkL, wkV, List.range', slotsOf, e, ew2, ew3, ew4])
  ·obtain rfl : i = s.size := by omega
   have hv2 : utfOk s = true := by
    rw [← hv, List.drop_eq_nil_of_le (by simp)]; rfl
   simp (maxSteps := 1000000) [slotsOf, hho, noHo, -List.reduceReplicate]
   exact Ret.same ⟨by rw [hv2], rfl⟩
end Go.Proofs.YthgoocdldnkogaaGreatDoor
namespace Go.Proofs.YthgoocdldnkogaaGreatDoor
set_option linter.unusedVariables false
set_option linter.unusedSimpArgs false
open Go.RowKit Go.Lib
attribute [local simp] isCut_nil isCut_region isCut_seq isCut_block isCut_loop isCut_cond isCut_skip isCut_exit isCut_ret isCut_range swapK putK altK condK_bool pickP_bool stepP stepO onPure_some onPure_none onImpl_some onImpl_none stepC onGP_some onGP_none onGV_some condG mkG onIt_it nextP_ptr takeP_eq takeV_some takeV_none takeU_some takeU_none takeQ takeW_some takeN_none takeN_some takeG_some takeO_some altO_some pureV binV2 eqF eqOp ovlV ovl2 rowAt capV binV intBin strBin isSh shV fldV ixV sliceV slice3V loadAV nilV lenV callV unV convV viewS cellsH loadV fldCut AV.ung AV.ungs AV.gc AV.cells AS.ev AS.put anyS gcsV gcO lens lnO gV guardV retK RetP_eq resV oneV anyRo loIx hiIx implO callP_clo evL gcsL clearV storeAV AS.push AS.setO appV appZ shortS copyV buildV partsV fillV srcV fzO okV isCell_c isCell_ptr isCell_sl isCell_fs isCell_fp isCell_clo rowZ_one rowZ_zero rowZ_2 rowZ_3 rowZ_4 rowZ_5 rowZ_6 rowZ_7 rowZ_8 rowZ_9 rowZ_10 rowZ_11 rowZ_12 noHo Value.oneCell' max2V min2V lookV updV updK updW cvals mkAt basV lenM msAt afterH putBack frzFrom frzO rebO backIx nilEq_sl nilEq_fs nilEq_ifn nilEq_ifh ifOp_eql ifOp_neq isLit nilOp_eql nilOp_neq AV.reb AV.rebL
attribute [local simp ↓] runK_skip runK_region runK_draw runK_seq runK_cut runK_cond runK_block runK_loop runK_exit runK_label runK_goto runK_ret runK_range contK_nil contK_seq contK_seq_ret contK_seq_exit contK_seq_goto contK_block contK_block_ret contK_block_goto contK_block_exit runO_nil runO_cons roundK_exit roundK_ret roundK_goto exitK_ret cutK_ret cutK_exit runE_done runE_nil runE_take runE_alt condG_true condG_false
set_option maxRecDepth 10000
def valOk (v : ValS) : Bool :=
 if v.k = 0 then decide (v.n = 0) && decide (v.s = 0) && decide (v.t = ByteArray.empty)
 else if v.k = 1 then (decide (v.n = 0) || decide (v.n = 1)) && decide (v.s = 0) && decide (v.t = ByteArray.empty)
 else if v.k = 2 then decide (v.s = 0) && decide (v.t = ByteArray.empty)
 else if v.k = 3 then decide (v.t = ByteArray.empty) && scaleOk v.s
 else if v.k = 4 then decide (v.n = 0) && decide (v.s = 0) && decide (v.t.size ≤ 200) && utfOk v.t
 else if v.k = 5 then decide (v.n = 0) && decide (v.s = 0) && decide (v.t.size ≤ 200)
 else false
theorem and_one (n : Int) : (n = IntKind.i64.wrap (((n % 2 ^ IntKind.i64.bits).toNat &&& 1 % 2 ^ IntKind.i64.bits : Nat) : Int)) ↔ (n = 0 ∨ n = 1) := by
 have hb : IntKind.i64.bits = 64 := rfl
 have e : (1 : Nat) % 2 ^ 64 = 1 := by decide
 rw [hb, e, Nat.and_one_is_mod, IntWalk.i64_in _ (by omega)]
 have : ((2 : Int) ^ 64) = 18446744073709551616 := by decide
 omega
set_option maxHeartbeats 8000000 in
theorem val_right (v : ValS) (hv : v.t.size ≤ 9000000000000000000) : ACalls Tryz.prog 180 [.agg (valA v)] [] (fun _ => false) (fun r h' => r = .c (.bool (valOk v)) ∧ h' = []) := by
 refine acalls mixed Tryz.func180 rfl Tryz.ntmps180 rfl fun E hE hst hho => ?_
 have hu := valid_utf v.t (by omega)
 by_cases h0 : v.k = 0
 ·simp [hho, noHo, valA, h0, -List.reduceReplicate]
  exact Ret.drop (by rfl) ⟨by simp [valOk, h0, Bool.and_assoc], rfl⟩
 by_cases h1 : v.k = 1
 ·simp [hho, noHo, valA, h1, -List.reduceReplicate]
  refine Ret.drop (by rfl) ⟨?_, rfl⟩
  congr 2
  rw [Bool.eq_iff_iff]
  simp only [Bool.and_eq_true, decide_eq_true_eq, and_one, valOk, h1]
  simp [and_assoc]
 by_cases h2 : v.k = 2
 ·simp [hho, noHo, valA, h2, -List.reduceReplicate]
  exact Ret.drop (by rfl) ⟨by simp [valOk, h2, Bool.and_assoc], rfl⟩
 by_cases h3 : v.k = 3
 ·by_cases ht : v.t = ByteArray.empty
  ·simp [hho, noHo, valA, h3, ht, -List.reduceReplicate]
   refine call_x [] (right_dec v.s) rfl rfl ⟨rfl, rfl⟩ hho (by simp) (by decide) (by simp) (by simp) ?_
   simp [hho, noHo, -List.reduceReplicate]
   exact Ret.drop (by rfl) ⟨by simp [valOk, h3, ht], rfl⟩
  ·simp [hho, noHo, valA, h3, ht, undef, onGP_none, condG_false, -List.reduceReplicate]
   exact Ret.drop (by rfl) ⟨by simp [valOk, h3, ht], rfl⟩
 by_cases h4 : v.k = 4
 ·by_cases ha : v.n = 0 ∧ v.s = 0 ∧ (v.t.size : Int) ≤ 200
  ·obtain ⟨a1, a2, a3⟩ := ha
   simp [hho, noHo, valA, h4, a1, a2, a3, -List.reduceReplicate]
   refine call_x [] hu rfl rfl ⟨rfl, rfl⟩ hho (by simp) (by decide) (by simp) (by simp) ?_
   simp [hho, noHo, -List.reduceReplicate]
   have a3' : v.t.size ≤ 200 := by omega
   exact Ret.drop (by rfl) ⟨by simp [valOk, h4, a1, a2, a3'], rfl⟩
  ·have ha' : ¬ ((v.n = 0 ∧ v.s = 0) ∧ (v.t.size : Int) ≤ 200) := fun h => ha ⟨h.1.1, h.1.2, h.2⟩
   have hv : valOk v = false := by
    have hc : ((decide (v.n = 0) && decide (v.s = 0)) && decide (v.t.size ≤ 200)) = false := by
     rw [Bool.eq_false_iff]
     intro h
     simp only [Bool.and_eq_true, decide_eq_true_eq] at h
     exact ha ⟨h.1.1, h.1.2, by omega⟩
    simp [valOk, h4, hc]
   by_cases b1 : v.n = 0 <;> by_cases b2 : v.s = 0 <;> by_cases b3 : (v.t.size : Int) ≤ 200
   ·exact absurd ⟨b1, b2, b3⟩ ha
   all_goals
    simp [hho, noHo, valA, h4, b1, b2, b3, undef, onGP_none, condG_false, -List.reduceReplicate]
    exact Ret.drop (by rfl) ⟨by rw [hv], rfl⟩
 by_cases h5 : v.k = 5
 ·simp [hho, noHo, valA, h5, -List.reduceReplicate]
  have e : decide ((v.t.size : Int) ≤ 200) = decide (v.t.size ≤ 200) := by
   rw [decide_eq_decide]; omega
  exact Ret.drop (by rfl) ⟨by simp [valOk, h5, e], rfl⟩
 simp [hho, noHo, valA, h0, h1, h2, h3, h4, h5, -List.reduceReplicate]
 exact Ret.drop (by rfl) ⟨by simp [valOk, h0, h1, h2, h3, h4, h5], rfl⟩
set_option maxHeartbeats 8000000 in
theorem val_refM (v : ValS) (hv : v.t.size ≤ 9223372036854775807) : ACalls Tryz.prog 169 [.agg (valA v)] [] (fun _ => false) (fun r h' => r = .c (.bool (valOk v)) ∧ h' = []) := by
 refine acalls mixed Tryz.func169 rfl Tryz.ntmps169 rfl fun E hE hst hho => ?_
 by_cases h0 : v.k = 0
 ·simp [hho, noHo, valA, h0, -List.reduceReplicate]
  exact Ret.drop (by rfl) ⟨by simp [valOk, h0, Bool.and_assoc], rfl⟩
 by_cases h1 : v.k = 1
 ·by_cases a : v.n = 0
  ·simp [hho, noHo, valA, h1, a, -List.reduceReplicate]
   exact Ret.drop (by rfl) ⟨by simp [valOk, h1, a, Bool.and_assoc], rfl⟩
  ·by_cases b : v.n = 1
   ·simp [hho, noHo, valA, h1, b, -List.reduceReplicate]
    exact Ret.drop (by rfl) ⟨by simp [valOk, h1, b, Bool.and_assoc], rfl⟩
   ·simp [hho, noHo, valA, h1, a, b, -List.reduceReplicate]
    exact Ret.drop (by rfl) ⟨by simp [valOk, h1, a, b], rfl⟩
 by_cases h2 : v.k = 2
 ·simp [hho, noHo, valA, h2, -List.reduceReplicate]
  exact Ret.drop (by rfl) ⟨by simp [valOk, h2, Bool.and_assoc], rfl⟩
 by_cases h3 : v.k = 3
 ·have hs := scale_ref v.s
  cases hS : scaleOk v.s with
  | true =>
   rw [hS] at hs
   simp [hho, noHo, valA, h3, -List.reduceReplicate]
   refine call_x [] hs rfl rfl ⟨rfl, rfl⟩ hho (by simp) (by decide) (by simp) (by simp) ?_
   simp [hho, noHo, -List.reduceReplicate]
   exact Ret.drop (by rfl) ⟨by simp [valOk, h3, hS], rfl⟩
  | false =>
   rw [hS] at hs
   simp [hho, noHo, valA, h3, -List.reduceReplicate]
   refine call_x [] hs rfl rfl ⟨rfl, rfl⟩ hho (by simp) (by decide) (by simp) (by simp) ?_
   simp [hho, noHo, -List.reduceReplicate]
   exact Ret.drop (by rfl) ⟨by simp [valOk, h3, hS], rfl⟩
 by_cases h4 : v.k = 4
 ·by_cases ha : (200 : Int) < v.t.size
  ·have ha' : ¬ v.t.size ≤ 200 := by omega
   simp [hho, noHo, valA, h4, ha, undef, onGP_none, condG_false, -List.reduceReplicate]
   exact Ret.drop (by rfl) ⟨by simp [valOk, h4, ha'], rfl⟩
  ·have ha' : v.t.size ≤ 200 := by omega
   have hu := utf_ref v.t (by omega)
   cases hU : utfOk v.t with
   | true =>
    rw [hU] at hu
    simp [hho, noHo, valA, h4, ha, -List.reduceReplicate]
    refine call_x [] hu rfl rfl ⟨rfl, rfl⟩ hho (by simp) (by decide) (by simp) (by simp) ?_
    simp [hho, noHo, -List.reduceReplicate]
    exact Ret.drop (by rfl) ⟨by simp [valOk, h4, ha', hU], rfl⟩
   | false =>
    rw [hU] at hu
    simp [hho, noHo, valA, h4, ha, -List.reduceReplicate]
    refine call_x [] hu rfl rfl ⟨rfl, rfl⟩ hho (by simp) (by decide) (by simp) (by simp) ?_
    simp [hho, noHo, -List.reduceReplicate]
    exact Ret.drop (by rfl) ⟨by simp [valOk, h4, ha', hU], rfl⟩
 by_cases h5 : v.k = 5
 ·by_cases ha : (200 : Int) < v.t.size
  ·have ha' : ¬ v.t.size ≤ 200 := by omega
   simp [hho, noHo, valA, h5, ha, undef, onGP_none, condG_false, -List.reduceReplicate]
   exact Ret.drop (by rfl) ⟨by simp [valOk, h5, ha'], rfl⟩
  ·have ha' : v.t.size ≤ 200 := by omega
   simp [hho, noHo, valA, h5, ha, undef, onGP_none, condG_false, -List.reduceReplicate]
   exact Ret.drop (by rfl) ⟨by simp [valOk, h5, ha'], rfl⟩
 simp [hho, noHo, valA, h0, h1, h2, h3, h4, h5, -List.reduceReplicate]
 exact Ret.drop (by rfl) ⟨by simp [valOk, h0, h1, h2, h3, h4, h5], rfl⟩
theorem val_ref (v : ValS) (hv : v.t.size ≤ 9000000000000000000) : ACalls Tryz.prog 169 [.agg (valA v)] [] (fun _ => false) (fun r h' => r = .c (.bool (valOk v)) ∧ h' = []) := val_refM v (by omega)
def ofOk (v : ValS) (t : TypS) : Bool := typOk t && valOk v && (decide (v.k = 0) || (decide (v.k = t.k) && decide (v.s = t.s)))
set_option maxHeartbeats 8000000 in
theorem val_of (v : ValS) (t : TypS) (hv : v.t.size ≤ 9000000000000000000) : ACalls Tryz.prog 173 [.agg (valA v), .agg (typA t)] [] (fun _ => false) (fun r h' => r = .c (.bool (ofOk v t)) ∧ h' = []) := by
 refine acalls mixed Tryz.func173 rfl Tryz.ntmps173 rfl fun E hE hst hho => ?_
 have h1 := type_right t
 have h2 := val_right v hv
 cases hT : typOk t with
 | false =>
  rw [hT] at h1
  simp [hho, noHo, valA, typA, -List.reduceReplicate]
  refine call_x [] h1 rfl rfl ⟨rfl, rfl⟩ hho (by simp) (by decide) (by simp) (by simp) ?_
  simp [hho, noHo, undef, onGP_none, condG_false, -List.reduceReplicate]
  exact Ret.drop (by rfl) ⟨by simp [ofOk, hT], rfl⟩
 | true =>
  rw [hT] at h1
  cases hV : valOk v with
  | false =>
   rw [hV] at h2
   simp [hho, noHo, valA, typA, -List.reduceReplicate]
   refine call_x [] h1 rfl rfl ⟨rfl, rfl⟩ hho (by simp) (by decide) (by simp) (by simp) ?_
   simp [hho, noHo, undef, onGP_none, condG_false, -List.reduceReplicate]
   refine call_x [] h2 rfl rfl ⟨rfl, rfl⟩ hho (by simp) (by decide) (by simp) (by simp) ?_
   simp [hho, noHo, undef, onGP_none, condG_false, -List.reduceReplicate]
   exact Ret.drop (by rfl) ⟨by simp [ofOk, hT, hV], rfl⟩
  | true =>
   rw [hV] at h2
   simp [hho, noHo, valA, typA, -List.reduceReplicate]
   refine call_x [] h1 rfl rfl ⟨rfl, rfl⟩ hho (by simp) (by decide) (by simp) (by simp) ?_
   simp [hho, noHo, undef, onGP_none, condG_false, -List.reduceReplicate]
   refine call_x [] h2 rfl rfl ⟨rfl, rfl⟩ hho (by simp) (by decide) (by simp) (by simp) ?_
   by_cases c0 : v.k = 0
   ·simp [hho, noHo, c0, undef, onGP_none, condG_false, -List.reduceReplicate]
    exact Ret.drop (by rfl) ⟨by simp [ofOk, hT, hV, c0], rfl⟩
   ·by_cases c1 : v.k = t.k
    ·simp [hho, noHo, c0, c1, undef, onGP_none, condG_false, -List.reduceReplicate]
     exact Ret.drop (by rfl) ⟨by simp [ofOk, hT, hV, c1], rfl⟩
    ·simp [hho, noHo, c0, c1, undef, onGP_none, condG_false, -List.reduceReplicate]
     exact Ret.drop (by rfl) ⟨by simp [ofOk, hT, hV, c0, c1], rfl⟩
set_option maxHeartbeats 8000000 in
theorem of_ref (v : ValS) (t : TypS) (hv : v.t.size ≤ 9000000000000000000) : ACalls Tryz.prog 118 [.agg (valA v), .agg (typA t)] [] (fun _ => false) (fun r h' => r = .c (.bool (ofOk v t)) ∧ h' = []) := by
 refine acalls mixed Tryz.func118 rfl Tryz.ntmps118 rfl fun E hE hst hho => ?_
 have h1 := type_ref t
 have h2 := val_ref v hv
 cases hT : typOk t with
 | false =>
  rw [hT] at h1
  simp [hho, noHo, valA, typA, -List.reduceReplicate]
  refine call_x [] h1 rfl rfl ⟨rfl, rfl⟩ hho (by simp) (by decide) (by simp) (by simp) ?_
  simp [hho, noHo, undef, onGP_none, condG_false, -List.reduceReplicate]
  exact Ret.drop (by rfl) ⟨by simp [ofOk, hT], rfl⟩
 | true =>
  rw [hT] at h1
  cases hV : valOk v with
  | false =>
   rw [hV] at h2
   simp [hho, noHo, valA, typA, -List.reduceReplicate]
   refine call_x [] h1 rfl rfl ⟨rfl, rfl⟩ hho (by simp) (by decide) (by simp) (by simp) ?_
   simp [hho, noHo, undef, onGP_none, condG_false, -List.reduceReplicate]
   refine call_x [] h2 rfl rfl ⟨rfl, rfl⟩ hho (by simp) (by decide) (by simp) (by simp) ?_
   simp [hho, noHo, undef, onGP_none, condG_false, -List.reduceReplicate]
   exact Ret.drop (by rfl) ⟨by simp [ofOk, hT, hV], rfl⟩
  | true =>
   rw [hV] at h2
   simp [hho, noHo, valA, typA, -List.reduceReplicate]
   refine call_x [] h1 rfl rfl ⟨rfl, rfl⟩ hho (by simp) (by decide) (by simp) (by simp) ?_
   simp [hho, noHo, undef, onGP_none, condG_false, -List.reduceReplicate]
   refine call_x [] h2 rfl rfl ⟨rfl, rfl⟩ hho (by simp) (by decide) (by simp) (by simp) ?_
   by_cases c0 : v.k = 0
   ·simp [hho, noHo, c0, undef, onGP_none, condG_false, -List.reduceReplicate]
    exact Ret.drop (by rfl) ⟨by simp [ofOk, hT, hV, c0], rfl⟩
   ·by_cases c1 : v.k = t.k
    ·simp [hho, noHo, c0, c1, undef, onGP_none, condG_false, -List.reduceReplicate]
     exact Ret.drop (by rfl) ⟨by simp [ofOk, hT, hV, c1], rfl⟩
    ·simp [hho, noHo, c0, c1, undef, onGP_none, condG_false, -List.reduceReplicate]
     exact Ret.drop (by rfl) ⟨by simp [ofOk, hT, hV, c0, c1], rfl⟩

def nameC (i : Nat) (c : UInt8) : Bool := (decide (97 ≤ c.toNat) && decide (c.toNat ≤ 122)) || (decide (i ≠ 0) && ((decide (48 ≤ c.toNat) && decide (c.toNat ≤ 57)) || decide (c.toNat = 95)))
def nameFrom : Nat → List UInt8 → Bool
 | _, [] => true
 | i, c :: l => nameC i c && nameFrom (i + 1) l
def nameOk (s : ByteArray) : Bool := nameFrom 0 s.data.toList && decide (s.size ≠ 0) && decide (s.size ≤ 24)
theorem decode_hi (s : ByteArray) (i : Nat) (h : 128 ≤ (s.get! i).toNat) : 122 < (Utf8.decode s i).1 := by
 rw [decode_at]
 unfold decodeN
 repeat' split
 all_goals first | omega | (simp only [Utf8.runeError]; omega) | (simp only; omega)
theorem isEmpty_size (s : ByteArray) : (s = { data := #[] }) ↔ s.size = 0 := by
 constructor
 ·intro h; rw [h]; rfl
 ·intro h
  apply ByteArray.ext
  exact Array.eq_empty_of_size_eq_zero h
set_option maxHeartbeats 8000000 in
theorem name_refB (s : ByteArray) (hs : s.size ≤ 9223372036854775807) : ACalls Tryz.prog 37 [.c (.string s)] [] (fun _ => false) (fun r h' => r = .c (.bool (nameOk s)) ∧ h' = []) := by
 refine acalls mixed Tryz.func37 rfl Tryz.ntmps37 rfl fun E hE hst hho => ?_
 simp [hho, noHo, -List.reduceReplicate]
 refine loop_k mixed (fun i : Nat => ⟨slotsOf 43 [(0, .c (.string s)), (3, .c (.int .i64 (i : Nat)))], []⟩) (fun i => s.size - i) (fun i => i ≤ s.size ∧ nameFrom i (s.data.toList.drop i) = nameFrom 0 s.data.toList) 0 ⟨Nat.zero_le _, rfl⟩ ?_ ?_
 ·exact wk_eq (by simp [hE, lens]) (by simp) (by simp [livH, livO, AV.livL, AV.liv, wkL, wkV, List.range', slotsOf])
 ·rintro i ⟨hi, hv⟩
  by_cases hil : i < s.size
  ·have hiI : (i : Int) < s.size := by omega
   have hil' : i < s.data.toList.length := by simpa using hil
   rw [List.drop_eq_getElem_cons hil', nameFrom] at hv
   obtain ⟨c, hc⟩ : ∃ c, c = s.data.toList[i] := ⟨_, rfl⟩
   have hcb : s.data[i]?.getD 0 = c := by
    rw [hc]; simp at hil'; simp [hil']
   have hc256 := c.toNat_lt
   have ew : IntKind.i64.wrap ((i : Int) + 1) = (i + 1 : Nat) := by rw [IntWalk.i64_in _ (by omega)]; rfl
   rw [← hc] at hv
   simp (maxSteps := 1000000) [slotsOf, hho, noHo, hiI, hcb, ew, undef, onGP_none, condG_false, -List.reduceReplicate]
   refine ⟨by omega, by omega, by omega, ?_⟩
   by_cases hC : nameC i c = true
   ·have hC2 := hC
    simp only [nameC, Bool.or_eq_true, Bool.and_eq_true, decide_eq_true_eq] at hC2
    rw [if_neg (by omega)]
    rw [hC, Bool.true_and] at hv
    refine round_next (i + 1) ⟨by omega, hv⟩ (by omega) ?_
    exact wk_eq (by simp [hE, lens]) (by simp) (by simp [livH, livO, AV.livL, AV.liv, wkL, wkV, List.range', slotsOf])
   ·have hC2 := hC
    simp only [nameC, Bool.or_eq_true, Bool.and_eq_true, decide_eq_true_eq] at hC2
    rw [if_pos (by omega)]
    rw [Bool.eq_false_iff.2 hC, Bool.false_and] at hv
    exact Ret.same ⟨by simp [nameOk, ← hv], rfl⟩
  ·obtain rfl : i = s.size := by omega
   rw [List.drop_eq_nil_of_le (by simp), nameFrom] at hv
   simp (maxSteps := 1000000) [slotsOf, hho, noHo, undef, onGP_none, condG_false, -List.reduceReplicate]
   refine Ret.same ⟨?_, rfl⟩
   congr 2
   rw [Bool.eq_iff_iff]
   simp [nameOk, ← hv, isEmpty_size]
   omega
set_option maxHeartbeats 8000000 in
theorem name_schB (s : ByteArray) (hs : s.size ≤ 9223372036854775807) : ACalls Tryz.prog 33 [.c (.string s)] [] (fun _ => false) (fun r h' => r = .c (.bool (nameOk s)) ∧ h' = []) := by
 refine acalls mixed Tryz.func33 rfl Tryz.ntmps33 rfl fun E hE hst hho => ?_
 simp [hho, noHo, -List.reduceReplicate]
 refine loop_k mixed (fun i : Nat => ⟨slotsOf 44 [(0, .c (.string s)), (7, .ptr 0 0 0)], [.raw (.it s i)]⟩) (fun i => s.size - i) (fun i => i ≤ s.size ∧ nameFrom i (s.data.toList.drop i) = nameFrom 0 s.data.toList) 0 ⟨Nat.zero_le _, rfl⟩ ?_ ?_
 ·exact wk_eq (by simp [hE, lens]) (by simp) (by simp [livH, livO, AV.livL, AV.liv, wkL, wkV, List.range', slotsOf])
 ·rintro i ⟨hi, hv⟩
  by_cases hil : i < s.size
  ·have hiI : (i : Int) < s.size := by omega
   have hil' : i < s.data.toList.length := by simpa using hil
   rw [List.drop_eq_getElem_cons hil', nameFrom] at hv
   obtain ⟨c, hc⟩ : ∃ c, c = s.data.toList[i] := ⟨_, rfl⟩
   rw [← hc] at hv
   have hget : s.get! i = c := by
    rw [hc]
    simp at hil'
    simp [ByteArray.get!, hil']
   have hdec : (c.toNat < 128 ∧ Utf8.decode s i = (c.toNat, 1)) ∨ (nameC i c = false ∧ 122 < (Utf8.decode s i).1) := by
    by_cases h : c.toNat < 128
    ·have hg : (s[i]'hil) = c := by rw [hc]; rfl
     refine .inl ⟨h, ?_⟩
     rw [decode_ascii s i hil (by rw [hg]; exact h), hg]
    ·refine .inr ⟨?_, decode_hi s i (by rw [hget]; omega)⟩
     have := c.toNat_lt
     rw [Bool.eq_false_iff]
     intro hC
     simp only [nameC, Bool.or_eq_true, Bool.and_eq_true, decide_eq_true_eq] at hC
     omega
   simp (maxSteps := 1000000) [slotsOf, hho, noHo, hiI, hil, undef, onGP_none, condG_false, -List.reduceReplicate]
   obtain ⟨r, hr⟩ : ∃ r, r = Utf8.decode s i := ⟨_, rfl⟩
   obtain ⟨r1, r2⟩ := r
   rw [← hr] at hdec ⊢
   simp only at hdec ⊢
   refine ⟨by omega, by omega, by omega, ?_⟩
   by_cases hC : nameC i c = true
   ·rcases hdec with ⟨h, hd⟩ | ⟨h, _⟩
    ·injection hd with d1 d2
     subst d1 d2
     have hC2 := hC
     simp only [nameC, Bool.or_eq_true, Bool.and_eq_true, decide_eq_true_eq] at hC2
     rw [if_neg (by omega)]
     rw [hC, Bool.true_and] at hv
     refine round_next (i + 1) ⟨by omega, hv⟩ (by omega) ?_
     exact wk_eq (by simp [hE, lens]) (by simp) (by simp [livH, livO, AV.livL, AV.liv, wkL, wkV, List.range', slotsOf])
    ·rw [hC] at h; cases h
   ·have hbad : ¬ ((97 ≤ r1 ∧ r1 ≤ 122) ∨ (i ≠ 0 ∧ (r1 = 95 ∨ (48 ≤ r1 ∧ r1 ≤ 57)))) := by
     intro hx
     rcases hdec with ⟨h, hd⟩ | ⟨_, h⟩
     ·injection hd with d1 d2
      subst d1
      apply hC
      simp only [nameC, Bool.or_eq_true, Bool.and_eq_true, decide_eq_true_eq]
      omega
     ·omega
    rw [if_pos (by omega)]
    rw [Bool.eq_false_iff.2 hC, Bool.false_and] at hv
    exact Ret.drop (by rfl) ⟨by simp [nameOk, ← hv], rfl⟩
  ·obtain rfl : i = s.size := by omega
   rw [List.drop_eq_nil_of_le (by simp), nameFrom] at hv
   simp (maxSteps := 1000000) [slotsOf, hho, noHo, undef, onGP_none, condG_false, -List.reduceReplicate]
   refine Ret.drop (by rfl) ⟨?_, rfl⟩
   congr 2
   rw [Bool.eq_iff_iff]
   simp only [nameOk, ← hv, Bool.true_and, Bool.and_eq_true, decide_eq_true_eq]
   omega
theorem name_ref (s : ByteArray) (hs : s.size ≤ 9000000000000000000) : ACalls Tryz.prog 37 [.c (.string s)] [] (fun _ => false) (fun r h' => r = .c (.bool (nameOk s)) ∧ h' = []) := name_refB s (by omega)
theorem name_sch (s : ByteArray) (hs : s.size ≤ 9000000000000000000) : ACalls Tryz.prog 33 [.c (.string s)] [] (fun _ => false) (fun r h' => r = .c (.bool (nameOk s)) ∧ h' = []) := name_schB s (by omega)
end Go.Proofs.YthgoocdldnkogaaGreatDoor
