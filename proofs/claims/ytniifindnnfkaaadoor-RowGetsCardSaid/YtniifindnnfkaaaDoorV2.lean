import Derived.Test.YtniifindnnfkaaaDoorV1
import Derived.Shelf.Unicode.ValidAny
namespace Go.Proofs.YtniifindnnfkaaaDoor
set_option linter.unusedVariables false
set_option linter.unusedSimpArgs false
open Go.RowKit Go.Shelf
attribute [local simp] isCut_nil isCut_region isCut_seq isCut_block isCut_loop isCut_cond isCut_skip isCut_exit isCut_ret isCut_range swapK putK altK condK_bool pickP_bool stepP stepO onPure_some onPure_none onImpl_some onImpl_none stepC onGP_some onGP_none onGV_some condG mkG onIt_it nextP_ptr takeP_eq takeV_some takeV_none takeU_some takeU_none takeQ takeW_some takeN_none takeN_some takeG_some takeO_some altO_some pureV binV2 eqF eqOp ovlV ovl2 rowAt capV binV intBin strBin isSh shV fldV ixV sliceV slice3V loadAV nilV lenV callV unV convV viewS cellsH loadV fldCut AV.ung AV.ungs AV.gc AV.cells AS.ev AS.put anyS gcsV lens lnO gV guardV retK RetP_eq resV oneV anyRo loIx hiIx implO callP_clo evL gcsL clearV storeAV AS.push AS.setO appV appZ shortS copyV buildV partsV fillV srcV fzO okV isCell_c isCell_ptr isCell_sl isCell_fs isCell_fp isCell_clo rowZ_one rowZ_zero rowZ_2 rowZ_3 rowZ_4 rowZ_5 rowZ_6 rowZ_7 rowZ_8 rowZ_9 rowZ_10 rowZ_11 rowZ_12 noHo Value.oneCell' max2V min2V lookV updV lenM msAt afterH putBack frzFrom frzO rebO backIx nilEq_sl nilEq_fs nilOp_eql nilOp_neq AV.reb AV.rebL
attribute [local simp ↓] runK_skip runK_region runK_draw runK_seq runK_cut runK_cond runK_block runK_loop runK_exit runK_label runK_goto runK_ret runK_range contK_nil contK_seq contK_seq_ret contK_seq_exit contK_seq_goto contK_block contK_block_ret contK_block_goto contK_block_exit runO_nil runO_cons roundK_exit roundK_ret roundK_goto exitK_ret cutK_ret cutK_exit runE_done runE_nil runE_take runE_alt condG_true condG_false
set_option maxRecDepth 10000
/-! ## utf8.ValidString -/
def valid_ren : Go.Shelf.Ren := ⟨fun | 196 => 68 | 259 => 71 | n => n, fun | 0 => 0 | 3 => 3 | 4 => 4 | 5 => 5 | 9 => 9 | 12 => 12 | 46 => 74 | 53 => 73 | 119 => 94 | 138 => 96 | 139 => 97 | n => n, fun | 3 => 0 | 4 => 1 | n => n⟩
theorem valid_lays : Lays.n196 Tryd.prog valid_ren := { mixed := by kernel_rfl, f196 := Tryd.func68.trans (congrArg some (by kernel_rfl)), f259 := Tryd.func71.trans (congrArg some (by kernel_rfl)), t0 := Tryd.underlying0, a0 := Tryd.isAgg0, z0 := Tryd.sizeOf0, v0 := Tryd.zeroValue0, t3 := Tryd.underlying3, a3 := Tryd.isAgg3, z3 := Tryd.sizeOf3, v3 := Tryd.zeroValue3, t4 := Tryd.underlying4, a4 := Tryd.isAgg4, z4 := Tryd.sizeOf4, v4 := Tryd.zeroValue4, t5 := Tryd.underlying5, a5 := Tryd.isAgg5, z5 := Tryd.sizeOf5, v5 := Tryd.zeroValue5, t9 := Tryd.underlying9, a9 := Tryd.isAgg9, z9 := Tryd.sizeOf9, v9 := Tryd.zeroValue9, t12 := Tryd.underlying12, a12 := Tryd.isAgg12, z12 := Tryd.sizeOf12, v12 := Tryd.zeroValue12, t46 := Tryd.underlying74, a46 := Tryd.isAgg74, z46 := Tryd.sizeOf74, v46 := Tryd.zeroValue74, t53 := Tryd.underlying73, a53 := Tryd.isAgg73, z53 := Tryd.sizeOf73, v53 := Tryd.zeroValue73, t119 := Tryd.underlying94, a119 := Tryd.isAgg94, z119 := Tryd.sizeOf94, t138 := Tryd.underlying96, a138 := Tryd.isAgg96, z138 := Tryd.sizeOf96, v138 := Tryd.zeroValue96, t139 := Tryd.underlying97, a139 := Tryd.isAgg97, z139 := Tryd.sizeOf97, v139 := Tryd.zeroValue97, g3 := by kernel_rfl, g4 := by kernel_rfl }
/-- a contract of plain values, made one of the walker's -/
theorem acalls_plain {P : Program} {f : FuncId} {args : List Value} {v : Value} (st : Nat → Bool) (h : ∀ w, TabW w → Calls P f args.toArray w fun e w' => e = .returned v ∧ Below w.heap.size w w') : ACalls P f (args.map AV.c) [] st (fun r h' => r = .c v ∧ h' = []) := by
  intro G F w vs hr hfc hl
  have hvs : vs = args.toArray := by
    apply Array.ext'
    simp only [List.toList_toArray]
    apply List.ext_getElem?
    intro j
    obtain ⟨h1, h2⟩ := hl
    by_cases hj : j < args.length
    · have hj2 : j < vs.size := by rw [← h1]; simpa using hj
      have := (h2 j (.c args[j]) vs[j] (by simp [hj]) (by simp [hj2])).c_inv
      simp [hj, hj2, this]
    · have hj2 : ¬ j < vs.size := by rw [← h1]; simpa using hj
      simp [hj, hj2]
  subst hvs
  refine (h w hfc.tabW).mono fun e w' ⟨he, hb⟩ => ?_
  have hk : ∀ b, F b → w'.heap[b]? = w.heap[b]? := fun b hb' => hb.block b (hfc.lt b hb')
  refine ⟨v, .c v, [], G, F, he, ⟨⟨fun k x hk => by simp at hk, fun j k x y hj => by simp at hj⟩, Mod.of_below hb |>.mono fun k h1 h2 => absurd h1 (by omega), fun k x hk => by simp at hk, fun b hb' => .inl hb', fun b hb' => hb', hfc.keep hk⟩, .d _ _ (.c v), fun k m _ hk => by simp [lens] at hk, rfl, rfl⟩
theorem tab_cell {w : World} {b : Nat} {cs : Array Value} (h : TabW w) (hm : (b, cs) ∈ tabB) (i : Nat) : w.cell? ⟨b, i, none⟩ = cs[i]? := by
  obtain ⟨ty, fr, h1⟩ := h _ hm
  simp [World.cell?, h1]
theorem utf8_tabs {w : World} (h : TabW w) : Lib.Utf8Tabs (valid_ren.g 3) (valid_ren.g 4) w := by
  refine ⟨fun c hc => ?_, fun i hi => ?_⟩
  · rw [tab_cell h (b := valid_ren.g 3) (cs := firstTab) (by simp [tabB, valid_ren])]
    simp [firstTab, hc]
  · have hl : ∀ j, j < 32 → accTab[j]? = some (if j % 2 = 0 then Value.int .u8 (Lib.accLo (j / 2) : Nat) else Value.int .u8 (Lib.accHi (j / 2) : Nat)) := by
      intro j hj
      have h : j = 0 ∨ j = 1 ∨ j = 2 ∨ j = 3 ∨ j = 4 ∨ j = 5 ∨ j = 6 ∨ j = 7 ∨ j = 8 ∨ j = 9 ∨ j = 10 ∨ j = 11 ∨ j = 12 ∨ j = 13 ∨ j = 14 ∨ j = 15 ∨ j = 16 ∨ j = 17 ∨ j = 18 ∨ j = 19 ∨ j = 20 ∨ j = 21 ∨ j = 22 ∨ j = 23 ∨ j = 24 ∨ j = 25 ∨ j = 26 ∨ j = 27 ∨ j = 28 ∨ j = 29 ∨ j = 30 ∨ j = 31 := by omega
      rcases h with rfl | rfl | rfl | rfl | rfl | rfl | rfl | rfl | rfl | rfl | rfl | rfl | rfl | rfl | rfl | rfl | rfl | rfl | rfl | rfl | rfl | rfl | rfl | rfl | rfl | rfl | rfl | rfl | rfl | rfl | rfl | rfl <;> rfl
    rw [tab_cell h (b := valid_ren.g 4) (cs := accTab) (by simp [tabB, valid_ren]), tab_cell h (b := valid_ren.g 4) (cs := accTab) (by simp [tabB, valid_ren]), hl _ (by omega), hl _ (by omega), if_pos (by omega), if_neg (by omega)]
    rw [show 2 * i / 2 = i by omega, show (2 * i + 1) / 2 = i by omega]
    exact ⟨rfl, rfl⟩
def utfOk (s : ByteArray) : Bool := Lib.validD s.data.toList
theorem valid_utf (s : ByteArray) (hs : s.size ≤ 9223372036854775807) : ACalls Tryd.prog 68 [.c (.string s)] [] (fun _ => false) (fun r h' => r = .c (.bool (utfOk s)) ∧ h' = []) :=
  acalls_plain (args := [.string s]) (fun _ => false) fun w hT => Any.utf8_ValidString valid_lays s w hs (utf8_tabs hT)
end Go.Proofs.YtniifindnnfkaaaDoor
