import Derived.Test.YtjgdlocgoiinbaaGreatDoorLy
import Derived.Test.YtjgdlocgoiinbaaGreatDoorVb
import Derived.Test.YtjgdlocgoiinbaaGreatDoorHD
import Derived.Lib.AppendIntMem
import Derived.WalkSmall
namespace Go.Proofs.YtjgdlocgoiinbaaGreatDoor
set_option linter.unusedVariables false
set_option linter.unusedSimpArgs false
open Go.RowKit Go.Shelf Go.Lib
attribute [local simp] isCut_nil isCut_region isCut_seq isCut_block isCut_loop isCut_cond isCut_skip isCut_exit isCut_ret isCut_range swapK putK altK condK_bool pickP_bool stepP stepO onPure_some onPure_none onImpl_some onImpl_none stepC onGP_some onGP_none onGV_some condG mkG onIt_it nextP_ptr takeP_eq takeV_some takeV_none takeU_some takeU_none takeQ takeW_some takeN_none takeN_some takeG_some takeO_some altO_some pureV binV2 eqF eqOp ovlV ovl2 rowAt capV binV intBin strBin isSh shV fldV ixV sliceV slice3V loadAV nilV lenV callV unV convV viewS cellsH loadV fldCut AV.ung AV.ungs AV.gc AV.cells AS.ev AS.put anyS gcsV gcO lens lnO gV guardV retK RetP_eq resV oneV anyRo loIx hiIx implO callP_clo evL gcsL clearV storeAV AS.push AS.setO appV appZ shortS copyV buildV partsV fillV srcV fzO okV isCell_c isCell_ptr isCell_sl isCell_fs isCell_fp isCell_clo rowZ_one rowZ_zero rowZ_2 rowZ_3 rowZ_4 rowZ_5 rowZ_6 rowZ_7 rowZ_8 rowZ_9 rowZ_10 rowZ_11 rowZ_12 noHo Value.oneCell' max2V min2V lookV updV lenM msAt afterH putBack frzFrom frzO rebO backIx nilEq_sl nilEq_fs nilEq_ifn nilEq_ifh ifOp_eql ifOp_neq isLit nilOp_eql nilOp_neq AV.reb AV.rebL
attribute [local simp ↓] runK_skip runK_region runK_draw runK_seq runK_cut runK_cond runK_block runK_loop runK_exit runK_label runK_goto runK_ret runK_range contK_nil contK_seq contK_seq_ret contK_seq_exit contK_seq_goto contK_block contK_block_ret contK_block_goto contK_block_exit runO_nil runO_cons roundK_exit roundK_ret roundK_goto exitK_ret cutK_ret cutK_exit runE_done runE_nil runE_take runE_alt condG_true condG_false
set_option maxRecDepth 10000
theorem pow10_is {w : World} (h : TabW w) : Lib.TabIs Tryz.prog w "internal/strconv.uint64pow10" .u64 Lib.pow10Tab := by
  obtain ⟨_, ty, fr, rfl, h1⟩ := h (5, isTab pow10T) (by simp [tabB])
  have hg : Tryz.prog.globalNamed "internal/strconv.uint64pow10" = some 5 := by kernel_rfl
  unfold Lib.TabIs World.var?
  rw [hg, Option.bind_some, h1]
  rfl
theorem maxLen_is {w : World} (h : TabW w) : ∃ m : Int, w.cell? ⟨4, 0, none⟩ = some (.int .i64 m) := by
  obtain ⟨_, ty, fr, ⟨m, rfl⟩, h1⟩ := h (4, isInt1 .i64) (by simp [tabB])
  exact ⟨m, by simp [World.cell?, h1]⟩
theorem errRange_is {w : World} (h : TabW w) : ∃ v : Value, w.cell? ⟨7, 0, none⟩ = some v ∧ (v = .nilIface ∨ ∃ t p, v = .iface t p) := by
  obtain ⟨_, ty, fr, ⟨v, rfl, hv⟩, h1⟩ := h (7, isIf1) (by simp [tabB])
  exact ⟨v, by simp [World.cell?, h1], hv⟩
theorem indexByte_w (s : ByteArray) (c : Int) : ACalls Tryz.prog 111 [.c (.string s), .c (.int .u8 c)] [] (fun _ => false) (fun r h' => r = .c (.int .i64 (indexByte s.data.toList c.toNat.toUInt8)) ∧ h' = []) :=
  acalls_plain (args := [.string s, .int .u8 c]) _ fun w _ => (Tryz.strings_IndexByte s c w).mono fun e w' ⟨he, hw⟩ => ⟨he, by rw [hw]; exact .refl _ _⟩
theorem cutPrefix_w (s p : ByteArray) : ACalls Tryz.prog 75 [.c (.string s), .c (.string p)] [] (fun _ => false) (fun r h' => r = .tup [.c (.string (baL (trimPrefix s.data.toList p.data.toList))), .c (.bool (hasPrefix s.data.toList p.data.toList))] ∧ h' = []) :=
  acalls_tup (args := [.string s, .string p]) (vs := [.string (baL (trimPrefix s.data.toList p.data.toList)), .bool (hasPrefix s.data.toList p.data.toList)]) _ fun w _ => (Tryz.strings_CutPrefix s p w).mono fun e w' ⟨he, hw⟩ => ⟨he, by rw [hw]; exact .refl _ _⟩
theorem cutSuffix_w (s p : ByteArray) (hs : s.size ≤ 9223372036854775807) : ACalls Tryz.prog 80 [.c (.string s), .c (.string p)] [] (fun _ => false) (fun r h' => r = .tup [.c (.string (baL (trimSuffix s.data.toList p.data.toList))), .c (.bool (hasSuffix s.data.toList p.data.toList))] ∧ h' = []) :=
  acalls_tup (args := [.string s, .string p]) (vs := [.string (baL (trimSuffix s.data.toList p.data.toList)), .bool (hasSuffix s.data.toList p.data.toList)]) _ fun w _ => (Tryz.strings_CutSuffix s p w hs).mono fun e w' ⟨he, hw⟩ => ⟨he, by rw [hw]; exact .refl _ _⟩
theorem cut_w (s p : ByteArray) (hs : s.size < 4294967281) : ACalls Tryz.prog 113 [.c (.string s), .c (.string p)] [] (fun _ => false) (fun r h' => r = .tup [.c (.string (baL (cut s.data.toList p.data.toList).1)), .c (.string (baL (cut s.data.toList p.data.toList).2.1)), .c (.bool (cut s.data.toList p.data.toList).2.2)] ∧ h' = []) :=
  acalls_tup (args := [.string s, .string p]) (vs := [.string (baL (cut s.data.toList p.data.toList).1), .string (baL (cut s.data.toList p.data.toList).2.1), .bool (cut s.data.toList p.data.toList).2.2]) _ fun w hT => by
    obtain ⟨m, hm⟩ := maxLen_is hT
    exact (Tryz.strings_Cut s p m w hs hm).mono fun e w' ⟨he, n, hw⟩ => ⟨he, by rw [hw]; exact (Below.refl _ _).trans ⟨rfl, rfl, rfl, Nat.le_refl _, fun _ _ => rfl⟩⟩
theorem countOne_w (s : ByteArray) (c : UInt8) : ACalls Tryz.prog 105 [.c (.string s), .c (.string ⟨#[c]⟩)] [] (fun _ => false) (fun r h' => r = .c (.int .i64 (s.data.toList.count c : Nat)) ∧ h' = []) :=
  acalls_plain (args := [.string s, .string ⟨#[c]⟩]) _ fun w _ => (Tryz.strings_Count_one s c w).mono fun e w' ⟨he, hw⟩ => ⟨he, by rw [hw]; exact .refl _ _⟩
theorem replaceAll_w (s old new : ByteArray) (hs : s.size ≤ 100000) (h1 : 1 ≤ old.size) (h2 : old.size ≤ 2) (h3 : new.size ≤ 2) : ACalls Tryz.prog 56 [.c (.string s), .c (.string old), .c (.string new)] [] (fun _ => false) (fun r h' => r = .c (.string (baL (replaceAll s.data.toList old.data.toList new.data.toList))) ∧ h' = []) :=
  acalls_plain (args := [.string s, .string old, .string new]) _ fun w hT => by
    obtain ⟨m, hm⟩ := maxLen_is hT
    have hc := count_le s.data.toList old.data.toList
    have hsz : s.data.toList.length = s.size := rfl
    have hm2 : countB s old * new.size ≤ 100001 * 2 := Nat.mul_le_mul (show count s.data.toList old.data.toList ≤ 100001 by omega) h3
    exact Tryz.strings_ReplaceAll s old new m w (by omega) hm h1 (by omega)
theorem itoa_w (n : Int) (h : -9223372036854775808 ≤ n ∧ n ≤ 9223372036854775807) : ACalls Tryz.prog 76 [.c (.int .i64 n)] [] (fun _ => false) (fun r h' => r = .c (.string (baL (itoa n))) ∧ h' = []) :=
  acalls_plain (args := [.int .i64 n]) _ fun w hT => (Tryz.strconv_Itoa n h.1 h.2 w (pow10_is hT)).mono fun e w' ⟨he, k, os, hw⟩ => ⟨he, by rw [hw]; exact Lib.below_grow _ _ (Nat.le_refl _) k os⟩
theorem atoi_ok_w (s : ByteArray) (hs : s.size ≤ 1000000) (v : Int) (h : atoiAll s.data.toList = .ok v) : ACalls Tryz.prog 115 [.c (.string s)] [] (fun _ => false) (fun r h' => r = .tup [.c (.int .i64 v), .c .nilIface] ∧ h' = []) :=
  acalls_tup (args := [.string s]) (vs := [.int .i64 v, .nilIface]) _ fun w _ => (Tryz.strconv_Atoi_ok s (by omega) v h w).mono fun e w' ⟨he, hw⟩ => ⟨he, by
    rcases hw with hw | ⟨t, hw⟩
    · rw [hw]; exact .refl _ _
    · rw [hw]; exact Lib.bytesWorld_below _ _ _⟩
theorem atoi_range_w (s : ByteArray) (hs : s.size ≤ 1000000) (h : atoiAll s.data.toList = .range) : ACalls Tryz.prog 115 [.c (.string s)] [] (fun _ => false) (fun r h' => (∃ vs : List Value, (∃ n t p, vs = [.int .i64 n, .iface t p]) ∧ r = .tup (vs.map AV.c)) ∧ h' = []) :=
  acalls_tupE (args := [.string s]) _ fun w hT => by
    obtain ⟨v, hv, hev⟩ := errRange_is hT
    exact (Tryz.strconv_Atoi_range s (by omega) h v w hv hev).mono fun e w' ⟨N, he, _, _, hb⟩ => ⟨_, ⟨_, _, _, rfl⟩, he, hb⟩
end Go.Proofs.YtjgdlocgoiinbaaGreatDoor
