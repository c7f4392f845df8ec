import Derived.Test.YtjgdlocgoiinbaaGreatDoorHL
import Derived.Test.YtjgdlocgoiinbaaGreatDoorLs
import Derived.Test.YtjgdlocgoiinbaaGreatDoorHQa
import Derived.Sort.Walk0
import Derived.Lib.Fields
import Derived.Lib.Space
import Derived.Test.YtjgdlocgoiinbaaGreatDoorQK
import Derived.Test.YtjgdlocgoiinbaaGreatDoorQI
namespace Go.Proofs.YtjgdlocgoiinbaaGreatDoor
set_option linter.unusedVariables false
set_option linter.unusedSimpArgs false
open Go.RowKit Go.Shelf Go.Lib
attribute [local simp] isCut_nil isCut_region isCut_seq isCut_block isCut_loop isCut_cond isCut_skip isCut_exit isCut_ret isCut_range swapK putK altK condK_bool pickP_bool stepP stepO onPure_some onPure_none onImpl_some onImpl_none stepC onGP_some onGP_none onGV_some condG mkG onIt_it nextP_ptr takeP_eq takeV_some takeV_none takeU_some takeU_none takeQ takeW_some takeN_none takeN_some takeG_some takeO_some altO_some pureV binV2 eqF eqOp ovlV ovl2 rowAt capV binV intBin strBin isSh shV fldV ixV sliceV slice3V loadAV nilV lenV callV unV convV viewS cellsH loadV fldCut AV.ung AV.ungs AV.gc AV.cells AS.ev AS.put anyS gcsV gcO lens lnO gV guardV retK RetP_eq resV oneV anyRo loIx hiIx implO callP_clo evL gcsL clearV storeAV AS.push AS.setO appV appZ shortS copyV buildV partsV fillV srcV fzO okV isCell_c isCell_ptr isCell_sl isCell_fs isCell_fp isCell_clo rowZ_one rowZ_zero rowZ_2 rowZ_3 rowZ_4 rowZ_5 rowZ_6 rowZ_7 rowZ_8 rowZ_9 rowZ_10 rowZ_11 rowZ_12 noHo Value.oneCell' max2V min2V lookV updV lenM msAt afterH putBack frzFrom frzO rebO backIx nilEq_sl nilEq_fs nilEq_ifn nilEq_ifh ifOp_eql ifOp_neq isLit nilOp_eql nilOp_neq AV.reb AV.rebL
attribute [local simp ↓] runK_skip runK_region runK_draw runK_seq runK_cut runK_cond runK_block runK_loop runK_exit runK_label runK_goto runK_ret runK_range contK_nil contK_seq contK_seq_ret contK_seq_exit contK_seq_goto contK_block contK_block_ret contK_block_goto contK_block_exit runO_nil runO_cons roundK_exit roundK_ret roundK_goto exitK_ret cutK_ret cutK_exit runE_done runE_nil runE_take runE_alt condG_true condG_false
set_option maxRecDepth 10000
def keysT : List UInt8 := [65, 68, 68, 32, 65, 76, 84, 69, 82, 32, 65, 78, 68, 32, 65, 83, 32, 66, 79, 79, 76, 32, 66, 89, 32, 66, 89, 84, 69, 83, 32, 67, 65, 83, 84, 32, 67, 79, 76, 85, 77, 78, 32, 67, 79, 85, 78, 84, 32, 67, 82, 69, 65, 84, 69, 32, 68, 69, 67, 73, 77, 65, 76, 32, 68, 69, 70, 65, 85, 76, 84, 32, 68, 69, 76, 69, 84, 69, 32, 68, 69, 83, 67, 32, 68, 82, 79, 80, 32, 70, 65, 76, 83, 69, 32, 70, 82, 79, 77, 32, 71, 82, 79, 85, 80, 32, 73, 78, 68, 69, 88, 32, 73, 78, 83, 69, 82, 84, 32, 73, 78, 84, 32, 73, 78, 84, 79, 32, 73, 83, 32, 74, 79, 73, 78, 32, 76, 73, 77, 73, 84, 32, 77, 65, 88, 32, 77, 73, 78, 32, 78, 79, 84, 32, 78, 85, 76, 76, 32, 79, 78, 32, 79, 82, 32, 79, 82, 68, 69, 82, 32, 83, 69, 76, 69, 67, 84, 32, 83, 69, 84, 32, 83, 85, 77, 32, 84, 65, 66, 76, 69, 32, 84, 69, 88, 84, 32, 84, 82, 85, 69, 32, 84, 89, 80, 69, 32, 85, 78, 73, 81, 85, 69, 32, 85, 80, 68, 65, 84, 69, 32, 86, 65, 76, 85, 69, 83, 32, 87, 72, 69, 82, 69]
def keysB : List (List UInt8) := [[65, 68, 68], [65, 76, 84, 69, 82], [65, 78, 68], [65, 83], [66, 79, 79, 76], [66, 89], [66, 89, 84, 69, 83], [67, 65, 83, 84], [67, 79, 76, 85, 77, 78], [67, 79, 85, 78, 84], [67, 82, 69, 65, 84, 69], [68, 69, 67, 73, 77, 65, 76], [68, 69, 70, 65, 85, 76, 84], [68, 69, 76, 69, 84, 69], [68, 69, 83, 67], [68, 82, 79, 80], [70, 65, 76, 83, 69], [70, 82, 79, 77], [71, 82, 79, 85, 80], [73, 78, 68, 69, 88], [73, 78, 83, 69, 82, 84], [73, 78, 84], [73, 78, 84, 79], [73, 83], [74, 79, 73, 78], [76, 73, 77, 73, 84], [77, 65, 88], [77, 73, 78], [78, 79, 84], [78, 85, 76, 76], [79, 78], [79, 82], [79, 82, 68, 69, 82], [83, 69, 76, 69, 67, 84], [83, 69, 84], [83, 85, 77], [84, 65, 66, 76, 69], [84, 69, 88, 84], [84, 82, 85, 69], [84, 89, 80, 69], [85, 78, 73, 81, 85, 69], [85, 80, 68, 65, 84, 69], [86, 65, 76, 85, 69, 83], [87, 72, 69, 82, 69]]
theorem keys_eq : keysL = keysB := by decide +kernel
theorem keys_fields : Lib.fields keysT = keysB := by decide +kernel
theorem keys_ascii : ∀ b ∈ keysT, b.toNat < 128 := by decide +kernel
def strsK (l : List (List UInt8)) : List AV := l.map fun b => .c (.string (baL b))
@[simp] theorem strsK_len (l : List (List UInt8)) : (strsK l).length = l.length := by simp [strsK]
theorem strsK_at (l : List (List UInt8)) (j : Nat) (hj : j < l.length) : List.take 1 (List.drop j (strsK l)) = [.c (.string (baL l[j]))] := by
  rw [List.drop_eq_getElem_cons (by simpa using hj)]
  simp [strsK]
theorem space_is {w : World} (h : TabW w) : Lib.TabIs Tryz.prog w "strings.asciiSpace" .u8 Lib.asciiSpaceTab := by
  obtain ⟨_, ty, fr, rfl, h1⟩ := h (2, isTab spaceT) (by simp [tabB])
  have hg : Tryz.prog.globalNamed "strings.asciiSpace" = some 2 := by kernel_rfl
  unfold Lib.TabIs World.var?
  rw [hg, Option.bind_some, h1]
  rfl
theorem acalls_row {P : Program} {f : FuncId} {args : List Value} (st : Nat → Bool) (l : List Value) (ty : TypeId) (h0 : 0 < l.length) (hm : l.length ≤ maxLen)
    (h : ∀ w, TabW w → Calls P f args.toArray w fun e w' => e = .returned (.slice (some ⟨w.heap.size, 0, none⟩) l.length l.length) ∧ w' = w.alloc (.cells l.toArray ty)) : ACalls P f (args.map AV.c) [] st (fun r h' => r = .fs 1 l.length (l.map AV.c) ∧ h' = []) := by
  intro G F w vs hr hfc hl
  have hvs : vs = args.toArray := by
    apply Array.ext'
    simp only [List.toList_toArray]
    apply List.ext_getElem?
    intro j
    obtain ⟨h1, h2⟩ := hl
    by_cases hj : j < args.length
    · have hj2 : j < vs.size := by rw [← h1]; simpa using hj
      have := (h2 j (.c args[j]) vs[j] (by simp [hj]) (by simp [hj2])).c_inv
      simp [hj, hj2, this]
    · have hj2 : ¬ j < vs.size := by rw [← h1]; simpa using hj
      simp [hj, hj2]
  subst hvs
  refine (h w hfc.tabW).mono fun e w' ⟨he, hw⟩ => ?_
  have hb : Below w.heap.size w w' := by rw [hw]; exact (Below.refl _ _).alloc (Nat.le_refl _) _
  have hk : ∀ b, F b → w'.heap[b]? = w.heap[b]? := fun b hb' => hb.block b (hfc.lt b hb')
  have hnew : w'.heap[w.heap.size]? = some (.cells l.toArray ty (0, 0)) := by rw [hw]; exact World.alloc_heap_new w _
  have hF : ∀ b, F b → F b ∨ b = w.heap.size := fun b h => .inl h
  have hcell : ∀ j, w'.cell? ⟨w.heap.size, j, none⟩ = l[j]? := fun j => by simp [World.cell?, hnew]
  refine ⟨_, _, [], G, fun b => F b ∨ b = w.heap.size, he, ⟨⟨fun k x hk => by simp at hk, fun j k x y hj => by simp at hj⟩, Mod.of_below hb |>.mono fun k h1 h2 => absurd h1 (by omega), fun k x hk => by simp at hk, fun b hb' => hb'.elim .inl fun e => .inr (.inr (by rw [e]; exact Nat.le_refl _)), fun b hb' => .inl hb', hfc.more hF hk fun b hb' => ?_⟩, .d _ _ (.fs 1 l.length w.heap.size 0 l.length (l.map AV.c) (fun j => l[j]?.getD .nilIface) h0 (Nat.le_refl _) hm (by simp) (.inr rfl) (fun j hj => ?_) fun j u hu => ?_), fun k m _ hk => by simp [lens] at hk, rfl, rfl⟩
  · rcases hb' with hb' | rfl
    · obtain ⟨cs, t, fr, e⟩ := hfc b hb'
      exact ⟨cs, t, fr, (hk b hb').trans e⟩
    · exact ⟨_, _, _, hnew⟩
  · have hj' : j < l.length := by simpa using hj
    rw [Nat.zero_add, hcell, List.getElem?_eq_getElem hj']
    rfl
  · rw [List.getElem?_map] at hu
    cases hx : l[j]? with
    | none => rw [hx] at hu; cases hu
    | some v =>
      rw [hx] at hu
      injection hu with hu
      subst hu
      exact .c v
theorem fields_w : ACalls Tryz.prog 67 [.c (.string (baL keysT))] [] (fun _ => false) (fun r h' => r = .fs 1 44 (strsK keysB) ∧ h' = []) := by
  have h := acalls_row (P := Tryz.prog) (f := 67) (args := [.string (baL keysT)]) (fun _ => false) (keysB.map fun b => Value.string (baL b)) 9 (by decide) (by decide) fun w hT => (Tryz.strings_Fields_laid (baL keysT) w (by decide) (fun j b hj => keys_ascii b (List.mem_of_getElem? hj)) (space_is hT)).mono fun e w' ⟨he, hw⟩ => by
    rw [show (baL keysT).data.toList = keysT from rfl, keys_fields] at he hw
    exact ⟨by rw [he, List.length_map], hw⟩
  rw [List.map_map, List.length_map] at h
  exact h
set_option maxHeartbeats 4000000 in
theorem lexKeys_w : ACalls Tryz.prog 42 [] [] (fun _ => false) (fun r h' => r = .fs 1 44 (strsK keysB) ∧ h' = []) := by
  refine acalls mixed Tryz.func42 rfl Tryz.ntmps42 rfl fun E hE hst hho => ?_
  have c1 := fields_w
  unfold baL keysT at c1
  obtain ⟨K, hK⟩ : ∃ K, K = strsK keysB := ⟨_, rfl⟩
  rw [← hK] at c1 ⊢
  simp (maxSteps := 1000000) [hho, noHo, -List.reduceReplicate]
  refine call_x [] (c1) rfl rfl ⟨rfl, rfl⟩ hho (by simp) (by decide) (by simp) (by simp) ?_
  simp (maxSteps := 1000000) [hho, noHo, -List.reduceReplicate]
  exact Ret.sel [] (fun _ => false) (ho := by rfl) (ha := by rfl) (by simp) (by simp) (by decide) (by simp) (fun i _ h => by cases h) ⟨rfl, rfl⟩
theorem fill_keys : fillV (rowZ 44 [Value.string ByteArray.empty]) ((0, 1, .c (.string ⟨#[65, 68, 68]⟩)) :: (1, 1, .c (.string ⟨#[65, 76, 84, 69, 82]⟩)) :: (2, 1, .c (.string ⟨#[65, 78, 68]⟩)) :: (3, 1, .c (.string ⟨#[65, 83]⟩)) :: (4, 1, .c (.string ⟨#[66, 79, 79, 76]⟩)) :: (5, 1, .c (.string ⟨#[66, 89]⟩)) :: (6, 1, .c (.string ⟨#[66, 89, 84, 69, 83]⟩)) :: (7, 1, .c (.string ⟨#[67, 65, 83, 84]⟩)) :: (8, 1, .c (.string ⟨#[67, 79, 76, 85, 77, 78]⟩)) :: (9, 1, .c (.string ⟨#[67, 79, 85, 78, 84]⟩)) :: (10, 1, .c (.string ⟨#[67, 82, 69, 65, 84, 69]⟩)) :: (11, 1, .c (.string ⟨#[68, 69, 67, 73, 77, 65, 76]⟩)) :: (12, 1, .c (.string ⟨#[68, 69, 70, 65, 85, 76, 84]⟩)) :: (13, 1, .c (.string ⟨#[68, 69, 76, 69, 84, 69]⟩)) :: (14, 1, .c (.string ⟨#[68, 69, 83, 67]⟩)) :: (15, 1, .c (.string ⟨#[68, 82, 79, 80]⟩)) :: (16, 1, .c (.string ⟨#[70, 65, 76, 83, 69]⟩)) :: (17, 1, .c (.string ⟨#[70, 82, 79, 77]⟩)) :: (18, 1, .c (.string ⟨#[71, 82, 79, 85, 80]⟩)) :: (19, 1, .c (.string ⟨#[73, 78, 68, 69, 88]⟩)) :: (20, 1, .c (.string ⟨#[73, 78, 83, 69, 82, 84]⟩)) :: (21, 1, .c (.string ⟨#[73, 78, 84]⟩)) :: (22, 1, .c (.string ⟨#[73, 78, 84, 79]⟩)) :: (23, 1, .c (.string ⟨#[73, 83]⟩)) :: (24, 1, .c (.string ⟨#[74, 79, 73, 78]⟩)) :: (25, 1, .c (.string ⟨#[76, 73, 77, 73, 84]⟩)) :: (26, 1, .c (.string ⟨#[77, 65, 88]⟩)) :: (27, 1, .c (.string ⟨#[77, 73, 78]⟩)) :: (28, 1, .c (.string ⟨#[78, 79, 84]⟩)) :: (29, 1, .c (.string ⟨#[78, 85, 76, 76]⟩)) :: (30, 1, .c (.string ⟨#[79, 78]⟩)) :: (31, 1, .c (.string ⟨#[79, 82]⟩)) :: (32, 1, .c (.string ⟨#[79, 82, 68, 69, 82]⟩)) :: (33, 1, .c (.string ⟨#[83, 69, 76, 69, 67, 84]⟩)) :: (34, 1, .c (.string ⟨#[83, 69, 84]⟩)) :: (35, 1, .c (.string ⟨#[83, 85, 77]⟩)) :: (36, 1, .c (.string ⟨#[84, 65, 66, 76, 69]⟩)) :: (37, 1, .c (.string ⟨#[84, 69, 88, 84]⟩)) :: (38, 1, .c (.string ⟨#[84, 82, 85, 69]⟩)) :: (39, 1, .c (.string ⟨#[84, 89, 80, 69]⟩)) :: (40, 1, .c (.string ⟨#[85, 78, 73, 81, 85, 69]⟩)) :: (41, 1, .c (.string ⟨#[85, 80, 68, 65, 84, 69]⟩)) :: (42, 1, .c (.string ⟨#[86, 65, 76, 85, 69, 83]⟩)) :: (43, 1, .c (.string ⟨#[87, 72, 69, 82, 69]⟩)) :: []) = some (strsK keysB) := by kernel_rfl
set_option maxHeartbeats 8000000 in
theorem r17Keys_w : ACalls Tryz.prog 43 [] [] (fun _ => false) (fun r h' => r = .fs 1 44 (strsK keysB) ∧ h' = []) := by
  refine acalls mixed Tryz.func43 rfl Tryz.ntmps43 rfl fun E hE hst hho => ?_
  have hf := fill_keys
  obtain ⟨K, hK⟩ : ∃ K, K = strsK keysB := ⟨_, rfl⟩
  have hl : K.length = 44 := by rw [hK]; rfl
  have hd : K.all isD = true := by rw [hK]; decide
  rw [← hK] at hf ⊢
  simp (maxSteps := 1000000) [hho, noHo, -fillV, hf, -List.reduceReplicate]
  refine Ret.sel [] (fun k => k == 0) (ho := by rfl) (ha := by rfl) (by simp) ?_ (by decide) (by simp) (fun i _ h => by cases h) ?_
  · exact ⟨hl, by decide, by decide, by simpa [List.take_of_length_le (Nat.le_of_eq hl)] using hd⟩
  · exact ⟨by simp [List.take_of_length_le (Nat.le_of_eq hl)], rfl⟩

theorem bl_irr : ∀ x : List UInt8, Op.bytesLess x x = false := fun x => by rw [bytesLess_eq]; simp
theorem bl_trans {x y z : List UInt8} (h1 : Op.bytesLess x y = true) (h2 : Op.bytesLess y z = true) : Op.bytesLess x z = true := by
  rw [bytesLess_eq] at *
  simp only [decide_eq_true_eq] at *
  exact List.lt_trans h1 h2
theorem keys_sorted : ∀ i j, i < j → j < 44 → Op.bytesLess (keysB[i]?.getD []) (keysB[j]?.getD []) = true := by
  have h : ∀ j, j < 44 → ∀ i, i < 44 → i < j → Op.bytesLess (keysB[i]?.getD []) (keysB[j]?.getD []) = true := by decide +kernel
  intro i j hij hj
  exact h j hj i (by omega) hij
theorem ba_toL2 (l : List UInt8) : (baL l).toList = l := by rw [ByteArray.toList_eq]; rfl
theorem nanS_w (a : ByteArray) : ACalls Tryz.prog 138 [.c (.string a)] [] (fun _ => false) (fun r h' => r = .c (.bool false) ∧ h' = []) := by
  refine acalls mixed Tryz.func138 rfl Tryz.ntmps138 rfl fun E hE hst hho => ?_
  simp (maxSteps := 1000000) [hho, noHo, -List.reduceReplicate]
  exact Ret.drop (by rfl) ⟨rfl, rfl⟩
theorem nanS2_w (a : ByteArray) : ACalls Tryz.prog 118 [.c (.string a)] [] (fun _ => false) (fun r h' => r = .c (.bool false) ∧ h' = []) := by
  refine acalls mixed Tryz.func118 rfl Tryz.ntmps118 rfl fun E hE hst hho => ?_
  simp (maxSteps := 1000000) [hho, noHo, -List.reduceReplicate]
  exact Ret.drop (by rfl) ⟨rfl, rfl⟩
theorem less_w (a b : ByteArray) : ACalls Tryz.prog 117 [.c (.string a), .c (.string b)] [] (fun _ => false) (fun r h' => r = .c (.bool (Op.bytesLess a.toList b.toList)) ∧ h' = []) := by
  refine acalls mixed Tryz.func117 rfl Tryz.ntmps117 rfl fun E hE hst hho => ?_
  have c1 := nanS_w a
  simp (maxSteps := 1000000) [hho, noHo, -List.reduceReplicate]
  refine call_x [] (c1) rfl rfl ⟨rfl, rfl⟩ hho (by simp) (by decide) (by simp) (by simp) ?_
  simp (maxSteps := 1000000) [hho, noHo, undef, onGP_none, condG_false, -List.reduceReplicate]
  exact Ret.drop (by rfl) ⟨rfl, rfl⟩
set_option maxHeartbeats 8000000 in
theorem search_w (s : ByteArray) : ACalls Tryz.prog 92 [.fs 1 44 (strsK keysB), .c (.string s)] [] (fun _ => false) (fun r h' => (∃ i : Int, r = .tup [.c (.int .i64 i), .c (.bool (keysB.contains s.data.toList))]) ∧ h' = []) := by
  refine acalls mixed Tryz.func92 rfl Tryz.ntmps92 rfl fun E hE hst hho => ?_
  have hsL : s.toList = s.data.toList := ByteArray.toList_eq s
  have hb : s = baL s.data.toList := rfl
  obtain ⟨L, hL⟩ : ∃ L, L = s.data.toList := ⟨_, rfl⟩
  rw [← hL] at hsL hb ⊢
  have hkl : keysB.length = 44 := rfl
  obtain ⟨K, hK⟩ : ∃ K, K = keysB := ⟨_, rfl⟩
  have hso := keys_sorted
  rw [← hK] at hkl hso ⊢
  clear hK
  obtain ⟨C, hC⟩ : ∃ C, C = K.contains L := ⟨_, rfl⟩
  rw [← hC]
  simp (maxSteps := 1000000) [hho, noHo, -List.reduceReplicate]
  refine loop_k mixed (fun y : Nat × Nat => ⟨slotsOf 54 [(0, .fs 1 44 (strsK K)), (1, .c (.string s)), (6, .c (.int .i64 44)), (7, .c (.int .i64 (y.1 : Nat))), (8, .c (.int .i64 (y.2 : Nat)))], []⟩) (fun y => y.2 - y.1) (fun y => y.1 ≤ y.2 ∧ y.2 ≤ 44 ∧ (∀ k, k < y.1 → Op.bytesLess (K[k]?.getD []) L = true) ∧ (∀ k, y.2 ≤ k → k < 44 → Op.bytesLess (K[k]?.getD []) L = false)) (0, 44) ⟨Nat.zero_le _, Nat.le_refl _, fun k h => by omega, fun k h1 h2 => by omega⟩ ?_ ?_
  · exact wk_eq (by simp [hE, lens]) rfl (by simp [livH, livO, AV.livL, AV.liv, wkL, wkV, List.range', slotsOf])
  rintro ⟨i, j⟩ ⟨hij, hj, hlo, hhi⟩
  simp only at hij hj hlo hhi
  by_cases hlt : i < j
  · have hlti : (i : Int) < j := by omega
    obtain ⟨h, hh⟩ : ∃ h, h = (i + j) / 2 := ⟨_, rfl⟩
    have hh1 : i ≤ h ∧ h < j := by omega
    have hh44 : h < K.length := by omega
    have hh44' : h < 44 := by omega
    have hh44i : (h : Int) < 44 := by omega
    have ta := strsK_at K h hh44
    have c1 := less_w (baL K[h]) s
    rw [ba_toL2, hsL] at c1
    have hKh : K[h]?.getD [] = K[h] := by rw [List.getElem?_eq_getElem hh44]; rfl
    obtain ⟨k0, hk0⟩ : ∃ k, k = K[h] := ⟨_, rfl⟩
    rw [← hk0] at ta c1 hKh
    have e1 : IntKind.i64.wrap ((i : Int) + j) = (i : Int) + j := IntWalk.i64_in _ (by omega)
    have e2 : IntKind.u64.wrap ((i : Int) + j) = (i : Int) + j := by
      unfold IntKind.wrap
      simp [IntKind.bits, IntKind.signed]
      omega
    have e3 : ((i : Int) + j).fdiv (2 ^ min 1 IntKind.u64.bits) = (h : Int) := by
      have : (2 : Int) ^ min 1 IntKind.u64.bits = 2 := by decide
      rw [this, Int.fdiv_eq_ediv_of_nonneg _ (by decide)]
      omega
    have e4 : IntKind.i64.wrap (h : Int) = h := IntWalk.i64_in _ (by omega)
    have e5 : IntKind.i64.wrap ((h : Int) + 1) = (h + 1 : Nat) := by rw [IntWalk.i64_in _ (by omega)]; rfl
    cases hb2 : Op.bytesLess k0 L with
    | true =>
      rw [hb2] at c1
      simp (maxSteps := 1000000) [hho, noHo, slotsOf, hlt, hlti, e1, e2, e3, e4, hh44', hh44i, ta, undef, onGP_none, condG_false, -List.reduceReplicate]
      refine call_x [] (c1) rfl rfl ⟨rfl, rfl⟩ hho (by simp) (by decide) (by simp) (by simp) ?_
      simp (maxSteps := 1000000) [hho, noHo, e5, undef, onGP_none, condG_false, -List.reduceReplicate]
      refine round_next (h + 1, j) ⟨by simp only; omega, hj, fun k hk => ?_, hhi⟩ (by simp only; omega) ?_
      · by_cases e : k = h
        · rw [e, hKh]; exact hb2
        · exact bl_trans (hso k h (by simp only at hk; omega) hh44') (by rw [hKh]; exact hb2)
      exact wk_of 0 0 (by simp) (by simp [hE, lens]) rfl (by simp [livH, livO, AV.livL, AV.liv, wkL, wkV, List.range']) (by simp [livH, livO, AV.livL, AV.liv, wkL, wkV, List.range', slotsOf])
    | false =>
      rw [hb2] at c1
      simp (maxSteps := 1000000) [hho, noHo, slotsOf, hlt, hlti, e1, e2, e3, e4, hh44', hh44i, ta, undef, onGP_none, condG_false, -List.reduceReplicate]
      refine call_x [] (c1) rfl rfl ⟨rfl, rfl⟩ hho (by simp) (by decide) (by simp) (by simp) ?_
      simp (maxSteps := 1000000) [hho, noHo, undef, onGP_none, condG_false, -List.reduceReplicate]
      refine round_next (i, h) ⟨hh1.1, by simp only; omega, hlo, fun k hk1 hk2 => ?_⟩ (by simp only; omega) ?_
      · by_cases e : k = h
        · rw [e, hKh]; exact hb2
        · cases hx : Op.bytesLess (K[k]?.getD []) L with
          | false => rfl
          | true =>
            have := bl_trans (hso h k (by simp only at hk1; omega) hk2) hx
            rw [hKh, hb2] at this
            cases this
      exact wk_of 0 0 (by simp) (by simp [hE, lens]) rfl (by simp [livH, livO, AV.livL, AV.liv, wkL, wkV, List.range']) (by simp [livH, livO, AV.livL, AV.liv, wkL, wkV, List.range', slotsOf])
  · have hji : i = j := by omega
    subst hji
    have hlti : ¬ (i : Int) < i := by omega
    by_cases h44 : i < 44
    case neg =>
      have h44i : ¬ (i : Int) < 44 := by omega
      have hc : K.contains L = false := by
        rw [Bool.eq_false_iff]
        intro hc
        have hm : L ∈ K := by simpa using hc
        obtain ⟨k, hk, e⟩ := List.getElem_of_mem hm
        have := hlo k (by omega)
        rw [List.getElem?_eq_getElem hk, Option.getD_some, e, bl_irr] at this
        cases this
      rw [← hC] at hc
      rw [hc]
      have tn : (strsK K)[i]? = none := List.getElem?_eq_none (by rw [strsK_len]; omega)
      simp (maxSteps := 1000000) [hho, noHo, slotsOf, h44, h44i, tn, undef, onGP_none, condG_false, -List.reduceReplicate]
      exact Ret.drop (by rfl) ⟨⟨_, rfl⟩, rfl⟩
    have h44i : (i : Int) < 44 := by omega
    have hiK : i < K.length := by omega
    have ta := strsK_at K i hiK
    have hcont : K.contains L = decide (K[i] = L) := by
      by_cases e : K[i] = L
      · have : L ∈ K := by rw [← e]; exact List.getElem_mem hiK
        rw [decide_eq_true e]
        simpa using this
      · rw [decide_eq_false e, Bool.eq_false_iff]
        intro hc
        have hm : L ∈ K := by simpa using hc
        obtain ⟨k, hk, ek⟩ := List.getElem_of_mem hm
        rcases Nat.lt_trichotomy k i with h | h | h
        · have := hlo k h
          rw [List.getElem?_eq_getElem hk, Option.getD_some, ek, bl_irr] at this
          cases this
        · subst h; exact e ek
        · have h2 := hso i k h (by omega)
          have h3 := hhi i (Nat.le_refl _) h44
          rw [List.getElem?_eq_getElem hk, Option.getD_some, ek] at h2
          rw [h2] at h3
          cases h3
    have c2 := nanS2_w (baL K[i])
    obtain ⟨k0, hk0⟩ : ∃ k, k = K[i] := ⟨_, rfl⟩
    rw [← hk0] at ta hcont c2
    rw [← hC] at hcont
    rw [hcont]
    by_cases e : k0 = L
    · have e' : baL k0 = s := by rw [hb, e]
      have hd : decide (k0 = L) = true := decide_eq_true e
      rw [hd]
      simp (maxSteps := 1000000) [hho, noHo, slotsOf, h44, h44i, ta, e', undef, onGP_none, condG_false, -List.reduceReplicate]
      exact Ret.drop (by rfl) ⟨⟨_, rfl⟩, rfl⟩
    · have e' : ¬ baL k0 = s := fun h => e (by rw [hb] at h; have := congrArg (fun s : ByteArray => s.data.toList) h; exact this)
      have hd : decide (k0 = L) = false := decide_eq_false e
      rw [hd]
      simp (maxSteps := 1000000) [hho, noHo, slotsOf, h44, h44i, ta, e', undef, onGP_none, condG_false, -List.reduceReplicate]
      refine call_x [] (c2) rfl rfl ⟨rfl, rfl⟩ hho (by simp) (by decide) (by simp) (by simp) ?_
      simp (maxSteps := 1000000) [hho, noHo, undef, onGP_none, condG_false, -List.reduceReplicate]
      exact Ret.drop (by rfl) ⟨⟨_, rfl⟩, rfl⟩
end Go.Proofs.YtjgdlocgoiinbaaGreatDoor
namespace Go.Proofs.YtjgdlocgoiinbaaGreatDoor
set_option linter.unusedVariables false
set_option linter.unusedSimpArgs false
open Go.RowKit Go.Shelf Go.Lib
attribute [local simp] isCut_nil isCut_region isCut_seq isCut_block isCut_loop isCut_cond isCut_skip isCut_exit isCut_ret isCut_range swapK putK altK condK_bool pickP_bool stepP stepO onPure_some onPure_none onImpl_some onImpl_none stepC onGP_some onGP_none onGV_some condG mkG onIt_it nextP_ptr takeP_eq takeV_some takeV_none takeU_some takeU_none takeQ takeW_some takeN_none takeN_some takeG_some takeO_some altO_some pureV binV2 eqF eqOp ovlV ovl2 rowAt capV binV intBin strBin isSh shV fldV ixV sliceV slice3V loadAV nilV lenV callV unV convV viewS cellsH loadV fldCut AV.ung AV.ungs AV.gc AV.cells AS.ev AS.put anyS gcsV gcO lens lnO gV guardV retK RetP_eq resV oneV anyRo loIx hiIx implO callP_clo evL gcsL clearV storeAV AS.push AS.setO appV appZ shortS copyV buildV partsV fillV srcV fzO okV isCell_c isCell_ptr isCell_sl isCell_fs isCell_fp isCell_clo rowZ_one rowZ_zero rowZ_2 rowZ_3 rowZ_4 rowZ_5 rowZ_6 rowZ_7 rowZ_8 rowZ_9 rowZ_10 rowZ_11 rowZ_12 noHo Value.oneCell' max2V min2V lookV updV lenM msAt afterH putBack frzFrom frzO rebO backIx nilEq_sl nilEq_fs nilEq_ifn nilEq_ifh ifOp_eql ifOp_neq isLit nilOp_eql nilOp_neq AV.reb AV.rebL
attribute [local simp ↓] runK_skip runK_region runK_draw runK_seq runK_cut runK_cond runK_block runK_loop runK_exit runK_label runK_goto runK_ret runK_range contK_nil contK_seq contK_seq_ret contK_seq_exit contK_seq_goto contK_block contK_block_ret contK_block_goto contK_block_exit runO_nil runO_cons roundK_exit roundK_ret roundK_goto exitK_ret cutK_ret cutK_exit runE_done runE_nil runE_take runE_alt condG_true condG_false
set_option maxRecDepth 10000
def tokA (t : TokS) : List AV := [.c (.int .i64 t.k), .c (.int .i64 t.at_), .c (.string t.t), .c (.int .i64 t.v.k), .c (.int .i64 t.v.n), .c (.int .i64 t.v.s), .c (.string t.v.t)]
def tokR (r : TokS × Int × Bool) : AV := .tup [.agg (tokA r.1), .c (.int .i64 r.2.1), .c (.bool r.2.2)]
def qP (s : List UInt8) : List UInt8 := match scanQ (s.drop 1) with | none => [] | some m => s.take (m + 1)
def litP (w : List UInt8) : TokS × Int × Bool := (⟨2, 0, ByteArray.empty, (pvR (parseR w)).1⟩, ((w.length : Nat) : Int), (pvR (parseR w)).2)
def numV (d : Int × Int × Bool) : ValS := if 0 < d.2.1 then ⟨3, d.1, d.2.1, ByteArray.empty⟩ else ⟨2, d.1, 0, ByteArray.empty⟩
def numP17 (s : List UInt8) : TokS × Int × Bool := (⟨2, 0, ByteArray.empty, numV (dec3 (decP (numW s)))⟩, (((numW s).length : Nat) : Int), (dec3 (decP (numW s))).2.2)
def signP (s : List UInt8) : TokS × Int × Bool := if twosL.contains (s.take 2) = true then (⟨3, 0, baL (s.take 2), vN⟩, 2, true) else (⟨3, 0, baL (s.take 1), vN⟩, 1, signsL.contains (s.head?.getD 0))
def tokP (s : List UInt8) : TokS × Int × Bool :=
  match s with
  | [] => (⟨0, 0, ByteArray.empty, vN⟩, 0, false)
  | c :: l =>
    if c = 39 then litP (qP (c :: l))
    else if c = 88 ∧ l.head? = some 39 then (if qP l = [] then (⟨0, 0, ByteArray.empty, vN⟩, 0, false) else litP (88 :: qP l))
    else if isDig c = true then numP17 (c :: l)
    else if isGreat c = true then (⟨1, 0, baL ((c :: l).takeWhile isGreat), vN⟩, ((((c :: l).takeWhile isGreat).length : Nat) : Int), keysB.contains ((c :: l).takeWhile isGreat))
    else if isLow c = true then (⟨0, 0, baL ((c :: l).takeWhile isSmall), vN⟩, ((((c :: l).takeWhile isSmall).length : Nat) : Int), decide (((c :: l).takeWhile isSmall).length ≤ 24))
    else signP (c :: l)
theorem litS_P (w : List UInt8) : litS w = if (litP w).2.2 = true then some ((litP w).1, (litP w).2.1.toNat) else none := by
  unfold litS litP
  cases h : parseR w with
  | none => rfl
  | some v =>
    show some _ = if true = true then some _ else none
    rw [if_pos rfl]
    simp [pvR]
theorem lit_nil : litS [] = none := rfl
theorem numP_eq (s : List UInt8) : ((decP (numW s)).map fun p => ((⟨2, 0, ByteArray.empty, if 0 < p.2 then ⟨3, p.1, p.2, ByteArray.empty⟩ else ⟨2, p.1, 0, ByteArray.empty⟩⟩ : TokS), (numW s).length)) = if (numP17 s).2.2 = true then some ((numP17 s).1, (numP17 s).2.1.toNat) else none := by
  unfold numP17
  cases h : decP (numW s) with
  | none => rfl
  | some p =>
    obtain ⟨n, k⟩ := p
    have hv : numV (dec3 (some (n, k))) = if 0 < k then ⟨3, n, k, ByteArray.empty⟩ else ⟨2, n, 0, ByteArray.empty⟩ := by
      unfold numV
      by_cases hk : 0 < k
      · rw [if_pos hk]; exact if_pos (show (0 : Int) < (k : Int) by omega)
      · rw [if_neg hk]; exact if_neg (show ¬ (0 : Int) < (k : Int) by omega)
    rw [hv]
    show some _ = if true = true then some _ else none
    rw [if_pos rfl, Int.toNat_natCast]
theorem tok_eq (s : List UInt8) : tokL s = if (tokP s).2.2 = true then some ((tokP s).1, (tokP s).2.1.toNat) else none := by
  cases s with
  | nil => rfl
  | cons c l =>
    unfold tokL tokP
    simp only
    by_cases h39 : c = 39
    · rw [if_pos h39, if_pos h39]
      unfold qP
      rw [List.drop_one, List.tail_cons]
      cases hs : scanQ l with
      | none =>
        simp only [Option.bind_none]
        rw [← litS_P, lit_nil]
      | some m =>
        simp only [Option.bind_some]
        rw [litS_P]
    rw [if_neg h39, if_neg h39]
    by_cases hx : c = 88 ∧ l.head? = some 39
    · rw [if_pos hx, if_pos hx]
      unfold qP
      rw [List.drop_one]
      cases hs : scanQ l.tail with
      | none =>
        simp only [Option.bind_none]
        rfl
      | some m =>
        simp only [Option.bind_some]
        obtain ⟨d, l2, rfl⟩ : ∃ d l2, l = d :: l2 := by
          cases l with
          | nil => cases hx.2
          | cons d l2 => exact ⟨d, l2, rfl⟩
        have hne : ¬ (d :: l2).take (m + 1) = [] := by simp
        simp only [if_neg hne]
        rw [hx.1, ← litS_P]
        rfl
    rw [if_neg hx, if_neg hx]
    by_cases hd : isDig c = true
    · rw [if_pos hd, if_pos hd, numP_eq]
    rw [if_neg hd, if_neg hd]
    by_cases hg : isGreat c = true
    · rw [if_pos hg, if_pos hg, keys_eq]
      simp only [Int.toNat_natCast]
    rw [if_neg hg, if_neg hg]
    by_cases hl : isLow c = true
    · rw [if_pos hl, if_pos hl]
      simp only [Int.toNat_natCast, decide_eq_true_eq]
    rw [if_neg hl, if_neg hl]
    unfold signP
    by_cases h2 : twosL.contains ((c :: l).take 2) = true
    · rw [if_pos h2, if_pos h2, if_pos rfl]; rfl
    · rw [if_neg h2, if_neg h2]
      rfl
def AllP (p : UInt8 → Bool) (s : List UInt8) (a j : Nat) : Prop := ∀ k (hk : k < s.length), a ≤ k → k < j → p s[k] = true
theorem AllP.start (p : UInt8 → Bool) (s : List UInt8) (a : Nat) : AllP p s a a := fun k hk h1 h2 => by omega
theorem AllP.next {p : UInt8 → Bool} {s : List UInt8} {a j : Nat} (h : AllP p s a j) (hj : j < s.length) (hp : p s[j] = true) : AllP p s a (j + 1) := fun k hk h1 h2 => by
  by_cases e : k = j
  · subst e; exact hp
  · exact h k hk h1 (by omega)
theorem digit_w (c : UInt8) : ACalls Tryz.prog 88 [.c (.int .u8 (c.toNat : Nat))] [] (fun _ => false) (fun r h' => r = .c (.bool (isDig c)) ∧ h' = []) := by
  refine acalls mixed Tryz.func88 rfl Tryz.ntmps88 rfl fun E hE hst hho => ?_
  unfold isDig
  obtain ⟨x, hx⟩ : ∃ x, x = c.toNat := ⟨_, rfl⟩
  rw [← hx]
  by_cases h1 : 48 ≤ x
  · have h1i : (48 : Int) ≤ x := by omega
    by_cases h2 : x ≤ 57
    · have h2i : (x : Int) ≤ 57 := by omega
      simp (maxSteps := 1000000) [hho, noHo, h1, h1i, h2, h2i, undef, onGP_none, condG_false, -List.reduceReplicate]
      exact Ret.drop (by rfl) ⟨rfl, rfl⟩
    · have h2i : ¬ (x : Int) ≤ 57 := by omega
      simp (maxSteps := 1000000) [hho, noHo, h1, h1i, h2, h2i, undef, onGP_none, condG_false, -List.reduceReplicate]
      exact Ret.drop (by rfl) ⟨rfl, rfl⟩
  · have h1i : ¬ (48 : Int) ≤ x := by omega
    simp (maxSteps := 1000000) [hho, noHo, h1, h1i, undef, onGP_none, condG_false, -List.reduceReplicate]
    exact Ret.drop (by rfl) ⟨rfl, rfl⟩
theorem great_w (c : UInt8) : ACalls Tryz.prog 90 [.c (.int .u8 (c.toNat : Nat))] [] (fun _ => false) (fun r h' => r = .c (.bool (isGreat c)) ∧ h' = []) := by
  refine acalls mixed Tryz.func90 rfl Tryz.ntmps90 rfl fun E hE hst hho => ?_
  unfold isGreat
  obtain ⟨x, hx⟩ : ∃ x, x = c.toNat := ⟨_, rfl⟩
  rw [← hx]
  by_cases h1 : 65 ≤ x
  · have h1i : (65 : Int) ≤ x := by omega
    by_cases h2 : x ≤ 90
    · have h2i : (x : Int) ≤ 90 := by omega
      simp (maxSteps := 1000000) [hho, noHo, h1, h1i, h2, h2i, undef, onGP_none, condG_false, -List.reduceReplicate]
      exact Ret.drop (by rfl) ⟨rfl, rfl⟩
    · have h2i : ¬ (x : Int) ≤ 90 := by omega
      simp (maxSteps := 1000000) [hho, noHo, h1, h1i, h2, h2i, undef, onGP_none, condG_false, -List.reduceReplicate]
      exact Ret.drop (by rfl) ⟨rfl, rfl⟩
  · have h1i : ¬ (65 : Int) ≤ x := by omega
    simp (maxSteps := 1000000) [hho, noHo, h1, h1i, undef, onGP_none, condG_false, -List.reduceReplicate]
    exact Ret.drop (by rfl) ⟨rfl, rfl⟩
theorem small_w (c : UInt8) : ACalls Tryz.prog 93 [.c (.int .u8 (c.toNat : Nat))] [] (fun _ => false) (fun r h' => r = .c (.bool (isSmall c)) ∧ h' = []) := by
  refine acalls mixed Tryz.func93 rfl Tryz.ntmps93 rfl fun E hE hst hho => ?_
  have c1 := digit_w c
  have h95 : decide (c = 95) = decide ((c.toNat : Int) = 95) := by
    by_cases h : c = 95
    · subst h; rfl
    · rw [decide_eq_false h, decide_eq_false]
      intro e
      exact h (UInt8.toNat_inj.1 (by have : c.toNat = 95 := by omega
                                     rw [this]; rfl))
  unfold isSmall isLow
  rw [h95]
  obtain ⟨D, hD⟩ : ∃ D, D = isDig c := ⟨_, rfl⟩
  rw [← hD] at c1 ⊢
  obtain ⟨x, hx⟩ : ∃ x, x = c.toNat := ⟨_, rfl⟩
  rw [← hx] at c1 ⊢
  by_cases h0 : 97 ≤ x ∧ x ≤ 122
  · obtain ⟨h1, h2⟩ := h0
    have h1i : (97 : Int) ≤ x := by omega
    have h2i : (x : Int) ≤ 122 := by omega
    simp (maxSteps := 1000000) [hho, noHo, h1, h1i, h2, h2i, undef, onGP_none, condG_false, -List.reduceReplicate]
    exact Ret.drop (by rfl) ⟨rfl, rfl⟩
  · have hL : (decide (97 ≤ x) && decide (x ≤ 122)) = false := by
      rw [Bool.and_eq_false_iff]
      by_cases h : 97 ≤ x
      · right; exact decide_eq_false fun h2 => h0 ⟨h, h2⟩
      · left; exact decide_eq_false h
    rw [hL]
    by_cases h1 : 97 ≤ x
    · have h1i : (97 : Int) ≤ x := by omega
      have h2 : ¬ x ≤ 122 := fun h => h0 ⟨h1, h⟩
      have h2i : ¬ (x : Int) ≤ 122 := by omega
      simp (maxSteps := 1000000) [hho, noHo, h1, h1i, h2, h2i, undef, onGP_none, condG_false, -List.reduceReplicate]
      refine call_x [] (c1) rfl rfl ⟨rfl, rfl⟩ hho (by simp) (by decide) (by simp) (by simp) ?_
      cases D
      · simp (maxSteps := 1000000) [hho, noHo, undef, onGP_none, condG_false, -List.reduceReplicate]
        exact Ret.drop (by rfl) ⟨by simp, rfl⟩
      · simp (maxSteps := 1000000) [hho, noHo, undef, onGP_none, condG_false, -List.reduceReplicate]
        exact Ret.drop (by rfl) ⟨rfl, rfl⟩
    · have h1i : ¬ (97 : Int) ≤ x := by omega
      simp (maxSteps := 1000000) [hho, noHo, h1, h1i, undef, onGP_none, condG_false, -List.reduceReplicate]
      refine call_x [] (c1) rfl rfl ⟨rfl, rfl⟩ hho (by simp) (by decide) (by simp) (by simp) ?_
      cases D
      · simp (maxSteps := 1000000) [hho, noHo, undef, onGP_none, condG_false, -List.reduceReplicate]
        exact Ret.drop (by rfl) ⟨by simp, rfl⟩
      · simp (maxSteps := 1000000) [hho, noHo, undef, onGP_none, condG_false, -List.reduceReplicate]
        exact Ret.drop (by rfl) ⟨rfl, rfl⟩
set_option maxHeartbeats 4000000 in
theorem row_w (g : FuncId) (p : UInt8 → Bool) (hg : callable Tryz.prog g = true) (hp : ∀ c : UInt8, ACalls Tryz.prog g [.c (.int .u8 (c.toNat : Nat))] [] (fun _ => false) (fun r h' => r = .c (.bool (p c)) ∧ h' = [])) (s : ByteArray) (hs : s.size ≤ 100000) : ACalls Tryz.prog 91 [.c (.string s), .clo (.func g) [] []] [] (fun _ => false) (fun r h' => r = .c (.string (baL (s.data.toList.takeWhile p))) ∧ h' = []) := by
  refine acalls mixed Tryz.func91 rfl Tryz.ntmps91 rfl fun E hE hst hho => ?_
  have ls : s.data.toList.length = s.size := rfl
  have hb : s = baL s.data.toList := rfl
  simp (maxSteps := 1000000) [hho, noHo, hg, -List.reduceReplicate]
  refine loop_k mixed (fun j : Nat => ⟨slotsOf 22 [(0, .c (.string s)), (1, .clo (.func g) [] []), (7, .c (.int .i64 (s.size : Nat))), (8, .c (.int .i64 (j : Nat)))], []⟩) (fun j => s.size - j) (fun j => j ≤ s.size ∧ AllP p s.data.toList 0 j) 0 ⟨Nat.zero_le _, AllP.start _ _ _⟩ ?_ ?_
  · exact wk_eq (by simp [hE, lens]) rfl (by simp [livH, livO, AV.livL, AV.liv, wkL, wkV, List.range', slotsOf])
  rintro j ⟨hj, hI⟩
  by_cases h1 : j < s.size
  case neg =>
    have h1i : ¬ (j : Int) < s.size := by omega
    have e := tw_stop (p := p) (s := s.data.toList) j 0 j (Nat.le_refl _) (Nat.zero_le _) hj hI (fun h => by omega)
    rw [List.drop_zero, Nat.sub_zero, List.take_of_length_le (by omega)] at e
    rw [e, ← hb]
    simp (maxSteps := 1000000) [hho, noHo, slotsOf, h1, h1i, hg, undef, onGP_none, condG_false, -List.reduceReplicate]
    exact Ret.drop (by rfl) ⟨rfl, rfl⟩
  have h1i : (j : Int) < s.size := by omega
  have hjL : j < s.data.toList.length := h1
  have ba := byte_at (s := s) hjL
  have ba2 := byte_at2 (s := s) hjL
  have c1 := hp s.data.toList[j]
  have hex : s.extract 0 j = baL (s.data.toList.take j) := by
    conv => lhs; rw [hb]
    rw [ba_ext]; simp
  have ew : IntKind.i64.wrap ((j : Int) + 1) = (j + 1 : Nat) := by rw [IntWalk.i64_in _ (by omega)]; rfl
  obtain ⟨c, hc⟩ : ∃ c : UInt8, c = s.data.toList[j] := ⟨_, rfl⟩
  rw [← hc] at ba ba2 c1
  cases hpc : p c with
  | true =>
    rw [hpc] at c1
    simp (maxSteps := 1000000) [hho, noHo, slotsOf, h1, h1i, hg, ba, ba2, undef, onGP_none, condG_false, -List.reduceReplicate]
    refine call_x [] (c1) rfl rfl ⟨rfl, rfl⟩ hho (by simp) (by decide) (by simp) (by simp) ?_
    simp (maxSteps := 1000000) [hho, noHo, undef, onGP_none, condG_false, -List.reduceReplicate]
    refine round_next (j + 1) ⟨by omega, hI.next hjL (by rw [← hc]; exact hpc)⟩ (by omega) ?_
    exact wk_of 0 0 (by simp) (by simp [hE, lens]) rfl (by simp [livH, livO, AV.livL, AV.liv, wkL, wkV, List.range']) (by simp [livH, livO, AV.livL, AV.liv, wkL, wkV, List.range', slotsOf, ew])
  | false =>
    have e := tw_stop (p := p) (s := s.data.toList) j 0 j (Nat.le_refl _) (Nat.zero_le _) hj hI (fun h => by rw [← hc]; exact hpc)
    rw [List.drop_zero, Nat.sub_zero] at e
    rw [e]
    rw [hpc] at c1
    simp (maxSteps := 1000000) [hho, noHo, slotsOf, h1, h1i, hg, ba, ba2, undef, onGP_none, condG_false, -List.reduceReplicate]
    refine call_x [] (c1) rfl rfl ⟨rfl, rfl⟩ hho (by simp) (by decide) (by simp) (by simp) ?_
    simp (maxSteps := 1000000) [hho, noHo, hex, undef, onGP_none, condG_false, -List.reduceReplicate]
    repeat (with_reducible refine And.intro (by omega) ?_)
    exact Ret.drop (by rfl) ⟨rfl, rfl⟩
set_option maxHeartbeats 4000000 in
theorem quoted_w (s : ByteArray) (hs : s.size ≤ 100000) : ACalls Tryz.prog 87 [.c (.string s)] [] (fun _ => false) (fun r h' => r = .c (.string (baL (qP s.data.toList))) ∧ h' = []) := by
  refine acalls mixed Tryz.func87 rfl Tryz.ntmps87 rfl fun E hE hst hho => ?_
  have ls : s.data.toList.length = s.size := rfl
  have hb : s = baL s.data.toList := rfl
  obtain ⟨Q, hQ⟩ : ∃ Q, Q = qP s.data.toList := ⟨_, rfl⟩
  rw [← hQ]
  unfold qP at hQ
  simp (maxSteps := 1000000) [hho, noHo, -List.reduceReplicate]
  refine loop_k mixed (fun j : Nat => ⟨slotsOf 34 [(0, .c (.string s)), (3, .c (.int .i64 (j : Nat)))], []⟩) (fun j => s.size + 1 - j) (fun j => ScanI s.data.toList 1 j) 1 (ScanI.start _ (by omega)) ?_ ?_
  · exact wk_eq (by simp [hE, lens]) rfl (by simp [livH, livO, AV.livL, AV.liv, wkL, wkV, List.range', slotsOf])
  rintro j hI
  have hj1 := hI.1
  have hj2 := hI.2.1
  rw [ls] at hj2
  by_cases h1 : j < s.size
  case neg =>
    have h1i : ¬ (j : Int) < s.size := by omega
    rw [hI.none (by rw [ls]; omega)] at hQ
    rw [hQ]
    simp (maxSteps := 1000000) [hho, noHo, slotsOf, h1, h1i, undef, onGP_none, condG_false, -List.reduceReplicate]
    exact Ret.drop (by rfl) ⟨rfl, rfl⟩
  have h1i : (j : Int) < s.size := by omega
  have hjL : j < s.data.toList.length := h1
  have ba := byte_at (s := s) hjL
  have ba2 := byte_at2 (s := s) hjL
  have ew : IntKind.i64.wrap ((j : Int) + 1) = (j : Int) + 1 := IntWalk.i64_in _ (by omega)
  have ew2 : IntKind.i64.wrap ((j : Int) + 1 + 1) = (j : Int) + 1 + 1 := IntWalk.i64_in _ (by omega)
  have t5 : ((j : Int) + 1).toNat = j + 1 := by omega
  have z3 : (0 : Int) ≤ (j : Int) + 1 := by omega
  have hex : s.extract 0 (j + 1) = baL (s.data.toList.take (j + 1)) := by
    conv => lhs; rw [hb]
    rw [ba_ext]; simp
  obtain ⟨x, hx⟩ : ∃ x : Nat, x = (s.data.toList[j]).toNat := ⟨_, rfl⟩
  rw [← hx] at ba ba2
  by_cases x39 : x = 39
  case neg =>
    have x39i : ¬ (x : Int) = 39 := by omega
    have hne : s.data.toList[j] ≠ 39 := fun e => x39 (by rw [hx, e]; rfl)
    simp (maxSteps := 1000000) [hho, noHo, slotsOf, h1, h1i, ba, ba2, x39, x39i, undef, onGP_none, condG_false, -List.reduceReplicate]
    refine round_next (j + 1) (hI.other hjL hne) (by omega) ?_
    exact wk_of 0 0 (by simp) (by simp [hE, lens]) rfl (by simp [livH, livO, AV.livL, AV.liv, wkL, wkV, List.range']) (by simp [livH, livO, AV.livL, AV.liv, wkL, wkV, List.range', slotsOf, ew])
  have x39i : (x : Int) = 39 := by omega
  have he : s.data.toList[j] = 39 := UInt8.toNat_inj.1 (by rw [← hx, x39]; rfl)
  by_cases h2 : j + 1 < s.size
  · have h2i : (j : Int) + 1 < s.size := by omega
    have hjL2 : j + 1 < s.data.toList.length := h2
    have bb := byte_at (s := s) hjL2
    have bb2 := byte_at2 (s := s) hjL2
    obtain ⟨y, hy⟩ : ∃ x : Nat, x = (s.data.toList[j + 1]).toNat := ⟨_, rfl⟩
    rw [← hy] at bb bb2
    by_cases y39 : y = 39
    · have y39i : (y : Int) = 39 := by omega
      have he2 : s.data.toList[j + 1] = 39 := UInt8.toNat_inj.1 (by rw [← hy, y39]; rfl)
      simp (maxSteps := 1000000) [hho, noHo, slotsOf, h1, h1i, h2, h2i, ba, ba2, bb, bb2, x39, x39i, y39, y39i, ew, t5, z3, undef, onGP_none, condG_false, -List.reduceReplicate]
      refine round_next (j + 1 + 1) (hI.two hjL hjL2 he he2) (by omega) ?_
      exact wk_of 0 0 (by simp) (by simp [hE, lens]) rfl (by simp [livH, livO, AV.livL, AV.liv, wkL, wkV, List.range']) (by simp [livH, livO, AV.livL, AV.liv, wkL, wkV, List.range', slotsOf, ew2])
    · have y39i : ¬ (y : Int) = 39 := by omega
      have hne2 : s.data.toList[j + 1] ≠ 39 := fun e => y39 (by rw [hy, e]; rfl)
      rw [hI.fin hjL he (fun _ => hne2), show j - 1 + 1 = j by omega] at hQ
      rw [hQ]
      simp (maxSteps := 1000000) [hho, noHo, slotsOf, h1, h1i, h2, h2i, ba, ba2, bb, bb2, x39, x39i, y39, y39i, ew, t5, z3, hex, undef, onGP_none, condG_false, -List.reduceReplicate]
      repeat (with_reducible refine And.intro (by omega) ?_)
      exact Ret.drop (by rfl) ⟨rfl, rfl⟩
  · have h2i : ¬ (j : Int) + 1 < s.size := by omega
    rw [hI.fin hjL he (fun h => absurd (show j + 1 < s.size from h) h2), show j - 1 + 1 = j by omega] at hQ
    rw [hQ]
    simp (maxSteps := 1000000) [hho, noHo, slotsOf, h1, h1i, h2, h2i, ba, ba2, x39, x39i, ew, t5, z3, hex, undef, onGP_none, condG_false, -List.reduceReplicate]
    repeat (with_reducible refine And.intro (by omega) ?_)
    exact Ret.drop (by rfl) ⟨rfl, rfl⟩
theorem ret_tok {h : List AObj} {a b c d e f g : Value} {i j : Value} {Post : AV → List AObj → Prop} (hp : Post (.tup [.agg [.c a, .c b, .c c, .c d, .c e, .c f, .c g], .c i, .c j]) []) : Ret (fun _ => false) Post h (.tup [.agg [.c a, .c b, .c c, .c d, .c e, .c f, .c g], .c i, .c j]) :=
  Ret.sel [] (fun _ => false) (ho := by rfl) (ha := by rfl) (by simp) (by simp) (by decide) (by simp) (fun i _ h => by cases h) hp
set_option maxHeartbeats 4000000 in
theorem literal_w (s : ByteArray) (hs : s.size ≤ 100000) : ACalls Tryz.prog 86 [.c (.string s)] [] (fun _ => false) (fun r h' => r = tokR (litP s.data.toList) ∧ h' = []) := by
  refine acalls mixed Tryz.func86 rfl Tryz.ntmps86 rfl fun E hE hst hho => ?_
  have ls : s.data.toList.length = s.size := rfl
  have c1 := vParse_w s hs
  unfold litP tokR tokA
  rw [ls]
  by_cases h0 : s.size = 0
  · have hse : s = ByteArray.empty := by
      apply ByteArray.ext
      apply Array.eq_empty_of_size_eq_zero
      exact h0
    have e : parseR s.data.toList = none := by rw [hse]; rfl
    rw [e] at c1 ⊢
    simp only [pvR] at c1 ⊢
    simp (maxSteps := 1000000) [hho, noHo, undef, onGP_none, condG_false, -List.reduceReplicate]
    refine call_x [] (c1) rfl rfl ⟨rfl, rfl⟩ hho (by simp) (by decide) (by simp) (by simp) ?_
    simp (maxSteps := 1000000) [hho, noHo, valA, vN, undef, onGP_none, condG_false, -List.reduceReplicate]
    exact ret_tok ⟨rfl, rfl⟩
  · have hse : ¬ s = ByteArray.empty := fun e => h0 (by rw [e]; rfl)
    have hse2 : ¬ s = (⟨#[]⟩ : ByteArray) := hse
    obtain ⟨P, hP⟩ : ∃ P, P = pvR (parseR s.data.toList) := ⟨_, rfl⟩
    rw [← hP] at c1 ⊢
    obtain ⟨v, b⟩ := P
    simp only at c1 ⊢
    simp (maxSteps := 1000000) [hho, noHo, undef, onGP_none, condG_false, -List.reduceReplicate]
    refine call_x [] (c1) rfl rfl ⟨rfl, rfl⟩ hho (by simp) (by decide) (by simp) (by simp) ?_
    cases b with
    | true =>
      simp (maxSteps := 1000000) [hho, noHo, valA, hse, hse2, undef, onGP_none, condG_false, -List.reduceReplicate]
      exact ret_tok ⟨rfl, rfl⟩
    | false =>
      simp (maxSteps := 1000000) [hho, noHo, valA, hse, hse2, undef, onGP_none, condG_false, -List.reduceReplicate]
      exact ret_tok ⟨rfl, rfl⟩
end Go.Proofs.YtjgdlocgoiinbaaGreatDoor
