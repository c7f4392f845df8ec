import Derived.Test.YtlepkpfbejfpiaaDoorYN
import Derived.Test.YtlepkpfbejfpiaaDoorH6
namespace Go.Proofs.YtlepkpfbejfpiaaDoor
set_option linter.unusedVariables false
set_option linter.unusedSimpArgs false
open Go.RowKit
attribute [local simp] isCut_nil isCut_region isCut_seq isCut_block isCut_loop isCut_cond isCut_skip isCut_exit isCut_ret isCut_range swapK putK altK condK_bool pickP_bool stepP stepO onPure_some onPure_none onImpl_some onImpl_none stepC onGP_some onGP_none onGV_some condG mkG onIt_it nextP_ptr takeP_eq takeV_some takeV_none takeU_some takeU_none takeQ takeW_some takeN_none takeN_some takeG_some takeO_some altO_some pureV binV2 eqF eqOp ovlV ovl2 rowAt capV binV intBin strBin isSh shV fldV ixV sliceV slice3V loadAV nilV lenV callV unV convV viewS cellsH loadV fldCut AV.ung AV.ungs AV.gc AV.cells AS.ev AS.put anyS gcsV lens lnO gV guardV retK RetP_eq resV oneV anyRo loIx hiIx implO callP_clo evL gcsL clearV storeAV AS.push AS.setO appV appZ shortS copyV buildV partsV fillV srcV fzO okV isCell_c isCell_ptr isCell_sl isCell_fs isCell_fp isCell_clo rowZ_one rowZ_zero rowZ_2 rowZ_3 rowZ_4 rowZ_5 rowZ_6 rowZ_7 rowZ_8 rowZ_9 rowZ_10 rowZ_11 rowZ_12 noHo Value.oneCell' max2V min2V afterH putBack frzFrom frzO rebO backIx nilEq_sl nilEq_fs nilOp_eql nilOp_neq AV.reb AV.rebL
attribute [local simp ↓] runK_skip runK_region runK_draw runK_seq runK_cut runK_cond runK_block runK_loop runK_exit runK_label runK_goto runK_ret runK_range contK_nil contK_seq contK_seq_ret contK_seq_exit contK_seq_goto contK_block contK_block_ret contK_block_goto contK_block_exit runO_nil runO_cons roundK_exit roundK_ret roundK_goto exitK_ret cutK_ret cutK_exit runE_done runE_nil runE_take runE_alt condG_true condG_false
set_option maxRecDepth 10000
/-! ## Names, columns, short lists, a SELECT's parts -/
def optOk (s : ByteArray) : Bool := decide (s = { data := #[] }) || nameOk s
set_option maxHeartbeats 8000000 in
theorem optional_w (s : ByteArray) (hs : s.size ≤ 9223372036854775807) : ACalls Tryd.prog 78 [.c (.string s)] [] (fun _ => false) (fun r h' => r = .c (.bool (optOk s)) ∧ h' = []) := by
  refine acalls mixed Tryd.func78 rfl Tryd.ntmps78 rfl fun E hE hst hho => ?_
  have c1 := name_schB s hs
  obtain ⟨B, hB⟩ : ∃ B, B = nameOk s := ⟨_, rfl⟩
  rw [← hB] at c1
  by_cases h : s = { data := #[] }
  · simp (maxSteps := 1000000) [hho, noHo, h, undef, onGP_none, condG_false, -List.reduceReplicate]
    exact Ret.same ⟨by simp [optOk, h], rfl⟩
  · simp (maxSteps := 1000000) [hho, noHo, h, undef, onGP_none, condG_false, -List.reduceReplicate]
    refine call_x [] c1 rfl rfl ⟨rfl, rfl⟩ hho (by simp) (by decide) (by simp) (by simp) ?_
    simp (maxSteps := 1000000) [hho, noHo, undef, onGP_none, condG_false, -List.reduceReplicate]
    exact Ret.same ⟨by simp [optOk, h, hB], rfl⟩
set_option maxHeartbeats 8000000 in
theorem names1_w (s : ByteArray) (hs : s.size ≤ 9223372036854775807) : ACalls Tryd.prog 74 [.c (.string s)] [] (fun _ => false) (fun r h' => r = .c (.bool (!nameOk s)) ∧ h' = []) := by
  refine acalls mixed Tryd.func74 rfl Tryd.ntmps74 rfl fun E hE hst hho => ?_
  have c1 := name_schB s hs
  simp (maxSteps := 1000000) [hho, noHo, undef, onGP_none, condG_false, -List.reduceReplicate]
  refine call_x [] c1 rfl rfl ⟨rfl, rfl⟩ hho (by simp) (by decide) (by simp) (by simp) ?_
  simp (maxSteps := 1000000) [hho, noHo, undef, onGP_none, condG_false, -List.reduceReplicate]
  exact Ret.same ⟨rfl, rfl⟩
def namesOk (l : List ByteArray) : Bool := decide (1 ≤ l.length) && !(l.any fun n => !nameOk n)
set_option maxHeartbeats 8000000 in
theorem names_w (l : List ByteArray) (hl : l.length ≤ 1000000) (hx : ∀ x ∈ l, x.size ≤ 9223372036854775807) : ACalls Tryd.prog 57 [.fs 1 l.length (strsA l)] [] (fun _ => false) (fun r h' => r = .c (.bool (namesOk l)) ∧ h' = []) := by
  refine acalls mixed Tryd.func57 rfl Tryd.ntmps57 rfl fun E hE hst hho => ?_
  have c1 := cf_str l (fun n => !nameOk n) 74 (by simp) (by omega) fun x h => names1_w x (hx x h)
  obtain ⟨B, hB⟩ : ∃ B, B = l.any fun n => !nameOk n := ⟨_, rfl⟩
  rw [← hB] at c1
  have hR : namesOk l = (decide (1 ≤ l.length) && !B) := by rw [hB]; rfl
  rw [hR]
  by_cases h : 1 ≤ l.length
  · have hI : (1 : Int) ≤ l.length := by omega
    simp (maxSteps := 1000000) [hho, noHo, h, hI, undef, onGP_none, condG_false, -List.reduceReplicate]
    refine call_x [] c1 rfl rfl ⟨rfl, rfl⟩ hho (by simp) (by decide) (by simp) (by simp) ?_
    simp (maxSteps := 1000000) [hho, noHo, undef, onGP_none, condG_false, -List.reduceReplicate]
    exact Ret.same ⟨by simp [h], rfl⟩
  · have hI : ¬ (1 : Int) ≤ l.length := by omega
    simp (maxSteps := 1000000) [hho, noHo, h, hI, undef, onGP_none, condG_false, -List.reduceReplicate]
    exact Ret.same ⟨by simp [h], rfl⟩
def colOk (c : ColS) : Bool := decide (c.id = 0) && decide (c.st = 0) && nameOk c.name && typOk c.ty && ofOk c.dft c.ty
def Col9 (c : ColS) : Prop := c.name.size ≤ 9223372036854775807 ∧ c.dft.t.size ≤ 9000000000000000000
set_option maxHeartbeats 8000000 in
theorem columnOf_w (c : ColS) (hc : Col9 c) : ACalls Tryd.prog 56 [.agg (colA c)] [] (fun _ => false) (fun r h' => r = .c (.bool (colOk c)) ∧ h' = []) := by
  refine acalls mixed Tryd.func56 rfl Tryd.ntmps56 rfl fun E hE hst hho => ?_
  have c1 := name_schB c.name hc.1
  have c2 := type_right c.ty
  have c3 := val_of c.dft c.ty hc.2
  obtain ⟨B1, h1⟩ : ∃ B, B = nameOk c.name := ⟨_, rfl⟩
  obtain ⟨B2, h2⟩ : ∃ B, B = typOk c.ty := ⟨_, rfl⟩
  obtain ⟨B3, h3⟩ : ∃ B, B = ofOk c.dft c.ty := ⟨_, rfl⟩
  rw [← h1] at c1
  rw [← h2] at c2
  rw [← h3] at c3
  have hR : colOk c = (decide (c.id = 0) && decide (c.st = 0) && B1 && B2 && B3) := by rw [h1, h2, h3]; rfl
  rw [hR]
  clear hR h1 h2 h3
  by_cases hi : c.id = 0
  · by_cases hs : c.st = 0
    · simp (maxSteps := 1000000) [hho, noHo, colA, hi, hs, undef, onGP_none, condG_false, -List.reduceReplicate]
      refine call_x [] c1 rfl rfl ⟨rfl, rfl⟩ hho (by simp) (by decide) (by simp) (by simp) ?_
      cases B1 with
      | false =>
        simp (maxSteps := 1000000) [hho, noHo, undef, onGP_none, condG_false, -List.reduceReplicate]
        exact Ret.drop (by rfl) ⟨by simp [hi, hs], rfl⟩
      | true =>
        simp (maxSteps := 1000000) [hho, noHo, undef, onGP_none, condG_false, -List.reduceReplicate]
        refine call_x [] c2 rfl rfl ⟨rfl, rfl⟩ hho (by simp) (by decide) (by simp) (by simp) ?_
        cases B2 with
        | false =>
          simp (maxSteps := 1000000) [hho, noHo, undef, onGP_none, condG_false, -List.reduceReplicate]
          exact Ret.drop (by rfl) ⟨by simp [hi, hs], rfl⟩
        | true =>
          simp (maxSteps := 1000000) [hho, noHo, undef, onGP_none, condG_false, -List.reduceReplicate]
          refine call_x [] c3 rfl rfl ⟨rfl, rfl⟩ hho (by simp) (by decide) (by simp) (by simp) ?_
          cases B3 with
          | false =>
            simp (maxSteps := 1000000) [hho, noHo, undef, onGP_none, condG_false, -List.reduceReplicate]
            exact Ret.drop (by rfl) ⟨by simp [hi, hs], rfl⟩
          | true =>
            simp (maxSteps := 1000000) [hho, noHo, undef, onGP_none, condG_false, -List.reduceReplicate]
            exact Ret.drop (by rfl) ⟨by simp [hi, hs], rfl⟩
    · simp (maxSteps := 1000000) [hho, noHo, colA, hi, hs, undef, onGP_none, condG_false, -List.reduceReplicate]
      exact Ret.drop (by rfl) ⟨by simp [hs], rfl⟩
  · simp (maxSteps := 1000000) [hho, noHo, colA, hi, undef, onGP_none, condG_false, -List.reduceReplicate]
    exact Ret.drop (by rfl) ⟨by simp [hi], rfl⟩
def shortOk (s : StmtS) : Bool := decide (s.names.length ≤ 20 ∧ s.cols.length ≤ 20 ∧ s.sets.length ≤ 20 ∧ s.items.length ≤ 20 ∧ s.from_.length ≤ 20 ∧ s.group.length ≤ 20 ∧ s.order.length ≤ 20 ∧ s.rows.length ≤ 50 ∧ s.wher.length ≤ 1 ∧ s.on_.length ≤ 1)
set_option maxHeartbeats 8000000 in
theorem short_w (s : StmtS) : ACalls Tryd.prog 30 [.agg (stmtA s)] [] (fun _ => false) (fun r h' => r = .c (.bool (shortOk s)) ∧ h' = []) := by
  refine acalls mixed Tryd.func30 rfl Tryd.ntmps30 rfl fun E hE hst hho => ?_
  simp (maxSteps := 1000000) [hho, noHo, stmtA, foldV, undef, onGP_none, condG_false, -List.reduceReplicate]
  refine Ret.drop (by rfl) ⟨?_, rfl⟩
  congr 2
  rw [Bool.eq_iff_iff]
  simp [shortOk]
  omega
set_option maxHeartbeats 8000000 in
theorem selects1_w (x : ItemS) (hs : x.as_.size ≤ 9223372036854775807) : ACalls Tryd.prog 80 [.agg (itemA x)] [] (fun _ => false) (fun r h' => r = .c (.bool (!optOk x.as_)) ∧ h' = []) := by
  refine acalls mixed Tryd.func80 rfl Tryd.ntmps80 rfl fun E hE hst hho => ?_
  have c1 := optional_w x.as_ hs
  simp (maxSteps := 1000000) [hho, noHo, itemA, exprA, undef, onGP_none, condG_false, -List.reduceReplicate]
  refine call_x [] c1 rfl rfl ⟨rfl, rfl⟩ hho (by simp) (by decide) (by simp) (by simp) ?_
  simp (maxSteps := 1000000) [hho, noHo, undef, onGP_none, condG_false, -List.reduceReplicate]
  exact Ret.drop (by rfl) ⟨rfl, rfl⟩
def selHead (s : StmtS) : Bool := decide (((s.from_.length = 2 ∧ s.on_.length = 1) ∨ (s.from_.length = 1 ∧ s.on_.length = 0)) ∧ -1 ≤ s.limit ∧ s.limit ≤ 1000000)
def srcOk (x : SrcS) : Bool := nameOk x.tab && optOk x.as_
def selS (s : StmtS) : Bool := selHead s && s.from_.all srcOk && !(s.items.any fun x => !optOk x.as_)
theorem all_false {α : Type} {p : α → Bool} {l : List α} {j : Nat} (hj : j < l.length) (h : p l[j] = false) : l.all p = false := by
  rw [Bool.eq_false_iff]; intro ha; rw [List.all_eq_true.1 ha _ (List.getElem_mem hj)] at h; cases h
theorem all_true {α : Type} {p : α → Bool} {l : List α} (h : ∀ k (hk : k < l.length), k < l.length → p l[k] = true) : l.all p = true := by
  rw [List.all_eq_true]; intro x hx; obtain ⟨i, hi, rfl⟩ := List.getElem_of_mem hx; exact h i hi hi
set_option maxHeartbeats 8000000 in
theorem selects_w (s : StmtS) (hf : s.from_.length ≤ 1000000 ∧ ∀ x ∈ s.from_, x.tab.size ≤ 9223372036854775807 ∧ x.as_.size ≤ 9223372036854775807) (hi : s.items.length ≤ 1000000 ∧ ∀ x ∈ s.items, x.as_.size ≤ 9223372036854775807) : ACalls Tryd.prog 63 [.agg (stmtA s)] [] (fun _ => false) (fun r h' => r = .c (.bool (selS s)) ∧ h' = []) := by
  refine acalls mixed Tryd.func63 rfl Tryd.ntmps63 rfl fun E hE hst hho => ?_
  have c3 := cf_item s.items (fun x => !optOk x.as_) 80 (by simp) (by omega) fun x h => selects1_w x (hi.2 x h)
  obtain ⟨Q, hQ⟩ : ∃ B, B = s.items.any fun x => !optOk x.as_ := ⟨_, rfl⟩
  rw [← hQ] at c3
  have hR : selS s = (selHead s && s.from_.all srcOk && !Q) := by rw [hQ]; rfl
  rw [hR]
  clear hR hQ
  simp (maxSteps := 1000000) [hho, noHo, stmtA, undef, onGP_none, condG_false, -List.reduceReplicate]
  split
  · rename_i hC
    have hd : selHead s = false := by
      rw [Bool.eq_false_iff]; intro hd; simp only [selHead, decide_eq_true_eq] at hd; grind
    refine ⟨by grind, by grind, by grind, ?_⟩
    exact Ret.drop (by rfl) ⟨by rw [hd]; simp, rfl⟩
  rename_i hC
  have hd : selHead s = true := by
    simp only [selHead, decide_eq_true_eq]; grind
  rw [hd, Bool.true_and]
  refine ⟨by grind, by grind, by grind, ?_⟩
  clear hC hd
  have hn := hf.1
  refine loop_k mixed (fun j : Nat => ⟨slotsOf 62 [(1, .ptr 0 0 15), (41, .fs 2 s.from_.length (srcsA s.from_)), (42, .c (.int .i64 s.from_.length)), (43, .c (.int .i64 (j : Nat)))], [.o .box (stmtA s)]⟩) (fun j => s.from_.length - j) (fun j => j ≤ s.from_.length ∧ ∀ k (hk : k < s.from_.length), k < j → srcOk s.from_[k] = true) 0 ⟨Nat.zero_le _, fun k _ h => by omega⟩ ?_ ?_
  · exact wk_eq (by simp [hE, lens]) (by simp [stmtA]) (by simp [livH, livO, AV.livL, AV.liv, wkL, wkV, List.range', slotsOf])
  · rintro j ⟨hj, hI⟩
    by_cases hjl : j < s.from_.length
    · have hat := srcsA_at s.from_ j hjl
      have ew : IntKind.i64.wrap ((j : Int) + 1) = (j + 1 : Nat) := by rw [IntWalk.i64_in _ (by omega)]; rfl
      have e0 : j * 2 + 2 ≤ s.from_.length * 2 := by omega
      have hsz := hf.2 _ (List.getElem_mem hjl)
      have c1 := name_schB _ hsz.1
      have c2 := optional_w _ hsz.2
      have hfalse := @all_false _ srcOk s.from_ j hjl
      have hI1 : srcOk s.from_[j] = true → ∀ k (hk : k < s.from_.length), k < j + 1 → srcOk s.from_[k] = true := fun h k hk hkj => by
        by_cases e : k = j
        · subst e; exact h
        · exact hI k hk (by omega)
      obtain ⟨x, hx⟩ : ∃ x, x = s.from_[j] := ⟨_, rfl⟩
      rw [← hx] at hat c1 c2 hfalse hI1
      have hS : srcOk x = (nameOk x.tab && optOk x.as_) := rfl
      obtain ⟨B1, h1⟩ : ∃ B, B = nameOk x.tab := ⟨_, rfl⟩
      obtain ⟨B2, h2⟩ : ∃ B, B = optOk x.as_ := ⟨_, rfl⟩
      rw [← h1] at c1 hS
      rw [← h2] at c2 hS
      rw [hS] at hfalse hI1
      clear hS h1 h2
      simp (maxSteps := 1000000) [hho, noHo, slotsOf, hjl, hat, e0, srcA, stmtA, ew, undef, onGP_none, condG_false, -List.reduceReplicate]
      refine call_x [] c1 rfl rfl ⟨rfl, rfl⟩ hho (by simp) (by decide) (by simp) (by simp) ?_
      cases B1 with
      | false =>
        simp (maxSteps := 1000000) [hho, noHo, ew, undef, onGP_none, condG_false, -List.reduceReplicate]
        exact Ret.drop (by rfl) ⟨by rw [hfalse rfl]; simp, rfl⟩
      | true =>
        simp (maxSteps := 1000000) [hho, noHo, ew, undef, onGP_none, condG_false, -List.reduceReplicate]
        refine call_x [] c2 rfl rfl ⟨rfl, rfl⟩ hho (by simp) (by decide) (by simp) (by simp) ?_
        cases B2 with
        | false =>
          simp (maxSteps := 1000000) [hho, noHo, ew, undef, onGP_none, condG_false, -List.reduceReplicate]
          exact Ret.drop (by rfl) ⟨by rw [hfalse rfl]; simp, rfl⟩
        | true =>
          simp (maxSteps := 1000000) [hho, noHo, ew, undef, onGP_none, condG_false, -List.reduceReplicate]
          refine round_next (j + 1) ⟨by omega, hI1 rfl⟩ (by omega) ?_
          exact wk_of 1 1 (by simp) (by simp [hE, lens]) (by simp [stmtA]) (by simp [livH, livO, AV.livL, AV.liv, wkL, wkV, List.range']) (by simp [livH, livO, AV.livL, AV.liv, wkL, wkV, List.range', slotsOf])
    · obtain rfl : j = s.from_.length := by omega
      have hall : s.from_.all srcOk = true := all_true fun k hk _ => hI k hk hk
      rw [hall]
      simp (maxSteps := 1000000) [hho, noHo, slotsOf, stmtA, undef, onGP_none, condG_false, -List.reduceReplicate]
      refine call_x [] c3 rfl rfl ⟨rfl, rfl⟩ hho (by simp) (by decide) (by simp) (by simp) ?_
      simp (maxSteps := 1000000) [hho, noHo, undef, onGP_none, condG_false, -List.reduceReplicate]
      exact Ret.drop (by rfl) ⟨by simp, rfl⟩
end Go.Proofs.YtlepkpfbejfpiaaDoor
