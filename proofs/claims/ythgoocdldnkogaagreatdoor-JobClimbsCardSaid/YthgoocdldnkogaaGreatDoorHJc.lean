import Derived.Test.YthgoocdldnkogaaGreatDoorHS
import Derived.Test.YthgoocdldnkogaaGreatDoorHR5
import Derived.Test.YthgoocdldnkogaaGreatDoorHR4
import Derived.Test.YthgoocdldnkogaaGreatDoorHRh
import Derived.Test.YthgoocdldnkogaaGreatDoorHU
import Derived.Test.YthgoocdldnkogaaGreatDoorHZ1
import Derived.Test.YthgoocdldnkogaaGreatDoorHJa
namespace Go.Proofs.YthgoocdldnkogaaGreatDoor
set_option linter.unusedVariables false
set_option linter.unusedSimpArgs false
open Go.RowKit
attribute [local simp] isCut_nil isCut_region isCut_seq isCut_block isCut_loop isCut_cond isCut_skip isCut_exit isCut_ret isCut_range swapK putK altK condK_bool pickP_bool stepP stepO onPure_some onPure_none onImpl_some onImpl_none stepC onGP_some onGP_none onGV_some condG mkG onIt_it nextP_ptr takeP_eq takeV_some takeV_none takeU_some takeU_none takeQ takeW_some takeN_none takeN_some takeG_some takeO_some altO_some pureV binV2 eqF eqOp ovlV ovl2 rowAt capV binV intBin strBin isSh shV fldV ixV sliceV slice3V loadAV nilV lenV callV unV convV viewS cellsH loadV fldCut AV.ung AV.ungs AV.gc AV.cells AS.ev AS.put anyS gcsV gcO lens lnO gV guardV retK RetP_eq resV oneV anyRo loIx hiIx implO callP_clo evL gcsL clearV storeAV AS.push AS.setO appV appZ shortS copyV buildV partsV fillV srcV fzO okV isCell_c isCell_ptr isCell_sl isCell_fs isCell_fp isCell_clo rowZ_one rowZ_zero rowZ_2 rowZ_3 rowZ_4 rowZ_5 rowZ_6 rowZ_7 rowZ_8 rowZ_9 rowZ_10 rowZ_11 rowZ_12 noHo Value.oneCell' max2V min2V lookV updV updK updW cvals mkAt basV lenM msAt afterH putBack frzFrom frzO rebO backIx nilEq_sl nilEq_fs nilEq_ifn nilEq_ifh ifOp_eql ifOp_neq isLit nilOp_eql nilOp_neq AV.reb AV.rebL
attribute [local simp ↓] runK_skip runK_region runK_draw runK_seq runK_cut runK_cond runK_block runK_loop runK_exit runK_label runK_goto runK_ret runK_range contK_nil contK_seq contK_seq_ret contK_seq_exit contK_seq_goto contK_block contK_block_ret contK_block_goto contK_block_exit runO_nil runO_cons roundK_exit roundK_ret roundK_goto exitK_ret cutK_ret cutK_exit runE_done runE_nil runE_take runE_alt condG_true condG_false
set_option maxRecDepth 10000
def wrK (k : Nat) (b : Bs) : List AObj := [.o .box [.sl k 1 0 b.length b.length], .o (.row 5 1) (u8av b)]
theorem setR_dft {v : ValS} (hv : valOk v = true) : setR [] 0 v = dftR v := by
 unfold setR dftR goS putOk
 by_cases h : v.k = 0 <;> simp [h, hv]
theorem dftR_ok {v : ValS} (hv : valOk v = true) : okR (-1) (dftR v) = true := by
 unfold dftR
 by_cases h : v.k = 0
 ·simp [h, okR]
 ·simp [h, okR, hv]
theorem dftR_len (v : ValS) : (dftR v).length ≤ 1 := by unfold dftR; split <;> simp
theorem dftR_mem {v : ValS} {c : CellS} (hc : c ∈ dftR v) : c = ⟨0, v⟩ := by
 unfold dftR at hc
 split at hc
 ·cases hc
 ·exact List.mem_singleton.1 hc
theorem put_dft (v : ValS) (hv : valOk v = true) (ho : v.Ok) : ACalls Tryz.prog 112 [.fs 5 (dftR v).length (cellsA (dftR v))] [] (fun _ => false) (fun r h' => r = .tup [.fs 1 (rowB (dftR v)).length (u8av (rowB (dftR v))), .c (.int .i64 0)] ∧ h' = []) := by
 have hl := dftR_len v
 have hs := valOk_size hv
 have h := put_row (dftR v) (by omega) (fun c hc => by rw [dftR_mem hc]; exact ⟨cell0_i, ho⟩) (fun c hc => by rw [dftR_mem hc]; show v.t.size ≤ _; omega)
 unfold rowPutA at h
 rw [if_pos (dftR_ok hv)] at h
 exact h
theorem set_dft (v : ValS) (hv : valOk v = true) : ACalls Tryz.prog 113 [.fs 5 0 [], .c (.int .i64 0), .agg (valA v)] [] (fun _ => false) (fun r h' => r = .fs 5 (dftR v).length (cellsA (dftR v)) ∧ h' = []) := by
 have hs := valOk_size hv
 have h := set_row [] (by simp) rfl 0 v (by omega)
 rw [setR_dft hv] at h
 exact h
@[simp] theorem wrO_len (b : Bs) : (wrO b).length = 2 := rfl
theorem flag_w2 (b : Bs) (hb : b.length ≤ 100000000000) (x : Bool) : ACalls Tryz.prog 111 [.ptr 0 0 1, .c (.bool x)] (wrO b) (fun k => decide (k < 2)) (fun r h' => r = .tup [] ∧ h' = wrO (b ++ num (flagI x))) := flag_w b hb x

section
variable {P : Program} {E : Env} {s : AS}
theorem call_hd {g : FuncId} {args : List AV} {K : AV → AS → Prop} (lent : List Nat) (ok : Nat → Bool) {cargs : List AV} {ch : List AObj} {st : Nat → Bool} {r : AV} {h' : List AObj} {pa po : Prop} {cargs' : List AV} {ch' : List AObj} (hc : ACalls P g cargs' ch' st (fun a b => a = r ∧ b = h'))
  (ha : AV.convL lent ok s.h args = some (pa, cargs)) (ho : convOs lent ok s.h lent = some (po, ch)) (hx : cargs = cargs' ∧ ch = ch') (hE : ∀ k ∈ lent, E.ho k = false) (hE2 : ∀ k, ok k = true → E.ho k = false) (hst : ∀ i, i < lent.length → st i = true) (hn : lent.Nodup) (hok : ∀ k ∈ lent, ok k = false) (hp : pa ∧ po) (hl : lent.length ≤ h'.length)
  (hK : K (r.reb (backIx lent s.h.length)) ⟨s.t, afterH lent ok s.h h'⟩) : CallG P E g args s K := by
 obtain ⟨rfl, rfl⟩ := hx
 exact call_of lent ok [] hc ha hp.1 ho hp.2 hn hok (fun i k h => .inl (hst i (List.getElem?_eq_some_iff.1 h).1)) (livL_nil _) (livH_nil _ _ _) (fun k h => by cases h) hE hE2 fun a b ⟨e1, e2⟩ => by subst e1 e2; exact ⟨hl, hK⟩
end

def jobPutA (j : JobS) : AV := if jobOk j = true then .tup [.fs 1 (jobB j).length (u8av (jobB j)), .c (.int .i64 0)] else .tup [.c (.slice none 0 0), .c (.int .i64 2)]

set_option maxHeartbeats 16000000 in
theorem jbPut_w (j : JobS) (hb : JobBig j) (hn : j.name.size ≤ 300) (ho : j.Ok) : ACalls Tryz.prog 60 [.agg (jobA j)] [] (fun _ => false) (fun r h' => r = jobPutA j ∧ h' = []) := by
 refine acallsC [4] mixed Tryz.func60 rfl Tryz.ntmps60 rfl fun E hE hst hho => ?_
 have hR := jbRight_w j hb
 have hreb : ∀ β, AV.rebL β (jobA j) = jobA j := fun β => rebL_isD rfl
 unfold jobPutA
 cases hok : jobOk j with
 | false =>
  rw [hok] at hR
  simp (maxSteps := 1000000) [hho, noHo, jobA, -List.reduceReplicate]
  refine call_0 (hR) rfl rfl hho (by simp) ?_
  simp (maxSteps := 1000000) [hho, noHo, -List.reduceReplicate]
  exact Ret.drop (by rfl) ⟨rfl, rfl⟩
 | true =>
 rw [hok] at hR
 have hlen := jobB_len hok hn ho
 obtain ⟨m1, m2, m3, m4⟩ := jobOk_mem hok
 obtain ⟨i1, i2, i3, i4⟩ := jiOk_mem m3
 obtain ⟨o1, o2, o3, o4, o5, o6, o7, o8, o9, o10⟩ := ho
 obtain ⟨x1, x2, x3, x4⟩ := o6
 simp (maxSteps := 1000000) [hho, noHo, jobA, -List.reduceReplicate]
 refine call_0 (hR) rfl rfl hho (by simp) ?_
 simp (maxSteps := 1000000) [hho, noHo, -List.reduceReplicate]
 refine seq_cut mixed [] (fun _ : Unit => ⟨slotsOf 136 [(1, .ptr 0 0 18), (4, .ptr 1 0 1)], .o .box (jobA j) :: wrK 2 []⟩) (fun _ => True) ?_ ?_
 case refine_2 =>
  simp (maxSteps := 1000000) [hho, noHo, -List.reduceReplicate]
  refine cut_to () trivial ?_
  refine Wk.trans (wk_virtC 1 0 5 1 rfl rfl) ?_
  exact wk_eq (by simp [hE, lens]) (by simp [wrK, jobA]) (by simp [livH, livO, AV.livL, AV.liv, wkL, wkV, List.range', slotsOf])
 intro _ _
 obtain ⟨b0, hb0⟩ : ∃ x : Bs, x = [] := ⟨_, rfl⟩
 have lb0 : b0.length ≤ 0 := by rw [hb0]; exact Nat.le_refl _
 rw [← hb0]
 simp (maxSteps := 1000000) [hho, noHo, wrK, wrO, slotsOf, jobA, -List.reduceReplicate]
 refine call_x [1, 2] (number_w b0 (by omega) (j.id) o1.1 o1.2) rfl rfl ⟨rfl, rfl⟩ hho (by simp) (by decide) (by simp) (by simp) ?_
 obtain ⟨b1, hb1⟩ : ∃ x, x = b0 ++ num j.id := ⟨_, rfl⟩
 have lb1 : b1.length ≤ 9 := by rw [hb1, List.length_append]; have := num_len j.id o1.1 o1.2; omega
 rw [← hb1]
 simp (maxSteps := 1000000) [hho, noHo, wrO, -List.reduceReplicate]
 refine call_x [1, 2] (number_w b1 (by omega) (j.kind) o2.1 o2.2) rfl rfl ⟨rfl, rfl⟩ hho (by simp) (by decide) (by simp) (by simp) ?_
 obtain ⟨b2, hb2⟩ : ∃ x, x = b1 ++ num j.kind := ⟨_, rfl⟩
 have lb2 : b2.length ≤ 18 := by rw [hb2, List.length_append]; have := num_len j.kind o2.1 o2.2; omega
 rw [← hb2]
 simp (maxSteps := 1000000) [hho, noHo, wrO, -List.reduceReplicate]
 refine call_x [1, 2] (number_w b2 (by omega) (j.table) o3.1 o3.2) rfl rfl ⟨rfl, rfl⟩ hho (by simp) (by decide) (by simp) (by simp) ?_
 obtain ⟨b3, hb3⟩ : ∃ x, x = b2 ++ num j.table := ⟨_, rfl⟩
 have lb3 : b3.length ≤ 27 := by rw [hb3, List.length_append]; have := num_len j.table o3.1 o3.2; omega
 rw [← hb3]
 simp (maxSteps := 1000000) [hho, noHo, wrO, -List.reduceReplicate]
 refine call_x [1, 2] (text_w b3 (by omega) j.name (by omega)) rfl rfl ⟨rfl, rfl⟩ hho (by simp) (by decide) (by simp) (by simp) ?_
 obtain ⟨b4, hb4⟩ : ∃ x, x = b3 ++ txt j.name := ⟨_, rfl⟩
 have lb4 : b4.length ≤ 400 := by rw [hb4, List.length_append]; have := txt_len j.name (by omega); omega
 rw [← hb4]
 simp (maxSteps := 1000000) [hho, noHo, wrO, -List.reduceReplicate]
 refine call_x [1, 2] (number_w b4 (by omega) (j.cols.length) (by omega) (by omega)) rfl rfl ⟨rfl, rfl⟩ hho (by simp) (by decide) (by simp) (by simp) ?_
 obtain ⟨b5, hb5⟩ : ∃ x, x = b4 ++ num j.cols.length := ⟨_, rfl⟩
 have lb5 : b5.length ≤ 409 := by rw [hb5, List.length_append]; have := num_len j.cols.length (by omega) (by omega); omega
 rw [← hb5]
 simp (maxSteps := 1000000) [hho, noHo, wrO, -List.reduceReplicate]
 have hfl := fun i => flat_len (f := jcB) (m := 400) (j.cols.take i) fun c hc => jcB_len (m4 c (List.mem_of_mem_take hc)) (o5 c (List.mem_of_mem_take hc))
 refine loop_k mixed (fun i : Nat => ⟨slotsOf 136 [(1, .ptr 0 0 18), (4, .ptr 1 0 1), (38, .fs 10 j.cols.length (colsA j.cols)), (39, .c (.int .i64 j.cols.length)), (40, .c (.int .i64 (i : Nat)))], .o .box (jobA j) :: wrK 2 (b5 ++ (j.cols.take i).flatMap jcB)⟩) (fun i => j.cols.length - i) (fun i => i ≤ j.cols.length) 0 (Nat.zero_le _) ?_ ?_
 ·exact wk_eq (by simp [hE, lens]) (by simp [wrK, jobA]) (by simp [livH, livO, AV.livL, AV.liv, wkL, wkV, List.range', slotsOf])
 ·intro i hi
  by_cases hil : i < j.cols.length
  ·have hat := colsA_at j.cols i hil
   have el : i * 10 + 10 ≤ j.cols.length * 10 := by omega
   have ew : IntKind.i64.wrap ((i : Int) + 1) = (i + 1 : Nat) := by rw [IntWalk.i64_in _ (by omega)]; rfl
   have hsu : (j.cols.take (i + 1)).flatMap jcB = (j.cols.take i).flatMap jcB ++ jcB j.cols[i] := by rw [List.take_succ_eq_append_getElem hil, List.flatMap_append]; simp
   have hfi := hfl i
   rw [List.length_take] at hfi
   have hcm := m4 j.cols[i] (List.getElem_mem hil)
   have hco := o5 j.cols[i] (List.getElem_mem hil)
   obtain ⟨c, hc⟩ : ∃ c, c = j.cols[i] := ⟨_, rfl⟩
   rw [← hc] at hat hsu hcm hco
   obtain ⟨k0, k01, k1, k2⟩ := jcOk_mem hcm
   obtain ⟨p1, p2, p3, p4, p5⟩ := hco
   have hdl := rowB_dft_len c.dft k2 p4
   have c1 := set_dft c.dft k2
   have c2 := put_dft c.dft k2 p4
   obtain ⟨D, hD⟩ : ∃ D, D = rowB (dftR c.dft) := ⟨_, rfl⟩
   rw [← hD] at c2 hdl
   simp only [valA] at c1
   obtain ⟨b6, hb6⟩ : ∃ x, x = b5 ++ (j.cols.take i).flatMap jcB := ⟨_, rfl⟩
   have lb6 : b6.length ≤ 6000 := by rw [hb6, List.length_append]; omega
   rw [← hb6]
   simp (maxSteps := 1000000) [hho, noHo, wrK, wrO, slotsOf, jobA, colA, hil, hat, el, -List.reduceReplicate]
   refine call_x [1, 2] (text_w b6 (by omega) c.name (by omega)) rfl rfl ⟨rfl, rfl⟩ hho (by simp) (by decide) (by simp) (by simp) ?_
   obtain ⟨b7, hb7⟩ : ∃ x, x = b6 ++ txt c.name := ⟨_, rfl⟩
   have lb7 : b7.length ≤ 6100 := by rw [hb7, List.length_append]; have := txt_len c.name (by omega); omega
   rw [← hb7]
   simp (maxSteps := 1000000) [hho, noHo, wrO, -List.reduceReplicate]
   refine call_x [1, 2] (number_w b7 (by omega) (c.ty.k) p3.1.1 p3.1.2) rfl rfl ⟨rfl, rfl⟩ hho (by simp) (by decide) (by simp) (by simp) ?_
   obtain ⟨b8, hb8⟩ : ∃ x, x = b7 ++ num c.ty.k := ⟨_, rfl⟩
   have lb8 : b8.length ≤ 6110 := by rw [hb8, List.length_append]; have := num_len c.ty.k p3.1.1 p3.1.2; omega
   rw [← hb8]
   simp (maxSteps := 1000000) [hho, noHo, wrO, -List.reduceReplicate]
   refine call_x [1, 2] (number_w b8 (by omega) (c.ty.s) p3.2.1 p3.2.2) rfl rfl ⟨rfl, rfl⟩ hho (by simp) (by decide) (by simp) (by simp) ?_
   obtain ⟨b9, hb9⟩ : ∃ x, x = b8 ++ num c.ty.s := ⟨_, rfl⟩
   have lb9 : b9.length ≤ 6120 := by rw [hb9, List.length_append]; have := num_len c.ty.s p3.2.1 p3.2.2; omega
   rw [← hb9]
   simp (maxSteps := 1000000) [hho, noHo, wrO, -List.reduceReplicate]
   refine call_x [1, 2] (flag_w2 b9 (by omega) c.nn) rfl rfl ⟨rfl, rfl⟩ hho (by simp) (by decide) (by simp) (by simp) ?_
   obtain ⟨b10, hb10⟩ : ∃ x, x = b9 ++ num (flagI c.nn) := ⟨_, rfl⟩
   have lb10 : b10.length ≤ 6130 := by rw [hb10, List.length_append]; have := flagI_len c.nn; omega
   rw [← hb10]
   simp (maxSteps := 1000000) [hho, noHo, wrO, -List.reduceReplicate]
   refine callG_nilAt 0 5 rfl ?_
   refine call_0 (c1) rfl rfl hho (by simp) ?_
   simp (maxSteps := 1000000) [hho, noHo, -List.reduceReplicate]
   refine call_0 (c2) rfl rfl hho (by simp) ?_
   simp (maxSteps := 1000000) [hho, noHo, bytesOf_str, -List.reduceReplicate]
   refine call_x [1, 2] (text_w b10 (by omega) (str D) (by rw [str_size]; omega)) rfl rfl ⟨rfl, rfl⟩ hho (by simp) (by decide) (by simp) (by simp) ?_
   obtain ⟨b11, hb11⟩ : ∃ x, x = b10 ++ txt (str D) := ⟨_, rfl⟩
   have lb11 : b11.length ≤ 6500 := by rw [hb11, List.length_append]; have := txt_len (str D) (by rw [str_size]; omega); rw [str_size] at this; omega
   rw [← hb11]
   simp (maxSteps := 1000000) [hho, noHo, wrO, ew, -List.reduceReplicate]
   refine round_next (i + 1) (by omega) (by omega) ?_
   have hbe : b5 ++ (j.cols.take (i + 1)).flatMap jcB = b11 := by rw [hsu, hb11, hb10, hb9, hb8, hb7, hb6, hD]; simp [jcB]
   exact wk_of 3 1 (by simp) (by simp [hE, lens]) (by simp [wrK, jobA, hbe]; rw [← hbe]; simp) (by simp [livH, livO, AV.livL, AV.liv, wkL, wkV, List.range']) (by simp [livH, livO, AV.livL, AV.liv, wkL, wkV, List.range', slotsOf])
  ·obtain rfl : i = j.cols.length := by omega
   rw [List.take_length]
   have hfi := hfl j.cols.length
   rw [List.take_length] at hfi
   obtain ⟨b12, hb12⟩ : ∃ x, x = b5 ++ j.cols.flatMap jcB := ⟨_, rfl⟩
   have lb12 : b12.length ≤ 6000 := by rw [hb12, List.length_append]; omega
   rw [← hb12]
   simp (maxSteps := 1000000) [hho, noHo, wrK, wrO, slotsOf, jobA, -List.reduceReplicate]
   refine call_x [1, 2] (text_w b12 (by omega) j.idx.name (by omega)) rfl rfl ⟨rfl, rfl⟩ hho (by simp) (by decide) (by simp) (by simp) ?_
   obtain ⟨b13, hb13⟩ : ∃ x, x = b12 ++ txt j.idx.name := ⟨_, rfl⟩
   have lb13 : b13.length ≤ 6100 := by rw [hb13, List.length_append]; have := txt_len j.idx.name (by omega); omega
   rw [← hb13]
   simp (maxSteps := 1000000) [hho, noHo, wrO, -List.reduceReplicate]
   refine call_x [1, 2] (number_w b13 (by omega) (j.idx.cols.length) (by omega) (by omega)) rfl rfl ⟨rfl, rfl⟩ hho (by simp) (by decide) (by simp) (by simp) ?_
   obtain ⟨b14, hb14⟩ : ∃ x, x = b13 ++ num j.idx.cols.length := ⟨_, rfl⟩
   have lb14 : b14.length ≤ 6110 := by rw [hb14, List.length_append]; have := num_len j.idx.cols.length (by omega) (by omega); omega
   rw [← hb14]
   simp (maxSteps := 1000000) [hho, noHo, wrO, -List.reduceReplicate]
   have hfm := fun i => flat_len (f := num) (m := 9) (j.idx.cols.take i) fun k hk => num_len k (x3 k (List.mem_of_mem_take hk)).1 (x3 k (List.mem_of_mem_take hk)).2
   refine loop_k mixed (fun i : Nat => ⟨slotsOf 136 [(1, .ptr 0 0 18), (4, .ptr 1 0 1), (87, .fs 1 j.idx.cols.length (intsA j.idx.cols)), (88, .c (.int .i64 j.idx.cols.length)), (89, .c (.int .i64 (i : Nat)))], .o .box (jobA j) :: wrK 2 (b14 ++ (j.idx.cols.take i).flatMap num)⟩) (fun i => j.idx.cols.length - i) (fun i => i ≤ j.idx.cols.length) 0 (Nat.zero_le _) ?_ ?_
   ·exact wk_eq (by simp [hE, lens]) (by simp [wrK, jobA]) (by simp [livH, livO, AV.livL, AV.liv, wkL, wkV, List.range', slotsOf])
   intro i hi
   have hfi := hfm i
   rw [List.length_take] at hfi
   by_cases hil : i < j.idx.cols.length
   ·have hat := intsA_get j.idx.cols i hil
    have ew : IntKind.i64.wrap ((i : Int) + 1) = (i + 1 : Nat) := by rw [IntWalk.i64_in _ (by omega)]; rfl
    have hsu : (j.idx.cols.take (i + 1)).flatMap num = (j.idx.cols.take i).flatMap num ++ num j.idx.cols[i] := by rw [List.take_succ_eq_append_getElem hil, List.flatMap_append]; simp
    have hko := x3 j.idx.cols[i] (List.getElem_mem hil)
    obtain ⟨k, hk⟩ : ∃ k, k = j.idx.cols[i] := ⟨_, rfl⟩
    rw [← hk] at hat hsu hko
    obtain ⟨b15, hb15⟩ : ∃ x, x = b14 ++ (j.idx.cols.take i).flatMap num := ⟨_, rfl⟩
    have lb15 : b15.length ≤ 6200 := by rw [hb15, List.length_append]; omega
    rw [← hb15]
    simp (maxSteps := 1000000) [hho, noHo, wrK, wrO, slotsOf, jobA, hil, hat, -List.reduceReplicate]
    refine ⟨by omega, ?_⟩
    refine call_x [1, 2] (number_w b15 (by omega) (k) hko.1 hko.2) rfl rfl ⟨rfl, rfl⟩ hho (by simp) (by decide) (by simp) (by simp) ?_
    obtain ⟨b16, hb16⟩ : ∃ x, x = b15 ++ num k := ⟨_, rfl⟩
    have lb16 : b16.length ≤ 6210 := by rw [hb16, List.length_append]; have := num_len k hko.1 hko.2; omega
    rw [← hb16]
    simp (maxSteps := 1000000) [hho, noHo, wrO, ew, -List.reduceReplicate]
    refine round_next (i + 1) (by omega) (by omega) ?_
    have hbe : b14 ++ (j.idx.cols.take (i + 1)).flatMap num = b16 := by rw [hsu, hb16, hb15]; simp
    exact wk_of 3 0 (by simp) (by simp [hE, lens]) (by simp [wrK, jobA, hbe]; rw [← hbe]; simp) (by simp [livH, livO, AV.livL, AV.liv, wkL, wkV, List.range']) (by simp [livH, livO, AV.livL, AV.liv, wkL, wkV, List.range', slotsOf])
   obtain rfl : i = j.idx.cols.length := by omega
   rw [List.take_length]
   obtain ⟨b17, hb17⟩ : ∃ x, x = b14 ++ j.idx.cols.flatMap num := ⟨_, rfl⟩
   have lb17 : b17.length ≤ 6200 := by
    have := hfm j.idx.cols.length
    rw [List.take_length] at this
    rw [hb17, List.length_append]; omega
   rw [← hb17]
   simp (maxSteps := 1000000) [hho, noHo, wrK, wrO, slotsOf, jobA, -List.reduceReplicate]
   refine call_x [1, 2] (flag_w2 b17 (by omega) j.idx.uniq) rfl rfl ⟨rfl, rfl⟩ hho (by simp) (by decide) (by simp) (by simp) ?_
   obtain ⟨b18, hb18⟩ : ∃ x, x = b17 ++ num (flagI j.idx.uniq) := ⟨_, rfl⟩
   have lb18 : b18.length ≤ 6210 := by rw [hb18, List.length_append]; have := flagI_len j.idx.uniq; omega
   rw [← hb18]
   simp (maxSteps := 1000000) [hho, noHo, wrO, -List.reduceReplicate]
   refine call_x [1, 2] (number_w b18 (by omega) (j.item) o7.1 o7.2) rfl rfl ⟨rfl, rfl⟩ hho (by simp) (by decide) (by simp) (by simp) ?_
   obtain ⟨b19, hb19⟩ : ∃ x, x = b18 ++ num j.item := ⟨_, rfl⟩
   have lb19 : b19.length ≤ 6220 := by rw [hb19, List.length_append]; have := num_len j.item o7.1 o7.2; omega
   rw [← hb19]
   simp (maxSteps := 1000000) [hho, noHo, wrO, -List.reduceReplicate]
   refine call_x [1, 2] (number_w b19 (by omega) (j.other) o8.1 o8.2) rfl rfl ⟨rfl, rfl⟩ hho (by simp) (by decide) (by simp) (by simp) ?_
   obtain ⟨b20, hb20⟩ : ∃ x, x = b19 ++ num j.other := ⟨_, rfl⟩
   have lb20 : b20.length ≤ 6230 := by rw [hb20, List.length_append]; have := num_len j.other o8.1 o8.2; omega
   rw [← hb20]
   simp (maxSteps := 1000000) [hho, noHo, wrO, -List.reduceReplicate]
   refine call_x [1, 2] (text_w b20 (by omega) j.mark (by omega)) rfl rfl ⟨rfl, rfl⟩ hho (by simp) (by decide) (by simp) (by simp) ?_
   obtain ⟨b21, hb21⟩ : ∃ x, x = b20 ++ txt j.mark := ⟨_, rfl⟩
   have lb21 : b21.length ≤ 7300 := by rw [hb21, List.length_append]; have := txt_len j.mark (by omega); omega
   rw [← hb21]
   simp (maxSteps := 1000000) [hho, noHo, wrO, -List.reduceReplicate]
   refine call_x [1, 2] (flag_w2 b21 (by omega) j.full) rfl rfl ⟨rfl, rfl⟩ hho (by simp) (by decide) (by simp) (by simp) ?_
   obtain ⟨b22, hb22⟩ : ∃ x, x = b21 ++ num (flagI j.full) := ⟨_, rfl⟩
   have lb22 : b22.length ≤ 7310 := by rw [hb22, List.length_append]; have := flagI_len j.full; omega
   rw [← hb22]
   simp (maxSteps := 1000000) [hho, noHo, wrO, -List.reduceReplicate]
   refine call_x [1, 2] (flag_w2 b22 (by omega) j.fence) rfl rfl ⟨rfl, rfl⟩ hho (by simp) (by decide) (by simp) (by simp) ?_
   obtain ⟨b23, hb23⟩ : ∃ x, x = b22 ++ num (flagI j.fence) := ⟨_, rfl⟩
   have lb23 : b23.length ≤ 7320 := by rw [hb23, List.length_append]; have := flagI_len j.fence; omega
   rw [← hb23]
   simp (maxSteps := 1000000) [hho, noHo, wrO, -List.reduceReplicate]
   refine call_x [1, 2] (flag_w2 b23 (by omega) j.back) rfl rfl ⟨rfl, rfl⟩ hho (by simp) (by decide) (by simp) (by simp) ?_
   obtain ⟨b24, hb24⟩ : ∃ x, x = b23 ++ num (flagI j.back) := ⟨_, rfl⟩
   have lb24 : b24.length ≤ 7330 := by rw [hb24, List.length_append]; have := flagI_len j.back; omega
   rw [← hb24]
   simp (maxSteps := 1000000) [hho, noHo, wrO, -List.reduceReplicate]
   refine call_x [1, 2] (number_w b24 (by omega) (j.err) o10.1 o10.2) rfl rfl ⟨rfl, rfl⟩ hho (by simp) (by decide) (by simp) (by simp) ?_
   obtain ⟨b25, hb25⟩ : ∃ x, x = b24 ++ num j.err := ⟨_, rfl⟩
   have lb25 : b25.length ≤ 7340 := by rw [hb25, List.length_append]; have := num_len j.err o10.1 o10.2; omega
   rw [← hb25]
   simp (maxSteps := 1000000) [hho, noHo, wrO, -List.reduceReplicate]
   refine call_x [1, 2] (flag_w2 b25 (by omega) j.fin) rfl rfl ⟨rfl, rfl⟩ hho (by simp) (by decide) (by simp) (by simp) ?_
   obtain ⟨b26, hb26⟩ : ∃ x, x = b25 ++ num (flagI j.fin) := ⟨_, rfl⟩
   have lb26 : b26.length ≤ 7350 := by rw [hb26, List.length_append]; have := flagI_len j.fin; omega
   rw [← hb26]
   simp (maxSteps := 1000000) [hho, noHo, wrO, -List.reduceReplicate]
   have hbe : jobB j = b26 := by
    rw [hb26, hb25, hb24, hb23, hb22, hb21, hb20, hb19, hb18, hb17, hb14, hb13, hb12, hb5, hb4, hb3, hb2, hb1, hb0]
    simp [jobB]
   have hbp : 0 < b26.length := by
    rw [← hbe]; simp [jobB, num]
   rw [hbe]
   refine call_x [1, 2] (bytes_w b26 hbp (by omega)) rfl rfl ⟨rfl, rfl⟩ hho (by simp) (by decide) (by simp) (by simp) ?_
   simp (maxSteps := 1000000) [hho, noHo, wrO, -List.reduceReplicate]
   refine Ret.sel [] (fun k => k == 3) (ho := by rfl) (ha := by rfl) ?_ ?_ (by decide) (by simp) (fun i _ h => by cases h) ⟨?_, rfl⟩
   ·simp
   ·simp
    exact ⟨by unfold maxLen; omega, fun x hx => (u8av_all b26).2 trivial x (List.mem_of_mem_take hx)⟩
   ·simp [List.take_of_length_le]

set_option maxHeartbeats 16000000 in
theorem r16Small_w (j : JobS) (ho : j.Ok) (R : Bool) (hR : R = true ↔ JobFit j) : ACalls Tryz.prog 27 [.agg (jobA j)] [] (fun _ => false) (fun r h' => r = .c (.bool R) ∧ h' = []) := by
 refine acalls mixed Tryz.func27 rfl Tryz.ntmps27 rfl fun E hE hst hho => ?_
 have hF : ¬ JobFit j → R = false := fun h => by
  cases R with
  | false => rfl
  | true => exact absurd (hR.1 rfl) h
 by_cases g0 : 300 < j.name.size
 ·have g0i : (300 : Int) < j.name.size := by omega
  have hRf := hF fun h => by obtain ⟨h0, h1, h2, h3, h4, h5⟩ := h; omega
  simp (maxSteps := 1000000) [hho, noHo, jobA, g0, g0i, undef, onGP_none, condG_false, -List.reduceReplicate]
  exact Ret.drop (by rfl) ⟨by rw [hRf], rfl⟩
 have g0i : ¬ (300 : Int) < j.name.size := by omega
 by_cases g1 : 20 < j.cols.length
 ·have g1i : (20 : Int) < j.cols.length := by omega
  have hRf := hF fun h => by obtain ⟨h0, h1, h2, h3, h4, h5⟩ := h; omega
  simp (maxSteps := 1000000) [hho, noHo, jobA, g0, g0i, g1, g1i, undef, onGP_none, condG_false, -List.reduceReplicate]
  exact Ret.drop (by rfl) ⟨by rw [hRf], rfl⟩
 have g1i : ¬ (20 : Int) < j.cols.length := by omega
 by_cases g2 : 100 < j.idx.name.size
 ·have g2i : (100 : Int) < j.idx.name.size := by omega
  have hRf := hF fun h => by obtain ⟨h0, h1, h2, h3, h4, h5⟩ := h; omega
  simp (maxSteps := 1000000) [hho, noHo, jobA, g0, g0i, g1, g1i, g2, g2i, undef, onGP_none, condG_false, -List.reduceReplicate]
  exact Ret.drop (by rfl) ⟨by rw [hRf], rfl⟩
 have g2i : ¬ (100 : Int) < j.idx.name.size := by omega
 by_cases g3 : 20 < j.idx.cols.length
 ·have g3i : (20 : Int) < j.idx.cols.length := by omega
  have hRf := hF fun h => by obtain ⟨h0, h1, h2, h3, h4, h5⟩ := h; omega
  simp (maxSteps := 1000000) [hho, noHo, jobA, g0, g0i, g1, g1i, g2, g2i, g3, g3i, undef, onGP_none, condG_false, -List.reduceReplicate]
  exact Ret.drop (by rfl) ⟨by rw [hRf], rfl⟩
 have g3i : ¬ (20 : Int) < j.idx.cols.length := by omega
 by_cases g4 : 2000 < j.mark.size
 ·have g4i : (2000 : Int) < j.mark.size := by omega
  have hRf := hF fun h => by obtain ⟨h0, h1, h2, h3, h4, h5⟩ := h; omega
  simp (maxSteps := 1000000) [hho, noHo, jobA, g0, g0i, g1, g1i, g2, g2i, g3, g3i, g4, g4i, undef, onGP_none, condG_false, -List.reduceReplicate]
  exact Ret.drop (by rfl) ⟨by rw [hRf], rfl⟩
 have g4i : ¬ (2000 : Int) < j.mark.size := by omega
 simp (maxSteps := 1000000) [hho, noHo, jobA, g0, g0i, g1, g1i, g2, g2i, g3, g3i, g4, g4i, undef, onGP_none, condG_false, -List.reduceReplicate]
 refine loop_k mixed (fun i : Nat => ⟨slotsOf 54 [(1, .ptr 0 0 18), (36, .fs 10 j.cols.length (colsA j.cols)), (37, .c (.int .i64 j.cols.length)), (38, .c (.int .i64 (i : Nat)))], [.o .box (jobA j)]⟩) (fun i => j.cols.length - i) (fun i => i ≤ j.cols.length ∧ ∀ q (hq : q < j.cols.length), q < i → ColFit j.cols[q]) 0 ⟨Nat.zero_le _, fun q _ h => by omega⟩ ?_ ?_
 ·exact wk_eq (by simp [hE, lens]) (by simp [jobA]) (by simp [livH, livO, AV.livL, AV.liv, wkL, wkV, List.range', slotsOf])
 rintro i ⟨hi, hI⟩
 by_cases hil : i < j.cols.length
 ·have hat := colsA_at j.cols i hil
  have el : i * 10 + 10 ≤ j.cols.length * 10 := by omega
  have ew : IntKind.i64.wrap ((i : Int) + 1) = (i + 1 : Nat) := by rw [IntWalk.i64_in _ (by omega)]; rfl
  have hfail : ¬ ColFit j.cols[i] → R = false := fun h => hF fun hf => h (hf.2.2.2.2.2 _ (List.getElem_mem hil))
  have hgo : ColFit j.cols[i] → ∀ q (hq : q < j.cols.length), q < i + 1 → ColFit j.cols[q] := fun h q hq hqi => by
   by_cases e : q = i
   ·subst e; exact h
   ·exact hI q hq (by omega)
  obtain ⟨c, hc⟩ : ∃ c, c = j.cols[i] := ⟨_, rfl⟩
  rw [← hc] at hat hfail hgo
  by_cases q1 : 100 < c.name.size
  ·have q1i : (100 : Int) < c.name.size := by omega
   have hRf := hfail fun h => by have := h.1; omega
   simp (maxSteps := 1000000) [hho, noHo, slotsOf, jobA, colA, hil, hat, el, q1, q1i, undef, onGP_none, condG_false, -List.reduceReplicate]
   exact Ret.drop (by rfl) ⟨by rw [hRf], rfl⟩
  have q1i : ¬ (100 : Int) < c.name.size := by omega
  by_cases q2 : 300 < c.dft.t.size
  ·have q2i : (300 : Int) < c.dft.t.size := by omega
   have hRf := hfail fun h => by have := h.2; omega
   simp (maxSteps := 1000000) [hho, noHo, slotsOf, jobA, colA, hil, hat, el, q1, q1i, q2, q2i, undef, onGP_none, condG_false, -List.reduceReplicate]
   exact Ret.drop (by rfl) ⟨by rw [hRf], rfl⟩
  have q2i : ¬ (300 : Int) < c.dft.t.size := by omega
  simp (maxSteps := 1000000) [hho, noHo, slotsOf, jobA, colA, hil, hat, el, q1, q1i, q2, q2i, ew, undef, onGP_none, condG_false, -List.reduceReplicate]
  refine round_next (i + 1) ⟨by omega, hgo ⟨by omega, by omega⟩⟩ (by omega) ?_
  exact wk_of 1 1 (by simp) (by simp [hE, lens]) (by simp [jobA]) (by simp [livH, livO, AV.livL, AV.liv, wkL, wkV, List.range']) (by simp [livH, livO, AV.livL, AV.liv, wkL, wkV, List.range', slotsOf])
 obtain rfl : i = j.cols.length := by omega
 have hRt : R = true := hR.2 ⟨by omega, by omega, by omega, by omega, by omega, fun c hc => by
  obtain ⟨q, hq, rfl⟩ := List.getElem_of_mem hc
  exact hI q hq hq⟩
 simp (maxSteps := 1000000) [hho, noHo, slotsOf, jobA, -List.reduceReplicate]
 exact Ret.drop (by rfl) ⟨by rw [hRt], rfl⟩
end Go.Proofs.YthgoocdldnkogaaGreatDoor
