import Derived.Test.YthgoocdldnkogaaGreatDoorHS
import Derived.Test.YthgoocdldnkogaaGreatDoorHV
import Derived.Test.YthgoocdldnkogaaGreatDoorHZ1
namespace Go.Proofs.YthgoocdldnkogaaGreatDoor
set_option linter.unusedVariables false
set_option linter.unusedSimpArgs false
open Go.RowKit Go.ChangeShapes Go.WideShapes Go.ChangeAt
attribute [local simp] isCut_nil isCut_region isCut_seq isCut_block isCut_loop isCut_cond isCut_skip isCut_exit isCut_ret isCut_range swapK putK altK condK_bool pickP_bool stepP stepO onPure_some onPure_none onImpl_some onImpl_none stepC onGP_some onGP_none onGV_some condG mkG onIt_it nextP_ptr takeP_eq takeV_some takeV_none takeU_some takeU_none takeQ takeW_some takeN_none takeN_some takeG_some takeO_some altO_some pureV binV2 eqF eqOp ovlV ovl2 rowAt capV binV intBin strBin isSh shV fldV ixV sliceV slice3V loadAV nilV lenV callV unV convV viewS cellsH loadV fldCut AV.ung AV.ungs AV.gc AV.cells AS.ev AS.put anyS gcsV gcO lens lnO gV guardV retK RetP_eq resV oneV anyRo loIx hiIx implO callP_clo evL gcsL clearV storeAV AS.push AS.setO appV appZ shortS copyV buildV partsV fillV srcV fzO okV isCell_c isCell_ptr isCell_sl isCell_fs isCell_fp isCell_clo rowZ_one rowZ_zero rowZ_2 rowZ_3 rowZ_4 rowZ_5 rowZ_6 rowZ_7 rowZ_8 rowZ_9 rowZ_10 rowZ_11 rowZ_12 noHo Value.oneCell' max2V min2V lookV updV updK updW cvals mkAt basV lenM msAt afterH putBack frzFrom frzO rebO backIx nilEq_sl nilEq_fs nilEq_ifn nilEq_ifh ifOp_eql ifOp_neq isLit nilOp_eql nilOp_neq AV.reb AV.rebL
attribute [local simp ↓] runK_skip runK_region runK_draw runK_seq runK_cut runK_cond runK_block runK_loop runK_exit runK_label runK_goto runK_ret runK_range contK_nil contK_seq contK_seq_ret contK_seq_exit contK_seq_goto contK_block contK_block_ret contK_block_goto contK_block_exit runO_nil runO_cons roundK_exit roundK_ret roundK_goto exitK_ret cutK_ret cutK_exit runE_done runE_nil runE_take runE_alt condG_true condG_false
set_option maxRecDepth 10000
structure JobS where
 id : Int
 kind : Int
 table : Int
 name : ByteArray
 cols : List ColS
 idx : IdxS
 item : Int
 other : Int
 mark : ByteArray
 full : Bool
 fence : Bool
 back : Bool
 err : Int
 fin : Bool
def jobA (j : JobS) : List AV := [.c (.int .i64 j.id), .c (.int .i64 j.kind), .c (.int .i64 j.table), .c (.string j.name), .fs 10 j.cols.length (colsA j.cols), .c (.int .i64 j.idx.id), .c (.string j.idx.name), .fs 1 j.idx.cols.length (intsA j.idx.cols), .c (.bool j.idx.uniq), .c (.int .i64 j.idx.st), .c (.int .i64 j.item), .c (.int .i64 j.other), .c (.string j.mark), .c (.bool j.full), .c (.bool j.fence), .c (.bool j.back), .c (.int .i64 j.err), .c (.bool j.fin)]
def JobS.Ok (j : JobS) : Prop := i64v j.id ∧ i64v j.kind ∧ i64v j.table ∧ j.name.size ≤ maxLen ∧ (∀ c ∈ j.cols, c.Ok) ∧ j.idx.Ok ∧ i64v j.item ∧ i64v j.other ∧ j.mark.size ≤ maxLen ∧ i64v j.err
def jcOk (c : ColS) : Bool := decide (c.id = 0) && decide (c.st = 0) && nameOk c.name && ofOk c.dft c.ty
def jiOk (x : IdxS) : Bool := decide (x.id = 0) && decide (x.st = 0) && decide (x.cols.length ≤ 4) && (if x.name.size = 0 then decide (x.cols.length = 0) && !x.uniq else nameOk x.name)
def jobOk (j : JobS) : Bool := decide (0 ≤ j.kind) && decide (j.kind ≤ 5) && decide (0 ≤ j.id) && decide (-1 ≤ j.table) && decide (-1 ≤ j.item) && decide (-1 ≤ j.other) && decide (j.mark.size ≤ 1000) && decide (j.cols.length ≤ 12) && jiOk j.idx && j.cols.all jcOk
def jcB (c : ColS) : Bs := txt c.name ++ (num c.ty.k ++ (num c.ty.s ++ (num (flagI c.nn) ++ txt (str (rowB (dftR c.dft))))))
def jobB (j : JobS) : Bs := num j.id ++ (num j.kind ++ (num j.table ++ (txt j.name ++ (num j.cols.length ++ j.cols.flatMap jcB ++ (txt j.idx.name ++ (num j.idx.cols.length ++ j.idx.cols.flatMap num ++ (num (flagI j.idx.uniq) ++ (num j.item ++ (num j.other ++ (txt j.mark ++ (num (flagI j.full) ++ (num (flagI j.fence) ++ (num (flagI j.back) ++ (num j.err ++ num (flagI j.fin)))))))))))))))
def JobFit (j : JobS) : Prop := j.name.size ≤ 300 ∧ j.cols.length ≤ 20 ∧ j.idx.name.size ≤ 100 ∧ j.idx.cols.length ≤ 20 ∧ j.mark.size ≤ 2000 ∧ ∀ c ∈ j.cols, ColFit c
def sJC : Bs → Option (ColS × Bs) := bd sText fun name => bd sNum fun k => bd sNum fun sc => bd sFlag fun nn => bd sDft fun d => rt ⟨0, name, ⟨k, sc⟩, nn, d, 0⟩
def finJ (j : JobS) : Bs → Option JobS := fun r => if r = [] ∧ jobOk j = true then some j else none
def sJob3 (id kind table : Int) (name : ByteArray) (cols : List ColS) (iname : ByteArray) (icols : List Int) : Bs → Option JobS := bd sFlag fun u => bd sNum fun item => bd sNum fun other => bd sText fun mark => bd sFlag fun full => bd sFlag fun fence => bd sFlag fun back => bd sNum fun err => bd sFlag fun fin => finJ ⟨id, kind, table, name, cols, ⟨0, iname, icols, u, 0⟩, item, other, mark, full, fence, back, err, fin⟩
def sJob2 (id kind table : Int) (name : ByteArray) (cols : List ColS) : Bs → Option JobS := bd sText fun iname => bd (sMany 4 sNum) fun icols => sJob3 id kind table name cols iname icols
def parJob : Bs → Option JobS := bd sNum fun id => bd sNum fun kind => bd sNum fun table => bd sText fun name => bd (sMany 12 sJC) fun cols => sJob2 id kind table name cols
def pJC : PSt → ColS × PSt := sq pText fun name => sq pNum fun k => sq pNum fun sc => sq pFlag fun nn => sq pDft fun d => un ⟨0, name, ⟨k, sc⟩, nn, d, 0⟩
theorem pJC_sim (m : Nat) : Sim (pSys m) (ColM m) pJC sJC := (pText_sim m).bind fun name h1 => (pNum_sim m).bind fun k _ => (pNum_sim m).bind fun sc _ => (pFlag_sim m).bind fun nn _ => (pDft_sim m).bind fun d h2 => Sim.pure _ ⟨h1, h2⟩
theorem jcOk_mem {c : ColS} (h : jcOk c = true) : c.id = 0 ∧ c.st = 0 ∧ c.name.size ≤ 24 ∧ valOk c.dft = true := by
 unfold jcOk at h
 simp only [Bool.and_eq_true, decide_eq_true_eq] at h
 exact ⟨h.1.1.1, h.1.1.2, nameOk_size h.1.2, ofOk_val h.2⟩
theorem jiOk_mem {x : IdxS} (h : jiOk x = true) : x.id = 0 ∧ x.st = 0 ∧ x.cols.length ≤ 4 ∧ x.name.size ≤ 24 := by
 unfold jiOk at h
 simp only [Bool.and_eq_true, decide_eq_true_eq] at h
 refine ⟨h.1.1.1, h.1.1.2, h.1.2, ?_⟩
 have h2 := h.2
 split at h2
 ·omega
 ·exact nameOk_size h2
theorem jobOk_mem {j : JobS} (h : jobOk j = true) : j.mark.size ≤ 1000 ∧ j.cols.length ≤ 12 ∧ jiOk j.idx = true ∧ ∀ c ∈ j.cols, jcOk c = true := by
 unfold jobOk at h
 simp only [Bool.and_eq_true, decide_eq_true_eq, List.all_eq_true] at h
 exact ⟨h.1.1.1.2, h.1.1.2, h.1.2, h.2⟩
theorem sJC_jcB {c : ColS} (hc : jcOk c = true) (ho : c.Ok) (r : Bs) : sJC (jcB c ++ r) = some (c, r) := by
 obtain ⟨h0, h01, h1, h2⟩ := jcOk_mem hc
 obtain ⟨o1, o2, o3, o4, o5⟩ := ho
 have hb := rowB_dft_len c.dft h2 o4
 have hi := cellI0 o4
 have e2 := fun r => sText_txt c.name (by omega) r
 have e3 := fun r => sNum_num c.ty.k o3.1.1 o3.1.2 r
 have e4 := fun r => sNum_num c.ty.s o3.2.1 o3.2.2 r
 have e5 := fun r => sFlag_flagI c.nn r
 have e6 := fun r => sDft_put c.dft h2 hi r (by omega)
 simp only [jcB, sJC, bd, List.append_assoc, e2, e3, e4, e5, e6, Option.bind_some, rt]
 obtain ⟨id, name, ty, nn, dft, st⟩ := c
 simp only at h0 h01
 rw [h0, h01]
theorem parJob_put {j : JobS} (hj : jobOk j = true) (hf : j.name.size ≤ 300) (ho : j.Ok) : parJob (jobB j) = some j := by
 obtain ⟨h1, h2, h3, h4⟩ := jobOk_mem hj
 obtain ⟨i1, i2, i3, i4⟩ := jiOk_mem h3
 obtain ⟨o1, o2, o3, o4, o5, o6, o7, o8, o9, o10⟩ := ho
 obtain ⟨x1, x2, x3, x4⟩ := o6
 have e1 := fun r => sNum_num j.id o1.1 o1.2 r
 have e2 := fun r => sNum_num j.kind o2.1 o2.2 r
 have e3 := fun r => sNum_num j.table o3.1 o3.2 r
 have e4 := fun r => sText_txt j.name (by omega) r
 have e5 := fun r => sMany_map (g := sJC) (enc := jcB) 12 j.cols (by omega) (by omega) r fun c hc r => sJC_jcB (h4 c hc) (o5 c hc) r
 have e6 := fun r => sText_txt j.idx.name (by omega) r
 have e7 := fun r => sMany_map (g := sNum) (enc := num) 4 j.idx.cols (by omega) (by omega) r fun k hk r => sNum_num k (x3 k hk).1 (x3 k hk).2 r
 have e8 := fun r => sFlag_flagI j.idx.uniq r
 have e9 := fun r => sNum_num j.item o7.1 o7.2 r
 have e10 := fun r => sNum_num j.other o8.1 o8.2 r
 have e11 := fun r => sText_txt j.mark (by omega) r
 have e12 := fun r => sFlag_flagI j.full r
 have e13 := fun r => sFlag_flagI j.fence r
 have e14 := fun r => sFlag_flagI j.back r
 have e15 := fun r => sNum_num j.err o10.1 o10.2 r
 have e16 := sFlag_flagI j.fin []
 rw [List.append_nil] at e16
 simp only [List.append_assoc] at e5 e7
 simp only [jobB, parJob, sJob2, sJob3, bd, List.append_assoc, e1, e2, e3, e4, e5, e6, e7, e8, e9, e10, e11, e12, e13, e14, e15, e16, Option.bind_some, finJ]
 obtain ⟨id, kind, table, name, cols, ⟨xid, xname, xcols, xu, xst⟩, item, other, mark, full, fence, back, err, fin⟩ := j
 simp only at i1 i2
 subst i1 i2
 simp only [true_and]
 rw [if_pos hj]
theorem jcB_len {c : ColS} (hc : jcOk c = true) (ho : c.Ok) : (jcB c).length ≤ 400 := by
 obtain ⟨h0, h01, h1, h2⟩ := jcOk_mem hc
 obtain ⟨o1, o2, o3, o4, o5⟩ := ho
 have hb := rowB_dft_len c.dft h2 o4
 have e2 := txt_len c.name (by omega)
 have e3 := num_len c.ty.k o3.1.1 o3.1.2
 have e4 := num_len c.ty.s o3.2.1 o3.2.2
 have e5 := num_len (flagI c.nn) (by unfold flagI; split <;> omega) (by unfold flagI; split <;> omega)
 have e6 := txt_len (str (rowB (dftR c.dft))) (by rw [str_size]; omega)
 rw [str_size] at e6
 simp only [jcB, List.length_append]
 omega
theorem flagI_len (x : Bool) : (num (flagI x)).length ≤ 9 := num_len (flagI x) (by unfold flagI; split <;> omega) (by unfold flagI; split <;> omega)
set_option maxHeartbeats 4000000 in
theorem jobB_len {j : JobS} (hj : jobOk j = true) (hf : j.name.size ≤ 300) (ho : j.Ok) : (jobB j).length ≤ 10000 := by
 obtain ⟨h1, h2, h3, h4⟩ := jobOk_mem hj
 obtain ⟨i1, i2, i3, i4⟩ := jiOk_mem h3
 obtain ⟨o1, o2, o3, o4, o5, o6, o7, o8, o9, o10⟩ := ho
 obtain ⟨x1, x2, x3, x4⟩ := o6
 have e1 := num_len j.id o1.1 o1.2
 have e2 := num_len j.kind o2.1 o2.2
 have e3 := num_len j.table o3.1 o3.2
 have e4 := txt_len j.name (by omega)
 have e5 := flat_len (f := jcB) (m := 400) j.cols fun c hc => jcB_len (h4 c hc) (o5 c hc)
 have e50 := num_len j.cols.length (by omega) (by omega)
 have e6 := txt_len j.idx.name (by omega)
 have e7 := flat_len (f := num) (m := 9) j.idx.cols fun k hk => num_len k (x3 k hk).1 (x3 k hk).2
 have e70 := num_len j.idx.cols.length (by omega) (by omega)
 have e8 := flagI_len j.idx.uniq
 have e9 := num_len j.item o7.1 o7.2
 have e10 := num_len j.other o8.1 o8.2
 have e11 := txt_len j.mark (by omega)
 have e12 := flagI_len j.full
 have e13 := flagI_len j.fence
 have e14 := flagI_len j.back
 have e15 := num_len j.err o10.1 o10.2
 have e16 := flagI_len j.fin
 simp only [jobB, List.length_append]
 omega
def opnJobKind : Opn Tryz.prog 61 Int := opnInt .i64 Tryz.underlying61 (by kernel_rfl)
def opnErrno : Opn Tryz.prog 31 Int := opnInt .i64 Tryz.underlying31 (by kernel_rfl)
set_option maxHeartbeats 4000000 in
def opnJob : Opn Tryz.prog 63 JobS :=
 (opnStruct Tryz.underlying63 rfl (opnCons 1 opnI (by kernel_rfl) rfl (opnCons 1 opnJobKind (by kernel_rfl) rfl (opnCons 1 opnI (by kernel_rfl) rfl (opnCons 1 opnStr (by kernel_rfl) rfl (opnCons 1 opnCols (by kernel_rfl) rfl (opnCons 5 opnIdx (by kernel_rfl) rfl (opnCons 1 opnI (by kernel_rfl) rfl (opnCons 1 opnI (by kernel_rfl) rfl (opnCons 1 opnStr (by kernel_rfl) rfl (opnCons 1 opnBo (by kernel_rfl) rfl (opnCons 1 opnBo (by kernel_rfl) rfl (opnCons 1 opnBo (by kernel_rfl) rfl (opnCons 1 opnErrno (by kernel_rfl) rfl (opnCons 1 opnBo (by kernel_rfl) rfl (opnNil 18))))))))))))))) (by kernel_rfl)).map
  (fun x : Int × Int × Int × ByteArray × List ColS × IdxS × Int × Int × ByteArray × Bool × Bool × Bool × Int × Bool × Unit => (⟨x.1, x.2.1, x.2.2.1, x.2.2.2.1, x.2.2.2.2.1, x.2.2.2.2.2.1, x.2.2.2.2.2.2.1, x.2.2.2.2.2.2.2.1, x.2.2.2.2.2.2.2.2.1, x.2.2.2.2.2.2.2.2.2.1, x.2.2.2.2.2.2.2.2.2.2.1, x.2.2.2.2.2.2.2.2.2.2.2.1, x.2.2.2.2.2.2.2.2.2.2.2.2.1, x.2.2.2.2.2.2.2.2.2.2.2.2.2.1⟩ : JobS)) jobA JobS.Ok (fun _ => rfl)
  (fun x h => ⟨bounds_i64 h.1, bounds_i64 h.2.1, bounds_i64 h.2.2.1, h.2.2.2.1, h.2.2.2.2.1, h.2.2.2.2.2.1, bounds_i64 h.2.2.2.2.2.2.1, bounds_i64 h.2.2.2.2.2.2.2.1, h.2.2.2.2.2.2.2.2.1, bounds_i64 h.2.2.2.2.2.2.2.2.2.2.2.2.1⟩) fun _ => by kernel_rfl
end Go.Proofs.YthgoocdldnkogaaGreatDoor
namespace Go.Proofs.YthgoocdldnkogaaGreatDoor
set_option linter.unusedVariables false
set_option linter.unusedSimpArgs false
open Go.RowKit
attribute [local simp] isCut_nil isCut_region isCut_seq isCut_block isCut_loop isCut_cond isCut_skip isCut_exit isCut_ret isCut_range swapK putK altK condK_bool pickP_bool stepP stepO onPure_some onPure_none onImpl_some onImpl_none stepC onGP_some onGP_none onGV_some condG mkG onIt_it nextP_ptr takeP_eq takeV_some takeV_none takeU_some takeU_none takeQ takeW_some takeN_none takeN_some takeG_some takeO_some altO_some pureV binV2 eqF eqOp ovlV ovl2 rowAt capV binV intBin strBin isSh shV fldV ixV sliceV slice3V loadAV nilV lenV callV unV convV viewS cellsH loadV fldCut AV.ung AV.ungs AV.gc AV.cells AS.ev AS.put anyS gcsV gcO lens lnO gV guardV retK RetP_eq resV oneV anyRo loIx hiIx implO callP_clo evL gcsL clearV storeAV AS.push AS.setO appV appZ shortS copyV buildV partsV fillV srcV fzO okV isCell_c isCell_ptr isCell_sl isCell_fs isCell_fp isCell_clo rowZ_one rowZ_zero rowZ_2 rowZ_3 rowZ_4 rowZ_5 rowZ_6 rowZ_7 rowZ_8 rowZ_9 rowZ_10 rowZ_11 rowZ_12 noHo Value.oneCell' max2V min2V lookV updV updK updW cvals mkAt basV lenM msAt afterH putBack frzFrom frzO rebO backIx nilEq_sl nilEq_fs nilEq_ifn nilEq_ifh ifOp_eql ifOp_neq isLit nilOp_eql nilOp_neq AV.reb AV.rebL
attribute [local simp ↓] runK_skip runK_region runK_draw runK_seq runK_cut runK_cond runK_block runK_loop runK_exit runK_label runK_goto runK_ret runK_range contK_nil contK_seq contK_seq_ret contK_seq_exit contK_seq_goto contK_block contK_block_ret contK_block_goto contK_block_exit runO_nil runO_cons roundK_exit roundK_ret roundK_goto exitK_ret cutK_ret cutK_exit runE_done runE_nil runE_take runE_alt condG_true condG_false
set_option maxRecDepth 10000
theorem if_col (l : List ColS) (p : ColS → Bool) (g : FuncId) (hg : callable Tryz.prog g = true) (hl : l.length ≤ 1000000) (hc : ∀ x ∈ l, ACalls Tryz.prog g [.agg (colA x)] [] (fun _ => false) (fun r h' => r = .c (.bool (p x)) ∧ h' = [])) : ACalls Tryz.prog 105 [.fs 10 l.length (colsA l), .clo (.func g) [] []] [] (fun _ => false) (fun r h' => r = .c (.int .i64 (ixF p l)) ∧ h' = []) := by
 refine acalls mixed Tryz.func105 rfl Tryz.ntmps105 rfl fun E hE hst hho => ?_
 simp (maxSteps := 1000000) [hho, noHo, -List.reduceReplicate]
 refine loop_k mixed (fun j : Nat => ⟨slotsOf 19 [(0, .fs 10 l.length (colsA l)), (1, .clo (.func g) [] []), (7, .c (.int .i64 l.length)), (8, .c (.int .i64 (j : Nat)))], []⟩) (fun j => l.length - j) (fun j => j ≤ l.length ∧ ∀ k (hk : k < l.length), k < j → p l[k] = false) 0 ⟨Nat.zero_le _, fun k _ h => by omega⟩ ?_ ?_
 ·exact wk_eq (by simp [hE, lens]) (by simp) (by simp [livH, livO, AV.livL, AV.liv, wkL, wkV, List.range', slotsOf])
 ·rintro j ⟨hj, hI⟩
  by_cases hjl : j < l.length
  ·have hat := colsA_at l j hjl
   have ew : IntKind.i64.wrap ((j : Int) + 1) = (j + 1 : Nat) := by rw [IntWalk.i64_in _ (by omega)]; rfl
   have e0 : j * 10 + 10 ≤ l.length * 10 := by omega
   have hx := hc l[j] (List.getElem_mem hjl)
   have hp0 := @ixF_hit _ p l j hjl hI
   have hI1 : p l[j] = false → ∀ k (hk : k < l.length), k < j + 1 → p l[k] = false := fun h k hk hkj => by
    by_cases e : k = j
    ·subst e; exact h
    ·exact hI k hk (by omega)
   obtain ⟨x, hxe⟩ : ∃ x, x = l[j] := ⟨_, rfl⟩
   rw [← hxe] at hat hx hp0 hI1
   cases hp : p x with
   | true =>
    rw [hp] at hx
    simp (maxSteps := 1000000) [hho, noHo, slotsOf, hjl, hat, e0, hg, -List.reduceReplicate]
    refine call_0 (hx) rfl rfl hho (by simp) ?_
    simp (maxSteps := 1000000) [hho, noHo, ew, -List.reduceReplicate]
    exact Ret.drop (by rfl) ⟨by rw [hp0 hp], rfl⟩
   | false =>
    rw [hp] at hx
    simp (maxSteps := 1000000) [hho, noHo, slotsOf, hjl, hat, e0, hg, -List.reduceReplicate]
    refine call_0 (hx) rfl rfl hho (by simp) ?_
    simp (maxSteps := 1000000) [hho, noHo, ew, -List.reduceReplicate]
    refine round_next (j + 1) ⟨by omega, hI1 hp⟩ (by omega) ?_
    exact wk_eq (by simp [hE, lens]) (by simp) (by simp [livH, livO, AV.livL, AV.liv, wkL, wkV, List.range', slotsOf])
  ·obtain rfl : j = l.length := by omega
   simp (maxSteps := 1000000) [hho, noHo, slotsOf, -List.reduceReplicate]
   exact Ret.drop (by rfl) ⟨by rw [ixF_none fun k hk => hI k hk hk], rfl⟩
theorem cf_col (l : List ColS) (p : ColS → Bool) (g : FuncId) (hg : callable Tryz.prog g = true) (hl : l.length ≤ 1000000) (hc : ∀ x ∈ l, ACalls Tryz.prog g [.agg (colA x)] [] (fun _ => false) (fun r h' => r = .c (.bool (p x)) ∧ h' = [])) : ACalls Tryz.prog 156 [.fs 10 l.length (colsA l), .clo (.func g) [] []] [] (fun _ => false) (fun r h' => r = .c (.bool (l.any p)) ∧ h' = []) := by
 refine acalls mixed Tryz.func156 rfl Tryz.ntmps156 rfl fun E hE hst hho => ?_
 simp (maxSteps := 1000000) [hho, noHo, -List.reduceReplicate]
 refine call_0 (if_col l p g hg hl hc) rfl rfl hho (by simp) ?_
 simp (maxSteps := 1000000) [hho, noHo, ixF_any, -List.reduceReplicate]
 exact Ret.drop (by rfl) ⟨rfl, rfl⟩
set_option maxHeartbeats 4000000 in
theorem jbcolumn_w (c : ColS) (hn : c.name.size ≤ 9000000000000000000) (hv : c.dft.t.size ≤ 9000000000000000000) : ACalls Tryz.prog 158 [.agg (colA c)] [] (fun _ => false) (fun r h' => r = .c (.bool (jcOk c)) ∧ h' = []) := by
 refine acalls mixed Tryz.func158 rfl Tryz.ntmps158 rfl fun E hE hst hho => ?_
 have c1 := name_sch c.name hn
 have c2 := type_right c.ty
 have c3 := val_of c.dft c.ty hv
 unfold jcOk
 simp only [typA, valA] at c2 c3
 by_cases g1 : c.id = 0
 case neg =>
  simp (maxSteps := 1000000) [hho, noHo, colA, g1, undef, onGP_none, condG_false, -List.reduceReplicate]
  exact Ret.drop (by rfl) ⟨by simp [g1], rfl⟩
 by_cases g2 : c.st = 0
 case neg =>
  simp (maxSteps := 1000000) [hho, noHo, colA, g1, g2, undef, onGP_none, condG_false, -List.reduceReplicate]
  exact Ret.drop (by rfl) ⟨by simp [g2], rfl⟩
 simp (maxSteps := 1000000) [hho, noHo, colA, g1, g2, -List.reduceReplicate]
 refine call_0 (c1) rfl rfl hho (by simp) ?_
 cases hN : nameOk c.name with
 | false =>
  simp (maxSteps := 1000000) [hho, noHo, undef, onGP_none, condG_false, -List.reduceReplicate]
  exact Ret.drop (by rfl) ⟨by simp, rfl⟩
 | true =>
 simp (maxSteps := 1000000) [hho, noHo, undef, onGP_none, condG_false, -List.reduceReplicate]
 refine call_0 (c2) rfl rfl hho (by simp) ?_
 cases hT : typOk c.ty with
 | false =>
  have hO : ofOk c.dft c.ty = false := by unfold ofOk; simp [hT]
  simp (maxSteps := 1000000) [hho, noHo, undef, onGP_none, condG_false, -List.reduceReplicate]
  exact Ret.drop (by rfl) ⟨by simp [hO], rfl⟩
 | true =>
 simp (maxSteps := 1000000) [hho, noHo, undef, onGP_none, condG_false, -List.reduceReplicate]
 refine call_0 (c3) rfl rfl hho (by simp) ?_
 simp (maxSteps := 1000000) [hho, noHo, undef, onGP_none, condG_false, -List.reduceReplicate]
 exact Ret.drop (by rfl) ⟨by simp, rfl⟩
theorem bare_len {s : ByteArray} (h : s.size = 0) : s = ByteArray.empty := by
 obtain ⟨⟨l⟩⟩ := s
 have : l = [] := List.eq_nil_of_length_eq_zero h
 subst this; rfl
set_option maxHeartbeats 4000000 in
theorem jbindex_w (x : IdxS) (hn : x.name.size ≤ 9000000000000000000) (hl : x.cols.length ≤ 1000000) : ACalls Tryz.prog 155 [.agg (idxA x)] [] (fun _ => false) (fun r h' => r = .c (.bool (jiOk x)) ∧ h' = []) := by
 refine acalls mixed Tryz.func155 rfl Tryz.ntmps155 rfl fun E hE hst hho => ?_
 have c1 := name_sch x.name hn
 have hem : ∀ s : ByteArray, s.size = 0 ↔ s = ByteArray.empty := fun s => ⟨bare_len, fun h => by rw [h]; rfl⟩
 have em0 : ((ByteArray.empty : ByteArray) = { data := #[] }) = True := eq_true rfl
 by_cases g0 : x.name.size = 0
 ·have g0' := (hem x.name).1 g0
  have hN : nameOk x.name = false := by unfold nameOk; simp [g0]
  rw [hN] at c1
  rw [g0'] at c1
  have hji : jiOk x = (decide (x.id = 0) && decide (x.st = 0) && decide (x.cols.length ≤ 4) && (decide (x.cols.length = 0) && !x.uniq)) := by unfold jiOk; rw [if_pos g0]
  rw [hji]
  by_cases g3 : x.cols.length = 0
  ·have g3n : x.cols = [] := List.eq_nil_of_length_eq_zero g3
   have g4 : ¬ (4 : Int) < 0 := by omega
   cases hu : x.uniq <;> by_cases g1 : x.id = 0 <;> by_cases g2 : x.st = 0
   all_goals
    simp (maxSteps := 1000000) [hho, noHo, idxA, em0, g0', g1, g2, g3, g3n, hu, undef, onGP_none, condG_false, -List.reduceReplicate]
    first
    | exact Ret.drop (by rfl) ⟨by simp [g1, g2, g3, g3n, hu], rfl⟩
    | (refine call_x [] c1 rfl rfl ⟨rfl, rfl⟩ hho (by simp) (by decide) (by simp) (by simp) ?_
       simp (maxSteps := 1000000) [hho, noHo, undef, onGP_none, condG_false, -List.reduceReplicate]
       exact Ret.drop (by rfl) ⟨by simp [g1, g2, g3, g3n, hu], rfl⟩)
  ·have g3i : ¬ (x.cols.length : Int) = 0 := by omega
   have g3n : ¬ x.cols = [] := fun h => g3 (by rw [h]; rfl)
   by_cases g4 : x.cols.length ≤ 4
   ·have g4i : (x.cols.length : Int) ≤ 4 := by omega
    by_cases g1 : x.id = 0 <;> by_cases g2 : x.st = 0
    all_goals
     simp (maxSteps := 1000000) [hho, noHo, idxA, em0, g0', g1, g2, g3, g3i, g3n, g4, g4i, undef, onGP_none, condG_false, -List.reduceReplicate]
     first
     | exact Ret.drop (by rfl) ⟨by simp [g1, g2, g3, g3n], rfl⟩
     | (refine call_x [] c1 rfl rfl ⟨rfl, rfl⟩ hho (by simp) (by decide) (by simp) (by simp) ?_
        simp (maxSteps := 1000000) [hho, noHo, undef, onGP_none, condG_false, -List.reduceReplicate]
        exact Ret.drop (by rfl) ⟨by simp [g1, g2, g3, g3n], rfl⟩)
   ·have g4i : ¬ (x.cols.length : Int) ≤ 4 := by omega
    by_cases g1 : x.id = 0 <;> by_cases g2 : x.st = 0
    all_goals
     simp (maxSteps := 1000000) [hho, noHo, idxA, em0, g0', g1, g2, g3, g3i, g3n, g4, g4i, undef, onGP_none, condG_false, -List.reduceReplicate]
     exact Ret.drop (by rfl) ⟨by simp [g1, g2, g3, g3n, g4], rfl⟩
 ·have g0' : ¬ x.name = ByteArray.empty := fun h => g0 ((hem _).2 h)
  have g0'' : ¬ x.name = { data := #[] } := g0'
  have hji : jiOk x = (decide (x.id = 0) && decide (x.st = 0) && decide (x.cols.length ≤ 4) && nameOk x.name) := by unfold jiOk; rw [if_neg g0]
  rw [hji]
  by_cases g4 : x.cols.length ≤ 4
  ·have g4i : (x.cols.length : Int) ≤ 4 := by omega
   by_cases g1 : x.id = 0 <;> by_cases g2 : x.st = 0
   all_goals
    simp (maxSteps := 1000000) [hho, noHo, idxA, g0', g0'', g1, g2, g4, g4i, undef, onGP_none, condG_false, -List.reduceReplicate]
    first
    | exact Ret.drop (by rfl) ⟨by simp [g1, g2], rfl⟩
    | (refine call_x [] c1 rfl rfl ⟨rfl, rfl⟩ hho (by simp) (by decide) (by simp) (by simp) ?_
       simp (maxSteps := 1000000) [hho, noHo, undef, onGP_none, condG_false, -List.reduceReplicate]
       exact Ret.drop (by rfl) ⟨by simp [g1, g2, g4], rfl⟩)
  ·have g4i : ¬ (x.cols.length : Int) ≤ 4 := by omega
   by_cases g1 : x.id = 0 <;> by_cases g2 : x.st = 0
   all_goals
    simp (maxSteps := 1000000) [hho, noHo, idxA, g0', g0'', g1, g2, g4, g4i, undef, onGP_none, condG_false, -List.reduceReplicate]
    exact Ret.drop (by rfl) ⟨by simp [g1, g2, g4], rfl⟩
theorem jbRight_1_w (c : ColS) (hn : c.name.size ≤ 9000000000000000000) (hv : c.dft.t.size ≤ 9000000000000000000) : ACalls Tryz.prog 157 [.agg (colA c)] [] (fun _ => false) (fun r h' => r = .c (.bool (!jcOk c)) ∧ h' = []) := by
 refine acalls mixed Tryz.func157 rfl Tryz.ntmps157 rfl fun E hE hst hho => ?_
 have c1 := jbcolumn_w c hn hv
 simp (maxSteps := 1000000) [hho, noHo, colA, -List.reduceReplicate]
 refine call_0 (c1) rfl rfl hho (by simp) ?_
 simp (maxSteps := 1000000) [hho, noHo, -List.reduceReplicate]
 exact Ret.drop (by rfl) ⟨rfl, rfl⟩
structure JobBig (j : JobS) : Prop where
 nm : j.idx.name.size ≤ 9000000000000000000
 cl : j.cols.length ≤ 1000000
 xl : j.idx.cols.length ≤ 1000000
 mrk : j.mark.size ≤ 9000000000000000000
 cn : ∀ c ∈ j.cols, c.name.size ≤ 9000000000000000000 ∧ c.dft.t.size ≤ 9000000000000000000

theorem min3 (a b c : Int) : (a < -1 ∨ b < -1 ∨ c < -1) ↔ ¬ (-1 ≤ a ∧ -1 ≤ b ∧ -1 ≤ c) := by omega
set_option maxHeartbeats 4000000 in
theorem jbRight_w (j : JobS) (hb : JobBig j) : ACalls Tryz.prog 110 [.agg (jobA j)] [] (fun _ => false) (fun r h' => r = .c (.bool (jobOk j)) ∧ h' = []) := by
 refine acalls mixed Tryz.func110 rfl Tryz.ntmps110 rfl fun E hE hst hho => ?_
 have c1 := jbindex_w j.idx hb.nm hb.xl
 have c2 := cf_col j.cols (fun c => !jcOk c) 157 (by simp) hb.cl fun x hx => jbRight_1_w x (hb.cn x hx).1 (hb.cn x hx).2
 have e2 : (!j.cols.any fun c => !jcOk c) = j.cols.all jcOk := by rw [List.not_any_eq_all_not]; simp
 have hmk := hb.mrk
 simp only [idxA] at c1
 unfold jobOk
 by_cases g1 : j.kind < 0
 ·simp (maxSteps := 1000000) [hho, noHo, jobA, foldV, g1, undef, onGP_none, condG_false, -List.reduceReplicate]
  exact Ret.drop (by rfl) ⟨by rw [decide_eq_false (by omega : ¬ 0 ≤ j.kind)]; simp, rfl⟩
 by_cases g2 : 5 < j.kind
 ·simp (maxSteps := 1000000) [hho, noHo, jobA, foldV, g1, g2, undef, onGP_none, condG_false, -List.reduceReplicate]
  exact Ret.drop (by rfl) ⟨by rw [decide_eq_false (by omega : ¬ j.kind ≤ 5)]; simp, rfl⟩
 by_cases g3 : j.id < 0
 ·simp (maxSteps := 1000000) [hho, noHo, jobA, foldV, g1, g2, g3, undef, onGP_none, condG_false, -List.reduceReplicate]
  exact Ret.drop (by rfl) ⟨by rw [decide_eq_false (by omega : ¬ 0 ≤ j.id)]; simp, rfl⟩
 have k1 : 0 ≤ j.kind := by omega
 have k2 : j.kind ≤ 5 := by omega
 have k3 : 0 ≤ j.id := by omega
 obtain ⟨M, hM⟩ : ∃ M, M = min (min j.table j.item) j.other := ⟨_, rfl⟩
 by_cases g4 : -1 ≤ j.table ∧ -1 ≤ j.item ∧ -1 ≤ j.other
 case neg =>
  have g4' : M < -1 := by omega
  simp (maxSteps := 1000000) [hho, noHo, jobA, foldV, g1, g2, g3, ← hM, g4', undef, onGP_none, condG_false, -List.reduceReplicate]
  refine Ret.drop (by rfl) ⟨?_, rfl⟩
  rcases (min3 _ _ _).2 g4 with h | h | h
  ·rw [decide_eq_false (by omega : ¬ -1 ≤ j.table)]; simp
  ·rw [decide_eq_false (by omega : ¬ -1 ≤ j.item)]; simp
  ·rw [decide_eq_false (by omega : ¬ -1 ≤ j.other)]; simp
 have g4' : ¬ M < -1 := by omega
 obtain ⟨k4, k5, k6⟩ := g4
 by_cases g5 : 1000 < j.mark.size
 ·have g5' : (1000 : Int) < j.mark.size := by omega
  simp (maxSteps := 1000000) [hho, noHo, jobA, foldV, g1, g2, g3, ← hM, g4', g5, g5', undef, onGP_none, condG_false, -List.reduceReplicate]
  exact Ret.drop (by rfl) ⟨by rw [decide_eq_false (by omega : ¬ j.mark.size ≤ 1000)]; simp, rfl⟩
 have g5' : ¬ (1000 : Int) < j.mark.size := by omega
 have k7 : j.mark.size ≤ 1000 := by omega
 by_cases g6 : 12 < j.cols.length
 ·have g6' : (12 : Int) < j.cols.length := by omega
  simp (maxSteps := 1000000) [hho, noHo, jobA, foldV, g1, g2, g3, ← hM, g4', g5, g5', g6, g6', undef, onGP_none, condG_false, -List.reduceReplicate]
  exact Ret.drop (by rfl) ⟨by rw [decide_eq_false (by omega : ¬ j.cols.length ≤ 12)]; simp, rfl⟩
 have g6' : ¬ (12 : Int) < j.cols.length := by omega
 have k8 : j.cols.length ≤ 12 := by omega
 simp (maxSteps := 1000000) [hho, noHo, jobA, foldV, g1, g2, g3, ← hM, g4', g5, g5', g6, g6', undef, onGP_none, condG_false, -List.reduceReplicate]
 refine call_0 (c1) rfl rfl hho (by simp) ?_
 cases hI : jiOk j.idx with
 | false =>
  simp (maxSteps := 1000000) [hho, noHo, undef, onGP_none, condG_false, -List.reduceReplicate]
  exact Ret.drop (by rfl) ⟨by simp, rfl⟩
 | true =>
 simp (maxSteps := 1000000) [hho, noHo, undef, onGP_none, condG_false, -List.reduceReplicate]
 refine call_0 (c2) rfl rfl hho (by simp) ?_
 simp (maxSteps := 1000000) [hho, noHo, -List.reduceReplicate]
 refine Ret.drop (by rfl) ⟨?_, rfl⟩
 rw [← e2]
 simp [k1, k2, k3, k4, k5, k6, k7, k8]
end Go.Proofs.YthgoocdldnkogaaGreatDoor
