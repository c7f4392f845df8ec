import Derived.Test.YthgoocdldnkogaaDoorHN
import Derived.Test.YthgoocdldnkogaaDoorIx
import Derived.Test.YthgoocdldnkogaaDoorHZ1
namespace Go.Proofs.YthgoocdldnkogaaDoor
set_option linter.unusedVariables false
set_option linter.unusedSimpArgs false
open Go.RowKit
attribute [local simp] isCut_nil isCut_region isCut_seq isCut_block isCut_loop isCut_cond isCut_skip isCut_exit isCut_ret isCut_range swapK putK altK condK_bool pickP_bool stepP stepO onPure_some onPure_none onImpl_some onImpl_none stepC onGP_some onGP_none onGV_some condG mkG onIt_it nextP_ptr takeP_eq takeV_some takeV_none takeU_some takeU_none takeQ takeW_some takeN_none takeN_some takeG_some takeO_some altO_some pureV binV2 eqF eqOp ovlV ovl2 rowAt capV binV intBin strBin isSh shV fldV ixV sliceV slice3V loadAV nilV lenV callV unV convV viewS cellsH loadV fldCut AV.ung AV.ungs AV.gc AV.cells AS.ev AS.put anyS gcsV gcO lens lnO gV guardV retK RetP_eq resV oneV anyRo loIx hiIx implO callP_clo evL gcsL clearV storeAV AS.push AS.setO appV appZ shortS copyV buildV partsV fillV srcV fzO okV isCell_c isCell_ptr isCell_sl isCell_fs isCell_fp isCell_clo rowZ_one rowZ_zero rowZ_2 rowZ_3 rowZ_4 rowZ_5 rowZ_6 rowZ_7 rowZ_8 rowZ_9 rowZ_10 rowZ_11 rowZ_12 noHo Value.oneCell' max2V min2V lookV updV updK updW cvals mkAt basV lenM msAt afterH putBack frzFrom frzO rebO backIx nilEq_sl nilEq_fs nilEq_ifn nilEq_ifh ifOp_eql ifOp_neq isLit nilOp_eql nilOp_neq AV.reb AV.rebL
attribute [local simp ↓] runK_skip runK_region runK_draw runK_seq runK_cut runK_cond runK_block runK_loop runK_exit runK_label runK_goto runK_ret runK_range contK_nil contK_seq contK_seq_ret contK_seq_exit contK_seq_goto contK_block contK_block_ret contK_block_goto contK_block_exit runO_nil runO_cons roundK_exit roundK_ret roundK_goto exitK_ret cutK_ret cutK_exit runE_done runE_nil runE_take runE_alt condG_true condG_false
set_option maxRecDepth 10000
@[simp] theorem u8av_length (l : List UInt8) : (u8av l).length = l.length := by simp [u8av]
@[simp] theorem u8av_nil : u8av [] = [] := rfl
@[simp] theorem u8av_all (l : List UInt8) : (∀ x ∈ u8av l, isD x = true) ↔ True := iff_true_intro (by simp [u8av, isD])
@[simp] theorem u8av_cell (l : List UInt8) : (∀ x ∈ u8av l, isCell x = true) ↔ True := iff_true_intro (by simp [u8av, isCell_c, Value.oneCell', u8])
theorem tmod_nat (u c : Nat) : (u : Int).tmod (c : Int) = ((u % c : Nat) : Int) := (Int.ofNat_tmod u c).symm
theorem tdiv_nat (u c : Nat) : (u : Int).tdiv (c : Int) = ((u / c : Nat) : Int) := (Int.ofNat_tdiv u c).symm
theorem u8_low (u : Nat) : IntKind.u8.wrap ((u % 256 : Nat) : Int) = ((UInt8.ofNat u).toNat : Int) := by
  rw [u8_wrap_nat]; simp
set_option maxHeartbeats 4000000 in
theorem ref1num_gen (n : Int) (h1 : -9223372036854775808 ≤ n) (h2 : n ≤ 9223372036854775807) (Post : AV → List AObj → Prop) (hpost : ∀ x : AObj, Ret (fun _ => false) Post [x, .o (.row 5 1) (u8av (num n))] (.sl 1 1 0 (num n).length (num n).length)) : ACalls Tryd.prog 35 [.c (.int .i64 n)] [] (fun _ => false) Post := by
  refine acallsC [5] mixed Tryd.func35 rfl Tryd.ntmps35 rfl fun E hE hst hho => ?_
  simp (maxSteps := 1000000) [hho, noHo, -List.reduceReplicate]
  obtain ⟨U, hU⟩ : ∃ U, U = mag n := ⟨_, rfl⟩
  have hUl : U < 9223372036854775808 := by rw [hU]; exact mag_lt n h1 h2
  refine seq_cut mixed [] (fun _ : Unit => ⟨slotsOf 27 [(0, .c (.int .i64 (U : Nat))), (3, .c (.int .u8 (sig n : Nat)))], []⟩) (fun _ => True) ?_ ?_
  rotate_left
  · by_cases hn : n < 0
    · have e2 : sig n = 128 := by unfold sig; rw [if_pos hn]
      have e3 : U = (-n - 1).toNat := by rw [hU]; unfold mag; rw [if_pos hn]
      have e4 : IntKind.i64.wrap (-1 - n) = (U : Int) := by rw [IntWalk.i64_in _ (by omega)]; omega
      simp (maxSteps := 1000000) [hho, hn, e4, -List.reduceReplicate]
      exact cut_to () trivial (wk_eq (by simp [hE, lens]) (by simp) (by simp [livH, livO, AV.livL, AV.liv, wkL, wkV, List.range', slotsOf, e2]))
    · have e2 : sig n = 0 := by unfold sig; rw [if_neg hn]
      have e3 : (U : Int) = n := by rw [hU]; unfold mag; rw [if_neg hn]; omega
      simp (maxSteps := 1000000) [hho, hn, -List.reduceReplicate]
      exact cut_to () trivial (wk_eq (by simp [hE, lens]) (by simp) (by simp [livH, livO, AV.livL, AV.liv, wkL, wkV, List.range', slotsOf, e2, e3]))
  rintro _ _
  simp (maxSteps := 1000000) [slotsOf, hho, -List.reduceReplicate]
  refine loop_k mixed (fun x : Nat × List UInt8 => ⟨slotsOf 27 [(0, .c (.int .i64 (x.1 : Nat))), (3, .c (.int .u8 (sig n : Nat))), (4, .sl 0 1 0 x.2.length x.2.length)], [.o (.row 5 1) (u8av x.2)]⟩) (fun x => x.1) (fun x => x.1 ≤ U ∧ (digs x.1).reverse ++ x.2 = (digs U).reverse) (U, []) (by simp) ?_ ?_
  · refine Wk.trans (wk_virt 4 5 1 rfl) ?_
    exact wk_eq (by simp [hE, lens]) (by simp) (by simp [livH, livO, AV.livL, AV.liv, wkL, wkV, List.range', slotsOf])
  · rintro ⟨u, d⟩ ⟨hu, hd⟩
    simp only at hd hu
    have hl8 : (digs U).length ≤ 8 := digs_len8 U (by omega)
    have hdd : (digs u).length + d.length ≤ 8 := by
      have := congrArg List.length hd
      simp at this; omega
    by_cases h0 : u = 0
    · subst h0
      have hdU : d = (digs U).reverse := by simpa [digs_zero] using hd
      have hdl : d.length = (digs U).length := by rw [hdU, List.length_reverse]
      have hb : IntKind.u8.wrap ((sig n : Nat) + IntKind.u8.wrap (d.length : Int)) = ((UInt8.ofNat (sig n + d.length)).toNat : Int) := by
        have hs : sig n = 0 ∨ sig n = 128 := by unfold sig; split <;> simp
        rw [add_head _ _ hs (by omega), IntWalk.u8_in (d.length : Int) (by omega), IntWalk.u8_in _ (by omega)]
      have hcl : List.take d.length (u8av d) = u8av d := List.take_of_length_le (by simp)
      have htk : ∀ a : AV, List.take (1 + d.length) (a :: u8av d) = a :: u8av d := fun a => List.take_of_length_le (by simp; omega)
      have hnu : u8av (num n) = AV.c (.int .u8 ((UInt8.ofNat (sig n + d.length)).toNat : Int)) :: u8av d := by
        simp [num, u8av, u8, hdU, hU]
      have hnl : (num n).length = 1 + d.length := by rw [hdU, hU]; simp [num]; omega
      simp (maxSteps := 1000000) [slotsOf, hho, hcl, hb, -List.reduceReplicate]
      refine ⟨by omega, ?_⟩
      rw [hnl, hnu] at hpost
      exact hpost _
    · have hup : 0 < u := by omega
      have em := tmod_nat u 256
      have ed := tdiv_nat u 256
      simp only [Int.cast_ofNat_Int] at em ed
      have hw := u8_low u
      simp at hw
      have ew : IntKind.i64.wrap ((u : Int) / 256) = (u : Int) / 256 := IntWalk.i64_in _ (by omega)
      rw [digs_pos hup] at hd hdd
      simp at hdd
      have hcl : List.take d.length (u8av d) = u8av d := List.take_of_length_le (by simp)
      simp (maxSteps := 1000000) [slotsOf, hho, h0, hup, em, ed, ew, hw, hcl, -List.reduceReplicate]
      refine ⟨by omega, ?_⟩
      refine round_next (u / 256, UInt8.ofNat u :: d) ⟨by simp only; omega, by simpa using hd⟩ (by simp only; omega) ?_
      refine wk_sel [1] (slotsOf 27 [(0, .c (.int .i64 ((u / 256 : Nat) : Int))), (3, .c (.int .u8 (sig n : Nat))), (4, .sl 1 1 0 (1 + d.length) (1 + d.length))]) hho (by simp [livH, livO, AV.livL, AV.liv, wkL, wkV, List.range', slotsOf, ew]) rfl rfl ?_ ?_ (by decide) (by simp [hst]) (by simp [hE, lens]) ?_ ?_
      · refine ⟨List.all_eq_true.2 fun x hx => ?_, trivial⟩
        rcases List.mem_cons.1 hx with rfl | hx
        · rfl
        · exact (u8av_all d).2 trivial x hx
      · simp
      · simp [slotsOf, Nat.add_comm]
      · simp [u8av, u8, hw]
theorem ref1num_w (n : Int) (h1 : -9223372036854775808 ≤ n) (h2 : n ≤ 9223372036854775807) : ACalls Tryd.prog 35 [.c (.int .i64 n)] [] (fun _ => false) (fun r h' => r = .fs 1 (num n).length (u8av (num n)) ∧ h' = []) := by
  have hl := num_len n h1 h2
  refine ref1num_gen n h1 h2 _ fun x => ?_
  refine Ret.sel [] (fun k => k == 1) (ho := by rfl) (ha := by rfl) ?_ ?_ (by decide) (by simp) (by simp) ⟨?_, rfl⟩
  · simp
  · simp
    exact ⟨by unfold maxLen; omega, fun x hx => (u8av_all _).2 trivial x (List.mem_of_mem_take hx)⟩
  · simp [List.take_of_length_le]
theorem ref1num_l (n : Int) (h1 : -9223372036854775808 ≤ n) (h2 : n ≤ 9223372036854775807) : ACalls Tryd.prog 35 [.c (.int .i64 n)] [] (fun _ => false) (fun r h' => r = .sl 0 1 0 (num n).length (num n).length ∧ h' = [.o (.row 5 1) (u8av (num n))]) := by
  refine ref1num_gen n h1 h2 _ fun x => ?_
  refine Ret.sel [1] (fun _ => false) (ho := by rfl) (ha := by rfl) ?_ ?_ (by decide) (by simp) (by simp) ⟨rfl, rfl⟩
  · simp
  · simp
def str (l : List UInt8) : ByteArray := ⟨l.toArray⟩
theorem str_app (a b : List UInt8) : str a ++ str b = str (a ++ b) := by
  apply ByteArray.ext
  simp [str]
theorem str_size (a : List UInt8) : (str a).size = a.length := by simp [str, ByteArray.size]
theorem bytesOf_str (l : List UInt8) : bytesOf (u8av l) = str l := by
  unfold bytesOf str u8av
  congr 1
  rw [List.map_map]
  congr 1
  conv => rhs; rw [← List.map_id l]
  apply List.map_congr_left
  intro x _
  simp [u8of, u8]
@[simp] theorem u8av_u8 (l : List UInt8) : (∀ x ∈ u8av l, isU8 x = true) ↔ True := iff_true_intro <| by
  intro x hx
  simp [u8av] at hx
  obtain ⟨b, _, rfl⟩ := hx
  have := b.toNat_lt
  simp [isU8, u8]
  omega
structure CellS where
  col : Int
  v : ValS
def valB (v : ValS) : List UInt8 := num v.k ++ (if v.k = 1 ∨ v.k = 2 then num v.n else if v.k = 3 then num v.s ++ num v.n else txt v.t)
def cellB (c : CellS) : List UInt8 := num c.col ++ valB c.v
def rowB (l : List CellS) : List UInt8 := num l.length ++ l.flatMap cellB
def cellA (c : CellS) : List AV := .c (.int .i64 c.col) :: valA c.v
@[simp] theorem cellA_length (c : CellS) : (cellA c).length = 5 := rfl
def cellsA (l : List CellS) : List AV := l.flatMap cellA
@[simp] theorem cellsA_length (l : List CellS) : (cellsA l).length = l.length * 5 := flat_length cellA 5 (by simp) l
theorem cellsA_at (l : List CellS) (j : Nat) (hj : j < l.length) : List.take 5 (List.drop (j * 5) (cellsA l)) = cellA l[j] := flat_at cellA 5 (by simp) l j hj
@[simp] theorem cellA_all (x : CellS) : (∀ a ∈ cellA x, isD a = true) ↔ True := iff_true_intro <| by simp [cellA, valA, isD]
@[simp] theorem cellsA_all (l : List CellS) : (∀ x ∈ cellsA l, isD x = true) ↔ True := iff_true_intro <| by
  intro x hx
  simp only [cellsA, List.mem_flatMap] at hx
  obtain ⟨b, _, hx⟩ := hx
  exact (cellA_all b).2 trivial x hx
theorem text_ref (s : ByteArray) (hs : s.size ≤ 100000000000) : ACalls Tryd.prog 16 [.c (.string s)] [] (fun _ => false) (fun r h' => r = .fs 1 (txt s).length (u8av (txt s)) ∧ h' = []) := by
  refine acalls mixed Tryd.func16 rfl Tryd.ntmps16 rfl fun E hE hst hho => ?_
  have hnl := num_len (s.size : Int) (by omega) (by omega)
  have hsl : s.data.toList.length = s.size := rfl
  have hbl : (txt s).length = (num s.size).length + s.size := by rw [txt, List.length_append, hsl]
  have hbe : u8av (txt s) = u8av (num s.size) ++ u8av s.data.toList := by simp [txt, u8av]
  simp (maxSteps := 1000000) [hho, noHo, -List.reduceReplicate]
  refine call_x [] (ref1num_l s.size (by omega) (by omega)) rfl rfl ⟨rfl, rfl⟩ hho (by simp) (by decide) (by simp) (by simp) ?_
  simp (maxSteps := 1000000) [hho, noHo, -List.reduceReplicate]
  refine ⟨by omega, ?_⟩
  refine Ret.sel [] (fun k => k == 0) (ho := by rfl) (ha := by rfl) ?_ ?_ (by decide) (by simp) (by simp) ⟨?_, rfl⟩
  · simp
  · simp [hsl]
    exact ⟨by unfold maxLen; omega, fun x hx => by
      have hx := List.mem_of_mem_take hx
      rcases List.mem_append.1 hx with h | h
      · exact (u8av_all _).2 trivial x h
      · exact (u8av_all _).2 trivial x h⟩
  · rw [hbl, hbe]
    simp [List.take_of_length_le, hsl]
theorem cellsB_succ (l : List CellS) (j : Nat) (hj : j < l.length) : (l.take (j + 1)).flatMap cellB = (l.take j).flatMap cellB ++ cellB l[j] := by rw [List.take_succ_eq_append_getElem hj, List.flatMap_append]; simp [List.flatMap_cons]
abbrev Bs := List UInt8
def dftR (v : ValS) : List CellS := if v.k = 0 then [] else [⟨0, v⟩]
theorem flat_len {α : Type} {f : α → Bs} {m : Nat} : ∀ (l : List α), (∀ x ∈ l, (f x).length ≤ m) → (l.flatMap f).length ≤ l.length * m
  | [], _ => by simp
  | x :: l, h => by
    have h1 := h x (List.mem_cons_self ..)
    have h2 := flat_len l fun y hy => h y (List.mem_cons_of_mem _ hy)
    rw [List.flatMap_cons, List.length_append, List.length_cons, Nat.add_mul]
    omega
theorem cell0_i : i64v 0 := ⟨by decide, by decide⟩
def flagI (x : Bool) : Int := if x = true then 1 else 0
def colB (c : ColS) : Bs := num c.id ++ (txt c.name ++ (num c.ty.k ++ (num c.ty.s ++ (num (flagI c.nn) ++ (txt (str (rowB (dftR c.dft))) ++ num c.st)))))
def idxB (x : IdxS) : Bs := num x.id ++ (txt x.name ++ (num x.cols.length ++ x.cols.flatMap num ++ (num (flagI x.uniq) ++ num x.st)))
def tbB (t : TabS) : Bs := num t.id ++ (txt t.name ++ (num t.cols.length ++ t.cols.flatMap colB ++ (num t.idxs.length ++ t.idxs.flatMap idxB)))
def schB (s : SchS) : Bs := num s.ver ++ (num s.next ++ (num s.tabs.length ++ s.tabs.flatMap tbB))
theorem flagI_len2 (x : Bool) : (num (flagI x)).length ≤ 9 := num_len (flagI x) (by unfold flagI; split <;> omega) (by unfold flagI; split <;> omega)
theorem dftR_len (v : ValS) : (dftR v).length ≤ 1 := by unfold dftR; split <;> simp
theorem dftR_mem {v : ValS} {c : CellS} (hc : c ∈ dftR v) : c = ⟨0, v⟩ := by
  unfold dftR at hc
  split at hc
  · cases hc
  · exact List.mem_singleton.1 hc
theorem r12num_w (l : List Int) (hl : l.length ≤ 100000) (hi : ∀ k ∈ l, i64v k) : ACalls Tryd.prog 15 [.fs 1 l.length (intsA l)] [] (fun _ => false) (fun r h' => r = .c (.string (str (numsB l))) ∧ h' = []) := by
  refine acalls mixed Tryd.func15 rfl Tryd.ntmps15 rfl fun E hE hst hho => ?_
  simp (maxSteps := 1000000) [hho, noHo, -List.reduceReplicate]
  refine loop_k mixed (fun j : Nat => ⟨slotsOf 19 [(3, .c (.string (str (numsB (l.take j))))), (6, .fs 1 l.length (intsA l)), (7, .c (.int .i64 l.length)), (8, .c (.int .i64 (j : Nat)))], []⟩) (fun j => l.length - j) (fun j => j ≤ l.length) 0 (Nat.zero_le _) ?_ ?_
  · exact wk_eq (by simp [hE, lens]) (by simp) (by simp [livH, livO, AV.livL, AV.liv, wkL, wkV, List.range', slotsOf, numsB, str])
  intro j hj
  by_cases hjl : j < l.length
  · have hat := intsA_get l j hjl
    have ew : IntKind.i64.wrap ((j : Int) + 1) = (j + 1 : Nat) := by rw [IntWalk.i64_in _ (by omega)]; rfl
    have hsn := numsB_snoc l j hjl
    have hbl := numsB_len (l.take j) fun z hz => hi z (List.mem_of_mem_take hz)
    rw [List.length_take] at hbl
    have hko := hi l[j] (List.getElem_mem hjl)
    obtain ⟨k, hk⟩ : ∃ k, k = l[j] := ⟨_, rfl⟩
    rw [← hk] at hat hsn hko
    obtain ⟨B, hB⟩ : ∃ B, B = numsB (l.take j) := ⟨_, rfl⟩
    rw [← hB] at hsn hbl ⊢
    have hnl := num_len k hko.1 hko.2
    simp (maxSteps := 1000000) [hho, noHo, slotsOf, hjl, hat, -List.reduceReplicate]
    refine ⟨by omega, ?_⟩
    refine call_x [] (ref1num_w k hko.1 hko.2) rfl rfl ⟨rfl, rfl⟩ hho (by simp) (by decide) (by simp) (by simp) ?_
    simp (maxSteps := 1000000) [hho, noHo, bytesOf_str, str_app, str_size, ew, -List.reduceReplicate]
    refine ⟨by omega, round_next (j + 1) (by omega) (by omega) ?_⟩
    exact wk_eq (by simp [hE, lens]) (by simp) (by simp [livH, livO, AV.livL, AV.liv, wkL, wkV, List.range', slotsOf, hsn])
  obtain rfl : j = l.length := by omega
  rw [List.take_length]
  simp (maxSteps := 1000000) [hho, noHo, slotsOf, -List.reduceReplicate]
  exact Ret.drop (by rfl) ⟨rfl, rfl⟩
theorem r12flag_w (x : Bool) : ACalls Tryd.prog 17 [.c (.bool x)] [] (fun _ => false) (fun r h' => r = .c (.int .i64 (flagI x)) ∧ h' = []) := by
  refine acalls mixed Tryd.func17 rfl Tryd.ntmps17 rfl fun E hE hst hho => ?_
  cases x
  · simp (maxSteps := 1000000) [hho, noHo, -List.reduceReplicate]
    exact Ret.drop (by rfl) ⟨rfl, rfl⟩
  · simp (maxSteps := 1000000) [hho, noHo, -List.reduceReplicate]
    exact Ret.drop (by rfl) ⟨rfl, rfl⟩
section
variable {P : Program} {E : Env} {s : AS}
theorem call_hd {g : FuncId} {args : List AV} {K : AV → AS → Prop} (lent : List Nat) (ok : Nat → Bool) {cargs : List AV} {ch : List AObj} {st : Nat → Bool} {r : AV} {h' : List AObj} {pa po : Prop} {cargs' : List AV} {ch' : List AObj} (hc : ACalls P g cargs' ch' st (fun a b => a = r ∧ b = h'))
    (ha : AV.convL lent ok s.h args = some (pa, cargs)) (ho : convOs lent ok s.h lent = some (po, ch)) (hx : cargs = cargs' ∧ ch = ch') (hE : ∀ k ∈ lent, E.ho k = false) (hE2 : ∀ k, ok k = true → E.ho k = false) (hst : ∀ i, i < lent.length → st i = true) (hn : lent.Nodup) (hok : ∀ k ∈ lent, ok k = false) (hp : pa ∧ po) (hl : lent.length ≤ h'.length)
    (hK : K (r.reb (backIx lent s.h.length)) ⟨s.t, afterH lent ok s.h h'⟩) : CallG P E g args s K := by
  obtain ⟨rfl, rfl⟩ := hx
  exact call_of lent ok [] hc ha hp.1 ho hp.2 hn hok (fun i k h => .inl (hst i (List.getElem?_eq_some_iff.1 h).1)) (livL_nil _) (livH_nil _ _ _) (fun k h => by cases h) hE hE2 fun a b ⟨e1, e2⟩ => by subst e1 e2; exact ⟨hl, hK⟩
end
theorem r12num1 (a : Int) (ha : i64v a) : ACalls Tryd.prog 15 [.fs 1 1 [.c (.int .i64 a)]] [] (fun _ => false) (fun r h' => r = .c (.string (str (num a))) ∧ h' = []) := by
  have h := r12num_w [a] (by simp) (fun k hk => by rw [List.mem_singleton.1 hk]; exact ha)
  have e : numsB [a] = num a := by simp [numsB]
  rw [e] at h; exact h
theorem r12num2 (a b : Int) (ha : i64v a) (hb : i64v b) : ACalls Tryd.prog 15 [.fs 1 2 [.c (.int .i64 a), .c (.int .i64 b)]] [] (fun _ => false) (fun r h' => r = .c (.string (str (num a ++ num b))) ∧ h' = []) := by
  have h := r12num_w [a, b] (by simp) (fun k hk => by simp at hk; rcases hk with rfl | rfl <;> assumption)
  have e : numsB [a, b] = num a ++ num b := by simp [numsB]
  rw [e] at h; exact h
theorem r12num3 (a b c : Int) (ha : i64v a) (hb : i64v b) (hc : i64v c) : ACalls Tryd.prog 15 [.fs 1 3 [.c (.int .i64 a), .c (.int .i64 b), .c (.int .i64 c)]] [] (fun _ => false) (fun r h' => r = .c (.string (str (num a ++ (num b ++ num c)))) ∧ h' = []) := by
  have h := r12num_w [a, b, c] (by simp) (fun k hk => by simp at hk; rcases hk with rfl | rfl | rfl <;> assumption)
  have e : numsB [a, b, c] = num a ++ (num b ++ num c) := by simp [numsB]
  rw [e] at h; exact h
theorem flagI_i (x : Bool) : i64v (flagI x) := by unfold flagI; cases x <;> exact ⟨by decide, by decide⟩
theorem len_i (n : Nat) (h : n ≤ 1000000) : i64v n := ⟨by omega, by omega⟩
set_option maxHeartbeats 4000000 in
theorem value_any (v : ValS) (hts : v.t.size ≤ 1000) (ho : v.Ok) : ACalls Tryd.prog 36 [.agg (valA v)] [] (fun _ => false) (fun r h' => r = .c (.string (str (valB v))) ∧ h' = []) := by
  refine acalls mixed Tryd.func36 rfl Tryd.ntmps36 rfl fun E hE hst hho => ?_
  have hk1 := ho.1.1
  have hk2 := ho.1.2
  have hnk := num_len v.k (by omega) (by omega)
  have hnn := num_len v.n ho.2.1.1 ho.2.1.2
  have hns := num_len v.s ho.2.2.1.1 ho.2.2.1.2
  unfold valB
  obtain ⟨B, hB⟩ : ∃ B, B = num v.k ++ (if v.k = 1 ∨ v.k = 2 then num v.n else if v.k = 3 then num v.s ++ num v.n else txt v.t) := ⟨_, rfl⟩
  rw [← hB]
  simp (maxSteps := 1000000) [valA, hho, noHo, -List.reduceReplicate]
  refine call_x [] (ref1num_w v.k (by omega) (by omega)) rfl rfl ⟨rfl, rfl⟩ hho (by simp) (by decide) (by simp) (by simp) ?_
  by_cases h1 : v.k = 1
  · rw [if_pos (.inl h1)] at hB
    subst hB
    simp (maxSteps := 1000000) [hho, noHo, h1, bytesOf_str, -List.reduceReplicate]
    refine call_x [] (ref1num_w v.n ho.2.1.1 ho.2.1.2) rfl rfl ⟨rfl, rfl⟩ hho (by simp) (by decide) (by simp) (by simp) ?_
    rw [h1] at hnk
    simp (maxSteps := 1000000) [hho, noHo, bytesOf_str, str_app, str_size, -List.reduceReplicate]
    refine ⟨by omega, ?_⟩
    exact Ret.drop (by rfl) ⟨rfl, rfl⟩
  · by_cases h2 : v.k = 2
    · rw [if_pos (.inr h2)] at hB
      subst hB
      simp (maxSteps := 1000000) [hho, noHo, h2, bytesOf_str, -List.reduceReplicate]
      refine call_x [] (ref1num_w v.n ho.2.1.1 ho.2.1.2) rfl rfl ⟨rfl, rfl⟩ hho (by simp) (by decide) (by simp) (by simp) ?_
      rw [h2] at hnk
      simp (maxSteps := 1000000) [hho, noHo, bytesOf_str, str_app, str_size, -List.reduceReplicate]
      refine ⟨by omega, ?_⟩
      exact Ret.drop (by rfl) ⟨rfl, rfl⟩
    · by_cases h3 : v.k = 3
      · rw [if_neg (fun h => h.elim h1 h2), if_pos h3] at hB
        subst hB
        have c1 := ref1num_w v.s ho.2.2.1.1 ho.2.2.1.2
        have c2 := ref1num_w v.n ho.2.1.1 ho.2.1.2
        rw [h3] at hnk
        simp (maxSteps := 1000000) [hho, noHo, h3, bytesOf_str, -List.reduceReplicate]
        refine draw_k hho (.take 0 (.take 1 (.take 2 (.take 6 (.take 7 (.alt 3 (.take 4 (.take 5 (.alt 8 (.take 9 (.take 10 (.take 11 (.done)))) (.nil)))) (.nil))))))) [0] [] (by decide +kernel) (by simp) ?_
        simp (maxSteps := 1000000) [hho, roOf, holdOf, wrOf, altK, heldOk, Region.binds, -List.reduceReplicate]
        intro E1
        refine call_h [] c1 rfl rfl ⟨rfl, rfl⟩ (by simp) (by simp) (by decide) (by simp) (by simp) ?_
        simp (maxSteps := 1000000) [hho, bytesOf_str, str_app, str_size, roOf, holdOf, wrOf, altK, heldOk, Region.binds, -List.reduceReplicate]
        refine ⟨by omega, fun E2 => ?_⟩
        refine call_h [] c2 rfl rfl ⟨rfl, rfl⟩ (by simp) (by simp) (by decide) (by simp) (by simp) ?_
        simp (maxSteps := 1000000) [hho, bytesOf_str, str_app, str_size, roOf, holdOf, wrOf, altK, heldOk, Region.binds, -List.reduceReplicate]
        refine ⟨by omega, ?_⟩
        intros
        exact Ret.drop (by rfl) ⟨rfl, rfl⟩
      · rw [if_neg (fun h => h.elim h1 h2), if_neg h3] at hB
        subst hB
        have htl : (txt v.t).length ≤ 1100 := by
          have := num_len (v.t.size : Int) (by omega) (by omega)
          have hsl : v.t.data.toList.length = v.t.size := rfl
          rw [txt, List.length_append, hsl]; omega
        simp (maxSteps := 1000000) [hho, noHo, h1, h2, h3, bytesOf_str, -List.reduceReplicate]
        refine call_x [] (text_ref v.t (by omega)) rfl rfl ⟨rfl, rfl⟩ hho (by simp) (by decide) (by simp) (by simp) ?_
        simp (maxSteps := 1000000) [hho, noHo, bytesOf_str, str_app, str_size, -List.reduceReplicate]
        refine ⟨by omega, ?_⟩
        exact Ret.drop (by rfl) ⟨rfl, rfl⟩
theorem valB_any {v : ValS} (ht : v.t.size ≤ 1000) (ho : v.Ok) : (valB v).length ≤ 1100 := by
  have e1 := num_len v.k ho.1.1 ho.1.2
  have e2 := num_len v.n ho.2.1.1 ho.2.1.2
  have e3 := num_len v.s ho.2.2.1.1 ho.2.2.1.2
  have e4 := txt_len v.t (by omega)
  unfold valB
  split
  · simp only [List.length_append]; omega
  · split <;> simp only [List.length_append] <;> omega
theorem cellB_any {x : CellS} (h : i64v x.col ∧ x.v.t.size ≤ 1000 ∧ x.v.Ok) : (cellB x).length ≤ 1200 := by
  have e1 := num_len x.col h.1.1 h.1.2
  have e2 := valB_any h.2.1 h.2.2
  unfold cellB
  rw [List.length_append]; omega
theorem rowB_any (v : ValS) (hv : v.t.size ≤ 300) (ho : v.Ok) : (rowB (dftR v)).length ≤ 1400 := by
  have h1 := dftR_len v
  have h2 := flat_len (f := cellB) (m := 1200) (dftR v) fun c hc => cellB_any (by rw [dftR_mem hc]; exact ⟨cell0_i, by show v.t.size ≤ 1000; omega, ho⟩)
  have h3 := num_len ((dftR v).length : Int) (by omega) (by omega)
  unfold rowB
  rw [List.length_append]
  omega
theorem colB_any {c : ColS} (hc : ColFit c) (ho : c.Ok) : (colB c).length ≤ 2000 := by
  obtain ⟨h1, h2⟩ := hc
  obtain ⟨o1, o2, o3, o4, o5⟩ := ho
  have hb := rowB_any c.dft h2 o4
  have e1 := num_len c.id o1.1 o1.2
  have e2 := txt_len c.name (by omega)
  have e3 := num_len c.ty.k o3.1.1 o3.1.2
  have e4 := num_len c.ty.s o3.2.1 o3.2.2
  have e5 := num_len (flagI c.nn) (by unfold flagI; split <;> omega) (by unfold flagI; split <;> omega)
  have e6 := txt_len (str (rowB (dftR c.dft))) (by rw [str_size]; omega)
  have e7 := num_len c.st o5.1 o5.2
  rw [str_size] at e6
  simp only [colB, List.length_append]
  omega
theorem idxB_any {x : IdxS} (hx : IdxFit x) (ho : x.Ok) : (idxB x).length ≤ 500 := by
  obtain ⟨h1, h2⟩ := hx
  obtain ⟨o1, o2, o3, o4⟩ := ho
  have e1 := num_len x.id o1.1 o1.2
  have e2 := txt_len x.name (by omega)
  have e3 := num_len x.cols.length (by omega) (by omega)
  have e4 := flat_len (f := num) (m := 9) x.cols fun k hk => num_len k (o3 k hk).1 (o3 k hk).2
  have e5 := num_len (flagI x.uniq) (by unfold flagI; split <;> omega) (by unfold flagI; split <;> omega)
  have e7 := num_len x.st o4.1 o4.2
  simp only [idxB, List.length_append]
  omega
theorem tbB_any {t : TabS} (ht : TabFit t) (ho : t.Ok) : (tbB t).length ≤ 60000 := by
  obtain ⟨h1, h2, h3, h4, h5⟩ := ht
  obtain ⟨o1, o2, o3, o4⟩ := ho
  have e1 := num_len t.id o1.1 o1.2
  have e2 := txt_len t.name (by omega)
  have e3 := num_len t.cols.length (by omega) (by omega)
  have e4 := flat_len (f := colB) (m := 2000) t.cols fun c hc => colB_any (h4 c hc) (o3 c hc)
  have e5 := num_len t.idxs.length (by omega) (by omega)
  have e6 := flat_len (f := idxB) (m := 500) t.idxs fun x hx => idxB_any (h5 x hx) (o4 x hx)
  simp only [tbB, List.length_append]
  omega
set_option maxHeartbeats 4000000 in
theorem put_any (l : List CellS) (hl : l.length ≤ 1000) (hro : ∀ x ∈ l, i64v x.col ∧ x.v.t.size ≤ 1000 ∧ x.v.Ok) : ACalls Tryd.prog 18 [.fs 5 l.length (cellsA l)] [] (fun _ => false) (fun r h' => r = .c (.string (str (rowB l))) ∧ h' = []) := by
  refine acalls mixed Tryd.func18 rfl Tryd.ntmps18 rfl fun E hE hst hho => ?_
  have hnl := num_len (l.length : Int) (by omega) (by omega)
  simp (maxSteps := 1000000) [hho, noHo, -List.reduceReplicate]
  refine call_x [] (ref1num_w (l.length : Int) (by omega) (by omega)) rfl rfl ⟨rfl, rfl⟩ hho (by simp) (by decide) (by simp) (by simp) ?_
  simp (maxSteps := 1000000) [hho, noHo, bytesOf_str, -List.reduceReplicate]
  refine loop_k mixed (fun j : Nat => ⟨slotsOf 28 [(3, .c (.string (str (num l.length ++ (l.take j).flatMap cellB)))), (10, .fs 5 l.length (cellsA l)), (11, .c (.int .i64 l.length)), (12, .c (.int .i64 (j : Int)))], []⟩) (fun j => l.length - j) (fun j => j ≤ l.length) 0 (Nat.zero_le _) ?_ ?_
  · exact wk_eq (by simp [hE, lens]) (by simp) (by simp [livH, livO, AV.livL, AV.liv, wkL, wkV, List.range', slotsOf])
  · intro j hj
    by_cases hjl : j < l.length
    · have hat := cellsA_at l j hjl
      have ew : IntKind.i64.wrap ((j : Int) + 1) = (j + 1 : Nat) := by rw [IntWalk.i64_in _ (by omega)]; rfl
      have el : j * 5 + 5 ≤ l.length * 5 := by omega
      have hsu := cellsB_succ l j hjl
      have hbl := flat_len (f := cellB) (m := 1200) (l.take j) fun y hy => cellB_any (hro y (List.mem_of_mem_take hy))
      rw [List.length_take] at hbl
      have hxi := hro l[j] (List.getElem_mem hjl)
      obtain ⟨x, hx⟩ : ∃ x, x = l[j] := ⟨_, rfl⟩
      rw [← hx] at hat hsu hxi
      obtain ⟨b, hb⟩ : ∃ b, b = num l.length ++ (l.take j).flatMap cellB := ⟨_, rfl⟩
      have hbl2 : b.length ≤ 1300000 := by rw [hb, List.length_append]; omega
      have h1 := num_len x.col hxi.1.1 hxi.1.2
      have h2 := valB_any hxi.2.1 hxi.2.2
      have c1 := ref1num_w x.col hxi.1.1 hxi.1.2
      have c2 := value_any x.v hxi.2.1 hxi.2.2
      have hbe : num l.length ++ (l.take (j + 1)).flatMap cellB = b ++ (num x.col ++ valB x.v) := by rw [hsu, hb]; simp [cellB]
      rw [← hb]
      have h5 : List.take 5 (cellA x) = cellA x := rfl
      simp (maxSteps := 1000000) [slotsOf, cellA, valA, hho, noHo, hjl, hat, el, -List.reduceReplicate]
      refine draw_k hho (.take 0 (.take 1 (.take 2 (.take 5 (.take 6 (.alt 3 (.take 4 (.alt 7 (.take 8 (.take 9 (.take 10 (.done)))) (.nil))) (.nil))))))) [0] [] (by decide +kernel) (by simp) ?_
      simp (maxSteps := 1000000) [hho, roOf, holdOf, wrOf, altK, heldOk, Region.binds, -List.reduceReplicate]
      intro E1
      refine call_h [] c1 rfl rfl ⟨rfl, rfl⟩ (by simp) (by simp) (by decide) (by simp) (by simp) ?_
      simp (maxSteps := 1000000) [hho, bytesOf_str, roOf, holdOf, wrOf, altK, heldOk, Region.binds, -List.reduceReplicate]
      intro E2
      refine call_h [] c2 rfl rfl ⟨rfl, rfl⟩ (by simp) (by simp) (by decide) (by simp) (by simp) ?_
      simp (maxSteps := 1000000) [hho, ew, bytesOf_str, str_app, str_size, roOf, holdOf, wrOf, altK, heldOk, Region.binds, -List.reduceReplicate]
      refine ⟨by omega, by omega, ?_⟩
      intros
      refine round_next (j + 1) (by omega) (by omega) ?_
      exact wk_of 0 1 (by simp) (by simp [hE, lens]) (by simp) (by simp [livH, livO, AV.livL, AV.liv, wkL, wkV, List.range']) (by simp [livH, livO, AV.livL, AV.liv, wkL, wkV, List.range', slotsOf, hbe])
    · obtain rfl : j = l.length := by omega
      rw [List.take_length]
      simp (maxSteps := 1000000) [slotsOf, hho, noHo, -List.reduceReplicate]
      exact Ret.same ⟨rfl, rfl⟩
set_option maxHeartbeats 32000000 in
theorem r12PutS_w (s : SchS) (hf : SchFit s) (ho : s.Ok) : ACalls Tryd.prog 7 [.agg (schA s)] [] (fun _ => false) (fun r h' => r = .c (.string (str (schB s))) ∧ h' = []) := by
  refine acallsC [12] mixed Tryd.func7 rfl Tryd.ntmps7 rfl fun E hE hst hho => ?_
  obtain ⟨m1, m2⟩ := hf
  obtain ⟨o1, o2, o3⟩ := ho
  have hfl := fun i => flat_len (f := tbB) (m := 60000) (s.tabs.take i) fun t ht => tbB_any (m2 t (List.mem_of_mem_take ht)) (o3 t (List.mem_of_mem_take ht))
  obtain ⟨P0, hP0⟩ : ∃ P, P = num s.ver ++ (num s.next ++ num s.tabs.length) := ⟨_, rfl⟩
  have lP0 : P0.length ≤ 27 := by
    have e1 := num_len s.ver o1.1 o1.2
    have e2 := num_len s.next o2.1 o2.2
    have e3 := num_len s.tabs.length (by omega) (by omega)
    rw [hP0]; simp only [List.length_append]; omega
  have hbe : schB s = P0 ++ s.tabs.flatMap tbB := by rw [hP0]; simp [schB]
  rw [hbe]
  have c0 := r12num3 s.ver s.next s.tabs.length o1 o2 (len_i _ (by omega))
  rw [← hP0] at c0
  simp (maxSteps := 1000000) [hho, noHo, schA, -List.reduceReplicate]
  refine call_f [] (fun k => k == 1) (c0) rfl rfl ⟨rfl, rfl⟩ hho (by simp) (by decide) (by simp) (by simp [isD_c, maxLen]) (by simp) ?_
  simp (maxSteps := 1000000) [hho, noHo, -List.reduceReplicate]
  refine loop_kc [12] mixed (fun j : Nat => ⟨slotsOf 139 [(1, .ptr 0 0 3), (3, .c (.string (str (P0 ++ (s.tabs.take j).flatMap tbB)))), (21, .fs 4 s.tabs.length (tabsA s.tabs)), (22, .c (.int .i64 s.tabs.length)), (23, .c (.int .i64 (j : Nat)))], [.o .box (schA s)]⟩) (fun j => s.tabs.length - j) (fun j => j ≤ s.tabs.length) 0 (Nat.zero_le _) ?_ ?_
  · exact wk_of 1 1 (by simp) (by simp [hE, lens]) (by simp [schA]) (by simp [livH, livO, AV.livL, AV.liv, wkL, wkV, List.range', schA]) (by simp [livH, livO, AV.livL, AV.liv, wkL, wkV, List.range', slotsOf])
  intro j hj
  by_cases hjl : j < s.tabs.length
  case neg =>
    obtain rfl : j = s.tabs.length := by omega
    rw [List.take_length]
    simp (maxSteps := 1000000) [hho, noHo, slotsOf, schA, -List.reduceReplicate]
    exact Ret.drop (by rfl) ⟨rfl, rfl⟩
  have hat := tabsA_at s.tabs j hjl
  have ewj : IntKind.i64.wrap ((j : Int) + 1) = (j + 1 : Nat) := by rw [IntWalk.i64_in _ (by omega)]; rfl
  have e0 : j * 4 + 4 ≤ s.tabs.length * 4 := by omega
  have hsu : (s.tabs.take (j + 1)).flatMap tbB = (s.tabs.take j).flatMap tbB ++ tbB s.tabs[j] := by rw [List.take_succ_eq_append_getElem hjl, List.flatMap_append]; simp
  have hmt := m2 s.tabs[j] (List.getElem_mem hjl)
  have hot := o3 s.tabs[j] (List.getElem_mem hjl)
  have hfj := hfl j
  rw [List.length_take] at hfj
  obtain ⟨t, hte⟩ : ∃ t, t = s.tabs[j] := ⟨_, rfl⟩
  rw [← hte] at hat hsu hmt hot
  obtain ⟨n1, n2, n3, n4, n5⟩ := hmt
  obtain ⟨p1, p2, p3, p4⟩ := hot
  obtain ⟨B, hB⟩ : ∃ B, B = P0 ++ (s.tabs.take j).flatMap tbB := ⟨_, rfl⟩
  have lB : B.length ≤ 1300000 := by rw [hB, List.length_append]; omega
  have hBn : P0 ++ (s.tabs.take (j + 1)).flatMap tbB = B ++ tbB t := by rw [hsu, hB, List.append_assoc]
  rw [← hB]
  have x1 := num_len t.id p1.1 p1.2
  have x2 := txt_len t.name (by omega)
  have x3 := num_len t.cols.length (by omega) (by omega)
  have x4 := num_len t.idxs.length (by omega) (by omega)
  have c1 := r12num1 t.id p1
  have c2 := text_ref t.name (by omega)
  have c3 := r12num1 t.cols.length (len_i _ (by omega))
  obtain ⟨B1, hB1⟩ : ∃ B1, B1 = B ++ (num t.id ++ txt t.name ++ num t.cols.length) := ⟨_, rfl⟩
  have lB1 : B1.length ≤ 1300200 := by rw [hB1]; simp only [List.length_append]; omega
  simp (maxSteps := 1000000) [hho, noHo, slotsOf, schA, tabA, hjl, hat, e0, -List.reduceReplicate]
  refine draw_cut (fun _ : Unit => ⟨slotsOf 139 [(1, .ptr 0 0 3), (3, .c (.string (str B1))), (5, .ptr 1 0 4), (21, .fs 4 s.tabs.length (tabsA s.tabs)), (22, .c (.int .i64 s.tabs.length)), (23, .c (.int .i64 (j : Nat)))], [.o .box (schA s), .o .box (tabA t)]⟩) (fun _ => True) ?_ ?_
  case refine_2 =>
    refine draw_k hho (.take 0 (.take 1 (.take 2 (.take 5 (.take 6 (.take 10 (.take 11 (.take 12 (.alt 3 (.alt 4 (.alt 7 (.take 8 (.take 9 (.alt 13 (.alt 14 (.take 15 (.take 16 (.take 17 (.done)))) (.nil)) (.nil)))) (.alt 13 (.alt 7 (.take 8 (.take 9 (.alt 14 (.take 15 (.take 16 (.take 17 (.done)))) (.nil)))) (.nil)) (.nil))) (.alt 13 (.alt 4 (.alt 7 (.take 8 (.take 9 (.alt 14 (.take 15 (.take 16 (.take 17 (.done)))) (.nil)))) (.nil)) (.nil)) (.nil))) (.alt 13 (.alt 3 (.alt 4 (.alt 7 (.take 8 (.take 9 (.alt 14 (.take 15 (.take 16 (.take 17 (.done)))) (.nil)))) (.nil)) (.nil)) (.nil)) (.nil))))))))))) [1] [] (by decide +kernel) (by simp) ?_
    simp (maxSteps := 1000000) [hho, noHo, roOf, holdOf, wrOf, altK, heldOk, Region.binds, -List.reduceReplicate]
    repeat' (first | apply And.intro | with_reducible intro _)
    all_goals try omega
    all_goals
      refine call_hd [] (fun k => decide (2 ≤ k)) (c1) rfl rfl ⟨rfl, rfl⟩ (by simp) (fun k hk => by have := of_decide_eq_true hk; simp; omega) (by simp) (by decide) (by simp) (by simp [isD_c, maxLen]) (by simp) ?_
      simp (maxSteps := 1000000) [hho, noHo, bytesOf_str, str_app, str_size, roOf, holdOf, wrOf, altK, heldOk, Region.binds, -List.reduceReplicate]
    repeat' (first | apply And.intro | with_reducible intro _)
    all_goals try omega
    all_goals
      refine call_h [] (c2) rfl rfl ⟨rfl, rfl⟩ (by simp) (by simp) (by decide) (by simp) (by simp) ?_
      simp (maxSteps := 1000000) [hho, noHo, bytesOf_str, str_app, str_size, roOf, holdOf, wrOf, altK, heldOk, Region.binds, -List.reduceReplicate]
    repeat' (first | apply And.intro | with_reducible intro _)
    all_goals try omega
    all_goals
      refine call_hd [] (fun k => decide (2 ≤ k)) (c3) rfl rfl ⟨rfl, rfl⟩ (by simp) (fun k hk => by have := of_decide_eq_true hk; simp; omega) (by simp) (by decide) (by simp) (by simp [isD_c, maxLen]) (by simp) ?_
      simp (maxSteps := 1000000) [hho, noHo, bytesOf_str, str_app, str_size, roOf, holdOf, wrOf, altK, heldOk, Region.binds, -List.reduceReplicate]
    repeat' (first | apply And.intro | with_reducible intro _)
    all_goals try omega
    all_goals
      refine dcut_to () trivial ?_
      exact wk_of 2 2 (by simp) (by simp [hE, lens]) (by simp [schA, tabA]) (by simp [livH, livO, AV.livL, AV.liv, wkL, wkV, List.range', schA, tabA]) (by simp [livH, livO, AV.livL, AV.liv, wkL, wkV, List.range', slotsOf, hB1])
  intro _ _
  have hflc := fun i => flat_len (f := colB) (m := 2000) (t.cols.take i) fun c hc => colB_any (n4 c (List.mem_of_mem_take hc)) (p3 c (List.mem_of_mem_take hc))
  have hflx := fun i => flat_len (f := idxB) (m := 500) (t.idxs.take i) fun x hx => idxB_any (n5 x (List.mem_of_mem_take hx)) (p4 x (List.mem_of_mem_take hx))
  simp (maxSteps := 1000000) [hho, noHo, slotsOf, tabA, -List.reduceReplicate]
  refine loop_kc [12] mixed (fun i : Nat => ⟨slotsOf 139 [(1, .ptr 0 0 3), (3, .c (.string (str (B1 ++ (t.cols.take i).flatMap colB)))), (5, .ptr 1 0 4), (21, .fs 4 s.tabs.length (tabsA s.tabs)), (22, .c (.int .i64 s.tabs.length)), (23, .c (.int .i64 (j : Nat))), (45, .fs 10 t.cols.length (colsA t.cols)), (46, .c (.int .i64 t.cols.length)), (47, .c (.int .i64 (i : Nat)))], [.o .box (schA s), .o .box (tabA t)]⟩) (fun i => t.cols.length - i) (fun i => i ≤ t.cols.length) 0 (Nat.zero_le _) ?_ ?_
  · exact wk_eq (by simp [hE, lens]) (by simp [schA, tabA]) (by simp [livH, livO, AV.livL, AV.liv, wkL, wkV, List.range', slotsOf])
  intro i hi
  have hfi := hflc i
  rw [List.length_take] at hfi
  by_cases hil : i < t.cols.length
  · have hat := colsA_at t.cols i hil
    have ew : IntKind.i64.wrap ((i : Int) + 1) = (i + 1 : Nat) := by rw [IntWalk.i64_in _ (by omega)]; rfl
    have el : i * 10 + 10 ≤ t.cols.length * 10 := by omega
    have hsv : (t.cols.take (i + 1)).flatMap colB = (t.cols.take i).flatMap colB ++ colB t.cols[i] := by rw [List.take_succ_eq_append_getElem hil, List.flatMap_append]; simp
    have hcm := n4 t.cols[i] (List.getElem_mem hil)
    have hco := p3 t.cols[i] (List.getElem_mem hil)
    obtain ⟨c, hce⟩ : ∃ c, c = t.cols[i] := ⟨_, rfl⟩
    rw [← hce] at hat hsv hcm hco
    obtain ⟨k1, k2⟩ := hcm
    obtain ⟨r1, r2, r3, r4, r5⟩ := hco
    have hdl := rowB_any c.dft k2 r4
    have d1 := r12num1 c.id r1
    have d2 := text_ref c.name (by omega)
    have d3 := r12flag_w c.nn
    have d4 := r12num3 c.ty.k c.ty.s (flagI c.nn) r3.1 r3.2 (flagI_i _)
    have d5 := put_any (dftR c.dft) (by have := dftR_len c.dft; omega) (fun x hx => by
      rw [dftR_mem hx]; exact ⟨cell0_i, by show c.dft.t.size ≤ 1000; omega, r4⟩)
    have d6 := text_ref (str (rowB (dftR c.dft))) (by rw [str_size]; omega)
    have d7 := r12num1 c.st r5
    have y1 := num_len c.id r1.1 r1.2
    have y2 := txt_len c.name (by omega)
    have y3 := num_len c.ty.k r3.1.1 r3.1.2
    have y4 := num_len c.ty.s r3.2.1 r3.2.2
    have y5 := flagI_len2 c.nn
    have y6 := txt_len (str (rowB (dftR c.dft))) (by rw [str_size]; omega)
    rw [str_size] at y6
    have y7 := num_len c.st r5.1 r5.2
    obtain ⟨Q, hQ⟩ : ∃ Q, Q = B1 ++ (t.cols.take i).flatMap colB := ⟨_, rfl⟩
    have lQ : Q.length ≤ 1400000 := by rw [hQ, List.length_append]; omega
    obtain ⟨D, hD⟩ : ∃ D, D = str (rowB (dftR c.dft)) := ⟨_, rfl⟩
    have hQn : B1 ++ (t.cols.take (i + 1)).flatMap colB = Q ++ (num c.id ++ (txt c.name ++ (num c.ty.k ++ (num c.ty.s ++ (num (flagI c.nn) ++ (txt D ++ num c.st)))))) := by rw [hsv, hQ, hD]; simp [colB]
    rw [← hQ]
    rw [← hD] at d5 d6 y6
    simp (maxSteps := 1000000) [hho, noHo, slotsOf, schA, tabA, colA, hil, hat, el, -List.reduceReplicate]
    refine seq_cut mixed [] (fun _ : Unit => ⟨slotsOf 139 [(1, .ptr 0 0 3), (3, .c (.string (str Q))), (5, .ptr 1 0 4), (7, .ptr 2 0 10), (8, .fs 5 (dftR c.dft).length (cellsA (dftR c.dft))), (21, .fs 4 s.tabs.length (tabsA s.tabs)), (22, .c (.int .i64 s.tabs.length)), (23, .c (.int .i64 (j : Nat))), (45, .fs 10 t.cols.length (colsA t.cols)), (46, .c (.int .i64 t.cols.length)), (47, .c (.int .i64 (i : Nat)))], [.o .box (schA s), .o .box (tabA t), .o .box (colA c)]⟩) (fun _ => True) ?_ ?_
    case refine_2 =>
      by_cases hk0 : c.dft.k = 0
      · have hdz : dftR c.dft = [] := if_pos hk0
        simp (maxSteps := 1000000) [hho, noHo, hk0, undef, onGP_none, condG_false, -List.reduceReplicate]
        refine cut_to () trivial ?_
        refine Wk.trans (wk_slot 8 (new := .fs 5 0 []) rfl fun G F w v _ h => nil_fs0 5 h) ?_
        exact wk_eq (by simp [hE, lens]) (by simp [schA, tabA, colA, hk0]) (by simp [livH, livO, AV.livL, AV.liv, wkL, wkV, List.range', slotsOf, hdz, cellsA])
      · have hdz : dftR c.dft = [⟨0, c.dft⟩] := if_neg hk0
        simp (maxSteps := 1000000) [hho, noHo, hk0, undef, onGP_none, condG_false, -List.reduceReplicate]
        refine cut_to () trivial ?_
        refine Wk.trans (wk_fz 3 rfl (by rw [hho]; rfl)) ?_
        refine Wk.trans (wk_slot 8 (new := .fs 5 1 (cellA ⟨0, c.dft⟩)) rfl fun G F w v hh h => fz_fs (k := 3) (sz := 5) (off := 0) (n := 1) (m := 5) (cs := cellA ⟨0, c.dft⟩) rfl rfl (by decide) (by unfold maxLen; decide) rfl hh h) ?_
        exact wk_of 3 1 (by simp) (by simp [hE, lens]) (by simp [schA, tabA, colA]) (by simp [livH, livO, AV.livL, AV.liv, wkL, wkV, List.range', schA, tabA, colA, cellA, valA]) (by simp [livH, livO, AV.livL, AV.liv, wkL, wkV, List.range', slotsOf, hdz, cellsA, cellA, valA])
    intro _ _
    have e10 : List.take 10 (colA c) = colA c := rfl
    simp (maxSteps := 1000000) [hho, noHo, slotsOf, tabA, colA, -List.reduceReplicate]
    refine draw_k hho (.take 0 (.take 1 (.take 2 (.take 5 (.take 6 (.take 10 (.take 11 (.take 12 (.take 13 (.take 14 (.take 15 (.take 16 (.take 17 (.take 22 (.take 27 (.take 28 (.alt 3 (.alt 4 (.alt 7 (.take 8 (.take 9 (.alt 18 (.alt 19 (.alt 20 (.take 21 (.alt 23 (.alt 24 (.take 25 (.take 26 (.alt 29 (.alt 30 (.take 31 (.take 32 (.take 33 (.done)))) (.nil)) (.nil)))) (.alt 29 (.alt 24 (.take 25 (.take 26 (.alt 30 (.take 31 (.take 32 (.take 33 (.done)))) (.nil)))) (.nil)) (.nil))) (.alt 29 (.alt 23 (.alt 24 (.take 25 (.take 26 (.alt 30 (.take 31 (.take 32 (.take 33 (.done)))) (.nil)))) (.nil)) (.nil)) (.nil)))) (.alt 29 (.alt 20 (.take 21 (.alt 23 (.alt 24 (.take 25 (.take 26 (.alt 30 (.take 31 (.take 32 (.take 33 (.done)))) (.nil)))) (.nil)) (.nil))) (.nil)) (.nil))) (.alt 29 (.alt 19 (.alt 20 (.take 21 (.alt 23 (.alt 24 (.take 25 (.take 26 (.alt 30 (.take 31 (.take 32 (.take 33 (.done)))) (.nil)))) (.nil)) (.nil))) (.nil)) (.nil)) (.nil))) (.alt 29 (.alt 18 (.alt 19 (.alt 20 (.take 21 (.alt 23 (.alt 24 (.take 25 (.take 26 (.alt 30 (.take 31 (.take 32 (.take 33 (.done)))) (.nil)))) (.nil)) (.nil))) (.nil)) (.nil)) (.nil)) (.nil))))) (.alt 29 (.alt 7 (.take 8 (.take 9 (.alt 18 (.alt 19 (.alt 20 (.take 21 (.alt 23 (.alt 24 (.take 25 (.take 26 (.alt 30 (.take 31 (.take 32 (.take 33 (.done)))) (.nil)))) (.nil)) (.nil))) (.nil)) (.nil)) (.nil)))) (.nil)) (.nil))) (.alt 29 (.alt 4 (.alt 7 (.take 8 (.take 9 (.alt 18 (.alt 19 (.alt 20 (.take 21 (.alt 23 (.alt 24 (.take 25 (.take 26 (.alt 30 (.take 31 (.take 32 (.take 33 (.done)))) (.nil)))) (.nil)) (.nil))) (.nil)) (.nil)) (.nil)))) (.nil)) (.nil)) (.nil))) (.alt 29 (.alt 3 (.alt 4 (.alt 7 (.take 8 (.take 9 (.alt 18 (.alt 19 (.alt 20 (.take 21 (.alt 23 (.alt 24 (.take 25 (.take 26 (.alt 30 (.take 31 (.take 32 (.take 33 (.done)))) (.nil)))) (.nil)) (.nil))) (.nil)) (.nil)) (.nil)))) (.nil)) (.nil)) (.nil)) (.nil))))))))))))))))))) [2] [] (by decide +kernel) (by simp) ?_
    simp (maxSteps := 1000000) [hho, noHo, roOf, holdOf, wrOf, altK, heldOk, Region.binds, -List.reduceReplicate]
    repeat' (first | apply And.intro | with_reducible intro _)
    all_goals try omega
    all_goals
      refine call_hd [] (fun k => decide (3 ≤ k)) (d1) rfl rfl ⟨rfl, rfl⟩ (by simp) (fun k hk => by have := of_decide_eq_true hk; simp; omega) (by simp) (by decide) (by simp) (by simp [isD_c, maxLen]) (by simp) ?_
      simp (maxSteps := 1000000) [hho, noHo, bytesOf_str, str_app, str_size, roOf, holdOf, wrOf, altK, heldOk, Region.binds, -List.reduceReplicate]
    repeat' (first | apply And.intro | with_reducible intro _)
    all_goals try omega
    all_goals
      refine call_h [] (d2) rfl rfl ⟨rfl, rfl⟩ (by simp) (by simp) (by decide) (by simp) (by simp) ?_
      simp (maxSteps := 1000000) [hho, noHo, bytesOf_str, str_app, str_size, roOf, holdOf, wrOf, altK, heldOk, Region.binds, -List.reduceReplicate]
    repeat' (first | apply And.intro | with_reducible intro _)
    all_goals try omega
    all_goals
      refine call_h [] (d3) rfl rfl ⟨rfl, rfl⟩ (by simp) (by simp) (by decide) (by simp) (by simp) ?_
      simp (maxSteps := 1000000) [hho, noHo, bytesOf_str, str_app, str_size, roOf, holdOf, wrOf, altK, heldOk, Region.binds, -List.reduceReplicate]
    repeat' (first | apply And.intro | with_reducible intro _)
    all_goals try omega
    all_goals
      refine call_hd [] (fun k => decide (3 ≤ k)) (d4) rfl rfl ⟨rfl, rfl⟩ (by simp) (fun k hk => by have := of_decide_eq_true hk; simp; omega) (by simp) (by decide) (by simp) (by simp [isD_c, maxLen]) (by simp) ?_
      simp (maxSteps := 1000000) [hho, noHo, bytesOf_str, str_app, str_size, roOf, holdOf, wrOf, altK, heldOk, Region.binds, -List.reduceReplicate]
    repeat' (first | apply And.intro | with_reducible intro _)
    all_goals try omega
    all_goals
      refine call_h [] (d5) rfl rfl ⟨rfl, rfl⟩ (by simp) (by simp) (by decide) (by simp) (by simp) ?_
      simp (maxSteps := 1000000) [hho, noHo, bytesOf_str, str_app, str_size, roOf, holdOf, wrOf, altK, heldOk, Region.binds, -List.reduceReplicate]
    repeat' (first | apply And.intro | with_reducible intro _)
    all_goals try omega
    all_goals
      refine call_h [] (d6) rfl rfl ⟨rfl, rfl⟩ (by simp) (by simp) (by decide) (by simp) (by simp) ?_
      simp (maxSteps := 1000000) [hho, noHo, bytesOf_str, str_app, str_size, roOf, holdOf, wrOf, altK, heldOk, Region.binds, -List.reduceReplicate]
    repeat' (first | apply And.intro | with_reducible intro _)
    all_goals try omega
    all_goals
      refine call_hd [] (fun k => decide (3 ≤ k)) (d7) rfl rfl ⟨rfl, rfl⟩ (by simp) (fun k hk => by have := of_decide_eq_true hk; simp; omega) (by simp) (by decide) (by simp) (by simp [isD_c, maxLen]) (by simp) ?_
      simp (maxSteps := 1000000) [hho, noHo, bytesOf_str, str_app, str_size, roOf, holdOf, wrOf, altK, heldOk, Region.binds, -List.reduceReplicate]
    repeat' (first | apply And.intro | with_reducible intro _)
    all_goals try omega
    all_goals
      refine round_next (i + 1) (by omega) (by omega) ?_
      exact wk_of 2 4 (by simp) (by simp [hE, lens]) (by simp [schA, tabA]) (by simp [livH, livO, AV.livL, AV.liv, wkL, wkV, List.range', schA, tabA]) (by simp [livH, livO, AV.livL, AV.liv, wkL, wkV, List.range', slotsOf, hQn, ew])
  obtain rfl : i = t.cols.length := by omega
  rw [List.take_length]
  have hfc := hflc t.cols.length
  rw [List.take_length] at hfc
  obtain ⟨B2, hB2⟩ : ∃ B2, B2 = B1 ++ t.cols.flatMap colB := ⟨_, rfl⟩
  have lB2 : B2.length ≤ 1400000 := by rw [hB2, List.length_append]; omega
  rw [← hB2]
  have c4 := r12num1 t.idxs.length (len_i _ (by omega))
  obtain ⟨B3, hB3⟩ : ∃ B3, B3 = B2 ++ num t.idxs.length := ⟨_, rfl⟩
  have lB3 : B3.length ≤ 1400100 := by rw [hB3, List.length_append]; omega
  simp (maxSteps := 1000000) [hho, noHo, slotsOf, schA, tabA, -List.reduceReplicate]
  refine call_f [] (fun k => k == 2) (c4) rfl rfl ⟨rfl, rfl⟩ hho (by simp) (by decide) (by simp) (by simp [isD_c, maxLen]) (by simp) ?_
  simp (maxSteps := 1000000) [hho, noHo, str_app, str_size, -List.reduceReplicate]
  refine ⟨by omega, ?_⟩
  rw [← hB3]
  refine loop_kc [12] mixed (fun i : Nat => ⟨slotsOf 139 [(1, .ptr 0 0 3), (3, .c (.string (str (B3 ++ (t.idxs.take i).flatMap idxB)))), (5, .ptr 1 0 4), (21, .fs 4 s.tabs.length (tabsA s.tabs)), (22, .c (.int .i64 s.tabs.length)), (23, .c (.int .i64 (j : Nat))), (101, .fs 5 t.idxs.length (idxsA t.idxs)), (102, .c (.int .i64 t.idxs.length)), (103, .c (.int .i64 (i : Nat)))], [.o .box (schA s), .o .box (tabA t)]⟩) (fun i => t.idxs.length - i) (fun i => i ≤ t.idxs.length) 0 (Nat.zero_le _) ?_ ?_
  · exact wk_of 2 1 (by simp) (by simp [hE, lens]) (by simp [schA, tabA]) (by simp [livH, livO, AV.livL, AV.liv, wkL, wkV, List.range', schA, tabA]) (by simp [livH, livO, AV.livL, AV.liv, wkL, wkV, List.range', slotsOf])
  intro i hi
  have hfi := hflx i
  rw [List.length_take] at hfi
  by_cases hil : i < t.idxs.length
  case neg =>
    obtain rfl : i = t.idxs.length := by omega
    rw [List.take_length]
    have hbn : B ++ tbB t = B3 ++ t.idxs.flatMap idxB := by rw [hB3, hB2, hB1]; simp [tbB]
    simp (maxSteps := 1000000) [hho, noHo, slotsOf, schA, tabA, ewj, -List.reduceReplicate]
    refine round_next (j + 1) (by omega) (by omega) ?_
    exact wk_of 1 1 (by simp) (by simp [hE, lens]) (by simp [schA]) (by simp [livH, livO, AV.livL, AV.liv, wkL, wkV, List.range', schA]) (by simp [livH, livO, AV.livL, AV.liv, wkL, wkV, List.range', slotsOf, hBn, hbn])
  have hat := idxsA_at t.idxs i hil
  have ew : IntKind.i64.wrap ((i : Int) + 1) = (i + 1 : Nat) := by rw [IntWalk.i64_in _ (by omega)]; rfl
  have el : i * 5 + 5 ≤ t.idxs.length * 5 := by omega
  have hsv : (t.idxs.take (i + 1)).flatMap idxB = (t.idxs.take i).flatMap idxB ++ idxB t.idxs[i] := by rw [List.take_succ_eq_append_getElem hil, List.flatMap_append]; simp
  have hxm := n5 t.idxs[i] (List.getElem_mem hil)
  have hxo := p4 t.idxs[i] (List.getElem_mem hil)
  obtain ⟨x, hxe⟩ : ∃ x, x = t.idxs[i] := ⟨_, rfl⟩
  rw [← hxe] at hat hsv hxm hxo
  obtain ⟨k1, k2⟩ := hxm
  obtain ⟨r1, r2, r3, r4⟩ := hxo
  have d1 := r12num1 x.id r1
  have d2 := text_ref x.name (by omega)
  have d3 := r12num1 x.cols.length (len_i _ (by omega))
  have d4 := r12num_w x.cols (by omega) r3
  have d5 := r12flag_w x.uniq
  have d6 := r12num2 (flagI x.uniq) x.st (flagI_i _) r4
  have y1 := num_len x.id r1.1 r1.2
  have y2 := txt_len x.name (by omega)
  have y3 := num_len x.cols.length (by omega) (by omega)
  have y4 := numsB_len x.cols r3
  have y5 := flagI_len2 x.uniq
  have y7 := num_len x.st r4.1 r4.2
  obtain ⟨Q, hQ⟩ : ∃ Q, Q = B3 ++ (t.idxs.take i).flatMap idxB := ⟨_, rfl⟩
  have lQ : Q.length ≤ 1500000 := by rw [hQ, List.length_append]; omega
  have hQn : B3 ++ (t.idxs.take (i + 1)).flatMap idxB = Q ++ (num x.id ++ (txt x.name ++ (num x.cols.length ++ (numsB x.cols ++ (num (flagI x.uniq) ++ num x.st))))) := by rw [hsv, hQ]; simp [idxB, numsB]
  rw [← hQ]
  simp (maxSteps := 1000000) [hho, noHo, slotsOf, schA, tabA, idxA, hil, hat, el, -List.reduceReplicate]
  refine draw_k hho (.take 0 (.take 1 (.take 2 (.take 5 (.take 6 (.take 10 (.take 11 (.take 12 (.take 16 (.take 17 (.take 20 (.take 21 (.take 23 (.take 24 (.alt 3 (.alt 4 (.alt 7 (.take 8 (.take 9 (.alt 13 (.alt 14 (.take 15 (.alt 18 (.take 19 (.alt 22 (.alt 25 (.alt 26 (.take 27 (.take 28 (.take 29 (.done)))) (.nil)) (.nil)) (.nil))) (.nil))) (.nil)) (.nil)))) (.alt 13 (.alt 7 (.take 8 (.take 9 (.alt 14 (.take 15 (.alt 18 (.take 19 (.alt 22 (.alt 25 (.alt 26 (.take 27 (.take 28 (.take 29 (.done)))) (.nil)) (.nil)) (.nil))) (.nil))) (.nil)))) (.nil)) (.nil))) (.alt 13 (.alt 4 (.alt 7 (.take 8 (.take 9 (.alt 14 (.take 15 (.alt 18 (.take 19 (.alt 22 (.alt 25 (.alt 26 (.take 27 (.take 28 (.take 29 (.done)))) (.nil)) (.nil)) (.nil))) (.nil))) (.nil)))) (.nil)) (.nil)) (.nil))) (.alt 13 (.alt 3 (.alt 4 (.alt 7 (.take 8 (.take 9 (.alt 14 (.take 15 (.alt 18 (.take 19 (.alt 22 (.alt 25 (.alt 26 (.take 27 (.take 28 (.take 29 (.done)))) (.nil)) (.nil)) (.nil))) (.nil))) (.nil)))) (.nil)) (.nil)) (.nil)) (.nil))))))))))))))))) [2] [] (by decide +kernel) (by simp) ?_
  simp (maxSteps := 1000000) [hho, noHo, roOf, holdOf, wrOf, altK, heldOk, Region.binds, -List.reduceReplicate]
  repeat' (first | apply And.intro | with_reducible intro _)
  all_goals try omega
  all_goals
    refine call_hd [] (fun k => decide (3 ≤ k)) (d1) rfl rfl ⟨rfl, rfl⟩ (by simp) (fun k hk => by have := of_decide_eq_true hk; simp; omega) (by simp) (by decide) (by simp) (by simp [isD_c, maxLen]) (by simp) ?_
    simp (maxSteps := 1000000) [hho, noHo, bytesOf_str, str_app, str_size, roOf, holdOf, wrOf, altK, heldOk, Region.binds, -List.reduceReplicate]
  repeat' (first | apply And.intro | with_reducible intro _)
  all_goals try omega
  all_goals
    refine call_h [] (d2) rfl rfl ⟨rfl, rfl⟩ (by simp) (by simp) (by decide) (by simp) (by simp) ?_
    simp (maxSteps := 1000000) [hho, noHo, bytesOf_str, str_app, str_size, roOf, holdOf, wrOf, altK, heldOk, Region.binds, -List.reduceReplicate]
  repeat' (first | apply And.intro | with_reducible intro _)
  all_goals try omega
  all_goals
    refine call_hd [] (fun k => decide (3 ≤ k)) (d3) rfl rfl ⟨rfl, rfl⟩ (by simp) (fun k hk => by have := of_decide_eq_true hk; simp; omega) (by simp) (by decide) (by simp) (by simp [isD_c, maxLen]) (by simp) ?_
    simp (maxSteps := 1000000) [hho, noHo, bytesOf_str, str_app, str_size, roOf, holdOf, wrOf, altK, heldOk, Region.binds, -List.reduceReplicate]
  repeat' (first | apply And.intro | with_reducible intro _)
  all_goals try omega
  all_goals
    refine call_h [] (d4) rfl rfl ⟨rfl, rfl⟩ (by simp) (by simp) (by decide) (by simp) (by simp) ?_
    simp (maxSteps := 1000000) [hho, noHo, bytesOf_str, str_app, str_size, roOf, holdOf, wrOf, altK, heldOk, Region.binds, -List.reduceReplicate]
  repeat' (first | apply And.intro | with_reducible intro _)
  all_goals try omega
  all_goals
    refine call_h [] (d5) rfl rfl ⟨rfl, rfl⟩ (by simp) (by simp) (by decide) (by simp) (by simp) ?_
    simp (maxSteps := 1000000) [hho, noHo, bytesOf_str, str_app, str_size, roOf, holdOf, wrOf, altK, heldOk, Region.binds, -List.reduceReplicate]
  repeat' (first | apply And.intro | with_reducible intro _)
  all_goals try omega
  all_goals
    refine call_hd [] (fun k => decide (3 ≤ k)) (d6) rfl rfl ⟨rfl, rfl⟩ (by simp) (fun k hk => by have := of_decide_eq_true hk; simp; omega) (by simp) (by decide) (by simp) (by simp [isD_c, maxLen]) (by simp) ?_
    simp (maxSteps := 1000000) [hho, noHo, bytesOf_str, str_app, str_size, roOf, holdOf, wrOf, altK, heldOk, Region.binds, -List.reduceReplicate]
  repeat' (first | apply And.intro | with_reducible intro _)
  all_goals try omega
  all_goals
    refine round_next (i + 1) (by omega) (by omega) ?_
    exact wk_of 2 4 (by simp) (by simp [hE, lens]) (by simp [schA, tabA]) (by simp [livH, livO, AV.livL, AV.liv, wkL, wkV, List.range', schA, tabA]) (by simp [livH, livO, AV.livL, AV.liv, wkL, wkV, List.range', slotsOf, hQn, ew])
end Go.Proofs.YthgoocdldnkogaaDoor
