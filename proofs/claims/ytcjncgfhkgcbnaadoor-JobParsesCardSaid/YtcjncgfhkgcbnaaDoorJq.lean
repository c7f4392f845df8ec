import Derived.Test.YtcjncgfhkgcbnaaDoorJp
import Derived.Test.YtcjncgfhkgcbnaaDoorH6
namespace Go.Proofs.YtcjncgfhkgcbnaaDoor
set_option linter.unusedVariables false
set_option linter.unusedSimpArgs false
open Go.RowKit
attribute [local simp] isCut_nil isCut_region isCut_seq isCut_block isCut_loop isCut_cond isCut_skip isCut_exit isCut_ret isCut_range swapK putK altK condK_bool pickP_bool stepP stepO onPure_some onPure_none onImpl_some onImpl_none stepC onGP_some onGP_none onGV_some condG mkG onIt_it nextP_ptr takeP_eq takeV_some takeV_none takeU_some takeU_none takeQ takeW_some takeN_none takeN_some takeG_some takeO_some altO_some pureV binV2 eqF eqOp ovlV ovl2 rowAt capV binV intBin strBin isSh shV fldV ixV sliceV slice3V loadAV nilV lenV callV unV convV viewS cellsH loadV fldCut AV.ung AV.ungs AV.gc AV.cells AS.ev AS.put anyS gcsV gcO lens lnO gV guardV retK RetP_eq resV oneV anyRo loIx hiIx implO callP_clo evL gcsL clearV storeAV AS.push AS.setO appV appZ shortS copyV buildV partsV fillV srcV fzO okV isCell_c isCell_ptr isCell_sl isCell_fs isCell_fp isCell_clo rowZ_one rowZ_zero rowZ_2 rowZ_3 rowZ_4 rowZ_5 rowZ_6 rowZ_7 rowZ_8 rowZ_9 rowZ_10 rowZ_11 rowZ_12 noHo Value.oneCell' max2V min2V lookV updV lenM msAt afterH putBack frzFrom frzO rebO backIx nilEq_sl nilEq_fs nilOp_eql nilOp_neq AV.reb AV.rebL
attribute [local simp ↓] runK_skip runK_region runK_draw runK_seq runK_cut runK_cond runK_block runK_loop runK_exit runK_label runK_goto runK_ret runK_range contK_nil contK_seq contK_seq_ret contK_seq_exit contK_seq_goto contK_block contK_block_ret contK_block_goto contK_block_exit runO_nil runO_cons roundK_exit roundK_ret roundK_goto exitK_ret cutK_ret cutK_exit runE_done runE_nil runE_take runE_alt condG_true condG_false
set_option maxRecDepth 10000
theorem Kt.goK {σ α R : Type} {S : Sys σ} {t : σ} {g : Bs → Option (α × Bs)} {k : List α → Bs → Option R} {n : Int} {acc : List α} {tot : Option R} (h : Kt S t (kL g k n acc) tot) (hn : 0 < n) : Kt S t (bd g fun x => kL g k (n - 1) (acc ++ [x])) tot := by
  rw [kL_go g k n hn] at h; exact h
theorem Kt.endK {σ α R : Type} {S : Sys σ} {t : σ} {g : Bs → Option (α × Bs)} {k : List α → Bs → Option R} {acc : List α} {tot : Option R} (h : Kt S t (kL g k 0 acc) tot) : Kt S t (k acc) tot := by
  rw [kL_end] at h; exact h
theorem Kt.deadP {m : Nat} {R : Type} {t : PSt} {k : Bs → Option R} {tot : Option R} (h : Kt (pSys m) t k tot) (hd : t.1 = none ∨ t.2 = true) : tot = none := by
  rcases h.2 with ⟨_, h2⟩ | ⟨b, rfl, _⟩
  · exact h2
  · rcases hd with h | h <;> cases h
theorem Kt.liveP {m : Nat} {R : Type} {b : Bs} {k : Bs → Option R} {tot : Option R} (h : Kt (pSys m) (some b, false) k tot) : tot = k b := by
  rcases h.2 with ⟨h1, _⟩ | ⟨c, e, h2⟩
  · rcases h1 with h1 | h1 <;> cases h1
  · have e := congrArg Prod.fst e
    have e : some b = some c := e
    injection e with e
    rw [e]; exact h2
theorem sN_kL {α R : Type} (g : Bs → Option (α × Bs)) (K : List α → Bs → Option R) (n : Int) (hn : 0 ≤ n) : bd (sN g n.toNat) K = kL g K n [] := by
  funext b
  have h : ¬ n < 0 := by omega
  simp only [kL, if_neg h, List.nil_append]
def nilJ : AV := .c (.slice none 0 0)
def jbX (id kind table : Int) (name : ByteArray) (a : AV) (iname : ByteArray) (b : AV) (u : Bool) (item other : Int) (mark : ByteArray) (full fence back : Bool) (err : Int) (fin : Bool) : List AV := [.c (.int .i64 id), .c (.int .i64 kind), .c (.int .i64 table), .c (.string name), a, .c (.int .i64 0), .c (.string iname), b, .c (.bool u), .c (.int .i64 0), .c (.int .i64 item), .c (.int .i64 other), .c (.string mark), .c (.bool full), .c (.bool fence), .c (.bool back), .c (.int .i64 err), .c (.bool fin)]
def jb0 (id kind table : Int) (name : ByteArray) (a : AV) (iname : ByteArray) (b : AV) : List AV := jbX id kind table name a iname b false 0 0 ByteArray.empty false false false 0 false
def jobZc : List AV := jb0 0 0 0 ByteArray.empty nilJ ByteArray.empty nilJ
def jobZ : JobS := ⟨0, 0, 0, ByteArray.empty, [], ⟨0, ByteArray.empty, [], false, 0⟩, 0, 0, ByteArray.empty, false, false, false, 0, false⟩
theorem jobZ_nil : NilL jobZc (jobA jobZ) := .same _ (.same _ (.same _ (.same _ (.slice 10 (.same _ (.same _ (.slice 1 (.same _ (.same _ (.same _ (.same _ (.same _ (.same _ (.same _ (.same _ (.same _ (.same _ .nil)))))))))))))))))
def jobParseA (b : Bs) : AV := match parJob b with
  | some j => .tup [.agg (jobA j), .c (.bool true)]
  | none => .tup [.agg (jobA jobZ), .c (.bool false)]
theorem Ret.nilJ {st : Nat → Bool} {h : List AObj} {l l' : List AV} {u : AV} {Post : AV → List AObj → Prop} (hn : NilL l l') (hr : Ret st Post h (.tup [.agg l', u])) : Ret st Post h (.tup [.agg l, u]) := by
  refine Ret.wk (fun E hE => ?_) hr
  refine wk_slot 0 (old := .tup [.agg l, u]) rfl fun G F w v _ hv => ?_
  obtain ⟨cs, rfl, h1, h2⟩ := tup_inv hv
  refine .tup _ cs h1 fun j u' x hu hx => ?_
  match j, hu with
  | 0, hu => simp at hu; subst hu; exact nil_agg hn (h2 0 _ x rfl hx)
  | 1, hu => simp at hu; subst hu; exact h2 1 _ x rfl hx
@[simp] theorem rdCells_livJ (l : List Nat) (s : Option Bs) : AV.livL l (rdCells s) = true := by cases s <;> simp [rdCells, AV.livL, AV.liv]
set_option maxHeartbeats 32000000 in
theorem jbParse_w (b : Bs) (hb : b.length ≤ 100000) : ACalls Tryd.prog 11 [.fs 1 b.length (u8av b)] [] (fun _ => false) (fun r h' => r = jobParseA b ∧ h' = []) := by
  refine acalls mixed Tryd.func11 rfl Tryd.ntmps11 rfl fun E hE hst hho => ?_
  unfold jobParseA
  obtain ⟨tot, htot⟩ : ∃ tot, tot = parJob b := ⟨_, rfl⟩
  rw [← htot]
  have k0 : Kt (pSys 100000) (some b, false) parJob tot := ⟨fun l e => (by injection e with e; subst e; exact hb), .inr ⟨b, rfl, htot⟩⟩
  clear htot
  have c0 := read_b b (by omega)
  obtain ⟨s0, hs0⟩ : ∃ s, s = some b := ⟨_, rfl⟩
  rw [← hs0] at k0 c0
  clear hs0
  unfold parJob at k0
  have c1 := number_b s0 (big_ofJ (show ∀ l, s0 = some l → l.length ≤ 100000 from k0.1) (by omega))
  obtain ⟨k1, o1⟩ := Kt.step (pNum_sim 100000) k0
  simp only [pNum] at k1 o1
  obtain ⟨q1, e1⟩ : ∃ q, q = rnumS s0 := ⟨_, rfl⟩
  rw [← e1] at c1 k1 o1
  obtain ⟨id, s1⟩ := q1
  simp only at c1 k1 o1
  clear e1
  have c2 := number_b s1 (big_ofJ (show ∀ l, s1 = some l → l.length ≤ 100000 from k1.1) (by omega))
  obtain ⟨k2, o2⟩ := Kt.step (pNum_sim 100000) k1
  simp only [pNum] at k2 o2
  obtain ⟨q2, e2⟩ : ∃ q, q = rnumS s1 := ⟨_, rfl⟩
  rw [← e2] at c2 k2 o2
  obtain ⟨kind, s2⟩ := q2
  simp only at c2 k2 o2
  clear e2
  have c3 := number_b s2 (big_ofJ (show ∀ l, s2 = some l → l.length ≤ 100000 from k2.1) (by omega))
  obtain ⟨k3, o3⟩ := Kt.step (pNum_sim 100000) k2
  simp only [pNum] at k3 o3
  obtain ⟨q3, e3⟩ : ∃ q, q = rnumS s2 := ⟨_, rfl⟩
  rw [← e3] at c3 k3 o3
  obtain ⟨table, s3⟩ := q3
  simp only at c3 k3 o3
  clear e3
  have c4 := text_b s3 (big_ofJ (show ∀ l, s3 = some l → l.length ≤ 100000 from k3.1) (by omega))
  obtain ⟨k4, o4⟩ := Kt.step (pText_sim 100000) k3
  simp only [pText] at k4 o4
  obtain ⟨q4, e4⟩ : ∃ q, q = rtextS s3 := ⟨_, rfl⟩
  rw [← e4] at c4 k4 o4
  obtain ⟨name, s4⟩ := q4
  simp only at c4 k4 o4
  clear e4
  simp only [sMany, bd_assoc] at k4
  have c5 := count_b s4 (big_ofJ (show ∀ l, s4 = some l → l.length ≤ 100000 from k4.1) (by omega)) 12
  obtain ⟨k5, o5⟩ := Kt.step (pCnt_sim 100000 12 (by omega)) k4
  simp only [pCnt] at k5 o5
  obtain ⟨q5, e5⟩ : ∃ q, q = rcountS s4 12 := ⟨_, rfl⟩
  rw [← e5] at c5 k5 o5
  obtain ⟨ni, s5⟩ := q5
  simp only at c5 k5 o5
  clear e5
  rw [sN_kL _ _ _ o5.1] at k5
  obtain ⟨n, rfl⟩ : ∃ n : Nat, ni = n := ⟨ni.toNat, by omega⟩
  simp (maxSteps := 1000000) [hho, noHo, -List.reduceReplicate]
  refine call_x [] (c0) rfl rfl ⟨rfl, rfl⟩ hho (by simp) (by decide) (by simp) (by simp) ?_
  simp (maxSteps := 1000000) [hho, noHo, -List.reduceReplicate]
  refine call_x [1] (c1) rfl (rd_ho rfl) ⟨rfl, rfl⟩ hho (by simp) (by decide) ⟨by simp, rdP_ok _, trivial⟩ (by simp) ?_
  simp (maxSteps := 1000000) [hho, noHo, -List.reduceReplicate]
  refine call_x [1] (c2) rfl (rd_ho rfl) ⟨rfl, rfl⟩ hho (by simp) (by decide) ⟨by simp, rdP_ok _, trivial⟩ (by simp) ?_
  simp (maxSteps := 1000000) [hho, noHo, -List.reduceReplicate]
  refine call_x [1] (c3) rfl (rd_ho rfl) ⟨rfl, rfl⟩ hho (by simp) (by decide) ⟨by simp, rdP_ok _, trivial⟩ (by simp) ?_
  simp (maxSteps := 1000000) [hho, noHo, -List.reduceReplicate]
  refine call_x [1] (c4) rfl (rd_ho rfl) ⟨rfl, rfl⟩ hho (by simp) (by decide) ⟨by simp, rdP_ok _, trivial⟩ (by simp) ?_
  simp (maxSteps := 1000000) [hho, noHo, -List.reduceReplicate]
  refine call_x [1] (c5) rfl (rd_ho rfl) ⟨rfl, rfl⟩ hho (by simp) (by decide) ⟨by simp, rdP_ok _, trivial⟩ (by simp) ?_
  simp (maxSteps := 1000000) [hho, noHo, -List.reduceReplicate]
  refine loop_k mixed (fun y : Nat × List ColS × Option Bs => ⟨slotsOf 94 [(2, .ptr 0 0 18), (4, .ptr 1 0 2), (5, .ptr 2 0 18), (20, .c (.int .i64 n)), (21, .c (.int .i64 (y.1 : Nat)))], [.o .box jobZc, .o .box (rdCells y.2.2), .o .box (jb0 id kind table (str name) (.sl 3 10 0 y.1 (y.1 * 10)) ByteArray.empty nilJ), .o (.row 59 10) (colsA y.2.1)]⟩) (fun y => n - y.1) (fun y => y.1 ≤ n ∧ y.2.1.length = y.1 ∧ Kt (pSys 100000) (y.2.2, false) (kL sJC (fun cols => sJob2 id kind table (str name) cols) ((n : Int) - y.1) y.2.1) tot ∧ ∀ c ∈ y.2.1, ColM 100000 c) (0, [], s5) ⟨Nat.zero_le _, rfl, by simpa using k5, fun c h => (by cases h)⟩ ?_ ?_
  · refine Wk.trans (wk_virtC 2 4 59 10 rfl rfl) ?_
    exact wk_eq (by simp [hE, lens]) (by simp [jobZc, jb0, jbX, nilJ, colsA]) (by simp [livH, livO, AV.livL, AV.liv, wkL, wkV, List.range', slotsOf])
  rintro ⟨i, cols, s⟩ ⟨hi, hl, hk, hc⟩
  simp only at hi hl hk hc
  by_cases hin : i < n
  · have ew : IntKind.i64.wrap ((i : Int) + 1) = (i + 1 : Nat) := by rw [IntWalk.i64_in _ (by omega)]; rfl
    have hin' : (i : Int) < n := by omega
    have k6 := hk.goK (by omega)
    have c6 := jbun_w s (show ∀ l, s = some l → l.length ≤ 100000 from k6.1)
    obtain ⟨k7, o7⟩ := Kt.step (pJC_sim 100000) k6
    obtain ⟨q, e⟩ : ∃ q, q = pJC (s, false) := ⟨_, rfl⟩
    rw [← e] at c6 k7 o7
    obtain ⟨v, s', x⟩ := q
    simp only at c6 k7 o7
    clear e
    cases x with
    | true =>
      rw [k7.deadP (.inr rfl)]
      simp (maxSteps := 1000000) [hho, noHo, slotsOf, jobZc, jb0, jbX, nilJ, hin, hin', undef, onGP_none, condG_false, -List.reduceReplicate]
      refine call_x [1] (c6) rfl (rd_ho rfl) ⟨rfl, rfl⟩ hho (by simp) (by decide) ⟨by simp, rdP_ok _, trivial⟩ (by simp) ?_
      simp (maxSteps := 1000000) [hho, noHo, colA, undef, onGP_none, condG_false, -List.reduceReplicate]
      exact Ret.nilJ jobZ_nil (Ret.sel [] (fun _ => false) (ho := by rfl) (ha := by rfl) (by simp) (by simp [jobA, jobZ]) (by decide) (by simp) (fun i _ h => by cases h) ⟨rfl, rfl⟩)
    | false =>
    have hsn := colsA_snoc cols v
    have enk : (n : Int) - i - 1 = n - (i + 1 : Nat) := by omega
    rw [enk] at k7
    simp (maxSteps := 1000000) [hho, noHo, slotsOf, jobZc, jb0, jbX, nilJ, hin, hin', undef, onGP_none, condG_false, -List.reduceReplicate]
    refine call_x [1] (c6) rfl (rd_ho rfl) ⟨rfl, rfl⟩ hho (by simp) (by decide) ⟨by simp, rdP_ok _, trivial⟩ (by simp) ?_
    simp (maxSteps := 1000000) [hho, noHo, colA, ew, hl, undef, onGP_none, condG_false, -List.reduceReplicate]
    refine ⟨by omega, round_next (i + 1, cols ++ [v], s') ⟨by simp only; omega, by simp [hl], k7, fun y hy => (List.mem_append.1 hy).elim (hc y) fun h => by rw [List.mem_singleton.1 h]; exact o7⟩ (by simp only; omega) ?_⟩
    exact wk_of 4 2 (by simp) (by simp [hE, lens]) (by simp [jobZc, jb0, jbX, nilJ, hsn, colA, Nat.add_mul]) (by simp [livH, livO, AV.livL, AV.liv, wkL, wkV, List.range', jobZc, jb0, jbX, nilJ]) (by simp [livH, livO, AV.livL, AV.liv, wkL, wkV, List.range', slotsOf, Nat.add_mul])
  obtain rfl : i = n := by omega
  rw [Int.sub_self] at hk
  have k8 := hk.endK
  clear k0 k1 k2 k3 k4 k5 hk
  simp only [sJob2] at k8
  have c9 := text_b s (big_ofJ (show ∀ l, s = some l → l.length ≤ 100000 from k8.1) (by omega))
  obtain ⟨k9, o9⟩ := Kt.step (pText_sim 100000) k8
  simp only [pText] at k9 o9
  obtain ⟨q9, e9⟩ : ∃ q, q = rtextS s := ⟨_, rfl⟩
  rw [← e9] at c9 k9 o9
  obtain ⟨iname, s9⟩ := q9
  simp only at c9 k9 o9
  clear e9
  simp only [sMany, bd_assoc] at k9
  have c10 := count_b s9 (big_ofJ (show ∀ l, s9 = some l → l.length ≤ 100000 from k9.1) (by omega)) 4
  obtain ⟨k10, o10⟩ := Kt.step (pCnt_sim 100000 4 (by omega)) k9
  simp only [pCnt] at k10 o10
  obtain ⟨q10, e10⟩ : ∃ q, q = rcountS s9 4 := ⟨_, rfl⟩
  rw [← e10] at c10 k10 o10
  obtain ⟨mi, s10⟩ := q10
  simp only at c10 k10 o10
  clear e10
  rw [sN_kL _ _ _ o10.1] at k10
  obtain ⟨m, rfl⟩ : ∃ m : Nat, mi = m := ⟨mi.toNat, by omega⟩
  simp (maxSteps := 1000000) [hho, noHo, slotsOf, jobZc, jb0, jbX, nilJ, -List.reduceReplicate]
  refine call_x [1] (c9) rfl (rd_ho rfl) ⟨rfl, rfl⟩ hho (by simp) (by decide) ⟨by simp, rdP_ok _, trivial⟩ (by simp) ?_
  simp (maxSteps := 1000000) [hho, noHo, -List.reduceReplicate]
  refine call_x [1] (c10) rfl (rd_ho rfl) ⟨rfl, rfl⟩ hho (by simp) (by decide) ⟨by simp, rdP_ok _, trivial⟩ (by simp) ?_
  simp (maxSteps := 1000000) [hho, noHo, -List.reduceReplicate]
  refine loop_k mixed (fun y : Nat × List Int × Option Bs => ⟨slotsOf 94 [(2, .ptr 0 0 18), (4, .ptr 1 0 2), (5, .ptr 2 0 18), (43, .c (.int .i64 m)), (44, .c (.int .i64 (y.1 : Nat)))], [.o .box jobZc, .o .box (rdCells y.2.2), .o .box (jb0 id kind table (str name) (.sl 3 10 0 i (i * 10)) (str iname) (.sl 4 1 0 y.1 y.1)), .o (.row 59 10) (colsA cols), .o (.row 3 1) (intsA y.2.1)]⟩) (fun y => m - y.1) (fun y => y.1 ≤ m ∧ y.2.1.length = y.1 ∧ Kt (pSys 100000) (y.2.2, false) (kL sNum (fun icols => sJob3 id kind table (str name) cols (str iname) icols) ((m : Int) - y.1) y.2.1) tot) (0, [], s10) ⟨Nat.zero_le _, rfl, by simpa using k10⟩ ?_ ?_
  · refine Wk.trans (wk_virtC 2 7 3 1 rfl rfl) ?_
    exact wk_eq (by simp [hE, lens]) (by simp [jobZc, jb0, jbX, nilJ, intsA]) (by simp [livH, livO, AV.livL, AV.liv, wkL, wkV, List.range', slotsOf])
  rintro ⟨p, ks, s⟩ ⟨hp, hpl, hpk⟩
  simp only at hp hpl hpk
  by_cases hpm : p < m
  · have ew : IntKind.i64.wrap ((p : Int) + 1) = (p + 1 : Nat) := by rw [IntWalk.i64_in _ (by omega)]; rfl
    have hpm' : (p : Int) < m := by omega
    have k11 := hpk.goK (by omega)
    have c12 := number_b s (big_ofJ (show ∀ l, s = some l → l.length ≤ 100000 from k11.1) (by omega))
    obtain ⟨k12, o12⟩ := Kt.step (pNum_sim 100000) k11
    simp only [pNum] at k12 o12
    obtain ⟨q12, e12⟩ : ∃ q, q = rnumS s := ⟨_, rfl⟩
    rw [← e12] at c12 k12 o12
    obtain ⟨z, s12⟩ := q12
    simp only at c12 k12 o12
    clear e12
    have hsn : intsA (ks ++ [z]) = intsA ks ++ [.c (.int .i64 z)] := by simp [intsA]
    have enk : (m : Int) - p - 1 = m - (p + 1 : Nat) := by omega
    rw [enk] at k12
    simp (maxSteps := 1000000) [hho, noHo, slotsOf, jobZc, jb0, jbX, nilJ, hpm, hpm', undef, onGP_none, condG_false, -List.reduceReplicate]
    refine draw_k hho (.take 0 (.take 1 (.take 2 (.take 3 (.alt 4 (.alt 5 (.alt 6 (.take 7 (.take 8 (.alt 9 (.done) (.nil)))) (.nil)) (.nil)) (.nil)))))) [2] [(4, [1]), (6, [4]), (9, [2])] (by decide +kernel) (by simp) ?_
    simp (maxSteps := 1000000) [hho, noHo, roOf, holdOf, wrOf, altK, heldOk, Region.binds, -List.reduceReplicate]
    intros
    refine call_h [1] (c12) rfl (rd_ho rfl) ⟨rfl, rfl⟩ (by simp) (by simp) (by decide) ⟨by simp, rdP_ok _, trivial⟩ (by simp) ?_
    simp (maxSteps := 1000000) [hho, noHo, hpl, ew, roOf, holdOf, wrOf, altK, heldOk, Region.binds, -List.reduceReplicate]
    repeat' (first | apply And.intro | with_reducible intro _)
    all_goals try omega
    all_goals
      refine round_next (p + 1, ks ++ [z], s12) ⟨by simp only; omega, by simp [hpl], k12⟩ (by simp only; omega) ?_
      exact wk_of 5 1 (by simp) (by simp [hE, lens]) (by simp [jobZc, jb0, jbX, nilJ, hsn]) (by simp [livH, livO, AV.livL, AV.liv, wkL, wkV, List.range', jobZc, jb0, jbX, nilJ]) (by simp [livH, livO, AV.livL, AV.liv, wkL, wkV, List.range', slotsOf])
  obtain rfl : p = m := by omega
  rw [Int.sub_self] at hpk
  have k13 := hpk.endK
  clear k8 k9 k10 hpk
  simp only [sJob3] at k13
  have c14 := flag_b s (big_ofJ (show ∀ l, s = some l → l.length ≤ 100000 from k13.1) (by omega))
  obtain ⟨k14, o14⟩ := Kt.step (pFlag_sim 100000) k13
  simp only [pFlag] at k14 o14
  obtain ⟨q14, e14⟩ : ∃ q, q = rflagS s := ⟨_, rfl⟩
  rw [← e14] at c14 k14
  obtain ⟨u, s14⟩ := q14
  simp only at c14 k14
  clear e14
  have c15 := number_b s14 (big_ofJ (show ∀ l, s14 = some l → l.length ≤ 100000 from k14.1) (by omega))
  obtain ⟨k15, o15⟩ := Kt.step (pNum_sim 100000) k14
  simp only [pNum] at k15 o15
  obtain ⟨q15, e15⟩ : ∃ q, q = rnumS s14 := ⟨_, rfl⟩
  rw [← e15] at c15 k15 o15
  obtain ⟨item, s15⟩ := q15
  simp only at c15 k15 o15
  clear e15
  have c16 := number_b s15 (big_ofJ (show ∀ l, s15 = some l → l.length ≤ 100000 from k15.1) (by omega))
  obtain ⟨k16, o16⟩ := Kt.step (pNum_sim 100000) k15
  simp only [pNum] at k16 o16
  obtain ⟨q16, e16⟩ : ∃ q, q = rnumS s15 := ⟨_, rfl⟩
  rw [← e16] at c16 k16 o16
  obtain ⟨other, s16⟩ := q16
  simp only at c16 k16 o16
  clear e16
  have c17 := text_b s16 (big_ofJ (show ∀ l, s16 = some l → l.length ≤ 100000 from k16.1) (by omega))
  obtain ⟨k17, o17⟩ := Kt.step (pText_sim 100000) k16
  simp only [pText] at k17 o17
  obtain ⟨q17, e17⟩ : ∃ q, q = rtextS s16 := ⟨_, rfl⟩
  rw [← e17] at c17 k17 o17
  obtain ⟨mark, s17⟩ := q17
  simp only at c17 k17 o17
  clear e17
  have c18 := flag_b s17 (big_ofJ (show ∀ l, s17 = some l → l.length ≤ 100000 from k17.1) (by omega))
  obtain ⟨k18, o18⟩ := Kt.step (pFlag_sim 100000) k17
  simp only [pFlag] at k18 o18
  obtain ⟨q18, e18⟩ : ∃ q, q = rflagS s17 := ⟨_, rfl⟩
  rw [← e18] at c18 k18
  obtain ⟨full, s18⟩ := q18
  simp only at c18 k18
  clear e18
  have c19 := flag_b s18 (big_ofJ (show ∀ l, s18 = some l → l.length ≤ 100000 from k18.1) (by omega))
  obtain ⟨k19, o19⟩ := Kt.step (pFlag_sim 100000) k18
  simp only [pFlag] at k19 o19
  obtain ⟨q19, e19⟩ : ∃ q, q = rflagS s18 := ⟨_, rfl⟩
  rw [← e19] at c19 k19
  obtain ⟨fence, s19⟩ := q19
  simp only at c19 k19
  clear e19
  have c20 := flag_b s19 (big_ofJ (show ∀ l, s19 = some l → l.length ≤ 100000 from k19.1) (by omega))
  obtain ⟨k20, o20⟩ := Kt.step (pFlag_sim 100000) k19
  simp only [pFlag] at k20 o20
  obtain ⟨q20, e20⟩ : ∃ q, q = rflagS s19 := ⟨_, rfl⟩
  rw [← e20] at c20 k20
  obtain ⟨back, s20⟩ := q20
  simp only at c20 k20
  clear e20
  have c21 := number_b s20 (big_ofJ (show ∀ l, s20 = some l → l.length ≤ 100000 from k20.1) (by omega))
  obtain ⟨k21, o21⟩ := Kt.step (pNum_sim 100000) k20
  simp only [pNum] at k21 o21
  obtain ⟨q21, e21⟩ : ∃ q, q = rnumS s20 := ⟨_, rfl⟩
  rw [← e21] at c21 k21 o21
  obtain ⟨err, s21⟩ := q21
  simp only at c21 k21 o21
  clear e21
  have c22 := flag_b s21 (big_ofJ (show ∀ l, s21 = some l → l.length ≤ 100000 from k21.1) (by omega))
  obtain ⟨k22, o22⟩ := Kt.step (pFlag_sim 100000) k21
  simp only [pFlag] at k22 o22
  obtain ⟨q22, e22⟩ : ∃ q, q = rflagS s21 := ⟨_, rfl⟩
  rw [← e22] at c22 k22
  obtain ⟨fin, s22⟩ := q22
  simp only at c22 k22
  clear e22
  have c23 := end_b s22
  obtain ⟨J, hJ⟩ : ∃ J : JobS, J = ⟨id, kind, table, str name, cols, ⟨0, str iname, ks, u, 0⟩, item, other, str mark, full, fence, back, err, fin⟩ := ⟨_, rfl⟩
  have hJA : jobA J = jbX id kind table (str name) (.fs 10 cols.length (colsA cols)) (str iname) (.fs 1 ks.length (intsA ks)) u item other (str mark) full fence back err fin := by rw [hJ]; rfl
  rw [← hJ] at k22
  have hJb : JobBig J := by
    rw [hJ]
    exact ⟨by simp only at o9 ⊢; omega, by simp only; omega, by simp only; omega, by simp only at o17 ⊢; omega, fun c h => by have := hc c h; exact ⟨by have := this.1; omega, by have := this.2; omega⟩⟩
  have cR := jbRight_w J hJb
  have hLl : (colsA cols).length = i * 10 := by rw [colsA_length, hl]
  have htk : List.take (i * 10) (colsA cols) = colsA cols := List.take_of_length_le (by omega)
  have hLi : (intsA ks).length = p := by rw [intsA_length, hpl]
  have hti : List.take (p * 1) (intsA ks) = intsA ks := List.take_of_length_le (by omega)
  have eC : AV.fs 10 cols.length (colsA cols) = .fs 10 i (List.take (i * 10) (List.drop 0 (colsA cols))) := by rw [List.drop_zero, htk, hl]
  have eI : AV.fs 1 ks.length (intsA ks) = .fs 1 p (List.take (p * 1) (List.drop 0 (intsA ks))) := by rw [List.drop_zero, hti, hpl]
  rw [hJA, eC, eI] at cR
  simp only [jbX] at cR
  simp (maxSteps := 1000000) [hho, noHo, slotsOf, jobZc, jb0, jbX, nilJ, -List.reduceReplicate]
  refine call_x [1] (c14) rfl (rd_ho rfl) ⟨rfl, rfl⟩ hho (by simp) (by decide) ⟨by simp, rdP_ok _, trivial⟩ (by simp) ?_
  simp (maxSteps := 1000000) [hho, noHo, -List.reduceReplicate]
  refine call_x [1] (c15) rfl (rd_ho rfl) ⟨rfl, rfl⟩ hho (by simp) (by decide) ⟨by simp, rdP_ok _, trivial⟩ (by simp) ?_
  simp (maxSteps := 1000000) [hho, noHo, -List.reduceReplicate]
  refine call_x [1] (c16) rfl (rd_ho rfl) ⟨rfl, rfl⟩ hho (by simp) (by decide) ⟨by simp, rdP_ok _, trivial⟩ (by simp) ?_
  simp (maxSteps := 1000000) [hho, noHo, -List.reduceReplicate]
  refine call_x [1] (c17) rfl (rd_ho rfl) ⟨rfl, rfl⟩ hho (by simp) (by decide) ⟨by simp, rdP_ok _, trivial⟩ (by simp) ?_
  simp (maxSteps := 1000000) [hho, noHo, -List.reduceReplicate]
  refine call_x [1] (c18) rfl (rd_ho rfl) ⟨rfl, rfl⟩ hho (by simp) (by decide) ⟨by simp, rdP_ok _, trivial⟩ (by simp) ?_
  simp (maxSteps := 1000000) [hho, noHo, -List.reduceReplicate]
  refine call_x [1] (c19) rfl (rd_ho rfl) ⟨rfl, rfl⟩ hho (by simp) (by decide) ⟨by simp, rdP_ok _, trivial⟩ (by simp) ?_
  simp (maxSteps := 1000000) [hho, noHo, -List.reduceReplicate]
  refine call_x [1] (c20) rfl (rd_ho rfl) ⟨rfl, rfl⟩ hho (by simp) (by decide) ⟨by simp, rdP_ok _, trivial⟩ (by simp) ?_
  simp (maxSteps := 1000000) [hho, noHo, -List.reduceReplicate]
  refine call_x [1] (c21) rfl (rd_ho rfl) ⟨rfl, rfl⟩ hho (by simp) (by decide) ⟨by simp, rdP_ok _, trivial⟩ (by simp) ?_
  simp (maxSteps := 1000000) [hho, noHo, -List.reduceReplicate]
  refine call_x [1] (c22) rfl (rd_ho rfl) ⟨rfl, rfl⟩ hho (by simp) (by decide) ⟨by simp, rdP_ok _, trivial⟩ (by simp) ?_
  simp (maxSteps := 1000000) [hho, noHo, -List.reduceReplicate]
  refine call_x [1] (c23) rfl (rd_ho rfl) ⟨rfl, rfl⟩ hho (by simp) (by decide) ⟨by simp, rdP_ok _, trivial⟩ (by simp) ?_
  by_cases h3 : s22 = some []
  case neg =>
    have hN : tot = none := by
      cases h4 : s22 with
      | none => exact k22.deadP (.inl h4)
      | some d =>
        rw [h4] at k22 h3
        rw [k22.liveP]
        exact if_neg fun h => h3 (by rw [h.1])
    rw [hN]
    simp (maxSteps := 1000000) [hho, noHo, h3, undef, onGP_none, condG_false, -List.reduceReplicate]
    exact Ret.nilJ jobZ_nil (Ret.sel [] (fun _ => false) (ho := by rfl) (ha := by rfl) (by simp) (by simp [jobA, jobZ]) (by decide) (by simp) (fun i _ h => by cases h) ⟨rfl, rfl⟩)
  simp (maxSteps := 1000000) [hho, noHo, h3, undef, onGP_none, condG_false, -List.reduceReplicate]
  refine call_plain (fun k => k == 3 || k == 4) cR (ha := by rfl) ?_ ?_
  · exact ⟨⟨trivial, trivial, trivial, trivial, ⟨hLl, by omega, by unfold maxLen; omega, by rw [List.drop_zero, htk]; exact List.all_eq_true.2 ((colsA_all cols).2 trivial)⟩, trivial, trivial, ⟨hLi, by omega, by unfold maxLen; omega, by rw [List.drop_zero, hti]; exact List.all_eq_true.2 ((intsA_all ks).2 trivial)⟩, trivial, trivial, trivial, trivial, trivial, trivial, trivial, trivial, trivial, trivial, trivial⟩, trivial⟩
  rintro r h' ⟨rfl, rfl⟩
  refine ⟨rfl, ?_⟩
  subst h3
  have hL := k22.liveP
  cases hok : jobOk J with
  | false =>
    have hN : tot = none := by rw [hL]; exact if_neg fun h => by rw [hok] at h; cases h.2
    rw [hN]
    simp (maxSteps := 1000000) [hho, noHo, undef, onGP_none, condG_false, -List.reduceReplicate]
    exact Ret.nilJ jobZ_nil (Ret.sel [] (fun _ => false) (ho := by rfl) (ha := by rfl) (by simp) (by simp [jobA, jobZ]) (by decide) (by simp) (fun i _ h => by cases h) ⟨rfl, rfl⟩)
  | true =>
    have hG : tot = some J := by rw [hL]; exact if_pos ⟨rfl, hok⟩
    rw [hG]
    simp (maxSteps := 1000000) [hho, noHo, undef, onGP_none, condG_false, -List.reduceReplicate]
    refine Ret.sel [] (fun k => k == 3 || k == 4) (ho := by rfl) (ha := by rfl) ?_ ?_ (by decide) (by simp) (fun i _ h => by cases h) ⟨?_, rfl⟩
    · simp
    · exact ⟨⟨trivial, trivial, trivial, trivial, ⟨hLl, by omega, by unfold maxLen; omega, by rw [List.drop_zero, htk]; exact List.all_eq_true.2 ((colsA_all cols).2 trivial)⟩, trivial, trivial, ⟨hLi, by omega, by unfold maxLen; omega, by rw [List.drop_zero, hti]; exact List.all_eq_true.2 ((intsA_all ks).2 trivial)⟩, trivial, trivial, trivial, trivial, trivial, trivial, trivial, trivial, trivial, trivial, trivial⟩, trivial, trivial⟩
    · rw [hJA, eC, eI]; rfl
end Go.Proofs.YtcjncgfhkgcbnaaDoor
