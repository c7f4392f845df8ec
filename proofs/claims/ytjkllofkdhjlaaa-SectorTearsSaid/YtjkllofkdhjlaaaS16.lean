import Derived.Test.YtjkllofkdhjlaaaS15
import Derived.Test.YtjkllofkdhjlaaaWs
namespace Go.Proofs.Ytjkllofkdhjlaaa
set_option linter.unusedVariables false
set_option linter.unusedSimpArgs false
open Go.RowKit
attribute [local simp] isCut_nil isCut_region isCut_seq isCut_block isCut_loop isCut_cond isCut_skip isCut_exit isCut_ret isCut_range swapK putK altK condK_bool pickP_bool stepP stepO onPure_some onPure_none onImpl_some onImpl_none stepC onGP_some onGP_none onGV_some condG onIt_it nextP_ptr takeP_eq takeV_some takeN_none takeN_some takeG_some takeO_some altO_some pureV binV intBin strBin isSh shV fldV ixV sliceV loadAV nilV lenV callV unV convV viewS cellsH loadV fldCut AV.ung AV.gc AV.cells AS.ev AS.put anyS gcsV lens lnO gV guardV retK RetP_eq resV oneV anyRo loIx hiIx implO callP_clo evL gcsL storeAV AS.push AS.setO appV copyV buildV partsV fillV srcV fzO okV isCell_c isCell_ptr isCell_sl isCell_fs isCell_fp isCell_clo rowZ_one rowZ_zero rowZ_2 rowZ_3 rowZ_4 rowZ_5 rowZ_6 rowZ_7 rowZ_8 rowZ_9 rowZ_10 rowZ_11 rowZ_12 noHo Value.oneCell' max2V min2V afterH putBack frzFrom frzO rebO backIx nilEq_sl nilEq_fs nilOp_eql nilOp_neq AV.reb AV.rebL
attribute [local simp ↓] runK_skip runK_region runK_draw runK_seq runK_cut runK_cond runK_block runK_loop runK_exit runK_label runK_goto runK_ret runK_range contK_nil contK_seq contK_seq_ret contK_seq_exit contK_seq_goto contK_block contK_block_ret contK_block_goto contK_block_exit runO_nil runO_cons roundK_exit roundK_ret roundK_goto exitK_ret cutK_ret cutK_exit runE_done runE_nil runE_take runE_alt condG_true condG_false
set_option maxRecDepth 10000
/-- the reference's device whose blocks begin at handle k -/
def refAt (k : Nat) (d : DevS) : List AObj :=
  [.o .box [.sl (k + 1) 1 0 d.kept.length d.kept.length, .sl (k + 2) 2 0 d.wait.length (d.wait.length * 2), .c (.int .i64 (leftR d)), .c (.int .i64 d.calls)],
   .o (.row 9 1) (refK d.kept), .o (.row 65 2) (refW d.wait)]
/-- what the reference's device is behind a write: its row is a new one -/
def refV (d : DevS) (d' : DevS) : List AObj :=
  [.o .box [.sl 1 1 0 d.kept.length d.kept.length, .sl 3 2 0 d'.wait.length (d'.wait.length * 2), .c (.int .i64 (leftR d')), .c (.int .i64 d'.calls)],
   .o (.row 9 1) (refK d.kept), .o (.row 65 2) (refW d.wait), .o (.row 65 2) (refW d'.wait)]
theorem r6write_new (d : DevS) (hd : d.Ok) (i : Int) (b : ByteArray) (hb : b.size ≤ 1000000) (hc : checkS d i b.size = 0) : ACalls Try.prog 11 [.ptr 0 0 4, .c (.int .i64 i), .c (.string b)] (refO d) (fun k => decide (k < 4)) (fun r h' => r = .c (.int .i64 0) ∧ h' = refV d (writeS d i b.data.toList)) := by
  have esz : b.data.size = b.size := rfl
  refine acalls mixed Try.func11 rfl Try.ntmps11 rfl fun E hE _ hho => ?_
  simp [refO, hho, -List.reduceReplicate]
  refine call_x [0, 1, 2] (r6check_ref d hd i b) rfl rfl ⟨rfl, rfl⟩ hho (by simp) (by decide) (by simp) (by simp [refO]) ?_
  simp [refO, hho, hc, -List.reduceReplicate]
  refine ⟨by have := hd.wl; omega, ?_⟩
  obtain ⟨k1, k2, k3, k4⟩ := check_ok hc
  have e : ((i.toNat : Nat) : Int) = i := by omega
  refine call_plain (fun _ => false) (full_ref b hb) (ha := by rfl) (by simp) ?_
  rintro r h' ⟨rfl, rfl⟩
  refine ⟨rfl, ?_⟩
  simp [hho, full_pad b k3, -List.reduceReplicate]
  refine ⟨by have := hd.wl; omega, ?_⟩
  refine call_x [0, 1, 3] (r6count_ref { d with wait := d.wait ++ [(i.toNat, padB b.data.toList)] } ⟨hd.c1, hd.c2⟩ fun hb => ⟨by have := k4 hb; have := hd.l1; simp only; omega, hd.l2⟩) rfl rfl ?_ hho (by simp) (by decide) ?_ (by simp [refO]) ?_
  · simp [refO, refW, refWc, strV, leftR, e, Nat.add_mul]
  · simp [refO, -List.reduceReplicate]
  simp [refO, hho, -List.reduceReplicate]
  refine Ret.sel [0, 1, 2, 3] (fun _ => false) (ho := by rfl) (ha := by rfl) ?_ ?_ (by decide) (by simp) (st_lt 4 _) ⟨?_, ?_⟩
  · simp
  · simp
  · simp [hc]
  · simp [writeS, esz, hc, refV, countS]
theorem r6write_err (d : DevS) (hd : d.Ok) (i : Int) (b : ByteArray) (hc : checkS d i b.size ≠ 0) : ACalls Try.prog 11 [.ptr 0 0 4, .c (.int .i64 i), .c (.string b)] (refO d) (fun _ => true) (fun r h' => r = .c (.int .i64 (checkS d i b.size)) ∧ h' = refO d) := by
  refine acalls mixed Try.func11 rfl Try.ntmps11 rfl fun E hE _ hho => ?_
  simp [refO, hho, -List.reduceReplicate]
  refine call_x [0, 1, 2] (r6check_ref d hd i b) rfl rfl ⟨rfl, rfl⟩ hho (by simp) (by decide) (by simp) (by simp [refO]) ?_
  simp [refO, hho, hc, -List.reduceReplicate]
  exact Ret.same ⟨rfl, rfl⟩
theorem writeS_kept (d : DevS) (i : Int) (l : List UInt8) : (writeS d i l).kept = d.kept := by
  unfold writeS; split <;> rfl
theorem u8_of_wrap (x : Int) : Value.int .u8 (IntKind.u8.wrap x) = u8 (UInt8.ofNat (IntKind.u8.wrap x).toNat) := by
  have h : 0 ≤ IntKind.u8.wrap x ∧ IntKind.u8.wrap x < 256 := by rw [IntKind.wrap_u8]; omega
  simp only [u8, UInt8.toNat_ofNat']
  congr 1
  omega
def xorB (b : UInt8) : UInt8 := UInt8.ofNat (IntKind.u8.wrap ((b.toNat % 2 ^ IntKind.u8.bits ^^^ 255 % 2 ^ IntKind.u8.bits : Nat) : Int)).toNat
theorem u8av_put (l : List UInt8) (k : Nat) (b : UInt8) (hk : k < l.length) : u8av (List.take k l) ++ AV.c (u8 b) :: u8av (List.drop (k + 1) l) = u8av (l.set k b) := by
  have e : AV.c (u8 b) :: u8av (List.drop (k + 1) l) = u8av (b :: l.drop (k + 1)) := by simp [u8av]
  rw [e, ← u8av_app, List.set_eq_take_append_cons_drop, if_pos hk]
theorem u8av_drop0 (l : List UInt8) (k : Nat) (hk : k < l.length) : (u8av (List.drop k l))[0]? = some (AV.c (.int .u8 (l[k].toNat))) := by
  simp [u8av, u8, hk]
/-- what is known of the device in the loop -/
structure PlOk (n j : Nat) (D : DevS) : Prop where
  ok : D.Ok
  kn : D.kept.length = n
  cj : D.calls ≤ j
  wj : D.wait.length ≤ j
theorem PlOk.up {n j : Nat} {D : DevS} (h : PlOk n j D) : PlOk n (j + 1) D := ⟨h.ok, h.kn, by have := h.cj; omega, by have := h.wj; omega⟩
theorem PlOk.write {n j : Nat} {D : DevS} (h : PlOk n j D) (hj : j ≤ 100) (i : Int) (l : List UInt8) : PlOk n (j + 1) (writeS D i l) := by
  have h1 := h.cj
  have h2 := h.wj
  refine ⟨write_Ok h.ok (by omega) (by omega), ?_, ?_, ?_⟩ <;> unfold writeS <;> split <;> (try simp [countS]) <;> (try exact h.kn) <;> omega
theorem PlOk.flush {n j : Nat} {D : DevS} (h : PlOk n j D) (hj : j ≤ 100) : PlOk n (j + 1) (flushS D) := by
  have h1 := h.cj
  have h2 := h.wj
  have h3 := h.ok
  have hk := h.kn
  unfold flushS
  split
  · rename_i hc
    obtain ⟨k1, k2, k3, k4⟩ := check_ok hc
    refine ⟨⟨by simp [countS], by simp [countS]; omega, by simp [countS]; have := h3.k2; omega, ?_, ?_, ?_, ?_, by simp [countS]⟩, by simp [countS, hk], by simp [countS]; omega, by simp [countS]⟩
    · have := h3.l1; simp only [countS]; split
      · have := k4 (by assumption); omega
      · exact h3.l1
    · have := h3.l2; simp only [countS]; split <;> omega
    · have := h3.c1; simp only [countS]; omega
    · simp only [countS]; omega
  · exact h.up
theorem PlOk.limit {n j : Nat} {D : DevS} (h : PlOk n j D) (i : Int) (hi : i64ok i) : PlOk n (j + 1) { D with bound := true, left := max i 0 } := by
  obtain ⟨⟨w1, k1, k2, l1, l2, c1, c2, wl⟩, kn, cj, wj⟩ := h
  unfold i64ok at hi
  exact ⟨⟨w1, k1, k2, by simp only; omega, by simp only; omega, c1, c2, wl⟩, kn, by simp only; omega, by simp only; omega⟩
theorem PlOk.crash {n j : Nat} {D : DevS} (h : PlOk n j D) (t : List Int) : PlOk n (j + 1) (crashS t D) := by
  obtain ⟨⟨w1, k1, k2, l1, l2, c1, c2, wl⟩, kn, cj, wj⟩ := h
  exact ⟨⟨by simp [crashS], by simp [crashS]; omega, by simp [crashS]; omega, l1, l2, c1, c2, by simp [crashS]⟩, by simp [crashS, kn], by simp only [crashS]; omega, by simp [crashS]⟩
theorem new_pl (n : Nat) (h1 : 1 ≤ n) (h8 : n ≤ 8) : PlOk n 0 (newS n) := ⟨newS_ok n h1 (by omega), by simp [newS], by simp [newS], by simp [newS]⟩
set_option maxHeartbeats 4000000 in
theorem plays_walk (s : Int) (_ : -9223372036854775808 ≤ s ∧ s ≤ 9223372036854775807) (sc : List Op6) (hs : sc.length ≤ maxLen ∧ ∀ o ∈ sc, o.Ok) : ACalls Try.prog 3 [.c (.int .i64 s), .fs 4 sc.length (scriptA sc)] [] (fun _ => false) (fun r h' => r = .c (.bool true)) := by
  refine acalls mixed Try.func3 rfl Try.ntmps3 rfl fun E hE hst hho => ?_
  simp (maxSteps := 1000000) [hho, -List.reduceReplicate]
  refine call_plain (fun _ => false) first_sec (ha := by rfl) (by simp) ?_
  rintro r h' ⟨rfl, rfl⟩
  refine ⟨rfl, ?_⟩
  obtain ⟨n, hn, n1, n8⟩ : ∃ n : Nat, IntKind.i64.wrap (1 + IntKind.i64.wrap ((IntKind.u64.wrap s).tmod 8)) = (n : Int) ∧ 1 ≤ n ∧ n ≤ 8 := by
    have := ixU_range 8 (by decide) (by decide) s
    unfold ixU at this
    refine ⟨(1 + IntKind.i64.wrap ((IntKind.u64.wrap s).tmod 8)).toNat, ?_, by omega, by omega⟩
    rw [IntWalk.i64_in _ (by omega)]; omega
  simp (maxSteps := 1000000) [hho, hn, -List.reduceReplicate]
  obtain ⟨d0, h0⟩ : ∃ d0, d0 = newS n := ⟨_, rfl⟩
  refine call_x [] (new_ok n (by omega) (by omega)) rfl rfl ⟨rfl, rfl⟩ hho (by simp) (by decide) (by simp) (by simp) ?_
  rw [show ((n : Nat) : Int).toNat = n from rfl, ← h0]
  simp (maxSteps := 1000000) [hho, devO, -List.reduceReplicate]
  refine call_x [] (r6new_ref n (by omega)) rfl rfl ⟨rfl, rfl⟩ hho (by simp) (by decide) (by simp) (by simp) ?_
  rw [← h0]
  simp (maxSteps := 1000000) [hho, refO, -List.reduceReplicate]
  refine loop_k2c [23] mixed (fun x : Nat × DevS => ⟨slotsOf 208 [(0, .c (.int .i64 s)), (5, .c (.int .i64 n)), (6, .ptr 0 0 5), (8, .ptr 3 0 4), (39, .fs 4 sc.length (scriptA sc)), (40, .c (.int .i64 sc.length)), (41, .c (.int .i64 (x.1 : Int)))], devAt 0 x.2 ++ refAt 3 x.2⟩) (fun x => sc.length - x.1) (fun x => x.1 ≤ sc.length ∧ x.1 ≤ 80 ∧ PlOk n x.1 x.2) (0, d0)
    (fun D : DevS => ⟨slotsOf 208 [(0, .c (.int .i64 s)), (5, .c (.int .i64 n)), (6, .ptr 0 0 5), (8, .ptr 3 0 4)], devAt 0 D ++ refAt 3 D⟩) (fun D => PlOk n 80 D) 0 ⟨Nat.zero_le _, Nat.zero_le _, by rw [h0]; exact new_pl n n1 n8⟩ ?_ ?_ ?_
  · simp (maxSteps := 1000000) [devAt, refAt, slotsOf]
    exact wk_of 6 0 (by simp) (by simp [hE, lens]) rfl (by simp [livH, livO, AV.livL, AV.liv, wkL, wkV, List.range']) (by simp [livH, livO, AV.livL, AV.liv, wkL, wkV, List.range'])
  · intro D hD
    simp (maxSteps := 1000000) [devAt, refAt, slotsOf, hho, -List.reduceReplicate]
    have hDk : (D.kept.length : Int) = n := by rw [hD.kn]
    by_cases hc : checkS D s 0 = 0
    · refine call_x [0, 1, 2] (read_ok D hD.ok s hc) rfl rfl ⟨rfl, rfl⟩ hho (by simp) (by decide) (by simp) (by simp [devO]) ?_
      simp (maxSteps := 1000000) [hho, devO, -List.reduceReplicate]
      refine call_x [3, 4, 5] (r6read_ref D hD.ok s) rfl rfl ⟨rfl, rfl⟩ hho (by simp) (by decide) (by simp) (by simp [refO]) ?_
      have hcur : bytesOf (u8av (curS D s.toNat).1) = strB (readB D s.toNat) := by rw [bytesOf_u8]; rfl
      simp (maxSteps := 1000000) [hho, refO, hc, hcur, -List.reduceReplicate]
      refine ⟨isU8_all _, ?_⟩
      refine call_x [0, 1, 2] (sectors_dev D) rfl rfl ⟨rfl, rfl⟩ hho (by simp) (by decide) (by simp) (by simp [devO]) ?_
      simp (maxSteps := 1000000) [hho, hDk, -List.reduceReplicate]
      exact Ret.drop (by decide) rfl
    · refine call_x [0, 1, 2] (read_err D s hc) rfl rfl ⟨rfl, rfl⟩ hho (by simp) (by decide) (by simp) (by simp [devO]) ?_
      simp (maxSteps := 1000000) [hho, devO, -List.reduceReplicate]
      refine call_x [3, 4, 5] (r6read_ref D hD.ok s) rfl rfl ⟨rfl, rfl⟩ hho (by simp) (by decide) (by simp) (by simp [refO]) ?_
      have hz : bytesOf [] = ByteArray.empty := rfl
      simp (maxSteps := 1000000) [hho, refO, hc, hz, -List.reduceReplicate]
      refine call_x [0, 1, 2] (sectors_dev D) rfl rfl ⟨rfl, rfl⟩ hho (by simp) (by decide) (by simp) (by simp [devO]) ?_
      simp (maxSteps := 1000000) [hho, hDk, -List.reduceReplicate]
      exact Ret.drop (by decide) rfl
  · rintro ⟨j, D⟩ ⟨hj, hj80, hD⟩
    simp only at hj hj80 hD
    by_cases hlt : j < sc.length
    · obtain ⟨o, ho⟩ : ∃ o, o = sc[j] := ⟨_, rfl⟩
      have hoo : o.Ok := by rw [ho]; exact hs.2 _ (List.getElem_mem hlt)
      have hat : List.take 4 (List.drop (j * 4) (scriptA sc)) = op6A o := by rw [ho]; exact flat_at op6A 4 (by simp) sc j hlt
      by_cases hbr : j < 80 ∧ o.b.length ≤ 200 ∧ o.tears.length ≤ 200
      · obtain ⟨h80, hb, ht⟩ := hbr
        have h80i : ¬ (80 : Int) ≤ j := by omega
        have hbi : ¬ (200 : Int) < o.b.length := by omega
        have hti : ¬ (200 : Int) < o.tears.length := by omega
        simp (maxSteps := 1000000) [devAt, refAt, slotsOf, hho, hlt, hat, op6A, h80, h80i, hb, hbi, ht, hti, -List.reduceReplicate]
        refine ⟨by omega, seq_cut mixed [] (fun x : DevS × Int => ⟨slotsOf 208 [(0, .c (.int .i64 s)), (5, .c (.int .i64 n)), (6, .ptr 0 0 5), (8, .ptr 3 0 4), (11, .sl 7 1 0 o.b.length o.b.length), (12, .c (.int .i64 x.2)), (13, .c (.int .i64 x.2)), (39, .fs 4 sc.length (scriptA sc)), (40, .c (.int .i64 sc.length)), (41, .c (.int .i64 (j : Int)))], devAt 0 x.1 ++ refAt 3 x.1 ++ [.o .box (op6A o), .o (.row 5 1) (u8av o.b)]⟩) (fun x => PlOk n (j + 1) x.1) ?_ ?_⟩
        · rintro ⟨D2, e⟩ hD2
          simp only at hD2
          simp (maxSteps := 1000000) [devAt, refAt, slotsOf, hho, op6A, -List.reduceReplicate]
          refine loop_k mixed (fun x : Nat × List UInt8 => ⟨slotsOf 208 [(0, .c (.int .i64 s)), (5, .c (.int .i64 n)), (6, .ptr 0 0 5), (8, .ptr 3 0 4), (11, .sl 7 1 0 o.b.length o.b.length), (12, .c (.int .i64 e)), (13, .c (.int .i64 e)), (39, .fs 4 sc.length (scriptA sc)), (40, .c (.int .i64 sc.length)), (41, .c (.int .i64 (j : Int))), (109, .c (.int .i64 o.b.length)), (110, .c (.int .i64 x.1))], devAt 0 D2 ++ refAt 3 D2 ++ [.o .box (op6A o), .o (.row 5 1) (u8av x.2)]⟩) (fun x => o.b.length - x.1) (fun x => x.1 ≤ o.b.length ∧ x.2.length = o.b.length) (0, o.b) ⟨Nat.zero_le _, rfl⟩ ?_ ?_
          · simp (maxSteps := 1000000) [devAt, refAt, slotsOf, op6A]
            exact wk_of 8 0 (by simp) (by simp [hE, lens]) rfl (by simp [livH, livO, AV.livL, AV.liv, wkL, wkV, List.range']) (by simp [livH, livO, AV.livL, AV.liv, wkL, wkV, List.range'])
          · rintro ⟨k, l⟩ ⟨hk, hl⟩
            simp only at hk hl
            by_cases hkn : k < o.b.length
            · have hkl : k < l.length := by omega
              have ew : IntKind.i64.wrap ((k : Int) + 1) = (k + 1 : Nat) := by rw [IntWalk.i64_in _ (by omega)]; rfl
              simp (maxSteps := 1000000) [devAt, refAt, slotsOf, hho, op6A, hkn, hkl, hl, ew, u8av_drop0 l k hkl, -List.reduceReplicate]
              simp only [u8_of_wrap, u8av_put l k _ hkl]
              refine ⟨by omega, round_next (k + 1, l.set k (xorB l[k])) ⟨by simp only; omega, by simpa using hl⟩ (by simp only; omega) ?_⟩
              simp (maxSteps := 1000000) [devAt, refAt, slotsOf, op6A]
              exact wk_of 8 0 (by simp) (by simp [hE, lens]) rfl (by simp [livH, livO, AV.livL, AV.liv, wkL, wkV, List.range']) (by simp [livH, livO, AV.livL, AV.liv, wkL, wkV, List.range'])
            · obtain rfl : k = o.b.length := by omega
              simp (maxSteps := 1000000) [devAt, refAt, slotsOf, hho, op6A, -List.reduceReplicate]
              refine draw_k hho (.take 0 (.take 1 (.take 2 (.take 3 (.take 4 (.take 6 (.take 7 (.take 8 (.take 9 (.take 10 (.alt 5 (.take 11 (.take 12 (.take 13 (.take 14 (.take 16 (.take 17 (.take 18 (.take 19 (.alt 15 (.take 20 (.take 21 (.done))) (.nil)))))))))) (.nil)))))))))))) [3] [] (by decide +kernel) (by simp) ?_
              simp (maxSteps := 1000000) [roOf, holdOf, wrOf, altK, heldOk, Region.binds, -List.reduceReplicate]
              intro E2
              refine call_h [0, 1, 2] (waiting_dev D2) rfl rfl ⟨rfl, rfl⟩ (by simp) (by simp) (by decide) (by simp) (by simp [devO]) ?_
              simp (maxSteps := 1000000) [devO, roOf, holdOf, wrOf, altK, heldOk, Region.binds, -List.reduceReplicate]
              intro E3
              refine call_h [0, 1, 2] (calls_dev D2) rfl rfl ⟨rfl, rfl⟩ (by simp) (by simp) (by decide) (by simp) (by simp [devO]) ?_
              simp (maxSteps := 1000000) [devO, roOf, holdOf, wrOf, altK, heldOk, Region.binds, -List.reduceReplicate]
              have hD2k := hD2.kn
              refine loop_k mixed (fun q : Nat => ⟨slotsOf 208 [(0, .c (.int .i64 s)), (5, .c (.int .i64 n)), (6, .ptr 0 0 5), (8, .ptr 3 0 4), (15, .c (.int .i64 ((q : Int) - 1))), (39, .fs 4 sc.length (scriptA sc)), (40, .c (.int .i64 sc.length)), (41, .c (.int .i64 (j : Int)))], devAt 0 D2 ++ refAt 3 D2⟩) (fun q => n + 2 - q) (fun q => q ≤ n + 2) 0 (Nat.zero_le _) ?_ ?_
              · simp (maxSteps := 1000000) [devAt, refAt, slotsOf]
                exact wk_of 6 2 (by simp) (by simp [hE, lens]) rfl (by simp [livH, livO, AV.livL, AV.liv, wkL, wkV, List.range']) (by simp [livH, livO, AV.livL, AV.liv, wkL, wkV, List.range'])
              · intro q hq
                by_cases hqn : q < n + 2
                · have hqi : (q : Int) - 1 ≤ n := by omega
                  have ewq : IntKind.i64.wrap (q : Int) = q := IntWalk.i64_in _ (by omega)
                  simp (maxSteps := 1000000) [devAt, refAt, slotsOf, hho, hqi, -List.reduceReplicate]
                  by_cases hc : checkS D2 ((q : Int) - 1) 0 = 0
                  · refine call_x [0, 1, 2] (read_ok D2 hD2.ok _ hc) rfl rfl ⟨rfl, rfl⟩ hho (by simp) (by decide) (by simp) (by simp [devO]) ?_
                    simp (maxSteps := 1000000) [hho, devO, -List.reduceReplicate]
                    refine call_x [3, 4, 5] (r6read_ref D2 hD2.ok _) rfl rfl ⟨rfl, rfl⟩ hho (by simp) (by decide) (by simp) (by simp [refO]) ?_
                    have hcur : strB (readB D2 ((q : Int) - 1).toNat) = ⟨(curS D2 ((q : Int) - 1).toNat).1.toArray⟩ := rfl
                    simp (maxSteps := 1000000) [hho, refO, hc, hcur, bytesOf_u8, -List.reduceReplicate]
                    refine ⟨isU8_all _, ?_⟩
                    refine Eq.mpr (if_pos (by rfl)) ?_
                    refine loop_k mixed (fun x : Nat × B64 => ⟨slotsOf 208 [(0, .c (.int .i64 s)), (5, .c (.int .i64 n)), (6, .ptr 0 0 5), (8, .ptr 3 0 4), (15, .c (.int .i64 ((q : Int) - 1))), (39, .fs 4 sc.length (scriptA sc)), (40, .c (.int .i64 sc.length)), (41, .c (.int .i64 (j : Int))), (16, .sl 6 1 0 64 64), (169, .c (.int .i64 64)), (170, .c (.int .i64 x.1))], devAt 0 D2 ++ refAt 3 D2 ++ [.o (.row 5 1) (u8av x.2.1)]⟩) (fun x => 64 - x.1) (fun x => x.1 ≤ 64) (0, curS D2 (q - 1)) (Nat.zero_le _) ?_ ?_
                    · simp (maxSteps := 1000000) [devAt, refAt, slotsOf]
                      exact wk_of 7 0 (by simp) (by simp [hE, lens]) rfl (by simp [livH, livO, AV.livL, AV.liv, wkL, wkV, List.range']) (by simp [livH, livO, AV.livL, AV.liv, wkL, wkV, List.range'])
                    · rintro ⟨k, l⟩ hk
                      simp only at hk
                      by_cases hkn : k < 64
                      · have hkl : k < l.1.length := by simpa using hkn
                        have ew : IntKind.i64.wrap ((k : Int) + 1) = (k + 1 : Nat) := by rw [IntWalk.i64_in _ (by omega)]; rfl
                        have hk1 : k + 1 ≤ 64 := by omega
                        have hkni : (k : Int) < 64 := by omega
                        simp (maxSteps := 1000000) [devAt, refAt, slotsOf, hho, hkn, hkni, hk1, ew, u8av_drop0 l.1 k hkl, -List.reduceReplicate]
                        simp only [u8_of_wrap, u8av_put l.1 k _ hkl]
                        refine round_next (k + 1, ⟨l.1.set k (xorB l.1[k]), by simp⟩) (by simp only; omega) (by simp only; omega) ?_
                        simp (maxSteps := 1000000) [devAt, refAt, slotsOf]
                        exact wk_of 7 0 (by simp) (by simp [hE, lens]) rfl (by simp [livH, livO, AV.livL, AV.liv, wkL, wkV, List.range']) (by simp [livH, livO, AV.livL, AV.liv, wkL, wkV, List.range'])
                      · obtain rfl : k = 64 := by omega
                        simp (maxSteps := 1000000) [devAt, refAt, slotsOf, hho, ewq, -List.reduceReplicate]
                        refine round_next (q + 1) (by omega) (by omega) ?_
                        simp (maxSteps := 1000000) [devAt, refAt, slotsOf]
                        exact wk_of 6 1 (by simp) (by simp [hE, lens]) rfl (by simp [livH, livO, AV.livL, AV.liv, wkL, wkV, List.range']) (by simp [livH, livO, AV.livL, AV.liv, wkL, wkV, List.range'])
                  · refine call_x [0, 1, 2] (read_err D2 _ hc) rfl rfl ⟨rfl, rfl⟩ hho (by simp) (by decide) (by simp) (by simp [devO]) ?_
                    simp (maxSteps := 1000000) [hho, devO, -List.reduceReplicate]
                    refine call_x [3, 4, 5] (r6read_ref D2 hD2.ok _) rfl rfl ⟨rfl, rfl⟩ hho (by simp) (by decide) (by simp) (by simp [refO]) ?_
                    simp (maxSteps := 1000000) [hho, refO, hc, -List.reduceReplicate]
                    refine Eq.mpr (if_pos (by rfl)) ?_
                    refine loop_k mixed (fun x : Unit => ⟨slotsOf 208 [(0, .c (.int .i64 s)), (5, .c (.int .i64 n)), (6, .ptr 0 0 5), (8, .ptr 3 0 4), (15, .c (.int .i64 ((q : Int) - 1))), (39, .fs 4 sc.length (scriptA sc)), (40, .c (.int .i64 sc.length)), (41, .c (.int .i64 (j : Int))), (169, .c (.int .i64 0)), (170, .c (.int .i64 0))], devAt 0 D2 ++ refAt 3 D2⟩) (fun x => 0) (fun x => True) () trivial ?_ ?_
                    · simp (maxSteps := 1000000) [devAt, refAt, slotsOf]
                      exact wk_of 6 0 (by simp) (by simp [hE, lens]) rfl (by simp [livH, livO, AV.livL, AV.liv, wkL, wkV, List.range']) (by simp [livH, livO, AV.livL, AV.liv, wkL, wkV, List.range'])
                    · intro _ _
                      simp (maxSteps := 1000000) [devAt, refAt, slotsOf, hho, ewq, -List.reduceReplicate]
                      refine round_next (q + 1) (by omega) (by omega) ?_
                      simp (maxSteps := 1000000) [devAt, refAt, slotsOf]
                      exact wk_of 6 0 (by simp) (by simp [hE, lens]) rfl (by simp [livH, livO, AV.livL, AV.liv, wkL, wkV, List.range']) (by simp [livH, livO, AV.livL, AV.liv, wkL, wkV, List.range'])
                · obtain rfl : q = n + 2 := by omega
                  have hqi : ¬ ((n : Int) + 2 - 1 ≤ n) := by omega
                  have ewj : IntKind.i64.wrap ((j : Int) + 1) = (j + 1 : Nat) := by rw [IntWalk.i64_in _ (by omega)]; rfl
                  simp (maxSteps := 1000000) [devAt, refAt, slotsOf, hho, hqi, ewj, -List.reduceReplicate]
                  refine round_next (j + 1, D2) ⟨by simp only; omega, by simp only; omega, hD2⟩ (by simp only; omega) ?_
                  simp (maxSteps := 1000000) [devAt, refAt, slotsOf]
                  exact wk_of 6 0 (by simp) (by simp [hE, lens]) rfl (by simp [livH, livO, AV.livL, AV.liv, wkL, wkV, List.range']) (by simp [livH, livO, AV.livL, AV.liv, wkL, wkV, List.range'])
        · obtain ⟨kk, hkk⟩ : ∃ kk, (IntKind.u64.wrap o.kind).tmod 5 = kk := ⟨_, rfl⟩
          have wk8 : ∀ D2 : DevS, ∀ e : Int, PlOk n (j + 1) D2 → PlOk n (j + 1) ((D2, e) : DevS × Int).1 := fun _ _ h => h
          have st12 : ∀ (c : Nat) (i q : Nat), ([c, c + 1, c + 2] : List Nat)[i]? = some q → decide (i < 2) = true ∨ q ∈ [c + 2] := by
            intro c i q h
            match i, h with
            | 0, _ => exact .inl rfl
            | 1, _ => exact .inl rfl
            | 2, h => simp at h; exact .inr (by simp [h])
            | i + 3, h => simp at h
          by_cases c0 : kk = 0
          · simp (maxSteps := 1000000) [hho, hkk, c0, -List.reduceReplicate]
            refine draw_k hho (.take 0 (.take 1 (.take 2 (.take 3 (.take 5 (.take 6 (.take 7 (.take 8 (.take 9 (.take 10 (.alt 4 (.alt 11 (.take 12 (.take 13 (.done))) (.nil)) (.nil)))))))))))) [6] [] (by decide +kernel) (by simp) ?_
            have hbs : bytesOf (u8av o.b) = ⟨o.b.toArray⟩ := bytesOf_u8 o.b
            simp (maxSteps := 1000000) [roOf, holdOf, wrOf, altK, heldOk, Region.binds, hbs, -List.reduceReplicate]
            refine ⟨isU8_all _, fun E2 => ?_⟩
            refine call_h [0, 1, 2, 7] (write_sl D hD.ok o.i o.b 5) rfl rfl ⟨rfl, rfl⟩ (by simp) (by simp) (by decide) (by simp) (by simp [devO]) ?_
            simp (maxSteps := 1000000) [devO, roOf, holdOf, wrOf, altK, heldOk, Region.binds, -List.reduceReplicate]
            intro E3
            by_cases hc : checkS D o.i o.b.length = 0
            · refine call_h [3, 4, 5] (r6write_new D hD.ok o.i ⟨o.b.toArray⟩ (by simp [ByteArray.size]; omega) (by simpa [ByteArray.size] using hc)) rfl rfl ⟨rfl, rfl⟩ (by simp) (by intro i h; simp at h ⊢; omega) (by decide) (by simp) (by simp [refV]) ?_
              simp (maxSteps := 1000000) [refV, hc, roOf, holdOf, wrOf, altK, heldOk, Region.binds, -List.reduceReplicate]
              refine cut_to (writeS D o.i o.b, 0) (wk8 _ _ (hD.write (by omega) _ _)) ?_
              refine wk_sel [0, 1, 2, 3, 4, 8, 6, 7] (slotsOf 208 [(0, .c (.int .i64 s)), (5, .c (.int .i64 n)), (6, .ptr 0 0 5), (8, .ptr 3 0 4), (11, .sl 7 1 0 o.b.length o.b.length), (12, .c (.int .i64 0)), (13, .c (.int .i64 0)), (39, .fs 4 sc.length (scriptA sc)), (40, .c (.int .i64 sc.length)), (41, .c (.int .i64 (j : Int)))]) hho (by simp [livH, livO, AV.livL, AV.liv, wkL, wkV, List.range', slotsOf]) rfl rfl ?_ ?_ (by decide) (by simp [hst]) (by simp [hE, lens]) ?_ ?_
              · simp
              · simp [slotsOf]
              · rfl
              · simp [devAt, refAt, op6A, writeS_kept]
            · have hc' : checkS D o.i (⟨o.b.toArray⟩ : ByteArray).size ≠ 0 := by simpa [ByteArray.size] using hc
              refine call_h [3, 4, 5] (r6write_err D hD.ok o.i ⟨o.b.toArray⟩ hc') rfl rfl ⟨rfl, rfl⟩ (by simp) (by simp) (by decide) (by simp) (by simp [refO]) ?_
              have ew : writeS D o.i o.b = D := by unfold writeS; rw [if_neg hc]
              have esz : (⟨o.b.toArray⟩ : ByteArray).size = o.b.length := by simp [ByteArray.size]
              simp (maxSteps := 1000000) [refO, roOf, holdOf, wrOf, altK, heldOk, Region.binds, ew, esz, -List.reduceReplicate]
              refine cut_to (D, checkS D o.i o.b.length) (wk8 _ _ hD.up) ?_
              simp (maxSteps := 1000000) [devAt, refAt, slotsOf, op6A]
              exact wk_of 8 0 (by simp) (by simp [hE, lens]) rfl (by simp [livH, livO, AV.livL, AV.liv, wkL, wkV, List.range']) (by simp [livH, livO, AV.livL, AV.liv, wkL, wkV, List.range'])
          by_cases c2 : kk = 2
          · simp (maxSteps := 1000000) [hho, hkk, c2, -List.reduceReplicate]
            refine call_d [0, 1, 2] (fun _ => false) [2] (flush_dev D hD.ok) rfl rfl ⟨rfl, rfl⟩ hho (st12 0) (by simp [livH, livO, AV.livL, AV.liv, wkL, wkV, List.range']) (by simp [livH, livO, AV.livL, AV.liv, wkL, wkV, List.range', intAV_liv]) (by simp [hE, lens]) (by decide) (by decide) (by simp) (by simp [devO]) ?_
            simp (maxSteps := 1000000) [hho, devO, -List.reduceReplicate]
            refine call_d [3, 4, 5] (fun _ => false) [5] (r6flush_ref D hD.ok) rfl rfl ⟨rfl, rfl⟩ hho (st12 3) (by simp [livH, livO, AV.livL, AV.liv, wkL, wkV, List.range']) (by simp [livH, livO, AV.livL, AV.liv, wkL, wkV, List.range', intAV_liv]) (by simp [hE, lens]) (by decide) (by decide) (by simp) (by simp [refO]) ?_
            simp (maxSteps := 1000000) [hho, refO, -List.reduceReplicate]
            refine cut_to (flushS D, checkS D 0 0) (wk8 _ _ (hD.flush (by omega))) ?_
            simp (maxSteps := 1000000) [devAt, refAt, slotsOf, op6A]
            exact wk_of 8 0 (by simp) (by simp [hE, lens]) rfl (by simp [livH, livO, AV.livL, AV.liv, wkL, wkV, List.range']) (by simp [livH, livO, AV.livL, AV.liv, wkL, wkV, List.range'])
          by_cases c3 : kk = 3
          · simp (maxSteps := 1000000) [hho, hkk, c3, -List.reduceReplicate]
            refine call_x [0, 1, 2] (limit_dev D o.i) rfl rfl ⟨rfl, rfl⟩ hho (by simp) (by decide) (by simp) (by simp [devO]) ?_
            simp (maxSteps := 1000000) [hho, devO, -List.reduceReplicate]
            refine call_x [3, 4, 5] (r6bound_ref D o.i) rfl rfl ⟨rfl, rfl⟩ hho (by simp) (by decide) (by simp) (by simp [refO]) ?_
            simp (maxSteps := 1000000) [hho, refO, -List.reduceReplicate]
            refine cut_to ({ D with bound := true, left := max o.i 0 }, 0) (wk8 _ _ (hD.limit o.i hoo.i)) ?_
            simp (maxSteps := 1000000) [devAt, refAt, slotsOf, op6A]
            exact wk_of 8 0 (by simp) (by simp [hE, lens]) rfl (by simp [livH, livO, AV.livL, AV.liv, wkL, wkV, List.range']) (by simp [livH, livO, AV.livL, AV.liv, wkL, wkV, List.range'])
          by_cases c4 : kk = 4
          · simp (maxSteps := 1000000) [hho, hkk, c4, -List.reduceReplicate]
            refine call_d [0, 1, 2] (fun _ => false) [2] (crash_dev D hD.ok o.tears) rfl rfl ⟨rfl, rfl⟩ hho (st12 0) (by simp [livH, livO, AV.livL, AV.liv, wkL, wkV, List.range', intAV_liv]) (by simp [livH, livO, AV.livL, AV.liv, wkL, wkV, List.range', intAV_liv]) (by simp [hE, lens]) (by decide) (by decide) (by simp) (by simp [devO]) ?_
            simp (maxSteps := 1000000) [hho, devO, -List.reduceReplicate]
            refine call_d [3, 4, 5] (fun _ => false) [5] (r6crash_ref D hD.ok o.tears) rfl rfl ⟨rfl, rfl⟩ hho (st12 3) (by simp [livH, livO, AV.livL, AV.liv, wkL, wkV, List.range', intAV_liv]) (by simp [livH, livO, AV.livL, AV.liv, wkL, wkV, List.range', intAV_liv]) (by simp [hE, lens]) (by decide) (by decide) (by simp) (by simp [refO]) ?_
            simp (maxSteps := 1000000) [hho, refO, -List.reduceReplicate]
            refine cut_to (crashS o.tears D, 0) (wk8 _ _ (hD.crash _)) ?_
            simp (maxSteps := 1000000) [devAt, refAt, slotsOf, op6A]
            exact wk_of 8 0 (by simp) (by simp [hE, lens]) rfl (by simp [livH, livO, AV.livL, AV.liv, wkL, wkV, List.range']) (by simp [livH, livO, AV.livL, AV.liv, wkL, wkV, List.range'])
          · simp (maxSteps := 1000000) [hho, hkk, c0, c2, c3, c4, -List.reduceReplicate]
            refine cut_to (D, 0) (wk8 _ _ hD.up) ?_
            simp (maxSteps := 1000000) [devAt, refAt, slotsOf, op6A]
            exact wk_of 8 0 (by simp) (by simp [hE, lens]) rfl (by simp [livH, livO, AV.livL, AV.liv, wkL, wkV, List.range']) (by simp [livH, livO, AV.livL, AV.liv, wkL, wkV, List.range'])
      · have hxt : PlOk n 80 D := ⟨hD.ok, hD.kn, by have := hD.cj; omega, by have := hD.wj; omega⟩
        by_cases h80 : j < 80
        · have h80i : ¬ (80 : Int) ≤ j := by omega
          by_cases hb : o.b.length ≤ 200
          · have hbi : ¬ (200 : Int) < o.b.length := by omega
            have hti : (200 : Int) < o.tears.length := by omega
            have ht : 200 < o.tears.length := by omega
            simp (maxSteps := 1000000) [devAt, refAt, slotsOf, hho, hlt, hat, op6A, h80, h80i, hb, hbi, ht, hti, -List.reduceReplicate]
            exact exit_to D hxt (wk_of 6 1 (by simp) (by simp [hE, lens]) rfl (by simp [livH, livO, AV.livL, AV.liv, wkL, wkV, List.range']) (by simp [livH, livO, AV.livL, AV.liv, wkL, wkV, List.range']))
          · have hbi : (200 : Int) < o.b.length := by omega
            have hb : 200 < o.b.length := by omega
            simp (maxSteps := 1000000) [devAt, refAt, slotsOf, hho, hlt, hat, op6A, h80, h80i, hb, hbi, -List.reduceReplicate]
            exact exit_to D hxt (wk_of 6 1 (by simp) (by simp [hE, lens]) rfl (by simp [livH, livO, AV.livL, AV.liv, wkL, wkV, List.range']) (by simp [livH, livO, AV.livL, AV.liv, wkL, wkV, List.range']))
        · have h80i : (80 : Int) ≤ j := by omega
          have h80 : 80 ≤ j := by omega
          simp (maxSteps := 1000000) [devAt, refAt, slotsOf, hho, hlt, hat, op6A, h80, h80i, -List.reduceReplicate]
          exact exit_to D hxt (wk_of 6 1 (by simp) (by simp [hE, lens]) rfl (by simp [livH, livO, AV.livL, AV.liv, wkL, wkV, List.range']) (by simp [livH, livO, AV.livL, AV.liv, wkL, wkV, List.range']))
    · simp (maxSteps := 1000000) [devAt, refAt, slotsOf, hho, hlt, -List.reduceReplicate]
      exact exit_to D ⟨hD.ok, hD.kn, by have := hD.cj; omega, by have := hD.wj; omega⟩ (wk_of 6 0 (by simp) (by simp [hE, lens]) rfl (by simp [livH, livO, AV.livL, AV.liv, wkL, wkV, List.range']) (by simp [livH, livO, AV.livL, AV.liv, wkL, wkV, List.range']))
end Go.Proofs.Ytjkllofkdhjlaaa
