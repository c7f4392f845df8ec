import Derived.Test.YtmgpiminicgbiaaS11
import Derived.Test.YtmgpiminicgbiaaS8
import Derived.Test.YtmgpiminicgbiaaS9
import Derived.Test.YtmgpiminicgbiaaOpn
import Derived.Test.YtmgpiminicgbiaaWs
namespace Go.Proofs.Ytmgpiminicgbiaa
set_option linter.unusedVariables false
set_option linter.unusedSimpArgs false
open Go.RowKit
attribute [local simp] isCut_nil isCut_region isCut_seq isCut_block isCut_loop isCut_cond isCut_skip isCut_exit isCut_ret isCut_range swapK putK altK condK_bool pickP_bool stepP stepO onPure_some onPure_none onImpl_some onImpl_none stepC onGP_some onGP_none onGV_some condG mkG onIt_it nextP_ptr takeP_eq takeV_some takeN_none takeN_some takeG_some takeO_some altO_some pureV binV intBin strBin isSh shV fldV ixV sliceV loadAV nilV lenV callV unV convV viewS cellsH loadV fldCut AV.ung AV.gc AV.cells AS.ev AS.put anyS gcsV lens lnO gV guardV retK RetP_eq resV oneV anyRo loIx hiIx implO callP_clo evL gcsL storeAV AS.push AS.setO appV copyV buildV partsV fillV srcV fzO okV isCell_c isCell_ptr isCell_sl isCell_fs isCell_fp isCell_clo rowZ_one rowZ_zero rowZ_2 rowZ_3 rowZ_4 rowZ_5 rowZ_6 rowZ_7 rowZ_8 rowZ_9 rowZ_10 rowZ_11 rowZ_12 noHo Value.oneCell' max2V min2V afterH putBack frzFrom frzO rebO backIx nilEq_sl nilEq_fs nilOp_eql nilOp_neq AV.reb AV.rebL
attribute [local simp ↓] runK_skip runK_region runK_draw runK_seq runK_cut runK_cond runK_block runK_loop runK_exit runK_label runK_goto runK_ret runK_range contK_nil contK_seq contK_seq_ret contK_seq_exit contK_seq_goto contK_block contK_block_ret contK_block_goto contK_block_exit runO_nil runO_cons roundK_exit roundK_ret roundK_goto exitK_ret cutK_ret cutK_exit runE_done runE_nil runE_take runE_alt condG_true condG_false
set_option maxRecDepth 10000
theorem flush_err (d : DevS) (hc : checkS d 0 0 ≠ 0) : ACalls Try.prog 54 [.ptr 0 0 5] (devO d) (fun _ => true) (fun r h' => r = .c (.int .i64 (checkS d 0 0)) ∧ h' = devO d) := by
  refine acalls mixed Try.func54 rfl Try.ntmps54 rfl fun E hE hst hho => ?_
  simp [devO, hho, -List.reduceReplicate]
  refine call_x [0, 1, 2] (check_nilslice d 0) rfl rfl ⟨rfl, rfl⟩ hho (by simp) (by decide) (by simp) (by simp [devO]) ?_
  simp [devO, hho, hc, -List.reduceReplicate]
  exact Ret.same ⟨rfl, rfl⟩
theorem isU8_all (l : List UInt8) : ∀ v ∈ u8av l, isU8 v = true := by
  intro v hv
  simp only [u8av, List.mem_map] at hv
  obtain ⟨b, _, rfl⟩ := hv
  have := b.toNat_lt
  simp only [u8, isU8, Bool.and_eq_true, decide_eq_true_eq]
  exact ⟨by omega, by omega⟩
theorem newS_ok (n : Nat) (h1 : 1 ≤ n) (h2 : n ≤ 65536) : (newS n).Ok := ⟨by simp [newS], by simpa [newS] using h1, by simpa [newS] using h2, by simp [newS], by simp [newS], by simp [newS], by simp [newS], by simp [newS]⟩
theorem write_Ok {d : DevS} (h : d.Ok) {i : Int} {l : List UInt8} (h1 : d.calls ≤ 100000) (h2 : d.wait.length ≤ 100000) : (writeS d i l).Ok := by
  unfold writeS
  split
  · rename_i hc
    obtain ⟨k1, k2, k3, k4⟩ := check_ok hc
    refine ⟨fun x hx => ?_, h.k1, h.k2, ?_, ?_, ?_, ?_, ?_⟩
    · simp only [countS, List.mem_append, List.mem_singleton] at hx ⊢
      rcases hx with hx | rfl
      · exact h.w1 x hx
      · simp only; omega
    · have := h.l1; simp only [countS]; split
      · have := k4 (by assumption); omega
      · exact h.l1
    · have := h.l2; simp only [countS]; split <;> omega
    · have := h.c1; simp only [countS]; omega
    · simp only [countS]; omega
    · simp only [countS, List.length_append, List.length_singleton]; omega
  · exact h
def i64ok (n : Int) : Prop := -9223372036854775808 ≤ n ∧ n ≤ 9223372036854775807
theorem flat_u8 (l : List UInt8) : (l.flatMap fun b => [AV.c (u8 b)]) = u8av l := by
  induction l with
  | nil => rfl
  | cons b l ih => rw [List.flatMap_cons, ih]; rfl
theorem flat_int (l : List Int) : (l.flatMap fun b => [AV.c (.int .i64 b)]) = intAV l := by
  induction l with
  | nil => rfl
  | cons b l ih => rw [List.flatMap_cons, ih]; rfl
/-- a device whose blocks begin at handle k -/
def devAt (k : Nat) (d : DevS) : List AObj :=
  [.o .box [.sl (k + 1) 64 0 d.kept.length (d.kept.length * 64), .sl (k + 2) 65 0 d.wait.length (d.wait.length * 65), .c (.bool d.bound), .c (.int .i64 d.left), .c (.int .i64 d.calls)],
   .o (.row 93 64) (keptA d.kept), .o (.row 95 65) (waitA d.wait)]
def ixU (m : Int) (i : Int) : Int := IntKind.i64.wrap (Int.tmod (IntKind.u64.wrap i) m)
theorem u64_range (i : Int) : 0 ≤ IntKind.u64.wrap i ∧ IntKind.u64.wrap i < 18446744073709551616 := by
  rw [IntKind.wrap_u64]; omega
theorem ixU_range (m : Int) (h1 : 0 < m) (h2 : m ≤ 100) (i : Int) : 0 ≤ ixU m i ∧ ixU m i < m := by
  obtain ⟨a, b⟩ := u64_range i
  unfold ixU
  rw [Int.tmod_eq_emod_of_nonneg a]
  have := Int.emod_nonneg (IntKind.u64.wrap i) (by omega : m ≠ 0)
  have := Int.emod_lt_of_pos (IntKind.u64.wrap i) h1
  rw [IntWalk.i64_in _ (by omega)]
  omega
theorem bytesOf_u8 (l : List UInt8) : bytesOf (u8av l) = ⟨l.toArray⟩ := by
  have : ∀ l : List UInt8, (u8av l).map u8of = l := by
    intro l
    induction l with
    | nil => rfl
    | cons b l ih =>
      have e : u8of (.c (u8 b)) = b := by simp [u8of, u8]
      simp only [u8av, List.map_cons] at ih ⊢
      rw [ih, e]
  unfold bytesOf
  rw [this]
theorem full_of (b : List UInt8) (hb : b.length ≤ 64) : bytesOf (u8av (padB b).1) = fullB (bytesOf (u8av b)) (64 - (bytesOf (u8av b)).size) := by
  rw [bytesOf_u8 b, full_pad ⟨b.toArray⟩ (by simpa [ByteArray.size] using hb), bytesOf_u8]
  rfl
theorem intAV_liv (dead : List Nat) (l : List Int) : AV.livL dead (intAV l) = true := by
  induction l with
  | nil => rfl
  | cons b l ih => simpa [intAV, AV.livL, AV.liv] using ih
theorem intAV_isD (l : List Int) : ∀ x ∈ intAV l, isD x = true := by simp [intAV, isD]
/-- the reference's device whose blocks begin at handle k -/
def refAt (k : Nat) (d : DevS) : List AObj :=
  [.o .box [.sl (k + 1) 1 0 d.kept.length d.kept.length, .sl (k + 2) 2 0 d.wait.length (d.wait.length * 2), .c (.int .i64 (leftR d)), .c (.int .i64 d.calls)],
   .o (.row 9 1) (refK d.kept), .o (.row 101 2) (refW d.wait)]
/-- what the reference's device is behind a write: its row is a new one -/
def refV (d : DevS) (d' : DevS) : List AObj :=
  [.o .box [.sl 1 1 0 d.kept.length d.kept.length, .sl 3 2 0 d'.wait.length (d'.wait.length * 2), .c (.int .i64 (leftR d')), .c (.int .i64 d'.calls)],
   .o (.row 9 1) (refK d.kept), .o (.row 101 2) (refW d.wait), .o (.row 101 2) (refW d'.wait)]
theorem r6write_new (d : DevS) (hd : d.Ok) (i : Int) (b : ByteArray) (hb : b.size ≤ 1000000) (hc : checkS d i b.size = 0) : ACalls Try.prog 27 [.ptr 0 0 4, .c (.int .i64 i), .c (.string b)] (refO d) (fun k => decide (k < 4)) (fun r h' => r = .c (.int .i64 0) ∧ h' = refV d (writeS d i b.data.toList)) := by
  have esz : b.data.size = b.size := rfl
  refine acalls mixed Try.func27 rfl Try.ntmps27 rfl fun E hE _ hho => ?_
  simp [refO, hho, -List.reduceReplicate]
  refine call_x [0, 1, 2] (r6check_ref d hd i b) rfl rfl ⟨rfl, rfl⟩ hho (by simp) (by decide) (by simp) (by simp [refO]) ?_
  simp [refO, hho, hc, -List.reduceReplicate]
  refine ⟨by have := hd.wl; omega, ?_⟩
  obtain ⟨k1, k2, k3, k4⟩ := check_ok hc
  have e : ((i.toNat : Nat) : Int) = i := by omega
  refine call_plain (fun _ => false) (full_ref b hb) (ha := by rfl) (by simp) ?_
  rintro r h' ⟨rfl, rfl⟩
  refine ⟨rfl, ?_⟩
  simp [hho, full_pad b k3, -List.reduceReplicate]
  refine ⟨by have := hd.wl; omega, ?_⟩
  refine call_x [0, 1, 3] (r6count_ref { d with wait := d.wait ++ [(i.toNat, padB b.data.toList)] } ⟨hd.c1, hd.c2⟩ fun hb => ⟨by have := k4 hb; have := hd.l1; simp only; omega, hd.l2⟩) rfl rfl ?_ hho (by simp) (by decide) ?_ (by simp [refO]) ?_
  · simp [refO, refW, refWc, strV, leftR, e, Nat.add_mul]
  · simp [refO, -List.reduceReplicate]
  simp [refO, hho, -List.reduceReplicate]
  refine Ret.sel [0, 1, 2, 3] (fun _ => false) (ho := by rfl) (ha := by rfl) ?_ ?_ (by decide) (by simp) (st_lt 4 _) ⟨?_, ?_⟩
  · simp
  · simp
  · simp [hc]
  · simp [writeS, esz, hc, refV, countS]
theorem r6write_err (d : DevS) (hd : d.Ok) (i : Int) (b : ByteArray) (hc : checkS d i b.size ≠ 0) : ACalls Try.prog 27 [.ptr 0 0 4, .c (.int .i64 i), .c (.string b)] (refO d) (fun _ => true) (fun r h' => r = .c (.int .i64 (checkS d i b.size)) ∧ h' = refO d) := by
  refine acalls mixed Try.func27 rfl Try.ntmps27 rfl fun E hE _ hho => ?_
  simp [refO, hho, -List.reduceReplicate]
  refine call_x [0, 1, 2] (r6check_ref d hd i b) rfl rfl ⟨rfl, rfl⟩ hho (by simp) (by decide) (by simp) (by simp [refO]) ?_
  simp [refO, hho, hc, -List.reduceReplicate]
  exact Ret.same ⟨rfl, rfl⟩
theorem writeS_kept (d : DevS) (i : Int) (l : List UInt8) : (writeS d i l).kept = d.kept := by
  unfold writeS; split <;> rfl
theorem u8_of_wrap (x : Int) : Value.int .u8 (IntKind.u8.wrap x) = u8 (UInt8.ofNat (IntKind.u8.wrap x).toNat) := by
  have h : 0 ≤ IntKind.u8.wrap x ∧ IntKind.u8.wrap x < 256 := by rw [IntKind.wrap_u8]; omega
  simp only [u8, UInt8.toNat_ofNat']
  congr 1
  omega
def xorB (b : UInt8) : UInt8 := UInt8.ofNat (IntKind.u8.wrap ((b.toNat % 2 ^ IntKind.u8.bits ^^^ 255 % 2 ^ IntKind.u8.bits : Nat) : Int)).toNat
theorem u8av_put (l : List UInt8) (k : Nat) (b : UInt8) (hk : k < l.length) : u8av (List.take k l) ++ AV.c (u8 b) :: u8av (List.drop (k + 1) l) = u8av (l.set k b) := by
  have e : AV.c (u8 b) :: u8av (List.drop (k + 1) l) = u8av (b :: l.drop (k + 1)) := by simp [u8av]
  rw [e, ← u8av_app, List.set_eq_take_append_cons_drop, if_pos hk]
theorem u8av_drop0 (l : List UInt8) (k : Nat) (hk : k < l.length) : (u8av (List.drop k l))[0]? = some (AV.c (.int .u8 (l[k].toNat))) := by
  simp [u8av, u8, hk]
@[simp] theorem frzFrom_none (i : Nat) (l : List AObj) : frzFrom (fun _ => false) i l = l := by
  induction l generalizing i with
  | nil => rfl
  | cons x l ih => simp [frzFrom, ih]
theorem livL_none (l : List AV) : AV.livL [] l = true := by
  have hd1 : ∀ v : AV, v.liv [] = true := by
    intro v
    refine AV.rec (motive_1 := fun v => v.liv [] = true) (motive_2 := fun l => AV.livL [] l = true) ?_ ?_ ?_ ?_ ?_ ?_ ?_ ?_ ?_ ?_ ?_ ?_ v <;> simp_all [AV.liv, AV.livL]
  induction l with
  | nil => simp [AV.livL]
  | cons v l ih => simp [AV.livL, hd1 v, ih]
theorem livH_none (lent : List Nat) (h : List AObj) : ∀ n, livH [] lent n h = true := by
  induction h with
  | nil => intro n; simp [livH]
  | cons o h ih =>
    intro n
    simp only [livH, ih, Bool.and_true, Bool.or_eq_true]
    right
    cases o with
    | it _ _ => rfl
    | o k cs => cases k <;> simp [livO, livL_none]
/-- told otherwise, no block less -/
theorem wk_all {E : Env} {s s' : AS} (hn : E.ln0.length ≤ s.h.length) (hh : s.h = s'.h) (ht : wkL [] s.t s'.t) : Wk E s s' :=
  wk_of s.h.length 0 rfl hn (by rw [List.take_length, hh]) (by simpa using livH_none _ _ _) (by simpa using ht)
end Go.Proofs.Ytmgpiminicgbiaa
