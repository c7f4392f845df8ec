import Derived.Test.YtjgdlocgoiinbaaGreatDoorKF
namespace Go.Proofs.YtjgdlocgoiinbaaGreatDoor
set_option linter.unusedVariables false
set_option linter.unusedSimpArgs false
open Go.RowKit Go.Shelf Go.Lib
attribute [local simp] isCut_nil isCut_region isCut_seq isCut_block isCut_loop isCut_cond isCut_skip isCut_exit isCut_ret isCut_range swapK putK altK condK_bool pickP_bool stepP stepO onPure_some onPure_none onImpl_some onImpl_none stepC onGP_some onGP_none onGV_some condG mkG onIt_it nextP_ptr takeP_eq takeV_some takeV_none takeU_some takeU_none takeQ takeW_some takeN_none takeN_some takeG_some takeO_some altO_some pureV binV2 eqF eqOp ovlV ovl2 rowAt capV binV intBin strBin isSh shV fldV ixV sliceV slice3V loadAV nilV lenV callV unV convV viewS cellsH loadV fldCut AV.ung AV.ungs AV.gc AV.cells AS.ev AS.put anyS gcsV gcO lens lnO gV guardV retK RetP_eq resV oneV anyRo loIx hiIx implO callP_clo evL gcsL clearV storeAV AS.push AS.setO appV appZ shortS copyV buildV partsV fillV srcV fzO okV isCell_c isCell_ptr isCell_sl isCell_fs isCell_fp isCell_clo rowZ_one rowZ_zero rowZ_2 rowZ_3 rowZ_4 rowZ_5 rowZ_6 rowZ_7 rowZ_8 rowZ_9 rowZ_10 rowZ_11 rowZ_12 noHo Value.oneCell' max2V min2V lookV updV lenM msAt afterH putBack frzFrom frzO rebO backIx nilEq_sl nilEq_fs nilEq_ifn nilEq_ifh ifOp_eql ifOp_neq isLit nilOp_eql nilOp_neq AV.reb AV.rebL
attribute [local simp ↓] runK_skip runK_region runK_draw runK_seq runK_cut runK_cond runK_block runK_loop runK_exit runK_label runK_goto runK_ret runK_range contK_nil contK_seq contK_seq_ret contK_seq_exit contK_seq_goto contK_block contK_block_ret contK_block_goto contK_block_exit runO_nil runO_cons roundK_exit roundK_ret roundK_goto exitK_ret cutK_ret cutK_exit runE_done runE_nil runE_take runE_alt condG_true condG_false
set_option maxRecDepth 10000
def st40 (s : ByteArray) (acc : List TokS) (p x i : Nat) : AS := ⟨slotsOf 312 [(0, .c (.string s)), (5, slT7 0 acc.length), (6, .c (.int .i64 (i : Nat))), (7, .c (.int .u8 (x : Nat))), (8, .c (.int .i64 (p : Nat))), (9, .ptr 1 0 7)], [rowT acc, .o .box (tokA ⟨0, p, ByteArray.empty, vN⟩)]⟩
def sn40 (s : ByteArray) (acc : List TokS) (p x y : Nat) : AS := ⟨slotsOf 312 [(0, .c (.string s)), (5, slT7 0 acc.length), (6, .c (.int .i64 (p : Nat))), (7, .c (.int .u8 (x : Nat))), (8, .c (.int .i64 (p : Nat))), (9, .ptr 1 0 7), (18, .c (.int .u8 (y : Nat)))], [rowT acc, .o .box (tokA ⟨0, p, ByteArray.empty, vN⟩)]⟩
def sk40 (s : ByteArray) (acc : List TokS) (p x i : Nat) (K : List (List UInt8)) (y : Nat × Bool) : AS := ⟨slotsOf 312 [(0, .c (.string s)), (5, slT7 0 acc.length), (6, .c (.int .i64 (i : Nat))), (7, .c (.int .u8 (x : Nat))), (8, .c (.int .i64 (p : Nat))), (9, .ptr 1 0 7), (15, .c (.bool y.2)), (201, .fs 1 44 (strsK K)), (202, .c (.int .i64 44)), (203, .c (.int .i64 (y.1 : Nat)))], [rowT acc, .o .box (tokA ⟨0, p, ByteArray.empty, vN⟩)]⟩
def so40 (s : ByteArray) (y : Nat × List TokS) : AS := ⟨slotsOf 312 [(0, .c (.string s)), (5, slT7 0 y.2.length), (6, .c (.int .i64 (y.1 : Nat)))], [rowT y.2]⟩
def se40 (s : ByteArray) (acc : List TokS) (y : TokS × Nat) : AS := ⟨slotsOf 312 [(0, .c (.string s)), (5, slT7 0 acc.length), (6, .c (.int .i64 (y.2 : Nat))), (9, .ptr 1 0 7)], [rowT acc, .o .box (tokA y.1)]⟩
def FI82 (L : List UInt8) (acc : List TokS) (p : Nat) (y : TokS × Nat) : Prop := y.1.at_ = p ∧ p < y.2 ∧ LexI L y.2 (acc ++ [y.1])
def FIq (L : List UInt8) (a i : Nat) : Prop := a ≤ i ∧ i ≤ L.length + 1 ∧ ((L.length ≤ i ∧ scanQ (L.drop a) = none) ∨ (i < L.length ∧ scanQ (L.drop a) = some (i - a + 1)))
def InvR (q : UInt8 → Bool) (L : List UInt8) (p i : Nat) : Prop := p ≤ i ∧ i ≤ L.length ∧ AllP q L p i
def InvK (K : List (List UInt8)) (W : List UInt8) (y : Nat × Bool) : Prop := y.1 ≤ 44 ∧ y.2 = (K.take y.1).contains W
def InvL (L : List UInt8) (y : Nat × List TokS) : Prop := y.2.length ≤ y.1 ∧ LexI L y.1 y.2
def nextB (L : List UInt8) (p : Nat) : Nat := if h : p + 1 < L.length then (L[p + 1]).toNat else 0
theorem u8eq (c : UInt8) {n : Nat} (h : n < 256) : c = UInt8.ofNat n ↔ c.toNat = n :=
  ⟨fun e => by rw [e, UInt8.toNat_ofNat']; omega, fun e => UInt8.toNat_inj.1 (by rw [UInt8.toNat_ofNat']; omega)⟩
theorem twos_iff {L : List UInt8} {p : Nat} (h : p < L.length) : twosL.contains ((L.drop p).take 2) = true ↔ ((L[p].toNat = 60 ∧ (nextB L p = 61 ∨ nextB L p = 62)) ∨ (L[p].toNat = 62 ∧ nextB L p = 61)) := by
  rw [List.drop_eq_getElem_cons h]
  unfold nextB
  by_cases h2 : p + 1 < L.length
  · rw [dif_pos h2, List.drop_eq_getElem_cons h2]
    obtain ⟨a, ha⟩ : ∃ a, a = L[p] := ⟨_, rfl⟩
    obtain ⟨b, hb⟩ : ∃ a, a = L[p + 1] := ⟨_, rfl⟩
    rw [← ha, ← hb]
    have e : List.take 2 (a :: b :: L.drop (p + 1 + 1)) = [a, b] := rfl
    rw [e]
    have a60 := u8eq a (n := 60) (by decide)
    have a62 := u8eq a (n := 62) (by decide)
    have b61 := u8eq b (n := 61) (by decide)
    have b62 := u8eq b (n := 62) (by decide)
    have hm : twosL.contains [a, b] = true ↔ ((a = UInt8.ofNat 60 ∧ b = UInt8.ofNat 61) ∨ (a = UInt8.ofNat 62 ∧ b = UInt8.ofNat 61) ∨ (a = UInt8.ofNat 60 ∧ b = UInt8.ofNat 62)) := by
      unfold twosL
      simp
    rw [hm, a60, a62, b61, b62]
    omega
  · rw [dif_neg h2, (show L.drop (p + 1) = [] from List.drop_eq_nil_of_le (by omega))]
    have e : List.take 2 [L[p]] = [L[p]] := rfl
    rw [e]
    have hm : ¬ twosL.contains [L[p]] = true := by
      unfold twosL
      simp
    constructor
    · intro h; exact absurd h hm
    · intro h; omega
theorem signs_iff (c : UInt8) : signsL.contains c = true ↔ (c.toNat = 40 ∨ c.toNat = 41 ∨ c.toNat = 44 ∨ c.toNat = 46 ∨ c.toNat = 43 ∨ c.toNat = 45 ∨ c.toNat = 42 ∨ c.toNat = 47 ∨ c.toNat = 37 ∨ c.toNat = 61 ∨ c.toNat = 60 ∨ c.toNat = 62) := by
  have h : ∀ n : Nat, n < 256 → (signsL.contains (UInt8.ofNat n) = true ↔ (n = 40 ∨ n = 41 ∨ n = 44 ∨ n = 46 ∨ n = 43 ∨ n = 45 ∨ n = 42 ∨ n = 47 ∨ n = 37 ∨ n = 61 ∨ n = 60 ∨ n = 62)) := by decide +kernel
  have := h c.toNat c.toNat_lt
  rwa [UInt8.ofNat_toNat] at this
def leftOf (id : Nat) : Code → Option Code
  | .seq x y => if isCut [id] y = true then some x else match leftOf id x with
    | some c => some c
    | none => leftOf id y
  | .block _ c => leftOf id c
  | .loop c => leftOf id c
  | .cond _ a b => match leftOf id a with
    | some c => some c
    | none => leftOf id b
  | _ => none
def leftIn (id : Nat) (o : Option Code) : Option Code := match o with
  | some c => leftOf id c
  | none => none
def OnC (R : Code → Prop) (o : Option Code) : Prop := ∃ c, o = some c ∧ R c
theorem OnC.mk {R : Code → Prop} {o : Option Code} {c : Code} (h : o = some c) (hr : R c) : OnC R o := ⟨c, h, hr⟩
theorem OnC.out {R : Code → Prop} {o : Option Code} {c : Code} (h : OnC R o) (e : o = some c) : R c := by
  obtain ⟨d, h1, h2⟩ := h
  rw [e] at h1; injection h1 with h1; subst h1; exact h2
theorem seq_cutW {P : Program} {E : Env} {cut : List Nat} {stk : List Fr} {fin : Exit → AS → Prop} {s : AS} (hm : P.follows .mixedOrders = true) {x y : Code} {Y : Type} (cut' : List Nat) (fs : Y → AS) (FI : Y → Prop) (s' : AS) (hw : Wk E s s') (tail : ∀ v, FI v → runK P E cut y stk fin (fs v)) (body : runK P E cut' x [] (cutK E fs FI (contK P E cut stk fin)) s') : SeqG P E cut x y stk fin s := by
  intro a w hs
  have hb : EW P E x s' (cutK E fs FI (contK P E cut stk fin)) := runC_sound (cut := cut') hm x s' _ body
  refine wp_seq (Code.wp_mono (fun e a' w' ⟨h0, s'', h1, h2⟩ => ?_) (hb a w (hw a w hs)))
  cases e with
  | normal =>
    obtain ⟨v, hv, hw⟩ := h2
    exact runC_sound hm y (fs v) _ (tail v hv) a' w' (hw a' w' h1)
  | _ => exact ⟨h0, s'', h1, h2⟩
def ChainG (E : Env) (s : ByteArray) (acc : List TokS) (p x : Nat) (Q : Exit → AS → Prop) : Prop := OnC (fun c => runK Tryz.prog E [34, 63] c [] (cutK E (se40 s acc) (FI82 s.data.toList acc p) Q) (st40 s acc p x p)) (leftIn 82 Tryz.f40.body)
def RetG (s : ByteArray) (p : Nat) (Q : Exit → AS → Prop) : Prop := lexG 0 s.data.toList = (none, p) → ∀ (t : List AV) (h : List AObj), t[2]? = some (.c (.slice none 0 0)) → t[3]? = some (.c (.int .i64 (p : Nat))) → t[4]? = some (.c (.bool false)) → Q .ret ⟨t, h⟩
end Go.Proofs.YtjgdlocgoiinbaaGreatDoor
