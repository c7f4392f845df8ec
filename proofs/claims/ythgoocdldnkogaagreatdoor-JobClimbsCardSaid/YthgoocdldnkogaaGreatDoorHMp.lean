import Derived.Test.YthgoocdldnkogaaGreatDoorHMj
import Derived.Test.YthgoocdldnkogaaGreatDoorHMa
import Derived.Test.YthgoocdldnkogaaGreatDoorHDx
namespace Go.Proofs.YthgoocdldnkogaaGreatDoor
set_option linter.unusedVariables false
set_option linter.unusedSimpArgs false
open Go.RowKit
attribute [local simp] isCut_nil isCut_region isCut_seq isCut_block isCut_loop isCut_cond isCut_skip isCut_exit isCut_ret isCut_range swapK putK altK condK_bool pickP_bool stepP stepO onPure_some onPure_none onImpl_some onImpl_none stepC onGP_some onGP_none onGV_some condG mkG onIt_it nextP_ptr takeP_eq takeV_some takeV_none takeU_some takeU_none takeQ takeW_some takeN_none takeN_some takeG_some takeO_some altO_some pureV binV2 eqF eqOp ovlV ovl2 rowAt capV binV intBin strBin isSh shV fldV ixV sliceV slice3V loadAV nilV lenV callV unV convV viewS cellsH loadV fldCut AV.ung AV.ungs AV.gc AV.cells AS.ev AS.put anyS gcsV gcO lens lnO gV guardV retK RetP_eq resV oneV anyRo loIx hiIx implO callP_clo evL gcsL clearV storeAV AS.push AS.setO appV appZ shortS copyV buildV partsV fillV srcV fzO okV isCell_c isCell_ptr isCell_sl isCell_fs isCell_fp isCell_clo rowZ_one rowZ_zero rowZ_2 rowZ_3 rowZ_4 rowZ_5 rowZ_6 rowZ_7 rowZ_8 rowZ_9 rowZ_10 rowZ_11 rowZ_12 noHo Value.oneCell' max2V min2V lookV updV updK updW cvals mkAt basV lenM msAt afterH putBack frzFrom frzO rebO backIx nilEq_sl nilEq_fs nilEq_ifn nilEq_ifh ifOp_eql ifOp_neq isLit nilOp_eql nilOp_neq AV.reb AV.rebL
attribute [local simp ↓] runK_skip runK_region runK_draw runK_seq runK_cut runK_cond runK_block runK_loop runK_exit runK_label runK_goto runK_ret runK_range contK_nil contK_seq contK_seq_ret contK_seq_exit contK_seq_goto contK_block contK_block_ret contK_block_goto contK_block_exit runO_nil runO_cons roundK_exit roundK_ret roundK_goto exitK_ret cutK_ret cutK_exit runE_done runE_nil runE_take runE_alt condG_true condG_false
set_option maxRecDepth 10000

end Go.Proofs.YthgoocdldnkogaaGreatDoor
namespace Go.Proofs.YthgoocdldnkogaaGreatDoor
set_option linter.unusedVariables false
set_option linter.unusedSimpArgs false
open Go.RowKit
structure TB (k : Int) (t : TabS) : Prop where
 big : TabBig t
 lc : t.cols.length ≤ 1000
 lx : t.idxs.length ≤ 1000
 xc : ∀ x ∈ t.idxs, x.cols.length ≤ 1000
 cs : ∀ c ∈ t.cols, -k ≤ c.st ∧ c.st ≤ k
 xs : ∀ c ∈ t.idxs, -k ≤ c.st ∧ c.st ≤ k
theorem TB.mono {k k' : Int} {t : TabS} (h : TB k t) (hk : k ≤ k') : TB k' t := ⟨h.big, h.lc, h.lx, h.xc, fun c hc => by have := h.cs c hc; omega, fun c hc => by have := h.xs c hc; omega⟩
theorem TB.mv {k : Int} {t : TabS} (h : TB k t) {m : MovS} (hk : k ≤ 1000) (hd : -9223372036854775808 ≤ m.dst ∧ m.dst ≤ 9223372036854775807) : MvB t m :=
 ⟨h.lc, h.lx, h.xc, fun c hc => by have := h.cs c hc; omega, fun c hc => by have := h.xs c hc; omega, hd⟩
theorem nearB_bd {a b k : Int} (h : nearB a b = true) (ha : -k ≤ a ∧ a ≤ k) : -(k + 1) ≤ b ∧ b ≤ k + 1 := by
 simp only [nearB, Bool.or_eq_true, decide_eq_true_eq] at h; omega
theorem mvP_TB {k : Int} {t : TabS} {m : MovS} (h : TB k t) (h0 : (mvP t m).2 = 0) : TB (k + 1) (mvP t m).1 := by
 have hm := h.mono (show k ≤ k + 1 by omega)
 unfold mvP at h0 ⊢
 cases hix : m.ix with
 | true =>
  simp only [hix, if_true] at h0 ⊢
  unfold mvX at h0 ⊢
  rcases find_split (p := fun c : IdxS => decide (c.id = m.id)) (l := t.idxs) with ⟨a, c, b, he, ha, hc, hf⟩ | ⟨hn, hf⟩
  ·rw [hf] at h0 ⊢
   have hg : t.idxs[a.length]? = some c := by rw [he]; simp
   have hci : c ∈ t.idxs := by rw [he]; simp
   simp only [hg] at h0 ⊢
   cases hnb : nearB c.st m.dst with
   | false => simp [hnb] at h0
   | true =>
    simp only [hnb, Bool.not_true, Bool.false_eq_true, if_false] at h0 ⊢
    by_cases hz : m.dst = 0
    ·simp only [hz, if_true]
     have hsub : ∀ x ∈ t.idxs.eraseIdx a.length, x ∈ t.idxs := fun x hx => List.mem_of_mem_eraseIdx hx
     have hlen : (t.idxs.eraseIdx a.length).length ≤ t.idxs.length := by rw [List.length_eraseIdx]; split <;> omega
     exact ⟨⟨hm.big.cl, by have := hm.big.il; simp only; omega, hm.big.nm, hm.big.cn, fun x hx => hm.big.xn x (hsub x hx)⟩, hm.lc, by have := hm.lx; simp only; omega, fun x hx => hm.xc x (hsub x hx), hm.cs, fun x hx => hm.xs x (hsub x hx)⟩
    ·simp only [hz, if_false]
     have hd := nearB_bd hnb (h.xs c hci)
     have hsub : ∀ x ∈ t.idxs.set a.length { c with st := m.dst }, x ∈ t.idxs ∨ x = { c with st := m.dst } := fun x hx => List.mem_or_eq_of_mem_set hx
     refine ⟨⟨hm.big.cl, by have := hm.big.il; simpa using this, hm.big.nm, hm.big.cn, fun x hx => ?_⟩, hm.lc, by have := hm.lx; simpa using this, fun x hx => ?_, hm.cs, fun x hx => ?_⟩
     ·rcases hsub x hx with h1 | rfl
      ·exact hm.big.xn x h1
      ·exact hm.big.xn c hci
     ·rcases hsub x hx with h1 | rfl
      ·exact hm.xc x h1
      ·exact hm.xc c hci
     ·rcases hsub x hx with h1 | rfl
      ·exact hm.xs x h1
      ·exact hd
  ·rw [hf] at h0; simp at h0
 | false =>
  simp only [hix, Bool.false_eq_true, if_false] at h0 ⊢
  unfold mvC at h0 ⊢
  rcases find_split (p := fun c : ColS => decide (c.id = m.id)) (l := t.cols) with ⟨a, c, b, he, ha, hc, hf⟩ | ⟨hn, hf⟩
  ·rw [hf] at h0 ⊢
   have hg : t.cols[a.length]? = some c := by rw [he]; simp
   have hci : c ∈ t.cols := by rw [he]; simp
   simp only [hg] at h0 ⊢
   cases hnb : nearB c.st m.dst with
   | false => simp [hnb] at h0
   | true =>
    cases hhd : heldB t m.id with
    | true => simp [hnb, hhd] at h0
    | false =>
    simp only [hnb, hhd, Bool.not_true, Bool.or_self, Bool.false_eq_true, if_false] at h0 ⊢
    by_cases hz : m.dst = 0
    ·simp only [hz, if_true]
     have hsub : ∀ x ∈ t.cols.eraseIdx a.length, x ∈ t.cols := fun x hx => List.mem_of_mem_eraseIdx hx
     have hlen : (t.cols.eraseIdx a.length).length ≤ t.cols.length := by rw [List.length_eraseIdx]; split <;> omega
     exact ⟨⟨by have := hm.big.cl; simp only; omega, hm.big.il, hm.big.nm, fun x hx => hm.big.cn x (hsub x hx), hm.big.xn⟩, by have := hm.lc; simp only; omega, hm.lx, hm.xc, fun x hx => hm.cs x (hsub x hx), hm.xs⟩
    ·simp only [hz, if_false]
     have hd := nearB_bd hnb (h.cs c hci)
     have hsub : ∀ x ∈ t.cols.set a.length { c with st := m.dst }, x ∈ t.cols ∨ x = { c with st := m.dst } := fun x hx => List.mem_or_eq_of_mem_set hx
     refine ⟨⟨by have := hm.big.cl; simpa using this, hm.big.il, hm.big.nm, fun x hx => ?_, hm.big.xn⟩, by have := hm.lc; simpa using this, hm.lx, hm.xc, fun x hx => ?_, hm.xs⟩
     ·rcases hsub x hx with h1 | rfl
      ·exact hm.big.cn x h1
      ·exact hm.big.cn c hci
     ·rcases hsub x hx with h1 | rfl
      ·exact hm.cs x h1
      ·exact hd
  ·rw [hf] at h0; simp at h0
theorem TB.of {t : TabS} {next : Int} (h : TOk t next) (hb : TabBig t) : TB 3 t :=
 ⟨hb, by have := h.lc; omega, by have := h.lx; omega, fun x hx => by have := h.xo x hx; simp only [idxOk, Bool.and_eq_true, decide_eq_true_eq] at this; omega, fun c hc => by have := colOk_st (h.co c hc); omega, fun x hx => by have := idxOk_st (h.xo x hx); omega⟩
theorem stepB_next (f : TabS → MovS → TabS × Int) (ts : List TabS) (m : MovS) (l : List MovS) :
  (ts.findIdx? (fun t => decide (t.id = m.tab)) = none ∧ stepB f ts (m :: l) = (ts, 100)) ∨
  ∃ a t b, ts = a ++ t :: b ∧ ts.findIdx? (fun t => decide (t.id = m.tab)) = some a.length ∧ stepB f ts (m :: l) = if (f t m).2 = 0 then stepB f (a ++ (f t m).1 :: b) l else (ts, (f t m).2) := by
 rcases find_split (p := fun t : TabS => decide (t.id = m.tab)) (l := ts) with ⟨a, t, b, he, ha, hc, hf⟩ | ⟨hn, hf⟩
 ·refine .inr ⟨a, t, b, he, hf, ?_⟩
  conv => lhs; unfold stepB
  rw [hf]
  have hg : ts[a.length]? = some t := by rw [he]; simp
  simp only [hg]
  rw [he, set_mid]
 ·exact .inl ⟨hf, by (conv => lhs; unfold stepB); rw [hf]⟩
theorem snoc_ind {α : Type} {p : List α → Prop} (h0 : p []) (hs : ∀ l x, p l → p (l ++ [x])) (l : List α) : p l := by
 have key : ∀ l : List α, p l.reverse := fun l => by
  induction l with
  | nil => exact h0
  | cons x l ih => rw [List.reverse_cons]; exact hs _ x ih
 have := key l.reverse
 rwa [List.reverse_reverse] at this
def movK (m : MovS) : List Value := [.int .i64 m.tab, .bool m.ix, .int .i64 m.id, .int .i64 0]
def seenK (l : List MovS) : List (List Value) := l.foldl (fun ks m => addK ks (movK m)) []
theorem seenK_snoc (l : List MovS) (m : MovS) : seenK (l ++ [m]) = addK (seenK l) (movK m) := by simp [seenK]
theorem movK_eq (a b : MovS) : movK a = movK b ↔ alikeM a b = true := by
 simp only [movK, alikeM, List.cons.injEq, Value.int.injEq, Value.bool.injEq, true_and, and_true, Bool.and_eq_true, decide_eq_true_eq, and_assoc]
theorem movK_bas (m : MovS) : (movK m).all basV = true := rfl
theorem seenK_mem : ∀ (l : List MovS) (k : List Value), k ∈ seenK l ↔ ∃ m ∈ l, k = movK m := by
 intro l
 induction l using snoc_ind with
 | h0 => intro k; simp [seenK]
 | hs l m ih =>
  intro k
  rw [seenK_snoc]
  unfold addK
  by_cases h : hasK (seenK l) (movK m) = true
  ·rw [if_pos h, ih]
   have hm := (hasK_iff (movK_bas m)).1 h
   rw [ih] at hm
   obtain ⟨o, ho, e⟩ := hm
   constructor
   ·rintro ⟨x, hx, rfl⟩; exact ⟨x, by simp [hx], rfl⟩
   ·rintro ⟨x, hx, rfl⟩
    rcases List.mem_append.1 hx with h1 | h1
    ·exact ⟨x, h1, rfl⟩
    ·simp at h1; subst h1; exact ⟨o, ho, e⟩
  ·rw [if_neg h, List.mem_append, ih]
   constructor
   ·rintro (⟨x, hx, rfl⟩ | hx)
    ·exact ⟨x, by simp [hx], rfl⟩
    ·simp at hx; exact ⟨m, by simp, hx⟩
   ·rintro ⟨x, hx, rfl⟩
    rcases List.mem_append.1 hx with h1 | h1
    ·exact .inl ⟨x, h1, rfl⟩
    ·simp at h1; subst h1; exact .inr (by simp)
theorem seenK_len (l : List MovS) : (seenK l).length ≤ l.length := by
 induction l using snoc_ind with
 | h0 => simp [seenK]
 | hs l m ih =>
  rw [seenK_snoc]; unfold addK
  split
  ·simp; omega
  ·simp; omega
theorem seenK_dist (l : List MovS) : (seenK l).length = l.length ↔ l.Pairwise fun a b => alikeM a b = false := by
 induction l using snoc_ind with
 | h0 => simp [seenK]
 | hs l m ih =>
  rw [seenK_snoc, List.pairwise_append]
  have hl := seenK_len l
  unfold addK
  by_cases h : hasK (seenK l) (movK m) = true
  ·rw [if_pos h]
   obtain ⟨o, ho, e⟩ := (seenK_mem l _).1 ((hasK_iff (movK_bas m)).1 h)
   constructor
   ·intro h2; simp at h2; omega
   ·rintro ⟨_, _, h3⟩
    have := h3 o ho m (by simp)
    rw [(movK_eq o m).1 e.symm] at this; cases this
  ·rw [if_neg h]
   constructor
   ·intro h2
    simp at h2
    refine ⟨ih.1 h2, by simp, fun a ha b hb => ?_⟩
    simp at hb; subst hb
    cases hc : alikeM a b with
    | false => rfl
    | true => exact absurd ((hasK_iff (movK_bas b)).2 ((seenK_mem l _).2 ⟨a, ha, ((movK_eq a b).2 hc).symm⟩)) h
   ·rintro ⟨h1, _, _⟩
    simp [ih.2 h1]
theorem dist_pair' : ∀ l : List MovS, distM l = true ↔ l.Pairwise fun a b => alikeM a b = false
 | [] => by simp [distM]
 | m :: l => by
  simp only [distM, Bool.and_eq_true, Bool.not_eq_true', List.any_eq_false, List.pairwise_cons, dist_pair' l]
  simp
theorem seen_lt (l : List MovS) : (seenK l).length < l.length ↔ distM l = false := by
 have h1 := seenK_len l
 have h2 := seenK_dist l
 rw [← dist_pair'] at h2
 cases hd : distM l with
 | true => have := h2.2 hd; simp; omega
 | false =>
  simp only [iff_true]
  rcases Nat.lt_or_ge (seenK l).length l.length with h | h
  ·exact h
  ·have := h2.1 (by omega)
   rw [hd] at this; cases this
end Go.Proofs.YthgoocdldnkogaaGreatDoor
namespace Go.Proofs.YthgoocdldnkogaaGreatDoor
set_option linter.unusedVariables false
set_option linter.unusedSimpArgs false
open Go.RowKit Go.ChangeShapes Go.WideShapes Go.ChangeAt
attribute [local simp] isCut_nil isCut_region isCut_seq isCut_block isCut_loop isCut_cond isCut_skip isCut_exit isCut_ret isCut_range swapK putK altK condK_bool pickP_bool stepP stepO onPure_some onPure_none onImpl_some onImpl_none stepC onGP_some onGP_none onGV_some condG mkG onIt_it nextP_ptr takeP_eq takeV_some takeV_none takeU_some takeU_none takeQ takeW_some takeN_none takeN_some takeG_some takeO_some altO_some pureV binV2 eqF eqOp ovlV ovl2 rowAt capV binV intBin strBin isSh shV fldV ixV sliceV slice3V loadAV nilV lenV callV unV convV viewS cellsH loadV fldCut AV.ung AV.ungs AV.gc AV.cells AS.ev AS.put anyS gcsV gcO lens lnO gV guardV retK RetP_eq resV oneV anyRo loIx hiIx implO callP_clo evL gcsL clearV storeAV AS.push AS.setO appV appZ shortS copyV buildV partsV fillV srcV fzO okV isCell_c isCell_ptr isCell_sl isCell_fs isCell_fp isCell_clo rowZ_one rowZ_zero rowZ_2 rowZ_3 rowZ_4 rowZ_5 rowZ_6 rowZ_7 rowZ_8 rowZ_9 rowZ_10 rowZ_11 rowZ_12 noHo Value.oneCell' max2V min2V lookV updV updK updW cvals mkAt basV lenM msAt afterH putBack frzFrom frzO rebO backIx nilEq_sl nilEq_fs nilEq_ifn nilEq_ifh ifOp_eql ifOp_neq isLit nilOp_eql nilOp_neq AV.reb AV.rebL
attribute [local simp ↓] runK_skip runK_region runK_draw runK_seq runK_cut runK_cond runK_block runK_loop runK_exit runK_label runK_goto runK_ret runK_range contK_nil contK_seq contK_seq_ret contK_seq_exit contK_seq_goto contK_block contK_block_ret contK_block_goto contK_block_exit runO_nil runO_cons roundK_exit roundK_ret roundK_goto exitK_ret cutK_ret cutK_exit runE_done runE_nil runE_take runE_alt condG_true condG_false
set_option maxRecDepth 10000
theorem key_mov : WideMaps.KeyLaw Tryz.prog 55 := deep_law (m := 5) (by omega) (by kernel_rfl) (by kernel_rfl) (by kernel_rfl)
theorem key_some (m : MovS) (h1 : i64v m.tab) (h2 : i64v m.id) : (keyOf Tryz.prog 55 (.agg (movK m).toArray)).isSome = true := by
 have k1 : (Tryz.prog).keyType 55 = true := by kernel_rfl
 have hpos : decide (0 < (Tryz.prog).types.size) = true := by kernel_rfl
 obtain ⟨d, hd⟩ : ∃ d, (Tryz.prog).types.size = d + 1 := ⟨(Tryz.prog).types.size - 1, by have := of_decide_eq_true hpos; omega⟩
 have c1 : (Tryz.prog).cellsOf 55 = 4 := by kernel_rfl
 have c2 : (Tryz.prog).cellsOf 3 = 1 := by kernel_rfl
 have c3 : (Tryz.prog).cellsOf 4 = 1 := by kernel_rfl
 have c4 : (Tryz.prog).cellsOf 42 = 1 := by kernel_rfl
 have w : ∀ x : Int, i64v x → (Lit.int .i64 x).wf = true := fun x hx => by
  unfold i64v at hx
  simp only [Lit.wf, Bool.and_eq_true, decide_eq_true_eq]
  have e1 : IntKind.i64.min = -9223372036854775808 := by decide
  have e2 : IntKind.i64.max = 9223372036854775807 := by decide
  rw [e1, e2]; omega
 have w1 := w m.tab h1
 have w2 := w m.id h2
 have w3 := w 0 (by unfold i64v; omega)
 unfold keyOf
 rw [Tryz.underlying55]
 simp only [k1, Bool.true_and, hd]
 have hf : Value.formed Tryz.prog 55 (Value.agg (movK m).toArray) = true := by
  simp [Value.formed, Tryz.underlying55, movK, c1]
 rw [if_pos hf]
 simp [Program.keyLits, Tryz.underlying55, Tryz.underlying3, Tryz.underlying4, Tryz.underlying42, c1, c2, c3, c4, movK, Value.cells, w1, w2, w3]
def gOf (b : Bool) : Nat := if b then 48 else 47
theorem gOf_call (b : Bool) : callable Tryz.prog (gOf b) = true := by cases b <;> simp [gOf]
theorem mv_w (pv qv : List Value) (t : TabS) (m : MovS) (i n : Nat) (hp : pv.length = i * 4) (hn : i * 4 + (4 + qv.length) = n) (hb : MvB t m) : ACalls Tryz.prog (gOf m.ix) [.ptr 0 (i * 4) n, .agg (movA m)] [focR pv qv t, rowL t.cols, rowX t.idxs] (fun k => decide (k < 3)) (fun r h' => r = .c (.int .i64 (mvP t m).2) ∧ h' = mvO pv qv t (mvP t m).1) := by
 cases hix : m.ix with
 | true => have := mvix_w pv qv t m i n hp hn hb; simpa only [gOf, mvP, hix, if_true] using this
 | false => have := mvcol_w pv qv t m i n hp hn hb; simpa only [gOf, mvP, hix, if_false, Bool.false_eq_true] using this
def rotG (n k : Nat) : Nat := if k < 1 + 2 * n then k + 3 else if k = 1 + 2 * n then 4 + 2 * n else if k = 2 + 2 * n then 1 else k + (2 * n + 100)
theorem wk_rot {E : Env} (hE : E.ho = noHo) (hln : E.ln0 = []) {l : List TabS} {n : Nat} {ver next : Int} {T T' z : List AV} {x0 x2 : AObj} (hnl : n = l.length) (hz : z.all isD = true) (hT : wkL [] T (AV.rebL (rotG n) T')) :
  Wk E ⟨T, x0 :: .o .box z :: x2 :: (heapS 3 l ++ [.o .box [.c (.int .i64 ver), .c (.int .i64 next), .sl 3 4 0 n (n * 4)]])⟩ ⟨T', heapS 0 l ++ [.o .box [.c (.int .i64 ver), .c (.int .i64 next), .sl 0 4 0 n (n * 4)], .o .box z]⟩ := by
 subst hnl
 obtain ⟨S0, hS0⟩ : ∃ S0 : List AObj, S0 = x0 :: .o .box z :: x2 :: (heapS 3 l ++ [.o .box [.c (.int .i64 ver), .c (.int .i64 next), .sl 3 4 0 l.length (l.length * 4)]]) := ⟨_, rfl⟩
 rw [← hS0]
 have hS0l : S0.length = 5 + 2 * l.length := by rw [hS0]; simp; omega
 have q1 : S0[1]? = some (.o .box z) := by rw [hS0]; rfl
 have q3 : ∀ k x, (heapS 3 l)[k]? = some x → S0[k + 3]? = some x := fun k x hk => by
  rw [hS0]
  simp only [List.getElem?_cons_succ]
  rw [List.getElem?_append_left (List.getElem?_eq_some_iff.1 hk).1]; exact hk
 have q4 : S0[4 + 2 * l.length]? = some (.o .box [.c (.int .i64 ver), .c (.int .i64 next), .sl 3 4 0 l.length (l.length * 4)]) := by
  rw [hS0, show 4 + 2 * l.length = (1 + 2 * l.length) + 3 by omega]
  simp only [List.getElem?_cons_succ]
  rw [List.getElem?_append_right (by simp), heapS_length]; simp
 refine Wk.trans (wk_eq (s' := ⟨AV.rebL (rotG l.length) T', S0⟩) (by rw [hln]; simp) rfl hT) ?_
 have hm : (heapS 0 l).map (rebO (rotG l.length)) = heapS 3 l := by
  have h1 : (inner l).map (rebO (rotG l.length)) = inner l := by
   conv => rhs; rw [← List.map_id (inner l)]
   exact List.map_congr_left fun x hx => inner_reb _ l x hx
  have h2 : AV.rebL (rotG l.length) (livsA (0 + 1) l) = livsA (3 + 1) l := rebL_livs _ l _ _ fun i hi => by
   simp only [rotG]; rw [if_pos (by omega)]; omega
  simp only [heapS, List.map_cons, rebO_eq, h1, h2]
 have hobj : ∀ (k : Nat) (x : AObj), (heapS 0 l ++ [.o .box [.c (.int .i64 ver), .c (.int .i64 next), .sl 0 4 0 l.length (l.length * 4)], .o .box z])[k]? = some x → S0[rotG l.length k]? = some (rebO (rotG l.length) x) := fun k x hk => by
  by_cases h1 : k < 1 + 2 * l.length
  ·rw [List.getElem?_append_left (by simpa using h1)] at hk
   rw [rotG, if_pos h1]
   refine q3 k _ ?_
   rw [← hm, List.getElem?_map, hk]; rfl
  ·rw [List.getElem?_append_right (by simpa using h1), heapS_length] at hk
   have hkl : k - (1 + 2 * l.length) < 2 := by have := (List.getElem?_eq_some_iff.1 hk).1; simpa using this
   by_cases h2 : k = 1 + 2 * l.length
   ·subst h2
    simp at hk; subst hk
    have e : rotG l.length (1 + 2 * l.length) = 4 + 2 * l.length := by simp [rotG]
    have e0 : rotG l.length 0 = 3 := by simp only [rotG]; rw [if_pos (by omega)]
    rw [e, q4, rebO_eq]
    simp only [AV.rebL, AV.reb, e0]
   ·obtain rfl : k = 2 + 2 * l.length := by omega
    rw [show 2 + 2 * l.length - (1 + 2 * l.length) = 1 by omega] at hk
    simp at hk; subst hk
    have e : rotG l.length (2 + 2 * l.length) = 1 := by simp only [rotG]; rw [if_neg (by omega), if_neg (by omega)]; simp
    rw [e, q1, rebO_eq, rebL_isD hz]
 refine wk_pick (rotG l.length) hE (fun k => ?_) (fun j k hj hk h => ?_) hobj rfl (fun k hk _ => by rw [hln] at hk; cases hk)
 ·simp only [lens, List.getElem?_map]
  cases hk : (heapS 0 l ++ [.o .box [.c (.int .i64 ver), .c (.int .i64 next), .sl 0 4 0 l.length (l.length * 4)], .o .box z])[k]? with
  | some x => rw [hobj k x hk, Option.map_some, Option.map_some, rebO_ln]
  | none =>
   have hkl := List.getElem?_eq_none_iff.1 hk
   simp at hkl
   have : rotG l.length k = k + (2 * l.length + 100) := by simp only [rotG]; rw [if_neg (by omega), if_neg (by omega), if_neg (by omega)]
   rw [this, List.getElem?_eq_none_iff.2 (by omega)]
 ·simp at hj hk
  simp only [rotG] at h
  repeat' (split at h)
  all_goals omega
theorem wk_back {E : Env} (hE : E.ho = noHo) (hln : E.ln0 = []) {a b : List TabS} {t : TabS} {j1 j2 : List AV} {c x : Nat} {L : List AObj} {T : List AV} (hc : c = t.cols.length * 10 + j1.length) (hx : x = t.idxs.length * 5 + j2.length) (hj1 : ∀ y ∈ j1, isD y = true) (hj2 : ∀ y ∈ j2, isD y = true)
  (hL1 : ∀ o ∈ L, livO [1] o = true) (hL2 : ∀ o ∈ L, livO [2] o = true) (hL3 : ∀ o ∈ L, rebO (fU a.length) o = o) (hT1 : AV.livL [1] T = true) (hT2 : AV.livL [2] T = true) (hT3 : AV.rebL (fU a.length) T = T) :
  Wk E ⟨T, .o (.row 28 4) (livsA 3 a ++ (livJ t c x ++ livsA (3 + 2 * a.length) b)) :: rowLJ t.cols j1 :: rowXJ t.idxs j2 :: (inner a ++ inner b ++ L)⟩ ⟨T, heapS 0 (a ++ t :: b) ++ L⟩ := by
 obtain ⟨R, hR⟩ : ∃ R, R = livsA 3 a ++ (livJ t c x ++ livsA (3 + 2 * a.length) b) := ⟨_, rfl⟩
 have hget : ∀ k, k < 4 → R[a.length * 4 + k]? = (livJ t c x)[k]? := fun k hk => by
  rw [hR, List.getElem?_append_right (by simp), livsA_length, Nat.add_sub_cancel_left, List.getElem?_append_left (by simpa [livJ] using hk)]
 have hset : ∀ k y, k < 4 → R.set (a.length * 4 + k) y = livsA 3 a ++ ((livJ t c x).set k y ++ livsA (3 + 2 * a.length) b) := fun k y hk => by
  rw [hR, List.set_append_right _ _ (by simp), livsA_length, Nat.add_sub_cancel_left, List.set_append_left _ _ (by simpa [livJ] using hk)]
 have la : ∀ d : List Nat, (∀ k ∈ d, k < 3) → AV.livL d (livsA 3 a) = true := fun d hd => livs_liv d a 3 fun i _ hm => by have := hd _ hm; omega
 have lb : ∀ d : List Nat, (∀ k ∈ d, k < 3) → AV.livL d (livsA (3 + 2 * a.length) b) = true := fun d hd => livs_liv d b _ fun i _ hm => by have := hd _ hm; omega
 rw [← hR]
 refine Wk.trans (wk_short (s := ⟨T, _⟩) 1 0 (a.length * 4 + 2) (e := 44) (sz := 10) (n := t.cols.length) (m := c) (m' := t.cols.length * 10) (cs := colsA t.cols ++ j1) (rs := R) (by decide) rfl rfl (by rw [hget 2 (by omega)]; rfl) (by simp [hc]) (by omega) (Nat.le_refl _) (List.all_eq_true.2 fun y hy => ?_) (.inr (by rw [hln]; simp)) hT1 ?_ fun i y h1 h0 hi => ?_) ?_
 ·rcases List.mem_append.1 hy with h | h
  ·exact (colsA_all _).2 trivial y h
  ·exact hj1 y h
 ·rw [hset 2 _ (by omega), livL_app, livL_app, la [1] (by simp), lb [1] (by simp)]
  simp [livJ, AV.livL, AV.liv]
 ·match i, h1, h0, hi with
  | 2, _, _, hi => simp at hi; subst hi; simp only [rowXJ, livO, Bool.or_eq_true]; exact .inl (List.all_eq_true.2 fun y hy => by
    rcases List.mem_append.1 hy with h | h
    ·exact (idxsA_all _).2 trivial y h
    ·exact hj2 y h)
  | i + 3, _, _, hi =>
   have hm := List.mem_of_getElem? (by simpa using hi)
   simp only [List.mem_append] at hm
   rcases hm with h | h | h
   ·exact inner_liv _ _ y h
   ·exact inner_liv _ _ y h
   ·exact hL1 y h
 ·obtain ⟨R2, hR2⟩ : ∃ R2, R2 = R.set (a.length * 4 + 2) (.sl 1 10 0 t.cols.length (t.cols.length * 10)) := ⟨_, rfl⟩
  have hR2' : R2 = livsA 3 a ++ (livJ t (t.cols.length * 10) x ++ livsA (3 + 2 * a.length) b) := by rw [hR2, hset 2 _ (by omega)]; rfl
  have e1 : List.take (t.cols.length * 10) (colsA t.cols ++ j1) = colsA t.cols := List.take_left' (by simp)
  simp only [List.set_cons_succ, List.set_cons_zero]
  rw [e1, ← hR2]
  have hget2 : ∀ k, k < 4 → R2[a.length * 4 + k]? = (livJ t (t.cols.length * 10) x)[k]? := fun k hk => by
   rw [hR2', List.getElem?_append_right (by simp), livsA_length, Nat.add_sub_cancel_left, List.getElem?_append_left (by simpa [livJ] using hk)]
  have hset2 : ∀ k y, k < 4 → R2.set (a.length * 4 + k) y = livsA 3 a ++ ((livJ t (t.cols.length * 10) x).set k y ++ livsA (3 + 2 * a.length) b) := fun k y hk => by
   rw [hR2', List.set_append_right _ _ (by simp), livsA_length, Nat.add_sub_cancel_left, List.set_append_left _ _ (by simpa [livJ] using hk)]
  refine Wk.trans (wk_short (s := ⟨T, _⟩) 2 0 (a.length * 4 + 3) (e := 49) (sz := 5) (n := t.idxs.length) (m := x) (m' := t.idxs.length * 5) (cs := idxsA t.idxs ++ j2) (rs := R2) (by decide) rfl rfl (by rw [hget2 3 (by omega)]; rfl) (by simp [hx]) (by omega) (Nat.le_refl _) (List.all_eq_true.2 fun y hy => ?_) (.inr (by rw [hln]; simp)) hT2 ?_ fun i y h1 h0 hi => ?_) ?_
  ·rcases List.mem_append.1 hy with h | h
   ·exact (idxsA_all _).2 trivial y h
   ·exact hj2 y h
  ·rw [hset2 3 _ (by omega), livL_app, livL_app, la [2] (by simp), lb [2] (by simp)]
   simp [livJ, AV.livL, AV.liv]
  ·match i, h1, h0, hi with
   | 1, _, _, hi => simp at hi; subst hi; simp only [livO, Bool.or_eq_true]; exact .inl (List.all_eq_true.2 ((colsA_all _).2 trivial))
   | i + 3, _, _, hi =>
    have hm := List.mem_of_getElem? (by simpa using hi)
    simp only [List.mem_append] at hm
    rcases hm with h | h | h
    ·exact inner_liv _ _ y h
    ·exact inner_liv _ _ y h
    ·exact hL2 y h
  ·have e2 : List.take (t.idxs.length * 5) (idxsA t.idxs ++ j2) = idxsA t.idxs := List.take_left' (by simp)
   have e3 : R2.set (a.length * 4 + 3) (.sl 2 5 0 t.idxs.length (t.idxs.length * 5)) = livsA 3 a ++ (livA 1 t ++ livsA (3 + 2 * a.length) b) := by rw [hset2 3 _ (by omega)]; rfl
   simp only [List.set_cons_succ, List.set_cons_zero, e2, e3]
   have hf := wk_unfocus (E := E) (T := T) (a := a) (t := t) (b := b) (L := L) hE hln hT3 hL3
   have e4 : focS a t b ++ L = .o (.row 28 4) (livsA 3 a ++ (livA 1 t ++ livsA (3 + 2 * a.length) b)) :: .o (.row 44 10) (colsA t.cols) :: .o (.row 49 5) (idxsA t.idxs) :: (inner a ++ inner b ++ L) := by
    simp [focS, rowL, rowX]
   rw [e4] at hf
   exact hf
def allF (n k : Nat) : Nat := if k = 0 then 2 + 2 * n else if k = 1 then 1 + 2 * n else k + (2 * n + 100)
theorem wk_allD {E : Env} (hE : E.ho = noHo) (hln : E.ln0 = []) {l : List TabS} {n : Nat} {ver next : Int} {T T' z : List AV} (hnl : l.length = n) (hlm : n ≤ maxLen) (hb : ∀ x ∈ l, x.cols.length ≤ maxLen ∧ x.idxs.length ≤ maxLen) (hz : z.all isD = true) (hT : wkL [] T (AV.rebL (allF n) T')) :
  Wk E ⟨T, heapS 0 l ++ [.o .box [.c (.int .i64 ver), .c (.int .i64 next), .sl 0 4 0 n (n * 4)], .o .box z]⟩ ⟨T', [.o .box z, .o .box (schA ⟨ver, next, l⟩)]⟩ := by
 subst hnl
 refine Wk.trans (wk_fzOk (fun k => decide (k < 1 + 2 * l.length)) hE) ?_
 obtain ⟨S0, hS0⟩ : ∃ S0 : List AObj, S0 = heapS 0 l ++ [.o .box [.c (.int .i64 ver), .c (.int .i64 next), .sl 0 4 0 l.length (l.length * 4)], .o .box z] := ⟨_, rfl⟩
 simp only
 rw [← hS0]
 have hS0l : S0.length = 3 + 2 * l.length := by rw [hS0]; simp; omega
 obtain ⟨H, hH⟩ : ∃ H, H = frzFrom (fun k => decide (k < 1 + 2 * l.length)) 0 S0 := ⟨_, rfl⟩
 rw [← hH]
 have hg : ∀ k, H[k]? = (S0[k]?).map fun x => if decide (k < 1 + 2 * l.length) = true then frzO x else x := fun k => by rw [hH, frz_at, Nat.zero_add]
 have hHl : H.length = 3 + 2 * l.length := by rw [hH, frz_len, hS0l]
 have q1 : S0[1 + 2 * l.length]? = some (.o .box [.c (.int .i64 ver), .c (.int .i64 next), .sl 0 4 0 l.length (l.length * 4)]) := by rw [hS0, List.getElem?_append_right (by simp), heapS_length]; simp
 have q2 : S0[2 + 2 * l.length]? = some (.o .box z) := by rw [hS0, List.getElem?_append_right (by simp), heapS_length, show 2 + 2 * l.length - (1 + 2 * l.length) = 1 by omega]; rfl
 have g1 : H[1 + 2 * l.length]? = some (.o .box [.c (.int .i64 ver), .c (.int .i64 next), .sl 0 4 0 l.length (l.length * 4)]) := by rw [hg, q1, Option.map_some, if_neg (by simp)]
 have g2 : H[2 + 2 * l.length]? = some (.o .box z) := by rw [hg, q2, Option.map_some, if_neg (by simp)]
 have hfz : ∀ k x, (heapS 0 l)[k]? = some x → isFz H (0 + k) ∧ hasKC H (0 + k) (cellsO x) := fun k x hk => by
  have hkl : k < 1 + 2 * l.length := by have := (List.getElem?_eq_some_iff.1 hk).1; simpa using this
  have e := hg k
  rw [hS0, List.getElem?_append_left (by simpa using hkl), hk, Option.map_some, if_pos (by simpa using hkl)] at e
  have hx : ∃ kd cs, x = .o kd cs := by
   have hm := List.mem_of_getElem? hk
   simp only [heapS, List.mem_cons] at hm
   rcases hm with rfl | hm
   ·exact ⟨_, _, rfl⟩
   ·have : ∀ (l : List TabS) (x : AObj), x ∈ inner l → ∃ kd cs, x = .o kd cs := fun l => by
     induction l with
     | nil => intro x hx; cases hx
     | cons y l ih => intro x hx; simp only [inner, List.mem_cons] at hx; rcases hx with rfl | rfl | hx; exact ⟨_, _, rfl⟩; exact ⟨_, _, rfl⟩; exact ih x hx
    exact this l x hm
  obtain ⟨kd, cs, rfl⟩ := hx
  rw [Nat.zero_add]
  exact ⟨⟨cs, e⟩, ⟨_, e⟩⟩
 have hds := deep_sch 0 ver next l hfz hlm hb
 have hcells : ∀ (j : Nat) (u u' : AV), [AV.c (.int .i64 ver), .c (.int .i64 next), .sl 0 4 0 l.length (l.length * 4)][j]? = some u → (schA ⟨ver, next, l⟩)[j]? = some u' → u = u' ∨ DeepD H (isFz H) u u' := fun j u u' hu hu' => by
  cases hds with
  | d _ _ h => cases h
  | agg _ _ _ h =>
   have := h j u u' hu hu'
   match j, hu, hu' with
   | 0, hu, hu' => simp [schA] at hu hu'; subst hu hu'; exact .inl rfl
   | 1, hu, hu' => simp [schA] at hu hu'; subst hu hu'; exact .inl rfl
   | 2, hu, hu' =>
    simp [schA] at hu hu'; subst hu hu'
    cases this with
    | d _ _ h => exact .inr h
   | j + 3, hu, hu' => simp at hu
 refine Wk.trans (wk_deepL (s := ⟨T, H⟩) (1 + 2 * l.length) (cs' := schA ⟨ver, next, l⟩) g1 rfl hcells) ?_
 obtain ⟨H2, hH2⟩ : ∃ H2, H2 = H.set (1 + 2 * l.length) (.o .box (schA ⟨ver, next, l⟩)) := ⟨_, rfl⟩
 simp only
 rw [← hH2]
 have hH2l : H2.length = 3 + 2 * l.length := by rw [hH2, List.length_set, hHl]
 have k1 : H2[1 + 2 * l.length]? = some (.o .box (schA ⟨ver, next, l⟩)) := by rw [hH2, List.getElem?_set_self (by omega)]
 have k2 : H2[2 + 2 * l.length]? = some (.o .box z) := by rw [hH2, List.getElem?_set_ne (by omega)]; exact g2
 refine Wk.trans (wk_eq (s' := ⟨AV.rebL (allF l.length) T', H2⟩) (by rw [hln]; simp) rfl hT) ?_
 have hobj : ∀ (k : Nat) (x : AObj), [AObj.o .box z, .o .box (schA ⟨ver, next, l⟩)][k]? = some x → H2[allF l.length k]? = some (rebO (allF l.length) x) := fun k x hk => by
  match k, hk with
  | 0, hk => simp at hk; subst hk; rw [rebO_eq, rebL_isD hz]; exact k2
  | 1, hk => simp at hk; subst hk; rw [rebO_eq, schA_reb]; exact k1
  | k + 2, hk => simp at hk
 refine wk_pick (allF l.length) hE (fun k => ?_) (fun j k hj hk h => ?_) hobj rfl (fun k hk _ => by rw [hln] at hk; cases hk)
 ·simp only [lens, List.getElem?_map]
  cases hk : [AObj.o .box z, .o .box (schA ⟨ver, next, l⟩)][k]? with
  | some x => rw [hobj k x hk, Option.map_some, Option.map_some, rebO_ln]
  | none =>
   have hkl := List.getElem?_eq_none_iff.1 hk
   simp at hkl
   have : allF l.length k = k + (2 * l.length + 100) := by simp only [allF]; rw [if_neg (by omega), if_neg (by omega)]
   rw [this, List.getElem?_eq_none_iff.2 (by omega)]
 ·simp only [allF] at h
  repeat' (split at h)
  all_goals omega
def stL (N n : Nat) (ver next : Int) (l : List MovS) (y : Nat × List TabS) : AS := ⟨slotsOf 75 [(4, .ptr (N + 1) 0 3), (9, .ptr N 0 3), (44, .fs 4 l.length (movsA l)), (45, .c (.int .i64 (l.length : Nat))), (46, .c (.int .i64 (y.1 : Nat)))],
 heapS 0 y.2 ++ [.o .box [.c (.int .i64 (ver + 1)), .c (.int .i64 next), .sl 0 4 0 n (n * 4)], .o .box [.c (.int .i64 0), .c (.int .i64 0), .c (.slice none 0 0)]]⟩
theorem heap_hasC (l : List TabS) (X : List AObj) (k : Nat) (x : AObj) (hk : (heapS 0 l)[k]? = some x) : True ∧ hasKC (heapS 0 l ++ X) (0 + k) (cellsO x) := by
 have hx : ∃ kd cs, x = .o kd cs := by
  have hm := List.mem_of_getElem? hk
  simp only [heapS, List.mem_cons] at hm
  rcases hm with rfl | hm
  ·exact ⟨_, _, rfl⟩
  ·have : ∀ (l : List TabS) (x : AObj), x ∈ inner l → ∃ kd cs, x = .o kd cs := fun l => by
    induction l with
    | nil => intro x hx; cases hx
    | cons y l ih => intro x hx; simp only [inner, List.mem_cons] at hx; rcases hx with rfl | rfl | hx; exact ⟨_, _, rfl⟩; exact ⟨_, _, rfl⟩; exact ih x hx
   exact this l x hm
 obtain ⟨kd, cs, rfl⟩ := hx
 refine ⟨trivial, kd, ?_⟩
 rw [Nat.zero_add, List.getElem?_append_left (List.getElem?_eq_some_iff.1 hk).1]; exact hk
theorem mvP_len (t : TabS) (m : MovS) : (mvP t m).1.cols.length * 10 + (jC t (mvP t m).1).length = t.cols.length * 10 ∧ (mvP t m).1.idxs.length * 5 + (jX t (mvP t m).1).length = t.idxs.length * 5 := by
 have same : ∀ t' : TabS, t'.cols.length = t.cols.length → t'.idxs.length = t.idxs.length → t'.cols.length * 10 + (jC t t').length = t.cols.length * 10 ∧ t'.idxs.length * 5 + (jX t t').length = t.idxs.length * 5 := fun t' h1 h2 => by simp [jC, jX, h1, h2]
 unfold mvP
 split
 ·unfold mvX
  split
  ·exact same _ rfl rfl
  ·split
   ·exact same _ rfl rfl
   ·rename_i i hf o x hx
    split
    ·exact same _ rfl rfl
    ·split
     ·have hi : i < t.idxs.length := (List.getElem?_eq_some_iff.1 hx).1
      have hl : (t.idxs.eraseIdx i).length = t.idxs.length - 1 := by rw [List.length_eraseIdx, if_pos hi]
      have hlt : (t.idxs.eraseIdx i).length < t.idxs.length := by omega
      simp only [jC, jX, hlt, if_true, Nat.lt_irrefl, if_false, zIdx, List.length_cons, List.length_nil]
      omega
     ·exact same _ rfl (by simp)
 ·unfold mvC
  split
  ·exact same _ rfl rfl
  ·split
   ·exact same _ rfl rfl
   ·rename_i i hf o x hx
    split
    ·exact same _ rfl rfl
    ·split
     ·have hi : i < t.cols.length := (List.getElem?_eq_some_iff.1 hx).1
      have hl : (t.cols.eraseIdx i).length = t.cols.length - 1 := by rw [List.length_eraseIdx, if_pos hi]
      have hlt : (t.cols.eraseIdx i).length < t.cols.length := by omega
      simp only [jC, jX, hlt, if_true, Nat.lt_irrefl, if_false, zCol, List.length_cons, List.length_nil]
      omega
     ·exact same _ (by simp) rfl
def MovOk (m : MovS) : Prop := i64v m.tab ∧ i64v m.id ∧ i64v m.dst
def smSt (s : SchS) (l : List MovS) (j : Nat) : AS := ⟨slotsOf 75 [(1, .fs 4 l.length (movsA l)), (2, .ptr 0 0 3), (4, .ptr 1 0 3), (6, .mref 2), (16, .fs 4 l.length (movsA l)), (17, .c (.int .i64 (l.length : Nat))), (18, .c (.int .i64 (j : Nat)))],
 [.o .box (schA s), .o .box [.c (.int .i64 0), .c (.int .i64 0), .c (.slice none 0 0)], .raw (.mk (seenK (l.take j)))]⟩
def smEnd (s : SchS) (l : List MovS) : AS := ⟨slotsOf 75 [(1, .fs 4 l.length (movsA l)), (2, .ptr 0 0 3), (4, .ptr 1 0 3), (6, .mref 2)],
 [.o .box (schA s), .o .box [.c (.int .i64 0), .c (.int .i64 0), .c (.slice none 0 0)], .raw (.mk (seenK l))]⟩
set_option maxHeartbeats 8000000 in
theorem step_w (s : SchS) (l : List MovS) (hv : s.ver ≤ 2 ^ 62) (hl : s.tabs.length ≤ 1000) (hb : ∀ t ∈ s.tabs, TabBig t) (hll : l.length ≤ 500) (hm : ∀ m ∈ l, MovOk m) : ACalls Tryz.prog 18 [.agg (schA s), .fs 4 l.length (movsA l)] [] (fun _ => false) (fun r h' => r = .tup [.agg (schA (stepF mvP s l).1), .c (.int .i64 (stepF mvP s l).2)] ∧ h' = []) := by
 refine acallsC [7, 10, 19, 23] mixed Tryz.func18 rfl Tryz.ntmps18 rfl fun E hE hst hho => ?_
 obtain ⟨RS, hRS⟩ : ∃ RS, RS = stepF mvP s l := ⟨_, rfl⟩
 rw [← hRS]
 simp (maxSteps := 1000000) [hho, noHo, -List.reduceReplicate]
 refine seq_cut mixed [] (fun _ : Unit => smEnd s l) (fun _ => True) ?_ ?_
 ·intro _ _
  simp only [smEnd]
  have hr := right_sc s (by omega) hb
  unfold stepF at hRS
  cases hs : schOk s with
  | false =>
   have e3 : RS = (zeroS, 2) := by rw [hRS, if_pos (.inl hs)]
   rw [e3]
   rw [hs] at hr
   simp (maxSteps := 1000000) [hho, noHo, slotsOf, undef, onGP_none, condG_false, -List.reduceReplicate]
   refine call_0 (hr) rfl rfl hho (by simp) ?_
   simp (maxSteps := 1000000) [hho, noHo, undef, onGP_none, condG_false, -List.reduceReplicate]
   exact ret_zero ⟨rfl, rfl⟩
  | true =>
  rw [hs] at hr
  by_cases hnil : l = []
  ·have e3 : RS = (zeroS, 2) := by rw [hRS, if_pos (.inr (.inl hnil))]
   rw [e3]
   subst hnil
   simp (maxSteps := 1000000) [hho, noHo, slotsOf, undef, onGP_none, condG_false, -List.reduceReplicate]
   refine call_0 (hr) rfl rfl hho (by simp) ?_
   simp (maxSteps := 1000000) [hho, noHo, undef, onGP_none, condG_false, -List.reduceReplicate]
   exact ret_zero ⟨rfl, rfl⟩
  ·have hlz : ¬ (l.length : Int) = 0 := fun h => hnil (List.eq_nil_of_length_eq_zero (by omega))
   cases hd : distM l with
   | false =>
    have e3 : RS = (zeroS, 2) := by rw [hRS, if_pos (.inr (.inr hd))]
    rw [e3]
    have hsl : ((seenK l).length : Int) < l.length := by have := (seen_lt l).2 hd; omega
    simp (maxSteps := 1000000) [hho, noHo, slotsOf, undef, onGP_none, condG_false, -List.reduceReplicate]
    refine call_0 (hr) rfl rfl hho (by simp) ?_
    simp (maxSteps := 1000000) [hho, noHo, hlz, hnil, hsl, undef, onGP_none, condG_false, -List.reduceReplicate]
    exact ret_zero ⟨rfl, rfl⟩
   | true =>
   have hsl : ¬ ((seenK l).length : Int) < l.length := fun h => by
    have := (seen_lt l).1 (by omega)
    rw [hd] at this; cases this
   rw [if_neg (by rw [hs, hd]; simp [hnil])] at hRS
   obtain ⟨q, hq⟩ : ∃ q : AV, q = .tup [.agg (schA RS.1), .c (.int .i64 RS.2)] := ⟨_, rfl⟩
   rw [← hq]
   have hso := (schOk_iff s).1 hs
   have hw := next_w s ⟨hv, hso.ver⟩ (by omega) fun t ht => ⟨(hb t ht).cl, (hb t ht).il, fun x hx => ((hb t ht).xn x hx).2⟩
   simp (maxSteps := 1000000) [hho, noHo, slotsOf, undef, onGP_none, condG_false, -List.reduceReplicate]
   refine call_0 (hr) rfl rfl hho (by simp) ?_
   simp (maxSteps := 1000000) [hho, noHo, hlz, hnil, hsl, undef, onGP_none, condG_false, -List.reduceReplicate]
   refine seq_cut mixed [] (fun _ : Unit => ⟨slotsOf 75 [(1, .fs 4 l.length (movsA l)), (4, .ptr (1 + 2 * s.tabs.length + 1) 0 3), (9, .ptr (1 + 2 * s.tabs.length) 0 3)], heapS 0 s.tabs ++ [.o .box [.c (.int .i64 (s.ver + 1)), .c (.int .i64 s.next), .sl 0 4 0 s.tabs.length (s.tabs.length * 4)], .o .box [.c (.int .i64 0), .c (.int .i64 0), .c (.slice none 0 0)]]⟩) (fun _ => True) ?_ ?_
   ·intro _ _
    obtain ⟨N, hN⟩ : ∃ N, N = 1 + 2 * s.tabs.length := ⟨_, rfl⟩
    rw [← hN]
    simp (maxSteps := 1000000) [hho, noHo, slotsOf, -List.reduceReplicate]
    refine seq_cut mixed [19] (fun _ : Unit => ⟨slotsOf 75 [(4, .ptr 0 0 3), (9, .ptr 1 0 3)], [.o .box [.c (.int .i64 0), .c (.int .i64 0), .c (.slice none 0 0)], .o .box (schA ⟨s.ver + 1, s.next, (stepB mvP s.tabs l).1⟩)]⟩) (fun _ => (stepB mvP s.tabs l).2 = 0 ∧ (stepB mvP s.tabs l).1.length = s.tabs.length ∧ ∀ t ∈ (stepB mvP s.tabs l).1, TabBig t) ?_ ?_
    ·rintro _ ⟨f1, f2, f3⟩
     rw [if_pos f1] at hRS
     obtain ⟨s2, hs2⟩ : ∃ s2 : SchS, s2 = ⟨s.ver + 1, s.next, (stepB mvP s.tabs l).1⟩ := ⟨_, rfl⟩
     rw [← hs2] at hRS ⊢
     have hck := checked_w s2 122 (by rw [hs2]; simp only; omega) (by rw [hs2]; exact f3)
     simp (maxSteps := 1000000) [hho, noHo, slotsOf, -List.reduceReplicate]
     refine call_0 (hck) rfl rfl hho (by simp) ?_
     simp (maxSteps := 1000000) [hho, noHo, -List.reduceReplicate]
     rw [hq, hRS]
     exact ret_sch ⟨rfl, rfl⟩
    ·simp (maxSteps := 1000000) [hho, noHo, -List.reduceReplicate]
     refine loop_kc [19] mixed (stL N s.tabs.length s.ver s.next l) (fun y => l.length - y.1) (fun y => y.1 ≤ l.length ∧ y.2.length = s.tabs.length ∧ stepB mvP s.tabs l = stepB mvP y.2 (l.drop y.1) ∧ ∀ t ∈ y.2, TB (3 + (y.1 : Nat)) t) (0, s.tabs) ⟨Nat.zero_le _, rfl, rfl, fun t ht => (TB.of (hso.tabs t ht) (hb t ht)).mono (by omega)⟩ ?_ ?_
     ·exact wk_eq (by simp [hE, lens]) (by simp [stL]) (by simp [livH, livO, AV.livL, AV.liv, wkL, wkV, List.range', stL, slotsOf])
     ·rintro ⟨j, ts⟩ ⟨hj, hts, hI, hB⟩
      simp only at hj hts hI hB
      by_cases hjl : j < l.length
      ·obtain ⟨m, hmx⟩ : ∃ m, m = l[j] := ⟨_, rfl⟩
       have hat := movsA_at l j hjl
       rw [← hmx] at hat
       have e0 : j * 4 + 4 ≤ l.length * 4 := by omega
       have ew : IntKind.i64.wrap ((j : Int) + 1) = (j + 1 : Nat) := by rw [IntWalk.i64_in _ (by omega)]; rfl
       have hmo := hm m (by rw [hmx]; exact List.getElem_mem hjl)
       have hdrop : l.drop j = m :: l.drop (j + 1) := by rw [hmx]; exact List.drop_eq_getElem_cons hjl
       rw [hdrop] at hI
       obtain ⟨H, hH⟩ : ∃ H, H = heapS 0 ts := ⟨_, rfl⟩
       have hHl : H.length = N := by rw [hH, heapS_length, hts, hN]
       have hN0 : ∀ (x : AObj) X, (H ++ x :: X)[N]? = some x := fun x X => by rw [List.getElem?_append_right (by omega)]; simp [hHl]
       have hN1 : ∀ (x y : AObj) X, (H ++ x :: y :: X)[N + 1]? = some y := fun x y X => by rw [List.getElem?_append_right (by omega)]; simp [hHl]
       have hN2 : ∀ (x y z : AObj) X, (H ++ x :: y :: z :: X)[N + 2]? = some z := fun x y z X => by rw [List.getElem?_append_right (by omega)]; simp [hHl]
       have hS1 : ∀ (x y z : AObj) X, (H ++ x :: y :: X).set (N + 1) z = H ++ x :: z :: X := fun x y z X => appSet hHl 1 z
       have hS2 : ∀ (x y u z : AObj) X, (H ++ x :: y :: u :: X).set (N + 2) z = H ++ x :: y :: z :: X := fun x y u z X => appSet hHl 2 z
       have hl0 : ∀ (x : Nat) X, (List.map lnO H ++ x :: X)[N]? = some x := fun x X => by rw [List.getElem?_append_right (by simp; omega)]; simp [hHl]
       have hl1 : ∀ (x y : Nat) X, (List.map lnO H ++ x :: y :: X)[N + 1]? = some y := fun x y X => by rw [List.getElem?_append_right (by simp; omega)]; simp [hHl]
       have hl2 : ∀ (x y z : Nat) X, (List.map lnO H ++ x :: y :: z :: X)[N + 2]? = some z := fun x y z X => by rw [List.getElem?_append_right (by simp; omega)]; simp [hHl]
       have kN0 := fun x X h => gq (hN0 x X) h
       have kN1 := fun x y X h => gq (hN1 x y X) h
       have kN2 := fun x y z X h => gq (hN2 x y z X) h
       have kl0 := fun x X h => gq (hl0 x X) h
       have kl1 := fun x y X h => gq (hl1 x y X) h
       have kl2 := fun x y z X h => gq (hl2 x y z X) h
       have hpl := place_w ⟨s.ver + 1, s.next, ts⟩ m.tab (by simp only; omega)
       have hmA : movA m = [.c (.int .i64 m.tab), .c (.bool m.ix), .c (.int .i64 m.id), .c (.int .i64 m.dst)] := rfl
       simp only [stL]
       rw [← hH]
       simp (maxSteps := 1000000) [hho, noHo, slotsOf, hjl, hat, e0, hmA, hHl, hN0, hN1, hN2, hS1, hS2, hl0, hl1, hl2, kN0, kN1, kN2, kl0, kl1, kl2, frz_no, List.map_append, List.append_assoc, -List.reduceReplicate]
       have hcv : ∀ (X : List AObj) (i : Nat) (u u' : AV), [AV.agg [.c (.int .i64 (s.ver + 1)), .c (.int .i64 s.next), .sl 0 4 0 s.tabs.length (s.tabs.length * 4)], .c (.int .i64 m.tab)][i]? = some u → [AV.agg (schA ⟨s.ver + 1, s.next, ts⟩), .c (.int .i64 m.tab)][i]? = some u' → DeepV (H ++ X) (fun _ => True) u u' := fun X i u u' q1 q2 => by
        match i, q1, q2 with
        | 0, q1, q2 =>
         simp at q1 q2; subst q1 q2
         rw [hH, ← hts]
         exact deep_sch 0 _ _ ts (heap_hasC ts X) (by unfold maxLen; omega) fun x hx => by have h1 := (hB x hx).lc; have h2 := (hB x hx).lx; unfold maxLen; omega
        | 1, q1, q2 => simp at q1 q2; subst q1 q2; exact .d _ _ (.d _ rfl)
        | i + 2, q1, q2 => simp at q1
       refine call_data hpl rfl (hcv _) (fun r h' ⟨q1, q2⟩ => ?_)
       subst q1 q2
       refine ⟨rfl, ?_⟩
       rcases stepB_next mvP ts m (l.drop (j + 1)) with ⟨hf, hsb⟩ | ⟨a, t, b, hab, hf, hsb⟩
       ·have hx : ixF (fun x : TabS => decide (x.id = m.tab)) ts = -1 := by unfold ixF; rw [hf]
        have e3 : RS = (zeroS, 100) := by rw [hRS, hI, hsb]; rfl
        rw [hx, hq, e3]
        simp (maxSteps := 1000000) [hho, noHo, hHl, hN0, hN1, hN2, hS1, hS2, hl0, hl1, hl2, kN0, kN1, kN2, kl0, kl1, kl2, frz_no, List.map_append, List.append_assoc, -List.reduceReplicate]
        exact ret_zero ⟨rfl, rfl⟩
       ·have hx : ixF (fun x : TabS => decide (x.id = m.tab)) ts = a.length := by unfold ixF; rw [hf]
        rw [hI, hsb] at hRS
        rw [hsb] at hI
        rw [hx]
        have hneg : ¬ (a.length : Int) < 0 := by omega
        simp (maxSteps := 1000000) [hho, noHo, hneg, hHl, hN0, hN1, hN2, hS1, hS2, hl0, hl1, hl2, kN0, kN1, kN2, kl0, kl1, kl2, frz_no, List.map_append, List.append_assoc, -List.reduceReplicate]
        have htl : s.tabs.length = a.length + 1 + b.length := by rw [← hts, hab]; simp; omega
        have hff : ∀ k, fF a.length k = if k = 0 then 0 else if k < 3 then k + 2 * a.length else if k < 3 + 2 * a.length then k - 2 else k := fun _ => rfl
        have f0 : fF a.length 0 = 0 := rfl
        have fN : ∀ i, fF a.length (N + i) = N + i := fun i => by rw [hff, if_neg (by omega), if_neg (by omega), if_neg (by omega)]
        have fN0 : fF a.length N = N := fN 0
        have fN1 := fN 1
        have fN2 := fN 2
        obtain ⟨o1, ho1⟩ : ∃ o1 : AObj, o1 = .o .box [.c (.int .i64 (s.ver + 1)), .c (.int .i64 s.next), .sl 0 4 0 s.tabs.length (s.tabs.length * 4)] := ⟨_, rfl⟩
        obtain ⟨o2, ho2⟩ : ∃ o2 : AObj, o2 = .o .box [.c (.int .i64 0), .c (.int .i64 0), .c (.slice none 0 0)] := ⟨_, rfl⟩
        obtain ⟨o3, ho3⟩ : ∃ o3 : AObj, o3 = .o .box (movA m) := ⟨_, rfl⟩
        refine seq_cut mixed [] (fun _ : Unit => ⟨slotsOf 75 [(4, .ptr (N + 1) 0 3), (9, .ptr N 0 3), (11, .ptr (N + 2) 0 4), (12, .c (.int .i64 (a.length : Nat))), (13, .clo (.func (gOf m.ix)) [] []), (44, .fs 4 l.length (movsA l)), (45, .c (.int .i64 (l.length : Nat))), (46, .c (.int .i64 (j : Nat)))], focS a t b ++ [o1, o2, o3]⟩) (fun _ => True) ?_ ?_
        ·intro _ _
         have htm : t ∈ ts := by rw [hab]; simp
         have hTB := hB t htm
         have hmvb : MvB t m := hTB.mv (by omega) hmo.2.2
         obtain ⟨F, hF⟩ : ∃ F, F = focS a t b := ⟨_, rfl⟩
         have hFl : F.length = N := by rw [hF]; simp [focS]; omega
         have gF : ∀ (K : List AObj), K.length = N → (∀ (x : AObj) X, (K ++ x :: X)[N]? = some x) ∧ (∀ (x y : AObj) X, (K ++ x :: y :: X)[N + 1]? = some y) ∧ (∀ (x y z : AObj) X, (K ++ x :: y :: z :: X)[N + 2]? = some z) ∧ (∀ (x : Nat) X, (List.map lnO K ++ x :: X)[N]? = some x) ∧ (∀ (x y : Nat) X, (List.map lnO K ++ x :: y :: X)[N + 1]? = some y) ∧ (∀ (x y z : Nat) X, (List.map lnO K ++ x :: y :: z :: X)[N + 2]? = some z) ∧ (∀ (x y z : AObj) X, (K ++ x :: y :: X).set (N + 1) z = K ++ x :: z :: X) := fun K hK =>
          ⟨fun x X => by rw [List.getElem?_append_right (by omega)]; simp [hK], fun x y X => by rw [List.getElem?_append_right (by omega)]; simp [hK], fun x y z X => by rw [List.getElem?_append_right (by omega)]; simp [hK],
           fun x X => by rw [List.getElem?_append_right (by simp; omega)]; simp [hK], fun x y X => by rw [List.getElem?_append_right (by simp; omega)]; simp [hK], fun x y z X => by rw [List.getElem?_append_right (by simp; omega)]; simp [hK], fun x y z X => appSet hK 1 z⟩
         obtain ⟨F0, F1, F2, Fl0, Fl1, Fl2, FS1⟩ := gF F hFl
         have KF0 := fun x X h => gq (F0 x X) h
         have KF1 := fun x y X h => gq (F1 x y X) h
         have KF2 := fun x y z X h => gq (F2 x y z X) h
         have KFl0 := fun x X h => gq (Fl0 x X) h
         have KFl1 := fun x y X h => gq (Fl1 x y X) h
         have KFl2 := fun x y z X h => gq (Fl2 x y z X) h
         have hcal := gOf_call m.ix
         have hrow0 : ∀ X h, (List.map lnO F ++ X)[0]'h = s.tabs.length * 4 := fun X h => by
          have : (List.map lnO F ++ X)[0]? = some (s.tabs.length * 4) := by rw [hF, htl]; simp [focS, lnO, livA]; omega
          exact gq this h
         have hal : (a.length : Int) < s.tabs.length := by omega
         rw [← hF]
         simp (maxSteps := 1000000) [hho, noHo, slotsOf, hFl, F0, F1, F2, Fl0, Fl1, Fl2, KF0, KF1, KF2, KFl0, KFl1, KFl2, frz_no, List.map_append, List.append_assoc, -List.reduceReplicate]
         refine draw_k hho (.take 0 (.take 1 (.take 2 (.take 3 (.take 4 (.take 5 (.alt 6 (.take 7 (.done)) (.nil)))))))) [N, N + 2] [] (by decide +kernel) (by simp [hFl]) ?_
         simp (maxSteps := 1000000) [hho, noHo, hFl, F0, F1, F2, Fl0, Fl1, Fl2, KF0, KF1, KF2, KFl0, KFl1, KFl2, frz_no, List.map_append, List.append_assoc, hcal, ho1, ho2, ho3, hrow0, hal, roOf, holdOf, wrOf, altK, heldOk, Region.binds, -List.reduceReplicate]
         intro E1
         obtain ⟨K2, hK2⟩ : ∃ K2 : List AObj, K2 = .o (.row 28 4) (livsA 3 a ++ (livJ (mvP t m).1 (t.cols.length * 10) (t.idxs.length * 5) ++ livsA (3 + 2 * a.length) b)) :: rowLJ (mvP t m).1.cols (jC t (mvP t m).1) :: rowXJ (mvP t m).1.idxs (jX t (mvP t m).1) :: (inner a ++ inner b) := ⟨_, rfl⟩
         have hK2l : K2.length = N := by rw [hK2]; simp; omega
         refine call_foc [] (pre := livsA 3 a) (mid := livA 1 t) (mid' := livJ (mvP t m).1 (t.cols.length * 10) (t.idxs.length * 5)) (post := livsA (3 + 2 * a.length) b) (B := [rowL t.cols, rowX t.idxs]) (B' := [rowLJ (mvP t m).1.cols (jC t (mvP t m).1), rowXJ (mvP t m).1.idxs (jX t (mvP t m).1)]) (L := inner a ++ inner b ++ [o1, o2, o3]) (e := 28) (sz := 4) (st := fun k => decide (k < 3)) (v := .c (.int .i64 (mvP t m).2))
          ?_ (fun pv qv h1 h2 => mv_w pv qv t m a.length (s.tabs.length * 4) (by rw [h1]; simp) (by rw [h2]; simp; omega) hmvb) rfl rfl (by simp [livA]) (fun i hi => .inl (decide_eq_true hi)) (fun k hk => ?_) (livL_nil _) (fun x hx => ?_) (livL_nil _) (livL_nil _) (fun k hk => by cases hk) ?_ ?_ (livH_of _ _ _ fun x hx => inner_liv _ [t] x hx) ?_
         ·rw [hF, ho1, ho2, ho3]; simp [focS]
         ·simp at hk ⊢; omega
         ·cases x with
          | raw _ => rfl
          | o kd cs => cases kd <;> simp [livO, livL_nil]
         ·simp [AV.livL, AV.liv, movA]
         ·simp [livA, AV.livL, AV.liv]
         ·have e9 : (AObj.o (.row 28 4) (livsA 3 a ++ (livJ (mvP t m).1 (t.cols.length * 10) (t.idxs.length * 5) ++ livsA (3 + 2 * a.length) b)) :: ([rowLJ (mvP t m).1.cols (jC t (mvP t m).1), rowXJ (mvP t m).1.idxs (jX t (mvP t m).1)] ++ (inner a ++ inner b ++ [o1, o2, o3]))) = K2 ++ [o1, o2, o3] := by rw [hK2]; simp
          rw [e9]
          obtain ⟨F0, F1, F2, Fl0, Fl1, Fl2, FS1⟩ := gF K2 hK2l
          have KF0 := fun x X h => gq (F0 x X) h
          have KF1 := fun x y X h => gq (F1 x y X) h
          have KF2 := fun x y z X h => gq (F2 x y z X) h
          have KFl0 := fun x X h => gq (Fl0 x X) h
          have KFl1 := fun x y X h => gq (Fl1 x y X) h
          have KFl2 := fun x y z X h => gq (Fl2 x y z X) h
          by_cases hz0 : (mvP t m).2 = 0
          ·simp (maxSteps := 1000000) [hho, noHo, hz0, hK2l, F0, F1, F2, Fl0, Fl1, Fl2, FS1, KF0, KF1, KF2, KFl0, KFl1, KFl2, frz_no, List.map_append, List.append_assoc, ho1, ho2, ho3, roOf, holdOf, wrOf, altK, heldOk, Region.binds, -List.reduceReplicate]
           refine ⟨⟨((gF F hFl).2.2.2.1 3 [3, 4]).symm, ((gF F hFl).2.2.2.2.2.1 3 3 4 []).symm⟩, ?_⟩
           refine round_next (j + 1, a ++ (mvP t m).1 :: b) ⟨by omega, by simp; omega, by rw [hI, if_pos hz0], fun x hx => ?_⟩ (by simp; omega) ?_
           ·simp only at hx ⊢
            rcases List.mem_append.1 hx with h | h
            ·exact (hB x (by rw [hab]; simp [h])).mono (by omega)
            ·rcases List.mem_cons.1 h with rfl | h
             ·have := mvP_TB hTB hz0
              exact this.mono (by omega)
             ·exact (hB x (by rw [hab]; simp [h])).mono (by omega)
           ·have hfu : ∀ k, fU a.length k = if k = 0 then 0 else if k < 1 + 2 * a.length then k + 2 else if k < 3 + 2 * a.length then k - 2 * a.length else k := fun _ => rfl
            have u0 : fU a.length 0 = 0 := rfl
            have uN : ∀ i, fU a.length (N + i) = N + i := fun i => by rw [hfu, if_neg (by omega), if_neg (by omega), if_neg (by omega)]
            have uN0 : fU a.length N = N := uN 0
            have uN1 := uN 1
            have uN2 := uN 2
            have n1 : ¬ N = 1 := by omega
            have n2 : ¬ N = 2 := by omega
            have n0 : ¬ N = 0 := by omega
            have hcl : (mvP t m).1.cols.length * 10 + (jC t (mvP t m).1).length = t.cols.length * 10 := (mvP_len t m).1
            have hxl : (mvP t m).1.idxs.length * 5 + (jX t (mvP t m).1).length = t.idxs.length * 5 := (mvP_len t m).2
            refine Wk.trans (wk_eq (s' := ⟨(stL N s.tabs.length s.ver s.next l (j + 1, a ++ (mvP t m).1 :: b)).t, _⟩) (by rw [hE]; simp) rfl (by simp [livH, livO, AV.livL, AV.liv, wkL, wkV, List.range', stL, slotsOf, ew])) ?_
            have hb2 := wk_back (E := E) (a := a) (b := b) (t := (mvP t m).1) (j1 := jC t (mvP t m).1) (j2 := jX t (mvP t m).1) (c := t.cols.length * 10) (x := t.idxs.length * 5) (L := [o1, o2, o3]) (T := (stL N s.tabs.length s.ver s.next l (j + 1, a ++ (mvP t m).1 :: b)).t) hho (by rw [hE]; rfl) hcl.symm hxl.symm (jC_all _ _) (jX_all _ _)
             (by rw [ho1, ho2, ho3]; simp [livO, AV.livL, AV.liv, movA]) (by rw [ho1, ho2, ho3]; simp [livO, AV.livL, AV.liv, movA]) (by
              intro x hx
              simp only [List.mem_cons, List.not_mem_nil, or_false] at hx
              rcases hx with rfl | rfl | rfl
              ·rw [ho1, rebO_eq]; simp [AV.rebL, AV.reb, u0]
              ·rw [ho2, rebO_eq]; simp [AV.rebL, AV.reb]
              ·rw [ho3, rebO_eq, rebL_isD' ((movA_all m).2 trivial)])
             (by simp [stL, slotsOf, anyS, AV.livL, AV.liv, n0, n1]) (by simp [stL, slotsOf, anyS, AV.livL, AV.liv, n1, n2]) (by simp [stL, slotsOf, anyS, AV.rebL, AV.reb, uN0, uN1])
            have e10 : K2 ++ [o1, o2, o3] = .o (.row 28 4) (livsA 3 a ++ (livJ (mvP t m).1 (t.cols.length * 10) (t.idxs.length * 5) ++ livsA (3 + 2 * a.length) b)) :: rowLJ (mvP t m).1.cols (jC t (mvP t m).1) :: rowXJ (mvP t m).1.idxs (jX t (mvP t m).1) :: (inner a ++ inner b ++ [o1, o2, o3]) := by rw [hK2]; simp
            rw [← e10, ho1, ho2, ho3] at hb2
            refine Wk.trans hb2 ?_
            have hnl : (heapS 0 (a ++ (mvP t m).1 :: b)).length = N := by rw [heapS_length, hN, htl]; simp; omega
            refine wk_of (N + 2) 1 (by simp; omega) (by rw [hE]; simp) ?_ (livH_of _ _ _ fun x hx => ?_) ?_
            ·simp only [stL]
             rw [List.take_append, List.take_of_length_le (by omega), hnl, show N + 2 - N = 2 by omega]
             rfl
            ·simp only [stL, List.mem_append, List.mem_cons, List.not_mem_nil, or_false, heapS] at hx
             rcases hx with (rfl | hx) | rfl | rfl
             ·simp only [livO, Bool.or_eq_true]
              refine .inr (livs_liv _ _ _ fun i hi hm => ?_)
              rw [List.mem_range'_1] at hm
              simp at hi; omega
             ·exact inner_liv _ _ x hx
             ·simp [livO, AV.livL, AV.liv]
             ·simp [livO, AV.livL, AV.liv]
            ·refine wkL_refl _ _ ?_
             simp [stL, slotsOf, anyS, AV.livL, AV.liv]
          ·simp (maxSteps := 1000000) [hho, noHo, hz0, hK2l, F0, F1, F2, Fl0, Fl1, Fl2, FS1, KF0, KF1, KF2, KFl0, KFl1, KFl2, frz_no, List.map_append, List.append_assoc, ho1, ho2, ho3, roOf, holdOf, wrOf, altK, heldOk, Region.binds, -List.reduceReplicate]
           refine ⟨⟨((gF F hFl).2.2.2.1 3 [3, 4]).symm, ((gF F hFl).2.2.2.2.2.1 3 3 4 []).symm⟩, ?_⟩
           have e3 : RS = (zeroS, (mvP t m).2) := by rw [hRS]; simp [hz0]
           rw [hq, e3]
           exact ret_zero ⟨rfl, rfl⟩
        ·cases hix : m.ix with
         | true =>
          simp (maxSteps := 1000000) [hho, noHo, hix, hHl, hN0, hN1, hN2, hS1, hS2, hl0, hl1, hl2, kN0, kN1, kN2, kl0, kl1, kl2, frz_no, List.map_append, List.append_assoc, -List.reduceReplicate]
          refine cut_to () trivial ?_
          refine Wk.trans (wk_eq (s' := ⟨slotsOf 75 [(4, .ptr (N + 1) 0 3), (9, .ptr N 0 3), (11, .ptr (N + 2) 0 4), (12, .c (.int .i64 (a.length : Nat))), (13, .clo (.func (gOf true)) [] []), (44, .fs 4 l.length (movsA l)), (45, .c (.int .i64 (l.length : Nat))), (46, .c (.int .i64 (j : Nat)))], heapS 0 (a ++ t :: b) ++ [o1, o2, o3]⟩) (by rw [hE]; simp) (by rw [hH, hab, ho1, ho2, ho3, hmA, hix]) (by simp [livH, livO, AV.livL, AV.liv, wkL, wkV, List.range', slotsOf, gOf])) ?_
          refine wk_focus hho (by rw [hE]; rfl) (by simp [slotsOf, anyS, AV.rebL, AV.reb, fN0, fN1, fN2]) fun x hx => ?_
          simp only [List.mem_cons, List.not_mem_nil, or_false] at hx
          rcases hx with rfl | rfl | rfl
          ·rw [ho1, rebO_eq]; simp [AV.rebL, AV.reb, f0]
          ·rw [ho2, rebO_eq]; simp [AV.rebL, AV.reb]
          ·rw [ho3, rebO_eq, rebL_isD' ((movA_all m).2 trivial)]
         | false =>
          simp (maxSteps := 1000000) [hho, noHo, hix, hHl, hN0, hN1, hN2, hS1, hS2, hl0, hl1, hl2, kN0, kN1, kN2, kl0, kl1, kl2, frz_no, List.map_append, List.append_assoc, -List.reduceReplicate]
          refine cut_to () trivial ?_
          refine Wk.trans (wk_eq (s' := ⟨slotsOf 75 [(4, .ptr (N + 1) 0 3), (9, .ptr N 0 3), (11, .ptr (N + 2) 0 4), (12, .c (.int .i64 (a.length : Nat))), (13, .clo (.func (gOf false)) [] []), (44, .fs 4 l.length (movsA l)), (45, .c (.int .i64 (l.length : Nat))), (46, .c (.int .i64 (j : Nat)))], heapS 0 (a ++ t :: b) ++ [o1, o2, o3]⟩) (by rw [hE]; simp) (by rw [hH, hab, ho1, ho2, ho3, hmA, hix]) (by simp [livH, livO, AV.livL, AV.liv, wkL, wkV, List.range', slotsOf, gOf])) ?_
          refine wk_focus hho (by rw [hE]; rfl) (by simp [slotsOf, anyS, AV.rebL, AV.reb, fN0, fN1, fN2]) fun x hx => ?_
          simp only [List.mem_cons, List.not_mem_nil, or_false] at hx
          rcases hx with rfl | rfl | rfl
          ·rw [ho1, rebO_eq]; simp [AV.rebL, AV.reb, f0]
          ·rw [ho2, rebO_eq]; simp [AV.rebL, AV.reb]
          ·rw [ho3, rebO_eq, rebL_isD' ((movA_all m).2 trivial)]
      ·obtain rfl : j = l.length := by omega
       simp only [stL]
       simp (maxSteps := 1000000) [hho, noHo, slotsOf, -List.reduceReplicate]
       have hI2 : stepB mvP s.tabs l = (ts, 0) := by rw [hI, List.drop_length]; rfl
       refine cut_to () ⟨by rw [hI2], by rw [hI2]; exact hts, by rw [hI2]; exact fun t ht => (hB t ht).big⟩ ?_
       rw [hI2]
       have haf : ∀ k, allF s.tabs.length k = if k = 0 then 2 + 2 * s.tabs.length else if k = 1 then 1 + 2 * s.tabs.length else k + (2 * s.tabs.length + 100) := fun _ => rfl
       have r1 : allF s.tabs.length 0 = N + 1 := by rw [haf, if_pos rfl]; omega
       have r2 : allF s.tabs.length 1 = N := by rw [haf, if_neg (by omega), if_pos rfl]; omega
       exact wk_allD hho (by rw [hE]; rfl) hts (by unfold maxLen; omega) (fun x hx => by have h1 := (hB x hx).lc; have h2 := (hB x hx).lx; unfold maxLen; omega) (by simp [isD]) (by simp [livH, livO, AV.livL, AV.liv, wkL, wkV, List.range', slotsOf, AV.rebL, AV.reb, r1, r2])
   ·simp (maxSteps := 1000000) [hho, noHo, -List.reduceReplicate]
    simp only [schA] at hw
    refine call_sch 3 rfl hw rfl hho (by simp [schA]) ?_
    obtain ⟨H, hH⟩ : ∃ H, H = heapS 3 s.tabs := ⟨_, rfl⟩
    have hHl : H.length = 1 + 2 * s.tabs.length := by rw [hH]; simp
    rw [← hH]
    simp (maxSteps := 1000000) [hho, noHo, backIx, hHl, -List.reduceReplicate]
    refine cut_to () trivial ?_
    rw [hH]
    have hrf : ∀ k, rotG s.tabs.length k = if k < 1 + 2 * s.tabs.length then k + 3 else if k = 1 + 2 * s.tabs.length then 4 + 2 * s.tabs.length else if k = 2 + 2 * s.tabs.length then 1 else k + (2 * s.tabs.length + 100) := fun _ => rfl
    have r1 : rotG s.tabs.length (1 + 2 * s.tabs.length + 1) = 1 := by rw [hrf, if_neg (by omega), if_neg (by omega), if_pos (by omega)]
    have r2 : rotG s.tabs.length (1 + 2 * s.tabs.length) = 4 + 2 * s.tabs.length := by rw [hrf, if_neg (by omega)]; simp
    exact wk_rot hho (by rw [hE]; rfl) rfl (by simp [isD]) (by simp [livH, livO, AV.livL, AV.liv, wkL, wkV, List.range', slotsOf, AV.rebL, AV.reb, r1, r2]; omega)
 ·simp (maxSteps := 1000000) [hho, noHo, -List.reduceReplicate]
  refine loop_k mixed (smSt s l) (fun j => l.length - j) (fun j => j ≤ l.length) 0 (Nat.zero_le _) ?_ ?_
  ·exact wk_eq (by simp [hE, lens]) (by simp [smSt, seenK]) (by simp [livH, livO, AV.livL, AV.liv, wkL, wkV, List.range', smSt, slotsOf])
  ·intro j hj
   by_cases hjl : j < l.length
   ·simp only [smSt]
    obtain ⟨m, hmx⟩ : ∃ m, m = l[j] := ⟨_, rfl⟩
    have hat := movsA_at l j hjl
    rw [← hmx] at hat
    have hth := thing_w m
    have e0 : j * 4 + 4 ≤ l.length * 4 := by omega
    have ew : IntKind.i64.wrap ((j : Int) + 1) = (j + 1 : Nat) := by rw [IntWalk.i64_in _ (by omega)]; rfl
    have hmo := hm m (by rw [hmx]; exact List.getElem_mem hjl)
    simp (maxSteps := 1000000) [hho, noHo, slotsOf, hjl, hat, e0, movA, -List.reduceReplicate]
    simp only [movA] at hth
    refine call_0 (hth) rfl rfl hho (by simp) ?_
    simp (maxSteps := 1000000) [hho, noHo, ew, -List.reduceReplicate]
    refine ⟨⟨key_mov, key_some m hmo.1 hmo.2.1, fun k hk => ?_⟩, ?_⟩
    ·obtain ⟨o, ho, rfl⟩ := (seenK_mem _ k).1 hk
     have := hm o (List.mem_of_mem_take ho)
     exact key_some o this.1 this.2.1
    ·refine round_next (j + 1) (by omega) (by omega) ?_
     have hsn : seenK (List.take (j + 1) l) = addK (seenK (List.take j l)) [.int .i64 m.tab, .bool m.ix, .int .i64 m.id, .int .i64 0] := by rw [take_snoc _ _ hjl, seenK_snoc, ← hmx]; rfl
     refine wk_of 3 1 rfl (by rw [hE]; simp) ?_ (by simp [livH, livO, AV.livL, AV.liv, wkL, wkV, List.range', smSt, schA]) (by simp [livH, livO, AV.livL, AV.liv, wkL, wkV, List.range', smSt, slotsOf])
     simp [smSt, hsn]
   ·obtain rfl : j = l.length := by omega
    simp only [smSt]
    simp (maxSteps := 1000000) [hho, noHo, slotsOf, -List.reduceReplicate]
    refine cut_to () trivial ?_
    exact wk_eq (by simp [hE, lens]) (by simp [smEnd]) (by simp [livH, livO, AV.livL, AV.liv, wkL, wkV, List.range', smEnd, slotsOf])
end Go.Proofs.YthgoocdldnkogaaGreatDoor
