import Derived.Test.YthgoocdldnkogaaGreatDoorHN
import Derived.Test.YthgoocdldnkogaaGreatDoorHV
import Derived.Test.YthgoocdldnkogaaGreatDoorBA
namespace Go.Proofs.YthgoocdldnkogaaGreatDoor
set_option linter.unusedVariables false
set_option linter.unusedSimpArgs false
open Go.RowKit
structure CellS where
 col : Int
 v : ValS
def okR : Int → List CellS → Bool
 | _, [] => true
 | w, c :: l => decide (w < c.col) && decide (c.v.k ≠ 0) && valOk c.v && okR c.col l
def strOf (l : List UInt8) : ByteArray := ⟨l.toArray⟩
def valB (v : ValS) : List UInt8 := num v.k ++ (if v.k = 1 ∨ v.k = 2 then num v.n else if v.k = 3 then num v.s ++ num v.n else txt v.t)
def cellB (c : CellS) : List UInt8 := num c.col ++ valB c.v
def rowB (l : List CellS) : List UInt8 := num l.length ++ l.flatMap cellB
def getVS (s : Option (List UInt8)) : ValS × Option (List UInt8) :=
 if (rnumS s).1 = 1 then (⟨1, if (rflagS (rnumS s).2).1 then 1 else 0, 0, ByteArray.empty⟩, (rflagS (rnumS s).2).2)
 else if (rnumS s).1 = 2 then (⟨2, (rnumS (rnumS s).2).1, 0, ByteArray.empty⟩, (rnumS (rnumS s).2).2)
 else if (rnumS s).1 = 3 then (⟨3, (rnumS (rnumS (rnumS s).2).2).1, (rnumS (rnumS s).2).1, ByteArray.empty⟩, (rnumS (rnumS (rnumS s).2).2).2)
 else (⟨(rnumS s).1, 0, 0, strOf (rtextS (rnumS s).2).1⟩, (rtextS (rnumS s).2).2)
def getCS (s : Option (List UInt8)) : CellS × Option (List UInt8) := (⟨(rnumS s).1, (getVS (rnumS s).2).1⟩, (getVS (rnumS s).2).2)
def rdC (s : Option (List UInt8)) : Nat → List CellS × Option (List UInt8)
 | 0 => ([], s)
 | j + 1 => ((rdC s j).1 ++ [(getCS (rdC s j).2).1], (getCS (rdC s j).2).2)
def parseS (b : List UInt8) : Option (List CellS) :=
 if (rdC (rcountS (some b) b.length).2 (rcountS (some b) b.length).1.toNat).2 = some [] ∧ okR (-1) (rdC (rcountS (some b) b.length).2 (rcountS (some b) b.length).1.toNat).1 = true then some (rdC (rcountS (some b) b.length).2 (rcountS (some b) b.length).1.toNat).1 else none
def getL (b : List UInt8) : Option (CellS × List UInt8) :=
 (rnum b).bind fun x => (rnum x.2).bind fun y =>
  if y.1 < 1 ∨ 5 < y.1 then none
  else if 3 < y.1 then (rtextS (some y.2)).2.bind fun r => some (⟨x.1, ⟨y.1, 0, 0, strOf (rtextS (some y.2)).1⟩⟩, r)
  else if y.1 = 3 then (rnum y.2).bind fun z => (rnum z.2).bind fun u => some (⟨x.1, ⟨3, u.1, z.1, ByteArray.empty⟩⟩, u.2)
  else (rnum y.2).bind fun z => some (⟨x.1, ⟨y.1, z.1, 0, ByteArray.empty⟩⟩, z.2)
def readN : Nat → List UInt8 → Option (List CellS × List UInt8)
 | 0, b => some ([], b)
 | n + 1, b => (getL b).bind fun x => (readN n x.2).bind fun y => some (x.1 :: y.1, y.2)
def parseL (b : List UInt8) : Option (List CellS) :=
 (rnum b).bind fun x => if x.1 < 0 then none else (readN x.1.toNat x.2).bind fun y => if y.2 = [] ∧ okR (-1) y.1 = true then some y.1 else none
theorem rnumS_bad {b : List UInt8} (h : rnum b = none) : rnumS (some b) = (0, none) := by simp [rnumS, h]
theorem rnumS_good {b : List UInt8} {n : Int} {r : List UInt8} (h : rnum b = some (n, r)) : rnumS (some b) = (n, some r) := by simp [rnumS, h]
theorem rnumS_none : rnumS none = (0, none) := rfl
theorem rcountS_none (m : Int) : (rcountS none m).2 = none := by unfold rcountS; split <;> rfl
theorem rflagS_none : (rflagS none).2 = none := rcountS_none 1
theorem rtextS_none : rtextS none = ([], none) := rfl
theorem getVS_none : (getVS none).2 = none := by
 simp only [getVS, rnumS_none, rtextS_none]
 rfl
theorem getCS_none : (getCS none).2 = none := by simp only [getCS, rnumS_none, getVS_none]
theorem rdC_none (n : Nat) : (rdC none n).2 = none := by
 induction n with
 | zero => rfl
 | succ n ih => simp only [rdC, ih, getCS_none]
theorem rdC_len (s : Option (List UInt8)) (n : Nat) : (rdC s n).1.length = n := by
 induction n with
 | zero => rfl
 | succ n ih => simp [rdC, ih]
theorem rdC_front (s : Option (List UInt8)) (n : Nat) : rdC s (n + 1) = ((getCS s).1 :: (rdC (getCS s).2 n).1, (rdC (getCS s).2 n).2) := by
 induction n with
 | zero => rfl
 | succ n ih => rw [rdC, ih]; simp [rdC]
theorem rnum_lt {b : List UInt8} {n : Int} {r : List UInt8} (h : rnum b = some (n, r)) : r.length < b.length := by
 cases b with
 | nil => simp [rnum] at h
 | cons x t =>
  simp only [rnum] at h
  split at h
  ·cases h
  ·split at h
   ·cases h
   ·split at h
    ·cases h
    ·simp only [Option.some.injEq, Prod.mk.injEq] at h
     rw [← h.2, List.length_drop, List.length_cons]; omega
theorem rtextS_le {b r : List UInt8} (h : (rtextS (some b)).2 = some r) : r.length ≤ b.length := by
 cases hb : rnum b with
 | none => simp [rtextS, rnumS_bad hb] at h
 | some x =>
  obtain ⟨n, l⟩ := x
  have := rnum_lt hb
  simp only [rtextS, rnumS_good hb] at h
  split at h
  ·cases h
  ·simp only [Option.some.injEq] at h
   rw [← h, List.length_drop]; omega
theorem getL_lt {b r : List UInt8} {c : CellS} (h : getL b = some (c, r)) : r.length < b.length := by
 unfold getL at h
 simp only [Option.bind_eq_some_iff] at h
 obtain ⟨⟨c1, b1⟩, e1, ⟨k, b2⟩, e2, h⟩ := h
 have l1 := rnum_lt e1
 have l2 := rnum_lt e2
 simp only at h l1 l2
 split at h
 ·cases h
 ·split at h
  ·obtain ⟨r', e3, h⟩ := Option.bind_eq_some_iff.1 h
   simp only [Option.some.injEq, Prod.mk.injEq] at h
   have := rtextS_le e3
   rw [← h.2]; omega
  ·split at h
   ·simp only [Option.bind_eq_some_iff] at h
    obtain ⟨⟨s, b3⟩, e3, ⟨n, b4⟩, e4, h⟩ := h
    have l3 := rnum_lt e3
    have l4 := rnum_lt e4
    simp only [Option.some.injEq, Prod.mk.injEq] at h l3 l4
    rw [← h.2]; omega
   ·obtain ⟨⟨n, b3⟩, e3, h⟩ := Option.bind_eq_some_iff.1 h
    have l3 := rnum_lt e3
    simp only [Option.some.injEq, Prod.mk.injEq] at h l3
    rw [← h.2]; omega
theorem readN_len : ∀ (n : Nat) (b : List UInt8) (l : List CellS) (r : List UInt8), readN n b = some (l, r) → l.length = n ∧ n + r.length ≤ b.length
 | 0, b, l, r, h => by
  simp only [readN, Option.some.injEq, Prod.mk.injEq] at h
  rw [← h.1, ← h.2]; simp
 | n + 1, b, l, r, h => by
  simp only [readN, Option.bind_eq_some_iff] at h
  obtain ⟨⟨c, b1⟩, e1, ⟨l1, r1⟩, e2, h⟩ := h
  simp only [Option.some.injEq, Prod.mk.injEq] at h
  obtain ⟨i1, i2⟩ := readN_len n b1 l1 r1 e2
  have := getL_lt e1
  rw [← h.1, ← h.2]
  simp only [List.length_cons]
  omega
theorem getCS_of {b r : List UInt8} {c : CellS} (h : getL b = some (c, r)) (hf : c.v.k = 1 → c.v.n = 0 ∨ c.v.n = 1) : getCS (some b) = (c, some r) := by
 unfold getL at h
 simp only [Option.bind_eq_some_iff] at h
 obtain ⟨⟨c1, b1⟩, e1, ⟨k, b2⟩, e2, h⟩ := h
 simp only at h e2
 unfold getCS getVS
 rw [rnumS_good e1]
 simp only
 rw [rnumS_good e2]
 simp only
 split at h
 ·cases h
 ·rename_i hk
  split at h
  ·rename_i h3
   obtain ⟨r', e3, h⟩ := Option.bind_eq_some_iff.1 h
   simp only [Option.some.injEq, Prod.mk.injEq] at h
   rw [if_neg (by omega), if_neg (by omega), if_neg (by omega), e3, ← h.1, h.2]
  ·split at h
   ·rename_i h3
    simp only [Option.bind_eq_some_iff] at h
    obtain ⟨⟨s, b3⟩, e3, ⟨n, b4⟩, e4, h⟩ := h
    simp only [Option.some.injEq, Prod.mk.injEq] at h e4
    rw [if_neg (by omega), if_neg (by omega), if_pos h3, rnumS_good e3]
    simp only
    rw [rnumS_good e4, ← h.1, h.2]
   ·rename_i h3
    obtain ⟨⟨n, b3⟩, e3, h⟩ := Option.bind_eq_some_iff.1 h
    simp only [Option.some.injEq, Prod.mk.injEq] at h
    by_cases h1 : k = 1
    ·subst h1
     rw [← h.1] at hf
     have hn : n = 0 ∨ n = 1 := hf rfl
     have hq : ¬ (n < 0 ∨ 1 < n) := by omega
     rw [if_pos rfl]
     simp only [rflagS, rcountS, rnumS_good e3, if_neg hq]
     rw [← h.1, h.2]
     rcases hn with rfl | rfl <;> rfl
    ·rw [if_neg h1, if_pos (by omega), rnumS_good e3, ← h.1, h.2]
     have : k = 2 := by omega
     subst this
     rfl
theorem getL_of {b r : List UInt8} {c : CellS} (h : getCS (some b) = (c, some r)) (hk : 1 ≤ c.v.k ∧ c.v.k ≤ 5) : getL b = some (c, r) := by
 unfold getCS at h
 cases e1 : rnum b with
 | none =>
  rw [rnumS_bad e1] at h
  simp only [Prod.mk.injEq] at h
  rw [getVS_none] at h; cases h.2
 | some x =>
  obtain ⟨c1, b1⟩ := x
  rw [rnumS_good e1] at h
  simp only at h
  unfold getVS at h
  cases e2 : rnum b1 with
  | none =>
   rw [rnumS_bad e2] at h
   simp [rtextS_none] at h
  | some y =>
   obtain ⟨k, b2⟩ := y
   rw [rnumS_good e2] at h
   simp only at h
   unfold getL
   simp only [e1, e2, Option.bind_some]
   by_cases h1 : k = 1
   ·subst h1
    rw [if_pos rfl] at h
    simp only [Prod.mk.injEq] at h
    cases e3 : rnum b2 with
    | none =>
     simp only [rflagS, rcountS, rnumS_bad e3] at h
     simp at h
    | some z =>
     obtain ⟨n, b3⟩ := z
     simp only [rflagS, rcountS, rnumS_good e3] at h
     split at h
     ·simp at h
     ·rename_i hn
      simp only [Option.some.injEq] at h
      rw [if_neg (by omega), if_neg (by omega), if_neg (by omega)]
      simp only [e3, Option.bind_some, Option.some.injEq, Prod.mk.injEq]
      refine ⟨?_, h.2⟩
      rw [← h.1]
      have : n = 0 ∨ n = 1 := by omega
      rcases this with rfl | rfl <;> rfl
   ·rw [if_neg h1] at h
    by_cases h2 : k = 2
    ·subst h2
     rw [if_pos rfl] at h
     simp only [Prod.mk.injEq] at h
     rw [if_neg (by omega), if_neg (by omega), if_neg (by omega)]
     cases e3 : rnum b2 with
     | none => rw [rnumS_bad e3] at h; cases h.2
     | some z =>
      obtain ⟨n, b3⟩ := z
      rw [rnumS_good e3] at h
      simp only [Option.some.injEq] at h
      simp only [Option.bind_some, Option.some.injEq, Prod.mk.injEq]
      exact h
    ·rw [if_neg h2] at h
     by_cases h3 : k = 3
     ·subst h3
      rw [if_pos rfl] at h
      simp only [Prod.mk.injEq] at h
      rw [if_neg (by omega), if_neg (by omega), if_pos rfl]
      cases e3 : rnum b2 with
      | none => rw [rnumS_bad e3] at h; cases h.2
      | some z =>
       obtain ⟨n, b3⟩ := z
       rw [rnumS_good e3] at h
       simp only at h
       simp only [Option.bind_some]
       cases e4 : rnum b3 with
       | none => rw [rnumS_bad e4] at h; cases h.2
       | some u =>
        obtain ⟨m, b4⟩ := u
        rw [rnumS_good e4] at h
        simp only [Option.some.injEq] at h
        simp only [Option.bind_some, Option.some.injEq, Prod.mk.injEq]
        exact h
     ·rw [if_neg h3] at h
      simp only [Prod.mk.injEq] at h
      rw [← h.1] at hk
      simp only at hk
      rw [if_neg (by omega), if_pos (by omega), h.2]
      simp only [Option.bind_some, Option.some.injEq, Prod.mk.injEq, and_true]
      exact h.1
theorem okR_mem : ∀ {w : Int} {l : List CellS}, okR w l = true → ∀ c ∈ l, w < c.col ∧ c.v.k ≠ 0 ∧ valOk c.v = true
 | _, [], _, c, h => by cases h
 | w, x :: l, h, c, hc => by
  simp only [okR, Bool.and_eq_true, decide_eq_true_eq] at h
  obtain ⟨⟨⟨h1, h2⟩, h3⟩, h4⟩ := h
  rcases List.mem_cons.1 hc with rfl | hc
  ·exact ⟨h1, h2, h3⟩
  ·have := okR_mem h4 c hc
   exact ⟨by omega, this.2⟩
theorem valOk_k {v : ValS} (h : valOk v = true) (h0 : v.k ≠ 0) : 1 ≤ v.k ∧ v.k ≤ 5 := by
 unfold valOk at h
 split at h
 ·contradiction
 ·split at h
  ·omega
  ·split at h
   ·omega
   ·split at h
    ·omega
    ·split at h
     ·omega
     ·split at h
      ·omega
      ·cases h
theorem valOk_flag {v : ValS} (h : valOk v = true) (h1 : v.k = 1) : v.n = 0 ∨ v.n = 1 := by
 unfold valOk at h
 rw [if_neg (by omega), if_pos h1] at h
 simp only [Bool.and_eq_true, Bool.or_eq_true, decide_eq_true_eq] at h
 exact h.1.1
theorem readN_of : ∀ (n : Nat) (b : List UInt8) (r : List UInt8), (rdC (some b) n).2 = some r → (∀ c ∈ (rdC (some b) n).1, 1 ≤ c.v.k ∧ c.v.k ≤ 5) → readN n b = some ((rdC (some b) n).1, r)
 | 0, b, r, h, _ => by
  simp only [rdC, Option.some.injEq] at h
  subst h; rfl
 | n + 1, b, r, h, hk => by
  rw [rdC_front] at h hk ⊢
  simp only at h hk ⊢
  cases e : (getCS (some b)).2 with
  | none => rw [e, rdC_none] at h; cases h
  | some b1 =>
   rw [e] at h hk
   have e1 : getL b = some ((getCS (some b)).1, b1) := getL_of (by rw [← e]) (hk _ (List.mem_cons_self ..))
   have e2 := readN_of n b1 r h fun c hc => hk c (List.mem_cons_of_mem _ hc)
   simp only [readN, e1, e2, Option.bind_some]
theorem rdC_of : ∀ (n : Nat) (b : List UInt8) (l : List CellS) (r : List UInt8), readN n b = some (l, r) → (∀ c ∈ l, c.v.k = 1 → c.v.n = 0 ∨ c.v.n = 1) → rdC (some b) n = (l, some r)
 | 0, b, l, r, h, _ => by
  simp only [readN, Option.some.injEq, Prod.mk.injEq] at h
  rw [← h.1, ← h.2]; rfl
 | n + 1, b, l, r, h, hf => by
  simp only [readN, Option.bind_eq_some_iff] at h
  obtain ⟨⟨c, b1⟩, e1, ⟨l1, r1⟩, e2, h⟩ := h
  simp only [Option.some.injEq, Prod.mk.injEq] at h
  obtain ⟨rfl, rfl⟩ := h
  rw [rdC_front, getCS_of e1 (hf c (List.mem_cons_self ..))]
  simp only
  rw [rdC_of n b1 l1 r1 e2 fun c hc => hf c (List.mem_cons_of_mem _ hc)]
theorem parse_eq (b : List UInt8) : parseS b = parseL b := by
 apply Option.ext
 intro l
 cases e : rnum b with
 | none =>
  have e1 : rcountS (some b) b.length = (0, none) := by
   unfold rcountS; rw [rnumS_bad e]; split <;> rfl
  simp only [parseS, parseL, e1, e, Option.bind_none]
  constructor
  ·intro h
   split at h
   ·rename_i hh
    have := hh.1
    simp [rdC] at this
   ·cases h
  ·intro h; cases h
 | some x =>
  obtain ⟨n, r⟩ := x
  have hlt := rnum_lt e
  have e1 : rcountS (some b) b.length = if n < 0 ∨ (b.length : Int) < n then (0, none) else (n, some r) := by
   unfold rcountS; rw [rnumS_good e]
  simp only [parseS, parseL, e, Option.bind_some]
  constructor
  ·intro h
   by_cases hn : n < 0 ∨ (b.length : Int) < n
   ·rw [e1, if_pos hn] at h
    split at h
    ·rename_i hh
     have := hh.1
     simp [rdC] at this
    ·cases h
   ·rw [e1, if_neg hn] at h
    simp only at h
    split at h
    ·rename_i hh
     obtain ⟨h1, h2⟩ := hh
     have h3 := readN_of _ _ _ h1 fun c hc => by
      have := okR_mem h2 c hc
      exact valOk_k this.2.2 this.2.1
     rw [if_neg (by omega), h3]
     simp only [Option.bind_some]
     rw [if_pos ⟨trivial, h2⟩]
     exact h
    ·cases h
  ·intro h
   split at h
   ·cases h
   ·rename_i h0
    obtain ⟨⟨l1, r1⟩, e2, h⟩ := Option.bind_eq_some_iff.1 h
    simp only at h
    split at h
    ·rename_i hh
     obtain ⟨rfl, h2⟩ := hh
     have hl := readN_len _ _ _ _ e2
     have hn : ¬ (n < 0 ∨ (b.length : Int) < n) := by
      have := hl.2
      omega
     have h3 := rdC_of _ _ _ _ e2 fun c hc hk1 => valOk_flag (okR_mem h2 c hc).2.2 hk1
     rw [e1, if_neg hn]
     simp only
     rw [h3, if_pos ⟨rfl, h2⟩]
     exact h
    ·cases h
theorem getVS_valB {v : ValS} (hv : valOk v = true) (h0 : v.k ≠ 0) (hn : -9223372036854775808 ≤ v.n ∧ v.n ≤ 9223372036854775807) (hs : -9223372036854775808 ≤ v.s ∧ v.s ≤ 9223372036854775807) (ht : v.t.size ≤ 9223372036854775807) (r : List UInt8) : getVS (some (valB v ++ r)) = (v, some r) := by
 have hk := valOk_k hv h0
 obtain ⟨k, n, s, t⟩ := v
 simp only at hk hn hs ht h0
 unfold valB getVS
 simp only [List.append_assoc]
 rw [rnumS_num k (by omega) (by omega)]
 simp only
 unfold valOk at hv
 simp only at hv
 have hk5 : k = 1 ∨ k = 2 ∨ k = 3 ∨ k = 4 ∨ k = 5 := by omega
 rcases hk5 with rfl | rfl | rfl | rfl | rfl
 ·simp at hv
  obtain ⟨⟨h1, rfl⟩, rfl⟩ := hv
  rw [if_pos (rfl : (1 : Int) = 1), if_pos (Or.inl rfl : (1 : Int) = 1 ∨ (1 : Int) = 2)]
  have hF : rflagS (some (num n ++ r)) = (n == 1, some r) := by
   unfold rflagS
   rw [rcountS_num n 1 hn.1 hn.2, if_neg (by omega)]
  show ((⟨1, if (rflagS (some (num n ++ r))).1 = true then 1 else 0, 0, ByteArray.empty⟩ : ValS), (rflagS (some (num n ++ r))).2) = _
  rw [hF]
  rcases h1 with rfl | rfl <;> rfl
 ·simp at hv
  obtain ⟨rfl, rfl⟩ := hv
  rw [if_neg (by omega), if_pos rfl, if_pos (by omega), rnumS_num n hn.1 hn.2]
 ·simp at hv
  obtain ⟨rfl, _⟩ := hv
  rw [if_neg (by omega), if_neg (by omega), if_pos rfl, if_neg (by omega), if_pos rfl, List.append_assoc, rnumS_num s hs.1 hs.2]
  simp only
  rw [rnumS_num n hn.1 hn.2]
 ·simp at hv
  obtain ⟨⟨⟨rfl, rfl⟩, _⟩, _⟩ := hv
  rw [if_neg (by omega), if_neg (by omega), if_neg (by omega), if_neg (by omega), if_neg (by omega), rtextS_txt t ht]
  rfl
 ·simp at hv
  obtain ⟨⟨rfl, rfl⟩, _⟩ := hv
  rw [if_neg (by omega), if_neg (by omega), if_neg (by omega), if_neg (by omega), if_neg (by omega), rtextS_txt t ht]
  rfl
def CellI (c : CellS) : Prop := (-9223372036854775808 ≤ c.col ∧ c.col ≤ 9223372036854775807) ∧ (-9223372036854775808 ≤ c.v.n ∧ c.v.n ≤ 9223372036854775807) ∧ (-9223372036854775808 ≤ c.v.s ∧ c.v.s ≤ 9223372036854775807) ∧ c.v.t.size ≤ 9223372036854775807
theorem getCS_cellB {c : CellS} (hv : valOk c.v = true) (h0 : c.v.k ≠ 0) (hi : CellI c) (r : List UInt8) : getCS (some (cellB c ++ r)) = (c, some r) := by
 obtain ⟨h1, h2, h3, h4⟩ := hi
 unfold getCS cellB
 rw [List.append_assoc, rnumS_num c.col h1.1 h1.2]
 simp only
 rw [getVS_valB hv h0 h2 h3 h4]
theorem rdC_rowB : ∀ (l : List CellS) (r : List UInt8), (∀ c ∈ l, valOk c.v = true ∧ c.v.k ≠ 0 ∧ CellI c) → rdC (some (l.flatMap cellB ++ r)) l.length = (l, some r)
 | [], r, _ => rfl
 | c :: l, r, h => by
  obtain ⟨h1, h2, h3⟩ := h c (List.mem_cons_self ..)
  rw [List.length_cons, rdC_front, List.flatMap_cons, List.append_assoc, getCS_cellB h1 h2 h3]
  simp only
  rw [rdC_rowB l r fun c hc => h c (List.mem_cons_of_mem _ hc)]
theorem num_pos (n : Int) : 0 < (num n).length := by simp [num]
theorem flat_ge (l : List CellS) : l.length ≤ (l.flatMap cellB).length := by
 induction l with
 | nil => exact Nat.zero_le _
 | cons c l ih =>
  have := num_pos c.col
  simp only [List.flatMap_cons, List.length_append, List.length_cons, cellB]
  omega
theorem parse_put (l : List CellS) (hl : l.length ≤ 9223372036854775807) (hok : okR (-1) l = true) (hi : ∀ c ∈ l, CellI c) : parseS (rowB l) = some l := by
 have hge := flat_ge l
 have e1 : rcountS (some (rowB l)) (rowB l).length = ((l.length : Int), some (l.flatMap cellB)) := by
  unfold rowB
  rw [rcountS_num l.length _ (by omega) (by omega), if_neg (by simp only [List.length_append]; omega)]
 have e2 := rdC_rowB l [] fun c hc => let h := okR_mem hok c hc; ⟨h.2.2, h.2.1, hi c hc⟩
 rw [List.append_nil] at e2
 unfold parseS
 rw [e1]
 simp only [Int.toNat_natCast]
 rw [e2, if_pos ⟨rfl, hok⟩]

def vZ : ValS := ⟨0, 0, 0, ByteArray.empty⟩
def getR (l : List CellS) (k : Int) : ValS := match l.find? fun c => decide (c.col = k) with
 | some c => c.v
 | none => vZ
def goS (k : Int) (v : ValS) : Bool → List CellS → List CellS
 | b, [] => if b then [] else [⟨k, v⟩]
 | b, c :: l => (if !b && decide (k ≤ c.col) then [⟨k, v⟩] else []) ++ (if c.col ≠ k ∨ k < 0 then [c] else []) ++ goS k v (b || decide (k ≤ c.col)) l
def putOk (k : Int) (v : ValS) : Bool := decide (0 ≤ k) && decide (v.k ≠ 0) && valOk v
def setR (l : List CellS) (k : Int) (v : ValS) : List CellS := goS k v (!putOk k v) l
def restR (k : Int) : List CellS → List CellS
 | [] => []
 | c :: p => if c.col = k then p else c :: p
theorem goS_neg {k : Int} (h : k < 0) (v : ValS) : ∀ l, goS k v true l = l
 | [] => rfl
 | c :: l => by simp [goS, h, goS_neg h v l]
theorem goS_true {k : Int} (h : 0 ≤ k) (v : ValS) : ∀ l, goS k v true l = l.filter fun c => decide (c.col ≠ k)
 | [] => rfl
 | c :: l => by
  have h' : ¬ k < 0 := by omega
  by_cases hc : c.col = k <;> simp [goS, h', hc, goS_true h v l]
theorem okR_gt : ∀ {w : Int} {l : List CellS}, okR w l = true → ∀ c ∈ l, w < c.col := fun h c hc => (okR_mem h c hc).1
theorem okR_weak {w w' : Int} (h : w' ≤ w) : ∀ {l : List CellS}, okR w l = true → okR w' l = true
 | [], _ => rfl
 | c :: l, hl => by
  simp only [okR, Bool.and_eq_true, decide_eq_true_eq] at hl ⊢
  exact ⟨⟨⟨by omega, hl.1.1.2⟩, hl.1.2⟩, hl.2⟩
theorem filter_gt {k w : Int} (hk : k ≤ w) {l : List CellS} (h : okR w l = true) : (l.filter fun c => decide (c.col ≠ k)) = l := by
 rw [List.filter_eq_self]
 intro c hc
 have := okR_gt h c hc
 simp; omega
theorem goS_ge {k : Int} (h0 : 0 ≤ k) (v : ValS) {c : CellS} {l : List CellS} (hc : k ≤ c.col) (h : okR c.col l = true) : goS k v false (c :: l) = ⟨k, v⟩ :: restR k (c :: l) := by
 have h' : ¬ k < 0 := by omega
 simp only [goS, restR, hc, decide_true, Bool.not_false, Bool.and_true, Bool.false_or, if_true]
 rw [goS_true h0, filter_gt hc h]
 by_cases e : c.col = k <;> simp [e, h']
theorem okR_app {w : Int} : ∀ {pre post : List CellS}, okR w (pre ++ post) = true → okR w post = true
 | [], _, h => h
 | c :: pre, post, h => by
  simp only [List.cons_append, okR, Bool.and_eq_true, decide_eq_true_eq] at h
  exact okR_weak (by omega) (okR_app h.2)
theorem goS_put {k : Int} (h0 : 0 ≤ k) (v : ValS) : ∀ {w : Int} {pre post : List CellS}, okR w (pre ++ post) = true → (∀ c ∈ pre, c.col < k) → (∀ c ∈ post, k ≤ c.col) → goS k v false (pre ++ post) = pre ++ ⟨k, v⟩ :: restR k post
 | _, [], [], _, _, _ => rfl
 | _, [], c :: p, h, _, hp => by
  simp only [List.nil_append, okR, Bool.and_eq_true, decide_eq_true_eq] at h ⊢
  exact goS_ge h0 v (hp c (List.mem_cons_self ..)) h.2
 | w, c :: pre, post, h, h1, hp => by
  simp only [List.cons_append, okR, Bool.and_eq_true, decide_eq_true_eq] at h
  have hc := h1 c (List.mem_cons_self ..)
  have ih := goS_put h0 v h.2 (fun x hx => h1 x (List.mem_cons_of_mem _ hx)) hp
  have e1 : ¬ k ≤ c.col := by omega
  have e2 : c.col ≠ k := by omega
  simp only [List.cons_append, goS, e1, decide_false, Bool.and_false, Bool.false_or, ih, e2, ne_eq, not_false_eq_true, true_or, if_true]
  rfl
theorem goS_del {k : Int} (h0 : 0 ≤ k) (v : ValS) {w : Int} {pre post : List CellS} (h : okR w (pre ++ post) = true) (h1 : ∀ c ∈ pre, c.col < k) (hp : ∀ c ∈ post, k ≤ c.col) : goS k v true (pre ++ post) = pre ++ restR k post := by
 rw [goS_true h0, List.filter_append]
 have e1 : (pre.filter fun c => decide (c.col ≠ k)) = pre := by
  rw [List.filter_eq_self]
  intro c hc
  have := h1 c hc
  simp; omega
 rw [e1]
 congr 1
 cases post with
 | nil => rfl
 | cons c p =>
  have h2 := okR_app h
  simp only [okR, Bool.and_eq_true, decide_eq_true_eq] at h2
  have hc := hp c (List.mem_cons_self ..)
  have e2 := filter_gt hc h2.2
  by_cases e : c.col = k
  ·simp only [restR, e, if_true]
   rw [List.filter_cons_of_neg (by simp [e]), e2]
  ·simp only [restR, e, if_false]
   rw [List.filter_cons_of_pos (by simp [e]), e2]
theorem getR_cons (c : CellS) (l : List CellS) (j : Int) : getR (c :: l) j = if c.col = j then c.v else getR l j := by
 unfold getR
 by_cases h : c.col = j <;> simp [h]
theorem getR_none {l : List CellS} {j : Int} (h : ∀ c ∈ l, c.col ≠ j) : getR l j = vZ := by
 induction l with
 | nil => rfl
 | cons c l ih => rw [getR_cons, if_neg (h c (List.mem_cons_self ..))]; exact ih fun x hx => h x (List.mem_cons_of_mem _ hx)
theorem set_neg {k : Int} (h : k < 0) (l : List CellS) (v : ValS) : setR l k v = l := by
 have e : putOk k v = false := by simp [putOk]; omega
 unfold setR
 rw [e, Bool.not_false, goS_neg h]

def cellA (c : CellS) : List AV := .c (.int .i64 c.col) :: valA c.v
@[simp] theorem cellA_length (c : CellS) : (cellA c).length = 5 := rfl
def cellsA (l : List CellS) : List AV := l.flatMap cellA
@[simp] theorem cellsA_length (l : List CellS) : (cellsA l).length = l.length * 5 := flat_length cellA 5 (by simp) l
theorem cellsA_at (l : List CellS) (j : Nat) (hj : j < l.length) : List.take 5 (List.drop (j * 5) (cellsA l)) = cellA l[j] := flat_at cellA 5 (by simp) l j hj
theorem cellsA_set (l : List CellS) (j : Nat) (hj : j < l.length) (y : CellS) : List.take (j * 5) (cellsA l) ++ (cellA y ++ List.drop (j * 5 + 5) (cellsA l)) = cellsA (l.set j y) := by
 rw [← List.append_assoc]; exact flat_set cellA 5 (by simp) l j hj y
theorem cellsA_app (a b : List CellS) : cellsA (a ++ b) = cellsA a ++ cellsA b := by simp [cellsA]
theorem cellsA_cons (x : CellS) (b : List CellS) : cellsA (x :: b) = cellA x ++ cellsA b := by simp [cellsA]
theorem cellsA_one (x : CellS) : cellsA [x] = cellA x := by simp [cellsA]
@[simp] theorem cellA_all (x : CellS) : (∀ a ∈ cellA x, isD a = true) ↔ True := iff_true_intro <| by simp [cellA, valA, isD]
@[simp] theorem cellA_cell (x : CellS) : (∀ a ∈ cellA x, isCell a = true) ↔ True := iff_true_intro <| by simp [cellA, valA, isCell_c, Value.oneCell']
@[simp] theorem cellsA_all (l : List CellS) : (∀ x ∈ cellsA l, isD x = true) ↔ True := iff_true_intro <| by
 intro x hx
 simp only [cellsA, List.mem_flatMap] at hx
 obtain ⟨b, _, hx⟩ := hx
 exact (cellA_all b).2 trivial x hx
@[simp] theorem cellsA_cell (l : List CellS) : (∀ x ∈ cellsA l, isCell x = true) ↔ True := iff_true_intro <| by
 intro x hx
 simp only [cellsA, List.mem_flatMap] at hx
 obtain ⟨b, _, hx⟩ := hx
 exact (cellA_cell b).2 trivial x hx
theorem cellsA_0 (l : List CellS) (j : Nat) (hj : j < l.length) : (cellsA l)[j * 5]? = some (.c (.int .i64 l[j].col)) := by
 have h := cellsA_at l j hj
 have h2 : (List.take 5 (List.drop (j * 5) (cellsA l)))[0]? = (cellA l[j])[0]? := by rw [h]
 rw [List.getElem?_take, if_pos (by decide), List.getElem?_drop, Nat.add_zero] at h2
 exact h2
def lastC (w : Int) (l : List CellS) : Int := match l.getLast? with
 | some c => c.col
 | none => w
theorem lastC_cons (w : Int) (c : CellS) (l : List CellS) : lastC w (c :: l) = lastC c.col l := by
 unfold lastC
 cases l with
 | nil => rfl
 | cons d l => rw [List.getLast?_cons_cons]; cases h : (d :: l).getLast? with
  | none => simp at h
  | some x => rfl
theorem okR_join : ∀ (w : Int) (a b : List CellS), okR w (a ++ b) = (okR w a && okR (lastC w a) b)
 | w, [], b => by simp [okR, lastC]
 | w, c :: a, b => by simp only [List.cons_append, okR, okR_join c.col a b, lastC_cons, Bool.and_assoc]
theorem lastC_take (w : Int) (l : List CellS) (j : Nat) (hj : j < l.length) : lastC w (l.take (j + 1)) = l[j].col := by
 unfold lastC
 rw [List.take_succ_eq_append_getElem hj, List.getLast?_concat]
def cellOk (c : CellS) : Bool := decide (0 ≤ c.col) && decide (c.v.k ≠ 0) && valOk c.v
theorem okR_lastC {l : List CellS} (h : okR (-1) l = true) : -1 ≤ lastC (-1) l := by
 unfold lastC
 cases hl : l.getLast? with
 | none => exact Int.le_refl _
 | some c => have := (okR_mem h c (List.mem_of_getLast? hl)).1; simp only; omega
theorem okR_step (l : List CellS) (j : Nat) (hj : j < l.length) (h : okR (-1) (l.take j) = true) : okR (-1) (l.take (j + 1)) = (decide (lastC (-1) (l.take j) < l[j].col) && decide (l[j].v.k ≠ 0) && valOk l[j].v) := by
 rw [List.take_succ_eq_append_getElem hj, okR_join, h]
 simp [okR]
theorem okR_next (l : List CellS) (j : Nat) (hj : j < l.length) (h : okR (-1) (l.take j) = true) (h' : ∀ i (hi : i < l.length), j = i + 1 → lastC (-1) (l.take j) = l[i].col) :
  okR (-1) (l.take (j + 1)) = true ↔ cellOk l[j] = true ∧ ∀ i (hi : i < l.length), j = i + 1 → l[i].col < l[j].col := by
 rw [okR_step l j hj h]
 have h1 := okR_lastC h
 simp only [cellOk, Bool.and_eq_true, decide_eq_true_eq]
 constructor
 ·rintro ⟨⟨a, b⟩, c⟩
  exact ⟨⟨⟨by omega, b⟩, c⟩, fun i hi e => by have := h' i hi e; omega⟩
 ·rintro ⟨⟨⟨a, b⟩, c⟩, d⟩
  refine ⟨⟨?_, b⟩, c⟩
  cases j with
  | zero => simp [lastC]; omega
  | succ i => have := h' i (by omega) rfl; have := d i (by omega) rfl; omega
theorem okR_pre {w : Int} {a b : List CellS} (h : okR w (a ++ b) = true) : okR w a = true := by
 rw [okR_join, Bool.and_eq_true] at h; exact h.1
theorem okR_cut {l : List CellS} (j : Nat) (h : okR (-1) l = true) : okR (-1) (l.take j) = true := okR_pre (b := l.drop j) (by rw [List.take_append_drop]; exact h)
def keyC (l : List CellS) (k : Int) (h : Nat) : Bool := match l[h]? with
 | some x => decide (x.col < k)
 | none => false
def findC (l : List CellS) (k : Int) : Nat := bsF (keyC l k) l.length 0 l.length
def hasC (l : List CellS) (k : Int) : Bool := match l[findC l k]? with
 | some x => decide (x.col = k)
 | none => false
theorem findC_le (l : List CellS) (k : Int) : findC l k ≤ l.length := bsF_le _ _ _ _ (Nat.zero_le _)
theorem bsC_spec (p : Nat → Bool) (n : Nat) (hp : ∀ a b, a ≤ b → b < n → p b = true → p a = true) : ∀ (f i j : Nat), i ≤ j → j ≤ n → j - i ≤ f → (∀ a, i ≤ a → a < bsF p f i j → p a = true) ∧ ∀ a, bsF p f i j ≤ a → a < j → p a = false := by
 intro f
 induction f with
 | zero => intro i j h1 h2 h3; exact ⟨fun a ha hb => by simp [bsF] at hb; omega, fun a ha hb => by simp [bsF] at ha; omega⟩
 | succ f ih =>
  intro i j h1 h2 h3
  by_cases hij : i < j
  ·rw [bsF_step p (f + 1) i j hij h3]
   simp only [Nat.add_sub_cancel]
   split
   ·rename_i hm
    obtain ⟨a1, a2⟩ := ih ((i + j) / 2 + 1) j (by omega) h2 (by omega)
    refine ⟨fun a ha hb => ?_, a2⟩
    by_cases h : a ≤ (i + j) / 2
    ·exact hp a _ h (by omega) hm
    ·exact a1 a (by omega) hb
   ·rename_i hm
    obtain ⟨a1, a2⟩ := ih i ((i + j) / 2) (by omega) (by omega) (by omega)
    refine ⟨a1, fun a ha hb => ?_⟩
    by_cases h : a < (i + j) / 2
    ·exact a2 a ha h
    ·cases hpa : p a with
     | false => rfl
     | true => exact absurd (hp _ a (by omega) (by omega) hpa) hm
  ·rw [bsF_done p _ i j hij]
   exact ⟨fun a ha hb => by omega, fun a ha hb => by omega⟩
theorem okR_lt {l : List CellS} (h : okR (-1) l = true) {a b : Nat} (hb : b < l.length) (hab : a < b) : l[a].col < l[b].col := by
 have e : l = l.take (a + 1) ++ l.drop (a + 1) := (List.take_append_drop _ _).symm
 have h2 : okR l[a].col (l.drop (a + 1)) = true := by
  rw [e, okR_join, Bool.and_eq_true, lastC_take _ _ _ (by omega)] at h
  exact h.2
 refine okR_gt h2 l[b] ?_
 rw [List.mem_iff_getElem]
 exact ⟨b - (a + 1), by rw [List.length_drop]; omega, by rw [List.getElem_drop]; congr 1; omega⟩
theorem findC_split {l : List CellS} (h : okR (-1) l = true) (k : Int) : (∀ c ∈ l.take (findC l k), c.col < k) ∧ ∀ c ∈ l.drop (findC l k), k ≤ c.col := by
 have hk : ∀ {b : Nat} (hb : b < l.length), keyC l k b = decide (l[b].col < k) := fun {b} hb => by unfold keyC; rw [List.getElem?_eq_getElem hb]
 obtain ⟨s1, s2⟩ := bsC_spec (keyC l k) l.length (fun b c hbc hc hp => by
  have hb : b < l.length := by omega
  rw [hk hc] at hp
  rw [hk hb]
  have hp := of_decide_eq_true hp
  rcases Nat.lt_or_ge b c with h1 | h1
  ·have := okR_lt h hc h1
   exact decide_eq_true (by omega)
  ·obtain rfl : b = c := by omega
   exact decide_eq_true hp) l.length 0 l.length (Nat.zero_le _) (Nat.le_refl _) (Nat.le_refl _)
 constructor
 ·intro c hc
  obtain ⟨i, hi, rfl⟩ := List.getElem_of_mem hc
  rw [List.length_take] at hi
  have := s1 i (Nat.zero_le _) (show i < findC l k by omega)
  rw [hk (by omega)] at this
  rw [List.getElem_take]
  exact of_decide_eq_true this
 ·intro c hc
  obtain ⟨i, hi, rfl⟩ := List.getElem_of_mem hc
  rw [List.length_drop] at hi
  have := s2 (findC l k + i) (Nat.le_add_right _ _) (by omega)
  rw [hk (by omega)] at this
  rw [List.getElem_drop]
  have := of_decide_eq_false this
  omega
end Go.Proofs.YthgoocdldnkogaaGreatDoor
namespace Go.Proofs.YthgoocdldnkogaaGreatDoor
set_option linter.unusedVariables false
set_option linter.unusedSimpArgs false
open Go.RowKit Go.ChangeShapes Go.WideShapes Go.ChangeAt
attribute [local simp] isCut_nil isCut_region isCut_seq isCut_block isCut_loop isCut_cond isCut_skip isCut_exit isCut_ret isCut_range swapK putK altK condK_bool pickP_bool stepP stepO onPure_some onPure_none onImpl_some onImpl_none stepC onGP_some onGP_none onGV_some condG mkG onIt_it nextP_ptr takeP_eq takeV_some takeV_none takeU_some takeU_none takeQ takeW_some takeN_none takeN_some takeG_some takeO_some altO_some pureV binV2 eqF eqOp ovlV ovl2 rowAt capV binV intBin strBin isSh shV fldV ixV sliceV slice3V loadAV nilV lenV callV unV convV viewS cellsH loadV fldCut AV.ung AV.ungs AV.gc AV.cells AS.ev AS.put anyS gcsV gcO lens lnO gV guardV retK RetP_eq resV oneV anyRo loIx hiIx implO callP_clo evL gcsL clearV storeAV AS.push AS.setO appV appZ shortS copyV buildV partsV fillV srcV fzO okV isCell_c isCell_ptr isCell_sl isCell_fs isCell_fp isCell_clo rowZ_one rowZ_zero rowZ_2 rowZ_3 rowZ_4 rowZ_5 rowZ_6 rowZ_7 rowZ_8 rowZ_9 rowZ_10 rowZ_11 rowZ_12 noHo Value.oneCell' max2V min2V lookV updV updK updW cvals mkAt basV lenM msAt afterH putBack frzFrom frzO rebO backIx nilEq_sl nilEq_fs nilEq_ifn nilEq_ifh ifOp_eql ifOp_neq isLit nilOp_eql nilOp_neq AV.reb AV.rebL
attribute [local simp ↓] runK_skip runK_region runK_draw runK_seq runK_cut runK_cond runK_block runK_loop runK_exit runK_label runK_goto runK_ret runK_range contK_nil contK_seq contK_seq_ret contK_seq_exit contK_seq_goto contK_block contK_block_ret contK_block_goto contK_block_exit runO_nil runO_cons roundK_exit roundK_ret roundK_goto exitK_ret cutK_ret cutK_exit runE_done runE_nil runE_take runE_alt condG_true condG_false
set_option maxRecDepth 10000
def rowC (l : List CellS) : AObj := .o (.row 190 5) (cellsA l)
def CellS.Ok (c : CellS) : Prop := i64v c.col ∧ c.v.Ok
theorem cell_right (c : CellS) (hsz : c.v.t.size ≤ 9000000000000000000) : ACalls Tryz.prog 163 [.agg (cellA c)] [] (fun _ => false) (fun r h' => r = .c (.bool (cellOk c)) ∧ h' = []) := by
 refine acalls mixed Tryz.func163 rfl Tryz.ntmps163 rfl fun E hE hst hho => ?_
 by_cases h0 : 0 ≤ c.col
 ·by_cases h1 : c.v.k = 0
  ·simp (maxSteps := 1000000) [hho, noHo, cellA, valA, h0, h1, undef, onGP_none, condG_false, -List.reduceReplicate]
   refine Ret.drop (by rfl) ⟨?_, rfl⟩
   simp [cellOk, h0, h1]
  ·simp (maxSteps := 1000000) [hho, noHo, cellA, valA, h0, h1, -List.reduceReplicate]
   refine call_x [] (val_right c.v hsz) rfl rfl ⟨rfl, rfl⟩ hho (by simp) (by decide) (by simp) (by simp) ?_
   simp (maxSteps := 1000000) [hho, noHo, -List.reduceReplicate]
   refine Ret.drop (by rfl) ⟨?_, rfl⟩
   simp [cellOk, h0, h1]
 ·simp (maxSteps := 1000000) [hho, noHo, cellA, valA, h0, undef, onGP_none, condG_false, -List.reduceReplicate]
  refine Ret.drop (by rfl) ⟨?_, rfl⟩
  simp [cellOk, h0]
end Go.Proofs.YthgoocdldnkogaaGreatDoor
