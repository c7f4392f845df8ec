import Derived.Test.YthgoocdldnkogaaGreatDoorG1
namespace Go.Proofs.YthgoocdldnkogaaGreatDoor
set_option linter.unusedVariables false
set_option linter.unusedSimpArgs false
open Go.RowKit

theorem not_i64 (n : Int) (h1 : -9223372036854775808 ≤ n) (h2 : n ≤ 9223372036854775807) : bits .xor .i64 (-1) n = -1 - n := by
 show IntKind.i64.wrap ((BitVec.ofInt 64 (-1) ^^^ BitVec.ofInt 64 n).toNat : Int) = _
 have h3 : BitVec.ofInt 64 (-1) = BitVec.allOnes 64 := by decide
 rw [h3, BitVec.allOnes_xor, BitVec.toNat_not]
 simp only [BitVec.toNat_ofInt, IntKind.wrap, IntKind.bits, IntKind.signed]
 have : (2:Nat)^64 = 18446744073709551616 := by decide
 rw [this]
 simp
 omega
theorem u64_of_neg (n : Int) (h1 : -9223372036854775808 ≤ n) (h2 : n < 0) : IntKind.u64.wrap (bits .xor .i64 (-1) n) = (((-n - 1).toNat : Nat) : Int) := by
 rw [not_i64 n h1 (by omega)]
 simp [IntKind.wrap, IntKind.bits, IntKind.signed]
 omega
theorem u64_of_nonneg (n : Int) (h1 : 0 ≤ n) (h2 : n ≤ 9223372036854775807) : IntKind.u64.wrap n = ((n.toNat : Nat) : Int) := by
 simp [IntKind.wrap, IntKind.bits, IntKind.signed]
 omega
theorem u8_wrap_nat (u : Nat) : IntKind.u8.wrap (u : Int) = ((UInt8.ofNat u).toNat : Int) := by
 simp [IntKind.wrap, IntKind.bits, IntKind.signed]
theorem or_head (b k : Nat) (hb : b = 0 ∨ b = 128) (hk : k ≤ 8) : bits .or .u8 (b : Int) (k : Int) = ((UInt8.ofNat (b + k)).toNat : Int) := by
 rw [u8_or_nat b k (by omega) (by omega)]
 rcases hb with rfl | rfl
 ·match k, hk with
  | 0, _ | 1, _ | 2, _ | 3, _ | 4, _ | 5, _ | 6, _ | 7, _ | 8, _ => decide
 ·match k, hk with
  | 0, _ | 1, _ | 2, _ | 3, _ | 4, _ | 5, _ | 6, _ | 7, _ | 8, _ => decide

def digs (u : Nat) : List UInt8 := if h : u = 0 then [] else UInt8.ofNat u :: digs (u / 256)
theorem digs_pos {u : Nat} (h : 0 < u) : digs u = UInt8.ofNat u :: digs (u / 256) := by rw [digs, dif_neg (by omega)]
theorem digs_zero : digs 0 = [] := by rw [digs]; rfl
theorem digs_len (k : Nat) : ∀ u, u < 256 ^ k → (digs u).length ≤ k := by
 induction k with
 | zero => intro u h; have : u = 0 := by simpa using h
           subst this; simp [digs_zero]
 | succ k ih =>
  intro u h
  rcases Nat.eq_zero_or_pos u with rfl | h0
  ·simp [digs_zero]
  ·rw [digs_pos h0]
   have := ih (u / 256) (by rw [Nat.div_lt_iff_lt_mul (by omega)]; rw [Nat.pow_succ] at h; exact h)
   simpa using this
theorem digs_len8 (u : Nat) (h : u < 18446744073709551616) : (digs u).length ≤ 8 := digs_len 8 u h
def mag (n : Int) : Nat := if n < 0 then (-n - 1).toNat else n.toNat
def sig (n : Int) : Nat := if n < 0 then 128 else 0
def num (n : Int) : List UInt8 := UInt8.ofNat (sig n + (digs (mag n)).length) :: (digs (mag n)).reverse
def be (ds : List UInt8) : Nat := ds.foldl (fun u d => u * 256 + d.toNat) 0
theorem be_snoc (ds : List UInt8) (d : UInt8) : be (ds ++ [d]) = be ds * 256 + d.toNat := by simp [be]
theorem be_lt (ds : List UInt8) : be ds < 256 ^ ds.length := by
 suffices h : ∀ n (ds : List UInt8), ds.length = n → be ds < 256 ^ n from h _ ds rfl
 intro n
 induction n with
 | zero => intro ds h; rw [List.eq_nil_of_length_eq_zero h]; simp [be]
 | succ n ih =>
  intro ds h
  rcases List.eq_nil_or_concat ds with rfl | ⟨l, d, rfl⟩
  ·cases h
  ·rw [List.concat_eq_append, be_snoc]
   have h1 := ih l (by simpa using h)
   have := d.toNat_lt
   rw [Nat.pow_succ]
   omega
theorem be_go (l : List UInt8) : ∀ u, l.foldl (fun u d => u * 256 + d.toNat) u = u * 256 ^ l.length + be l := by
 induction l with
 | nil => intro u; simp [be]
 | cons d l ih =>
  intro u
  simp only [List.foldl_cons, be]
  rw [ih, ih (0 * 256 + d.toNat), List.length_cons, Nat.pow_succ, Nat.add_mul, Nat.zero_mul, Nat.zero_add]
  rw [Nat.mul_assoc, Nat.mul_comm 256]
  omega
theorem be_cons (d : UInt8) (l : List UInt8) : be (d :: l) = d.toNat * 256 ^ l.length + be l := by
 have := be_go l (0 * 256 + d.toNat)
 simpa [be] using this
theorem be_small (ds : List UInt8) (h : ds.length ≤ 8) (hd : ∀ d l, ds = d :: l → ds.length = 8 → d.toNat < 128) (k : Nat) : be (ds.take k) < 9223372036854775808 := by
 by_cases h7 : (ds.take k).length ≤ 7
 ·have h1 := be_lt (ds.take k)
  have h2 : 256 ^ (ds.take k).length ≤ 256 ^ 7 := Nat.pow_le_pow_right (by omega) h7
  have h3 : (256 : Nat) ^ 7 = 72057594037927936 := by simp
  omega
 ·have hl : ds.length = 8 := by rw [List.length_take] at h7; omega
  have hk : ds.take k = ds := List.take_of_length_le (by rw [List.length_take] at h7; omega)
  rw [hk]
  rcases ds with _ | ⟨d, l⟩
  ·cases hl
  ·have h1 := hd d l rfl hl
   have h2 := be_lt l
   have h3 : l.length = 7 := by simpa using hl
   rw [be_cons]
   rw [h3] at h2 ⊢
   have h4 : (256 : Nat) ^ 7 = 72057594037927936 := by simp
   rw [h4] at h2 ⊢
   omega
theorem be_step (ds : List UInt8) (k : Nat) (h : k < ds.length) : be (ds.take (k + 1)) = be (ds.take k) * 256 + ds[k].toNat := by
 rw [List.take_succ_eq_append_getElem h, be_snoc]
def badLead (ds : List UInt8) : Bool := (ds.head? == some 0) || (ds.length == 8 && ds.head?.any (128 ≤ ·))
theorem badLead_no {d : UInt8} {l : List UInt8} (h0 : ¬ d = 0) (h : (d :: l).length = 8 → d.toNat < 128) : badLead (d :: l) = false := by
 simp only [badLead, List.head?_cons, Option.any_some, Bool.or_eq_false_iff, Bool.and_eq_false_iff]
 refine ⟨by simpa using h0, ?_⟩
 by_cases h8 : (d :: l).length = 8
 ·right
  have := h h8
  simp [UInt8.le_iff_toNat_le]
  omega
 ·left; simpa using h8
def rnum : List UInt8 → Option (Int × List UInt8)
 | [] => none
 | h :: t =>
  if 8 < h.toNat % 128 then none
  else if t.length < h.toNat % 128 then none
  else if badLead (t.take (h.toNat % 128)) then none
  else some (if 128 ≤ h.toNat then -1 - (be (t.take (h.toNat % 128)) : Int) else be (t.take (h.toNat % 128)), t.drop (h.toNat % 128))
def rnumS (s : Option (List UInt8)) : Int × Option (List UInt8) :=
 match s.bind rnum with
 | none => (0, none)
 | some (n, l) => (n, some l)
theorem rnumS_cons (h : UInt8) (t : List UInt8) (n : Nat) (hn : n = h.toNat % 128) (h8 : ¬ 8 < n) :
  rnumS (some (h :: t)) = if t.length < n then (0, none) else if badLead (t.take n) then (0, none) else (if 128 ≤ h.toNat then -1 - (be (t.take n) : Int) else be (t.take n), some (t.drop n)) := by
 subst hn
 simp only [rnumS, rnum, Option.bind_some, if_neg h8]
 by_cases h1 : t.length < h.toNat % 128
 ·simp [h1]
 ·by_cases h2 : badLead (t.take (h.toNat % 128)) = true <;> simp [h1, h2]
def rcountS (s : Option (List UInt8)) (most : Int) : Int × Option (List UInt8) := if (rnumS s).1 < 0 ∨ most < (rnumS s).1 then (0, none) else rnumS s
def rtextS (s : Option (List UInt8)) : List UInt8 × Option (List UInt8) :=
 match (rnumS s).2 with
 | none => ([], none)
 | some l => if (rnumS s).1 < 0 ∨ (l.length : Int) < (rnumS s).1 then ([], none) else (l.take (rnumS s).1.toNat, some (l.drop (rnumS s).1.toNat))
def rflagS (s : Option (List UInt8)) : Bool × Option (List UInt8) := ((rcountS s 1).1 == 1, (rcountS s 1).2)
theorem rnumS_le (s : Option (List UInt8)) : -9223372036854775808 ≤ (rnumS s).1 ∧ (rnumS s).1 ≤ 9223372036854775807 := by
 rcases s with _ | _ | ⟨h, t⟩
 ·exact ⟨by decide, by decide⟩
 ·exact ⟨by decide, by decide⟩
 ·by_cases h8 : 8 < h.toNat % 128
  ·simp [rnumS, rnum, h8]
  ·rw [rnumS_cons h t _ rfl h8]
   split
   ·simp
   ·split
    ·simp
    ·rename_i hb
     have hs := be_small (t.take (h.toNat % 128)) (by rw [List.length_take]; omega) (fun d l e1 e2 => by
      rw [e1] at hb
      simp only [badLead, List.head?_cons, Option.any_some, Bool.or_eq_true, Bool.and_eq_true, not_or, not_and] at hb
      have h9 := hb.2 (by rw [← e1, e2]; rfl)
      simp [UInt8.le_iff_toNat_le] at h9
      omega) (h.toNat % 128)
     rw [List.take_take, Nat.min_self] at hs
     split <;> simp <;> omega
theorem and15 (h : UInt8) : bits .and .u8 (h.toNat : Int) 15 = ((h.toNat % 16 : Nat) : Int) := by
 have := h.toNat_lt
 rw [show (15 : Int) = ((15 : Nat) : Int) from rfl, u8_and_nat _ _ this (by omega)]
 congr 1
 exact Nat.and_two_pow_sub_one_eq_mod _ 4
theorem and128 (h : UInt8) : bits .and .u8 (h.toNat : Int) 128 = if 128 ≤ h.toNat then 128 else 0 := by
 have := h.toNat_lt
 rw [show (128 : Int) = ((128 : Nat) : Int) from rfl, u8_and_nat _ _ this (by omega)]
 have key : ∀ n, n < 256 → (n &&& 128) = if 128 ≤ n then 128 else 0 := by decide +kernel
 rw [key _ this]
 split <;> rfl
theorem andNot143 (h : UInt8) : bits .andNot .u8 (h.toNat : Int) 143 = ((h.toNat % 128 / 16 * 16 : Nat) : Int) := by
 have := h.toNat_lt
 rw [show (143 : Int) = ((143 : Nat) : Int) from rfl, u8_andNot_nat _ _ this (by omega)]
 have key : ∀ n, n < 256 → (n &&& (255 - 143)) = n % 128 / 16 * 16 := by decide +kernel
 rw [key _ this]
theorem num_len (n : Int) (h1 : -9223372036854775808 ≤ n) (h2 : n ≤ 9223372036854775807) : (num n).length ≤ 9 := by
 have : (digs (mag n)).length ≤ 8 := digs_len8 _ (by unfold mag; split <;> omega)
 simp [num]; omega


theorem be_digs (u : Nat) : be (digs u).reverse = u := by
 induction u using Nat.strongRecOn with
 | _ u ih =>
  rcases Nat.eq_zero_or_pos u with rfl | h0
  ·simp [digs_zero, be]
  ·rw [digs_pos h0, List.reverse_cons, be_snoc, ih (u / 256) (by omega)]
   simp
   omega
theorem digs_top (u : Nat) (h : 0 < u) : ∃ d l, (digs u).reverse = d :: l ∧ d ≠ 0 := by
 induction u using Nat.strongRecOn with
 | _ u ih =>
  by_cases h1 : u / 256 = 0
  ·refine ⟨UInt8.ofNat u, [], by rw [digs_pos h, h1, digs_zero]; rfl, ?_⟩
   intro e
   have := congrArg UInt8.toNat e
   simp at this
   omega
  ·obtain ⟨d, l, e, hd⟩ := ih (u / 256) (by omega) (by omega)
   exact ⟨d, l ++ [UInt8.ofNat u], by rw [digs_pos h, List.reverse_cons, e]; rfl, hd⟩
theorem mag_lt (n : Int) (h1 : -9223372036854775808 ≤ n) (h2 : n ≤ 9223372036854775807) : mag n < 9223372036854775808 := by
 unfold mag; split <;> omega
theorem badLead_digs (u : Nat) (h : u < 9223372036854775808) : badLead (digs u).reverse = false := by
 rcases Nat.eq_zero_or_pos u with rfl | h0
 ·rw [digs_zero]; rfl
 ·obtain ⟨d, l, e, hd⟩ := digs_top u h0
  rw [e]
  refine badLead_no hd fun h8 => ?_
  have hb := be_digs u
  rw [e, be_cons] at hb
  have hl : l.length = 7 := by simpa using h8
  rw [hl] at hb
  have h4 : (256 : Nat) ^ 7 = 72057594037927936 := by simp
  rw [h4] at hb
  omega
theorem rnum_num (n : Int) (h1 : -9223372036854775808 ≤ n) (h2 : n ≤ 9223372036854775807) (r : List UInt8) : rnum (num n ++ r) = some (n, r) := by
 have hk : (digs (mag n)).length ≤ 8 := digs_len8 _ (by have := mag_lt n h1 h2; omega)
 have hs : sig n = 0 ∨ sig n = 128 := by unfold sig; split <;> simp
 have hh : (UInt8.ofNat (sig n + (digs (mag n)).length)).toNat = sig n + (digs (mag n)).length := by
  rw [UInt8.toNat_ofNat']
  exact Nat.mod_eq_of_lt (by rcases hs with h | h <;> rw [h] <;> omega)
 have hm : (sig n + (digs (mag n)).length) % 128 = (digs (mag n)).length := by rcases hs with h | h <;> rw [h] <;> omega
 have hl : (digs (mag n)).reverse.length = (digs (mag n)).length := List.length_reverse
 have ht : ((digs (mag n)).reverse ++ r).take (digs (mag n)).length = (digs (mag n)).reverse := List.take_left' hl
 have hd : ((digs (mag n)).reverse ++ r).drop (digs (mag n)).length = r := List.drop_left' hl
 simp only [num, List.cons_append, rnum]
 rw [hh, hm, ht, hd, if_neg (by omega), if_neg (by rw [List.length_append, hl]; omega), badLead_digs _ (mag_lt n h1 h2), if_neg (by simp), be_digs]
 congr 2
 unfold sig mag
 by_cases h0 : n < 0
 ·rw [if_pos h0, if_pos h0, if_pos (by omega)]; omega
 ·rw [if_neg h0, if_neg h0, if_neg]
  ·omega
  ·have : mag n = n.toNat := by unfold mag; rw [if_neg h0]
   rw [this] at hk
   omega
theorem rnumS_num (n : Int) (h1 : -9223372036854775808 ≤ n) (h2 : n ≤ 9223372036854775807) (r : List UInt8) : rnumS (some (num n ++ r)) = (n, some r) := by
 simp [rnumS, rnum_num n h1 h2 r]
def txt (s : ByteArray) : List UInt8 := num s.size ++ s.data.toList
theorem rtextS_txt (s : ByteArray) (h : s.size ≤ 9223372036854775807) (r : List UInt8) : rtextS (some (txt s ++ r)) = (s.data.toList, some r) := by
 have e := rnumS_num s.size (by omega) (by omega) (s.data.toList ++ r)
 rw [txt, List.append_assoc]
 simp only [rtextS, e]
 have hl : s.data.toList.length = s.size := rfl
 rw [if_neg (by rw [List.length_append, hl]; omega), Int.toNat_natCast, List.take_left' hl, List.drop_left' hl]
theorem rcountS_num (n most : Int) (h1 : -9223372036854775808 ≤ n) (h2 : n ≤ 9223372036854775807) (r : List UInt8) : rcountS (some (num n ++ r)) most = if n < 0 ∨ most < n then (0, none) else (n, some r) := by
 simp only [rcountS, rnumS_num n h1 h2 r]
theorem txt_len (s : ByteArray) (h : s.size ≤ 9223372036854775807) : (txt s).length ≤ 9 + s.size := by
 have := num_len s.size (by omega) (by omega)
 rw [txt, List.length_append, show s.data.toList.length = s.size from rfl]; omega
def Short (st : Option (List UInt8)) (R : List UInt8) : Prop := st = none ∨ ∃ X y Y, st = some X ∧ R = X ++ y :: Y
theorem split_prefix {X a b : List UInt8} {y : UInt8} {Y : List UInt8} (h : a ++ b = X ++ y :: Y) : (∃ X', X = a ++ X' ∧ b = X' ++ y :: Y) ∨ X.length < a.length := by
 rcases Nat.lt_or_ge X.length a.length with hl | hl
 ·exact .inr hl
 ·left
  refine ⟨X.drop a.length, ?_, ?_⟩
  ·have h1 := congrArg (List.take a.length) h
   rw [List.take_left, List.take_append_of_le_length hl] at h1
   conv => lhs; rw [← List.take_append_drop a.length X]
   rw [← h1]
  ·have h1 := congrArg (List.drop a.length) h
   rw [List.drop_left, List.drop_append_of_le_length hl] at h1
   exact h1
theorem short_num {n : Int} (h1 : -9223372036854775808 ≤ n) (h2 : n ≤ 9223372036854775807) {X : List UInt8} (hl : X.length < (num n).length) {R : List UInt8} {y : UInt8} {Y : List UInt8} (h : num n ++ R = X ++ y :: Y) : rnum X = none := by
 rcases X with _ | ⟨x, t⟩
 ·rfl
 ·have hk : (digs (mag n)).length ≤ 8 := digs_len8 _ (by have := mag_lt n h1 h2; omega)
  have hs : sig n = 0 ∨ sig n = 128 := by unfold sig; split <;> simp
  simp only [num, List.cons_append, List.cons.injEq] at h
  have hx : x.toNat % 128 = (digs (mag n)).length := by
   rw [← h.1, UInt8.toNat_ofNat']
   rcases hs with h | h <;> rw [h] <;> omega
  simp only [rnum]
  rw [hx, if_neg (by omega), if_pos]
  simp [num] at hl
  omega
theorem Short.num {st : Option (List UInt8)} {n : Int} {R : List UInt8} (h1 : -9223372036854775808 ≤ n) (h2 : n ≤ 9223372036854775807) (h : Short st (num n ++ R)) : Short (rnumS st).2 R := by
 rcases h with rfl | ⟨X, y, Y, rfl, h⟩
 ·exact .inl rfl
 ·rcases split_prefix h with ⟨X', rfl, hb⟩ | hl
  ·rw [rnumS_num n h1 h2]
   exact .inr ⟨X', y, Y, rfl, hb⟩
  ·left
   simp [rnumS, short_num h1 h2 hl h]
theorem Short.txt {st : Option (List UInt8)} {s : ByteArray} {R : List UInt8} (hs : s.size ≤ 9223372036854775807) (h : Short st (txt s ++ R)) : Short (rtextS st).2 R := by
 rcases h with rfl | ⟨X, y, Y, rfl, h⟩
 ·exact .inl rfl
 ·rw [Go.Proofs.YthgoocdldnkogaaGreatDoor.txt, List.append_assoc] at h
  rcases split_prefix h with ⟨X', rfl, hb⟩ | hl
  ·simp only [rtextS, rnumS_num s.size (by omega) (by omega)]
   have hsl : s.data.toList.length = s.size := rfl
   rcases split_prefix hb with ⟨X2, rfl, hb2⟩ | hl2
   ·rw [if_neg (by rw [List.length_append, hsl]; omega), Int.toNat_natCast, List.drop_left' hsl]
    exact .inr ⟨X2, y, Y, rfl, hb2⟩
   ·rw [if_pos (by omega)]
    exact .inl rfl
  ·left
   simp [rtextS, rnumS, short_num (by omega) (by omega) hl h]
end Go.Proofs.YthgoocdldnkogaaGreatDoor
