import Derived.Test.YtniifindnnfkaaaDoorG1
namespace Go.Proofs.YtniifindnnfkaaaDoor
set_option linter.unusedVariables false
set_option linter.unusedSimpArgs false
open Go.RowKit

/-! ### numbers: what the walk's operations come to -/
theorem not_i64 (n : Int) (h1 : -9223372036854775808 ≤ n) (h2 : n ≤ 9223372036854775807) : bits .xor .i64 (-1) n = -1 - n := by
  show IntKind.i64.wrap ((BitVec.ofInt 64 (-1) ^^^ BitVec.ofInt 64 n).toNat : Int) = _
  have h3 : BitVec.ofInt 64 (-1) = BitVec.allOnes 64 := by decide
  rw [h3, BitVec.allOnes_xor, BitVec.toNat_not]
  simp only [BitVec.toNat_ofInt, IntKind.wrap, IntKind.bits, IntKind.signed]
  have : (2:Nat)^64 = 18446744073709551616 := by decide
  rw [this]
  simp
  omega
theorem u64_of_neg (n : Int) (h1 : -9223372036854775808 ≤ n) (h2 : n < 0) : IntKind.u64.wrap (bits .xor .i64 (-1) n) = (((-n - 1).toNat : Nat) : Int) := by
  rw [not_i64 n h1 (by omega)]
  simp [IntKind.wrap, IntKind.bits, IntKind.signed]
  omega
theorem u64_of_nonneg (n : Int) (h1 : 0 ≤ n) (h2 : n ≤ 9223372036854775807) : IntKind.u64.wrap n = ((n.toNat : Nat) : Int) := by
  simp [IntKind.wrap, IntKind.bits, IntKind.signed]
  omega
theorem u8_wrap_nat (u : Nat) : IntKind.u8.wrap (u : Int) = ((UInt8.ofNat u).toNat : Int) := by
  simp [IntKind.wrap, IntKind.bits, IntKind.signed]
theorem or_head (b k : Nat) (hb : b = 0 ∨ b = 128) (hk : k ≤ 8) : bits .or .u8 (b : Int) (k : Int) = ((UInt8.ofNat (b + k)).toNat : Int) := by
  rw [u8_or_nat b k (by omega) (by omega)]
  rcases hb with rfl | rfl
  · match k, hk with
    | 0, _ | 1, _ | 2, _ | 3, _ | 4, _ | 5, _ | 6, _ | 7, _ | 8, _ => decide
  · match k, hk with
    | 0, _ | 1, _ | 2, _ | 3, _ | 4, _ | 5, _ | 6, _ | 7, _ | 8, _ => decide

/-- the digits of a number, the least first -/
def digs (u : Nat) : List UInt8 := if h : u = 0 then [] else UInt8.ofNat u :: digs (u / 256)
theorem digs_pos {u : Nat} (h : 0 < u) : digs u = UInt8.ofNat u :: digs (u / 256) := by rw [digs, dif_neg (by omega)]
theorem digs_zero : digs 0 = [] := by rw [digs]; rfl
theorem digs_len (k : Nat) : ∀ u, u < 256 ^ k → (digs u).length ≤ k := by
  induction k with
  | zero => intro u h; have : u = 0 := by simpa using h
            subst this; simp [digs_zero]
  | succ k ih =>
    intro u h
    rcases Nat.eq_zero_or_pos u with rfl | h0
    · simp [digs_zero]
    · rw [digs_pos h0]
      have := ih (u / 256) (by rw [Nat.div_lt_iff_lt_mul (by omega)]; rw [Nat.pow_succ] at h; exact h)
      simpa using this
theorem digs_len8 (u : Nat) (h : u < 18446744073709551616) : (digs u).length ≤ 8 := digs_len 8 u h
def mag (n : Int) : Nat := if n < 0 then (-n - 1).toNat else n.toNat
def sig (n : Int) : Nat := if n < 0 then 128 else 0
def num (n : Int) : List UInt8 := UInt8.ofNat (sig n + (digs (mag n)).length) :: (digs (mag n)).reverse
/-- the number that big-endian digits come to -/
def be (ds : List UInt8) : Nat := ds.foldl (fun u d => u * 256 + d.toNat) 0
theorem be_snoc (ds : List UInt8) (d : UInt8) : be (ds ++ [d]) = be ds * 256 + d.toNat := by simp [be]
theorem be_lt (ds : List UInt8) : be ds < 256 ^ ds.length := by
  suffices h : ∀ n (ds : List UInt8), ds.length = n → be ds < 256 ^ n from h _ ds rfl
  intro n
  induction n with
  | zero => intro ds h; rw [List.eq_nil_of_length_eq_zero h]; simp [be]
  | succ n ih =>
    intro ds h
    rcases List.eq_nil_or_concat ds with rfl | ⟨l, d, rfl⟩
    · cases h
    · rw [List.concat_eq_append, be_snoc]
      have h1 := ih l (by simpa using h)
      have := d.toNat_lt
      rw [Nat.pow_succ]
      omega
theorem be_go (l : List UInt8) : ∀ u, l.foldl (fun u d => u * 256 + d.toNat) u = u * 256 ^ l.length + be l := by
  induction l with
  | nil => intro u; simp [be]
  | cons d l ih =>
    intro u
    simp only [List.foldl_cons, be]
    rw [ih, ih (0 * 256 + d.toNat), List.length_cons, Nat.pow_succ, Nat.add_mul, Nat.zero_mul, Nat.zero_add]
    rw [Nat.mul_assoc, Nat.mul_comm 256]
    omega
theorem be_cons (d : UInt8) (l : List UInt8) : be (d :: l) = d.toNat * 256 ^ l.length + be l := by
  have := be_go l (0 * 256 + d.toNat)
  simpa [be] using this
theorem be_small (ds : List UInt8) (h : ds.length ≤ 8) (hd : ∀ d l, ds = d :: l → ds.length = 8 → d.toNat < 128) (k : Nat) : be (ds.take k) < 9223372036854775808 := by
  by_cases h7 : (ds.take k).length ≤ 7
  · have h1 := be_lt (ds.take k)
    have h2 : 256 ^ (ds.take k).length ≤ 256 ^ 7 := Nat.pow_le_pow_right (by omega) h7
    have h3 : (256 : Nat) ^ 7 = 72057594037927936 := by simp
    omega
  · have hl : ds.length = 8 := by rw [List.length_take] at h7; omega
    have hk : ds.take k = ds := List.take_of_length_le (by rw [List.length_take] at h7; omega)
    rw [hk]
    rcases ds with _ | ⟨d, l⟩
    · cases hl
    · have h1 := hd d l rfl hl
      have h2 := be_lt l
      have h3 : l.length = 7 := by simpa using hl
      rw [be_cons]
      rw [h3] at h2 ⊢
      have h4 : (256 : Nat) ^ 7 = 72057594037927936 := by simp
      rw [h4] at h2 ⊢
      omega
theorem be_step (ds : List UInt8) (k : Nat) (h : k < ds.length) : be (ds.take (k + 1)) = be (ds.take k) * 256 + ds[k].toNat := by
  rw [List.take_succ_eq_append_getElem h, be_snoc]
/-- digits that no number has -/
def badLead (ds : List UInt8) : Bool := (ds.head? == some 0) || (ds.length == 8 && ds.head?.any (128 ≤ ·))
theorem badLead_no {d : UInt8} {l : List UInt8} (h0 : ¬ d = 0) (h : (d :: l).length = 8 → d.toNat < 128) : badLead (d :: l) = false := by
  simp only [badLead, List.head?_cons, Option.any_some, Bool.or_eq_false_iff, Bool.and_eq_false_iff]
  refine ⟨by simpa using h0, ?_⟩
  by_cases h8 : (d :: l).length = 8
  · right
    have := h h8
    simp [UInt8.le_iff_toNat_le]
    omega
  · left; simpa using h8
/-- what a good reader reads as a number -/
def rnum : List UInt8 → Option (Int × List UInt8)
  | [] => none
  | h :: t =>
    if 8 < h.toNat % 128 then none
    else if t.length < h.toNat % 128 then none
    else if badLead (t.take (h.toNat % 128)) then none
    else some (if 128 ≤ h.toNat then -1 - (be (t.take (h.toNat % 128)) : Int) else be (t.take (h.toNat % 128)), t.drop (h.toNat % 128))
def rnumS (s : Option (List UInt8)) : Int × Option (List UInt8) :=
  match s.bind rnum with
  | none => (0, none)
  | some (n, l) => (n, some l)
theorem rnumS_cons (h : UInt8) (t : List UInt8) (n : Nat) (hn : n = h.toNat % 128) (h8 : ¬ 8 < n) :
    rnumS (some (h :: t)) = if t.length < n then (0, none) else if badLead (t.take n) then (0, none) else (if 128 ≤ h.toNat then -1 - (be (t.take n) : Int) else be (t.take n), some (t.drop n)) := by
  subst hn
  simp only [rnumS, rnum, Option.bind_some, if_neg h8]
  by_cases h1 : t.length < h.toNat % 128
  · simp [h1]
  · by_cases h2 : badLead (t.take (h.toNat % 128)) = true <;> simp [h1, h2]
/-- what a reader reads as a count, a text -/
def rcountS (s : Option (List UInt8)) (most : Int) : Int × Option (List UInt8) := if (rnumS s).1 < 0 ∨ most < (rnumS s).1 then (0, none) else rnumS s
def rtextS (s : Option (List UInt8)) : List UInt8 × Option (List UInt8) :=
  match (rnumS s).2 with
  | none => ([], none)
  | some l => if (rnumS s).1 < 0 ∨ (l.length : Int) < (rnumS s).1 then ([], none) else (l.take (rnumS s).1.toNat, some (l.drop (rnumS s).1.toNat))
def rflagS (s : Option (List UInt8)) : Bool × Option (List UInt8) := ((rcountS s 1).1 == 1, (rcountS s 1).2)
theorem rnumS_le (s : Option (List UInt8)) : -9223372036854775808 ≤ (rnumS s).1 ∧ (rnumS s).1 ≤ 9223372036854775807 := by
  rcases s with _ | _ | ⟨h, t⟩
  · exact ⟨by decide, by decide⟩
  · exact ⟨by decide, by decide⟩
  · by_cases h8 : 8 < h.toNat % 128
    · simp [rnumS, rnum, h8]
    · rw [rnumS_cons h t _ rfl h8]
      split
      · simp
      · split
        · simp
        · rename_i hb
          have hs := be_small (t.take (h.toNat % 128)) (by rw [List.length_take]; omega) (fun d l e1 e2 => by
            rw [e1] at hb
            simp only [badLead, List.head?_cons, Option.any_some, Bool.or_eq_true, Bool.and_eq_true, not_or, not_and] at hb
            have h9 := hb.2 (by rw [← e1, e2]; rfl)
            simp [UInt8.le_iff_toNat_le] at h9
            omega) (h.toNat % 128)
          rw [List.take_take, Nat.min_self] at hs
          split <;> simp <;> omega
/-- the reference's answers: the number at the beginning of bytes, and how many it has -/
def getS (b : List UInt8) : Int × Nat := match rnum b with | none => (0, 0) | some (n, r) => (n, b.length - r.length)
def getTextS (b : List UInt8) : List UInt8 × Nat :=
  match rnum b with
  | none => ([], 0)
  | some (n, r) => if n < 0 ∨ (r.length : Int) < n then ([], 0) else (r.take n.toNat, b.length - r.length + n.toNat)
theorem mag_sig (n : Int) : (∃ m : Nat, n = -1 - (m : Int) ∧ mag n = m ∧ sig n = 128) ∨ (∃ m : Nat, n = (m : Int) ∧ mag n = m ∧ sig n = 0) := by
  unfold mag sig
  by_cases h : n < 0
  · left; exact ⟨(-n - 1).toNat, by omega, by rw [if_pos h], by rw [if_pos h]⟩
  · right; exact ⟨n.toNat, by omega, by rw [if_neg h], by rw [if_neg h]⟩
theorem add_head (b k : Nat) (hb : b = 0 ∨ b = 128) (hk : k ≤ 8) : ((UInt8.ofNat (b + k)).toNat : Int) = (b : Int) + k := by
  rw [UInt8.toNat_ofNat']
  omega
theorem and15 (h : UInt8) : bits .and .u8 (h.toNat : Int) 15 = ((h.toNat % 16 : Nat) : Int) := by
  have := h.toNat_lt
  rw [show (15 : Int) = ((15 : Nat) : Int) from rfl, u8_and_nat _ _ this (by omega)]
  congr 1
  exact Nat.and_two_pow_sub_one_eq_mod _ 4
theorem and128 (h : UInt8) : bits .and .u8 (h.toNat : Int) 128 = if 128 ≤ h.toNat then 128 else 0 := by
  have := h.toNat_lt
  rw [show (128 : Int) = ((128 : Nat) : Int) from rfl, u8_and_nat _ _ this (by omega)]
  have key : ∀ n, n < 256 → (n &&& 128) = if 128 ≤ n then 128 else 0 := by decide +kernel
  rw [key _ this]
  split <;> rfl
theorem andNot143 (h : UInt8) : bits .andNot .u8 (h.toNat : Int) 143 = ((h.toNat % 128 / 16 * 16 : Nat) : Int) := by
  have := h.toNat_lt
  rw [show (143 : Int) = ((143 : Nat) : Int) from rfl, u8_andNot_nat _ _ this (by omega)]
  have key : ∀ n, n < 256 → (n &&& (255 - 143)) = n % 128 / 16 * 16 := by decide +kernel
  rw [key _ this]
theorem bits_or_i64 (a b : Nat) (ha : a < 9223372036854775808) (hb : b < 9223372036854775808) : bits .or .i64 (a : Int) (b : Int) = ((a ||| b : Nat) : Int) := by
  show IntKind.i64.wrap ((BitVec.ofInt 64 (a : Int) ||| BitVec.ofInt 64 (b : Int)).toNat : Int) = _
  have h3 : (2:Nat) ^ 63 = 9223372036854775808 := by simp
  have hlt : a ||| b < 2 ^ 63 := Nat.or_lt_two_pow (by rw [h3]; exact ha) (by rw [h3]; exact hb)
  rw [h3] at hlt
  have e1 : (BitVec.ofInt 64 (a : Int)).toNat = a := ofInt_u64 a (by omega)
  have e2 : (BitVec.ofInt 64 (b : Int)).toNat = b := ofInt_u64 b (by omega)
  rw [BitVec.toNat_or, e1, e2]
  simp only [IntKind.wrap, IntKind.bits, IntKind.signed]
  simp
  omega
theorem or_i64 (a d : Nat) (hd : d < 256) (ha : a * 256 + d < 9223372036854775808) : bits .or .i64 ((a : Int) * 256) (d : Int) = (a : Int) * 256 + d := by
  have h1 : a * 256 < 9223372036854775808 := Nat.lt_of_le_of_lt (Nat.le_add_right _ _) ha
  have h2 : d < 9223372036854775808 := Nat.lt_of_le_of_lt (Nat.le_add_left _ _) ha
  have h := bits_or_i64 (a * 256) d h1 h2
  have e : a * 256 ||| d = a * 256 + d := by
    have := Nat.shiftLeft_add_eq_or_of_lt (i := 8) (b := d) (by omega) a
    rw [Nat.shiftLeft_eq, show (2:Nat)^8 = 256 from rfl] at this
    omega
  rw [e] at h
  simpa using h
theorem num_len (n : Int) (h1 : -9223372036854775808 ≤ n) (h2 : n ≤ 9223372036854775807) : (num n).length ≤ 9 := by
  have : (digs (mag n)).length ≤ 8 := digs_len8 _ (by unfold mag; split <;> omega)
  simp [num]; omega
end Go.Proofs.YtniifindnnfkaaaDoor
