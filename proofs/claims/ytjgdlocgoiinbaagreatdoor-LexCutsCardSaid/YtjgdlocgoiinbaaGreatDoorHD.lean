import Derived.Lib.ItoaNum
import Derived.Lib.AtoiAll
import Derived.Lib.Atoi
import Derived.Test.YtjgdlocgoiinbaaGreatDoorHV
import Derived.Lib.Replace
import Derived.Lib.CutLaws
namespace Go.Proofs.YtjgdlocgoiinbaaGreatDoor
set_option linter.unusedVariables false
set_option linter.unusedSimpArgs false
def digL (n : Nat) : List Nat := if h : n = 0 then [] else n % 10 :: digL (n / 10)
termination_by n
decreasing_by omega
def valL : List Nat → Nat
  | [] => 0
  | d :: l => d + 10 * valL l
def DigOk (l : List Nat) : Prop := ∀ d ∈ l, d < 10
def Canon (l : List Nat) : Prop := DigOk l ∧ (∀ d, l.getLast? = some d → d ≠ 0)
theorem digL_zero : digL 0 = [] := by rw [digL, dif_pos rfl]
theorem digL_pos {n : Nat} (h : n ≠ 0) : digL n = n % 10 :: digL (n / 10) := by rw [digL, dif_neg h]
theorem valL_dig (n : Nat) : valL (digL n) = n := by
  induction n using Nat.strongRecOn with
  | _ n ih =>
    by_cases h : n = 0
    · subst h; rw [digL_zero]; rfl
    · rw [digL_pos h, valL, ih (n / 10) (by omega)]; omega
theorem digL_ok (n : Nat) : DigOk (digL n) := by
  induction n using Nat.strongRecOn with
  | _ n ih =>
    by_cases h : n = 0
    · subst h; rw [digL_zero]; intro d hd; cases hd
    · rw [digL_pos h]
      intro d hd
      rcases List.mem_cons.1 hd with rfl | hd
      · omega
      · exact ih (n / 10) (by omega) d hd
theorem digL_nil {n : Nat} (h : digL n = []) : n = 0 := by
  have := valL_dig n
  rw [h] at this
  exact this.symm
theorem digL_canon (n : Nat) : Canon (digL n) := by
  refine ⟨digL_ok n, ?_⟩
  induction n using Nat.strongRecOn with
  | _ n ih =>
    intro d hd
    by_cases h : n = 0
    · subst h; rw [digL_zero] at hd; cases hd
    · rw [digL_pos h] at hd
      by_cases h2 : n / 10 = 0
      · rw [h2, digL_zero] at hd
        simp at hd
        omega
      · have hne : digL (n / 10) ≠ [] := fun e => h2 (digL_nil e)
        rw [List.getLast?_cons_of_ne_nil hne] at hd
        exact ih (n / 10) (by omega) d hd
theorem valL_app (a b : List Nat) : valL (a ++ b) = valL a + 10 ^ a.length * valL b := by
  induction a with
  | nil => simp [valL]
  | cons d a ih =>
    simp only [List.cons_append, valL, ih, List.length_cons, Nat.pow_succ, Nat.mul_add]
    rw [Nat.mul_comm (10 ^ a.length) 10, Nat.mul_assoc]
    omega
theorem valL_lt {l : List Nat} (h : DigOk l) : valL l < 10 ^ l.length := by
  induction l with
  | nil => simp [valL]
  | cons d l ih =>
    have h1 := h d (List.mem_cons_self ..)
    have h2 := ih fun x hx => h x (List.mem_cons_of_mem _ hx)
    simp only [valL, List.length_cons, Nat.pow_succ]
    omega
theorem valL_ge {l : List Nat} (h : Canon l) (hl : l ≠ []) : 10 ^ (l.length - 1) ≤ valL l := by
  obtain ⟨a, d, rfl⟩ : ∃ a d, l = a ++ [d] := ⟨l.dropLast, l.getLast hl, (List.dropLast_concat_getLast hl).symm⟩
  have hd := h.2 d (by simp)
  rw [valL_app]
  simp only [List.length_append, List.length_cons, List.length_nil, valL]
  have : 10 ^ a.length * 1 ≤ 10 ^ a.length * (d + 10 * 0) := Nat.mul_le_mul_left _ (by omega)
  simp only [Nat.add_sub_cancel, Nat.mul_zero, Nat.add_zero, Nat.zero_add] at *
  omega
theorem canon_len {a b : List Nat} (ha : DigOk a) (hb : Canon b) (h : a.length < b.length) : valL a < valL b := by
  have h1 := valL_lt ha
  have hne : b ≠ [] := fun e => by rw [e] at h; simp at h
  have h2 := valL_ge hb hne
  have h3 : 10 ^ a.length ≤ 10 ^ (b.length - 1) := Nat.pow_le_pow_right (by decide) (by omega)
  omega
theorem top_less {a b : List Nat} {i : Nat} (ha : DigOk a) (hb : DigOk b) (hl : a.length = b.length) (hi : i < a.length) (hi2 : i < b.length) (hlt : a[i] < b[i]) (he : ∀ k (h1 : k < a.length) (h2 : k < b.length), i < k → a[k] = b[k]) : valL a < valL b := by
  have e1 : a = a.take i ++ (a[i] :: a.drop (i + 1)) := by rw [← List.drop_eq_getElem_cons hi, List.take_append_drop]
  have e2 : b = b.take i ++ (b[i] :: b.drop (i + 1)) := by rw [← List.drop_eq_getElem_cons hi2, List.take_append_drop]
  have e3 : a.drop (i + 1) = b.drop (i + 1) := by
    apply List.ext_getElem
    · simp [hl]
    · intro k h1 h2
      simp only [List.getElem_drop]
      exact he _ _ _ (by omega)
  have l1 : (a.take i).length = i := by simp; omega
  have l2 : (b.take i).length = i := by simp; omega
  have d1 : DigOk (a.take i) := fun d hd => ha d (List.mem_of_mem_take hd)
  have v1 := valL_lt d1
  rw [l1] at v1
  have ea : valL a = valL (a.take i) + 10 ^ i * (a[i] + 10 * valL (a.drop (i + 1))) := by
    conv => lhs; rw [e1]
    rw [valL_app, l1, valL]
  have eb : valL b = valL (b.take i) + 10 ^ i * (b[i] + 10 * valL (a.drop (i + 1))) := by
    conv => lhs; rw [e2]
    rw [valL_app, l2, valL, e3]
  rw [ea, eb]
  have h5 : 10 ^ i * (a[i] + 10 * valL (a.drop (i + 1))) + 10 ^ i ≤ 10 ^ i * (b[i] + 10 * valL (a.drop (i + 1))) := by
    rw [← Nat.mul_succ]
    exact Nat.mul_le_mul_left _ (by omega)
  omega
theorem digL_uniq : ∀ {l : List Nat}, Canon l → digL (valL l) = l
  | [], _ => by rw [valL, digL_zero]
  | d :: l, h => by
    have hd := h.1 d (List.mem_cons_self ..)
    have hl : Canon l := ⟨fun x hx => h.1 x (List.mem_cons_of_mem _ hx), fun x hx => h.2 x (by
      cases l with
      | nil => cases hx
      | cons y l => rw [List.getLast?_cons_cons]; exact hx)⟩
    have hne : valL (d :: l) ≠ 0 := by
      intro e
      simp only [valL] at e
      have e1 : d = 0 := by omega
      have e2 : valL l = 0 := by omega
      cases l with
      | nil => exact h.2 d rfl e1
      | cons y l =>
        have := valL_ge hl (by simp)
        have : 1 ≤ 10 ^ ((y :: l).length - 1) := Nat.one_le_pow _ _ (by decide)
        omega
    rw [digL_pos hne]
    have e1 : valL (d :: l) % 10 = d := by simp only [valL]; omega
    have e2 : valL (d :: l) / 10 = valL l := by simp only [valL]; omega
    rw [e1, e2, digL_uniq hl]
def cmpN (a b : Int) : Int := if a < b then -1 else if b < a then 1 else 0
def decCmp (a sa b sb : Int) : Int := cmpN (a * 10 ^ sb.toNat) (b * 10 ^ sa.toNat)
theorem decDigits_dig (n : Nat) (h : n ≠ 0) : Go.Lib.decDigits n = (digL n).reverse.map fun d => UInt8.ofNat (48 + d) := by
  induction n using Nat.strongRecOn with
  | _ n ih =>
    rw [digL_pos h, List.reverse_cons, List.map_append]
    by_cases h2 : n < 10
    · rw [Go.Lib.decDigits, dif_pos h2]
      have e : n / 10 = 0 := by omega
      rw [e, digL_zero]
      simp [Nat.mod_eq_of_lt h2]
    · rw [Go.Lib.decDigits, dif_neg h2, ih (n / 10) (by omega) (by omega)]
      rfl
end Go.Proofs.YtjgdlocgoiinbaaGreatDoor
namespace Go.Proofs.YtjgdlocgoiinbaaGreatDoor
set_option linter.unusedVariables false
set_option linter.unusedSimpArgs false
open Go.RowKit Go.Lib
structure CmpOk {α : Type} (c : α → α → Int) : Prop where
  r : ∀ a b, c a b = -1 ∨ c a b = 0 ∨ c a b = 1
  s : ∀ a b, c a b = - c b a
  t : ∀ a b d, c a b ≤ 0 → c b d ≤ 0 → c a d ≤ 0
def lexC {α : Type} (c d : α → α → Int) (a b : α) : Int := if c a b ≠ 0 then c a b else d a b
theorem CmpOk.lex {α : Type} {c d : α → α → Int} (hc : CmpOk c) (hd : CmpOk d) : CmpOk (lexC c d) where
  r a b := by
    unfold lexC
    split
    · exact hc.r a b
    · exact hd.r a b
  s a b := by
    unfold lexC
    have := hc.s a b
    by_cases h : c a b = 0
    · have h2 : c b a = 0 := by omega
      rw [if_neg (by simp [h]), if_neg (by simp [h2])]
      exact hd.s a b
    · have h2 : c b a ≠ 0 := by omega
      rw [if_pos h, if_pos h2]
      exact this
  t a b e h1 h2 := by
    unfold lexC at h1 h2 ⊢
    have s1 := hc.s a b
    have s2 := hc.s b e
    have s3 := hc.s a e
    by_cases ab : c a b = 0
    · rw [if_neg (by simp [ab])] at h1
      by_cases be : c b e = 0
      · rw [if_neg (by simp [be])] at h2
        have t1 := hc.t a b e (by omega) (by omega)
        have t2 := hc.t e b a (by omega) (by omega)
        rw [if_neg (by simp; omega)]
        exact hd.t a b e h1 h2
      · rw [if_pos be] at h2
        have t1 := hc.t a b e (by omega) h2
        by_cases ae : c a e = 0
        · have := hc.t e a b (by omega) (by omega)
          omega
        · rw [if_pos ae]; exact t1
    · rw [if_pos ab] at h1
      by_cases be : c b e = 0
      · have t1 := hc.t a b e h1 (by omega)
        by_cases ae : c a e = 0
        · have := hc.t b e a (by omega) (by omega)
          omega
        · rw [if_pos ae]; exact t1
      · rw [if_pos be] at h2
        have t1 := hc.t a b e h1 h2
        by_cases ae : c a e = 0
        · have := hc.t b e a (by omega) (by omega)
          omega
        · rw [if_pos ae]; exact t1
theorem CmpOk.on {α β : Type} {c : β → β → Int} (h : CmpOk c) (f : α → β) : CmpOk fun a b => c (f a) (f b) := ⟨fun _ _ => h.r _ _, fun _ _ => h.s _ _, fun _ _ _ => h.t _ _ _⟩
def cls (k : Int) : Int := if k = 3 then 2 else k
def vN : ValS := ⟨0, 0, 0, ByteArray.empty⟩
def plV (v : ValS) : ValS := if valOk v = true then v else vN
def keyV (v : ValS) : Int := if cls v.k = 2 then v.n * 10 ^ (6 - v.s.toNat) else v.n
def insideV (a b : ValS) : Int := if cls a.k = 2 then decCmp a.n a.s b.n b.s else if cmpN a.n b.n ≠ 0 then cmpN a.n b.n else compareBytes a.t.data.toList b.t.data.toList
def orderV (a b : ValS) : Int := if cmpN (cls a.k) (cls b.k) ≠ 0 then cmpN (cls a.k) (cls b.k) else if insideV a b ≠ 0 then insideV a b else if cmpN a.k b.k ≠ 0 then cmpN a.k b.k else cmpN a.s b.s
def cmpV (a b : ValS) : Int × Bool := if a.k = 0 ∨ cls a.k ≠ cls b.k then (0, false) else (insideV a b, true)
def ordK : ValS → ValS → Int := lexC (fun a b => cmpN (cls a.k) (cls b.k)) (lexC (lexC (fun a b => cmpN (keyV a) (keyV b)) fun a b => compareBytes a.t.data.toList b.t.data.toList) (lexC (fun a b => cmpN a.k b.k) fun a b => cmpN a.s b.s))
theorem scale_le {n : Int} (h : scaleOk n = true) : 0 ≤ n ∧ n ≤ 6 := by
  unfold scaleOk at h
  simp only [Bool.and_eq_true, decide_eq_true_eq] at h
  exact h
theorem valOk_2 {v : ValS} (h : valOk v = true) (h2 : cls v.k = 2) : v.t = ByteArray.empty ∧ 0 ≤ v.s ∧ v.s ≤ 6 := by
  unfold cls at h2
  unfold valOk at h
  by_cases k0 : v.k = 0
  · rw [if_neg (by omega)] at h2; omega
  by_cases k1 : v.k = 1
  · rw [if_neg (by omega)] at h2; omega
  rw [if_neg k0, if_neg k1] at h
  by_cases k2 : v.k = 2
  · rw [if_pos k2] at h
    simp only [Bool.and_eq_true, decide_eq_true_eq] at h
    exact ⟨h.2, by omega, by omega⟩
  rw [if_neg k2] at h
  by_cases k3 : v.k = 3
  · rw [if_pos k3] at h
    simp only [Bool.and_eq_true, decide_eq_true_eq] at h
    exact ⟨h.1, (scale_le h.2).1, (scale_le h.2).2⟩
  · rw [if_neg k3] at h2; omega
theorem plV_of {v : ValS} (h : valOk v = true) : plV v = v := if_pos h
end Go.Proofs.YtjgdlocgoiinbaaGreatDoor
namespace Go.Proofs.YtjgdlocgoiinbaaGreatDoor
set_option linter.unusedVariables false
set_option linter.unusedSimpArgs false
open Go.Lib
def isDig (c : UInt8) : Bool := decide (48 ≤ c.toNat) && decide (c.toNat ≤ 57)
theorem isDig_iff {c : UInt8} : isDig c = true ↔ 48 ≤ c.toNat ∧ c.toNat ≤ 57 := by
  unfold isDig
  rw [Bool.and_eq_true, decide_eq_true_eq, decide_eq_true_eq]
def AllDig (l : List UInt8) : Prop := ∀ c ∈ l, isDig c = true
def dgs (l : List UInt8) : List Nat := (l.map fun c => c.toNat - 48).reverse
def nval (l : List UInt8) : Nat := valL (dgs l)
theorem dgs_app (a b : List UInt8) : dgs (a ++ b) = dgs b ++ dgs a := by simp [dgs]
theorem dgs_len (l : List UInt8) : (dgs l).length = l.length := by simp [dgs]
theorem dgs_ok {l : List UInt8} (h : AllDig l) : DigOk (dgs l) := by
  intro d hd
  simp only [dgs, List.mem_reverse, List.mem_map] at hd
  obtain ⟨c, hc, rfl⟩ := hd
  have := isDig_iff.1 (h c hc)
  omega
theorem nval_lt {l : List UInt8} (h : AllDig l) : nval l < 10 ^ l.length := by
  have := valL_lt (dgs_ok h)
  rwa [dgs_len] at this
theorem valL_zeros (j : Nat) : valL (List.replicate j 0) = 0 := by
  induction j with
  | zero => rfl
  | succ j ih => rw [List.replicate_succ, valL, ih]
theorem nval_pad (j : Nat) (l : List UInt8) : nval (List.replicate j 48 ++ l) = nval l := by
  unfold nval
  rw [dgs_app, valL_app]
  have : dgs (List.replicate j 48) = List.replicate j 0 := by simp [dgs]
  rw [this, valL_zeros]; simp
theorem valL_inj : ∀ {a b : List Nat}, DigOk a → DigOk b → a.length = b.length → valL a = valL b → a = b
  | [], [], _, _, _, _ => rfl
  | [], _ :: _, _, _, h, _ => by cases h
  | _ :: _, [], _, _, h, _ => by cases h
  | x :: a, y :: b, ha, hb, hl, hv => by
    have h1 := ha x (List.mem_cons_self ..)
    have h2 := hb y (List.mem_cons_self ..)
    simp only [valL] at hv
    have e1 : x = y := by omega
    have e2 : valL a = valL b := by omega
    rw [e1, valL_inj (fun d hd => ha d (List.mem_cons_of_mem _ hd)) (fun d hd => hb d (List.mem_cons_of_mem _ hd)) (by simpa using hl) e2]
theorem nval_inj {a b : List UInt8} (ha : AllDig a) (hb : AllDig b) (hl : a.length = b.length) (hv : nval a = nval b) : a = b := by
  have h := valL_inj (dgs_ok ha) (dgs_ok hb) (by rw [dgs_len, dgs_len, hl]) hv
  unfold dgs at h
  have h := List.reverse_inj.1 h
  apply List.ext_getElem hl
  intro i h1 h2
  have e : (a.map fun c => c.toNat - 48)[i]'(by simpa using h1) = (b.map fun c => c.toNat - 48)[i]'(by simpa using h2) := by simp only [h]
  simp only [List.getElem_map] at e
  have d1 := isDig_iff.1 (ha a[i] (List.getElem_mem h1))
  have d2 := isDig_iff.1 (hb b[i] (List.getElem_mem h2))
  exact UInt8.toNat_inj.1 (by omega)
theorem dig_char {d : Nat} (h : d < 10) : (UInt8.ofNat (48 + d)).toNat = 48 + d := by
  rw [UInt8.toNat_ofNat']; omega
theorem decDigits_all (m : Nat) : AllDig (decDigits m) := by
  by_cases h : m = 0
  · subst h
    intro c hc
    rw [decDigits, dif_pos (by omega)] at hc
    rw [List.mem_singleton.1 hc]; rfl
  · rw [decDigits_dig m h]
    intro c hc
    obtain ⟨d, hd, rfl⟩ := List.mem_map.1 hc
    have := digL_ok m d (List.mem_reverse.1 hd)
    rw [isDig_iff, dig_char this]; omega
theorem decDigits_val (m : Nat) : nval (decDigits m) = m := by
  by_cases h : m = 0
  · subst h
    rw [decDigits, dif_pos (by omega)]; rfl
  · rw [decDigits_dig m h]
    unfold nval dgs
    rw [List.map_map, List.map_reverse, List.reverse_reverse]
    have : (digL m).map ((fun c : UInt8 => c.toNat - 48) ∘ fun d => UInt8.ofNat (48 + d)) = digL m := by
      conv => rhs; rw [← List.map_id (digL m)]
      apply List.map_congr_left
      intro d hd
      have := dig_char (digL_ok m d hd)
      simp only [Function.comp, id]
      omega
    rw [this, valL_dig]
theorem decDigits_ne (m : Nat) : decDigits m ≠ [] := by
  intro e
  by_cases h : m = 0
  · subst h; rw [decDigits, dif_pos (by omega)] at e; cases e
  · rw [decDigits_dig m h] at e
    have : digL m = [] := by simpa using e
    exact h (digL_nil this)
theorem decDigits_lt (m : Nat) : m < 10 ^ (decDigits m).length := by
  have := nval_lt (decDigits_all m)
  rwa [decDigits_val] at this
theorem decDigits_ge {m : Nat} (h : 1 < (decDigits m).length) : 10 ^ ((decDigits m).length - 1) ≤ m := by
  by_cases h0 : m = 0
  · subst h0; rw [decDigits, dif_pos (by omega)] at h; simp at h
  · have hl : (decDigits m).length = (digL m).length := by rw [decDigits_dig m h0]; simp
    have := valL_ge (digL_canon m) fun e => h0 (digL_nil e)
    rw [valL_dig] at this
    rwa [hl]
theorem decDigits_len {m k : Nat} (h : m < 10 ^ (k + 1)) : (decDigits m).length ≤ k + 1 := by
  by_cases h1 : 1 < (decDigits m).length
  · have h2 := decDigits_ge h1
    have h3 : 10 ^ ((decDigits m).length - 1) < 10 ^ (k + 1) := by omega
    have := (Nat.pow_lt_pow_iff_right (by decide : 1 < 10)).1 h3
    omega
  · omega
def padD (m k : Nat) : List UInt8 := List.replicate (k + 1 - (decDigits m).length) 48 ++ decDigits m
theorem padD_all (m k : Nat) : AllDig (padD m k) := by
  intro c hc
  rcases List.mem_append.1 hc with h | h
  · rw [(List.mem_replicate.1 h).2]; rfl
  · exact decDigits_all m c h
theorem padD_val (m k : Nat) : nval (padD m k) = m := by unfold padD; rw [nval_pad, decDigits_val]
theorem padD_len (m k : Nat) : (padD m k).length = if (decDigits m).length ≤ k + 1 then k + 1 else (decDigits m).length := by
  unfold padD
  rw [List.length_append, List.length_replicate]
  split <;> omega
theorem padD_ge (m k : Nat) : k + 1 ≤ (padD m k).length := by rw [padD_len]; split <;> omega
theorem padD_uniq {w : List UInt8} {k : Nat} (hd : AllDig w) (hl : k + 1 ≤ w.length) (h0 : w.length = k + 1 ∨ w.head? ≠ some 48) : padD (nval w) k = w := by
  have hv := nval_lt hd
  refine nval_inj (padD_all _ _) hd ?_ (padD_val _ _)
  rw [padD_len]
  rcases h0 with h | h
  · rw [h] at hv
    rw [if_pos (decDigits_len hv), h]
  · obtain ⟨c, l, rfl⟩ : ∃ c l, w = c :: l := by
      cases w with
      | nil => simp at hl
      | cons c l => exact ⟨c, l, rfl⟩
    have hc := isDig_iff.1 (hd c (List.mem_cons_self ..))
    have hc8 : ¬ c.toNat = 48 := fun e => h (by simp only [List.head?_cons]; congr 1; exact UInt8.toNat_inj.1 e)
    have hge : 10 ^ l.length ≤ nval (c :: l) := by
      have e : nval (c :: l) = valL (dgs l) + 10 ^ l.length * (c.toNat - 48) := by
        unfold nval
        have : dgs (c :: l) = dgs l ++ [c.toNat - 48] := by simp [dgs]
        rw [this, valL_app, dgs_len]; simp [valL]
      rw [e]
      have : 10 ^ l.length * 1 ≤ 10 ^ l.length * (c.toNat - 48) := Nat.mul_le_mul_left _ (by omega)
      omega
    have h1 := decDigits_lt (nval (c :: l))
    have h2 := (Nat.pow_lt_pow_iff_right (by decide : 1 < 10)).1 (Nat.lt_of_le_of_lt hge h1)
    have h3 := decDigits_len (k := l.length) (m := nval (c :: l)) (by simpa using hv)
    simp only [List.length_cons] at hl ⊢
    split <;> omega
def printM (m k : Nat) : List UInt8 := if k = 0 then padD m 0 else (padD m k).take ((padD m k).length - k) ++ 46 :: (padD m k).drop ((padD m k).length - k)
def printD (n : Int) (k : Nat) : List UInt8 := if n < 0 then 45 :: printM n.natAbs k else printM n.natAbs k
def cutP : List UInt8 → List UInt8 × List UInt8 × Bool
  | [] => ([], [], false)
  | c :: l => if c = 46 then ([], l, true) else (c :: (cutP l).1, (cutP l).2.1, (cutP l).2.2)
def digsOk (l : List UInt8) : Bool := !l.isEmpty && l.all isDig
theorem digsOk_iff {l : List UInt8} : digsOk l = true ↔ l ≠ [] ∧ AllDig l := by
  unfold digsOk AllDig
  simp
theorem cutP_none {l : List UInt8} (h : ∀ c ∈ l, c ≠ 46) : cutP l = (l, [], false) := by
  induction l with
  | nil => rfl
  | cons c l ih => rw [cutP, if_neg (h c (List.mem_cons_self ..)), ih fun x hx => h x (List.mem_cons_of_mem _ hx)]
theorem cutP_some {a : List UInt8} (b : List UInt8) (h : ∀ c ∈ a, c ≠ 46) : cutP (a ++ 46 :: b) = (a, b, true) := by
  induction a with
  | nil => rfl
  | cons c a ih => rw [List.cons_append, cutP, if_neg (h c (List.mem_cons_self ..)), ih fun x hx => h x (List.mem_cons_of_mem _ hx)]
theorem cutP_eq : ∀ l : List UInt8, l = if (cutP l).2.2 = true then (cutP l).1 ++ 46 :: (cutP l).2.1 else (cutP l).1
  | [] => rfl
  | c :: l => by
    have ih := cutP_eq l
    rw [cutP]
    split
    · rename_i h; rw [h]; rfl
    · simp only
      split
      · rename_i h
        rw [if_pos h] at ih
        rw [List.cons_append, ← ih]
      · rename_i h
        rw [if_neg h] at ih
        rw [← ih]
theorem cutP_false : ∀ {l : List UInt8}, (cutP l).2.2 = false → (cutP l).2.1 = []
  | [], _ => rfl
  | c :: l, h => by
    rw [cutP] at h ⊢
    split
    · rename_i e; rw [if_pos e] at h; cases h
    · rename_i e
      rw [if_neg e] at h
      exact cutP_false (l := l) h
def decP (s : List UInt8) : Option (Int × Nat) :=
  let minus : Bool := s.head? == some 45
  let c := cutP (if minus = true then s.tail else s)
  if digsOk c.1 = true ∧ ¬ (1 < c.1.length ∧ c.1.head? = some 48) ∧ (c.2.2 = true → digsOk c.2.1 = true ∧ c.2.1.length ≤ 6) then
    if minus = true then if nval (c.1 ++ c.2.1) = 0 ∨ 9223372036854775808 < nval (c.1 ++ c.2.1) then none else some (-(nval (c.1 ++ c.2.1) : Int), c.2.1.length)
    else if 9223372036854775808 ≤ nval (c.1 ++ c.2.1) then none else some ((nval (c.1 ++ c.2.1) : Int), c.2.1.length)
  else none
theorem dig_ne {c : UInt8} {n : Nat} (h : isDig c = true) (hn : n < 48 ∨ 57 < n) : c.toNat ≠ n := by
  have := isDig_iff.1 h; omega
theorem dig_n46 {l : List UInt8} (h : AllDig l) : ∀ c ∈ l, c ≠ 46 := fun c hc e => dig_ne (n := 46) (h c hc) (by omega) (by rw [e]; rfl)
theorem printM_cut (m k : Nat) (hk : k ≠ 0) : cutP (printM m k) = ((padD m k).take ((padD m k).length - k), (padD m k).drop ((padD m k).length - k), true) := by
  unfold printM
  rw [if_neg hk]
  exact cutP_some _ (dig_n46 fun c hc => padD_all m k c (List.mem_of_mem_take hc))
theorem printM_head (m k : Nat) : ∃ c l, printM m k = c :: l ∧ isDig c = true := by
  have h1 := padD_ge m k
  obtain ⟨c, l, e⟩ : ∃ c l, padD m k = c :: l := by
    cases h : padD m k with
    | nil => rw [h] at h1; simp at h1
    | cons c l => exact ⟨c, l, rfl⟩
  have hc : isDig c = true := padD_all m k c (by rw [e]; exact List.mem_cons_self ..)
  unfold printM
  by_cases hk : k = 0
  · subst hk; rw [if_pos rfl, e]; exact ⟨c, l, rfl, hc⟩
  · rw [if_neg hk, e]
    rw [e] at h1
    obtain ⟨j, hj⟩ : ∃ j, (c :: l).length - k = j + 1 := ⟨(c :: l).length - k - 1, by omega⟩
    rw [hj]
    exact ⟨c, _, rfl, hc⟩
theorem padD_lead (m k : Nat) (h : k + 1 < (padD m k).length) : (padD m k).head? ≠ some 48 := by
  have hl := padD_len m k
  split at hl
  · omega
  · rename_i h1
    have e : padD m k = decDigits m := by
      unfold padD
      rw [show k + 1 - (decDigits m).length = 0 by omega]; rfl
    rw [e]
    intro h2
    obtain ⟨l, h3⟩ : ∃ l, decDigits m = 48 :: l := by
      cases hd : decDigits m with
      | nil => rw [hd] at h2; cases h2
      | cons c l => rw [hd] at h2; simp only [List.head?_cons, Option.some.injEq] at h2; exact ⟨l, by rw [h2]⟩
    have h4 := decDigits_ge (m := m) (by omega)
    have h5 := decDigits_val m
    have h6 : nval (48 :: l) = nval l := nval_pad 1 l
    rw [h3] at h4 h5
    rw [h6] at h5
    have h7 : AllDig l := fun c hc => decDigits_all m c (by rw [h3]; exact List.mem_cons_of_mem _ hc)
    have h8 := nval_lt h7
    simp only [List.length_cons, Nat.add_sub_cancel] at h4
    omega
theorem decP_print {n : Int} {k : Nat} (hk : k ≤ 6) (h1 : -9223372036854775808 ≤ n) (h2 : n ≤ 9223372036854775807) : decP (printD n k) = some (n, k) := by
  have hge := padD_ge n.natAbs k
  have hW : ∀ (W R : List UInt8), W = (padD n.natAbs k).take ((padD n.natAbs k).length - k) → R = (padD n.natAbs k).drop ((padD n.natAbs k).length - k) → digsOk W = true ∧ ¬ (1 < W.length ∧ W.head? = some 48) ∧ AllDig R ∧ R.length = k ∧ nval (W ++ R) = n.natAbs := by
    intro W R hW hR
    have hWl : W.length = (padD n.natAbs k).length - k := by rw [hW, List.length_take]; omega
    refine ⟨digsOk_iff.2 ⟨fun e => by rw [e] at hWl; simp at hWl; omega, fun c hc => padD_all _ _ c (List.mem_of_mem_take (by rw [← hW]; exact hc))⟩, ?_, fun c hc => padD_all _ _ c (List.mem_of_mem_drop (by rw [← hR]; exact hc)), by rw [hR, List.length_drop]; omega, by rw [hW, hR, List.take_append_drop, padD_val]⟩
    rintro ⟨a, b⟩
    refine padD_lead n.natAbs k (by omega) ?_
    rw [hW, List.head?_take] at b
    split at b
    · cases b
    · exact b
  obtain ⟨c, l, hp, hc⟩ := printM_head n.natAbs k
  have hc45 : ¬ c = 45 := fun e => dig_ne (n := 45) hc (by omega) (by rw [e]; rfl)
  have hcut : ∃ W R p, cutP (printM n.natAbs k) = (W, R, p) ∧ digsOk W = true ∧ ¬ (1 < W.length ∧ W.head? = some 48) ∧ (p = true → digsOk R = true ∧ R.length ≤ 6) ∧ R.length = k ∧ nval (W ++ R) = n.natAbs := by
    obtain ⟨w1, w2, w3, w4, w5⟩ := hW _ _ rfl rfl
    by_cases hk0 : k = 0
    · subst hk0
      have e : printM n.natAbs 0 = padD n.natAbs 0 := if_pos rfl
      rw [e, cutP_none (dig_n46 (padD_all _ _))]
      rw [Nat.sub_zero, List.take_length] at w1 w2
      exact ⟨_, _, _, rfl, w1, w2, fun h => (by cases h), rfl, by rw [List.append_nil, padD_val]⟩
    · rw [printM_cut _ _ hk0]
      exact ⟨_, _, _, rfl, w1, w2, fun _ => ⟨digsOk_iff.2 ⟨fun e => by rw [e] at w4; simp at w4; omega, w3⟩, by omega⟩, w4, w5⟩
  obtain ⟨W, R, p, hcut, w1, w2, w3, w4, w5⟩ := hcut
  unfold decP printD
  by_cases hn : n < 0
  · simp only [if_pos hn, List.head?_cons, List.tail_cons, beq_self_eq_true, if_true]
    rw [hcut]
    simp only
    rw [if_pos ⟨w1, w2, w3⟩, w5, if_neg (by omega), w4]
    congr 2; omega
  · simp only [if_neg hn]
    rw [hp] at hcut ⊢
    have hh : ((c :: l).head? == some 45) = false := by simp [hc45]
    rw [hh]
    simp only [Bool.false_eq_true, if_false]
    rw [hcut]
    simp only
    rw [if_pos ⟨w1, w2, w3⟩, w5, if_neg (by omega), w4]
    congr 2; omega
theorem printM_of {b : List UInt8} (h1 : digsOk (cutP b).1 = true) (h2 : ¬ (1 < (cutP b).1.length ∧ (cutP b).1.head? = some 48)) (h3 : (cutP b).2.2 = true → digsOk (cutP b).2.1 = true ∧ (cutP b).2.1.length ≤ 6) : printM (nval ((cutP b).1 ++ (cutP b).2.1)) (cutP b).2.1.length = b := by
  have he := cutP_eq b
  have hf := @cutP_false b
  obtain ⟨⟨W, R, p⟩, hc⟩ : ∃ c, c = cutP b := ⟨_, rfl⟩
  rw [← hc] at h1 h2 h3 he hf ⊢
  simp only at h1 h2 h3 he hf ⊢
  obtain ⟨hW, hWd⟩ := digsOk_iff.1 h1
  have hWl : W.length ≠ 0 := fun e => hW (List.eq_nil_of_length_eq_zero e)
  have hh : ∀ R : List UInt8, (W ++ R).head? = W.head? := fun R => by
    cases W with
    | nil => exact absurd rfl hW
    | cons c l => rfl
  cases p with
  | true =>
    obtain ⟨h4, h5⟩ := h3 rfl
    obtain ⟨hR, hRd⟩ := digsOk_iff.1 h4
    have hRl : R.length ≠ 0 := fun e => hR (List.eq_nil_of_length_eq_zero e)
    have hD : AllDig (W ++ R) := fun c hc => (List.mem_append.1 hc).elim (hWd c) (hRd c)
    have hu : padD (nval (W ++ R)) R.length = W ++ R := by
      refine padD_uniq hD (by rw [List.length_append]; omega) ?_
      rw [List.length_append, hh]
      by_cases e : W.length = 1
      · exact .inl (by omega)
      · exact .inr fun h => h2 ⟨by omega, h⟩
    unfold printM
    rw [if_neg hRl, hu, List.length_append, Nat.add_sub_cancel, List.take_left, List.drop_left, he]
    rfl
  | false =>
    obtain rfl := hf rfl
    have hu : padD (nval (W ++ [])) 0 = W := by
      rw [List.append_nil]
      refine padD_uniq hWd (by omega) ?_
      by_cases e : W.length = 1
      · exact .inl (by omega)
      · exact .inr fun h => h2 ⟨by omega, h⟩
    unfold printM
    rw [List.length_nil, if_pos rfl, hu, he]
    rfl
theorem print_decP {s : List UInt8} {n : Int} {k : Nat} (h : decP s = some (n, k)) : k ≤ 6 ∧ -9223372036854775808 ≤ n ∧ n ≤ 9223372036854775807 ∧ printD n k = s := by
  have hk6 : ∀ b : List UInt8, ((cutP b).2.2 = true → digsOk (cutP b).2.1 = true ∧ (cutP b).2.1.length ≤ 6) → (cutP b).2.1.length ≤ 6 := fun b h3 => by
    cases hp : (cutP b).2.2 with
    | true => exact (h3 hp).2
    | false => rw [cutP_false hp]; simp
  unfold decP at h
  cases hm : (s.head? == some 45) with
  | true =>
    obtain ⟨b, rfl⟩ : ∃ b, s = 45 :: b := by
      cases s with
      | nil => cases hm
      | cons c l => exact ⟨l, by simp at hm; rw [hm]⟩
    simp only [hm, if_true, List.tail_cons] at h
    split at h
    · rename_i hc
      obtain ⟨h1, h2, h3⟩ := hc
      split at h
      · cases h
      · rename_i hr
        injection h with h
        injection h with e1 e2
        have hpr := printM_of h1 h2 h3
        have := hk6 b h3
        refine ⟨by omega, by omega, by omega, ?_⟩
        unfold printD
        rw [if_pos (by omega)]
        have e3 : n.natAbs = nval ((cutP b).1 ++ (cutP b).2.1) := by omega
        rw [e3, ← e2, hpr]
    · cases h
  | false =>
    simp only [hm, Bool.false_eq_true, if_false] at h
    split at h
    · rename_i hc
      obtain ⟨h1, h2, h3⟩ := hc
      split at h
      · cases h
      · rename_i hr
        injection h with h
        injection h with e1 e2
        have hpr := printM_of h1 h2 h3
        have := hk6 s h3
        refine ⟨by omega, by omega, by omega, ?_⟩
        unfold printD
        rw [if_neg (by omega)]
        have e3 : n.natAbs = nval ((cutP s).1 ++ (cutP s).2.1) := by omega
        rw [e3, ← e2, hpr]
    · cases h
end Go.Proofs.YtjgdlocgoiinbaaGreatDoor
namespace Go.Proofs.YtjgdlocgoiinbaaGreatDoor
set_option linter.unusedVariables false
set_option linter.unusedSimpArgs false
open Go.RowKit Go.Lib
def dblQ : List UInt8 → List UInt8
  | [] => []
  | c :: l => if c = 39 then 39 :: 39 :: dblQ l else c :: dblQ l
def undbl : List UInt8 → Option (List UInt8)
  | [] => some []
  | [c] => if c = 39 then none else some [c]
  | c :: d :: l => if c = 39 then (if d = 39 then (undbl l).map (39 :: ·) else none) else (undbl (d :: l)).map (c :: ·)
theorem undbl_cons {c : UInt8} (h : c ≠ 39) : ∀ l : List UInt8, undbl (c :: l) = (undbl l).map (c :: ·)
  | [] => by simp [undbl, h]
  | d :: l => by simp [undbl, h]
theorem undbl_dbl : ∀ l : List UInt8, undbl (dblQ l) = some l
  | [] => rfl
  | c :: l => by
    rw [dblQ]
    split
    · rename_i h
      subst h
      simp [undbl, undbl_dbl l]
    · rename_i h
      rw [undbl_cons h, undbl_dbl l]; rfl
theorem dbl_undbl : ∀ {s t : List UInt8}, undbl s = some t → dblQ t = s
  | [], t, h => by simp only [undbl, Option.some.injEq] at h; subst h; rfl
  | [c], t, h => by
    simp only [undbl] at h
    split at h
    · cases h
    · rename_i hc
      injection h with h
      subst h
      simp [dblQ, hc]
  | c :: d :: l, t, h => by
    simp only [undbl] at h
    split at h
    · rename_i hc
      split at h
      · rename_i hd
        obtain ⟨u, hu, rfl⟩ := Option.map_eq_some_iff.1 h
        have := dbl_undbl (s := l) hu
        subst hc hd
        simp [dblQ, this]
      · cases h
    · rename_i hc
      obtain ⟨u, hu, rfl⟩ := Option.map_eq_some_iff.1 h
      have := dbl_undbl (s := d :: l) hu
      simp [dblQ, hc, this]
def hexD (d : Nat) : UInt8 := UInt8.ofNat (if d < 10 then 48 + d else 55 + d)
def hexB : List UInt8 → List UInt8
  | [] => []
  | c :: l => hexD (c.toNat / 16) :: hexD (c.toNat % 16) :: hexB l
def unD (c : UInt8) : Option Nat := if 48 ≤ c.toNat ∧ c.toNat ≤ 57 then some (c.toNat - 48) else if 65 ≤ c.toNat ∧ c.toNat ≤ 70 then some (c.toNat - 55) else none
def unhexL : List UInt8 → Option (List UInt8)
  | [] => some []
  | [_] => none
  | c :: d :: l => (unD c).bind fun x => (unD d).bind fun y => (unhexL l).map (UInt8.ofNat (16 * x + y) :: ·)
theorem unD_hex {d : Nat} (h : d < 16) : unD (hexD d) = some d := by
  unfold unD hexD
  rw [UInt8.toNat_ofNat']
  by_cases h1 : d < 10
  · rw [if_pos h1, if_pos (by omega)]; congr 1; omega
  · rw [if_neg h1, if_neg (by omega), if_pos (by omega)]; congr 1; omega
theorem hex_unD {c : UInt8} {d : Nat} (h : unD c = some d) : hexD d = c ∧ d < 16 := by
  unfold unD at h
  split at h
  · rename_i hc
    injection h with h
    subst h
    refine ⟨?_, by omega⟩
    unfold hexD
    rw [if_pos (by omega), show 48 + (c.toNat - 48) = c.toNat by omega]
    exact UInt8.ofNat_toNat
  · split at h
    · rename_i hc
      injection h with h
      subst h
      refine ⟨?_, by omega⟩
      unfold hexD
      rw [if_neg (by omega), show 55 + (c.toNat - 55) = c.toNat by omega]
      exact UInt8.ofNat_toNat
    · cases h
theorem unhex_hex : ∀ l : List UInt8, unhexL (hexB l) = some l
  | [] => rfl
  | c :: l => by
    have hc : c.toNat < 256 := UInt8.toNat_lt c
    rw [hexB, unhexL, unD_hex (by omega), unD_hex (by omega), unhex_hex l]
    simp only [Option.bind_some, Option.map_some]
    rw [show 16 * (c.toNat / 16) + c.toNat % 16 = c.toNat by omega, UInt8.ofNat_toNat]
theorem hex_unhex : ∀ {s t : List UInt8}, unhexL s = some t → hexB t = s
  | [], t, h => by simp only [unhexL, Option.some.injEq] at h; subst h; rfl
  | [_], t, h => by cases h
  | c :: d :: l, t, h => by
    simp only [unhexL] at h
    obtain ⟨x, hx, h⟩ := Option.bind_eq_some_iff.1 h
    obtain ⟨y, hy, h⟩ := Option.bind_eq_some_iff.1 h
    obtain ⟨u, hu, rfl⟩ := Option.map_eq_some_iff.1 h
    obtain ⟨e1, l1⟩ := hex_unD hx
    obtain ⟨e2, l2⟩ := hex_unD hy
    have e3 := hex_unhex (s := l) hu
    have : (UInt8.ofNat (16 * x + y)).toNat = 16 * x + y := by rw [UInt8.toNat_ofNat']; omega
    rw [hexB, this, show (16 * x + y) / 16 = x by omega, show (16 * x + y) % 16 = y by omega, e1, e2, e3]
def trueB : List UInt8 := [84, 82, 85, 69]
def falseB : List UInt8 := [70, 65, 76, 83, 69]
def nullB : List UInt8 := [78, 85, 76, 76]
def printR (v : ValS) : List UInt8 :=
  if v.k = 1 then (if v.n = 1 then trueB else falseB)
  else if v.k = 2 then printD v.n 0
  else if v.k = 3 then (if v.s = 0 then printD v.n 0 ++ [46] else printD v.n v.s.toNat)
  else if v.k = 4 then 39 :: (dblQ v.t.data.toList ++ [39])
  else if v.k = 5 then 88 :: 39 :: (hexB v.t.data.toList ++ [39])
  else nullB
def baL (l : List UInt8) : ByteArray := ⟨l.toArray⟩
def innerL (s : List UInt8) : Option (List UInt8) := if 2 ≤ s.length ∧ s.head? = some 39 ∧ s.getLast? = some 39 then undbl (s.drop 1).dropLast else none
def okO (v : ValS) : Option ValS := if valOk v = true then some v else none
def parseR (s : List UInt8) : Option ValS :=
  if s = nullB then some vN
  else if s = trueB then some ⟨1, 1, 0, ByteArray.empty⟩
  else if s = falseB then some ⟨1, 0, 0, ByteArray.empty⟩
  else if s = [] then none
  else if s.head? = some 39 then (innerL s).bind fun t => okO ⟨4, 0, 0, baL t⟩
  else if s.head? = some 88 then (innerL s.tail).bind fun h => (unhexL h).bind fun t => okO ⟨5, 0, 0, baL t⟩
  else if s.getLast? = some 46 then (decP s.dropLast).bind fun p => if 0 < p.2 then none else some ⟨3, p.1, 0, ByteArray.empty⟩
  else (decP s).map fun p => if 0 < p.2 then ⟨3, p.1, p.2, ByteArray.empty⟩ else ⟨2, p.1, 0, ByteArray.empty⟩
end Go.Proofs.YtjgdlocgoiinbaaGreatDoor
namespace Go.Proofs.YtjgdlocgoiinbaaGreatDoor
set_option linter.unusedVariables false
set_option linter.unusedSimpArgs false
open Go.RowKit Go.Lib
theorem printD_head (n : Int) (k : Nat) : ∃ c l, printD n k = c :: l ∧ (c = 45 ∨ isDig c = true) := by
  obtain ⟨c, l, h, hc⟩ := printM_head n.natAbs k
  unfold printD
  split
  · exact ⟨45, _, rfl, .inl rfl⟩
  · exact ⟨c, l, h, .inr hc⟩
theorem last_of {l : List UInt8} (h : l ≠ []) : ∃ c, l.getLast? = some c ∧ c ∈ l := by
  refine ⟨l.getLast h, List.getLast?_eq_some_getLast h, List.getLast_mem h⟩
theorem printM_last {m k : Nat} : ∃ c, (printM m k).getLast? = some c ∧ isDig c = true := by
  have hge := padD_ge m k
  unfold printM
  by_cases hk : k = 0
  · subst hk
    rw [if_pos rfl]
    obtain ⟨c, h1, h2⟩ := last_of (l := padD m 0) (fun e => by rw [e] at hge; simp at hge)
    exact ⟨c, h1, padD_all _ _ c h2⟩
  · rw [if_neg hk]
    have hne : (padD m k).drop ((padD m k).length - k) ≠ [] := fun e => by
      have := congrArg List.length e
      rw [List.length_drop] at this
      simp at this
      omega
    obtain ⟨c, h1, h2⟩ := last_of hne
    refine ⟨c, ?_, padD_all _ _ c (List.mem_of_mem_drop h2)⟩
    rw [List.getLast?_append, List.getLast?_cons_of_ne_nil hne, h1]; rfl
theorem printD_last (n : Int) (k : Nat) : ∃ c, (printD n k).getLast? = some c ∧ isDig c = true := by
  obtain ⟨c, h, hc⟩ := printM_last (m := n.natAbs) (k := k)
  unfold printD
  split
  · have hne : printM n.natAbs k ≠ [] := fun e => by rw [e] at h; cases h
    exact ⟨c, by rw [List.getLast?_cons_of_ne_nil hne]; exact h, hc⟩
  · exact ⟨c, h, hc⟩
theorem undbl_plain : ∀ {l : List UInt8}, (∀ c ∈ l, c ≠ 39) → undbl l = some l
  | [], _ => rfl
  | c :: l, h => by rw [undbl_cons (h c (List.mem_cons_self ..)), undbl_plain fun x hx => h x (List.mem_cons_of_mem _ hx)]; rfl
theorem hexD_ne {d : Nat} (h : d < 16) : hexD d ≠ 39 := fun e => by
  have := congrArg UInt8.toNat e
  unfold hexD at this
  rw [UInt8.toNat_ofNat', show (39 : UInt8).toNat = 39 from rfl] at this
  split at this <;> omega
theorem hexB_ne : ∀ (l : List UInt8), ∀ c ∈ hexB l, c ≠ 39
  | [], c, h => by cases h
  | x :: l, c, h => by
    have hx : x.toNat < 256 := UInt8.toNat_lt x
    rw [hexB] at h
    rcases List.mem_cons.1 h with rfl | h
    · exact hexD_ne (by omega)
    · rcases List.mem_cons.1 h with rfl | h
      · exact hexD_ne (by omega)
      · exact hexB_ne l c h
theorem inner_of (l : List UInt8) : innerL (39 :: (l ++ [39])) = undbl l := by
  unfold innerL
  have h1 : 2 ≤ (39 :: (l ++ [39]) : List UInt8).length := by simp only [List.length_cons, List.length_append, List.length_nil]; omega
  have h2 : (39 :: (l ++ [39]) : List UInt8).getLast? = some 39 := by
    rw [List.getLast?_cons_of_ne_nil (by simp)]
    exact List.getLast?_concat
  rw [if_pos ⟨h1, rfl, h2⟩]
  show undbl (l ++ [39]).dropLast = undbl l
  rw [List.dropLast_concat]
theorem of_inner {s t : List UInt8} (h : innerL s = some t) : s = 39 :: (dblQ t ++ [39]) := by
  unfold innerL at h
  split at h
  · rename_i hc
    obtain ⟨h1, h2, h3⟩ := hc
    obtain ⟨c, l, rfl⟩ : ∃ c l, s = c :: l := by
      cases s with
      | nil => cases h2
      | cons c l => exact ⟨c, l, rfl⟩
    simp only [List.head?_cons, Option.some.injEq] at h2
    subst h2
    have hne : l ≠ [] := fun e => by rw [e] at h1; simp at h1
    rw [List.getLast?_cons_of_ne_nil hne] at h3
    have hl : l = l.dropLast ++ [39] := by
      have h4 := List.dropLast_concat_getLast hne
      rw [List.getLast?_eq_some_getLast hne] at h3
      injection h3 with h3
      rw [h3] at h4
      exact h4.symm
    have := dbl_undbl h
    simp only [List.drop_succ_cons, List.drop_zero] at this
    rw [this, ← hl]
  · cases h
theorem ba_toL (s : ByteArray) : baL s.data.toList = s := rfl
theorem toL_ba (l : List UInt8) : (baL l).data.toList = l := rfl
theorem okO_some {v w : ValS} (h : okO v = some w) : v = w ∧ valOk v = true := by
  unfold okO at h
  split at h
  · rename_i hv
    injection h with h
    exact ⟨h, hv⟩
  · cases h
theorem head_ne {c : UInt8} {l r : List UInt8} (h : c :: l = r) (d : UInt8) (hd : c ≠ d) (hr : r.head? = some d) : False := by
  rw [← h] at hr
  simp at hr
  exact hd hr
theorem dig_or_ne {c d : UInt8} (h : c = 45 ∨ isDig c = true) (h1 : d ≠ 45) (h2 : isDig d = false) : c ≠ d := fun e => by
  subst e
  rcases h with h | h
  · exact h1 h
  · rw [h] at h2; cases h2
theorem parseR_num {c : UInt8} {l : List UInt8} (h : c = 45 ∨ isDig c = true) : parseR (c :: l) = if (c :: l).getLast? = some 46 then (decP (c :: l).dropLast).bind fun p => if 0 < p.2 then none else some ⟨3, p.1, 0, ByteArray.empty⟩ else (decP (c :: l)).map fun p => if 0 < p.2 then ⟨3, p.1, p.2, ByteArray.empty⟩ else ⟨2, p.1, 0, ByteArray.empty⟩ := by
  have n1 := dig_or_ne (d := 78) h (by decide) (by decide)
  have n2 := dig_or_ne (d := 84) h (by decide) (by decide)
  have n3 := dig_or_ne (d := 70) h (by decide) (by decide)
  have n4 := dig_or_ne (d := 39) h (by decide) (by decide)
  have n5 := dig_or_ne (d := 88) h (by decide) (by decide)
  unfold parseR
  rw [if_neg (fun e => head_ne e 78 n1 rfl), if_neg (fun e => head_ne e 84 n2 rfl), if_neg (fun e => head_ne e 70 n3 rfl), if_neg (by simp), if_neg (by simp [n4]), if_neg (by simp [n5])]
theorem dig46 {c : UInt8} (h : isDig c = true) : c ≠ 46 := fun e => by subst e; cases h
theorem parse_print {v : ValS} (hv : valOk v = true) (h1 : -9223372036854775808 ≤ v.n) (h2 : v.n ≤ 9223372036854775807) : parseR (printR v) = some v := by
  obtain ⟨k, n, s, t⟩ := v
  simp only at h1 h2
  have hv0 := hv
  unfold valOk at hv
  simp only at hv
  unfold printR
  simp only
  by_cases k0 : k = 0
  · rw [if_pos k0] at hv
    simp only [Bool.and_eq_true, decide_eq_true_eq] at hv
    obtain ⟨⟨rfl, rfl⟩, rfl⟩ := hv
    subst k0
    rfl
  rw [if_neg k0] at hv
  by_cases k1 : k = 1
  · rw [if_pos k1] at hv
    simp only [Bool.and_eq_true, Bool.or_eq_true, decide_eq_true_eq] at hv
    obtain ⟨⟨hn, rfl⟩, rfl⟩ := hv
    subst k1
    rcases hn with rfl | rfl
    · rfl
    · rfl
  rw [if_neg k1] at hv ⊢
  by_cases k2 : k = 2
  · rw [if_pos k2] at hv
    simp only [Bool.and_eq_true, decide_eq_true_eq] at hv
    obtain ⟨rfl, rfl⟩ := hv
    subst k2
    rw [if_pos rfl]
    obtain ⟨c, l, e, hc⟩ := printD_head n 0
    obtain ⟨d, hd, hdd⟩ := printD_last n 0
    rw [e, parseR_num hc, ← e, if_neg (by rw [hd]; simp [dig46 hdd]), decP_print (by decide) h1 h2]
    rfl
  rw [if_neg k2] at hv ⊢
  by_cases k3 : k = 3
  · rw [if_pos k3] at hv
    simp only [Bool.and_eq_true, decide_eq_true_eq] at hv
    obtain ⟨rfl, hs⟩ := hv
    obtain ⟨s0, s6⟩ := scale_le hs
    subst k3
    rw [if_pos rfl]
    by_cases hz : s = 0
    · subst hz
      rw [if_pos rfl]
      obtain ⟨c, l, e, hc⟩ := printD_head n 0
      rw [e, List.cons_append, parseR_num hc, ← List.cons_append, ← e, if_pos (by simp), List.dropLast_concat, decP_print (by decide) h1 h2]
      rfl
    · rw [if_neg hz]
      obtain ⟨c, l, e, hc⟩ := printD_head n s.toNat
      obtain ⟨d, hd, hdd⟩ := printD_last n s.toNat
      rw [e, parseR_num hc, ← e, if_neg (by rw [hd]; simp [dig46 hdd]), decP_print (by omega) h1 h2]
      simp only [Option.map_some]
      rw [if_pos (by omega)]
      congr 2; omega
  rw [if_neg k3] at hv ⊢
  by_cases k4 : k = 4
  · rw [if_pos k4] at hv
    simp only [Bool.and_eq_true, decide_eq_true_eq] at hv
    obtain ⟨⟨⟨rfl, rfl⟩, _⟩, _⟩ := hv
    subst k4
    rw [if_pos rfl]
    unfold parseR
    rw [if_neg (fun e => head_ne e 78 (by decide) rfl), if_neg (fun e => head_ne e 84 (by decide) rfl), if_neg (fun e => head_ne e 70 (by decide) rfl), if_neg (by simp), if_pos (show (39 :: (dblQ t.data.toList ++ [39])).head? = some 39 from rfl), inner_of, undbl_dbl]
    simp only [Option.bind_some, ba_toL]
    unfold okO
    rw [if_pos hv0]
  rw [if_neg k4] at hv ⊢
  by_cases k5 : k = 5
  · rw [if_pos k5] at hv
    simp only [Bool.and_eq_true, decide_eq_true_eq] at hv
    obtain ⟨⟨rfl, rfl⟩, _⟩ := hv
    subst k5
    rw [if_pos rfl]
    unfold parseR
    rw [if_neg (fun e => head_ne e 78 (by decide) rfl), if_neg (fun e => head_ne e 84 (by decide) rfl), if_neg (fun e => head_ne e 70 (by decide) rfl), if_neg (by simp), if_neg (by simp), if_pos (show (88 :: 39 :: (hexB t.data.toList ++ [39])).head? = some 88 from rfl), List.tail_cons, inner_of, undbl_plain (hexB_ne _)]
    simp only [Option.bind_some, unhex_hex, ba_toL]
    unfold okO
    rw [if_pos hv0]
  rw [if_neg k5] at hv
  cases hv
theorem decP_i {s : List UInt8} {p : Int × Nat} (h : decP s = some p) : p.2 ≤ 6 ∧ -9223372036854775808 ≤ p.1 ∧ p.1 ≤ 9223372036854775807 ∧ printD p.1 p.2 = s := print_decP h
theorem print_parse {s : List UInt8} {v : ValS} (h : parseR s = some v) : valOk v = true ∧ (-9223372036854775808 ≤ v.n ∧ v.n ≤ 9223372036854775807) ∧ printR v = s := by
  unfold parseR at h
  split at h
  · rename_i e
    injection h with h; subst h
    exact ⟨rfl, ⟨by decide, by decide⟩, e.symm⟩
  split at h
  · rename_i e
    injection h with h; subst h
    exact ⟨rfl, ⟨by decide, by decide⟩, e.symm⟩
  split at h
  · rename_i e
    injection h with h; subst h
    exact ⟨rfl, ⟨by decide, by decide⟩, e.symm⟩
  split at h
  · cases h
  split at h
  · obtain ⟨t, h1, h2⟩ := Option.bind_eq_some_iff.1 h
    obtain ⟨rfl, hv⟩ := okO_some h2
    exact ⟨hv, ⟨by simp only; decide, by simp only; decide⟩, (of_inner h1).symm⟩
  split at h
  · rename_i h88
    obtain ⟨q, h1, h2⟩ := Option.bind_eq_some_iff.1 h
    obtain ⟨t, h3, h4⟩ := Option.bind_eq_some_iff.1 h2
    obtain ⟨rfl, hv⟩ := okO_some h4
    refine ⟨hv, ⟨by simp only; decide, by simp only; decide⟩, ?_⟩
    have e1 := of_inner h1
    have e2 := hex_unhex h3
    obtain ⟨c, l, rfl⟩ : ∃ c l, s = c :: l := by
      cases s with
      | nil => cases h88
      | cons c l => exact ⟨c, l, rfl⟩
    simp only [List.head?_cons, Option.some.injEq] at h88
    subst h88
    simp only [List.tail_cons] at e1
    rw [e1]
    have e3 : dblQ q = q := by
      rw [← e2]
      have := undbl_plain (hexB_ne t)
      exact dbl_undbl this
    rw [e3, ← e2]
    rfl
  split at h
  · rename_i h46
    obtain ⟨p, h1, h2⟩ := Option.bind_eq_some_iff.1 h
    obtain ⟨a1, a2, a3, a4⟩ := decP_i h1
    split at h2
    · cases h2
    · rename_i hp
      injection h2 with h2; subst h2
      have hp0 : p.2 = 0 := by omega
      rw [hp0] at a4
      refine ⟨rfl, ⟨a2, a3⟩, ?_⟩
      have hne : s ≠ [] := fun e => by rw [e] at h46; cases h46
      have h4 := List.dropLast_concat_getLast hne
      rw [List.getLast?_eq_some_getLast hne] at h46
      injection h46 with h46
      rw [h46] at h4
      show printD p.1 0 ++ [46] = s
      rw [a4, h4]
  · obtain ⟨p, h1, h2⟩ := Option.map_eq_some_iff.1 h
    obtain ⟨a1, a2, a3, a4⟩ := decP_i h1
    split at h2
    · rename_i hp
      subst h2
      refine ⟨?_, ⟨a2, a3⟩, ?_⟩
      · show (decide (ByteArray.empty = ByteArray.empty) && scaleOk p.2) = true
        unfold scaleOk
        simp only [Bool.and_eq_true, decide_eq_true_eq]
        exact ⟨trivial, by omega, by omega⟩
      · show (if (p.2 : Int) = 0 then printD p.1 0 ++ [46] else printD p.1 (p.2 : Int).toNat) = s
        rw [if_neg (by omega), Int.toNat_natCast, a4]
    · rename_i hp
      have hp0 : p.2 = 0 := by omega
      rw [hp0] at a4
      subst h2
      exact ⟨rfl, ⟨a2, a3⟩, a4⟩
end Go.Proofs.YtjgdlocgoiinbaaGreatDoor
namespace Go.Proofs.YtjgdlocgoiinbaaGreatDoor
set_option linter.unusedVariables false
set_option linter.unusedSimpArgs false
open Go.RowKit Go.Lib
def rAll (old new s : List UInt8) : List UInt8 := replaceK old new (count s old) s
theorem replaceAll_r {old new : List UInt8} (h : old ≠ new) (s : List UInt8) : replaceAll s old new = rAll old new s := by
  unfold replaceAll replace rAll replaceNum
  rw [if_neg (by simpa using h), if_pos (.inl (by decide))]
theorem index_nil {old : List UInt8} (h : old ≠ []) : index [] old = -1 := by
  unfold index
  rw [if_neg (by simpa using h)]
theorem rAll_nil {old new : List UInt8} (h : old ≠ []) : rAll old new [] = [] := by
  unfold rAll
  rw [count_miss (index_nil h)]; rfl
theorem rAll_hit {old new s : List UInt8} (h : old ≠ []) (hp : old.isPrefixOf s = true) : rAll old new s = new ++ rAll old new (s.drop old.length) := by
  have hi : index s old = 0 := by
    cases s with
    | nil => cases old with
      | nil => exact absurd rfl h
      | cons c l => simp at hp
    | cons c l => unfold index; rw [if_pos hp]
  have hi' : index s old = ((0 : Nat) : Int) := hi
  unfold rAll
  rw [count_hit h hi', Nat.add_comm, replaceK_hit old new _ s 0 hi']
  simp
theorem rAll_skip {old new : List UInt8} {c : UInt8} {s : List UInt8} (h : old ≠ []) (hp : old.isPrefixOf (c :: s) = false) : rAll old new (c :: s) = c :: rAll old new s := by
  have hx : index (c :: s) old = if index s old == -1 then -1 else index s old + 1 := by
    rw [index, if_neg (by rw [hp]; decide)]
  have hge := index_ge s old
  unfold rAll
  by_cases hm : index s old = -1
  · have e : index (c :: s) old = -1 := by rw [hx, hm]; rfl
    rw [count_miss hm, count_miss e]; rfl
  · obtain ⟨i, hi⟩ : ∃ i : Nat, index s old = i := ⟨(index s old).toNat, by omega⟩
    have e : index (c :: s) old = ((i + 1 : Nat) : Int) := by
      rw [hx, if_neg (by simpa using hm), hi]; rfl
    have hc : count (c :: s) old = count s old := by
      rw [count_hit h e, count_hit h hi, show i + 1 + old.length = (i + old.length) + 1 by omega, List.drop_succ_cons]
    rw [hc, count_hit h hi, Nat.add_comm, replaceK_hit old new _ _ _ e, replaceK_hit old new _ _ _ hi, show i + 1 + old.length = (i + old.length) + 1 by omega, List.drop_succ_cons]
    rfl
theorem replace_dbl (t : List UInt8) : replaceAll t [39] [39, 39] = dblQ t := by
  rw [replaceAll_r (by decide)]
  induction t with
  | nil => exact rAll_nil (by decide)
  | cons c t ih =>
    rw [dblQ]
    by_cases hc : c = 39
    · subst hc
      rw [if_pos rfl, rAll_hit (by decide) (by simp [List.isPrefixOf])]
      simp [ih]
    · rw [if_neg hc, rAll_skip (by decide) (by simp [List.isPrefixOf]; exact fun e => hc e.symm), ih]
theorem replace_und (t : List UInt8) : replaceAll (dblQ t) [39, 39] [39] = t := by
  rw [replaceAll_r (by decide)]
  induction t with
  | nil => exact rAll_nil (by decide)
  | cons c t ih =>
    rw [dblQ]
    by_cases hc : c = 39
    · subst hc
      rw [if_pos rfl, rAll_hit (by decide) (by simp [List.isPrefixOf])]
      simp [ih]
    · rw [if_neg hc, rAll_skip (by decide) (by simp [List.isPrefixOf]; exact fun e => absurd e.symm hc), ih]
theorem count_dbl (t : List UInt8) : (dblQ t).count 39 = 2 * t.count 39 := by
  induction t with
  | nil => rfl
  | cons c t ih =>
    rw [dblQ]
    by_cases hc : c = 39
    · subst hc
      rw [if_pos rfl]
      simp only [List.count_cons_self, ih]; omega
    · rw [if_neg hc, List.count_cons_of_ne hc, List.count_cons_of_ne hc, ih]
def quotedP (s : List UInt8) : List UInt8 × Bool :=
  if s.length < 2 ∨ s.head? ≠ some 39 ∨ s.getLast? ≠ some 39 then ([], false)
  else (replaceAll (s.drop 1).dropLast [39, 39] [39], decide (((s.drop 1).dropLast.count 39) = 2 * ((replaceAll (s.drop 1).dropLast [39, 39] [39]).count 39)))
theorem quoted_of (t : List UInt8) : quotedP (39 :: (dblQ t ++ [39])) = (t, true) := by
  have h1 : ¬ (39 :: (dblQ t ++ [39]) : List UInt8).length < 2 := by simp only [List.length_cons, List.length_append, List.length_nil]; omega
  have h2 : (39 :: (dblQ t ++ [39]) : List UInt8).getLast? = some 39 := by
    rw [List.getLast?_cons_of_ne_nil (by simp)]
    exact List.getLast?_concat
  have h3 : ((39 :: (dblQ t ++ [39]) : List UInt8).drop 1).dropLast = dblQ t := by
    show (dblQ t ++ [39]).dropLast = _
    rw [List.dropLast_concat]
  unfold quotedP
  rw [if_neg (fun h => by rcases h with h | h | h; exact h1 h; exact h rfl; exact h h2), h3, replace_und, count_dbl]
  simp
theorem quoted_no {s : List UInt8} {c : UInt8} {l : List UInt8} (h : s = c :: l) (hc : c ≠ 39) : quotedP s = ([], false) := by
  unfold quotedP
  rw [if_pos (.inr (.inl (by rw [h]; simpa using hc)))]
def numP (s : List UInt8) : ValS := match decP s with
  | none => vN
  | some p => if 0 < p.2 then ⟨3, p.1, p.2, ByteArray.empty⟩ else ⟨2, p.1, 0, ByteArray.empty⟩
def candP (s : List UInt8) : ValS :=
  if s = trueB then ⟨1, 1, 0, ByteArray.empty⟩
  else if s = falseB then ⟨1, 0, 0, ByteArray.empty⟩
  else if s.head? = some 88 ∧ (quotedP s.tail).2 = true then ⟨5, 0, 0, baL ((unhexL (quotedP s.tail).1).getD [])⟩
  else if (quotedP s).2 = true then ⟨4, 0, 0, baL (quotedP s).1⟩
  else if s.getLast? = some 46 then ⟨3, ((decP s.dropLast).map Prod.fst).getD 0, 0, ByteArray.empty⟩
  else numP s
theorem dblQ_plain : ∀ {l : List UInt8}, (∀ c ∈ l, c ≠ 39) → dblQ l = l
  | [], _ => rfl
  | c :: l, h => by rw [dblQ, if_neg (h c (List.mem_cons_self ..)), dblQ_plain fun x hx => h x (List.mem_cons_of_mem _ hx)]
theorem candP_num {c : UInt8} {l : List UInt8} (h : c = 45 ∨ isDig c = true) : candP (c :: l) = if (c :: l).getLast? = some 46 then ⟨3, ((decP (c :: l).dropLast).map Prod.fst).getD 0, 0, ByteArray.empty⟩ else numP (c :: l) := by
  have n2 := dig_or_ne (d := 84) h (by decide) (by decide)
  have n3 := dig_or_ne (d := 70) h (by decide) (by decide)
  have n4 := dig_or_ne (d := 39) h (by decide) (by decide)
  have n5 := dig_or_ne (d := 88) h (by decide) (by decide)
  unfold candP
  rw [if_neg (fun e => head_ne e 84 n2 rfl), if_neg (fun e => head_ne e 70 n3 rfl), if_neg (fun e => by have := e.1; simp [n5] at this), quoted_no rfl n4, if_neg (by simp)]
theorem cand_print {v : ValS} (hv : valOk v = true) (h1 : -9223372036854775808 ≤ v.n) (h2 : v.n ≤ 9223372036854775807) : candP (printR v) = v := by
  obtain ⟨k, n, s, t⟩ := v
  simp only at h1 h2
  unfold valOk at hv
  simp only at hv
  unfold printR
  simp only
  by_cases k0 : k = 0
  · rw [if_pos k0] at hv
    simp only [Bool.and_eq_true, decide_eq_true_eq] at hv
    obtain ⟨⟨rfl, rfl⟩, rfl⟩ := hv
    subst k0
    rfl
  rw [if_neg k0] at hv
  by_cases k1 : k = 1
  · rw [if_pos k1] at hv
    simp only [Bool.and_eq_true, Bool.or_eq_true, decide_eq_true_eq] at hv
    obtain ⟨⟨hn, rfl⟩, rfl⟩ := hv
    subst k1
    rcases hn with rfl | rfl
    · rfl
    · rfl
  rw [if_neg k1] at hv ⊢
  by_cases k2 : k = 2
  · rw [if_pos k2] at hv
    simp only [Bool.and_eq_true, decide_eq_true_eq] at hv
    obtain ⟨rfl, rfl⟩ := hv
    subst k2
    rw [if_pos rfl]
    obtain ⟨c, l, e, hc⟩ := printD_head n 0
    obtain ⟨d, hd, hdd⟩ := printD_last n 0
    rw [e, candP_num hc, ← e, if_neg (by rw [hd]; simp [dig46 hdd])]
    unfold numP
    rw [decP_print (by decide) h1 h2]
    rfl
  rw [if_neg k2] at hv ⊢
  by_cases k3 : k = 3
  · rw [if_pos k3] at hv
    simp only [Bool.and_eq_true, decide_eq_true_eq] at hv
    obtain ⟨rfl, hs⟩ := hv
    obtain ⟨s0, s6⟩ := scale_le hs
    subst k3
    rw [if_pos rfl]
    by_cases hz : s = 0
    · subst hz
      rw [if_pos rfl]
      obtain ⟨c, l, e, hc⟩ := printD_head n 0
      rw [e, List.cons_append, candP_num hc, ← List.cons_append, ← e, if_pos (by simp), List.dropLast_concat, decP_print (by decide) h1 h2]
      rfl
    · rw [if_neg hz]
      obtain ⟨c, l, e, hc⟩ := printD_head n s.toNat
      obtain ⟨d, hd, hdd⟩ := printD_last n s.toNat
      rw [e, candP_num hc, ← e, if_neg (by rw [hd]; simp [dig46 hdd])]
      unfold numP
      rw [decP_print (by omega) h1 h2]
      simp only
      rw [if_pos (by omega)]
      congr 1; omega
  rw [if_neg k3] at hv ⊢
  by_cases k4 : k = 4
  · rw [if_pos k4] at hv
    simp only [Bool.and_eq_true, decide_eq_true_eq] at hv
    obtain ⟨⟨⟨rfl, rfl⟩, _⟩, _⟩ := hv
    subst k4
    rw [if_pos rfl]
    unfold candP
    rw [if_neg (fun e => head_ne e 84 (by decide) rfl), if_neg (fun e => head_ne e 70 (by decide) rfl), if_neg (fun e => by have := e.1; simp at this), quoted_of, if_pos rfl]
    rfl
  rw [if_neg k4] at hv ⊢
  by_cases k5 : k = 5
  · rw [if_pos k5] at hv
    simp only [Bool.and_eq_true, decide_eq_true_eq] at hv
    obtain ⟨⟨rfl, rfl⟩, _⟩ := hv
    subst k5
    rw [if_pos rfl]
    unfold candP
    have hq : quotedP (88 :: 39 :: (hexB t.data.toList ++ [39]) : List UInt8).tail = (hexB t.data.toList, true) := by
      rw [List.tail_cons]
      have := quoted_of (hexB t.data.toList)
      rwa [dblQ_plain (hexB_ne _)] at this
    rw [if_neg (fun e => head_ne e 84 (by decide) rfl), if_neg (fun e => head_ne e 70 (by decide) rfl), hq, if_pos ⟨rfl, rfl⟩, unhex_hex]
    rfl
  rw [if_neg k5] at hv
  cases hv
theorem numP_i (s : List UInt8) : -9223372036854775808 ≤ (numP s).n ∧ (numP s).n ≤ 9223372036854775807 := by
  unfold numP
  cases h : decP s with
  | none => exact ⟨by decide, by decide⟩
  | some p =>
    have := decP_i h
    simp only
    split <;> exact ⟨this.2.1, this.2.2.1⟩
theorem candP_i (s : List UInt8) : -9223372036854775808 ≤ (candP s).n ∧ (candP s).n ≤ 9223372036854775807 := by
  unfold candP
  split
  · exact ⟨by decide, by decide⟩
  split
  · exact ⟨by decide, by decide⟩
  split
  · exact ⟨by simp only; decide, by simp only; decide⟩
  split
  · exact ⟨by simp only; decide, by simp only; decide⟩
  split
  · cases h : decP s.dropLast with
    | none => exact ⟨by decide, by decide⟩
    | some p => have := decP_i h; exact ⟨this.2.1, this.2.2.1⟩
  · exact numP_i s
theorem prog_parse (s : List UInt8) : (if valOk (candP s) = true ∧ printR (candP s) = s then some (candP s) else none) = parseR s := by
  obtain ⟨i1, i2⟩ := candP_i s
  cases h : parseR s with
  | some w =>
    obtain ⟨h1, h2, h3⟩ := print_parse h
    have hc := cand_print h1 h2.1 h2.2
    rw [h3] at hc
    rw [hc, if_pos ⟨h1, h3⟩]
  | none =>
    split
    · rename_i hc
      have := parse_print hc.1 i1 i2
      rw [hc.2, h] at this
      cases this
    · rfl
end Go.Proofs.YtjgdlocgoiinbaaGreatDoor
namespace Go.Proofs.YtjgdlocgoiinbaaGreatDoor
set_option linter.unusedVariables false
set_option linter.unusedSimpArgs false
open Go.Lib
def decB (minus : Bool) (c : List UInt8 × List UInt8 × Bool) : Option (Int × Nat) :=
  if digsOk c.1 = true ∧ ¬ (1 < c.1.length ∧ c.1.head? = some 48) ∧ (c.2.2 = true → digsOk c.2.1 = true ∧ c.2.1.length ≤ 6) then
    if minus = true then if nval (c.1 ++ c.2.1) = 0 ∨ 9223372036854775808 < nval (c.1 ++ c.2.1) then none else some (-(nval (c.1 ++ c.2.1) : Int), c.2.1.length)
    else if 9223372036854775808 ≤ nval (c.1 ++ c.2.1) then none else some ((nval (c.1 ++ c.2.1) : Int), c.2.1.length)
  else none
def minB (s : List UInt8) : Bool := s.head? == some 45
def bodyB (s : List UInt8) : List UInt8 := if minB s = true then s.tail else s
theorem decP_eq (s : List UInt8) : decP s = decB (minB s) (cutP (bodyB s)) := rfl
theorem digsOk_bad {l : List UInt8} {c : UInt8} (h : c ∈ l) (hc : isDig c = false) : digsOk l = false := by
  cases e : digsOk l with
  | false => rfl
  | true => have := (digsOk_iff.1 e).2 c h; rw [hc] at this; cases this
theorem decB_w {m : Bool} {c : List UInt8 × List UInt8 × Bool} (h : digsOk c.1 = false) : decB m c = none := by
  unfold decB
  exact if_neg fun e => by rw [h] at e; cases e.1
theorem decB_r {m : Bool} {c : List UInt8 × List UInt8 × Bool} (hp : c.2.2 = true) (h : digsOk c.2.1 = false) : decB m c = none := by
  unfold decB
  exact if_neg fun e => by have := (e.2.2 hp).1; rw [h] at this; cases this
theorem bad_whole {m : Bool} {pre post : List UInt8} {c : UInt8} (hp : AllDig pre) (hc : isDig c = false) (h : c ≠ 46 ∨ pre = []) : decB m (cutP (pre ++ c :: post)) = none := by
  apply decB_w
  by_cases e : c = 46
  · subst e
    rw [cutP_some post (dig_n46 hp)]
    rcases h with h | h
    · exact absurd rfl h
    · subst h; rfl
  · have he : (cutP (pre ++ c :: post)).1 = pre ++ (cutP (c :: post)).1 := by
      clear h hc
      induction pre with
      | nil => rfl
      | cons x pre ih =>
        have hx : x ≠ 46 := dig_n46 hp x (List.mem_cons_self ..)
        rw [List.cons_append, cutP, if_neg hx, List.cons_append, ih fun y hy => hp y (List.mem_cons_of_mem _ hy)]
    rw [he, cutP, if_neg e]
    exact digsOk_bad (c := c) (List.mem_append_right _ (List.mem_cons_self ..)) hc
theorem bad_rest {m : Bool} {w r post : List UInt8} {c : UInt8} (hw : AllDig w) (hc : isDig c = false) : decB m (cutP (w ++ 46 :: (r ++ c :: post))) = none := by
  rw [cutP_some _ (dig_n46 hw)]
  exact decB_r rfl (digsOk_bad (c := c) (List.mem_append_right _ (List.mem_cons_self ..)) hc)
def trimL (l : List Nat) : List Nat := (l.reverse.dropWhile fun d => decide (d = 0)).reverse
theorem trimL_snoc0 (l : List Nat) : trimL (l ++ [0]) = trimL l := by
  unfold trimL
  rw [List.reverse_append]; rfl
theorem trimL_snoc (l : List Nat) {d : Nat} (h : d ≠ 0) : trimL (l ++ [d]) = l ++ [d] := by
  unfold trimL
  rw [List.reverse_append]
  simp [List.dropWhile, h]
theorem snoc_cases (l : List Nat) : l = [] ∨ ∃ a d, l = a ++ [d] := by
  by_cases h : l = []
  · exact .inl h
  · exact .inr ⟨l.dropLast, l.getLast h, (List.dropLast_concat_getLast h).symm⟩
theorem trimL_val : ∀ (n : Nat) (l : List Nat), l.length ≤ n → valL (trimL l) = valL l
  | 0, l, h => by
    obtain rfl : l = [] := List.eq_nil_of_length_eq_zero (by omega)
    rfl
  | n + 1, l, h => by
    rcases snoc_cases l with rfl | ⟨a, d, rfl⟩
    · rfl
    · by_cases hd : d = 0
      · subst hd
        rw [trimL_snoc0, trimL_val n a (by simp at h; omega), valL_app]; simp [valL]
      · rw [trimL_snoc a hd]
theorem trimL_canon : ∀ (n : Nat) (l : List Nat), l.length ≤ n → DigOk l → Canon (trimL l)
  | 0, l, h, hd => by
    obtain rfl : l = [] := List.eq_nil_of_length_eq_zero (by omega)
    exact ⟨hd, fun d hd => by cases hd⟩
  | n + 1, l, h, hok => by
    rcases snoc_cases l with rfl | ⟨a, d, rfl⟩
    · exact ⟨hok, fun d hd => by cases hd⟩
    · by_cases hd : d = 0
      · subst hd
        rw [trimL_snoc0]
        exact trimL_canon n a (by simp at h; omega) fun x hx => hok x (List.mem_append_left _ hx)
      · rw [trimL_snoc a hd]
        exact ⟨hok, fun x hx => by simp at hx; omega⟩
def plusL : Nat → List Nat → List Nat → List Nat
  | c, [], [] => if c = 0 then [] else [c]
  | c, x :: a, [] => ((c + x) % 10) :: plusL ((c + x) / 10) a []
  | c, [], y :: b => ((c + y) % 10) :: plusL ((c + y) / 10) [] b
  | c, x :: a, y :: b => ((c + x + y) % 10) :: plusL ((c + x + y) / 10) a b
def mostN (minus : Bool) : Nat := if minus = true then 9223372036854775808 else 9223372036854775807
theorem digL_of {l : List Nat} {n : Nat} (h : Canon l) (hv : valL l = n) : digL n = l := by rw [← hv, digL_uniq h]
theorem dig_most : digL 9223372036854775807 = [7, 0, 8, 5, 7, 7, 4, 5, 8, 6, 3, 0, 2, 7, 3, 3, 2, 2, 9] :=
  digL_of ⟨by unfold DigOk; decide, fun d hd => by simp at hd; omega⟩ (by decide)
theorem dig_most1 : digL 9223372036854775808 = [8, 0, 8, 5, 7, 7, 4, 5, 8, 6, 3, 0, 2, 7, 3, 3, 2, 2, 9] :=
  digL_of ⟨by unfold DigOk; decide, fun d hd => by simp at hd; omega⟩ (by decide)
theorem plus_most : plusL 0 (digL 9223372036854775807) [1] = digL 9223372036854775808 := by
  rw [dig_most, dig_most1]
  simp [plusL]
theorem decB_of {m : Bool} {W R : List UInt8} {p : Bool} (hW : AllDig W) (hR : AllDig R) : decB m (W, R, p) =
    if W = [] ∨ (1 < W.length ∧ W.head? = some 48) ∨ (p = true ∧ (R.length = 0 ∨ 6 < R.length)) then none
    else if mostN m < nval (W ++ R) ∨ (nval (W ++ R) = 0 ∧ m = true) then none
    else some (if m = true then -(nval (W ++ R) : Int) else nval (W ++ R), R.length) := by
  have key : (W = [] ∨ (1 < W.length ∧ W.head? = some 48) ∨ (p = true ∧ (R.length = 0 ∨ 6 < R.length))) ↔ ¬ (digsOk W = true ∧ ¬ (1 < W.length ∧ W.head? = some 48) ∧ (p = true → digsOk R = true ∧ R.length ≤ 6)) := by
    constructor
    · rintro (h | h | ⟨h, h3⟩) ⟨e1, e2, e3⟩
      · exact (digsOk_iff.1 e1).1 h
      · exact e2 h
      · obtain ⟨e4, e5⟩ := e3 h
        have := (digsOk_iff.1 e4).1
        rcases h3 with h3 | h3
        · exact this (List.eq_nil_of_length_eq_zero h3)
        · omega
    · intro h
      apply Classical.byContradiction
      intro hn
      have n1 : W ≠ [] := fun e => hn (.inl e)
      have n2 : ¬ (1 < W.length ∧ W.head? = some 48) := fun e => hn (.inr (.inl e))
      have n3 : p = true → ¬ (R.length = 0 ∨ 6 < R.length) := fun e1 e2 => hn (.inr (.inr ⟨e1, e2⟩))
      refine h ⟨digsOk_iff.2 ⟨n1, hW⟩, n2, fun e => ?_⟩
      have := n3 e
      exact ⟨digsOk_iff.2 ⟨fun e2 => this (.inl (by rw [e2]; rfl)), hR⟩, by omega⟩
  unfold decB
  simp only
  by_cases hk : digsOk W = true ∧ ¬ (1 < W.length ∧ W.head? = some 48) ∧ (p = true → digsOk R = true ∧ R.length ≤ 6)
  · have hk2 : ¬ (W = [] ∨ (1 < W.length ∧ W.head? = some 48) ∨ (p = true ∧ (R.length = 0 ∨ 6 < R.length))) := fun e => key.1 e hk
    rw [if_pos hk, if_neg hk2]
    unfold mostN
    cases m with
    | true =>
      simp only [if_true, and_true]
      by_cases h : nval (W ++ R) = 0 ∨ 9223372036854775808 < nval (W ++ R)
      · have h' : 9223372036854775808 < nval (W ++ R) ∨ nval (W ++ R) = 0 := h.symm
        rw [if_pos h, if_pos h']
      · have h' : ¬ (9223372036854775808 < nval (W ++ R) ∨ nval (W ++ R) = 0) := fun e => h e.symm
        rw [if_neg h, if_neg h']
    | false =>
      simp only [Bool.false_eq_true, if_false, and_false, or_false]
      by_cases h : 9223372036854775808 ≤ nval (W ++ R)
      · have h' : 9223372036854775807 < nval (W ++ R) := by omega
        rw [if_pos h, if_pos h']
      · have h' : ¬ 9223372036854775807 < nval (W ++ R) := by omega
        rw [if_neg h, if_neg h']
  · rw [if_neg hk, if_pos (key.2 hk)]
end Go.Proofs.YtjgdlocgoiinbaaGreatDoor
namespace Go.Proofs.YtjgdlocgoiinbaaGreatDoor
set_option linter.unusedVariables false
set_option linter.unusedSimpArgs false
open Go.Lib
theorem nval_cons (c : UInt8) (l : List UInt8) : nval (c :: l) = (c.toNat - 48) * 10 ^ l.length + nval l := by
  unfold nval
  have : dgs (c :: l) = dgs l ++ [c.toNat - 48] := by simp [dgs]
  rw [this, valL_app, dgs_len]
  simp only [valL, Nat.mul_zero, Nat.add_zero]
  rw [Nat.mul_comm]; omega
theorem pu_dig : ∀ (l : List UInt8) (acc : Nat), AllDig l → acc < 18446744073709551616 → parseUint10 acc l = if acc * 10 ^ l.length + nval l < 18446744073709551616 then .ok (acc * 10 ^ l.length + nval l) else .range
  | [], acc, _, h => by
    have e : nval [] = 0 := rfl
    simp only [parseUint10, List.length_nil, Nat.pow_zero, Nat.mul_one, e, Nat.add_zero]
    rw [if_pos h]
  | c :: l, acc, hd, h => by
    have hc := isDig_iff.1 (hd c (List.mem_cons_self ..))
    have hl : AllDig l := fun x hx => hd x (List.mem_cons_of_mem _ hx)
    have hp : 1 ≤ 10 ^ l.length := Nat.one_le_pow _ _ (by decide)
    rw [parseUint10, if_pos hc, nval_cons, List.length_cons, Nat.pow_succ]
    have e : acc * (10 ^ l.length * 10) + ((c.toNat - 48) * 10 ^ l.length + nval l) = (acc * 10 + (c.toNat - 48)) * 10 ^ l.length + nval l := by
      rw [Nat.add_mul, ← Nat.add_assoc]
      congr 2
      rw [Nat.mul_comm (10 ^ l.length) 10, ← Nat.mul_assoc]
    rw [e]
    have hbig : 18446744073709551616 ≤ acc * 10 + (c.toNat - 48) → ¬ (acc * 10 + (c.toNat - 48)) * 10 ^ l.length + nval l < 18446744073709551616 := fun h1 h2 => by
      have : (acc * 10 + (c.toNat - 48)) * 1 ≤ (acc * 10 + (c.toNat - 48)) * 10 ^ l.length := Nat.mul_le_mul_left _ hp
      omega
    by_cases h1 : 1844674407370955162 ≤ acc
    · rw [if_pos h1, if_neg (hbig (by omega))]
    · rw [if_neg h1]
      by_cases h2 : 18446744073709551616 ≤ acc * 10 + (c.toNat - 48)
      · rw [if_pos h2, if_neg (hbig h2)]
      · rw [if_neg h2, pu_dig l _ hl (by omega)]
theorem pm_dig {D : List UInt8} (hD : AllDig D) (hne : D ≠ []) : parseMag D = if nval D < 18446744073709551616 then .ok (nval D) else .range := by
  have hpu := pu_dig D 0 hD (by decide)
  rw [Nat.zero_mul, Nat.zero_add] at hpu
  unfold parseMag
  rw [if_neg hne, hpu]
theorem atoi_pos {D : List UInt8} (hD : AllDig D) (hne : D ≠ []) : atoiAll D = if nval D < 9223372036854775808 then .ok (nval D : Int) else .range := by
  obtain ⟨c, l, rfl⟩ : ∃ c l, D = c :: l := by
    cases D with
    | nil => exact absurd rfl hne
    | cons c l => exact ⟨c, l, rfl⟩
  have hc := isDig_iff.1 (hD c (List.mem_cons_self ..))
  have hs : ¬ (c.toNat = 43 ∨ c.toNat = 45) := by omega
  have hn : ¬ c.toNat = 45 := by omega
  have hpm := pm_dig hD hne
  obtain ⟨N, hN⟩ : ∃ N, N = nval (c :: l) := ⟨_, rfl⟩
  rw [← hN] at hpm ⊢
  unfold atoiAll
  simp only [if_neg hs, hpm]
  by_cases h : N < 18446744073709551616
  · simp only [if_pos h]
    by_cases h2 : N < 9223372036854775808
    · have h3 : ¬ (¬ c.toNat = 45 ∧ 9223372036854775808 ≤ N) := by omega
      have h4 : ¬ (c.toNat = 45 ∧ 9223372036854775808 < N) := by omega
      simp only [if_neg h3, if_neg h4, if_neg hn, if_pos h2]
    · have h3 : ¬ c.toNat = 45 ∧ 9223372036854775808 ≤ N := by omega
      simp only [if_pos h3, if_neg h2]
  · have h2 : ¬ N < 9223372036854775808 := by omega
    simp only [if_neg h, if_neg h2]
theorem atoi_neg {D : List UInt8} (hD : AllDig D) (hne : D ≠ []) : atoiAll (45 :: D) = if nval D ≤ 9223372036854775808 then .ok (-(nval D : Int)) else .range := by
  have hs : (45 : UInt8).toNat = 43 ∨ (45 : UInt8).toNat = 45 := .inr rfl
  have hn : (45 : UInt8).toNat = 45 := rfl
  have hpm := pm_dig hD hne
  obtain ⟨N, hN⟩ : ∃ N, N = nval D := ⟨_, rfl⟩
  rw [← hN] at hpm ⊢
  unfold atoiAll
  simp only [if_pos hs, hpm]
  by_cases h : N < 18446744073709551616
  · simp only [if_pos h]
    by_cases h2 : N ≤ 9223372036854775808
    · have h3 : ¬ (¬ (45 : UInt8).toNat = 45 ∧ 9223372036854775808 ≤ N) := fun e => e.1 rfl
      have h4 : ¬ ((45 : UInt8).toNat = 45 ∧ 9223372036854775808 < N) := fun e => by omega
      simp only [if_neg h3, if_neg h4, if_pos hn, if_pos h2]
    · have h3 : ¬ (¬ (45 : UInt8).toNat = 45 ∧ 9223372036854775808 ≤ N) := fun e => e.1 rfl
      have h4 : (45 : UInt8).toNat = 45 ∧ 9223372036854775808 < N := ⟨rfl, by omega⟩
      simp only [if_neg h3, if_pos h4, if_neg h2]
  · have h2 : ¬ N ≤ 9223372036854775808 := by omega
    simp only [if_neg h, if_neg h2]
theorem index_one (c : UInt8) (x : UInt8) (l : List UInt8) : index (x :: l) [c] = if x = c then 0 else if index l [c] == -1 then -1 else index l [c] + 1 := by
  rw [index]
  by_cases h : x = c
  · subst h
    rw [if_pos (by simp [List.isPrefixOf]), if_pos rfl]
  · rw [if_neg (by simp [List.isPrefixOf]; exact fun e => h e.symm), if_neg h]
theorem cut_point : ∀ l : List UInt8, cut l [46] = cutP l
  | [] => rfl
  | x :: l => by
    have ih := cut_point l
    have hge := index_ge l [46]
    unfold cut at ih ⊢
    rw [index_one, cutP]
    by_cases hx : x = 46
    · subst hx
      rw [if_pos rfl, if_pos rfl, if_pos (by decide)]
      rfl
    · rw [if_neg hx, if_neg hx]
      by_cases hm : index l [46] = -1
      · have n1 : ¬ 0 ≤ index l [46] := by omega
        have e1 : (if (index l [46] == -1) = true then (-1 : Int) else index l [46] + 1) = -1 := if_pos (by rw [hm]; rfl)
        have n2 : ¬ (0 : Int) ≤ -1 := by decide
        rw [if_neg n1] at ih
        rw [e1, if_neg n2, ← ih]
      · have hne : ¬ (index l [46] == -1) = true := by simpa using hm
        have n1 : 0 ≤ index l [46] := by omega
        have e1 : (if (index l [46] == -1) = true then (-1 : Int) else index l [46] + 1) = index l [46] + 1 := if_neg hne
        have n2 : 0 ≤ index l [46] + 1 := by omega
        rw [if_pos n1] at ih
        rw [e1, if_pos n2, ← ih]
        obtain ⟨i, hi⟩ : ∃ i : Nat, index l [46] = i := ⟨(index l [46]).toNat, by omega⟩
        rw [hi]
        have e : ((i : Int) + 1).toNat = i + 1 := by omega
        rw [e, Int.toNat_natCast]
        rfl
theorem pre_minus (s : List UInt8) : hasPrefix s [45] = minB s := by
  unfold hasPrefix minB
  cases s with
  | nil => rfl
  | cons c l =>
    by_cases h : c = 45
    · subst h; rfl
    · have h2 : ¬ 45 = c := fun e => h e.symm
      have e1 : ((45 : UInt8) == c) = false := beq_eq_false_iff_ne.2 h2
      have e2 : (c == (45 : UInt8)) = false := beq_eq_false_iff_ne.2 h
      simp [List.isPrefixOf, e1, e2]
theorem trim_minus (s : List UInt8) : trimPrefix s [45] = bodyB s := by
  unfold trimPrefix bodyB
  rw [pre_minus]
  split
  · cases s <;> rfl
  · rfl
end Go.Proofs.YtjgdlocgoiinbaaGreatDoor
namespace Go.Proofs.YtjgdlocgoiinbaaGreatDoor
set_option linter.unusedVariables false
set_option linter.unusedSimpArgs false
def shiftL (l : List Nat) (k : Nat) : List Nat := if l = [] then [] else List.replicate k 0 ++ l
theorem cmp_len {m n : Nat} (h : (digL m).length < (digL n).length) : m < n := by
  have := canon_len (digL_ok m) (digL_canon n) h
  rwa [valL_dig, valL_dig] at this
theorem cmp_at {m n i : Nat} (hl : (digL m).length = (digL n).length) (hi : i < (digL m).length) (hi2 : i < (digL n).length) (hlt : (digL m)[i] < (digL n)[i]) (he : ∀ k (h1 : k < (digL m).length) (h2 : k < (digL n).length), i < k → (digL m)[k] = (digL n)[k]) : m < n := by
  have := top_less (digL_ok m) (digL_ok n) hl hi hi2 hlt he
  rwa [valL_dig, valL_dig] at this
theorem cmp_eq {m n : Nat} (hl : (digL m).length = (digL n).length) (he : ∀ k (h1 : k < (digL m).length) (h2 : k < (digL n).length), (digL m)[k] = (digL n)[k]) : m = n := by
  have : digL m = digL n := List.ext_getElem hl he
  rw [← valL_dig m, this, valL_dig]
end Go.Proofs.YtjgdlocgoiinbaaGreatDoor
