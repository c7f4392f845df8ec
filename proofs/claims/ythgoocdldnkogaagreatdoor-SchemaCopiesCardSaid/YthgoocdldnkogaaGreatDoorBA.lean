import Derived.Test.YthgoocdldnkogaaGreatDoorHW
namespace Go.Proofs.YthgoocdldnkogaaGreatDoor
set_option linter.unusedVariables false
set_option linter.unusedSimpArgs false
section
variable {α : Type} (lt : α → α → Bool)
def swp (d : List α) (i j : Nat) : List α := match d[i]?, d[j]? with
 | some x, some y => (d.set i y).set j x
 | _, _ => d
def ltAt (d : List α) (i j : Nat) : Bool := match d[i]?, d[j]? with
 | some x, some y => lt x y
 | _, _ => false
def sink (d : List α) (a : Nat) : Nat → List α
 | 0 => d
 | j + 1 => if a < j + 1 ∧ ltAt lt d (j + 1) j = true then sink (swp d (j + 1) j) a j else d
def insF (d : List α) (a i : Nat) : Nat → List α
 | 0 => d
 | k + 1 => insF (sink lt d a i) a (i + 1) k
def insS (d : List α) (a b : Nat) : List α := insF lt d a (a + 1) (b - (a + 1))
def bsF (p : Nat → Bool) : Nat → Nat → Nat → Nat
 | 0, i, _ => i
 | f + 1, i, j => if i < j then (if p ((i + j) / 2) = true then bsF p f ((i + j) / 2 + 1) j else bsF p f i ((i + j) / 2)) else i
def upF (d : List α) (k : Nat) : Nat → List α
 | 0 => d
 | n + 1 => upF (swp d k (k + 1)) (k + 1) n
def downF (d : List α) (i : Nat) : Nat → List α
 | 0 => d
 | n + 1 => downF (swp d (i + n + 1) (i + n)) i n
def swrF (d : List α) (a b i : Nat) : Nat → List α
 | 0 => d
 | n + 1 => swrF (swp d (a + i) (b + i)) a b (i + 1) n
def swrS (d : List α) (a b n : Nat) : List α := swrF d a b 0 n
def rotF (d : List α) (m : Nat) : Nat → Nat → Nat → List α
 | 0, i, _ => swrS d (m - i) m i
 | f + 1, i, j => if i = j then swrS d (m - i) m i else if j < i then rotF (swrS d (m - i) m j) m f (i - j) j else rotF (swrS d (m - i) (m + j - i) i) m f i (j - i)
def rotS (d : List α) (a m b : Nat) : List α := rotF d m (b - a) (m - a) (b - m)
def symStart (d : List α) (a m b : Nat) : Nat :=
 let mid := (a + b) / 2
 let n := mid + m
 let s := if mid < m then n - b else a
 let r := if mid < m then mid else m
 bsF (fun c => !(ltAt lt d (n - 1 - c) c)) (b - a) s r
def symF : Nat → List α → Nat → Nat → Nat → List α
 | 0, d, _, _, _ => d
 | f + 1, d, a, m, b =>
  if m - a = 1 then upF d a (bsF (fun h => ltAt lt d h a) (b - m) m b - 1 - a)
  else if b - m = 1 then downF d (bsF (fun h => !(ltAt lt d m h)) (m - a) a m) (m - bsF (fun h => !(ltAt lt d m h)) (m - a) a m)
  else
   let mid := (a + b) / 2
   let st := symStart lt d a m b
   let en := mid + m - st
   let d1 := if st < m ∧ m < en then rotS d st m en else d
   let d2 := if a < st ∧ st < mid then symF f d1 a st mid else d1
   if mid < en ∧ en < b then symF f d2 mid en b else d2
def symS (d : List α) (a m b : Nat) : List α := symF lt (b - a) d a m b
def blkF (d : List α) (bs n a : Nat) : Nat → List α
 | 0 => insS lt d a n
 | f + 1 => if a + bs ≤ n then blkF (insS lt d a (a + bs)) bs n (a + bs) f else insS lt d a n
def mrgF (d : List α) (bs n a : Nat) : Nat → List α
 | 0 => d
 | f + 1 => if a + 2 * bs ≤ n then mrgF (symS lt d a (a + bs) (a + 2 * bs)) bs n (a + 2 * bs) f else if a + bs < n then symS lt d a (a + bs) n else d
def lvlF (d : List α) (n bs : Nat) : Nat → List α
 | 0 => d
 | f + 1 => if bs < n then lvlF (mrgF lt d bs n 0 n) n (bs * 2) f else d
def stabS (d : List α) : List α := lvlF lt (blkF lt d 20 d.length 0 d.length) d.length 20 d.length
@[simp] theorem swp_length (d : List α) (i j : Nat) : (swp d i j).length = d.length := by unfold swp; split <;> simp
@[simp] theorem sink_length (d : List α) (a j : Nat) : (sink lt d a j).length = d.length := by
 induction j generalizing d with
 | zero => rfl
 | succ j ih => unfold sink; split <;> simp [ih]
@[simp] theorem insF_length (d : List α) (a i k : Nat) : (insF lt d a i k).length = d.length := by
 induction k generalizing d i with
 | zero => rfl
 | succ k ih => unfold insF; rw [ih]; simp
@[simp] theorem insS_length (d : List α) (a b : Nat) : (insS lt d a b).length = d.length := insF_length ..
@[simp] theorem upF_length (d : List α) (k n : Nat) : (upF d k n).length = d.length := by
 induction n generalizing d k with
 | zero => rfl
 | succ n ih => unfold upF; rw [ih]; simp
@[simp] theorem downF_length (d : List α) (k n : Nat) : (downF d k n).length = d.length := by
 induction n generalizing d k with
 | zero => rfl
 | succ n ih => unfold downF; rw [ih]; simp
@[simp] theorem swrF_length (d : List α) (a b i n : Nat) : (swrF d a b i n).length = d.length := by
 induction n generalizing d i with
 | zero => rfl
 | succ n ih => unfold swrF; rw [ih]; simp
@[simp] theorem swrS_length (d : List α) (a b n : Nat) : (swrS d a b n).length = d.length := swrF_length ..
@[simp] theorem rotF_length (d : List α) (m f i j : Nat) : (rotF d m f i j).length = d.length := by
 induction f generalizing d i j with
 | zero => simp [rotF]
 | succ f ih =>
  unfold rotF
  repeat' split
  all_goals simp [ih]
@[simp] theorem rotS_length (d : List α) (a m b : Nat) : (rotS d a m b).length = d.length := rotF_length ..
@[simp] theorem symF_length (f : Nat) (d : List α) (a m b : Nat) : (symF lt f d a m b).length = d.length := by
 induction f generalizing d a m b with
 | zero => rfl
 | succ f ih =>
  unfold symF
  split
  ·simp
  ·split
   ·simp
   ·simp only
    split <;> split <;> split <;> simp [ih]
@[simp] theorem symS_length (d : List α) (a m b : Nat) : (symS lt d a m b).length = d.length := symF_length ..
@[simp] theorem blkF_length (d : List α) (bs n a f : Nat) : (blkF lt d bs n a f).length = d.length := by
 induction f generalizing d a with
 | zero => simp [blkF]
 | succ f ih => unfold blkF; split <;> simp [ih]
@[simp] theorem mrgF_length (d : List α) (bs n a f : Nat) : (mrgF lt d bs n a f).length = d.length := by
 induction f generalizing d a with
 | zero => simp [mrgF]
 | succ f ih =>
  unfold mrgF
  repeat' split
  all_goals simp [ih]
@[simp] theorem lvlF_length (d : List α) (n bs f : Nat) : (lvlF lt d n bs f).length = d.length := by
 induction f generalizing d bs with
 | zero => simp [lvlF]
 | succ f ih => unfold lvlF; split <;> simp [ih]
@[simp] theorem stabS_length (d : List α) : (stabS lt d).length = d.length := by simp [stabS]
theorem bsF_le (p : Nat → Bool) (f i j : Nat) (h : i ≤ j) : bsF p f i j ≤ j := by
 induction f generalizing i j with
 | zero => exact h
 | succ f ih =>
  unfold bsF
  split
  ·split
   ·exact ih _ _ (by omega)
   ·have := ih i ((i + j) / 2) (by omega); omega
  ·exact h
theorem bsF_done (p : Nat → Bool) (f i j : Nat) (h : ¬ i < j) : bsF p f i j = i := by
 cases f with
 | zero => rfl
 | succ f => unfold bsF; rw [if_neg h]
theorem bsF_step (p : Nat → Bool) (f i j : Nat) (h : i < j) (hf : j - i ≤ f) : bsF p f i j = if p ((i + j) / 2) = true then bsF p (f - 1) ((i + j) / 2 + 1) j else bsF p (f - 1) i ((i + j) / 2) := by
 cases f with
 | zero => omega
 | succ f => conv => lhs; unfold bsF; rw [if_pos h]
             rfl
end
end Go.Proofs.YthgoocdldnkogaaGreatDoor
