import Derived.Test.YthmonbkdecacnaaRows
import Derived.Test.YthmonbkdecacnaaMem
namespace Go.Proofs.Ythmonbkdecacnaa
open Go.RowKit

def RevAt (cur cs : Array Value) (n k : Nat) : Prop := cs.size = cur.size ∧ ∀ m, cs[m]? = if m < n ∧ (m < k ∨ n ≤ m + k) then cur[n - 1 - m]? else cur[m]?

theorem RevAt.step {cur cs : Array Value} {n k m : Nat} {x y : Value} (h : RevAt cur cs n k) (hn : n ≤ cur.size) (h1 : k + m + 1 ≤ n) (h2 : n ≤ k + m + 1) (hx : cs[k]? = some x) (hy : cs[m]? = some y) (hkm : k < m) :
    RevAt cur ((cs.setIfInBounds k y).setIfInBounds m x) n (k + 1) := by
  obtain ⟨hs, hc⟩ := h
  refine ⟨by simp [hs], fun i => ?_⟩
  rw [hc k, if_neg (by omega)] at hx
  rw [hc m, if_neg (by omega)] at hy
  rw [Array.getElem?_setIfInBounds, Array.getElem?_setIfInBounds]
  simp only [Array.size_setIfInBounds, hs]
  by_cases e1 : m = i
  · subst e1; rw [if_pos rfl, if_pos (by omega), if_pos (by omega), ← hx]; congr 1; omega
  · rw [if_neg e1]
    by_cases e2 : k = i
    · subst e2; rw [if_pos rfl, if_pos (by omega), if_pos (by omega), ← hy]; congr 1; omega
    · rw [if_neg e2, hc i]
      by_cases e3 : i < n ∧ (i < k ∨ n ≤ i + k)
      · rw [if_pos e3, if_pos (by omega)]
      · rw [if_neg e3, if_neg (by omega)]
theorem RevAt.done {cur cs : Array Value} {n k m : Nat} (h : RevAt cur cs n k) (h1 : k + m + 1 ≤ n) (h2 : n ≤ k + m + 1) (hkm : m ≤ k) (hk : k ≤ m + 1) : RevAt cur cs n n := by
  obtain ⟨hs, hc⟩ := h
  refine ⟨hs, fun i => ?_⟩
  rw [hc i]
  by_cases e3 : i < n
  · rw [if_pos (show i < n ∧ (i < n ∨ n ≤ i + n) by omega)]
    by_cases e : i < k ∨ n ≤ i + k
    · rw [if_pos ⟨e3, e⟩]
    · rw [if_neg (by omega)]; congr 1; omega
  · rw [if_neg (by omega), if_neg (by omega)]

theorem reverse_any (g n cap : Nat) (cur : Array Value) (w : World) (hb : Blk w g 5 cur) (hn : n ≤ cur.size) (hm : cur.size ≤ maxLen) (hz : ∀ i, i < n → ∃ z, cur[i]? = some (.int .u8 z)) :
    Calls Try.prog 26 #[.slice (some ⟨g, 0, none⟩) n cap] w fun e w' => e = .returned (.tuple #[]) ∧ ∃ cs, Blk w' g 5 cs ∧ RevAt cur cs n n ∧ Mod (· = g) w w' := by
  unfold maxLen at hm
  by_cases h0 : n = 0
  · subst h0
    go_enter Try.func26, Try.ntmps26
    go_wp2
    refine wp_loop_rounds 1 ?_
    rw [rounds_succ]
    go_wp2
    go_end0
    exact ⟨rfl, cur, hb, ⟨rfl, by simp⟩, Mod.refl _ _⟩
  · go_enter Try.func26, Try.ntmps26
    go_wp2
    go_loopw [2, 3] (fun i j wr => ∃ (k m : Nat) (cs : Array Value), i = .int .i64 k ∧ j = .int .i64 m ∧ k + m + 1 ≤ n ∧ n ≤ k + m + 1 ∧ k ≤ m + 1 ∧ Blk wr g 5 cs ∧ RevAt cur cs n k ∧ Mod (· = g) w wr) (fun i _ _ => n - (intOf i).toNat)
    case atStart => exact ⟨0, n - 1, cur, rfl, by go_num, by omega, by omega, by omega, hb, ⟨rfl, by intro m; simp; omega⟩, Mod.refl _ _⟩
    case round =>
      obtain ⟨k, m, cs, rfl, rfl, h1, h2, h3, hb', hr, hmod⟩ := hrel
      by_cases hlt : k < m
      · obtain ⟨x, hx⟩ := hz k (by omega)
        obtain ⟨y, hy⟩ := hz m (by omega)
        have hx' := hr.2 k
        have hy' := hr.2 m
        rw [if_neg (by omega), hx] at hx'
        rw [if_neg (by omega), hy] at hy'
        have c1 := (hb'.cell k).trans hx'
        have c2 := (hb'.cell m).trans hy'
        have f1 := hb'.free k
        have f2 := hb'.free m
        have R := hr.step hn h1 h2 hx' hy' hlt
        have HB := ((hb'.drew.set k (.int .u8 y)).set m (.int .u8 x))
        have HM : Mod (· = g) w ((wr.drew.setCell ⟨g, k, none⟩ (.int .u8 y)).setCell ⟨g, m, none⟩ (.int .u8 x)) := (hmod.drew.setCell (fun _ => rfl) _).setCell (fun _ => rfl) _
        clear hx hy hx' hy' hr hb' hmod hz
        go_wp2
        go_region
        all_goals go_wp2
        go_roundw
        case rel => exact ⟨k + 1, m - 1, _, by go_num, by go_num, by omega, by omega, by omega, HB, R, HM⟩
        case measure => simp [intOf]; omega
      · go_wp2
        go_end0
        exact ⟨rfl, cs, hb', hr.done h1 h2 (by omega) h3, hmod⟩

theorem RevAt.list {cur cs : Array Value} {n : Nat} (h : RevAt cur cs n n) (hn : n ≤ cur.size) (l : List Value) (hl : cur.toList.take n = l) : cs.toList.take n = l.reverse := by
  obtain ⟨hs, hc⟩ := h
  have hll : l.length = n := by rw [← hl]; simp; omega
  apply List.ext_getElem?
  intro i
  rw [List.getElem?_take]
  by_cases hi : i < n
  · rw [if_pos hi, List.getElem?_reverse (by omega), hll, ← hl, List.getElem?_take, if_pos (by omega)]
    have := hc i
    rw [if_pos ⟨hi, .inl hi⟩] at this
    simpa using this
  · rw [if_neg hi, List.getElem?_eq_none (by simp; omega)]

theorem reverse8 (A : Option Addr) (n c : Nat) (l : List UInt8) (w : World) (h : Own w 5 1 A n c (u8s l)) :
    Calls Try.prog 26 #[.slice A n c] w fun e w' => e = .returned (.tuple #[]) ∧ Own w' 5 1 A n c (u8s l.reverse) ∧ Mod (fun k => ob A = some k) w w' := by
  by_cases h0 : n = 0
  · subst h0
    have hl := h.len
    have hn : l = [] := List.eq_nil_of_length_eq_zero (by simpa using hl)
    clear hl
    go_enter Try.func26, Try.ntmps26
    go_wp2
    refine wp_loop_rounds 1 ?_
    rw [rounds_succ]
    go_wp2
    go_end0
    subst hn
    exact ⟨rfl, h, Mod.refl _ _⟩
  · obtain ⟨g, cur, rfl, hb, hnc, hm, hs, ht⟩ := h.at_ (by omega)
    simp only [Nat.mul_one] at hs ht
    refine (reverse_any g n c cur w hb (by omega) (by omega) ?_).mono ?_
    · intro i hi
      have hg : (cur.toList.take n)[i]? = cur[i]? := by rw [List.getElem?_take, if_pos hi]; simp
      rw [ht] at hg
      have hl := h.len
      simp at hl
      rw [← hg]
      simp only [u8s, List.getElem?_map, List.getElem?_eq_getElem (show i < l.length by omega)]
      exact ⟨_, rfl⟩
    · rintro e w' ⟨he, cs, hb', hr, hmod⟩
      refine ⟨he, Own.make g cs hb' hnc hm (by rw [hr.1]; omega) ?_, hmod.mono fun k _ e => by subst e; rfl⟩
      rw [Nat.mul_one, hr.list (by omega) _ ht]
      simp [u8s]
end Go.Proofs.Ythmonbkdecacnaa
