import Derived.Test.YtglhmhpaoebifaaBT
namespace Go.Proofs.Ytglhmhpaoebifaa
set_option linter.unusedVariables false
set_option linter.unusedSimpArgs false
open Go.RowKit
/-! ## A book in order, and the document's lists -/
theorem filter_one {d : List LeaseS} (h : SortedL d) (t : Int) : (d.filter fun x => decide (x.s = t)).length ≤ 1 := by
  unfold SortedL at h
  induction d with
  | nil => simp
  | cons x d ih =>
    rw [List.map_cons, List.pairwise_cons] at h
    rw [List.filter_cons]
    split
    · rename_i e
      have e := of_decide_eq_true e
      have : d.filter (fun x => decide (x.s = t)) = [] := by
        rw [List.filter_eq_nil_iff]
        intro y hy
        have := h.1 y.s (List.mem_map_of_mem hy)
        simp only [decide_eq_true_eq]
        omega
      rw [this]; simp
    · exact ih h.2
theorem filter_succ {d : List LeaseS} (h : SortedL d) (n : Int) : d.filter (fun x => decide (x.s < n + 1)) = d.filter (fun x => decide (x.s < n)) ++ d.filter (fun x => decide (x.s = n)) := by
  unfold SortedL at h
  induction d with
  | nil => rfl
  | cons x d ih =>
    rw [List.map_cons, List.pairwise_cons] at h
    have ih := ih h.2
    have hgt : ∀ y ∈ d, x.s < y.s := fun y hy => h.1 y.s (List.mem_map_of_mem hy)
    by_cases h1 : x.s < n
    · rw [List.filter_cons_of_pos (by simp; omega), List.filter_cons_of_pos (by simpa using h1), List.filter_cons_of_neg (by simp; omega), ih, List.cons_append]
    · have e0 : (x :: d).filter (fun x => decide (x.s < n)) = [] := by
        rw [List.filter_eq_nil_iff]
        intro y hy
        rcases List.mem_cons.1 hy with rfl | hy
        · simpa using h1
        · have := hgt y hy; simp; omega
      have e1 : d.filter (fun x => decide (x.s < n)) = [] := by
        rw [List.filter_eq_nil_iff]
        intro y hy
        have := hgt y hy; simp; omega
      rw [e0, List.nil_append]
      by_cases h2 : x.s = n
      · rw [List.filter_cons_of_pos (by simp; omega), List.filter_cons_of_pos (by simpa using h2), ih, e1, List.nil_append]
      · rw [List.filter_cons_of_neg (by simp; omega), List.filter_cons_of_neg (by simpa using h2), ih, e1, List.nil_append]
theorem srtP_lt {d : List LeaseS} (h : SortedL d) (h0 : ∀ x ∈ d, 0 ≤ x.s) : ∀ n : Nat, srtP d n = d.filter fun x => decide (x.s < (n : Int)) := by
  intro n
  induction n with
  | zero =>
    symm
    rw [show srtP d 0 = [] from rfl, List.filter_eq_nil_iff]
    intro x hx
    have := h0 x hx
    simp; omega
  | succ n ih => rw [srtP_succ, ih, ← filter_succ h]; rfl
structure BookOk (l : List LeaseS) : Prop where
  sorted : SortedL l
  right : ∀ x ∈ l, rightL x = true
theorem rightL_s {x : LeaseS} (h : rightL x = true) : 0 ≤ x.s ∧ x.s < 16 := by
  simp only [rightL, Bool.and_eq_true, decide_eq_true_eq] at h
  omega
theorem srtP_self {d : List LeaseS} (h : BookOk d) : srtP d 16 = d := by
  rw [srtP_lt h.sorted fun x hx => (rightL_s (h.right x hx)).1, List.filter_eq_self]
  intro x hx
  have := (rightL_s (h.right x hx)).2
  simpa using this
theorem srtP_perm {d l : List LeaseS} (hp : d.Perm l) (h1 : srtOne l 16) : srtP l 16 = srtP d 16 := by
  have : ∀ n, n ≤ 16 → srtP l n = srtP d n := by
    intro n
    induction n with
    | zero => intro _; rfl
    | succ n ih =>
      intro hn
      rw [srtP_succ, srtP_succ, ih (by omega)]
      congr 1
      have hf := hp.filter fun x => decide (x.s = (n : Int))
      have hl := h1 n (by omega)
      match hq : l.filter (fun x => decide (x.s = (n : Int))), hl with
      | [], _ => rw [hq] at hf ⊢; exact hf.eq_nil.symm
      | [y], _ => rw [hq] at hf ⊢; exact (List.perm_singleton.1 hf).symm
      | y :: z :: t, hl => rw [hq] at hl; simp at hl
  exact this 16 (Nat.le_refl _)
theorem book_len {d : List LeaseS} (h : BookOk d) : d.length ≤ 16 := by
  have key : ∀ (j : Nat) (hj : j < d.length), (j : Int) ≤ d[j].s := by
    intro j
    induction j with
    | zero => intro hj; exact (rightL_s (h.right _ (List.getElem_mem hj))).1
    | succ j ih =>
      intro hj
      have h1 := ih (by omega)
      have h2 := sorted_at h.sorted (List.getElem?_eq_getElem (show j < d.length by omega)) (List.getElem?_eq_getElem hj) (by omega)
      omega
  rcases Nat.lt_or_ge 16 d.length with h1 | h1
  · have h2 := key 16 h1
    have h3 := (rightL_s (h.right _ (List.getElem_mem h1))).2
    omega
  · exact h1
theorem ok_of_perm {d l : List LeaseS} (hp : d.Perm l) (h : BookOk d) : SrtOk l := by
  refine ⟨fun t ht => ?_, fun x hx => h.right x (hp.mem_iff.2 hx)⟩
  rw [← (hp.filter _).length_eq]
  exact filter_one h.sorted _
/-! the sort of what comes in -/
theorem ltL_key : ltL = keyLtB (fun x : LeaseS => x.s) := rfl
theorem stab_ok (l : List LeaseS) : (stabS ltL l).Perm l ∧ Srt (fun x : LeaseS => x.s) (stabS ltL l) 0 l.length := by rw [ltL_key]; exact stabS_ok _ l
theorem K_at {d : List LeaseS} {i : Nat} (hi : i < d.length) : K (fun x : LeaseS => x.s) d i = d[i].s := by simp [K, hi]
theorem newOk_book {l : List LeaseS} (h : NewOk (stabS ltL l)) : BookOk (stabS ltL l) := by
  obtain ⟨hp, hs⟩ := stab_ok l
  obtain ⟨d, hd⟩ : ∃ d, d = stabS ltL l := ⟨_, rfl⟩
  rw [← hd] at h hp hs ⊢
  have hlen : d.length = l.length := hp.length_eq
  refine ⟨?_, fun x hx => ?_⟩
  · unfold SortedL
    rw [List.pairwise_iff_getElem]
    intro i j hi hj hij
    simp only [List.length_map] at hi hj
    simp only [List.getElem_map]
    have hj1 : j - 1 < d.length := by omega
    have h1 := (h j hj).2 (j - 1) hj1 (by omega)
    have h2 := hs (j - 1) j (Nat.zero_le _) (by omega) (by omega)
    rw [K_at hj1, K_at hj] at h2
    by_cases e : i = j - 1
    · subst e; omega
    · have h3 := hs i (j - 1) (Nat.zero_le _) (by omega) (by omega)
      rw [K_at (by omega), K_at hj1] at h3
      omega
  · obtain ⟨i, hi, rfl⟩ := List.getElem_of_mem hx
    exact (h i hi).1
theorem book_newOk {d : List LeaseS} (h : BookOk d) : NewOk d := fun i hi => ⟨h.right _ (List.getElem_mem hi), fun k hk e => by
  have := sorted_at h.sorted (List.getElem?_eq_getElem hk) (List.getElem?_eq_getElem hi) (by omega)
  omega⟩
theorem srtOk_new {l : List LeaseS} (h : SrtOk l) : BookOk (stabS ltL l) ∧ srtP l 16 = stabS ltL l := by
  obtain ⟨hp, hs⟩ := stab_ok l
  obtain ⟨d, hd⟩ : ∃ d, d = stabS ltL l := ⟨_, rfl⟩
  rw [← hd] at hp hs ⊢
  have hlen : d.length = l.length := hp.length_eq
  have hr : ∀ x ∈ d, rightL x = true := fun x hx => h.2 x (hp.mem_iff.1 hx)
  have hb : BookOk d := by
    refine ⟨?_, hr⟩
    unfold SortedL
    rw [List.pairwise_iff_getElem]
    intro i j hi hj hij
    simp only [List.length_map] at hi hj
    simp only [List.getElem_map]
    have h1 := hs i j (Nat.zero_le _) hij (by omega)
    rw [K_at hi, K_at hj] at h1
    rcases Int.lt_or_eq_of_le h1 with h2 | h2
    · exact h2
    · exfalso
      obtain ⟨r1, r2⟩ := rightL_s (hr _ (List.getElem_mem hj))
      have hc := h.1 d[j].s.toNat (by omega)
      rw [show ((d[j].s.toNat : Nat) : Int) = d[j].s by omega, ← (hp.filter _).length_eq] at hc
      have hsub : [d[i], d[j]].Sublist d := by
        have hd2 : d = d.take j ++ d[j] :: d.drop (j + 1) := by rw [List.getElem_cons_drop, List.take_append_drop]
        have h3 : [d[i]].Sublist (d.take j) := by
          rw [List.singleton_sublist]
          exact List.mem_take_iff_getElem.2 ⟨i, by omega, rfl⟩
        have h4 : [d[j]].Sublist (d[j] :: d.drop (j + 1)) := by
          rw [List.singleton_sublist]; exact List.mem_cons_self
        have h5 := h3.append h4
        rw [← hd2] at h5
        exact h5
      have hf := hsub.filter fun x => decide (x.s = d[j].s)
      have := hf.length_le
      simp [h2] at this
      omega
  exact ⟨hb, by rw [srtP_perm hp h.1, srtP_self hb]⟩
theorem newOk_iff (l : List LeaseS) : NewOk (stabS ltL l) ↔ SrtOk l :=
  ⟨fun h => ok_of_perm (stab_ok l).1 (newOk_book h), fun h => book_newOk (srtOk_new h).1⟩
/-! one lease of a book -/
theorem find_split {l : List LeaseS} (h : SortedL l) {k : Int} (hF : findH l k = true) : ∃ x, x.s = k ∧ l[findI l k]? = some x ∧ l = l.take (findI l k) ++ x :: l.drop (findI l k + 1) ∧ (l.filter fun y => decide (y.s ≠ k)) = l.take (findI l k) ++ l.drop (findI l k + 1) ∧ getL l k = some x := by
  obtain ⟨x, hx, hs⟩ := findH_at hF
  obtain ⟨hi, hxe⟩ := List.getElem?_eq_some_iff.1 hx
  obtain ⟨i, hI⟩ : ∃ i, i = findI l k := ⟨_, rfl⟩
  have hsp := fun (a : Nat) (y : LeaseS) (hy : l[a]? = some y) => findI_spec h k hy
  rw [← hI] at hx hi hsp ⊢
  have hxe' : l[i] = x := by simpa [← hI] using hxe
  have hcat : l = l.take i ++ x :: l.drop (i + 1) := by rw [← hxe', List.getElem_cons_drop, List.take_append_drop]
  have hlo : ∀ y ∈ l.take i, y.s < k := fun y hy => by
    obtain ⟨a, ha, rfl⟩ := List.getElem_of_mem hy
    simp only [List.length_take] at ha
    rw [List.getElem_take]
    exact (hsp a _ (List.getElem?_eq_getElem (by omega))).1 (by omega)
  have hhi : ∀ y ∈ l.drop (i + 1), k < y.s := fun y hy => by
    obtain ⟨a, ha, rfl⟩ := List.getElem_of_mem hy
    simp only [List.length_drop] at ha
    rw [List.getElem_drop]
    have := sorted_at h hx (List.getElem?_eq_getElem (show i + 1 + a < l.length by omega)) (by omega)
    omega
  refine ⟨x, hs, hx, hcat, ?_, ?_⟩
  · conv => lhs; rw [hcat]
    rw [List.filter_append, List.filter_cons_of_neg (by simpa using hs)]
    congr 1
    · rw [List.filter_eq_self]; intro y hy; have := hlo y hy; simp; omega
    · rw [List.filter_eq_self]; intro y hy; have := hhi y hy; simp; omega
  · rw [← hxe']
    refine getL_at hi (fun a ha hai => ?_) (by rw [hxe']; exact hs)
    have := (hsp a _ (List.getElem?_eq_getElem ha)).1 hai
    omega
theorem find_none {l : List LeaseS} (h : SortedL l) {k : Int} (hF : findH l k = false) : (l.filter fun y => decide (y.s ≠ k)) = l ∧ getL l k = none := by
  have hne : ∀ y ∈ l, y.s ≠ k := fun y hy e => by
    have := findH_of h hy
    rw [e, hF] at this; cases this
  refine ⟨?_, getL_none fun i hi => hne _ (List.getElem_mem hi)⟩
  rw [List.filter_eq_self]
  intro y hy
  simpa using hne y hy
theorem put_law {l : List LeaseS} (h : BookOk l) {x : LeaseS} (hx : rightL x = true) : SrtOk (l.filter (fun y => decide (y.s ≠ x.s)) ++ [x]) ∧ srtP (l.filter (fun y => decide (y.s ≠ x.s)) ++ [x]) 16 = putL l x ∧ BookOk (putL l x) := by
  have hb : BookOk (putL l x) := ⟨putL_sorted h.sorted x, fun y hy => by
    rcases putL_mem hy with rfl | hy
    · exact hx
    · exact h.right y hy⟩
  have hp : (putL l x).Perm (l.filter (fun y => decide (y.s ≠ x.s)) ++ [x]) := by
    have mid : ∀ A B : List LeaseS, (A ++ x :: B).Perm ((A ++ B) ++ [x]) := fun A B => List.perm_middle.trans (List.perm_append_comm (l₁ := [x]) (l₂ := A ++ B))
    unfold putL
    split
    · rename_i hF
      obtain ⟨y, _, hy, hcat, hf, _⟩ := find_split h.sorted hF
      rw [hf]
      obtain ⟨hi, _⟩ := List.getElem?_eq_some_iff.1 hy
      rw [List.set_eq_take_append_cons_drop, if_pos hi]
      exact mid _ _
    · rename_i hF
      have := find_none h.sorted (k := x.s) (by simpa using hF)
      rw [this.1]
      have := mid (l.take (findI l x.s)) (l.drop (findI l x.s))
      rw [List.take_append_drop] at this
      exact this
  have hok := ok_of_perm hp hb
  exact ⟨hok, by rw [srtP_perm hp hok.1, srtP_self hb], hb⟩
theorem drop_law {l : List LeaseS} (h : BookOk l) (k : Int) : BookOk (l.filter fun y => decide (y.s ≠ k)) :=
  ⟨h.sorted.sublist ((List.filter_sublist).map _), fun x hx => h.right x (List.mem_filter.1 hx).1⟩
theorem live_law {l : List LeaseS} (h : BookOk l) (now : Int) : BookOk (liveL l now) :=
  ⟨liveL_sorted h.sorted now, fun x hx => h.right x (List.mem_filter.1 hx).1⟩
theorem getL_mem {l : List LeaseS} {k : Int} {x : LeaseS} (h : getL l k = some x) : x ∈ l ∧ x.s = k := by
  unfold getL at h
  exact ⟨List.mem_of_find?_eq_some h, by simpa using List.find?_some h⟩
theorem getL_live {l : List LeaseS} (h : SortedL l) (k now : Int) {x : LeaseS} (hx : getL l k = some x) : getL (liveL l now) k = if now < x.u then some x else none := by
  obtain ⟨hm, hs⟩ := getL_mem hx
  cases hg : getL (liveL l now) k with
  | some y =>
    obtain ⟨hm2, hs2⟩ := getL_mem hg
    unfold liveL at hm2
    rw [List.mem_filter] at hm2
    have hxy : y = x := by
      obtain ⟨i, hi, rfl⟩ := List.getElem_of_mem hm
      obtain ⟨j, hj, rfl⟩ := List.getElem_of_mem hm2.1
      rcases Nat.lt_trichotomy i j with e | e | e
      · have := sorted_at h (List.getElem?_eq_getElem hi) (List.getElem?_eq_getElem hj) e; omega
      · subst e; rfl
      · have := sorted_at h (List.getElem?_eq_getElem hj) (List.getElem?_eq_getElem hi) e; omega
    subst hxy
    rw [if_pos (of_decide_eq_true hm2.2)]
  | none =>
    split
    · rename_i hl
      unfold getL at hg
      rw [List.find?_eq_none] at hg
      have := hg x (by unfold liveL; rw [List.mem_filter]; exact ⟨hm, decide_eq_true hl⟩)
      simp [hs] at this
    · rfl
theorem getL_live_none {l : List LeaseS} {k now : Int} (hx : getL l k = none) : getL (liveL l now) k = none := by
  unfold getL at hx ⊢
  rw [List.find?_eq_none] at hx ⊢
  intro x h
  exact hx x (List.mem_filter.1 h).1
theorem rw_wait (l : List LeaseS) (version now : Int) : rwL (liveL l now) version = waitS l version now := by
  have key : ∀ (l : List LeaseS) (u : Int), (liveL l now).foldl (rwT version) u = if 0 < version then l.foldl (waitT version now) u else u := by
    intro l
    induction l with
    | nil => intro u; simp [liveL]
    | cons x l ih =>
      intro u
      have e : liveL (x :: l) now = if now < x.u then x :: liveL l now else liveL l now := by
        unfold liveL
        rw [List.filter_cons]
        simp
      rw [e]
      by_cases hx : now < x.u
      · rw [if_pos hx, List.foldl_cons, ih]
        by_cases hv : 0 < version
        · rw [if_pos hv, if_pos hv, List.foldl_cons]
          congr 1
          simp only [rwT, waitT, hv, hx, true_and]
          by_cases h1 : x.v < version - 1
          · simp only [h1, true_and]
            by_cases h2 : u < x.u
            · rw [if_pos h2, if_pos trivial, Int.max_eq_right (by omega)]
            · rw [if_neg h2, if_pos trivial, Int.max_eq_left (by omega)]
          · simp [h1]
        · rw [if_neg hv, if_neg hv]
          simp [rwT, hv]
      · rw [if_neg hx, ih]
        by_cases hv : 0 < version
        · rw [if_pos hv, if_pos hv, List.foldl_cons]
          congr 1
          simp [waitT, hx]
        · rw [if_neg hv, if_neg hv]
  unfold rwL waitS
  rw [key]
  cases hm : mayS l version now with
  | false =>
    have := (may_false l version now).1 hm
    rw [if_pos this.1]; simp
  | true =>
    rw [if_pos rfl]
    split
    · rename_i hv
      have hno : ∀ x ∈ l, ¬ Low version now x := fun x hx hl => by
        have := (may_false l version now).2 ⟨hv, x, hx, hl⟩
        rw [hm] at this; cases this
      have : ∀ (l : List LeaseS) (u : Int), (∀ x ∈ l, ¬ Low version now x) → l.foldl (waitT version now) u = u := by
        intro l
        induction l with
        | nil => intro u _; rfl
        | cons x l ih =>
          intro u h
          rw [List.foldl_cons, waitT, if_neg (show ¬ (now < x.u ∧ x.v < version - 1) from h x List.mem_cons_self)]
          exact ih u fun y hy => h y (List.mem_cons_of_mem _ hy)
      exact this l 0 hno
    · rfl
/-- does one that lives stand against a version? -/
def blkS (l : List LeaseS) (version : Int) : Bool := l.any fun y => decide (0 < version) && decide (y.v < version - 1)
theorem blk_may (l : List LeaseS) (version now : Int) : mayS l version now = !(blkS (liveL l now) version) := by
  rw [Bool.eq_iff_iff, Bool.not_eq_true']
  constructor
  · intro h
    unfold blkS
    rw [List.any_eq_false]
    intro y hy hc
    unfold liveL at hy
    rw [List.mem_filter] at hy
    simp only [Bool.and_eq_true, decide_eq_true_eq] at hc hy
    have := (may_false l version now).2 ⟨hc.1, y, hy.1, hy.2, hc.2⟩
    rw [h] at this; cases this
  · intro h
    cases hm : mayS l version now with
    | true => rfl
    | false =>
      obtain ⟨hv, x, hx, hl, hlow⟩ := (may_false l version now).1 hm
      unfold blkS at h
      rw [List.any_eq_false] at h
      have := h x (by unfold liveL; rw [List.mem_filter]; exact ⟨hx, decide_eq_true hl⟩)
      simp [hv, hlow] at this
end Go.Proofs.Ytglhmhpaoebifaa
