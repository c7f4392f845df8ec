import Derived.Test.YthmonbkdecacnaaWrite
namespace Go.Proofs.Ythmonbkdecacnaa
open Go.RowKit

def DigRel (u : Nat) (w : World) (s0 s4 : Value) (wr : World) : Prop :=
  ∃ (v : Nat) (ds : List UInt8) (D : Option Addr) (d : Nat), s0 = .int .i64 v ∧ s4 = .slice D ds.length d ∧ v < 9223372036854775808 ∧ ds.length ≤ 8 ∧ (0 < v → ds.length < 8) ∧ Hid ((digs v).reverse ++ ds = (digs u).reverse) ∧ Own wr 5 1 D ds.length d (u8s ds) ∧ (∀ k, ob D = some k → w.heap.size ≤ k) ∧ Mod (fun _ => False) w wr
set_option maxHeartbeats 1000000 in
theorem ref1num_any (n : Int) (w : World) (h1 : -9223372036854775808 ≤ n) (h2 : n ≤ 9223372036854775807) :
    Calls Try.prog 18 #[.int .i64 n] w fun e w' => ∃ A c, e = .returned (.slice A (num n).length c) ∧ Own w' 5 1 A (num n).length c (u8s (num n)) ∧ (∀ k, ob A = some k → w.heap.size ≤ k) ∧ Mod (fun _ => False) w w' := by
  have hu8 := mag_lt n h1 h2
  rcases mag_sig n with ⟨u, hn, hu, hs⟩ | ⟨u, hn, hu, hs⟩
  all_goals
    rw [hu] at hu8
    have hd8 := digs_len8 u (by omega)
    have Hnum := Lib.hid (show num n = UInt8.ofNat (sig n + (digs u).length) :: (digs u).reverse by rw [num, hu])
    rw [hs] at Hnum
    generalize num n = nn at *
    subst hn
    clear hu hs
    have e1 : (-1 - (-1 - (u : Int))) = u := by omega
    go_enter Try.func18, Try.ntmps18
    go_wp2
    go_loopw [0, 4] (DigRel u w) (fun i _ _ => (intOf i).toNat)
    case atStart => exact ⟨u, [], none, 0, by first | rfl | rw [e1], rfl, hu8, by simp, by simp, Lib.hid (by simp), Own.nil _ _ _, by simp [ob], Mod.refl _ _⟩
    case round =>
      obtain ⟨v, ds, D, d, rfl, rfl, hv8, hds, hds1, hdv, hown, hob, hmod⟩ := hrel
      clear e1
      by_cases h0 : 0 < v
      · have hd7 := hds1 h0
        have ho1 := Own.lit wr 5 #[u8 (UInt8.ofNat v)] (Nat.le_of_lt_succ (by simp [maxLen]))
        have hr1 := hown.rd.alloc (.cells #[u8 (UInt8.ofNat v)] 5)
        have ew : IntKind.u8.wrap ((v : Int) % 256) = ((UInt8.ofNat v).toNat : Int) := by rw [UInt8.toNat_ofNat']; simp [IntKind.wrap, IntKind.bits, IntKind.signed]
        have hsz := hmod.size
        have hdv' : Hid ((digs (v / 256)).reverse ++ (UInt8.ofNat v :: ds) = (digs u).reverse) := by have := hdv.out; rw [digs_pos h0, List.reverse_cons, List.append_assoc] at this; exact Lib.hid this
        have hlen : Hid (ds.length + 1 + (digs (v / 256)).length = (digs u).length) := Lib.hid (by have := congrArg List.length hdv'.out; simp at this; omega)
        clear hds1
        go_wp2_with (at_builtin; refine wpList_app8 rfl _ _ rfl _ _ _ [UInt8.ofNat v] rfl ho1 _ _ _ ds rfl hr1 (by omega) ?_; intro D' d' w1 hown1 hmod1 hD1 hDn1)
        go_roundw
        case rel =>
          have hM1 := (hmod.alloc _).mod hmod1 fun k hk e => by simp [ob] at e; omega
          have hD2 : ∀ k, ob D' = some k → w.heap.size ≤ k := by
            intro k hk
            rcases hD1 with rfl | rfl <;> simp [ob] at hk <;> omega
          have hl : 1 + ds.length = (UInt8.ofNat v :: ds).length := by simp; omega
          rw [hl] at hown1 ⊢
          refine ⟨v / 256, UInt8.ofNat v :: ds, D', d', by go_num, rfl, by omega, by simp; omega, fun h => ?_, hdv', hown1, hD2, hM1⟩
          have h3 := hlen.out
          rw [digs_pos h] at h3
          simp at h3 ⊢
          omega
        case measure => simp [intOf]; omega
      · obtain rfl : v = 0 := by omega
        rw [digs_zero, List.reverse_nil, List.nil_append] at hdv
        have hrev := Lib.hid (show (digs u).reverse.length = (digs u).length from List.length_reverse)
        rw [← hdv.out] at hrev Hnum
        rw [← hrev.out] at Hnum
        obtain ⟨hd, ehd⟩ : ∃ hd, hd = UInt8.ofNat (128 + ds.length) ∨ hd = UInt8.ofNat (0 + ds.length) := ⟨_, .inl rfl⟩
        clear ehd hd
        have hr1 := fun o => hown.rd.alloc o
        first
        | (have hn2 : nn = UInt8.ofNat (128 + ds.length) :: ds := Hnum.out
           have hv : Value.int .u8 (128 + (ds.length : Int)) = u8 (UInt8.ofNat (128 + ds.length)) := by rw [u8, add_head 128 ds.length (.inr rfl) hds]; rfl
           have hl1 := Lib.hid (show [Value.int .u8 (128 + (ds.length : Int))] = u8s [UInt8.ofNat (128 + ds.length)] by rw [hv]; rfl)
           have hr2 := hr1 (.cells #[.int .u8 (128 + (ds.length : Int))] 5))
        | (have hn2 : nn = UInt8.ofNat (0 + ds.length) :: ds := Hnum.out
           have hv : Value.int .u8 (ds.length : Int) = u8 (UInt8.ofNat (0 + ds.length)) := by rw [u8, add_head 0 ds.length (.inl rfl) hds]; simp
           have hl1 := Lib.hid (show [Value.int .u8 (ds.length : Int)] = u8s [UInt8.ofNat (0 + ds.length)] by rw [hv]; rfl)
           have hr2 := hr1 (.cells #[.int .u8 (ds.length : Int)] 5))
        have ho1 := Own.lit1e wr 5 hl1.out
        have Hn2 := Lib.hid hn2
        have hsz := hmod.size
        clear hv hn2 Hnum hr1
        go_wp2_with (at_builtin; refine wpList_app8 rfl _ _ rfl _ _ _ _ rfl ho1 _ _ _ ds rfl hr2 (by omega) ?_; intro D' d' w1 hown1 hmod1 hD1 hDn1)
        go_returns
        have hM1 := (hmod.alloc _).mod hmod1 fun k hk e => by simp [ob] at e; omega
        have hD2 : ∀ k, ob D' = some k → w.heap.size ≤ k := by
          intro k hk
          rcases hD1 with rfl | rfl <;> simp [ob] at hk <;> omega
        refine ⟨D', d', ?_, ?_, hD2, hM1⟩
        · rw [Hn2.out]
          simp
          omega
        · rw [Hn2.out]
          simpa [Nat.add_comm] using hown1

theorem ref1text_any (s : ByteArray) (w : World) (hs : s.size ≤ 100000000) :
    Calls Try.prog 20 #[.string s] w fun e w' => ∃ A c, e = .returned (.slice A (txt s).length c) ∧ Own w' 5 1 A (txt s).length c (u8s (txt s)) ∧ (∀ k, ob A = some k → w.heap.size ≤ k) ∧ Mod (fun _ => False) w w' := by
  have hnl := num_len s.size (by omega) (by omega)
  go_enter Try.func20, Try.ntmps20
  go_wp2_with fail
  refine (ref1num_any s.size w (by omega) (by omega)).mono ?_
  rintro e w1 ⟨A, c, rfl, ho, hf, hm⟩
  have Ht := Lib.hid (show txt s = num s.size ++ s.data.toList from rfl)
  generalize num s.size = nn at *
  go_wp2_with (at_builtin; refine wpList_apps rfl _ _ rfl _ _ _ nn rfl ho s rfl (by omega) ?_; intro A2 c2 w2 hown2 hmod2 hA2)
  go_returns
  have e1 : (txt s).length = nn.length + s.size := by rw [Ht.out, List.length_append]; rfl
  rw [← Ht.out] at hown2
  rw [e1]
  refine ⟨A2, c2, rfl, hown2, ?_, hm.mod hmod2 fun k hk e => by have := hf k e; omega⟩
  intro k hk
  rcases hA2 with rfl | rfl
  · exact hf k hk
  · simp [ob] at hk
    have := hm.size
    omega

theorem getS_cons (h : UInt8) (t : List UInt8) (n : Nat) (hn : n = h.toNat % 128) (h8 : ¬ 8 < n) :
    getS (h :: t) = if t.length < n then (0, 0) else if badLead (t.take n) then (0, 0) else (if 128 ≤ h.toNat then -1 - (be (t.take n) : Int) else be (t.take n), 1 + n) := by
  subst hn
  simp only [getS, rnum, if_neg h8]
  by_cases h1 : t.length < h.toNat % 128
  · simp [h1]
  · by_cases h2 : badLead (t.take (h.toNat % 128)) = true
    · simp [h1, h2]
    · simp only [if_neg h1, if_neg h2, List.length_drop, List.length_cons]
      congr 1
      omega
set_option maxRecDepth 100000 in
set_option maxHeartbeats 2000000 in
theorem ref1get_any (A : Option Addr) (n0 c0 : Nat) (b : List UInt8) (w : World) (hr : Rd w 1 A n0 (u8s b)) (hn0 : n0 ≤ 1000000000) :
    Calls Try.prog 23 #[.slice A n0 c0] w fun e w' => e = .returned (.tuple #[.int .i64 (getS b).1, .int .i64 (getS b).2]) ∧ w = w' := by
  have hl : b.length = n0 := by simpa using hr.len
  rcases b with _ | ⟨h, t⟩
  · have h0 : n0 = 0 := by simpa using hl.symm
    subst h0
    clear hl
    go_enter Try.func23, Try.ntmps23
    go_wp2
    go_returns
    exact ⟨rfl, rfl⟩
  · have hl2 : t.length + 1 = n0 := by simpa using hl
    clear hl
    obtain ⟨bb, o, rfl, hcell⟩ := hr.addr (by omega)
    have hc0 : w.cell? ⟨bb, o, none⟩ = some (.int .u8 (h.toNat : Int)) := hcell 0 _ rfl
    have h256 := h.toNat_lt
    obtain ⟨n, hn⟩ : ∃ n, n = h.toNat % 128 := ⟨_, rfl⟩
    have Hn := Lib.hid hn
    have hmod : (h.toNat : Int) % 128 = (n : Int) := by omega
    have hne : ((n0 : Int) == 0) = false := by rw [beq_eq_false_iff_ne]; omega
    have hn128 : n < 128 := by omega
    have hl3 : t.length + 1 ≤ n0 := by omega
    have hl4 : n0 ≤ t.length + 1 := by omega
    have Hcell := Lib.hid hcell
    clear hn hcell hl2
    by_cases h8 : 8 < n
    · have hv := Lib.hid (show getS (h :: t) = (0, 0) by simp [getS, rnum, ← Hn.out, h8])
      go_enter Try.func23, Try.ntmps23
      go_wp2
      go_returns
      rw [hv.out]
      exact ⟨rfl, rfl⟩
    · have Hr := Lib.hid (getS_cons h t n Hn.out h8)
      by_cases hfar : t.length < n
      · go_enter Try.func23, Try.ntmps23
        go_wp2
        go_returns
        rw [Hr.out, if_pos hfar]
        exact ⟨rfl, rfl⟩
      · rw [if_neg hfar] at Hr
        obtain ⟨ds, hds⟩ : ∃ ds, ds = t.take n := ⟨_, rfl⟩
        rw [← hds] at Hr
        have hdl : ds.length = n := by rw [hds, List.length_take]; omega
        have Hdl := Lib.hid hdl
        have hdc : ∀ k (hk : k < ds.length), w.cell? ⟨bb, o + (k + 1), none⟩ = some (.int .u8 (ds[k].toNat : Int)) := by
          intro k hk
          have hkt : k < t.length := by omega
          have e : (h :: t)[k + 1]'(by simp; omega) = ds[k] := by
            subst hds
            simp [List.getElem_take]
          have := Hcell.out (k + 1) _ (u8s_at (h :: t) (k + 1) (by simp; omega))
          rw [e] at this
          exact this
        have Hdc := Lib.hid hdc
        clear hds hdl hdc Hcell
        have hsg : (128 ≤ h.toNat) ∨ h.toNat < 128 := by omega
        by_cases hn0' : n = 0
        · subst hn0'
          have e0 : ds = [] := List.eq_nil_of_length_eq_zero Hdl.out
          subst e0
          rw [if_neg (by simp [badLead])] at Hr
          rcases hsg with hsg | hsg
          all_goals
            go_enter Try.func23, Try.ntmps23
            go_wp2
            refine wp_loop_rounds 1 ?_
            rw [rounds_succ]
            go_wp2
            go_returns
            rw [Hr.out]
            first | rw [if_pos (by omega)] | rw [if_neg (by omega)]
            exact ⟨rfl, rfl⟩
        · rcases ds with _ | ⟨d0, dt⟩
          · have := Hdl.out; simp at this; omega
          have hd0 : w.cell? ⟨bb, o + 1, none⟩ = some (.int .u8 (d0.toNat : Int)) := Hdc.out 0 (by simp)
          have hp : 0 < n := by omega
          by_cases hz : d0 = 0
          · have Hv := Lib.hid (show getS (h :: t) = (0, 0) by rw [Hr.out, if_pos (by simp [badLead, hz])])
            have t3 : ((d0.toNat : Int) == 0) = true := by subst hz; rfl
            clear Hr hz
            go_enter Try.func23, Try.ntmps23
            go_wp2
            go_returns
            rw [Hv.out]
            exact ⟨rfl, rfl⟩
          · have t3 : ((d0.toNat : Int) == 0) = false := by
              rw [beq_eq_false_iff_ne]
              intro e
              exact hz (UInt8.toNat_inj.1 (by simpa using e))
            by_cases h88 : n = 8 ∧ 128 ≤ d0.toNat
            · obtain ⟨h9, h10⟩ := h88
              have Hv := Lib.hid (show getS (h :: t) = (0, 0) by
                rw [Hr.out, if_pos]
                have := Hdl.out
                simp [badLead]
                right
                refine ⟨by simp at this; omega, ?_⟩
                exact UInt8.le_iff_toNat_le.2 h10)
              have t4 : ((n : Int) == 8) = true := by simp [h9]
              clear Hr h9 hz
              go_enter Try.func23, Try.ntmps23
              go_wp2
              go_returns
              rw [Hv.out]
              exact ⟨rfl, rfl⟩
            · have hbl : badLead (d0 :: dt) = false := badLead_no hz fun e => by
                have := Hdl.out
                omega
              have hsm := Lib.hid (be_small (d0 :: dt) (by have := Hdl.out; omega) fun d l e1 e2 => by
                have := Hdl.out
                injection e1 with e1 _
                subst e1
                omega)
              rw [if_neg (by rw [hbl]; exact Bool.false_ne_true)] at Hr
              obtain ⟨ds, hds⟩ : ∃ ds, ds = d0 :: dt := ⟨_, rfl⟩
              rw [← hds] at hsm Hdl Hr
              have Hdc' : Hid (∀ k (hk : k < ds.length), w.cell? ⟨bb, o + (k + 1), none⟩ = some (.int .u8 (ds[k].toNat : Int))) := by subst hds; exact Hdc
              clear Hdc hbl hz hds
              have hk9 : (n = 8 ∧ (d0.toNat : Int) < 128) ∨ ¬ n = 8 := by omega
              clear h88
              rcases hk9 with ⟨h9, t6⟩ | h9
              all_goals
                first
                | have t4 : ((n : Int) == 8) = true := by simp [h9]
                | have t4 : ((n : Int) == 8) = false := by rw [beq_eq_false_iff_ne]; omega
                clear h9
                go_enter Try.func23, Try.ntmps23
                go_wp2
                go_loop [5, 6] (fun s5 s6 => ∃ k v : Nat, k ≤ n ∧ Hid (v = be (ds.take k)) ∧ s5 = .int .i64 v ∧ s6 = .int .i64 ↑(k + 1)) (fun _ i => n + 1 - (intOf i).toNat)
                case atStart => exact ⟨0, 0, Nat.zero_le _, Lib.hid (by simp [be]), rfl, rfl⟩
                case round =>
                  obtain ⟨k, v, hk, Hv, rfl, rfl⟩ := hrel
                  by_cases hkn : k < n
                  · have hlt : k < ds.length := by rw [Hdl.out]; exact hkn
                    have hck := Hdc'.out k hlt
                    have hst := be_step ds k hlt
                    have hsm1 := hsm.out (k + 1)
                    rw [hst, ← Hv.out] at hsm1
                    rw [← Hv.out] at hst
                    have hd256 := ds[k].toNat_lt
                    obtain ⟨d, hd⟩ : ∃ d, d = ds[k].toNat := ⟨_, rfl⟩
                    rw [← hd] at hsm1 hst hck hd256
                    have Hst := Lib.hid hst.symm
                    clear hst hd
                    go_wp2
                    go_round
                    case rel => exact ⟨k + 1, v * 256 + d, by omega, Hst, by go_num, by go_num⟩
                    case measure => simp [intOf]; omega
                  · obtain rfl : n = k := by omega
                    have hv := Lib.hid (show v = be ds by rw [Hv.out, List.take_of_length_le (by rw [Hdl.out]; exact Nat.le_refl _)])
                    have hvb := hsm.out n
                    rw [← Hv.out] at hvb
                    clear Hv
                    rcases hsg with hsg | hsg
                    all_goals
                      go_wp2
                      go_returns
                      rw [Hr.out, ← hv.out]
                      first | rw [if_pos (by omega)] | rw [if_neg (by omega)]
                      exact ⟨by simp, rfl⟩

theorem rnum_rest {b r : List UInt8} {n : Int} (h : rnum b = some (n, r)) : r = b.drop (b.length - r.length) ∧ r.length < b.length := by
  rcases b with _ | ⟨x, t⟩
  · cases h
  · simp only [rnum] at h
    split at h
    · cases h
    · split at h
      · cases h
      · split at h
        · cases h
        · rename_i h1 h2 h3
          injection h with h
          injection h with _ h
          have hl : r.length = t.length - x.toNat % 128 := by rw [← h, List.length_drop]
          have e : (x :: t).length - r.length = x.toNat % 128 + 1 := by simp; omega
          refine ⟨?_, by simp; omega⟩
          rw [e, List.drop_succ_cons]
          exact h.symm
theorem rnum_bounds {b r : List UInt8} {n : Int} (h : rnum b = some (n, r)) : -9223372036854775808 ≤ n ∧ n ≤ 9223372036854775807 := by
  have := rnumS_le (some b)
  simpa [rnumS, h] using this

set_option maxHeartbeats 1000000 in
theorem ref1gettext_any (A : Option Addr) (n0 c0 : Nat) (b : List UInt8) (w : World) (hr : Rd w 1 A n0 (u8s b)) (hn0 : n0 ≤ 1000000000) (hc0 : n0 ≤ c0) (hcm : c0 ≤ maxLen) :
    Calls Try.prog 24 #[.slice A n0 c0] w fun e w' => e = .returned (.tuple #[.string ⟨(getTextS b).1.toArray⟩, .int .i64 (getTextS b).2]) ∧ w = w' := by
  unfold maxLen at hcm
  have hl : b.length = n0 := by simpa using hr.len
  have Hl := Lib.hid hl
  clear hl
  go_enter Try.func24, Try.ntmps24
  go_wp2_with fail
  refine (ref1get_any A n0 c0 b w hr hn0).mono ?_
  rintro e w1 ⟨rfl, rfl⟩
  rcases hb : rnum b with _ | ⟨n, r⟩
  · have h1 : getS b = (0, 0) := by simp [getS, hb]
    have Ht := Lib.hid (show getTextS b = ([], 0) by simp [getTextS, hb])
    rw [h1]
    clear hb h1
    go_wp2
    go_returns
    rw [Ht.out]
    exact ⟨rfl, rfl⟩
  · have h1 : getS b = (n, b.length - r.length) := by simp [getS, hb]
    have Ht := Lib.hid (show getTextS b = if n < 0 ∨ (r.length : Int) < n then ([], 0) else (r.take n.toNat, b.length - r.length + n.toNat) by simp [getTextS, hb])
    obtain ⟨hr1, hr2⟩ := rnum_rest hb
    obtain ⟨hn1, hn2⟩ := rnum_bounds hb
    rw [h1]
    obtain ⟨k, hk⟩ : ∃ k, k = b.length - r.length := ⟨_, rfl⟩
    rw [← hk] at Ht hr1 ⊢
    have hkn : k ≤ n0 := by have := Hl.out; omega
    have hk0 : 0 < k := by omega
    have hrl : r.length + k ≤ n0 := by have := Hl.out; omega
    have hrl2 : n0 ≤ r.length + k := by have := Hl.out; omega
    have hkz : ((k : Int) == 0) = false := by rw [beq_eq_false_iff_ne]; omega
    have Hr1 := Lib.hid hr1
    clear hb h1 hk hr1 hr2
    by_cases hneg : n < 0
    · go_wp2
      go_returns
      rw [Ht.out, if_pos (.inl hneg)]
      exact ⟨rfl, rfl⟩
    · obtain ⟨m, rfl⟩ := Int.eq_ofNat_of_zero_le (show 0 ≤ n by omega)
      by_cases hfar : r.length < m
      · have hfar2 : (n0 : Int) - k < m := by omega
        go_wp2
        go_returns
        rw [Ht.out, if_pos (.inr (by omega))]
        exact ⟨rfl, rfl⟩
      · have hnf : (m : Int) ≤ (n0 : Int) - k := by omega
        rw [if_neg (by omega), Int.toNat_natCast] at Ht
        have hd := (hr.cut (k := k) (cap := c0) hkn hc0)
        rw [Nat.mul_one, u8s_drop, ← Hr1.out] at hd
        have hd2 := hd.take (k := m) (by omega)
        rw [Nat.mul_one, u8s_take] at hd2
        have hcv := fun c => run_string_of (P := Try.prog) w 24 9 5 _ m c (r.take m) Try.underlying24 Try.underlying5 Try.underlying9 hd2
        by_cases hck : c0 = k
        · have hcv2 := hcv 0
          rw [if_pos hck] at hcv2
          subst hck
          clear hcv hd hd2
          go_wp2
          go_returns
          rw [Ht.out]
          refine ⟨?_, rfl⟩
          simp
        · have hcv2 := hcv (c0 - k)
          rw [if_neg hck] at hcv2
          clear hcv hd hd2
          go_wp2
          go_returns
          rw [Ht.out]
          refine ⟨?_, rfl⟩
          simp
end Go.Proofs.Ythmonbkdecacnaa
