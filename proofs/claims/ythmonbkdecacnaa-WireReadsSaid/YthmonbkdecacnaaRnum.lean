import Derived.Test.YthmonbkdecacnaaRead
namespace Go.Proofs.Ythmonbkdecacnaa
open Go.RowKit

/-- what a reader's function leaves -/
def Left (g : Nat) (F : Nat → Prop) (s : Option (List UInt8)) (v : Value) (w : World) (e : Ending) (w' : World) : Prop :=
  e = .returned v ∧ ∃ F', Rdr w' g s F' ∧ Sub F F' ∧ Mod (· = g) w w'
theorem Left.of_bad {g : Nat} {F : Nat → Prop} {v : Value} {w w' : World} (hF : F g) (h : Rdr w' g none (fun k => k = g)) (hm : Mod (· = g) w w') : Left g F none v w (.returned v) w' :=
  ⟨rfl, _, h, fun k e => by subst e; exact hF, hm⟩

set_option maxHeartbeats 1000000 in
theorem rnum_bad (g : Nat) (F : Nat → Prop) (w : World) (h : Rdr w g none F) :
    Calls Try.prog 13 #[.pointer (some ⟨g, 0, none⟩)] w (Left g F none (.int .i64 0) w) := by
  go_enter Try.func13, Try.ntmps13
  go_wp2_with fail
  refine (take_bad g 1 F w h).mono ?_
  rintro e w1 ⟨rfl, h1, h2⟩
  go_wp2
  go_returns
  exact Left.of_bad h.self h1 h2
theorem rnum_empty (g : Nat) (F : Nat → Prop) (w : World) (h : Rdr w g (some []) F) :
    Calls Try.prog 13 #[.pointer (some ⟨g, 0, none⟩)] w (Left g F none (.int .i64 0) w) := by
  go_enter Try.func13, Try.ntmps13
  go_wp2_with fail
  refine (take_far g [] 1 F w h (by simp)).mono ?_
  rintro e w1 ⟨rfl, h1, h2⟩
  go_wp2
  go_returns
  exact Left.of_bad h.self h1 h2
set_option maxRecDepth 100000 in
set_option maxHeartbeats 2000000 in
theorem rnum_cons (g : Nat) (F : Nat → Prop) (h : UInt8) (t : List UInt8) (w : World) (hr : Rdr w g (some (h :: t)) F) :
    Calls Try.prog 13 #[.pointer (some ⟨g, 0, none⟩)] w (Left g F (rnumS (some (h :: t))).2 (.int .i64 (rnumS (some (h :: t))).1) w) := by
  have a1 := and15 h
  have a2 := andNot143 h
  obtain ⟨m, hm⟩ : ∃ m, m = h.toNat % 16 := ⟨_, rfl⟩
  obtain ⟨q, hq⟩ : ∃ q, q = h.toNat % 128 / 16 * 16 := ⟨_, rfl⟩
  obtain ⟨n, hn⟩ : ∃ n, n = h.toNat % 128 := ⟨_, rfl⟩
  rw [← hm] at a1
  rw [← hq] at a2
  have h256 := h.toNat_lt
  have hmn : n = q + m := by omega
  have hm16 : m < 16 := by omega
  have Hn := Lib.hid hn
  have Hq := Lib.hid (show q = n / 16 * 16 by omega)
  clear hm hn hq
  go_enter Try.func13, Try.ntmps13
  go_wp2_with fail
  refine (take_ok g (h :: t) 1 F w hr (by simp)).mono ?_
  rintro e w1 ⟨A1, c1, rfl, hd1, hne1, hF1, hc1, F1, hr1, hs1, hm1⟩
  obtain ⟨b, o, rfl, hcell⟩ := hd1.addr (by omega)
  have hc0 : w1.cell? ⟨b, o, none⟩ = some (.int .u8 (h.toNat : Int)) := hcell 0 _ rfl
  by_cases h8 : 8 < n
  · have hv : rnumS (some (h :: t)) = (0, none) := by simp [rnumS, rnum, ← Hn.out, h8]
    have Hv := Lib.hid hv
    clear hv
    by_cases h16 : q = 0
    · have t1 : (((q : Nat) : Int) != 0) = false := by simp [h16]
      have t2 : 8 < m := by omega
      clear h16 hmn
      go_wp2_with fail
      refine (fail_any g _ _ _ hr1).mono ?_
      rintro e w2 ⟨rfl, h1, h2⟩
      go_wp2
      go_returns
      rw [Hv.out]
      exact Left.of_bad hr.self h1 (hm1.trans h2)
    · have t1 : (((q : Nat) : Int) != 0) = true := by rw [bne_iff_ne]; omega
      clear h16 hmn
      go_wp2_with fail
      refine (fail_any g _ _ _ hr1).mono ?_
      rintro e w2 ⟨rfl, h1, h2⟩
      go_wp2
      go_returns
      rw [Hv.out]
      exact Left.of_bad hr.self h1 (hm1.trans h2)
  · have h16 : q = 0 := by have := Hq.out; omega
    have t1 : (((q : Nat) : Int) != 0) = false := by simp [h16]
    obtain rfl : n = m := by omega
    clear h16 hmn
    have Hr := Lib.hid (rnumS_cons h t n Hn.out h8)
    go_wp2_with fail
    by_cases hfar : t.length < n
    · refine (take_far g t n F1 _ hr1 (by omega)).mono ?_
      rintro e w2 ⟨rfl, h1, h2⟩
      go_wp2_with fail
      refine (fail_any g _ _ _ h1).mono ?_
      rintro e w3 ⟨rfl, h3, h4⟩
      go_wp2
      go_returns
      rw [Hr.out, if_pos hfar]
      exact Left.of_bad hr.self h3 ((hm1.trans h2).trans h4)
    · refine (take_ok g t n F1 _ hr1 (by omega)).mono ?_
      rintro e w2 ⟨A2, c2, rfl, hd2, hne2, hF2, hc2, F2, hr2, hs2, hm2⟩
      have hn15 : n ≤ 8 := by omega
      obtain ⟨ds, hds⟩ : ∃ ds, ds = t.take n := ⟨_, rfl⟩
      rw [← hds] at hd2 Hr
      have hdl : ds.length = n := by rw [hds, List.length_take]; omega
      have Hds := Lib.hid hds
      clear hds
      have Hdl := Lib.hid hdl
      clear hdl
      have hdl1 : ds.length ≤ n := Nat.le_of_eq Hdl.out
      have hbg : b ≠ g := fun e => hne1 (by simp [ob, e])
      have hc2 : w2.cell? ⟨b, o, none⟩ = some (.int .u8 (h.toNat : Int)) := (hm2.cell (World.block_lt_of_cell? w1 _ hc0) hbg).trans hc0
      have hmm := hm1.trans hm2
      have hss := hs1.trans hs2
      rw [if_neg hfar] at Hr
      clear hd1 hcell hc0 hm1 hm2 hs1 hs2 hne1 hF1 hF2 hne2
      by_cases hn0 : n = 0
      · subst hn0
        have e0 : ds = [] := List.eq_nil_of_length_eq_zero Hdl.out
        subst e0
        have a3 := and128 h
        have hR : Hid (∀ v w', Rdr w' g (some (List.drop 0 (List.drop 1 (h :: t)))) F2 → Mod (· = g) w w' → v = (if 128 ≤ h.toNat then (-1 : Int) else 0) → Left g F (rnumS (some (h :: t))).2 (.int .i64 (rnumS (some (h :: t))).1) w (.returned (.int .i64 v)) w') := by
          intro v w' h1 h2 h3
          rw [Hr.out, if_neg (by simp [badLead])]
          refine ⟨by rw [h3]; rfl, F2, h1, hss, h2⟩
        obtain ⟨sg, hsg⟩ : ∃ sg : Bool, sg = decide (128 ≤ h.toNat) := ⟨_, rfl⟩
        have a4 : (bits .and .u8 (h.toNat : Int) 128 != 0) = sg := by
          rw [a3, hsg]
          by_cases hh : 128 ≤ h.toNat <;> simp [hh]
        have Hsg := Lib.hid hsg
        have hx := not_i64 0 (by omega) (by omega)
        clear Hr a3 hsg Hds
        cases sg
        all_goals
          go_wp2
          refine wp_loop_rounds 1 ?_
          rw [rounds_succ]
          go_wp2
          go_returns
          refine hR.out _ _ hr2 hmm ?_
          have := Hsg.out
          simp at this
          first | rw [if_pos (by omega)] | rw [if_neg (by omega)]
      · obtain ⟨b2, o2, rfl, hcell⟩ := hd2.addr (by omega)
        rcases ds with _ | ⟨d0, dt⟩
        · simp at hdl1; have := Hdl.out; simp at this; omega
        have hd0 : w2.cell? ⟨b2, o2, none⟩ = some (.int .u8 (d0.toNat : Int)) := hcell 0 _ rfl
        have hp : 0 < n := by omega
        by_cases hz : d0 = 0
        · have hv : rnumS (some (h :: t)) = (0, none) := by rw [Hr.out, if_pos (by simp [badLead, hz])]
          have Hv := Lib.hid hv
          have t3 : ((d0.toNat : Int) == 0) = true := by subst hz; rfl
          clear hv Hr hz hcell
          go_wp2_with fail
          refine (fail_any g _ _ _ hr2).mono ?_
          rintro e w3 ⟨rfl, h3, h4⟩
          go_wp2
          go_returns
          rw [Hv.out]
          exact Left.of_bad hr.self h3 (hmm.trans h4)
        · have t3 : ((d0.toNat : Int) == 0) = false := by
            rw [beq_eq_false_iff_ne]
            intro e
            exact hz (UInt8.toNat_inj.1 (by simpa using e))
          by_cases h88 : n = 8 ∧ 128 ≤ d0.toNat
          · obtain ⟨h9, h10⟩ := h88
            have hv : rnumS (some (h :: t)) = (0, none) := by
              rw [Hr.out, if_pos]
              have := Hdl.out
              simp [badLead]
              right
              refine ⟨by simp at this; omega, ?_⟩
              exact UInt8.le_iff_toNat_le.2 h10
            have Hv := Lib.hid hv
            have t4 : ((n : Int) == 8) = true := by simp [h9]
            clear hv Hr hcell h9
            go_wp2_with fail
            refine (fail_any g _ _ _ hr2).mono ?_
            rintro e w3 ⟨rfl, h3, h4⟩
            go_wp2
            go_returns
            rw [Hv.out]
            exact Left.of_bad hr.self h3 (hmm.trans h4)
          · have hbl : badLead (d0 :: dt) = false := badLead_no hz fun e => by
              have := Hdl.out
              omega
            have hsm := Lib.hid (be_small (d0 :: dt) (by omega) fun d l e1 e2 => by
              have := Hdl.out
              injection e1 with e1 _
              subst e1
              omega)
            rw [if_neg (by rw [hbl]; exact Bool.false_ne_true)] at Hr
            obtain ⟨ds, hds⟩ : ∃ ds, ds = d0 :: dt := ⟨_, rfl⟩
            rw [← hds] at hsm Hdl hcell hdl1 Hr
            have a3 := and128 h
            have hR : Hid (∀ v w', Rdr w' g (some (List.drop n (List.drop 1 (h :: t)))) F2 → Mod (· = g) w w' → v = (if 128 ≤ h.toNat then -1 - (be ds : Int) else be ds) → Left g F (rnumS (some (h :: t))).2 (.int .i64 (rnumS (some (h :: t))).1) w (.returned (.int .i64 v)) w') := by
              intro v w' h1 h2 h3
              rw [Hr.out]
              refine ⟨by rw [h3], F2, h1, hss, h2⟩
            obtain ⟨sg, hsg⟩ : ∃ sg : Bool, sg = decide (128 ≤ h.toNat) := ⟨_, rfl⟩
            have a4 : (bits .and .u8 (h.toNat : Int) 128 != 0) = sg := by
              rw [a3, hsg]
              by_cases hh : 128 ≤ h.toNat <;> simp [hh]
            have Hsg := Lib.hid hsg
            have Hcell := Lib.hid hcell
            clear hbl hz hds Hds Hr hss a3 hsg hcell
            have hk9 : (n = 8 ∧ (d0.toNat : Int) < 128) ∨ ¬ n = 8 := by omega
            clear h88
            rcases hk9 with ⟨h9, t6⟩ | h9
            all_goals
              first
              | have t4 : ((n : Int) == 8) = true := by simp [h9]
              | have t4 : ((n : Int) == 8) = false := by rw [beq_eq_false_iff_ne]; omega
              clear h9
              go_wp2_with fail
              go_loop [7, 65] (fun s7 s65 => ∃ k v : Nat, k ≤ n ∧ Hid (v = be (ds.take k)) ∧ s7 = .int .i64 v ∧ s65 = .int .i64 k) (fun _ i => n - (intOf i).toNat)
              case atStart => exact ⟨0, 0, Nat.zero_le _, Lib.hid (by simp [be]), rfl, rfl⟩
              case round =>
                obtain ⟨k, v, hk, Hv, rfl, rfl⟩ := hrel
                by_cases hkn : k < n
                · have hlt : k < ds.length := by rw [Hdl.out]; exact hkn
                  have hck : w2.cell? ⟨b2, o2 + k, none⟩ = some (.int .u8 (ds[k].toNat : Int)) := Hcell.out k _ (u8s_at ds k hlt)
                  have hst := be_step ds k hlt
                  have hsm1 := hsm.out (k + 1)
                  rw [hst, ← Hv.out] at hsm1
                  rw [← Hv.out] at hst
                  have hd256 := ds[k].toNat_lt
                  obtain ⟨d, hd⟩ : ∃ d, d = ds[k].toNat := ⟨_, rfl⟩
                  rw [← hd] at hsm1 hst hck hd256
                  have ho := or_i64 v d hd256 hsm1
                  have Hst := Lib.hid hst.symm
                  clear hst hd
                  go_wp2
                  go_round
                  case rel => exact ⟨k + 1, v * 256 + d, by omega, Hst, by go_num, by go_num⟩
                  case measure => simp [intOf]; omega
                · obtain rfl : k = n := by omega
                  have hv : v = be ds := by rw [Hv.out, List.take_of_length_le hdl1]
                  have hvb := hsm.out k
                  rw [← Hv.out] at hvb
                  have hx := not_i64 v (by omega) (by omega)
                  have Hv2 := Lib.hid hv
                  clear hv Hv
                  cases sg
                  all_goals
                    go_wp2
                    go_returns
                    refine hR.out _ _ hr2 hmm ?_
                    have := Hsg.out
                    rw [← Hv2.out]
                    simp at this
                    first | rw [if_pos (by omega)] | rw [if_neg (by omega)]

theorem rnum_any (g : Nat) (s : Option (List UInt8)) (F : Nat → Prop) (w : World) (h : Rdr w g s F) :
    Calls Try.prog 13 #[.pointer (some ⟨g, 0, none⟩)] w (Left g F (rnumS s).2 (.int .i64 (rnumS s).1) w) := by
  rcases s with _ | _ | ⟨x, t⟩
  · exact rnum_bad g F w h
  · exact rnum_empty g F w h
  · exact rnum_cons g F x t w h
theorem rnum_nil (w : World) : Calls Try.prog 13 #[.pointer none] w fun e w' => e = .returned (.int .i64 0) ∧ w = w' := by
  go_enter Try.func13, Try.ntmps13
  go_wp2_with fail
  refine (take_nil 1 w).mono ?_
  rintro e w1 ⟨rfl, rfl⟩
  go_wp2
  go_returns
  exact ⟨rfl, rfl⟩
end Go.Proofs.Ythmonbkdecacnaa
