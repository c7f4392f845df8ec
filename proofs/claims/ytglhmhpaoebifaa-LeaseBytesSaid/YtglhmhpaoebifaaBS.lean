import Derived.Test.YtglhmhpaoebifaaBR
namespace Go.Proofs.Ytglhmhpaoebifaa
set_option linter.unusedVariables false
set_option linter.unusedSimpArgs false
open Go.RowKit
attribute [local simp] isCut_nil isCut_region isCut_seq isCut_block isCut_loop isCut_cond isCut_skip isCut_exit isCut_ret isCut_range swapK putK altK condK_bool pickP_bool stepP stepO onPure_some onPure_none onImpl_some onImpl_none stepC onGP_some onGP_none onGV_some condG mkG onIt_it nextP_ptr takeP_eq takeV_some takeN_none takeN_some takeG_some takeO_some altO_some pureV binV2 eqF eqOp ovlV ovl2 rowAt capV binV intBin strBin isSh shV fldV ixV sliceV slice3V loadAV nilV lenV callV unV convV viewS cellsH loadV fldCut AV.ung AV.ungs AV.gc AV.cells AS.ev AS.put anyS gcsV lens lnO gV guardV retK RetP_eq resV oneV anyRo loIx hiIx implO callP_clo evL gcsL clearV storeAV AS.push AS.setO appV appZ shortS copyV buildV partsV fillV srcV fzO okV isCell_c isCell_ptr isCell_sl isCell_fs isCell_fp isCell_clo rowZ_one rowZ_zero rowZ_2 rowZ_3 rowZ_4 rowZ_5 rowZ_6 rowZ_7 rowZ_8 rowZ_9 rowZ_10 rowZ_11 rowZ_12 noHo Value.oneCell' max2V min2V afterH putBack frzFrom frzO rebO backIx nilEq_sl nilEq_fs nilOp_eql nilOp_neq AV.reb AV.rebL
attribute [local simp ↓] runK_skip runK_region runK_draw runK_seq runK_cut runK_cond runK_block runK_loop runK_exit runK_label runK_goto runK_ret runK_range contK_nil contK_seq contK_seq_ret contK_seq_exit contK_seq_goto contK_block contK_block_ret contK_block_goto contK_block_exit runO_nil runO_cons roundK_exit roundK_ret roundK_goto exitK_ret cutK_ret cutK_exit runE_done runE_nil runE_take runE_alt condG_true condG_false
set_option maxRecDepth 10000
/-! ## The document's answer: Wait, Same, Sorted, Put -/
def rwT (version u : Int) (x : LeaseS) : Int := if 0 < version ∧ x.v < version - 1 ∧ u < x.u then x.u else u
def rwL (l : List LeaseS) (version : Int) : Int := l.foldl (rwT version) 0
theorem rwL_succ (l : List LeaseS) (version : Int) (j : Nat) (hj : j < l.length) : rwL (l.take (j + 1)) version = rwT version (rwL (l.take j) version) l[j] := by
  unfold rwL
  rw [List.take_succ_eq_append_getElem hj, List.foldl_append]
  rfl
set_option maxHeartbeats 4000000 in
theorem wait_ref (l : List LeaseS) (hl : l.length ≤ 1000) (version now : Int) (hv : i64ok version) : ACalls Try.prog 26 [.fs 3 l.length (leasesA l), .c (.int .i64 version), .c (.int .i64 now)] [] (fun _ => false) (fun r h' => r = .c (.int .i64 (rwL (liveL l now) version)) ∧ h' = []) := by
  refine acalls mixed Try.func26 rfl Try.ntmps26 rfl fun E hE hst hho => ?_
  simp (maxSteps := 1000000) [hho, -List.reduceReplicate]
  refine call_x [] (living_ref l hl now) rfl rfl ⟨rfl, rfl⟩ hho (by simp) (by decide) (by simp) (by simp) ?_
  obtain ⟨d, hd⟩ : ∃ d, d = liveL l now := ⟨_, rfl⟩
  have hdl : d.length ≤ 1000 := by rw [hd]; exact Nat.le_trans (List.length_filter_le _ _) hl
  rw [← hd]
  simp (maxSteps := 1000000) [hho, -List.reduceReplicate]
  refine loop_k mixed (fun j : Nat => ⟨slotsOf 37 [(1, .c (.int .i64 version)), (7, .c (.int .i64 (rwL (d.take j) version))), (12, .fs 3 d.length (leasesA d)), (13, .c (.int .i64 d.length)), (14, .c (.int .i64 (j : Int)))], []⟩) (fun j => d.length - j) (fun j => j ≤ d.length) 0 (Nat.zero_le _) ?_ ?_
  · exact wk_eq (by simp [hE, lens]) (by simp) (by simp [livH, livO, AV.livL, AV.liv, wkL, wkV, List.range', slotsOf, rwL])
  · intro j hj
    by_cases hjl : j < d.length
    · have hat := leasesA_at d j hjl
      have ew : IntKind.i64.wrap ((j : Int) + 1) = (j + 1 : Nat) := by rw [IntWalk.i64_in _ (by omega)]; rfl
      have el : j * 3 + 3 ≤ d.length * 3 := by omega
      obtain ⟨x, hx⟩ : ∃ x, x = d[j] := ⟨_, rfl⟩
      have hv2 := rwL_succ d version j hjl
      rw [← hx] at hat hv2
      obtain ⟨u, hu⟩ : ∃ u, u = rwL (d.take j) version := ⟨_, rfl⟩
      rw [← hu] at hv2
      by_cases c0 : 0 < version
      · have ev : IntKind.i64.wrap (version - 1) = version - 1 := IntWalk.i64_in _ (by unfold i64ok at hv; omega)
        by_cases c1 : x.v < version - 1
        · by_cases c2 : u < x.u
          · rw [rwT, if_pos ⟨c0, c1, c2⟩] at hv2
            simp (maxSteps := 1000000) [slotsOf, hho, hjl, hat, el, leaseA, ← hu, c0, ev, c1, c2, ew, -List.reduceReplicate]
            refine round_next (j + 1) (by omega) (by omega) ?_
            rw [hv2]
            exact wk_of 0 1 (by simp) (by simp [hE, lens]) (by simp) (by simp [livH, livO, AV.livL, AV.liv, wkL, wkV, List.range']) (by simp [livH, livO, AV.livL, AV.liv, wkL, wkV, List.range', slotsOf])
          · rw [rwT, if_neg (fun h => c2 h.2.2)] at hv2
            simp (maxSteps := 1000000) [slotsOf, hho, hjl, hat, el, leaseA, ← hu, c0, ev, c1, c2, ew, -List.reduceReplicate]
            refine round_next (j + 1) (by omega) (by omega) ?_
            rw [hv2]
            exact wk_of 0 1 (by simp) (by simp [hE, lens]) (by simp) (by simp [livH, livO, AV.livL, AV.liv, wkL, wkV, List.range']) (by simp [livH, livO, AV.livL, AV.liv, wkL, wkV, List.range', slotsOf])
        · rw [rwT, if_neg (fun h => c1 h.2.1)] at hv2
          simp (maxSteps := 1000000) [slotsOf, hho, hjl, hat, el, leaseA, ← hu, c0, ev, c1, ew, -List.reduceReplicate]
          refine round_next (j + 1) (by omega) (by omega) ?_
          rw [hv2]
          exact wk_of 0 1 (by simp) (by simp [hE, lens]) (by simp) (by simp [livH, livO, AV.livL, AV.liv, wkL, wkV, List.range']) (by simp [livH, livO, AV.livL, AV.liv, wkL, wkV, List.range', slotsOf])
      · rw [rwT, if_neg (fun h => c0 h.1)] at hv2
        simp (maxSteps := 1000000) [slotsOf, hho, hjl, hat, el, leaseA, ← hu, c0, ew, -List.reduceReplicate]
        refine round_next (j + 1) (by omega) (by omega) ?_
        rw [hv2]
        exact wk_of 0 1 (by simp) (by simp [hE, lens]) (by simp) (by simp [livH, livO, AV.livL, AV.liv, wkL, wkV, List.range']) (by simp [livH, livO, AV.livL, AV.liv, wkL, wkV, List.range', slotsOf])
    · obtain rfl : j = d.length := by omega
      simp (maxSteps := 1000000) [slotsOf, hho, -List.reduceReplicate]
      exact Ret.drop (by rfl) ⟨by simp, rfl⟩
def eqB (x y : LeaseS) : Bool := decide (x.s = y.s) && (decide (x.v = y.v) && decide (x.u = y.u))
theorem eqB_true {x y : LeaseS} : eqB x y = true ↔ x = y := by
  cases x; cases y
  simp [eqB]
set_option maxHeartbeats 4000000 in
theorem same_ref (a b : List LeaseS) (ha : a.length ≤ 1000) (hb : b.length ≤ 1000) (R : Bool) (hR : R = true ↔ a = b) : ACalls Try.prog 27 [.fs 3 a.length (leasesA a), .fs 3 b.length (leasesA b)] [] (fun _ => false) (fun r h' => r = .c (.bool R) ∧ h' = []) := by
  refine acalls mixed Try.func27 rfl Try.ntmps27 rfl fun E hE hst hho => ?_
  by_cases hlen : a.length = b.length
  · have hlenI : (a.length : Int) = b.length := by omega
    simp (maxSteps := 1000000) [hho, hlen, -List.reduceReplicate]
    refine loop_k mixed (fun j : Nat => ⟨slotsOf 26 [(0, .fs 3 b.length (leasesA a)), (1, .fs 3 b.length (leasesA b)), (12, .c (.int .i64 b.length)), (13, .c (.int .i64 (j : Int)))], []⟩) (fun j => b.length - j) (fun j => j ≤ b.length ∧ ∀ i (hi : i < a.length) (hi' : i < b.length), i < j → a[i] = b[i]) 0 ⟨Nat.zero_le _, fun i _ _ h => by omega⟩ ?_ ?_
    · exact wk_eq (by simp [hE, lens]) (by simp) (by simp [livH, livO, AV.livL, AV.liv, wkL, wkV, List.range', slotsOf])
    · rintro j ⟨hj, hI⟩
      by_cases hjl : j < b.length
      · have hja : j < a.length := by omega
        have hat := leasesA_at a j hja
        have hat2 := leasesA_at b j hjl
        have ew : IntKind.i64.wrap ((j : Int) + 1) = (j + 1 : Nat) := by rw [IntWalk.i64_in _ (by omega)]; rfl
        have el : j * 3 + 3 ≤ b.length * 3 := by omega
        obtain ⟨x, hx⟩ : ∃ x, x = a[j] := ⟨_, rfl⟩
        obtain ⟨y, hy⟩ : ∃ y, y = b[j] := ⟨_, rfl⟩
        rw [← hx] at hat
        rw [← hy] at hat2
        have hxl : ((List.take 3 (leaseA x)).length = 3) := rfl
        have la : (leasesA a).length = b.length * 3 := by simp [hlen]
        simp (maxSteps := 1000000) [slotsOf, hho, hjl, -List.reduceReplicate]
        refine draw_k hho (.take 0 (.take 1 (.take 2 (.take 3 (.take 4 (.take 5 (.take 6 (.take 7 (.take 8 (.done)))))))))) [] [] (by decide +kernel) (by simp) ?_
        by_cases hxy : x = y
        · have hE1 : decide (x.s = y.s) = true ∧ decide (x.v = y.v) = true ∧ decide (x.u = y.u) = true := by subst hxy; simp
          simp (maxSteps := 1000000) [hho, hjl, hat, hat2, el, la, leaseA, hxy, roOf, holdOf, wrOf, altK, heldOk, Region.binds, ew, -List.reduceReplicate]
          refine round_next (j + 1) ⟨by omega, fun i h1 h2 hij => ?_⟩ (by omega) ?_
          · by_cases e : i = j
            · subst e; rw [← hx, ← hy]; exact hxy
            · exact hI i h1 h2 (by omega)
          · exact wk_eq (by simp [hE, lens]) (by simp) (by simp [livH, livO, AV.livL, AV.liv, wkL, wkV, List.range', slotsOf])
        · have hne : ¬ (x.s = y.s ∧ x.v = y.v ∧ x.u = y.u) := fun ⟨e1, e2, e3⟩ => hxy (by cases x; cases y; simp_all)
          simp (maxSteps := 1000000) [hho, hjl, hat, hat2, el, la, leaseA, hne, roOf, holdOf, wrOf, altK, heldOk, Region.binds, ew, -List.reduceReplicate]
          have hne' : ¬ x.s = y.s ∨ ¬ x.v = y.v ∨ ¬ x.u = y.u := by
            by_cases e1 : x.s = y.s
            · by_cases e2 : x.v = y.v
              · exact .inr (.inr fun e3 => hne ⟨e1, e2, e3⟩)
              · exact .inr (.inl e2)
            · exact .inl e1
          rw [if_pos hne']
          have hRf : R = false := by
            cases R with
            | false => rfl
            | true => exact absurd (by rw [hx, hy]; simp only [hR.1 rfl]) hxy
          exact Ret.drop (by rfl) ⟨by rw [hRf], rfl⟩
      · obtain rfl : j = b.length := by omega
        have hab : a = b := List.ext_getElem hlen fun i h1 h2 => hI i h1 h2 h2
        simp (maxSteps := 1000000) [slotsOf, hho, -List.reduceReplicate]
        exact Ret.drop (by rfl) ⟨by rw [hR.2 hab], rfl⟩
  · have hne : R = false := by
      cases R with
      | false => rfl
      | true => exact absurd (congrArg List.length (hR.1 rfl)) hlen
    have hlenI : ¬ (a.length : Int) = b.length := by omega
    simp (maxSteps := 1000000) [hho, hlenI, hlen, -List.reduceReplicate]
    exact Ret.drop (by rfl) ⟨by rw [hne], rfl⟩
/-- nil for a list, and a flag -/
theorem Ret.nil2 {st : Nat → Bool} {h : List AObj} {b : Value} {Post : AV → List AObj → Prop} (sz : Nat) (hr : Ret st Post h (.tup [.fs sz 0 [], .c b])) : Ret st Post h (.tup [.c (.slice none 0 0), .c b]) := by
  refine Ret.wk (fun E hE => ?_) hr
  refine wk_slot 0 (old := .tup [.c (.slice none 0 0), .c b]) rfl fun G F w v _ hv => ?_
  obtain ⟨cs, rfl, h1, h2⟩ := tup_inv hv
  refine .tup _ cs h1 fun j u x hu hx => ?_
  match j, hu with
  | 0, hu => simp at hu; subst hu; exact nil_fs0 sz (h2 0 _ x rfl hx)
  | 1, hu => simp at hu; subst hu; exact h2 1 _ x rfl hx
/-- the leases of the sessions below s, by their sessions -/
def srtP (l : List LeaseS) (s : Nat) : List LeaseS := (List.range s).flatMap fun t : Nat => l.filter fun x => decide (x.s = (t : Int))
theorem srtP_succ (l : List LeaseS) (s : Nat) : srtP l (s + 1) = srtP l s ++ l.filter fun x => decide (x.s = (s : Int)) := by simp [srtP, List.range_succ]
theorem srtP_len (l : List LeaseS) : ∀ s, (srtP l s).length ≤ s * l.length := by
  intro s
  induction s with
  | zero => simp [srtP]
  | succ s ih =>
    rw [srtP_succ, List.length_append, Nat.succ_mul]
    have := List.length_filter_le (fun x : LeaseS => decide (x.s = (s : Int))) l
    omega
def srtOne (l : List LeaseS) (s : Nat) : Prop := ∀ t : Nat, t < s → (l.filter fun x => decide (x.s = (t : Int))).length ≤ 1
def SrtOk (l : List LeaseS) : Prop := srtOne l 16 ∧ ∀ x ∈ l, rightL x = true
set_option maxHeartbeats 8000000 in
theorem sorted_ref (l : List LeaseS) (hl : l.length ≤ 1000) (Post : AV → List AObj → Prop) (h1 : SrtOk l → Post (.tup [.fs 3 (srtP l 16).length (leasesA (srtP l 16)), .c (.bool true)]) []) (h2 : ¬ SrtOk l → Post (.tup [.fs 3 0 [], .c (.bool false)]) []) : ACalls Try.prog 15 [.fs 3 l.length (leasesA l)] [] (fun _ => false) Post := by
  refine acalls mixed Try.func15 rfl Try.ntmps15 rfl fun E hE hst hho => ?_
  simp (maxSteps := 1000000) [hho, -List.reduceReplicate]
  refine loop_k mixed (fun s : Nat => ⟨slotsOf 45 [(0, .fs 3 l.length (leasesA l)), (2, .c (.slice none 0 0)), (3, .c (.bool false)), (4, .sl 0 3 0 (srtP l s).length ((srtP l s).length * 3)), (5, .c (.int .i64 (s : Int)))], [rowL (srtP l s)]⟩) (fun s => 16 - s) (fun s => s ≤ 16 ∧ srtOne l s) 0 ⟨Nat.zero_le _, fun t h => by omega⟩ ?_ ?_
  · refine Wk.trans (wk_virt 4 48 3 rfl) ?_
    exact wk_eq (by simp [hE, lens]) (by simp [rowL, leasesA, srtP]) (by simp [livH, livO, AV.livL, AV.liv, wkL, wkV, List.range', slotsOf, srtP])
  · rintro s ⟨hs, hI⟩
    have hsl := srtP_len l s
    have hsl2 : s * l.length ≤ 16000 := Nat.le_trans (Nat.mul_le_mul hs hl) (by decide)
    by_cases hs16 : s < 16
    · have hs16I : (s : Int) < 16 := by omega
      have ews : IntKind.i64.wrap ((s : Int) + 1) = (s + 1 : Nat) := by rw [IntWalk.i64_in _ (by omega)]; rfl
      obtain ⟨p, hp⟩ : ∃ p : LeaseS → Bool, p = fun x => decide (x.s = (s : Int)) := ⟨_, rfl⟩
      obtain ⟨q, hq⟩ : ∃ q, q = srtP l s := ⟨_, rfl⟩
      have hq2 : srtP l (s + 1) = q ++ l.filter p := by rw [srtP_succ, hq, hp]
      have hql : q.length ≤ 16000 := by rw [hq]; omega
      simp (maxSteps := 1000000) [slotsOf, rowL, hho, hs16I, ← hq, -List.reduceReplicate]
      refine loop_k mixed (fun j : Nat => ⟨slotsOf 45 [(0, .fs 3 l.length (leasesA l)), (2, .c (.slice none 0 0)), (3, .c (.bool false)), (4, .sl 0 3 0 (q ++ (l.take j).filter p).length ((q ++ (l.take j).filter p).length * 3)), (5, .c (.int .i64 (s : Int))), (6, .c (.int .i64 ((l.take j).filter p).length)), (15, .fs 3 l.length (leasesA l)), (16, .c (.int .i64 l.length)), (17, .c (.int .i64 (j : Int)))], [rowL (q ++ (l.take j).filter p)]⟩) (fun j => l.length - j) (fun j => j ≤ l.length) 0 (Nat.zero_le _) ?_ ?_
      · exact wk_eq (by simp [hE, lens]) (by simp [rowL]) (by simp [livH, livO, AV.livL, AV.liv, wkL, wkV, List.range', slotsOf])
      · intro j hj
        by_cases hjl : j < l.length
        · have hat := leasesA_at l j hjl
          have ew : IntKind.i64.wrap ((j : Int) + 1) = (j + 1 : Nat) := by rw [IntWalk.i64_in _ (by omega)]; rfl
          have el : j * 3 + 3 ≤ l.length * 3 := by omega
          have hfl := flt_len p l j
          obtain ⟨x, hx⟩ : ∃ x, x = l[j] := ⟨_, rfl⟩
          have hv2 := flt_succ p l j hjl
          rw [← hx] at hat hv2
          obtain ⟨m, hm⟩ : ∃ m, m = (l.take j).filter p := ⟨_, rfl⟩
          rw [← hm] at hv2 hfl
          by_cases hpx : x.s = (s : Int)
          · have hpx' : p x = true := by rw [hp]; exact decide_eq_true hpx
            rw [if_pos hpx'] at hv2
            have ewm : IntKind.i64.wrap ((m.length : Int) + 1) = (m.length + 1 : Nat) := by rw [IntWalk.i64_in _ (by omega)]; rfl
            simp (maxSteps := 1000000) [rowL, slotsOf, hho, hjl, hat, el, leaseA, hpx, ew, ewm, ← hm, -List.reduceReplicate]
            refine ⟨by omega, round_next (j + 1) (by omega) (by omega) ?_⟩
            exact wk_of 1 2 (by simp) (by simp [hE, lens]) (by simp [rowL, hv2, leasesA_snoc, leasesA_app, leasesA, leaseA, hpx]) (by simp [livH, livO, AV.livL, AV.liv, wkL, wkV, List.range', rowL]) (by simp [livH, livO, AV.livL, AV.liv, wkL, wkV, List.range', slotsOf, hv2, Nat.add_mul, Nat.add_assoc])
          · have hpx' : p x = false := by rw [hp]; exact decide_eq_false hpx
            rw [if_neg (by rw [hpx']; decide), List.append_nil] at hv2
            simp (maxSteps := 1000000) [rowL, slotsOf, hho, hjl, hat, el, leaseA, hpx, ew, ← hm, -List.reduceReplicate]
            refine round_next (j + 1) (by omega) (by omega) ?_
            exact wk_of 1 1 (by simp) (by simp [hE, lens]) (by simp [rowL, hv2]) (by simp [livH, livO, AV.livL, AV.liv, wkL, wkV, List.range', rowL]) (by simp [livH, livO, AV.livL, AV.liv, wkL, wkV, List.range', slotsOf, hv2])
        · obtain rfl : j = l.length := by omega
          by_cases h1x : (1 : Int) < (l.filter p).length
          · simp (maxSteps := 1000000) [rowL, slotsOf, hho, h1x, -List.reduceReplicate]
            refine Ret.nil2 3 ?_
            refine Ret.sel [] (fun _ => false) (ho := by rfl) (ha := by rfl) ?_ ?_ (by decide) (by simp) (by simp) (h2 fun hok => ?_)
            · simp
            · simp
            · have := hok.1 s hs16
              rw [← hp] at this
              omega
          · simp (maxSteps := 1000000) [rowL, slotsOf, hho, h1x, ews, -List.reduceReplicate]
            refine round_next (s + 1) ⟨by omega, fun t ht => ?_⟩ (by omega) ?_
            · by_cases e : t = s
              · subst e; rw [← hp]; omega
              · exact hI t (by omega)
            · exact wk_eq (by simp [hE, lens]) (by simp [rowL, hq2]) (by simp [livH, livO, AV.livL, AV.liv, wkL, wkV, List.range', slotsOf, hq2])
    · obtain rfl : s = 16 := by omega
      have hI0 := hI
      simp (maxSteps := 1000000) [slotsOf, rowL, hho, -List.reduceReplicate]
      clear hI
      have hI := hI0
      obtain ⟨q, hq⟩ : ∃ q, q = srtP l 16 := ⟨_, rfl⟩
      rw [← hq] at h1 hsl ⊢
      refine loop_k mixed (fun j : Nat => ⟨slotsOf 45 [(0, .fs 3 l.length (leasesA l)), (4, .sl 0 3 0 q.length (q.length * 3)), (34, .fs 3 l.length (leasesA l)), (35, .c (.int .i64 l.length)), (36, .c (.int .i64 (j : Int)))], [rowL q]⟩) (fun j => l.length - j) (fun j => j ≤ l.length ∧ ∀ i (hi : i < l.length), i < j → rightL l[i] = true) 0 ⟨Nat.zero_le _, fun i _ h => by omega⟩ ?_ ?_
      · exact wk_eq (by simp [hE, lens]) (by simp [rowL]) (by simp [livH, livO, AV.livL, AV.liv, wkL, wkV, List.range', slotsOf])
      · rintro j ⟨hj, hJ⟩
        by_cases hjl : j < l.length
        · have hat := leasesA_at l j hjl
          have ew : IntKind.i64.wrap ((j : Int) + 1) = (j + 1 : Nat) := by rw [IntWalk.i64_in _ (by omega)]; rfl
          have el : j * 3 + 3 ≤ l.length * 3 := by omega
          obtain ⟨x, hx⟩ : ∃ x, x = l[j] := ⟨_, rfl⟩
          rw [← hx] at hat
          have h3 : List.take 3 (leaseA x) = leaseA x := rfl
          simp (maxSteps := 1000000) [rowL, slotsOf, hho, hjl, hat, el, h3, -List.reduceReplicate]
          refine call_plain (fun _ => false) (right_ref x) (ha := by rfl) (by simp) ?_
          rintro r h' ⟨rfl, rfl⟩
          refine ⟨rfl, ?_⟩
          cases hrx : rightL x with
          | true =>
            simp (maxSteps := 1000000) [rowL, hho, ew, -List.reduceReplicate]
            refine round_next (j + 1) ⟨by omega, fun i hi hij => ?_⟩ (by omega) ?_
            · by_cases e : i = j
              · subst e; rw [← hx]; exact hrx
              · exact hJ i hi (by omega)
            · exact wk_of 1 1 (by simp) (by simp [hE, lens]) (by simp [rowL]) (by simp [livH, livO, AV.livL, AV.liv, wkL, wkV, List.range', rowL]) (by simp [livH, livO, AV.livL, AV.liv, wkL, wkV, List.range', slotsOf])
          | false =>
            simp (maxSteps := 1000000) [rowL, hho, -List.reduceReplicate]
            refine Ret.nil2 3 ?_
            refine Ret.sel [] (fun _ => false) (ho := by rfl) (ha := by rfl) ?_ ?_ (by decide) (by simp) (by simp) (h2 fun hok => ?_)
            · simp
            · simp
            · have := hok.2 x (by rw [hx]; exact List.getElem_mem hjl)
              rw [hrx] at this; cases this
        · obtain rfl : j = l.length := by omega
          have hok : SrtOk l := ⟨hI, fun x hx => by
            obtain ⟨i, hi, rfl⟩ := List.getElem_of_mem hx
            exact hJ i hi hi⟩
          simp (maxSteps := 1000000) [rowL, slotsOf, hho, -List.reduceReplicate]
          refine Ret.sel [] (fun k => k == 0) (ho := by rfl) (ha := by rfl) ?_ ?_ (by decide) (by simp) (by simp) ?_
          · simp
          · refine ⟨⟨by simp, by simp, by unfold maxLen; omega, by rw [List.drop_zero, List.take_of_length_le (by simp), List.all_eq_true]; exact (leasesA_all _).2 trivial⟩, by simp⟩
          · simpa [List.take_of_length_le] using h1 hok
end Go.Proofs.Ytglhmhpaoebifaa
