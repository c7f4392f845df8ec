import Derived.Test.YtlepkpfbejfpiaaDoorYJ
namespace Go.Proofs.YtlepkpfbejfpiaaDoor
set_option linter.unusedVariables false
set_option linter.unusedSimpArgs false
open Go.RowKit
attribute [local simp] isCut_nil isCut_region isCut_seq isCut_block isCut_loop isCut_cond isCut_skip isCut_exit isCut_ret isCut_range swapK putK altK condK_bool pickP_bool stepP stepO onPure_some onPure_none onImpl_some onImpl_none stepC onGP_some onGP_none onGV_some condG mkG onIt_it nextP_ptr takeP_eq takeV_some takeV_none takeU_some takeU_none takeQ takeW_some takeN_none takeN_some takeG_some takeO_some altO_some pureV binV2 eqF eqOp ovlV ovl2 rowAt capV binV intBin strBin isSh shV fldV ixV sliceV slice3V loadAV nilV lenV callV unV convV viewS cellsH loadV fldCut AV.ung AV.ungs AV.gc AV.cells AS.ev AS.put anyS gcsV lens lnO gV guardV retK RetP_eq resV oneV anyRo loIx hiIx implO callP_clo evL gcsL clearV storeAV AS.push AS.setO appV appZ shortS copyV buildV partsV fillV srcV fzO okV isCell_c isCell_ptr isCell_sl isCell_fs isCell_fp isCell_clo rowZ_one rowZ_zero rowZ_2 rowZ_3 rowZ_4 rowZ_5 rowZ_6 rowZ_7 rowZ_8 rowZ_9 rowZ_10 rowZ_11 rowZ_12 noHo Value.oneCell' max2V min2V afterH putBack frzFrom frzO rebO backIx nilEq_sl nilEq_fs nilOp_eql nilOp_neq AV.reb AV.rebL
attribute [local simp ↓] runK_skip runK_region runK_draw runK_seq runK_cut runK_cond runK_block runK_loop runK_exit runK_label runK_goto runK_ret runK_range contK_nil contK_seq contK_seq_ret contK_seq_exit contK_seq_goto contK_block contK_block_ret contK_block_goto contK_block_exit runO_nil runO_cons roundK_exit roundK_ret roundK_goto exitK_ret cutK_ret cutK_exit runE_done runE_nil runE_take runE_alt condG_true condG_false
set_option maxRecDepth 10000
/-! ## Size -/
mutual
def sizeE (d : Nat) : ExprS → Nat
  | .mk _ _ o v t n _ _ l => if d = 0 ∨ 3000 < l.length ∨ 3000 < o.size ∨ 3000 < t.size ∨ 3000 < n.size ∨ 3000 < v.t.size then 3001 else sizeEs (d - 1) l (1 + o.size + t.size + n.size + v.t.size)
def sizeEs (d : Nat) : List ExprS → Nat → Nat
  | [], n => n
  | x :: l, n => if 3000 < n then 3001 else sizeEs d l (n + sizeE d x)
end
def bigE (d : Nat) (x : ExprS) : Prop := d = 0 ∨ 3000 < x.kids.length ∨ 3000 < x.op.size ∨ 3000 < x.tab.size ∨ 3000 < x.name.size ∨ 3000 < x.val.t.size
instance (d : Nat) (x : ExprS) : Decidable (bigE d x) := by unfold bigE; infer_instance
theorem sizeE_eq (d : Nat) (x : ExprS) : sizeE d x = if bigE d x then 3001 else sizeEs (d - 1) x.kids (1 + x.op.size + x.tab.size + x.name.size + x.val.t.size) := by
  cases x; rw [sizeE]; rfl
theorem sizeEs_bound (d B : Nat) : ∀ (l : List ExprS) (n : Nat), (∀ x ∈ l, sizeE d x ≤ B) → n ≤ 15000 + B → sizeEs d l n ≤ 15000 + B
  | [], n, _, h => by rw [sizeEs]; exact h
  | x :: l, n, hB, h => by
    rw [sizeEs]
    split
    · omega
    · have := hB x (by simp)
      exact sizeEs_bound d B l _ (fun y hy => hB y (by simp [hy])) (by omega)
theorem sizeE_bound (x : ExprS) : ∀ d, sizeE d x ≤ 15000 * (d + 1) := by
  induction x using ExprS.ind with
  | _ x ih =>
    intro d
    rw [sizeE_eq]
    split
    · omega
    · rename_i h
      unfold bigE at h
      cases d with
      | zero => omega
      | succ d =>
        have := sizeEs_bound d (15000 * (d + 1)) x.kids (1 + x.op.size + x.tab.size + x.name.size + x.val.t.size) (fun k hk => ih k hk d) (by omega)
        refine Nat.le_trans this ?_
        omega
theorem sizeEs_sum (d : Nat) : ∀ (l : List ExprS) (n : Nat), sizeEs d l n ≤ 3000 → sizeEs d l n = n + (l.map (sizeE d)).sum
  | [], n, _ => by simp [sizeEs]
  | x :: l, n, h => by
    rw [sizeEs] at h ⊢
    split at h
    · omega
    · rename_i hn
      rw [if_neg hn, sizeEs_sum d l _ h]
      simp; omega
theorem le_sum {α : Type} (f : α → Nat) {l : List α} {x : α} (h : x ∈ l) : f x ≤ (l.map f).sum := by
  induction l with
  | nil => cases h
  | cons y l ih =>
    simp only [List.map_cons, List.sum_cons]
    rcases List.mem_cons.1 h with rfl | h
    · omega
    · have := ih h; omega
theorem sum_le_sum {α : Type} (f g : α → Nat) (l : List α) (h : ∀ x ∈ l, f x ≤ g x) : (l.map f).sum ≤ (l.map g).sum := by
  induction l with
  | nil => simp
  | cons y l ih =>
    simp only [List.map_cons, List.sum_cons]
    have := h y (by simp)
    have := ih fun x hx => h x (by simp [hx])
    omega
/-- small expressions may be walked -/
theorem size_good (x : ExprS) : ∀ d, sizeE d x ≤ 3000 → hgt x ≤ d ∧ Fit x ∧ (colsE x).length ≤ sizeE d x := by
  induction x using ExprS.ind with
  | _ x ih =>
    intro d h
    rw [sizeE_eq] at h ⊢
    split at h
    · omega
    · rename_i hb
      rw [if_neg hb]
      unfold bigE at hb
      have hs := sizeEs_sum _ _ _ h
      have hk : ∀ k ∈ x.kids, sizeE (d - 1) k ≤ 3000 := fun k hk => by
        have := le_sum (sizeE (d - 1)) hk; omega
      refine ⟨?_, .mk x ⟨by omega, by omega, by omega, by omega⟩ (by omega) fun k hk' => (ih k hk' _ (hk k hk')).2.1, ?_⟩
      · rw [hgt_eq]
        have : ∀ l : List ExprS, (∀ k ∈ l, hgt k ≤ d - 1) → hgts l ≤ d - 1 := by
          intro l
          induction l with
          | nil => intro _; simp [hgts]
          | cons y l ih2 =>
            intro hh
            have := hh y (by simp)
            have := ih2 fun k hk => hh k (by simp [hk])
            simp only [hgts]; omega
        have := this x.kids fun k hk' => (ih k hk' _ (hk k hk')).1
        omega
      · rw [colsE_eq, List.length_append, List.length_flatMap, hs]
        have h1 := sum_le_sum (fun k => (colsE k).length) (sizeE (d - 1)) x.kids fun k hk' => (ih k hk' _ (hk k hk')).2.2
        have h2 : (if x.kind = 1 then [x] else ([] : List ExprS)).length ≤ 1 := by split <;> simp
        omega
set_option maxHeartbeats 8000000 in
theorem size_ref (x : ExprS) (d : Nat) (hd : d ≤ 100) : ACalls Tryd.prog 7 [.agg (exprA x), .c (.int .i64 (d : Nat))] [] (fun _ => false) (fun r h' => r = .c (.int .i64 (sizeE d x : Nat)) ∧ h' = []) := by
  induction x using ExprS.ind generalizing d with
  | _ x ih =>
  refine acalls mixed Tryd.func7 rfl Tryd.ntmps7 rfl fun E hE hst hho => ?_
  rw [sizeE_eq]
  by_cases d0 : d = 0
  · subst d0
    rw [if_pos (.inl rfl)]
    simp (maxSteps := 1000000) [hho, noHo, exprA, foldV, undef, onGP_none, condG_false, -List.reduceReplicate]
    exact Ret.drop (by rfl) ⟨rfl, rfl⟩
  · have dI : ¬ (d : Int) = 0 := by omega
    obtain ⟨M, hM⟩ : ∃ M : Int, M = max (x.kids.length : Int) (max (x.op.size : Int) (max (x.tab.size : Int) (max (x.name.size : Int) x.val.t.size))) := ⟨_, rfl⟩
    by_cases hb : bigE d x
    · rw [if_pos hb]
      have hb2 : (3000 : Int) < M := by unfold bigE at hb; omega
      simp (maxSteps := 1000000) [hho, noHo, exprA, d0, dI, foldV, ← hM, hb2, undef, onGP_none, condG_false, -List.reduceReplicate]
      exact Ret.drop (by rfl) ⟨rfl, rfl⟩
    · rw [if_neg hb]
      have hb2 : ¬ (3000 : Int) < M := by unfold bigE at hb; omega
      unfold bigE at hb
      have w1 : IntKind.i64.wrap (1 + (x.op.size : Int)) = 1 + (x.op.size : Int) := IntWalk.i64_in _ (by omega)
      have w2 : IntKind.i64.wrap (1 + (x.op.size : Int) + x.tab.size) = 1 + (x.op.size : Int) + x.tab.size := IntWalk.i64_in _ (by omega)
      have w3 : IntKind.i64.wrap (1 + (x.op.size : Int) + x.tab.size + x.name.size) = 1 + (x.op.size : Int) + x.tab.size + x.name.size := IntWalk.i64_in _ (by omega)
      have w4 : IntKind.i64.wrap (1 + (x.op.size : Int) + x.tab.size + x.name.size + x.val.t.size) = ((1 + x.op.size + x.tab.size + x.name.size + x.val.t.size : Nat) : Int) := by rw [IntWalk.i64_in _ (by omega)]; omega
      obtain ⟨n0, hn0⟩ : ∃ n0, n0 = 1 + x.op.size + x.tab.size + x.name.size + x.val.t.size := ⟨_, rfl⟩
      rw [← hn0] at w4 ⊢
      obtain ⟨e, rfl⟩ : ∃ e, d = e + 1 := ⟨d - 1, by omega⟩
      rw [show e + 1 - 1 = e from rfl]
      have dI2 : ¬ (e : Int) + 1 = 0 := by omega
      have hB : ∀ k ∈ x.kids, sizeE e k ≤ 15000 * (e + 1) := fun k _ => sizeE_bound k e
      simp (maxSteps := 1000000) [hho, noHo, exprA, dI, dI2, foldV, ← hM, hb2, w1, w2, w3, w4, undef, onGP_none, condG_false, -List.reduceReplicate]
      refine loop_k mixed (fun y : Nat × Nat => ⟨slotsOf 64 [(1, .c (.int .i64 ((e + 1 : Nat) : Int))), (5, .c (.int .i64 (y.2 : Nat))), (48, .fs 13 x.kids.length (exprsA x.kids)), (49, .c (.int .i64 x.kids.length)), (50, .c (.int .i64 (y.1 : Nat)))], []⟩) (fun y => x.kids.length - y.1) (fun y => y.1 ≤ x.kids.length ∧ y.2 ≤ 15000 + 15000 * (e + 1) ∧ sizeEs e (x.kids.drop y.1) y.2 = sizeEs e x.kids n0) (0, n0) ⟨Nat.zero_le _, by simp only; omega, rfl⟩ ?_ ?_
      · exact wk_of 0 1 (by simp) (by simp [hE, lens]) (by simp) (by simp [livH, livO, AV.livL, AV.liv, wkL, wkV, List.range']) (by simp [livH, livO, AV.livL, AV.liv, wkL, wkV, List.range', slotsOf])
      · rintro ⟨j, n⟩ ⟨hj, hn, hs⟩
        simp only at hj hn hs
        by_cases hjl : j < x.kids.length
        · rw [List.drop_eq_getElem_cons hjl, sizeEs] at hs
          by_cases h3 : 3000 < n
          · have h3I : (3000 : Int) < n := by omega
            rw [if_pos h3] at hs
            have hat := exprsA_at x.kids j hjl
            have e0 : j * 13 + 13 ≤ x.kids.length * 13 := by omega
            obtain ⟨y, hy⟩ : ∃ y, y = x.kids[j] := ⟨_, rfl⟩
            rw [← hy] at hat
            simp (maxSteps := 1000000) [slotsOf, hho, noHo, hjl, hat, e0, exprA, h3I, -List.reduceReplicate]
            exact Ret.drop (by rfl) ⟨by rw [← hs]; rfl, rfl⟩
          · have h3I : ¬ (3000 : Int) < n := by omega
            rw [if_neg h3] at hs
            have hat := exprsA_at x.kids j hjl
            have ew : IntKind.i64.wrap ((j : Int) + 1) = (j + 1 : Nat) := by rw [IntWalk.i64_in _ (by omega)]; rfl
            have ed : IntKind.i64.wrap ((e : Int) + 1 - 1) = (e : Nat) := by rw [IntWalk.i64_in _ (by omega)]; omega
            have ed2 : IntKind.i64.wrap (e : Int) = (e : Nat) := IntWalk.i64_in _ (by omega)
            have e0 : j * 13 + 13 ≤ x.kids.length * 13 := by omega
            have hc := ih _ (List.getElem_mem hjl) e (by omega)
            have hBk := hB _ (List.getElem_mem hjl)
            obtain ⟨y, hy⟩ : ∃ y, y = x.kids[j] := ⟨_, rfl⟩
            rw [← hy] at hat hc hBk hs
            have en : IntKind.i64.wrap ((n : Int) + (sizeE e y : Int)) = ((n + sizeE e y : Nat) : Int) := by rw [IntWalk.i64_in _ (by omega)]; rfl
            simp (maxSteps := 1000000) [slotsOf, hho, noHo, hjl, hat, e0, exprA, h3I, ed, ed2, -List.reduceReplicate]
            refine call_x [] hc rfl rfl ⟨rfl, rfl⟩ hho (by simp) (by decide) (by simp) (by simp) ?_
            simp (maxSteps := 1000000) [hho, noHo, ew, en, -List.reduceReplicate]
            refine round_next (j + 1, n + sizeE e y) ⟨by simp only; omega, by simp only; omega, hs⟩ (by simp only; omega) ?_
            exact wk_of 0 1 (by simp) (by simp [hE, lens]) (by simp) (by simp [livH, livO, AV.livL, AV.liv, wkL, wkV, List.range']) (by simp [livH, livO, AV.livL, AV.liv, wkL, wkV, List.range', slotsOf])
        · obtain rfl : j = x.kids.length := by omega
          rw [List.drop_length, sizeEs] at hs
          simp (maxSteps := 1000000) [slotsOf, hho, noHo, -List.reduceReplicate]
          exact Ret.same ⟨by rw [hs], rfl⟩
end Go.Proofs.YtlepkpfbejfpiaaDoor
