import Derived.Test.YtmgpiminicgbiaaLN
namespace Go.Proofs.Ytmgpiminicgbiaa
set_option linter.unusedVariables false
set_option linter.unusedSimpArgs false
open Go.RowKit
attribute [local simp] isCut_nil isCut_region isCut_seq isCut_block isCut_loop isCut_cond isCut_skip isCut_exit isCut_ret isCut_range swapK putK altK condK_bool pickP_bool stepP stepO onPure_some onPure_none onImpl_some onImpl_none stepC onGP_some onGP_none onGV_some condG mkG onIt_it nextP_ptr takeP_eq takeV_some takeN_none takeN_some takeG_some takeO_some altO_some pureV binV intBin strBin isSh shV fldV ixV sliceV loadAV nilV lenV callV unV convV viewS cellsH loadV fldCut AV.ung AV.gc AV.cells AS.ev AS.put anyS gcsV lens lnO gV guardV retK RetP_eq resV oneV anyRo loIx hiIx implO callP_clo evL gcsL storeAV AS.push AS.setO appV copyV buildV partsV fillV srcV fzO okV isCell_c isCell_ptr isCell_sl isCell_fs isCell_fp isCell_clo rowZ_one rowZ_zero rowZ_2 rowZ_3 rowZ_4 rowZ_5 rowZ_6 rowZ_7 rowZ_8 rowZ_9 rowZ_10 rowZ_11 rowZ_12 noHo Value.oneCell' max2V min2V afterH putBack frzFrom frzO rebO backIx nilEq_sl nilEq_fs nilOp_eql nilOp_neq AV.reb AV.rebL
attribute [local simp ↓] runK_skip runK_region runK_draw runK_seq runK_cut runK_cond runK_block runK_loop runK_exit runK_label runK_goto runK_ret runK_range contK_nil contK_seq contK_seq_ret contK_seq_exit contK_seq_goto contK_block contK_block_ret contK_block_goto contK_block_exit runO_nil runO_cons roundK_exit roundK_ret roundK_goto exitK_ret cutK_ret cutK_exit runE_done runE_nil runE_take runE_alt condG_true condG_false
set_option maxRecDepth 10000
def u16AV (l : List Int) : List AV := l.map fun x => .c (.int .u16 x)
theorem u16AV_get (l : List Int) (j : Nat) (hj : j < l.length) : (List.drop j (u16AV l))[0]? = some (.c (.int .u16 l[j])) := by
  rw [List.getElem?_drop, Nat.add_zero]; simp [u16AV, hj]
@[simp] theorem u16AV_length (l : List Int) : (u16AV l).length = l.length := by simp [u16AV]
theorem flat_u16 (l : List Int) : (l.flatMap fun b => [AV.c (.int .u16 b)]) = u16AV l := by
  induction l with
  | nil => rfl
  | cons b l ih => rw [List.flatMap_cons, ih]; rfl
def opnU16s : Opn Try.prog 47 (List Int) :=
  (opnSlice (opnInt .u16 Try.underlying48 (by kernel_rfl)) 1 Try.underlying47 (by kernel_rfl) (by kernel_rfl) (by decide)).map id (fun l => [.fs 1 l.length (u16AV l)]) (fun l => l.length ≤ maxLen ∧ ∀ x ∈ l, 0 ≤ x ∧ x ≤ 65535) (fun l => by simp only [opnSlice, opnInt, id]; rw [flat_u16]) (fun l h => ⟨h.1, fun x hx => by have := bounds_u16 (h.2 x hx); omega⟩) fun _ => by kernel_rfl
theorem row_zero (k : Nat) : rowZ k [Value.int IntKind.u8 0] = u8av (List.replicate k 0) := by
  induction k with
  | zero => rfl
  | succ k ih => rw [rowZ_succ, ih, List.replicate_succ]; rfl
theorem RmOk.up {n c d : Nat} {D : DevS} {L : LogS} (hR : RmOk n c D L) (h : c ≤ d) : RmOk n d D L :=
  ⟨⟨hR.d.ok, hR.d.bd, hR.d.kn, by have := hR.d.cc; omega, by have := hR.d.wl; omega⟩, hR.fr, hR.a0, hR.a1, hR.dn, by have := hR.bl; omega, hR.bb, hR.h1, hR.h2⟩
theorem callG_args {P : Program} {E : Env} {g : FuncId} {args args' : List AV} {s : AS} {K : AV → AS → Prop} (hl : args'.length = args.length)
    (hw : ∀ (G : Gh) (F : Nat → Prop) (w : World) (j : Nat) (u u' : AV) (x : Value), args[j]? = some u → args'[j]? = some u' → RepV G (lens s.h) F w u x → RepV G (lens s.h) F w u' x)
    (h : CallG P E g args' s K) : CallG P E g args s K := by
  intro G F a w vs hr hn hv
  refine h G F a w vs hr (hl.trans hn) fun j u x h1 h2 => ?_
  have hj : j < args.length := by rw [← hl]; exact (List.getElem?_eq_some_iff.mp h1).1
  exact hw G F w j args[j] u x (List.getElem?_eq_getElem hj) h1 (hv j _ x (List.getElem?_eq_getElem hj) h2)
/-- an argument that is nil is an empty slice -/
theorem callG_nil {P : Program} {E : Env} {g : FuncId} {a0 : AV} {sz : Nat} {s : AS} {K : AV → AS → Prop} (h : CallG P E g [a0, .fs sz 0 []] s K) : CallG P E g [a0, .c (.slice none 0 0)] s K := by
  refine callG_args (args' := [a0, .fs sz 0 []]) rfl ?_ h
  intro G F w j u u' x h1 h2 h3
  match j, h1, h2 with
  | 0, h1, h2 => simp at h1 h2; subst h1 h2; exact h3
  | 1, h1, h2 => simp at h1 h2; subst h1 h2; exact nil_fs0 sz h3
  | j + 2, h1, _ => simp at h1
theorem RmOk.res {n : Nat} {D : DevS} {L : LogS} (h : RmOk n 2000 D L) (h1 : 1 ≤ n) (h2 : n ≤ 60) (b : List UInt8) :
    (32 < b.length → resS D L b = (2, D, L)) ∧ (b = [] → (resS D L b).1 = 0 ∧ (resS D L b).2.2.frames = n ∧ (resS D L b).2.2.at_ = 0 ∧ (resS D L b).2.2.down = false) := by
  have hdn : ¬ L.down = true := by rw [h.dn]; decide
  constructor
  · intro hb; unfold resS; rw [if_neg hdn, if_pos hb]
  · intro hb
    have e2 : (nextH L ⟨0, 0, -1, b⟩).n = 2 := by show L.h.n + 1 = 2; rw [h.h1]; rfl
    have hk1 := h.d.chk ((nextH L ⟨0, 0, -1, b⟩).n.tmod 2) (by rw [e2, show (2 : Int).tmod 2 = 0 from rfl]; omega) 64 (by decide)
    have hwr : Free n 2001 (wrH D (nextH L ⟨0, 0, -1, b⟩)) := h.d.write (by decide) _ (by rw [e2, show (2 : Int).tmod 2 = 0 from rfl]; omega) _ (by rw [headL_length]; decide)
    have hk2 := hwr.chk 0 (by omega) 0 (by decide)
    have hw : whS D L ⟨0, 0, -1, b⟩ = (0, flushS (wrH D (nextH L ⟨0, 0, -1, b⟩)), { L with h := nextH L ⟨0, 0, -1, b⟩ }) := by
      unfold whS
      rw [if_neg (by rw [h.h2]; decide), if_neg (by rw [hk1]; decide), if_neg (by rw [hk2]; decide)]
    have hr : resS D L b = (0, flushS (wrH D (nextH L ⟨0, 0, -1, b⟩)), { L with h := nextH L ⟨0, 0, -1, b⟩, at_ := 0, bs := [] }) := by
      unfold resS
      rw [if_neg hdn, if_neg (by rw [hb]; decide), hw, if_neg (by simp)]
    rw [hr]
    exact ⟨rfl, h.fr, rfl, h.dn⟩
set_option maxHeartbeats 8000000 in
theorem rooms_walk (f : Int) (hf : 0 ≤ f ∧ f ≤ 255) (sz : List Int) (hs : sz.length ≤ maxLen ∧ ∀ x ∈ sz, 0 ≤ x ∧ x ≤ 65535) : ACalls Try.prog 4 [.c (.int .u8 f), .fs 1 sz.length (u16AV sz)] [] (fun _ => false) (fun r h' => r = .c (.bool true)) := by
  refine acalls mixed Try.func4 rfl Try.ntmps4 rfl fun E hE hst hho => ?_
  simp (maxSteps := 1000000) [hho, -List.reduceReplicate]
  refine call_plain (fun _ => false) first_log (ha := by rfl) (by simp) ?_
  rintro r h' ⟨rfl, rfl⟩
  refine ⟨rfl, ?_⟩
  obtain ⟨n, hn, n1, n2⟩ : ∃ n : Nat, IntKind.i64.wrap (1 + IntKind.i64.wrap (f.tmod 60)) = (n : Int) ∧ 1 ≤ n ∧ n ≤ 60 := by
    have e : f.tmod 60 = f % 60 := Int.tmod_eq_emod_of_nonneg hf.1
    refine ⟨(1 + f % 60).toNat, ?_, by omega, by omega⟩
    rw [e, IntWalk.i64_in (f % 60) (by omega), IntWalk.i64_in _ (by omega)]; omega
  have hn2 : IntKind.i64.wrap ((n : Int) + 2) = ((n + 2 : Nat) : Int) := by rw [IntWalk.i64_in _ (by omega)]; rfl
  simp (maxSteps := 1000000) [hho, hn, hn2, -List.reduceReplicate]
  refine call_x [] (new_ok (n + 2 : Nat) (by omega) (by omega)) rfl rfl ⟨rfl, rfl⟩ hho (by simp) (by decide) (by simp) (by simp) ?_
  rw [show ((n + 2 : Nat) : Int).toNat = n + 2 from rfl]
  simp (maxSteps := 1000000) [hho, devO, -List.reduceReplicate]
  obtain ⟨w0, wk, wa, wb⟩ := rooms_start n n1 n2
  obtain ⟨W, hW⟩ : ∃ W, W = openS (newS (n + 2)) n := ⟨_, rfl⟩
  rw [← hW] at w0 wk wa wb
  refine call_d [0, 1, 2] (fun _ => false) [2] (open_is (newS (n + 2)) (newS_ok (n + 2) (by omega) (by omega)) (by simp [newS]) (by simp [newS]) n n1 (by simp [newS]) W hW.symm w0) rfl rfl ⟨rfl, rfl⟩ hho (st_dev2 0 1 2) (by simp [livH, livO, AV.livL, AV.liv, wkL, wkV, List.range']) (by simp [livH, livO, AV.livL, AV.liv, wkL, wkV, List.range']) (by simp [hst]) (by decide) (by decide) (by simp) (by simp [dlO, devO]) ?_
  have hL1 : ∀ (D : DevS) (L : LogS), dlO D L = [.o .box [.sl 1 64 0 D.kept.length (D.kept.length * 64), .sl 2 65 0 D.wait.length (D.wait.length * 65), .c (.bool D.bound), .c (.int .i64 D.left), .c (.int .i64 D.calls)], .o (.row 93 64) (keptA D.kept), .o (.row 95 65) (waitA D.wait), logB L 0 4, batR L.bs] := fun _ _ => rfl
  simp (maxSteps := 1000000) [hho, hL1, logB, batR, -List.reduceReplicate]
  refine loop_k2 mixed (fun x : Nat × DevS × LogS => ⟨slotsOf 110 [(5, .c (.int .i64 n)), (8, .ptr 3 0 9), (10, .c (.int .i64 ((n : Int) - x.2.2.at_))), (11, .c (.int .i64 x.2.2.bs.length)), (36, .fs 1 sz.length (u16AV sz)), (37, .c (.int .i64 sz.length)), (38, .c (.int .i64 (x.1 : Int)))], dlO x.2.1 x.2.2⟩) (fun x => sz.length - x.1) (fun x => x.1 ≤ sz.length ∧ x.1 ≤ 60 ∧ RmOk n (10 + 20 * x.1) x.2.1 x.2.2) (0, W.2.1, W.2.2)
    (fun x : DevS × LogS => ⟨slotsOf 110 [(5, .c (.int .i64 n)), (8, .ptr 3 0 9)], dlO x.1 x.2⟩) (fun x => RmOk n 2000 x.1 x.2) 0 ⟨Nat.zero_le _, Nat.zero_le _, wk⟩ ?_ ?_ ?_
  · exact wk_all (by simp [hE, lens]) (by simp [hL1, logB, batR]) (by simp [livH, livO, AV.livL, AV.liv, wkL, wkV, List.range', slotsOf, wa, wb])
  · rintro ⟨D, L⟩ hR
    simp only at hR
    simp (maxSteps := 1000000) [hho, hL1, logB, batR, slotsOf, -List.reduceReplicate]
    have ha0 := hR.a0; have ha1 := hR.a1; have hfr := hR.fr; have hbl0 := hR.bl; have hcc := hR.d.cc; have hww := hR.d.wl
    have hdn : ¬ L.down = true := by rw [hR.dn]; decide
    have hA : ∀ b : List UInt8, 65536 < b.length → appS D L b = (2, D, L) := fun b hb => by unfold appS; rw [if_neg hdn, if_pos hb]
    rw [row_zero]
    obtain ⟨b, hb⟩ : ∃ b, b = List.replicate 65537 (0 : UInt8) := ⟨_, rfl⟩
    have hbl : b.length = 65537 := by rw [hb]; simp [-List.reduceReplicate]
    rw [← hb]
    have hap := append_fs D hR.d.ok (by omega) (by omega) L b (by rw [hbl]; decide) (by omega) (by omega) (by omega)
    rw [hA b (by omega), hbl] at hap
    refine call_d [3, 0, 1, 2, 4] (fun k => k == 5) [2, 4] hap rfl rfl ⟨by simp [← hbl], rfl⟩ hho (st_log3 3 0 1 2 4) (by simp [livH, livO, AV.livL, AV.liv, wkL, wkV, List.range']) (by simp [livH, livO, AV.livL, AV.liv, wkL, wkV, List.range']) (by simp [hst]) (by decide) (by decide) (by simp [hbl, maxLen]) (by simp [logO, devAt]) ?_
    simp (maxSteps := 1000000) [hho, logO, devAt, logB, batR, -List.reduceReplicate]
    rw [row_zero]
    obtain ⟨c, hc⟩ : ∃ c, c = List.replicate 33 (0 : UInt8) := ⟨_, rfl⟩
    have hcl : c.length = 33 := by rw [hc]; simp [-List.reduceReplicate]
    rw [← hc]
    have hh1 := hR.h1; have hh2 := hR.h2
    have hre := reset_fs D hR.d.ok (by omega) (by omega) L c (by rw [hcl]; decide) (by omega) (by omega)
    rw [(hR.res n1 n2 c).1 (by omega), hcl] at hre
    refine call_d [3, 0, 1, 2, 4] (fun k => k == 6) [2, 4] hre rfl rfl ⟨by simp [← hcl], rfl⟩ hho (st_log3 3 0 1 2 4) (by simp [livH, livO, AV.livL, AV.liv, wkL, wkV, List.range']) (by simp [livH, livO, AV.livL, AV.liv, wkL, wkV, List.range']) (by simp [hst]) (by decide) (by decide) (by simp [hcl, maxLen]) (by simp [logO, devAt]) ?_
    simp (maxSteps := 1000000) [hho, logO, devAt, logB, batR, -List.reduceReplicate]
    refine callG_nil (sz := 1) ?_
    have hr2 := reset_fs D hR.d.ok (by omega) (by omega) L [] (by decide) (by omega) (by omega)
    obtain ⟨r1, r2, r3, r4⟩ := (hR.res n1 n2 []).2 rfl
    obtain ⟨V, hV⟩ : ∃ V, V = resS D L [] := ⟨_, rfl⟩
    rw [← hV] at r1 r2 r3 r4 hr2
    rw [r1] at hr2
    refine call_d [3, 0, 1, 2, 4] (fun _ => false) [2, 4] hr2 rfl rfl ⟨by simp, rfl⟩ hho (st_log3 3 0 1 2 4) (by simp [livH, livO, AV.livL, AV.liv, wkL, wkV, List.range']) (by simp [livH, livO, AV.livL, AV.liv, wkL, wkV, List.range']) (by simp [hst]) (by decide) (by decide) (by simp [maxLen]) (by simp [logO, devAt]) ?_
    have hrm : roomL V.2.2 = n := by unfold roomL; rw [if_neg (by rw [r4]; decide), r2, r3, Int.sub_zero]
    simp (maxSteps := 1000000) [hho, logO, devAt, logB, batR, -List.reduceReplicate]
    refine call_x [3, 0, 1, 2, 4] (room_log V.2.1 V.2.2 (by omega) (by omega)) rfl rfl ⟨rfl, rfl⟩ hho (by simp) (by decide) (by simp) (by simp [logO, devAt]) ?_
    rw [hrm]
    simp (maxSteps := 1000000) [hho, logO, devAt, logB, batR, -List.reduceReplicate]
    exact Ret.drop (by decide) rfl
  · rintro ⟨j, D, L⟩ ⟨hj, hj60, hR⟩
    simp only at hj hj60 hR
    have hup : RmOk n 2000 D L := hR.up (by omega)
    by_cases hlt : j < sz.length
    · by_cases h60 : j < 60
      · have h60i : ¬ (60 : Int) ≤ j := by omega
        have hx := hs.2 _ (List.getElem_mem hlt)
        obtain ⟨k, hk, hk7⟩ : ∃ k : Nat, (sz[j]).tmod 700 = (k : Int) ∧ k < 700 := by
          have e : (sz[j]).tmod 700 = sz[j] % 700 := Int.tmod_eq_emod_of_nonneg hx.1
          exact ⟨(sz[j] % 700).toNat, by rw [e]; omega, by omega⟩
        have ek : IntKind.i64.wrap (k : Int) = k := IntWalk.i64_in _ (by omega)
        have ek45 : IntKind.i64.wrap ((k : Int) + 45) = k + 45 := IntWalk.i64_in _ (by omega)
        have etd : ((k : Int) + 45).tdiv 46 = (((k + 45) / 46 : Nat) : Int) := by rw [Int.tdiv_eq_ediv_of_nonneg (by omega)]; omega
        have ewd : IntKind.i64.wrap (((k + 45) / 46 : Nat) : Int) = ((k + 45) / 46 : Nat) := IntWalk.i64_in _ (by omega)
        have emx : max 1 (((k + 45) / 46 : Nat) : Int) = (need k : Int) := by unfold need; omega
        have enx : max 1 (IntKind.i64.wrap (((k : Int) + 45) / 46)) = (need k : Int) := by rw [IntWalk.i64_in _ (by omega)]; unfold need; omega
        have ew : IntKind.i64.wrap ((j : Int) + 1) = (j + 1 : Nat) := by rw [IntWalk.i64_in _ (by omega)]; rfl
        simp (maxSteps := 1000000) [hho, hL1, logB, batR, slotsOf, hlt, h60, h60i, u16AV_get sz j hlt, hk, ek, ek45, etd, ewd, emx, enx, -List.reduceReplicate]
        refine ⟨by omega, ⟨by omega, by omega⟩, ?_⟩
        rw [row_zero]
        obtain ⟨b, hb⟩ : ∃ b, b = List.replicate k (0 : UInt8) := ⟨_, rfl⟩
        have hbl : b.length = k := by rw [hb]; simp
        rw [← hb]
        obtain ⟨ap1, ap2⟩ := hR.app n2 (by omega) b (by omega)
        rw [hbl] at ap1 ap2
        have ha0 := hR.a0; have ha1 := hR.a1; have hfr := hR.fr; have hbl0 := hR.bl; have hcc := hR.d.cc; have hww := hR.d.wl
        have hap := append_fs D hR.d.ok (by omega) (by omega) L b (by rw [hbl]; unfold maxLen; omega) (by omega) (by omega) (by omega)
        rw [hbl] at hap
        refine call_d [3, 0, 1, 2, 4] (fun k => k == 5) [2, 4] hap rfl rfl ⟨by simp [← hbl], rfl⟩ hho (st_log3 3 0 1 2 4) (by simp [livH, livO, AV.livL, AV.liv, wkL, wkV, List.range']) (by simp [livH, livO, AV.livL, AV.liv, wkL, wkV, List.range']) (by simp [hst]) (by decide) (by decide) (by simp [hbl, maxLen]; omega) (by simp [logO, devAt]) ?_
        obtain ⟨V, hV⟩ : ∃ V, V = appS D L b := ⟨_, rfl⟩
        rw [← hV] at ap1 ap2 ⊢
        by_cases hfit : (need k : Int) ≤ n - L.at_
        · obtain ⟨v1, v2, v3, v4⟩ := ap1 hfit
          rw [v1]
          have esub : IntKind.i64.wrap ((n : Int) - L.at_ - need k) = n - (L.at_ + need k) := by rw [IntWalk.i64_in _ (by omega)]; omega
          have ecnt : IntKind.i64.wrap ((L.bs.length : Int) + 1) = ((L.bs.length + 1 : Nat) : Int) := by rw [IntWalk.i64_in _ (by omega)]; rfl
          simp (maxSteps := 1000000) [hho, hfit, esub, ecnt, logO, devAt, logB, batR, -List.reduceReplicate]
          have hrm : roomL V.2.2 = n - (L.at_ + need k) := by unfold roomL; rw [if_neg (by rw [v4.dn]; decide), v4.fr, v2]
          have hvb := v4.bl; have hva := v4.a0; have hva1 := v4.a1; have hvf := v4.fr
          refine call_x [3, 0, 1, 2, 4] (room_log V.2.1 V.2.2 (by omega) (by omega)) rfl rfl ⟨rfl, rfl⟩ hho (by simp) (by decide) (by simp) (by simp [logO, devAt]) ?_
          rw [hrm]
          simp (maxSteps := 1000000) [hho, logO, devAt, logB, batR, -List.reduceReplicate]
          refine call_x [3, 0, 1, 2, 4] (batches_log V.2.1 V.2.2 (fun x hx => by have := v4.bb x hx; omega) (by omega)) rfl rfl ⟨rfl, rfl⟩ hho (by simp) (by decide) (by simp) (by simp [logO, devAt]) ?_
          simp (maxSteps := 1000000) [hho, v3, ew, logO, devAt, logB, batR, -List.reduceReplicate]
          refine round_next (j + 1, V.2.1, V.2.2) ⟨by simp only; omega, by simp only; omega, by simp only; rw [show 10 + 20 * (j + 1) = 10 + 20 * j + 20 by omega]; exact v4⟩ (by simp only; omega) ?_
          exact wk_of 5 1 (by simp) (by simp [hE, lens]) (by simp [hL1, logB, batR, v3]) (by simp [livH, livO, AV.livL, AV.liv, wkL, wkV, List.range', hL1, logB, batR, batchA_liv]) (by simp [livH, livO, AV.livL, AV.liv, wkL, wkV, List.range', slotsOf, v2, v3])
        · have hA := ap2 hfit
          rw [hA]
          simp (maxSteps := 1000000) [hho, hfit, logO, devAt, logB, batR, -List.reduceReplicate]
          have hrm : roomL L = n - L.at_ := by unfold roomL; rw [if_neg (by rw [hR.dn]; decide), hR.fr]
          refine call_x [3, 0, 1, 2, 4] (room_log D L (by omega) (by omega)) rfl rfl ⟨rfl, rfl⟩ hho (by simp) (by decide) (by simp) (by simp [logO, devAt]) ?_
          rw [hrm]
          simp (maxSteps := 1000000) [hho, logO, devAt, logB, batR, -List.reduceReplicate]
          refine call_x [3, 0, 1, 2, 4] (batches_log D L (fun x hx => by have := hR.bb x hx; omega) (by omega)) rfl rfl ⟨rfl, rfl⟩ hho (by simp) (by decide) (by simp) (by simp [logO, devAt]) ?_
          simp (maxSteps := 1000000) [hho, ew, logO, devAt, logB, batR, -List.reduceReplicate]
          refine round_next (j + 1, D, L) ⟨by simp only; omega, by simp only; omega, by simp only; exact hR.up (by omega)⟩ (by simp only; omega) ?_
          exact wk_of 5 1 (by simp) (by simp [hE, lens]) (by simp [hL1, logB, batR]) (by simp [livH, livO, AV.livL, AV.liv, wkL, wkV, List.range', hL1, logB, batR, batchA_liv]) (by simp [livH, livO, AV.livL, AV.liv, wkL, wkV, List.range', slotsOf])
      · have h60i : (60 : Int) ≤ j := by omega
        have h60 : 60 ≤ j := by omega
        simp (maxSteps := 1000000) [hho, hL1, logB, batR, slotsOf, hlt, h60, h60i, u16AV_get sz j hlt, -List.reduceReplicate]
        exact ⟨by omega, exit_to (D, L) hup (wk_all (by simp [hE, lens]) (by simp [hL1, logB, batR]) (by simp [livH, livO, AV.livL, AV.liv, wkL, wkV, List.range', slotsOf]))⟩
    · simp (maxSteps := 1000000) [hho, hL1, logB, batR, slotsOf, hlt, -List.reduceReplicate]
      exact exit_to (D, L) hup (wk_all (by simp [hE, lens]) (by simp [hL1, logB, batR]) (by simp [livH, livO, AV.livL, AV.liv, wkL, wkV, List.range', slotsOf]))
end Go.Proofs.Ytmgpiminicgbiaa
