-- 
import Derived.Test.YtmgpiminicgbiaaS10
import Derived.Test.YtmgpiminicgbiaaFlat
namespace Go.Proofs.Ytmgpiminicgbiaa
set_option linter.unusedVariables false
set_option linter.unusedSimpArgs false
open Go.RowKit
attribute [local simp] isCut_nil isCut_region isCut_seq isCut_block isCut_loop isCut_cond isCut_skip isCut_exit isCut_ret isCut_range swapK putK altK condK_bool pickP_bool stepP stepO onPure_some onPure_none onImpl_some onImpl_none stepC onGP_some onGP_none onGV_some condG mkG onIt_it nextP_ptr takeP_eq takeV_some takeN_none takeN_some takeG_some takeO_some altO_some pureV binV intBin strBin isSh shV fldV ixV sliceV loadAV nilV lenV callV unV convV viewS cellsH loadV fldCut AV.ung AV.gc AV.cells AS.ev AS.put anyS gcsV lens lnO gV guardV retK RetP_eq resV oneV anyRo loIx hiIx implO callP_clo evL gcsL storeAV AS.push AS.setO appV copyV buildV partsV fillV srcV fzO okV isCell_c isCell_ptr isCell_sl isCell_fs isCell_fp isCell_clo rowZ_one rowZ_zero rowZ_2 rowZ_3 rowZ_4 rowZ_5 rowZ_6 rowZ_7 rowZ_8 rowZ_9 rowZ_10 rowZ_11 rowZ_12 noHo Value.oneCell' max2V min2V afterH putBack frzFrom frzO rebO backIx nilEq_sl nilEq_fs nilOp_eql nilOp_neq AV.reb AV.rebL
attribute [local simp ↓] runK_skip runK_region runK_draw runK_seq runK_cut runK_cond runK_block runK_loop runK_exit runK_label runK_goto runK_ret runK_range contK_nil contK_seq contK_seq_ret contK_seq_exit contK_seq_goto contK_block contK_block_ret contK_block_goto contK_block_exit runO_nil runO_cons roundK_exit roundK_ret roundK_goto exitK_ret cutK_ret cutK_exit runE_done runE_nil runE_take runE_alt condG_true condG_false runYK_skip runYK_region runYK_draw runYK_seq runYK_cond runYK_block runYK_loop runYK_exit runYK_ret contYK_nil contYK_seq contYK_seq_ret contYK_seq_exit contYK_block contYK_block_ret contYK_block_exit runYO_nil runYO_cons finY_normal finY_ret roundY_ret roundY_exit
attribute [local simp] condYK_bool onYI_some onYP_some onYP_none onYA_some onYA_none stepY yldArgs AS.clean keepV hoN hnY rebI setPs heldH
set_option maxRecDepth 10000
theorem clone8_fs (n : Nat) (l : List AV) (hl : l.length = n) (hn : n ≤ 1000000000) (hc : ∀ x ∈ l, isCell x = true) : ACalls Try.prog 37 [.fs 1 n l] [] (fun _ => false) (fun r h' => r = .sl 0 1 0 n n ∧ h' = [.o (.row 5 1) l]) := by
  refine acalls mixed Try.func37 rfl Try.ntmps37 rfl fun E hE _ hho => ?_
  simp [hho, noHo, -List.reduceReplicate]
  refine ⟨⟨⟨hn, hc⟩, Ret.same ⟨rfl, rfl⟩⟩, fun h0 => ?_⟩
  subst h0
  have : l = [] := List.eq_nil_of_length_eq_zero hl
  subst this
  exact Ret.wk (fun E _ => wk_virt 0 5 1 rfl) (Ret.same ⟨rfl, rfl⟩)
@[simp] theorem b64_takeL (b : B64) : List.take 64 b.1 = b.1 := List.take_of_length_le (by simp)
@[simp] theorem b64_dropL (b : B64) : List.drop 64 b.1 = [] := List.drop_eq_nil_of_le (by simp)
@[simp] theorem u8av_nil : u8av [] = [] := rfl
@[simp] theorem livL_u8av (dead : List Nat) (l : List UInt8) : AV.livL dead (u8av l) = true := by
  induction l with
  | nil => rfl
  | cons b l ih => simpa [u8av, AV.livL, AV.liv] using ih
theorem keptA_at (k : List B64) (i : Nat) (hi : i < k.length) : List.take 64 (List.drop (i * 64) (keptA k)) = u8av k[i].1 := flat_at avB 64 (by simp) k i hi
/-- what stands in a sector now -/
def lastW (ws : List (Nat × B64)) (i : Nat) (b : B64) : B64 := ws.foldl (fun b w => if w.1 = i then w.2 else b) b
theorem lastW_none (ws : List (Nat × B64)) (i : Nat) (b : B64) (h : ∀ w ∈ ws, w.1 ≠ i) : lastW ws i b = b := by
  induction ws generalizing b with
  | nil => rfl
  | cons w ws ih =>
    have := h w (by simp)
    simp only [lastW, List.foldl_cons, this, if_false]
    exact ih b fun w hw => h w (List.mem_cons_of_mem _ hw)
theorem lastW_hit (ws : List (Nat × B64)) (i : Nat) (b : B64) (j : Nat) (hj : j < ws.length) (h1 : ((ws[ws.length - 1 - j]?).getD (0, zB)).1 = i) (h2 : ∀ k, k < j → ((ws[ws.length - 1 - k]?).getD (0, zB)).1 ≠ i) : lastW ws i b = ((ws[ws.length - 1 - j]?).getD (0, zB)).2 := by
  obtain ⟨m, hm⟩ : ∃ m, m = ws.length - 1 - j := ⟨_, rfl⟩
  rw [← hm] at h1 ⊢
  have hlt : m < ws.length := by omega
  have e : ws = ws.take m ++ ws[m] :: ws.drop (m + 1) := by rw [← List.drop_eq_getElem_cons hlt, List.take_append_drop]
  have hn : ∀ w ∈ ws.drop (m + 1), w.1 ≠ i := fun w hw => by
    obtain ⟨k, hk, rfl⟩ := List.mem_iff_getElem.1 hw
    have hk' : m + 1 + k < ws.length := by simp at hk; omega
    have := h2 (ws.length - 1 - (m + 1 + k)) (by omega)
    have e2 : ws.length - 1 - (ws.length - 1 - (m + 1 + k)) = m + 1 + k := by omega
    rw [e2, List.getElem?_eq_getElem hk'] at this
    simpa using this
  rw [List.getElem?_eq_getElem hlt, Option.getD_some] at h1 ⊢
  have : lastW ws i b = lastW (ws.drop (m + 1)) i (if ws[m].1 = i then ws[m].2 else lastW (ws.take m) i b) := by
    conv => lhs; rw [e]
    simp only [lastW, List.foldl_append, List.foldl_cons]
  rw [this, lastW_none _ _ _ hn, if_pos h1]
theorem lastW_miss (ws : List (Nat × B64)) (i : Nat) (b : B64) (h : ∀ k, k < ws.length → ((ws[ws.length - 1 - k]?).getD (0, zB)).1 ≠ i) : lastW ws i b = b := by
  refine lastW_none ws i b fun w hw => ?_
  obtain ⟨k, hk, rfl⟩ := List.mem_iff_getElem.1 hw
  have := h (ws.length - 1 - k) (by omega)
  have e2 : ws.length - 1 - (ws.length - 1 - k) = k := by omega
  rw [e2, List.getElem?_eq_getElem hk] at this
  simpa using this
def curS (d : DevS) (i : Nat) : B64 := lastW d.wait i ((d.kept[i]?).getD zB)
theorem read_ok (d : DevS) (hd : d.Ok) (i : Int) (hi : checkS d i 0 = 0) : ACalls Try.prog 30 [.ptr 0 0 5, .c (.int .i64 i)] (devO d) (fun k => decide (k < 3)) (fun r h' => r = .tup [.sl 3 1 0 64 64, .c (.int .i64 0)] ∧ h' = devO d ++ [.o (.row 5 1) (u8av (curS d i.toNat).1)]) := by
  refine acallsM mixed Try.func30 rfl Try.ntmps30 rfl fun E hE _ hho hmk => ?_
  simp [devO, hho, noHo, -List.reduceReplicate]
  refine call_x [0, 1, 2] (check_nilslice d i) rfl rfl ⟨rfl, rfl⟩ hho (by simp) (by decide) (by simp) (by simp [devO]) ?_
  simp [devO, hho, hi, -List.reduceReplicate]
  refine draw_k hho (.take 0 (.take 1 (.take 2 (.take 3 (.take 4 (.take 5 (.take 6 (.alt 7 (.alt 8 .done .nil) .nil)))))))) [0, 1, 3] [] (by decide +kernel) (by simp) ?_
  simp [roOf, holdOf, wrOf, altK, heldOk, Region.binds, -List.reduceReplicate]
  obtain ⟨k1, k2, k3, k4⟩ := check_ok hi
  have hlt : i.toNat < d.kept.length := by omega
  have hcur := keptA_at d.kept _ hlt
  rw [hcur]
  refine ⟨⟨k1, k2⟩, by omega, fun _ _ => ⟨⟨by simp, by omega⟩, ?_⟩⟩
  refine call_x [2] (back_call d.wait) rfl rfl ⟨rfl, rfl⟩ hho (by simp) (by decide) (by simp) (by simp) ?_
  simp [devO, rowW, hho, -List.reduceReplicate]
  refine range_k mixed [5, 2] (back_seq d.wait hd.wl) hho hmk ⟨by simp, rfl⟩ rfl rfl rfl (by simp) (by decide) (fun j => ⟨by simpa using backI_ok d.wait j, rfl⟩) rfl (by simp) (fun j => ∀ k, k < j → ((d.wait[d.wait.length - 1 - k]?).getD (0, zB)).1 ≠ i.toNat) (by simp) (fun _ => _) rfl (by simp) ?_ ?_
  · intro j hj hI E' hho' hE' hst'
    obtain ⟨x, hx⟩ : ∃ x, x = (d.wait[d.wait.length - 1 - j]?).getD (0, zB) := ⟨_, rfl⟩
    simp [backI, ← hx, avW, hho', -List.reduceReplicate]
    refine ⟨by simp, fun E2 ho2 ln2 st2 => ?_⟩
    simp [ho2, -List.reduceReplicate]
    split <;> rename_i hx1
    · have hxi : x.1 = i.toNat := by omega
      have hb := lastW_hit d.wait i.toNat ((d.kept[i.toNat]?).getD zB) j hj (by rw [← hx]; exact hxi) hI
      rw [← hx] at hb
      refine range_exit 6 1 rfl (by simpa using ln2) rfl (by simp [livH, livO, AV.livL, AV.liv, wkL, wkV, List.range']) (by simp [heldH, lens]) ?_
      simp [hho, -List.reduceReplicate]
      refine ⟨by decide, ?_⟩
      refine call_f [] (fun k => k == 4) (clone8_fs 64 (u8av x.2.1) (by simp) (by decide) (by simp)) rfl rfl ⟨by simp, rfl⟩ hho (by simp) (by decide) (by simp) (by simp [isD_c, maxLen]) (by simp) ?_
      simp [hho, -List.reduceReplicate]
      refine Ret.sel [0, 1, 2, 6] (fun _ => false) (ho := by rfl) (ha := by rfl) ?_ ?_ (by decide) (by simp) (st_pre 3 [6] _) ⟨?_, ?_⟩
      · simp
      · simp
      · rfl
      · simp [curS, hb]
    · refine range_next 6 1 (fun k hk => ?_) rfl (by simpa using ln2) rfl (by simp [livH, livO, AV.livL, AV.liv, wkL, wkV, List.range'])
      rcases Nat.lt_or_ge k j with h | h
      · exact hI k h
      · obtain rfl : k = j := by omega
        rw [← hx]; omega
  · intro hI
    have hb := lastW_miss d.wait i.toNat ((d.kept[i.toNat]?).getD zB) hI
    have hb2 : (d.kept[i.toNat]?).getD zB = d.kept[i.toNat] := by simp [hlt]
    rw [hb2] at hb
    simp [hho, -List.reduceReplicate]
    refine ⟨by decide, ?_⟩
    refine call_f [] (fun k => k == 4) (clone8_fs 64 (u8av d.kept[i.toNat].1) (by simp) (by decide) (by simp)) rfl rfl ⟨by simp, rfl⟩ hho (by simp) (by decide) (by simp) (by simp [isD_c, maxLen]) (by simp) ?_
    simp [hho, -List.reduceReplicate]
    refine Ret.sel [0, 1, 2, 6] (fun _ => false) (ho := by rfl) (ha := by rfl) ?_ ?_ (by decide) (by simp) (st_pre 3 [6] _) ⟨?_, ?_⟩
    · simp
    · simp
    · rfl
    · simp [curS, hb, hb2]
theorem read_err (d : DevS) (i : Int) (hi : checkS d i 0 ≠ 0) : ACalls Try.prog 30 [.ptr 0 0 5, .c (.int .i64 i)] (devO d) (fun k => decide (k < 3)) (fun r h' => r = .tup [.c (.slice none 0 0), .c (.int .i64 (checkS d i 0))] ∧ h' = devO d) := by
  refine acallsM mixed Try.func30 rfl Try.ntmps30 rfl fun E hE _ hho hmk => ?_
  simp [devO, hho, noHo, -List.reduceReplicate]
  refine call_x [0, 1, 2] (check_nilslice d i) rfl rfl ⟨rfl, rfl⟩ hho (by simp) (by decide) (by simp) (by simp [devO]) ?_
  simp [devO, hho, hi, -List.reduceReplicate]
  refine Ret.sel [0, 1, 2] (fun _ => false) (ho := by rfl) (ha := by rfl) ?_ ?_ (by decide) (by simp) (st_lt 3 _) ⟨?_, ?_⟩
  · simp
  · simp
  · rfl
  · rfl
theorem read_nil (i : Int) : ACalls Try.prog 30 [.c (.pointer none), .c (.int .i64 i)] [] (fun _ => false) (fun r h' => r = .tup [.c (.slice none 0 0), .c (.int .i64 1)] ∧ h' = []) := by
  refine acallsM mixed Try.func30 rfl Try.ntmps30 rfl fun E hE _ hho hmk => ?_
  simp [hho, noHo, -List.reduceReplicate]
  refine call_x [] (check_nil i) rfl rfl ⟨rfl, rfl⟩ hho (by simp) (by decide) (by simp) (by simp) ?_
  simp [hho, -List.reduceReplicate]
  exact Ret.drop (by decide) ⟨rfl, rfl⟩
end Go.Proofs.Ytmgpiminicgbiaa
