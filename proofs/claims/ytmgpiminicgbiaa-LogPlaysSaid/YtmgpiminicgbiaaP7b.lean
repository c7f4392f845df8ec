import Derived.Test.YtmgpiminicgbiaaP7a
namespace Go.Proofs.Ytmgpiminicgbiaa
set_option linter.unusedVariables false
set_option linter.unusedSimpArgs false
open Go.RowKit
attribute [local simp] isCut_nil isCut_region isCut_seq isCut_block isCut_loop isCut_cond isCut_skip isCut_exit isCut_ret isCut_range swapK putK altK condK_bool pickP_bool stepP stepO onPure_some onPure_none onImpl_some onImpl_none stepC onGP_some onGP_none onGV_some condG mkG onIt_it nextP_ptr takeP_eq takeV_some takeV_none takeU_some takeU_none takeQ takeW_some takeN_none takeN_some takeG_some takeO_some altO_some pureV binV2 eqF eqOp ovlV ovl2 rowAt capV binV intBin strBin isSh shV fldV ixV sliceV slice3V loadAV nilV lenV callV unV convV viewS cellsH loadV fldCut AV.ung AV.ungs AV.gc AV.cells AS.ev AS.put anyS gcsV gcO lens lnO gV guardV retK RetP_eq resV oneV anyRo loIx hiIx implO callP_clo evL gcsL clearV storeAV AS.push AS.setO appV appZ shortS copyV buildV partsV fillV srcV fzO okV isCell_c isCell_ptr isCell_sl isCell_fs isCell_fp isCell_clo rowZ_one rowZ_zero rowZ_2 rowZ_3 rowZ_4 rowZ_5 rowZ_6 rowZ_7 rowZ_8 rowZ_9 rowZ_10 rowZ_11 rowZ_12 noHo Value.oneCell' max2V min2V lookV updV updK updW cvals mkAt basV lenM msAt afterH putBack frzFrom frzO rebO backIx nilEq_sl nilEq_fs nilEq_ifn nilEq_ifh ifOp_eql ifOp_neq isLit nilOp_eql nilOp_neq AV.reb AV.rebL
attribute [local simp ↓] runK_skip runK_region runK_draw runK_seq runK_cut runK_cond runK_block runK_loop runK_exit runK_label runK_goto runK_ret runK_range contK_nil contK_seq contK_seq_ret contK_seq_exit contK_seq_goto contK_block contK_block_ret contK_block_goto contK_block_exit runO_nil runO_cons roundK_exit roundK_ret roundK_goto exitK_ret cutK_ret cutK_exit runE_done runE_nil runE_take runE_alt condG_true condG_false
set_option maxRecDepth 10000
/-! ## The reference's heads and frames: plain laws -/
theorem splB_app (a c b : List UInt8) (off : Nat) (h : a.length = off) : splB (a ++ c) off b = a ++ b ++ c.drop b.length := by
  subst h
  unfold splB
  rw [List.take_left, List.drop_append, List.drop_eq_nil_of_le (by omega), List.nil_append, show a.length + b.length - a.length = b.length by omega]
def headR (h : HeadS) : List UInt8 := padL (beL h.n 8 ++ beL h.epoch 4 ++ beL h.base 4 ++ [byteOf h.body.length] ++ h.body) 56 ++ beL h.n 8
theorem headR_eq (h : HeadS) (hb : h.body.length ≤ 32) : headR h = headL h := by
  have hz : z64 = [] ++ List.replicate 64 0 := rfl
  unfold headL
  rw [putN_splB z64, hz, splB_app [] _ _ 0 rfl]
  simp only [beL_length, List.drop_replicate, List.nil_append, Nat.reduceSub]
  rw [putN_splB _ 8, splB_app _ _ _ 8 (by simp)]
  simp only [beL_length, List.drop_replicate, Nat.reduceSub]
  rw [putN_splB _ 12, splB_app _ _ _ 12 (by simp)]
  simp only [beL_length, List.drop_replicate, Nat.reduceSub]
  rw [set_splB _ _ _ (by simp), splB_app _ _ _ 16 (by simp)]
  simp only [List.length_singleton, List.drop_replicate, Nat.reduceSub]
  rw [setB_splB _ _ _ (by simp; omega), splB_app _ _ _ 17 (by simp)]
  simp only [List.drop_replicate]
  have e : List.replicate (47 - h.body.length) (0 : UInt8) = List.replicate (39 - h.body.length) 0 ++ List.replicate 8 0 := by rw [List.replicate_append_replicate]; congr 1; omega
  rw [e, ← List.append_assoc, putN_splB _ 56, splB_app _ _ _ 56 (by simp; omega)]
  simp only [beL_length, List.drop_replicate, Nat.reduceSub, List.replicate_zero, List.append_nil]
  unfold headR padL
  have el : 56 - (beL h.n 8 ++ beL h.epoch 4 ++ beL h.base 4 ++ [byteOf h.body.length] ++ h.body).length = 39 - h.body.length := by simp; omega
  rw [el]
def frameR (f : FrameS) : List UInt8 := padL (beL f.epoch 4 ++ beL f.k 4 ++ [if f.last then 1 else 0] ++ [byteOf f.body.length] ++ f.body) 56 ++ (beL f.epoch 4 ++ beL f.k 4)
theorem frameR_eq (f : FrameS) (hb : f.body.length ≤ 46) : frameR f = frameL f := by
  have hz : z64 = [] ++ List.replicate 64 0 := rfl
  have hP : frameP f = beL f.epoch 4 ++ beL f.k 4 ++ [if f.last then 1 else 0] ++ [byteOf f.body.length] ++ f.body ++ List.replicate (54 - f.body.length) 0 := by
    unfold frameP
    rw [putN_splB z64, hz, splB_app [] _ _ 0 rfl]
    simp only [beL_length, List.drop_replicate, List.nil_append, Nat.reduceSub]
    rw [putN_splB _ 4, splB_app _ _ _ 4 (by simp)]
    simp only [beL_length, List.drop_replicate, Nat.reduceSub]
    have e : (if f.last = true then (beL f.epoch 4 ++ beL f.k 4 ++ List.replicate 56 (0 : UInt8)).set 8 1 else beL f.epoch 4 ++ beL f.k 4 ++ List.replicate 56 0) = beL f.epoch 4 ++ beL f.k 4 ++ [if f.last then 1 else 0] ++ List.replicate 55 0 := by
      split
      · rw [set_splB _ _ _ (by simp), splB_app _ _ _ 8 (by simp)]
        simp only [List.length_singleton, List.drop_replicate, Nat.reduceSub]
      · rw [List.append_assoc _ [0]]; rfl
    rw [e, set_splB _ _ _ (by simp), splB_app _ _ _ 9 (by simp)]
    simp only [List.length_singleton, List.drop_replicate, Nat.reduceSub]
    rw [setB_splB _ _ _ (by simp; omega), splB_app _ _ _ 10 (by simp)]
    simp only [List.drop_replicate]
  unfold frameL
  have ht : (frameP f).take 8 = beL f.epoch 4 ++ beL f.k 4 := by
    rw [hP]
    simp only [List.append_assoc]
    rw [← List.append_assoc]
    exact List.take_left' (by simp)
  have e : List.replicate (54 - f.body.length) (0 : UInt8) = List.replicate (46 - f.body.length) 0 ++ List.replicate 8 0 := by rw [List.replicate_append_replicate]; congr 1; omega
  rw [ht, hP, e, ← List.append_assoc, setB_splB _ _ _ (by simp; omega), splB_app _ _ _ 56 (by simp; omega)]
  simp only [List.length_append, beL_length, List.drop_replicate, Nat.reduceSub, Nat.reduceAdd, List.replicate_zero, List.append_nil]
  unfold frameR padL
  have el : 56 - (beL f.epoch 4 ++ beL f.k 4 ++ [if f.last then 1 else 0] ++ [byteOf f.body.length] ++ f.body).length = 46 - f.body.length := by simp; omega
  rw [el]
/-! ## The same numbers, read -/
theorem getI_num (l : List UInt8) (off size : Nat) (hs : size ≤ 8) (h : off + size ≤ l.length) : getI l off size = IntKind.i64.wrap (beN (win l off size) : Int) := by
  unfold getI
  rw [show (l.drop off).take size = win l off size from rfl, getU_beN _ (by simp [win]; omega)]
theorem num4 (l : List UInt8) (off : Nat) (h : off + 4 ≤ l.length) : numR (win l off 4) = getI l off 4 := by
  have := beN_lt (win l off 4)
  have hl : (win l off 4).length = 4 := by simp [win]; omega
  rw [hl] at this
  have e : (256 : Nat) ^ 4 = 4294967296 := by decide
  rw [getI_num l off 4 (by decide) h, IntWalk.i64_in _ (by omega)]
  unfold numR
  rw [if_pos (by omega)]
theorem num8 (l : List UInt8) (off : Nat) (h : off + 8 ≤ l.length) : (numR (win l off 8) < 1 ↔ (getI l off 8 ≤ 0 ∨ 4611686018427387904 ≤ getI l off 8)) ∧ (1 ≤ numR (win l off 8) → numR (win l off 8) = getI l off 8) ∧ numR (win l off 8) < 4611686018427387904 := by
  have := beN_lt (win l off 8)
  have hl : (win l off 8).length = 8 := by simp [win]; omega
  rw [hl] at this
  have e : (256 : Nat) ^ 8 = 18446744073709551616 := by decide
  rw [getI_num l off 8 (by decide) h, IntKind.wrap_i64]
  unfold numR
  split <;> omega
theorem same8 (l : List UInt8) (h : l.length = 64) : l.take 8 = l.drop 56 ↔ getI l 56 8 = getI l 0 8 := by
  have h1 : l.take 8 = win l 0 8 := by simp [win]
  have h2 : l.drop 56 = win l 56 8 := by unfold win; rw [List.take_of_length_le (by simp; omega)]
  have e : (256 : Nat) ^ 8 = 18446744073709551616 := by decide
  have l1 : (win l 0 8).length = 8 := by simp [win]; omega
  have l2 : (win l 56 8).length = 8 := by simp [win]; omega
  have b1 := beN_lt (win l 0 8)
  have b2 := beN_lt (win l 56 8)
  rw [l1, e] at b1; rw [l2, e] at b2
  rw [getI_num l 56 8 (by decide) (by omega), getI_num l 0 8 (by decide) (by omega), h1, h2]
  constructor
  · intro h; rw [h]
  · intro h
    refine beN_inj (by omega) ?_
    rw [IntKind.wrap_i64, IntKind.wrap_i64] at h
    omega
/-- whether a head's sector does not count, as the reference asks it -/
def bad7 (l : List UInt8) (i : Int) : Prop := l.take 8 ≠ l.drop 56 ∨ numR (win l 0 8) < 1 ∨ 4611686018427387904 ≤ numR (win l 0 8) ∨ (numR (win l 0 8)).tmod 2 ≠ i ∨ 32 < (at8 l 16).toNat ∨ numR (win l 8 4) < numR (win l 12 4)
theorem parse_ref (l : List UInt8) (h : l.length = 64) (i : Int) : (bad7 l i → parseH l i = none) ∧ (¬ bad7 l i → parseH l i = some ⟨numR (win l 0 8), numR (win l 8 4), numR (win l 12 4), (l.drop 17).take (at8 l 16).toNat⟩) := by
  obtain ⟨a, b, c⟩ := num8 l 0 (by omega)
  have hs := same8 l h
  unfold bad7 parseH
  rw [num4 l 8 (by omega), num4 l 12 (by omega)]
  constructor
  · intro hb
    rw [if_pos]
    rcases hb with hb | hb | hb | hb | hb | hb
    · exact .inl fun h => hb (hs.2 h)
    · rcases a.1 hb with h | h
      · exact .inr (.inl h)
      · exact .inr (.inr (.inl h))
    · omega
    · by_cases h1 : 1 ≤ numR (win l 0 8)
      · rw [b h1] at hb; exact .inr (.inr (.inr (.inl hb)))
      · rcases a.1 (by omega) with h | h
        · exact .inr (.inl h)
        · exact .inr (.inr (.inl h))
    · exact .inr (.inr (.inr (.inr (.inl hb))))
    · exact .inr (.inr (.inr (.inr (.inr hb))))
  · intro hb
    have h1 : 1 ≤ numR (win l 0 8) := by
      rcases Int.lt_or_le (numR (win l 0 8)) 1 with h | h
      · exact absurd (.inr (.inl h)) hb
      · exact h
    rw [b h1] at hb ⊢
    rw [if_neg]
    rintro (h | h | h | h | h | h)
    · exact hb (.inl fun h' => h (hs.1 h'))
    · have := a.2 (.inl h); omega
    · have := a.2 (.inr h); omega
    · exact hb (.inr (.inr (.inr (.inl h))))
    · exact hb (.inr (.inr (.inr (.inr (.inl h)))))
    · exact hb (.inr (.inr (.inr (.inr (.inr h)))))
end Go.Proofs.Ytmgpiminicgbiaa
