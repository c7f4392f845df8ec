import Derived.Test.YtniifindnnfkaaaDoorCC
namespace Go.Proofs.YtniifindnnfkaaaDoor
set_option linter.unusedVariables false
set_option linter.unusedSimpArgs false
open Go.RowKit
attribute [local simp] isCut_nil isCut_region isCut_seq isCut_block isCut_loop isCut_cond isCut_skip isCut_exit isCut_ret isCut_range swapK putK altK condK_bool pickP_bool stepP stepO onPure_some onPure_none onImpl_some onImpl_none stepC onGP_some onGP_none onGV_some condG mkG onIt_it nextP_ptr takeP_eq takeV_some takeV_none takeU_some takeU_none takeQ takeW_some takeN_none takeN_some takeG_some takeO_some altO_some pureV binV2 eqF eqOp ovlV ovl2 rowAt capV binV intBin strBin isSh shV fldV ixV sliceV slice3V loadAV nilV lenV callV unV convV viewS cellsH loadV fldCut AV.ung AV.ungs AV.gc AV.cells AS.ev AS.put anyS gcsV lens lnO gV guardV retK RetP_eq resV oneV anyRo loIx hiIx implO callP_clo evL gcsL clearV storeAV AS.push AS.setO appV appZ shortS copyV buildV partsV fillV srcV fzO okV isCell_c isCell_ptr isCell_sl isCell_fs isCell_fp isCell_clo rowZ_one rowZ_zero rowZ_2 rowZ_3 rowZ_4 rowZ_5 rowZ_6 rowZ_7 rowZ_8 rowZ_9 rowZ_10 rowZ_11 rowZ_12 noHo Value.oneCell' max2V min2V lookV updV lenM msAt afterH putBack frzFrom frzO rebO backIx nilEq_sl nilEq_fs nilOp_eql nilOp_neq AV.reb AV.rebL
attribute [local simp ↓] runK_skip runK_region runK_draw runK_seq runK_cut runK_cond runK_block runK_loop runK_exit runK_label runK_goto runK_ret runK_range contK_nil contK_seq contK_seq_ret contK_seq_exit contK_seq_goto contK_block contK_block_ret contK_block_goto contK_block_exit runO_nil runO_cons roundK_exit roundK_ret roundK_goto exitK_ret cutK_ret cutK_exit runE_done runE_nil runE_take runE_alt condG_true condG_false
set_option maxRecDepth 10000
/-! ## Bytes as a string -/
def str (l : List UInt8) : ByteArray := ⟨l.toArray⟩
theorem str_app (a b : List UInt8) : str a ++ str b = str (a ++ b) := by
  apply ByteArray.ext
  simp [str]
theorem str_size (a : List UInt8) : (str a).size = a.length := by simp [str, ByteArray.size]
theorem str_inj {a b : List UInt8} : str a = str b ↔ a = b := ⟨fun h => by have := congrArg (fun x : ByteArray => x.data.toList) h; simpa [str] using this, fun h => by rw [h]⟩
theorem bytesOf_str (l : List UInt8) : bytesOf (u8av l) = str l := by
  unfold bytesOf str u8av
  congr 1
  rw [List.map_map]
  congr 1
  conv => rhs; rw [← List.map_id l]
  apply List.map_congr_left
  intro x _
  simp [u8of, u8]
@[simp] theorem u8av_u8 (l : List UInt8) : (∀ x ∈ u8av l, isU8 x = true) ↔ True := iff_true_intro <| by
  intro x hx
  simp [u8av] at hx
  obtain ⟨b, _, rfl⟩ := hx
  have := b.toNat_lt
  simp [isU8, u8]
  omega
theorem rnumS_len {s : Option (List UInt8)} {m : Nat} (h : ∀ l, s = some l → l.length ≤ m) : ∀ l, (rnumS s).2 = some l → l.length ≤ m := by
  intro l hl
  rcases s with _ | b
  · cases hl
  · have hb := h b rfl
    rcases b with _ | ⟨x, t⟩
    · cases hl
    · by_cases h8 : 8 < x.toNat % 128
      · simp [rnumS, rnum, h8] at hl
      · rw [rnumS_cons x t _ rfl h8] at hl
        simp only [List.length_cons] at hb
        split at hl
        · cases hl
        · split at hl
          · cases hl
          · simp only [Option.some.injEq] at hl
            rw [← hl, List.length_drop]; omega
end Go.Proofs.YtniifindnnfkaaaDoor
