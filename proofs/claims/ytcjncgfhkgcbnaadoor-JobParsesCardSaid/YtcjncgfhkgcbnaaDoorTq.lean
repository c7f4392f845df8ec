import Derived.Test.YtcjncgfhkgcbnaaDoorTp
import Derived.Test.YtcjncgfhkgcbnaaDoorHQ
namespace Go.Proofs.YtcjncgfhkgcbnaaDoor
set_option linter.unusedVariables false
set_option linter.unusedSimpArgs false
open Go.RowKit
attribute [local simp] isCut_nil isCut_region isCut_seq isCut_block isCut_loop isCut_cond isCut_skip isCut_exit isCut_ret isCut_range swapK putK altK condK_bool pickP_bool stepP stepO onPure_some onPure_none onImpl_some onImpl_none stepC onGP_some onGP_none onGV_some condG mkG onIt_it nextP_ptr takeP_eq takeV_some takeV_none takeU_some takeU_none takeQ takeW_some takeN_none takeN_some takeG_some takeO_some altO_some pureV binV2 eqF eqOp ovlV ovl2 rowAt capV binV intBin strBin isSh shV fldV ixV sliceV slice3V loadAV nilV lenV callV unV convV viewS cellsH loadV fldCut AV.ung AV.ungs AV.gc AV.cells AS.ev AS.put anyS gcsV gcO lens lnO gV guardV retK RetP_eq resV oneV anyRo loIx hiIx implO callP_clo evL gcsL clearV storeAV AS.push AS.setO appV appZ shortS copyV buildV partsV fillV srcV fzO okV isCell_c isCell_ptr isCell_sl isCell_fs isCell_fp isCell_clo rowZ_one rowZ_zero rowZ_2 rowZ_3 rowZ_4 rowZ_5 rowZ_6 rowZ_7 rowZ_8 rowZ_9 rowZ_10 rowZ_11 rowZ_12 noHo Value.oneCell' max2V min2V lookV updV lenM msAt afterH putBack frzFrom frzO rebO backIx nilEq_sl nilEq_fs nilOp_eql nilOp_neq AV.reb AV.rebL
attribute [local simp ↓] runK_skip runK_region runK_draw runK_seq runK_cut runK_cond runK_block runK_loop runK_exit runK_label runK_goto runK_ret runK_range contK_nil contK_seq contK_seq_ret contK_seq_exit contK_seq_goto contK_block contK_block_ret contK_block_goto contK_block_exit runO_nil runO_cons roundK_exit roundK_ret roundK_goto exitK_ret cutK_ret cutK_exit runE_done runE_nil runE_take runE_alt condG_true condG_false
set_option maxRecDepth 10000
def tCol : TSt → ColS × TSt := sq tNum fun id => sq tText fun name => sq tNum fun k => sq tNum fun sc => sq tFlag fun nn => sq tDft fun d => sq tNum fun st => un ⟨id, name, ⟨k, sc⟩, nn, d, st⟩
theorem Kt.deadT {M m : Nat} {R : Type} {t : TSt} {k : Bs → Option R} {tot : Option R} (h : Kt (tSys M m) t k tot) (hd : t.2 = true) : tot = none := by
  rcases h.2 with ⟨_, h2⟩ | ⟨b, rfl, _⟩
  · exact h2
  · cases hd
theorem Kt.liveT {M m : Nat} {R : Type} {t : TSt} {k : Bs → Option R} {tot : Option R} (h : Kt (tSys M m) t k tot) (hd : t.2 = false) : tot = k t.1 := by
  rcases h.2 with ⟨h1, _⟩ | ⟨b, rfl, h2⟩
  · have h1 : t.2 = true := h1
    rw [hd] at h1; cases h1
  · exact h2
def dMany {α : Type} (g : Bs → Option (α × Bs)) : Bs → Option (List α × Bs) := bd sNum fun n => kL g rt n []
def dIdx : Bs → Option (IdxS × Bs) := bd sNum fun id => bd sText fun name => bd (dMany sNum) fun cols => bd sFlag fun u => bd sNum fun st => rt ⟨id, name, cols, u, st⟩
def dTab : Bs → Option (TabS × Bs) := bd sNum fun id => bd sText fun name => bd (dMany sCol) fun cols => bd (dMany dIdx) fun idxs => rt ⟨id, name, cols, idxs⟩
def dSch : Bs → Option SchS := bd sNum fun v => bd sNum fun n => bd (dMany dTab) fun l => finS ⟨v, n, l⟩
theorem parse_refU (b : Bs) (hb : b.length ≤ 100000) : ACalls Tryd.prog 44 [.fs 1 b.length (u8av b)] [] (fun _ => false) (fun r h' => r = .tup [.fs 5 (cellsOf b).length (cellsA (cellsOf b)), .c (.bool (parseS b).isSome)] ∧ h' = []) := by
  have h := parse_ref b hb
  unfold rowParseA at h
  cases hp : parseS b with
  | none =>
    rw [hp] at h
    rw [cellsOf_none hp]
    exact h.told fun G F w x => nil2_rep 5
  | some l =>
    rw [hp] at h
    rw [cellsOf_some hp]
    exact h
end Go.Proofs.YtcjncgfhkgcbnaaDoor
