import Derived.Test.YtmgpiminicgbiaaLJ
namespace Go.Proofs.Ytmgpiminicgbiaa
set_option linter.unusedVariables false
set_option linter.unusedSimpArgs false
open Go.RowKit
/-! ## The states of law 7's first -/
def okB (D : DevS) : Bool := D.wait.all (fun x => decide (x.1 < D.kept.length)) && decide (1 ≤ D.kept.length) && decide (D.kept.length ≤ 65536) && decide (0 ≤ D.left) && decide (D.left ≤ 9223372036854775807) && decide (0 ≤ D.calls) && decide (D.calls ≤ 1000) && decide (D.wait.length ≤ 1000)
theorem okB_ok {D : DevS} (h : okB D = true) : D.Ok ∧ D.calls ≤ 1000 ∧ D.wait.length ≤ 1000 := by
  simp only [okB, Bool.and_eq_true, decide_eq_true_eq, List.all_eq_true] at h
  obtain ⟨⟨⟨⟨⟨⟨⟨a, b⟩, c⟩, d⟩, e⟩, f⟩, g⟩, i⟩ := h
  exact ⟨⟨fun x hx => a x hx, b, c, d, e, f, by omega, by omega⟩, g, i⟩
def fW1 : Int × DevS × LogS := openS (newS 12) 10
def fW2 : Int × DevS × LogS := appS fW1.2.1 fW1.2.2 [97]
def fD3 : DevS := { fW2.2.1 with bound := true, left := max 3 0 }
def fW4 : Int × DevS × LogS := appS fD3 fW2.2.2 (List.replicate 100 0)
def fD5 : DevS := crashS [64, 0, 64] fW4.2.1
def fW6 : Int × DevS × LogS := openS fD5 10
def fW7 : Int × DevS × LogS := resS fW6.2.1 fW6.2.2 [104, 101, 97, 100]
theorem f1 : fW1.1 = 0 ∧ okB fW1.2.1 = true ∧ fW1.2.2.frames = 10 ∧ fW1.2.2.at_ = 0 ∧ fW1.2.2.bs = [] := by decide +kernel
theorem f2 : fW2.1 = 0 ∧ okB fW2.2.1 = true ∧ roomL fW2.2.2 = 9 ∧ fW2.2.2.frames = 10 ∧ fW2.2.2.at_ = 1 ∧ fW2.2.2.bs.length = 1 := by decide +kernel
theorem f3 : okB fD3 = true := by decide +kernel
theorem f4 : fW4.1 = 60 ∧ okB fW4.2.1 = true := by decide +kernel
theorem f5 : okB fD5 = true := by decide +kernel
theorem f6 : fW6.1 = 0 ∧ okB fW6.2.1 = true ∧ fW6.2.2.bs = [[97]] ∧ fW6.2.2.h.n = 2 ∧ fW6.2.2.h.epoch = 2 := by decide +kernel
theorem f7 : fW7.1 = 0 ∧ okB fW7.2.1 = true ∧ fW7.2.2.bs = [] ∧ fW7.2.2.h.body = [104, 101, 97, 100] ∧ roomL fW7.2.2 = 10 ∧ fW7.2.2.h.epoch = 3 ∧ fW7.2.2.frames = 10 ∧ fW7.2.2.at_ = 0 := by decide +kernel
end Go.Proofs.Ytmgpiminicgbiaa
