/- IvalHolds: the walk. -/
import Derived.Test.YtacklcbgkigcaaaIw4
namespace Go.Proofs.Ytacklcbgkigcaaa
open Go
set_option linter.unusedVariables false
set_option linter.unusedSimpArgs false
set_option maxRecDepth 10000

theorem no_zero {y : IvT} {C E : Rat} (hy : FinI y C E) (h : hasI y 0 = false) : 0 < C ∨ E < 0 := by
  rw [hy.hasI, Bool.and_eq_false_iff, decide_eq_false_iff_not, decide_eq_false_iff_not] at h
  rcases h with h | h
  · exact .inl (Rat.not_le.1 h)
  · exact .inr (Rat.not_le.1 h)
theorem quoI_zero {x y : IvT} (h : hasI y 0 = true) : quoI x y = ((0, 0), 5) := if_pos h
theorem quoI_some {x y : IvT} (h : hasI y 0 = false) : quoI x y = (divI x y, 0) := if_neg (by rw [h]; exact Bool.false_ne_true)
end Go.Proofs.Ytacklcbgkigcaaa
