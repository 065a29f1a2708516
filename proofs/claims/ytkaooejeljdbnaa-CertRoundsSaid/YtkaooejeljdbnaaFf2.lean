/- FloatFma, FloatOrder, FloatBack: the walks. -/
import Derived.Test.YtkaooejeljdbnaaLf1
namespace Go.Proofs.Ytkaooejeljdbnaa
open Go
set_option linter.unusedVariables false
set_option linter.unusedSimpArgs false
set_option maxRecDepth 10000

/-! #### answers are floats -/
def Ok64 (f : Nat) : Prop := f < 18446744073709551616 ∧ mag f ≤ 9221120237041090560
theorem ok_sg {neg : Bool} {c : Nat} (h : c ≤ 9221120237041090560) : Ok64 (sg neg c) := by
  obtain ⟨m1, m2, m3⟩ := mag_sg (neg := neg) (c := c) (by omega)
  exact ⟨m3, by rw [m1]; exact h⟩
theorem ok_out (neg : Bool) (c : Nat) (sm : Bool) (half mode : Int) : Ok64 (out neg c sm half mode).1 := by
  rw [out]
  split
  · exact ok_sg (by unfold lim; split <;> omega)
  · exact ok_sg (by omega)
theorem ok_rS (q : Rat) (mode : Int) : Ok64 (rS q mode).1 := ok_out _ _ _ _ _
theorem ok_of (q : Rat) (mode : Int) : Ok64 (ofF q mode).1 := by
  unfold ofF; split
  · exact ⟨by show 0 < _; omega, by decide⟩
  · exact ok_rS _ _
theorem ok_sum (p : Rat) (np : Bool) (q : Rat) (nq : Bool) (mode : Int) : Ok64 (sumF p np q nq mode).1 := by
  unfold sumF; split
  · split
    · exact ok_sg (by omega)
    · exact ok_sg (by omega)
  · exact ok_rS _ _
theorem ok_inf {f : Nat} (hf : f < 18446744073709551616) (h : isInf f = true) : Ok64 f := ⟨hf, by rw [inf_mag.1 h]; omega⟩
theorem ok_nan : Ok64 9221120237041090560 := ⟨by omega, by decide⟩
theorem ok_add {x y : Nat} (hx : x < 18446744073709551616) (hy : y < 18446744073709551616) (mode : Int) : Ok64 (addF x y mode).1 := by
  unfold addF
  split
  · exact ok_nan
  split
  · exact ok_nan
  split
  · rename_i h; exact ok_inf hx h
  split
  · rename_i h; exact ok_inf hy h
  · exact ok_sum _ _ _ _ _
theorem ok_mul (x y : Nat) (mode : Int) : Ok64 (mulF x y mode).1 := by
  unfold mulF
  split
  · exact ok_nan
  split
  · exact ok_nan
  split
  · exact ok_sg (by omega)
  split
  · exact ok_sg (by omega)
  · exact ok_rS _ _
theorem ok_div (x y : Nat) (mode : Int) : Ok64 (divF x y mode).1 := by
  unfold divF
  split
  · exact ok_nan
  split
  · exact ok_nan
  split
  · exact ok_sg (by omega)
  split
  · exact ok_sg (by omega)
  split
  · exact ok_sg (by omega)
  · exact ok_rS _ _
theorem ok_next {f : Nat} (hf : f < 18446744073709551616) (up : Bool) : nextF f up < 18446744073709551616 := by
  unfold nextF
  split
  · omega
  rename_i hn
  split
  · exact (ok_sg (by omega)).1
  split
  · exact hf
  rename_i hi
  split
  · omega
  · rename_i h1 h2
    have h3 : ¬ 9218868437227405312 < f % 9223372036854775808 := by simpa [isNan] using hn
    omega
theorem flip_add {f : Nat} (h : Ok64 f) : flip f + 1 < 18446744073709551616 := by
  have h1 := h.2
  have h2 := h.1
  unfold mag at h1
  unfold flip; split <;> omega

theorem rS_fvq {f : Nat} (hf : f < 18446744073709551616) (hn : isNan f = false) (hi : isInf f = false) (hz : isZ f = false) (mode : Int) : rS (fvq f) mode = (f, 0) := by
  have h1 : mag f < 9218868437227405312 := by
    have h1 := of_decide_eq_false hn
    have h2 := of_decide_eq_false hi
    unfold mag; omega
  have h0 : 0 < mag f := by
    have := of_decide_eq_false hz
    unfold mag; omega
  have e : fvq f = sval (ngt f) (fval (mag f)) := rfl
  rw [e, rS_sval (fval_pos.2 h0), rnd_exact h1, sg_mag f hf]
end Go.Proofs.Ytkaooejeljdbnaa
