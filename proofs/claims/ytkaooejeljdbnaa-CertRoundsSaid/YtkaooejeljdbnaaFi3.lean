/- FloatNexts, FloatRoots: the walks. -/
import Derived.Test.YtkaooejeljdbnaaFi1
import Derived.Test.YtkaooejeljdbnaaFe
namespace Go.Proofs.Ytkaooejeljdbnaa
open Go
set_option linter.unusedVariables false
set_option linter.unusedSimpArgs false
set_option maxRecDepth 10000

theorem cmpQ_lt0 {p q : Rat} : (cmpQ p q < 0) ↔ p < q := by
  unfold cmpQ
  split
  · rename_i h; exact ⟨fun _ => h, fun _ => by omega⟩
  · rename_i h; split
    · exact ⟨fun h => by omega, fun h2 => absurd h2 h⟩
    · exact ⟨fun h => by omega, fun h2 => absurd h2 h⟩
theorem cmpQ_le0 {p q : Rat} (h : p ≤ q) : decide (cmpQ p q > 0) = false := by
  unfold cmpQ
  split
  · rfl
  · rename_i h1
    have : p = q := by grind
    rw [if_pos this]; rfl
theorem FinF.bz {x : Nat} {q : Rat} (h : FinF x q) : Bz q 1080 := by have := fvq_bz x; rwa [h.val] at this
theorem not_bad {x : Nat} (hx : x < 18446744073709551616) (h : ¬ (isNan x = true ∨ isInf x = true)) : FinF x (fvq x) :=
  ⟨hx, by cases h1 : isNan x with | false => rfl | true => exact absurd (.inl h1) h, by cases h1 : isInf x with | false => rfl | true => exact absurd (.inr h1) h, rfl⟩
theorem half_ok : CallP Try.prog 58 [.int .i64 1, .int .i64 2] (.tup [.p (ratP (1 / 2)), .p (.int .i64 0)]) [] := by
  have h := rof2_ok 1 2 (by omega) (by omega) (by omega)
  have e : mkQ (decide ((1 : Int) < 0) != decide ((2 : Int) < 0)) (1 : Int).natAbs (2 : Int).natAbs = 1 / 2 := by
    rw [mkQ_val]; simp
  rwa [e] at h
theorem half_bz : Bz (1 / 2 : Rat) 2 := ⟨by decide +kernel, by decide +kernel⟩

end Go.Proofs.Ytkaooejeljdbnaa
