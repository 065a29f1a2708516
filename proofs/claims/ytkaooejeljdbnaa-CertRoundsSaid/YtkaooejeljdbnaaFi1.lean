/- FloatInts, FloatScales: the walks. -/
import Derived.Test.YtkaooejeljdbnaaFe
namespace Go.Proofs.Ytkaooejeljdbnaa
open Go
set_option linter.unusedVariables false
set_option linter.unusedSimpArgs false
set_option maxRecDepth 10000

theorem zint_bz {n : Int} (h : n.natAbs < 18446744073709551616) : Bz (n : Rat) 64 := ⟨by simpa using bitLen_le (show n.natAbs < 2 ^ 64 by simpa using h), by rw [Rat.den_intCast, show bitLen 1 = 1 by decide]; omega⟩
theorem zint_add (n m : Int) : ((n + m : Int) : Rat) = (n : Rat) + (m : Rat) := by simp
theorem zint_sub (n m : Int) : ((n - m : Int) : Rat) = (n : Rat) - (m : Rat) := by simp
theorem zint_mul (n m : Int) : ((n * m : Int) : Rat) = (n : Rat) * (m : Rat) := by simp
theorem rsame_self {p : Rat} {k : Nat} (hp : Bz p k) (h : k + k ≤ 1048576) : CallP Try.prog 24 [ratP p, ratP p] (.p (.bool true)) [] := by
  have := rsame_ok p p hp hp h
  rwa [decide_eq_true rfl] at this
theorem mul_bd {n m : Int} (hn : -67108864 ≤ n ∧ n < 67108864) (hm : -33554432 ≤ m ∧ m < 33554432) : (n * m).natAbs < 9007199254740992 := by
  rw [Int.natAbs_mul]
  have h1 : n.natAbs ≤ 67108864 := by omega
  have h2 : m.natAbs ≤ 33554432 := by omega
  have := Nat.mul_le_mul h1 h2
  omega
end Go.Proofs.Ytkaooejeljdbnaa
