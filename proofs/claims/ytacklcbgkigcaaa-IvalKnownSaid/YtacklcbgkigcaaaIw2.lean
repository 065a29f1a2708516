/- Enclosures, the document's: the walks. -/
import Derived.Test.YtacklcbgkigcaaaIw1
namespace Go.Proofs.Ytacklcbgkigcaaa
open Go
set_option linter.unusedVariables false
set_option linter.unusedSimpArgs false
set_option maxRecDepth 10000

/-! #### the four ends -/
def stepF (o : Int) (f x : Nat) : Nat := if (cmpF x f).2 = true ∧ (cmpF x f).1 = o then x else f
def outF (o : Int) (g : Nat → Nat) : Nat → Nat
  | 0 => 0
  | 1 => g 0
  | k + 2 => stepF o (outF o g (k + 1)) (g (k + 1))
theorem cmpF_m1 {x f : Nat} : (cmpF x f).1 < 0 ↔ ((cmpF x f).2 = true ∧ (cmpF x f).1 = -1) := by
  unfold cmpF
  split
  · simp
  · unfold cmpI
    split
    · simp
    split
    · simp
    · simp
theorem cmpF_p1 {x f : Nat} : 0 < (cmpF x f).1 ↔ ((cmpF x f).2 = true ∧ (cmpF x f).1 = 1) := by
  unfold cmpF
  split
  · simp
  · unfold cmpI
    split
    · simp
    split
    · simp
    · simp
theorem outF_lt {o : Int} {g : Nat → Nat} (h : ∀ k, k < 4 → g k < 18446744073709551616) : ∀ k, k ≤ 4 → outF o g k < 18446744073709551616
  | 0, _ => by show 0 < 18446744073709551616; omega
  | 1, _ => h 0 (by omega)
  | k + 2, hk => by
    show stepF o (outF o g (k + 1)) (g (k + 1)) < _
    unfold stepF
    split
    · exact h _ (by omega)
    · exact outF_lt h (k + 1) (by omega)
theorem outF_lo {o : Int} {g : Nat → Nat} {k : Nat} (hk : k ≠ 0) : outF o g (k + 1) = stepF o (outF o g k) (g k) := by
  match k, hk with
  | k + 1, _ => rfl
noncomputable def fourOp (quo : Bool) : FOp := fun x y m => if quo then divF x y m else mulF x y m
theorem fourOp_true : fourOp true = divF := by funext x y m; exact if_pos rfl
theorem fourOp_false : fourOp false = mulF := by funext x y m; exact if_neg Bool.false_ne_true
theorem boxI {T : TypeId} {a b c d : Nat} (h1 : a = c) (h2 : b = d) : Blk.box T [.p (.int .u64 (a : Int)), .p (.int .u64 (b : Int))] = Blk.box T [.p (.int .u64 (c : Int)), .p (.int .u64 (d : Int))] := by rw [h1, h2]
/-! #### what it has -/
end Go.Proofs.Ytacklcbgkigcaaa
