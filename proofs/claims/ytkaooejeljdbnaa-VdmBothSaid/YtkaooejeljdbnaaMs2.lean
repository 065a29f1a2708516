/- The document's determinants, ranks, polynomials. -/
import Derived.Test.YtkaooejeljdbnaaMs1
namespace Go.Proofs.Ytkaooejeljdbnaa
open Go
set_option linter.unusedVariables false
set_option linter.unusedSimpArgs false
set_option maxRecDepth 10000

theorem rdet_ok (m m' : Bool) (n : Nat) (A : Nat → Nat → Rat) {R : Nat → Nat} (hRB : RB R n n A) (hn : n ≤ 900) :
    CallP Try.prog 48 [matP m m' n n A] (.p (ratP (elim n A n).det)) [] := by
  refine callG_of_vc (wr := wr0) Γok mixed Try.func48 (by kernel_rfl) rfl (by kernel_rfl) (le_of_ble rfl) (by simp) ?_
  refine SZ.mk (n : Int) (by simp) ?_
  refine SCall.pureT (rtriangle_ok m m' n n A hRB (Nat.le_refl n) (by omega)) (fun _ => rfl) ?_
  exact SRet.pure (.p _ (pers_rat _ _ _))
theorem rrank_ok (m m' : Bool) (n : Nat) (A : Nat → Nat → Rat) {R : Nat → Nat} (hRB : RB R n n A) (hn : n ≤ 900) :
    CallP Try.prog 32 [matP m m' n n A] (.p (.int .i64 (elim n A n).r)) [] := by
  refine callG_of_vc (wr := wr0) Γok mixed Try.func32 (by kernel_rfl) rfl (by kernel_rfl) (le_of_ble rfl) (by simp) ?_
  refine SZ.mk (n : Int) (by simp) ?_
  refine SCall.pureT (rtriangle_ok m m' n n A hRB (Nat.le_refl n) (by omega)) (fun _ => rfl) ?_
  exact SRet.pure (.p _ (.int _ _))
end Go.Proofs.Ytkaooejeljdbnaa
