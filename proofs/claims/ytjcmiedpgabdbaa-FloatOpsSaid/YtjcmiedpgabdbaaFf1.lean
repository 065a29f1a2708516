/- FloatOps, FloatFma, FloatOrder, FloatBack: what the program and the document compute of floats is the same. -/
import Derived.Test.YtjcmiedpgabdbaaLf1
namespace Go.Proofs.Ytjcmiedpgabdbaa
open Go
set_option linter.unusedVariables false
set_option linter.unusedSimpArgs false
set_option maxRecDepth 10000

theorem floatOps_ok (a b : Nat) (n m mode : Int) (ha : a < 18446744073709551616) (hb : b < 18446744073709551616) (hm : I64 mode) :
    CallP Try.prog 17 [.int .u64 a, .int .u64 b, .int .i64 n, .int .i64 m, .int .i64 mode] (.p (.bool true)) [] := by
  refine callG_of_vc (wr := wr0) Γok mixed Try.func17 (by kernel_rfl) rfl (by kernel_rfl) (le_of_ble rfl) (by simp) ?_
  refine SCall.pure (known3_ok) ?_
  refine SCmp.no (rfl) ?_
  have hx := mkF_lt ha n
  have hy := mkF_lt hb m
  refine SCall.pure (make3_ok a n ha) ?_
  refine SCall.pure (make3_ok b m hb) ?_
  obtain ⟨x, hxd⟩ : ∃ x, x = mkF a n := ⟨_, rfl⟩
  obtain ⟨y, hyd⟩ : ∃ y, y = mkF b m := ⟨_, rfl⟩
  rw [← hxd] at hx ⊢
  rw [← hyd] at hy ⊢
  refine SCall.pure (within3_ok mode 5 (by omega) (by omega)) ?_
  refine SLoop.mk Nat (fun i => ([(11, .p (.int .u64 x)), (12, .p (.int .u64 y)), (13, .vec 0 1 0 2), (14, .p (.int .i64 i))], [.vec 3 1 (intsP [mode, mode % 5])])) (fun i => i ≤ 2) (fun i => 2 - i) 0 [0]
    (Nat.zero_le _) ⟨rfl, by simp, rfl, rfl, rfl, ⟨rfl, rfl, rfl, rfl, trivial⟩, ⟨rfl, trivial⟩⟩ ?_
  intro i h1
  have h1 : i ≤ 2 := h1
  by_cases hi : i < 2
  · refine SCmp.yes (decide_eq_true (by omega)) ?_
    refine SPos.mk i rfl hi ?_
    refine SIdx.ib i rfl hi ?_
    obtain ⟨k, hk⟩ : ∃ k, k = [mode, mode % 5].getD i 0 := ⟨_, rfl⟩
    rw [← hk]
    refine SCall.pureT (sfadd_ok x y k hx hy) (fun _ => rfl) ?_
    refine SCall.pureT (rfadd_ok x y k hx hy) (fun _ => rfl) ?_
    refine SCmp.no (neF rfl) ?_
    refine SCmp.no (neF rfl) ?_
    refine SCall.pureT (sfsub_ok x y k hx hy) (fun _ => rfl) ?_
    refine SCall.pureT (rfsub_ok x y k hx hy) (fun _ => rfl) ?_
    refine SCmp.no (neF rfl) ?_
    refine SCmp.no (neF rfl) ?_
    refine SCall.pureT (sfmul_ok x y k hx hy) (fun _ => rfl) ?_
    refine SCall.pureT (rfmul_ok x y k hx hy) (fun _ => rfl) ?_
    refine SCmp.no (neF rfl) ?_
    refine SCmp.no (neF rfl) ?_
    refine SCall.pureT (sfdiv_ok x y k hx hy) (fun _ => rfl) ?_
    refine SCall.pureT (rfdiv_ok x y k hx hy) (fun _ => rfl) ?_
    refine SCmp.no (neF rfl) ?_
    refine SCmp.no (neF rfl) ?_
    refine SCall.pureT (sfsqrt_ok x k hx) (fun _ => rfl) ?_
    refine SCall.pureT (rfsqrt_ok x k hx) (fun _ => rfl) ?_
    refine SCmp.no (neF rfl) ?_
    refine SCmp.no (neF rfl) ?_
    refine SWrap.i64z ((i + 1 : Nat) : Int) (by omega) (by omega) ?_
    exact ⟨i + 1, [0], hi, by show 2 - (i + 1) < 2 - i; omega, ⟨rfl, by simp, rfl, rfl, rfl, ⟨rfl, rfl, rfl, rfl, trivial⟩, ⟨rfl, trivial⟩⟩⟩
  · refine SCmp.no (decide_eq_false (by omega)) ?_
    exact SRet.pure (.tf _)
end Go.Proofs.Ytjcmiedpgabdbaa
