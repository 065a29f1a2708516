/- Cert: the chapter's example; CertSizes: the walk. -/
import Derived.Test.YtacklcbgkigcaaaGreatCr2
import Derived.Test.YtacklcbgkigcaaaGreatCr4
import Derived.Test.YtacklcbgkigcaaaGreatFi6
namespace Go.Proofs.YtacklcbgkigcaaaGreat
open Go
set_option linter.unusedVariables false
set_option linter.unusedSimpArgs false
set_option maxRecDepth 10000

theorem code_one : codeQ ((1 : Int) : Rat) = 4607182418800017408 := by
  have h : rS ((1 : Int) : Rat) 0 = (4607182418800017408, 0) := rSc_ok (c := 4607182418800017408) (by decide +kernel)
  unfold codeQ ofF
  rw [if_neg (by decide), h]
theorem round_one : roundR [((1 : Int) : Rat)] = .tup [.p (.sl false 1 [.int .u64 4607182418800017408]), .p (.int .i64 0)] := by
  have h0 : atN [((1 : Int) : Rat)] 1 = 0 := by have := atN_lt [((1 : Int) : Rat)] 1 (by decide); omega
  have hb : badR [((1 : Int) : Rat)] = false := by
    unfold badR
    rw [show [((1 : Int) : Rat)].length = 1 from rfl, h0]
    show (decide (0 < 1) && (!decide (((1 : Int) : Rat) = 0) && !nrm (codeQ ((1 : Int) : Rat)))) = false
    rw [code_one]
    decide
  rw [roundR_fine hb]
  show AV.tup [.p (.sl false 1 [.int .u64 ((codeQ ((1 : Int) : Rat) : Nat) : Int)]), .p (.int .i64 0)] = _
  rw [code_one]
  rfl

theorem known16_ok : CallP Tryz.prog 43 [] (.p (.bool true)) [] := by
  refine callG_of_vc (wr := wr0) Γok mixed Tryz.func43 (by kernel_rfl) rfl (by kernel_rfl) (le_of_ble rfl) (by simp) ?_
  refine SCall.pure (rint_ok 1 (by omega)) ?_
  refine SView.all rfl ?_
  have c1 := cround_ok true [((1 : Int) : Rat)] (k := 1) (fun i hi => by
    have : i = 0 := by simpa using hi
    subst this
    exact bz_one) (by omega) (by simp)
  rw [round_one] at c1
  refine SCall.pureT (c1) (fun _ => rfl) ?_
  have c2 := csize_ok false [] (k := 1) (fun i hi => by simp at hi) (by omega) (by omega) (by simp)
  refine SCall.pure (c2) ?_
  refine SCall.pure (rzero_ok) ?_
  refine SCall.pure (rsame_self bz_zero (by omega)) ?_
  refine SCond.mk (fun _ => ?_) (fun h => by cases h)
  refine SCmp.yes (rfl) ?_
  refine SZ.mk 1 rfl ?_
  refine SCmp.yes (rfl) ?_
  refine SIdx.mk 0 _ rfl rfl ?_
  refine SCmp.yes (rfl) ?_
  exact SRet.pure (.tf _)

end Go.Proofs.YtacklcbgkigcaaaGreat
