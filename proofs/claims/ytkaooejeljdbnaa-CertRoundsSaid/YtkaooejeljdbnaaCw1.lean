/- CertRounds: the walk. -/
import Derived.Test.YtkaooejeljdbnaaCr2
import Derived.Test.YtkaooejeljdbnaaFi6
namespace Go.Proofs.Ytkaooejeljdbnaa
open Go
set_option linter.unusedVariables false
set_option linter.unusedSimpArgs false
set_option maxRecDepth 10000

theorem code_one : codeQ ((1 : Int) : Rat) = 4607182418800017408 := by
  have h : rS ((1 : Int) : Rat) 0 = (4607182418800017408, 0) := rSc_ok (c := 4607182418800017408) (by decide +kernel)
  unfold codeQ ofF
  rw [if_neg (by decide), h]
theorem round_one : roundR [((1 : Int) : Rat)] = .tup [.p (.sl false 1 [.int .u64 4607182418800017408]), .p (.int .i64 0)] := by
  have h0 : atN [((1 : Int) : Rat)] 1 = 0 := by have := atN_lt [((1 : Int) : Rat)] 1 (by decide); omega
  have hb : badR [((1 : Int) : Rat)] = false := by
    unfold badR
    rw [show [((1 : Int) : Rat)].length = 1 from rfl, h0]
    show (decide (0 < 1) && (!decide (((1 : Int) : Rat) = 0) && !nrm (codeQ ((1 : Int) : Rat)))) = false
    rw [code_one]
    decide
  rw [roundR_fine hb]
  show AV.tup [.p (.sl false 1 [.int .u64 ((codeQ ((1 : Int) : Rat) : Nat) : Int)]), .p (.int .i64 0)] = _
  rw [code_one]
  rfl
theorem czero_ok : CallP Try.prog 137 [] (.p (ratP 0)) [] := by
  refine callG_of_vc (wr := wr0) Γok mixed Try.func137 (by kernel_rfl) rfl (by kernel_rfl) (le_of_ble rfl) (by simp) ?_
  refine SRet.pure ?_
  rw [ratP_zero]
  exact conv3 ⟨rfl, rfl, rfl⟩ (.p _ (.bool _)) (.p _ (.sl _ _ (fun e he => by simp at he))) (frz1 rfl)
abbrev boxQ (q : Rat) : List AV := [.p (.bool (decide (q.num < 0))), .p (natP q.num.natAbs), .p (natP q.den)]
theorem csize_nil_ok (m : Bool) : CallP Try.prog 85 [ratsM m []] (.p (ratP 0)) [] := by
  refine callG_of_vc (wr := wr0) Γok mixed Try.func85 (by kernel_rfl) rfl (by kernel_rfl) (le_of_ble rfl) (by simp) ?_
  refine SCall.pure (czero_ok) ?_
  refine SZ.mk 0 rfl ?_
  refine SLoop.mk Unit (fun _ => ([(2, .bptr 0 0), (3, .bptr 1 0), (9, .p (ratsM m [])), (10, .p (.int .i64 0)), (11, .p (.int .i64 0))], [.box 37 [.p (.bool false), .p (.sl false 1 []), .p (.sl false 1 [])], .box 153 (boxQ 0)]))
    (fun _ => True) (fun _ => 0) () [0, 1] trivial ⟨rfl, by simp, rfl, rfl, rfl, ⟨rfl, rfl, rfl, rfl, rfl, trivial⟩, ⟨rfl, rfl, trivial⟩⟩ ?_
  intro _ _
  refine SCmp.no (rfl) ?_
  exact SRet.pure (.p _ (pers_rat _ _ _))
theorem known16_ok : CallP Try.prog 33 [] (.p (.bool true)) [] := by
  refine callG_of_vc (wr := wr0) Γok mixed Try.func33 (by kernel_rfl) rfl (by kernel_rfl) (le_of_ble rfl) (by simp) ?_
  refine SCall.pure (rint_ok 1 (by omega)) ?_
  refine SView.all rfl ?_
  have c1 := cround_ok true [((1 : Int) : Rat)] (k := 1) (fun i hi => by
    have : i = 0 := by simpa using hi
    subst this
    exact bz_one) (by omega) (by simp)
  rw [round_one] at c1
  refine SCall.pureT (c1) (fun _ => rfl) ?_
  refine SCall.pure (csize_nil_ok false) ?_
  refine SCall.pure (rzero_ok) ?_
  have hS := rsame_ok 0 0 bz_zero bz_zero (by omega)
  rw [decide_eq_true rfl] at hS
  refine SCall.pure (hS) ?_
  refine SCond.mk (fun _ => ?_) (fun h => by cases h)
  refine SCmp.yes (rfl) ?_
  refine SZ.mk 1 rfl ?_
  refine SCmp.yes (rfl) ?_
  refine SIdx.mk 0 _ rfl rfl ?_
  refine SCmp.yes (rfl) ?_
  exact SRet.pure (.tf _)
end Go.Proofs.Ytkaooejeljdbnaa
