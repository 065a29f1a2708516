/- Cert: the chapter's example; CertSizes: the walk. -/
import Derived.Test.YtacklcbgkigcaaaCr2
import Derived.Test.YtacklcbgkigcaaaCr4
import Derived.Test.YtacklcbgkigcaaaFi6
namespace Go.Proofs.Ytacklcbgkigcaaa
open Go
set_option linter.unusedVariables false
set_option linter.unusedSimpArgs false
set_option maxRecDepth 10000

theorem code_one : codeQ ((1 : Int) : Rat) = 4607182418800017408 := by
  have h : rS ((1 : Int) : Rat) 0 = (4607182418800017408, 0) := rSc_ok (c := 4607182418800017408) (by decide +kernel)
  unfold codeQ ofF
  rw [if_neg (by decide), h]
theorem round_one : roundR [((1 : Int) : Rat)] = .tup [.p (.sl false 1 [.int .u64 4607182418800017408]), .p (.int .i64 0)] := by
  have h0 : atN [((1 : Int) : Rat)] 1 = 0 := by have := atN_lt [((1 : Int) : Rat)] 1 (by decide); omega
  have hb : badR [((1 : Int) : Rat)] = false := by
    unfold badR
    rw [show [((1 : Int) : Rat)].length = 1 from rfl, h0]
    show (decide (0 < 1) && (!decide (((1 : Int) : Rat) = 0) && !nrm (codeQ ((1 : Int) : Rat)))) = false
    rw [code_one]
    decide
  rw [roundR_fine hb]
  show AV.tup [.p (.sl false 1 [.int .u64 ((codeQ ((1 : Int) : Rat) : Nat) : Int)]), .p (.int .i64 0)] = _
  rw [code_one]
  rfl

theorem known16_ok : CallP Try.prog 31 [] (.p (.bool true)) [] := by
  refine callG_of_vc (wr := wr0) Γok mixed Try.func31 (by kernel_rfl) rfl (by kernel_rfl) (le_of_ble rfl) (by simp) ?_
  refine SCall.pure (rint_ok 1 (by omega)) ?_
  refine SView.all rfl ?_
  have c1 := cround_ok true [((1 : Int) : Rat)] (k := 1) (fun i hi => by
    have : i = 0 := by simpa using hi
    subst this
    exact bz_one) (by omega) (by simp)
  rw [round_one] at c1
  refine SCall.pureT (c1) (fun _ => rfl) ?_
  have c2 := csize_ok false [] (k := 1) (fun i hi => by simp at hi) (by omega) (by omega) (by simp)
  refine SCall.pure (c2) ?_
  refine SCall.pure (rzero_ok) ?_
  refine SCall.pure (rsame_self bz_zero (by omega)) ?_
  refine SCond.mk (fun _ => ?_) (fun h => by cases h)
  refine SCmp.yes (rfl) ?_
  refine SZ.mk 1 rfl ?_
  refine SCmp.yes (rfl) ?_
  refine SIdx.mk 0 _ rfl rfl ?_
  refine SCmp.yes (rfl) ?_
  exact SRet.pure (.tf _)

theorem certSizes_ok (m1 m2 : Bool) (n : Int) (ns vs : List Int) (k : Int) (hns : I64s ns) (hvs : I64s vs) :
    CallP Try.prog 6 [.int .i64 n, .sl m1 1 (intsP ns), .sl m2 1 (intsP vs), .int .i64 k] (.p (.bool true)) [] := by
  refine callG_of_vc (wr := wr0) Γok mixed Try.func6 (by kernel_rfl) rfl (by kernel_rfl) (le_of_ble rfl) (by simp) ?_
  refine SCall.pure (known16_ok) ?_
  refine SCmp.no (rfl) ?_
  have w1 := within16_ok n 6 (by omega) (by omega)
  obtain ⟨N, hN⟩ : ∃ N : Nat, (N : Int) = 1 + n % 6 := ⟨(1 + n % 6).toNat, by omega⟩
  refine SCall.pure (w1) ?_
  refine SWrap.i64z (N : Int) (by omega) (by omega) ?_
  refine SCall.pure (make7_ok m1 N (by omega) ns hns) ?_
  have w2 := within16_ok k 10 (by omega) (by omega)
  obtain ⟨K, hK⟩ : ∃ K : Nat, (K : Int) = k % 10 := ⟨(k % 10).toNat, by omega⟩
  rw [← hK] at w2
  refine SCall.pure (w2) ?_
  refine SCall.pure (row2_ok m2 vs hvs K (by omega)) ?_
  have bm := mkM_bm N ns
  have hl := mkM_length N ns
  obtain ⟨M, hM⟩ : ∃ M, M = mkM N ns := ⟨_, rfl⟩
  rw [← hM] at bm hl ⊢
  refine SCall.pure (cnorm_ok false false M bm (by omega) (by omega) (by omega)) ?_
  refine SCall.pure (rnorm16_ok false false M bm (by omega) (by omega) (by omega)) ?_
  have b1 := sizeQ_bz (sums_bl bm) (by omega) _ (Nat.le_refl _)
  rw [List.take_length] at b1
  refine SCall.pure (rsame_self (p := normQ M) b1 (by omega)) ?_
  refine SCond.mk (fun _ => ?_) (fun h => by cases h)
  have bv : Bl (lst K (rowG vs)) 5 := Bl.lst fun i _ => rowG_bz vs i
  have hv : (lst K (rowG vs)).length = K := lst_length
  obtain ⟨V, hV⟩ : ∃ V, V = lst K (rowG vs) := ⟨_, rfl⟩
  rw [← hV] at bv hv ⊢
  refine SCall.pure (csize_ok false V bv (by omega) (by omega) (by omega)) ?_
  refine SCall.pure (rsize16_ok false V bv (by omega) (by omega) (by omega)) ?_
  have b2 := sizeQ_bz bv (by omega) _ (Nat.le_refl _)
  rw [List.take_length] at b2
  refine SCall.pure (rsame_self b2 (by omega)) ?_
  exact SRet.pure (.p _ (.bool _))
end Go.Proofs.Ytacklcbgkigcaaa
