/- The document's floats: Fma. -/
import Derived.Test.YtjcmiedpgabdbaaRg3
namespace Go.Proofs.Ytjcmiedpgabdbaa
open Go
set_option linter.unusedVariables false
set_option linter.unusedSimpArgs false
set_option maxRecDepth 10000

theorem mag_sg {neg : Bool} {c : Nat} (h : c < 9223372036854775808) : mag (sg neg c) = c ∧ ngt (sg neg c) = neg ∧ sg neg c < 18446744073709551616 := by
  unfold mag ngt sg
  cases neg with
  | true => rw [if_pos rfl]; exact ⟨by omega, decide_eq_true (by omega), by omega⟩
  | false => rw [if_neg Bool.false_ne_true]; exact ⟨by omega, decide_eq_false (by omega), by omega⟩
theorem inf_mag {f : Nat} : isInf f = true ↔ mag f = 9218868437227405312 := by unfold isInf mag; simp
theorem add_inf {ns : Bool} {c : Nat} (mode : Int) (hc : c < 18446744073709551616) (hn : isNan c = false) :
    addF (sg ns 9218868437227405312) c mode = if isInf c && (ns != ngt c) then (9221120237041090560, 16) else (sg ns 9218868437227405312, 0) := by
  obtain ⟨m1, m2, m3⟩ := mag_sg (neg := ns) (c := 9218868437227405312) (by omega)
  have hi : isInf (sg ns 9218868437227405312) = true := inf_mag.2 m1
  have hnn : isNan (sg ns 9218868437227405312) = false := by unfold isNan; unfold mag at m1; rw [m1]; decide
  rw [addF, hnn, hn, hi, if_neg (by simp)]
  cases hic : isInf c with
  | true =>
    by_cases h : ns = ngt c
    · have : sg ns 9218868437227405312 = c := by rw [← sg_mag c hc, inf_mag.1 hic, h]
      rw [if_neg (by simp [this]), if_pos rfl, if_neg (by simp [h])]
    · have : sg ns 9218868437227405312 ≠ c := fun h2 => h (by rw [← h2, m2])
      rw [if_pos (by simp [this]), if_pos (by simp [h])]
  | false => rw [if_neg (by simp), if_pos rfl, if_neg (by simp)]
theorem add_zero {ns : Bool} {c : Nat} (mode : Int) (hn : isNan c = false) (hi : isInf c = false) :
    addF (sg ns 0) c mode = sumF 0 ns (fvq c) (ngt c) mode := by
  obtain ⟨m1, m2, m3⟩ := mag_sg (neg := ns) (c := 0) (by omega)
  have hz : isZ (sg ns 0) = true := isZ_iff.2 m1
  have hnn : isNan (sg ns 0) = false := by unfold isNan; unfold mag at m1; rw [m1]; decide
  have hii : isInf (sg ns 0) = false := by unfold isInf; unfold mag at m1; rw [m1]; decide
  rw [addF, hnn, hn, hii, hi, if_neg (by simp), if_neg (by simp), if_neg (by simp), if_neg (by simp), fvq_z hz, m2]

theorem rffma_ok (a b c : Nat) (mode : Int) (ha : a < 18446744073709551616) (hb : b < 18446744073709551616) (hc : c < 18446744073709551616) :
    CallP Try.prog 49 [.int .u64 a, .int .u64 b, .int .u64 c, .int .i64 mode] (fpair (fmaF a b c mode)) [] := by
  refine callG_of_vc (wr := wr0) Γok mixed Try.func49 (by kernel_rfl) rfl (by kernel_rfl) (le_of_ble rfl) (by simp) ?_
  unfold fmaF
  refine SCall.pure (rminus_ok a ha _ rfl) ?_
  refine SCall.pure (rminus_ok b hb _ rfl) ?_
  refine SCmp.sym ?_
  have hsg : ∀ c : Nat, c < 9223372036854775808 → CallP Try.prog 83 [.bool (!(ngt a == ngt b)), .int .u64 c] (.p (.int .u64 (sg (ngt a != ngt b) c))) [] := fun c hc => rsigned_ok c hc _
  cases hna : isNan a with
  | true =>
    refine SCall.pure (rnone_ok a ha _ hna) ?_
    refine SCond.mk (fun _ => ?_) (fun h => by cases h)
    rw [if_pos (by simp)]
    exact SRet.pure (.tup rfl fun i c d e1 e2 => by
      match i, e1, e2 with
      | 0, e1, e2 => cases e1; cases e2; exact .p _ (.int _ _)
      | 1, e1, e2 => cases e1; cases e2; exact .p _ (.int _ _))
  | false =>
    refine SCall.pure (rnone_ok a ha _ hna) ?_
    refine SCond.mk (fun h => by cases h) (fun _ => ?_)
    cases hnb : isNan b with
    | true =>
      refine SCall.pure (rnone_ok b hb _ hnb) ?_
      refine SCond.mk (fun _ => ?_) (fun h => by cases h)
      rw [if_pos (by simp)]
      exact SRet.pure (.tup rfl fun i c d e1 e2 => by
        match i, e1, e2 with
        | 0, e1, e2 => cases e1; cases e2; exact .p _ (.int _ _)
        | 1, e1, e2 => cases e1; cases e2; exact .p _ (.int _ _))
    | false =>
      refine SCall.pure (rnone_ok b hb _ hnb) ?_
      refine SCond.mk (fun h => by cases h) (fun _ => ?_)
      cases hnc : isNan c with
      | true =>
        refine SCall.pure (rnone_ok c hc _ hnc) ?_
        refine SCond.mk (fun _ => ?_) (fun h => by cases h)
        rw [if_pos (by simp)]
        exact SRet.pure (.tup rfl fun i c d e1 e2 => by
          match i, e1, e2 with
          | 0, e1, e2 => cases e1; cases e2; exact .p _ (.int _ _)
          | 1, e1, e2 => cases e1; cases e2; exact .p _ (.int _ _))
      | false =>
        refine SCall.pure (rnone_ok c hc _ hnc) ?_
        refine SCond.mk (fun h => by cases h) (fun _ => ?_)
        rw [if_neg (by simp)]
        have hinf : isInf a = true ∨ isInf b = true → CallP Try.prog 55 [.int .u64 (sg (ngt a != ngt b) 9218868437227405312), .int .u64 c, .int .i64 mode] (fpair (if isInf c && ((ngt a != ngt b) != ngt c) then (9221120237041090560, 16) else (sg (ngt a != ngt b) 9218868437227405312, 0))) [] := fun _ => by
          have := rfadd_ok (sg (ngt a != ngt b) 9218868437227405312) c mode (mag_sg (by omega)).2.2 hc
          rwa [add_inf mode hc hnc] at this
        cases hia : isInf a with
        | true =>
          have hza := inf_nz hia
          refine SCall.pure (rendless_ok a ha _ hia) ?_
          refine SCond.mk (fun _ => ?_) (fun h => by cases h)
          cases hzb : isZ b with
          | true =>
            refine SCall.pure (rnought3_ok b hb _ hzb) ?_
            refine SCond.mk (fun _ => ?_) (fun h => by cases h)
            rw [if_pos (by simp)]
            exact SRet.pure (.tup rfl fun i c d e1 e2 => by
              match i, e1, e2 with
              | 0, e1, e2 => cases e1; cases e2; exact .p _ (.int _ _)
              | 1, e1, e2 => cases e1; cases e2; exact .p _ (.int _ _))
          | false =>
            refine SCall.pure (rnought3_ok b hb _ hzb) ?_
            refine SCond.mk (fun h => by cases h) (fun _ => ?_)
            refine SCall.pure (rnought3_ok a ha _ hza) ?_
            refine SCond.mk (fun h => by cases h) (fun _ => ?_)
            rw [if_neg (by simp [hza]), if_pos (by simp)]
            refine SCall.pure (rendless_ok a ha _ hia) ?_
            refine SCond.mk (fun _ => ?_) (fun h => by cases h)
            refine SCall.pure (hsg 9218868437227405312 (by omega)) ?_
            refine SCall.pureT (hinf (.inl hia)) (fun _ => rfl) ?_
            exact SRet.pure (.tup rfl fun i c d e1 e2 => by
              match i, e1, e2 with
              | 0, e1, e2 => cases e1; cases e2; exact .p _ (.int _ _)
              | 1, e1, e2 => cases e1; cases e2; exact .p _ (.int _ _))
        | false =>
          refine SCall.pure (rendless_ok a ha _ hia) ?_
          refine SCond.mk (fun h => by cases h) (fun _ => ?_)
          cases hza : isZ a with
          | true =>
            refine SCall.pure (rnought3_ok a ha _ hza) ?_
            refine SCond.mk (fun _ => ?_) (fun h => by cases h)
            cases hib : isInf b with
            | true =>
              refine SCall.pure (rendless_ok b hb _ hib) ?_
              refine SCond.mk (fun _ => ?_) (fun h => by cases h)
              rw [if_pos (by simp)]
              exact SRet.pure (.tup rfl fun i c d e1 e2 => by
                match i, e1, e2 with
                | 0, e1, e2 => cases e1; cases e2; exact .p _ (.int _ _)
                | 1, e1, e2 => cases e1; cases e2; exact .p _ (.int _ _))
            | false =>
              refine SCall.pure (rendless_ok b hb _ hib) ?_
              refine SCond.mk (fun h => by cases h) (fun _ => ?_)
              rw [if_neg (by simp), if_neg (by simp)]
              refine SCall.pure (rendless_ok a ha _ hia) ?_
              refine SCond.mk (fun h => by cases h) (fun _ => ?_)
              refine SCall.pure (rendless_ok b hb _ hib) ?_
              refine SCond.mk (fun h => by cases h) (fun _ => ?_)
              cases hic : isInf c with
              | true =>
                refine SCall.pure (rendless_ok c hc _ hic) ?_
                refine SCond.mk (fun _ => ?_) (fun h => by cases h)
                rw [if_pos rfl]
                exact SRet.pure (.tup rfl fun i c d e1 e2 => by
                  match i, e1, e2 with
                  | 0, e1, e2 => cases e1; cases e2; exact .p _ (.int _ _)
                  | 1, e1, e2 => cases e1; cases e2; exact .p _ (.int _ _))
              | false =>
                refine SCall.pure (rendless_ok c hc _ hic) ?_
                refine SCond.mk (fun h => by cases h) (fun _ => ?_)
                rw [if_neg Bool.false_ne_true, fvq_z hza, Rat.zero_mul]
                refine SCall.pure (rnought3_ok a ha _ hza) ?_
                refine SCond.mk (fun _ => ?_) (fun h => by cases h)
                refine SCall.pure (hsg 0 (by omega)) ?_
                have := rfadd_ok (sg (ngt a != ngt b) 0) c mode (mag_sg (by omega)).2.2 hc
                rw [add_zero mode hnc hic] at this
                refine SCall.pureT (this) (fun _ => rfl) ?_
                exact SRet.pure (.tup rfl fun i c d e1 e2 => by
                  match i, e1, e2 with
                  | 0, e1, e2 => cases e1; cases e2; exact .p _ (.int _ _)
                  | 1, e1, e2 => cases e1; cases e2; exact .p _ (.int _ _))
          | false =>
            refine SCall.pure (rnought3_ok a ha _ hza) ?_
            refine SCond.mk (fun h => by cases h) (fun _ => ?_)
            refine SCall.pure (rendless_ok a ha _ hia) ?_
            refine SCond.mk (fun h => by cases h) (fun _ => ?_)
            cases hib : isInf b with
            | true =>
              have hzb := inf_nz hib
              refine SCall.pure (rendless_ok b hb _ hib) ?_
              refine SCond.mk (fun _ => ?_) (fun h => by cases h)
              rw [if_neg (by simp [hzb]), if_pos (by simp)]
              refine SCall.pure (hsg 9218868437227405312 (by omega)) ?_
              refine SCall.pureT (hinf (.inr hib)) (fun _ => rfl) ?_
              exact SRet.pure (.tup rfl fun i c d e1 e2 => by
                match i, e1, e2 with
                | 0, e1, e2 => cases e1; cases e2; exact .p _ (.int _ _)
                | 1, e1, e2 => cases e1; cases e2; exact .p _ (.int _ _))
            | false =>
              refine SCall.pure (rendless_ok b hb _ hib) ?_
              refine SCond.mk (fun h => by cases h) (fun _ => ?_)
              rw [if_neg (by simp), if_neg (by simp)]
              cases hic : isInf c with
              | true =>
                refine SCall.pure (rendless_ok c hc _ hic) ?_
                refine SCond.mk (fun _ => ?_) (fun h => by cases h)
                rw [if_pos rfl]
                exact SRet.pure (.tup rfl fun i c d e1 e2 => by
                  match i, e1, e2 with
                  | 0, e1, e2 => cases e1; cases e2; exact .p _ (.int _ _)
                  | 1, e1, e2 => cases e1; cases e2; exact .p _ (.int _ _))
              | false =>
                refine SCall.pure (rendless_ok c hc _ hic) ?_
                refine SCond.mk (fun h => by cases h) (fun _ => ?_)
                rw [if_neg Bool.false_ne_true]
                refine SCall.pure (rnought3_ok a ha _ hza) ?_
                refine SCond.mk (fun h => by cases h) (fun _ => ?_)
                cases hzb : isZ b with
                | true =>
                  refine SCall.pure (rnought3_ok b hb _ hzb) ?_
                  refine SCond.mk (fun _ => ?_) (fun h => by cases h)
                  rw [fvq_z hzb, Rat.mul_zero]
                  refine SCall.pure (hsg 0 (by omega)) ?_
                  have := rfadd_ok (sg (ngt a != ngt b) 0) c mode (mag_sg (by omega)).2.2 hc
                  rw [add_zero mode hnc hic] at this
                  refine SCall.pureT (this) (fun _ => rfl) ?_
                  exact SRet.pure (.tup rfl fun i c d e1 e2 => by
                    match i, e1, e2 with
                    | 0, e1, e2 => cases e1; cases e2; exact .p _ (.int _ _)
                    | 1, e1, e2 => cases e1; cases e2; exact .p _ (.int _ _))
                | false =>
                  refine SCall.pure (rnought3_ok b hb _ hzb) ?_
                  refine SCond.mk (fun h => by cases h) (fun _ => ?_)
                  have hne : fvq a * fvq b ≠ 0 := fun h => by
                    rcases Rat.mul_eq_zero.1 h with h | h
                    · exact fvq_ne hza h
                    · exact fvq_ne hzb h
                  have hbz := (fvq_bz a).mul (fvq_bz b)
                  cases hzc : isZ c with
                  | true =>
                    refine SCall.pure (rnought3_ok c hc _ hzc) ?_
                    refine SCond.mk (fun _ => ?_) (fun h => by cases h)
                    refine SCall.pure (rexact_ok a ha hna hia) ?_
                    refine SCall.pure (rexact_ok b hb hnb hib) ?_
                    refine SCall.pure (rmulq_ok _ _ (fvq_bz a) (fvq_bz b) (by omega)) ?_
                    rw [fvq_z hzc, sumF, Rat.add_zero, if_neg hne]
                    have := rfof_ok (fvq a * fvq b) mode hbz (by omega)
                    rw [ofF, if_neg hne] at this
                    refine SCall.pureT (this) (fun _ => rfl) ?_
                    exact SRet.pure (.tup rfl fun i c d e1 e2 => by
                      match i, e1, e2 with
                      | 0, e1, e2 => cases e1; cases e2; exact .p _ (.int _ _)
                      | 1, e1, e2 => cases e1; cases e2; exact .p _ (.int _ _))
                  | false =>
                    refine SCall.pure (rnought3_ok c hc _ hzc) ?_
                    refine SCond.mk (fun h => by cases h) (fun _ => ?_)
                    refine SCall.pure (rexact_ok a ha hna hia) ?_
                    refine SCall.pure (rexact_ok b hb hnb hib) ?_
                    refine SCall.pure (rmulq_ok _ _ (fvq_bz a) (fvq_bz b) (by omega)) ?_
                    refine SCall.pure (rexact_ok c hc hnc hic) ?_
                    rw [sumF, if_neg (show ¬ (fvq a * fvq b = 0 ∧ (ngt a != ngt b) = ngt c) from fun h => hne h.1)]
                    refine SCall.pureT (rsum3_ok (fvq a * fvq b) (fvq c) mode hbz (fvq_bz c) (by omega)) (fun _ => rfl) ?_
                    exact SRet.pure (.tup rfl fun i c d e1 e2 => by
                      match i, e1, e2 with
                      | 0, e1, e2 => cases e1; cases e2; exact .p _ (.int _ _)
                      | 1, e1, e2 => cases e1; cases e2; exact .p _ (.int _ _))
end Go.Proofs.Ytjcmiedpgabdbaa
