/- The document's floats: Add, Sub, Mul, Div, Fma. -/
import Derived.Test.YtjcmiedpgabdbaaSg4
namespace Go.Proofs.Ytjcmiedpgabdbaa
open Go
set_option linter.unusedVariables false
set_option linter.unusedSimpArgs false
set_option maxRecDepth 10000

theorem fvq_zero {f : Nat} : fvq f = 0 ↔ isZ f = true := by rw [fvq_sval, sval_zero, mp2_zero, fsig_zero, isZ_iff]
theorem fvq_ne {f : Nat} (h : isZ f = false) : fvq f ≠ 0 := fun h2 => by rw [fvq_zero.1 h2] at h; cases h
theorem fvq_z {f : Nat} (h : isZ f = true) : fvq f = 0 := fvq_zero.2 h
theorem sg_mag (f : Nat) (hf : f < 18446744073709551616) : sg (ngt f) (mag f) = f := by
  unfold sg mag
  cases h : ngt f with
  | true => have := ngt_true h; rw [if_pos rfl]; omega
  | false => have := ngt_false h; rw [if_neg Bool.false_ne_true]; omega
theorem z_eq {a b : Nat} (ha : a < 18446744073709551616) (hb : b < 18446744073709551616) (hza : isZ a = true) (hzb : isZ b = true) : ngt a = ngt b ↔ a = b := by
  constructor
  · intro h
    rw [← sg_mag a ha, ← sg_mag b hb, isZ_iff.1 hza, isZ_iff.1 hzb, h]
  · intro h; rw [h]

theorem rsum3_ok (p q : Rat) (mode : Int) {j k : Nat} (hp : Bz p j) (hq : Bz q k) (h : j + k + 1 ≤ 65536) : CallP Try.prog 105 [ratP p, ratP q, .int .i64 mode] (fpair (if p + q = 0 then (sg (decide (mode = 2)) 0, 0) else rS (p + q) mode)) [] := by
  refine callG_of_vc (wr := wr0) Γok mixed Try.func105 (by kernel_rfl) rfl (by kernel_rfl) (le_of_ble rfl) (by simp) ?_
  refine SCall.pure (raddq_ok p q hp hq (by omega)) ?_
  refine SCall.pure (rnought_ok (p + q)) ?_
  by_cases h0 : p + q = 0
  · rw [decide_eq_true h0, if_pos h0]
    refine SCond.mk (fun _ => ?_) (fun h => by cases h)
    by_cases hm : mode = 2
    · rw [decide_eq_true hm]
      refine SCmp.yes (eqT hm) ?_
      refine SCall.pure (rsigned_ok 0 (by omega) true) ?_
      exact SRet.pure (.tup rfl fun i c d e1 e2 => by
        match i, e1, e2 with
        | 0, e1, e2 => cases e1; cases e2; exact .p _ (.int _ _)
        | 1, e1, e2 => cases e1; cases e2; exact .p _ (.int _ _))
    · rw [decide_eq_false hm]
      refine SCmp.no (eqF hm) ?_
      refine SCall.pure (rsigned_ok 0 (by omega) false) ?_
      exact SRet.pure (.tup rfl fun i c d e1 e2 => by
        match i, e1, e2 with
        | 0, e1, e2 => cases e1; cases e2; exact .p _ (.int _ _)
        | 1, e1, e2 => cases e1; cases e2; exact .p _ (.int _ _))
  · rw [decide_eq_false h0, if_neg h0]
    refine SCond.mk (fun h => by cases h) (fun _ => ?_)
    have := rfof_ok (p + q) mode (hp.add hq) h
    rw [ofF, if_neg h0] at this
    refine SCall.pureT (this) (fun _ => rfl) ?_
    exact SRet.pure (.tup rfl fun i c d e1 e2 => by
      match i, e1, e2 with
      | 0, e1, e2 => cases e1; cases e2; exact .p _ (.int _ _)
      | 1, e1, e2 => cases e1; cases e2; exact .p _ (.int _ _))

theorem rfadd_ok (a b : Nat) (mode : Int) (ha : a < 18446744073709551616) (hb : b < 18446744073709551616) : CallP Try.prog 55 [.int .u64 a, .int .u64 b, .int .i64 mode] (fpair (addF a b mode)) [] := by
  refine callG_of_vc (wr := wr0) Γok mixed Try.func55 (by kernel_rfl) rfl (by kernel_rfl) (le_of_ble rfl) (by simp) ?_
  unfold addF
  cases hna : isNan a with
  | true =>
    refine SCall.pure (rnone_ok a ha _ hna) ?_
    refine SCond.mk (fun _ => ?_) (fun h => by cases h)
    rw [if_pos (by simp)]
    exact SRet.pure (.tup rfl fun i c d e1 e2 => by
      match i, e1, e2 with
      | 0, e1, e2 => cases e1; cases e2; exact .p _ (.int _ _)
      | 1, e1, e2 => cases e1; cases e2; exact .p _ (.int _ _))
  | false =>
    refine SCall.pure (rnone_ok a ha _ hna) ?_
    refine SCond.mk (fun h => by cases h) (fun _ => ?_)
    cases hnb : isNan b with
    | true =>
      refine SCall.pure (rnone_ok b hb _ hnb) ?_
      refine SCond.mk (fun _ => ?_) (fun h => by cases h)
      rw [if_pos (by simp)]
      exact SRet.pure (.tup rfl fun i c d e1 e2 => by
        match i, e1, e2 with
        | 0, e1, e2 => cases e1; cases e2; exact .p _ (.int _ _)
        | 1, e1, e2 => cases e1; cases e2; exact .p _ (.int _ _))
    | false =>
      refine SCall.pure (rnone_ok b hb _ hnb) ?_
      refine SCond.mk (fun h => by cases h) (fun _ => ?_)
      rw [if_neg (by simp)]
      cases hia : isInf a with
      | true =>
        refine SCall.pure (rendless_ok a ha _ hia) ?_
        refine SCond.mk (fun _ => ?_) (fun h => by cases h)
        cases hib : isInf b with
        | true =>
          refine SCall.pure (rendless_ok b hb _ hib) ?_
          refine SCond.mk (fun _ => ?_) (fun h => by cases h)
          by_cases he : a = b
          · refine SCmp.no (neF (by omega)) ?_
            rw [if_neg (by simp [he])]
            refine SCall.pure (rendless_ok a ha _ hia) ?_
            refine SCond.mk (fun _ => ?_) (fun h => by cases h)
            exact SRet.pure (.tup rfl fun i c d e1 e2 => by
              match i, e1, e2 with
              | 0, e1, e2 => cases e1; cases e2; exact .p _ (.int _ _)
              | 1, e1, e2 => cases e1; cases e2; exact .p _ (.int _ _))
          · refine SCmp.yes (neT (by omega)) ?_
            rw [if_pos (by simp [he])]
            exact SRet.pure (.tup rfl fun i c d e1 e2 => by
              match i, e1, e2 with
              | 0, e1, e2 => cases e1; cases e2; exact .p _ (.int _ _)
              | 1, e1, e2 => cases e1; cases e2; exact .p _ (.int _ _))
        | false =>
          refine SCall.pure (rendless_ok b hb _ hib) ?_
          refine SCond.mk (fun h => by cases h) (fun _ => ?_)
          rw [if_neg (by simp)]
          refine SCall.pure (rendless_ok a ha _ hia) ?_
          refine SCond.mk (fun _ => ?_) (fun h => by cases h)
          exact SRet.pure (.tup rfl fun i c d e1 e2 => by
            match i, e1, e2 with
            | 0, e1, e2 => cases e1; cases e2; exact .p _ (.int _ _)
            | 1, e1, e2 => cases e1; cases e2; exact .p _ (.int _ _))
      | false =>
        refine SCall.pure (rendless_ok a ha _ hia) ?_
        refine SCond.mk (fun h => by cases h) (fun _ => ?_)
        rw [if_neg (by simp), if_neg (by simp)]
        refine SCall.pure (rendless_ok a ha _ hia) ?_
        refine SCond.mk (fun h => by cases h) (fun _ => ?_)
        cases hib : isInf b with
        | true =>
          refine SCall.pure (rendless_ok b hb _ hib) ?_
          refine SCond.mk (fun _ => ?_) (fun h => by cases h)
          exact SRet.pure (.tup rfl fun i c d e1 e2 => by
            match i, e1, e2 with
            | 0, e1, e2 => cases e1; cases e2; exact .p _ (.int _ _)
            | 1, e1, e2 => cases e1; cases e2; exact .p _ (.int _ _))
        | false =>
          refine SCall.pure (rendless_ok b hb _ hib) ?_
          refine SCond.mk (fun h => by cases h) (fun _ => ?_)
          rw [if_neg (by simp), sumF]
          cases hza : isZ a with
          | true =>
            refine SCall.pure (rnought3_ok a ha _ hza) ?_
            refine SCond.mk (fun _ => ?_) (fun h => by cases h)
            cases hzb : isZ b with
            | true =>
              refine SCall.pure (rnought3_ok b hb _ hzb) ?_
              refine SCond.mk (fun _ => ?_) (fun h => by cases h)
              rw [fvq_z hza, fvq_z hzb, if_pos (Rat.add_zero 0)]
              by_cases he : a = b
              · rw [if_pos ⟨rfl, (z_eq ha hb hza hzb).2 he⟩]
                have hsg := sg_mag a ha
                rw [isZ_iff.1 hza] at hsg
                rw [hsg]
                refine SCmp.yes (eqT (by omega)) ?_
                exact SRet.pure (.tup rfl fun i c d e1 e2 => by
                  match i, e1, e2 with
                  | 0, e1, e2 => cases e1; cases e2; exact .p _ (.int _ _)
                  | 1, e1, e2 => cases e1; cases e2; exact .p _ (.int _ _))
              · rw [if_neg fun h => he ((z_eq ha hb hza hzb).1 h.2)]
                refine SCmp.no (eqF (by omega)) ?_
                by_cases hm : mode = 2
                · rw [decide_eq_true hm]
                  refine SCmp.yes (eqT hm) ?_
                  refine SCall.pure (rsigned_ok 0 (by omega) true) ?_
                  exact SRet.pure (.tup rfl fun i c d e1 e2 => by
                    match i, e1, e2 with
                    | 0, e1, e2 => cases e1; cases e2; exact .p _ (.int _ _)
                    | 1, e1, e2 => cases e1; cases e2; exact .p _ (.int _ _))
                · rw [decide_eq_false hm]
                  refine SCmp.no (eqF hm) ?_
                  refine SCall.pure (rsigned_ok 0 (by omega) false) ?_
                  exact SRet.pure (.tup rfl fun i c d e1 e2 => by
                    match i, e1, e2 with
                    | 0, e1, e2 => cases e1; cases e2; exact .p _ (.int _ _)
                    | 1, e1, e2 => cases e1; cases e2; exact .p _ (.int _ _))
            | false =>
              refine SCall.pure (rnought3_ok b hb _ hzb) ?_
              refine SCond.mk (fun h => by cases h) (fun _ => ?_)
              rw [if_neg (by rw [fvq_z hza, Rat.zero_add]; exact fvq_ne hzb)]
              refine SCall.pure (rexact_ok a ha hna hia) ?_
              refine SCall.pure (rexact_ok b hb hnb hib) ?_
              have := rsum3_ok (fvq a) (fvq b) mode (fvq_bz a) (fvq_bz b) (by omega)
              rw [if_neg (by rw [fvq_z hza, Rat.zero_add]; exact fvq_ne hzb)] at this
              refine SCall.pureT (this) (fun _ => rfl) ?_
              exact SRet.pure (.tup rfl fun i c d e1 e2 => by
                match i, e1, e2 with
                | 0, e1, e2 => cases e1; cases e2; exact .p _ (.int _ _)
                | 1, e1, e2 => cases e1; cases e2; exact .p _ (.int _ _))
          | false =>
            refine SCall.pure (rnought3_ok a ha _ hza) ?_
            refine SCond.mk (fun h => by cases h) (fun _ => ?_)
            refine SCall.pure (rexact_ok a ha hna hia) ?_
            refine SCall.pure (rexact_ok b hb hnb hib) ?_
            rw [if_neg (show ¬ (fvq a = 0 ∧ ngt a = ngt b) from fun h => fvq_ne hza h.1)]
            refine SCall.pureT (rsum3_ok (fvq a) (fvq b) mode (fvq_bz a) (fvq_bz b) (by omega)) (fun _ => rfl) ?_
            exact SRet.pure (.tup rfl fun i c d e1 e2 => by
              match i, e1, e2 with
              | 0, e1, e2 => cases e1; cases e2; exact .p _ (.int _ _)
              | 1, e1, e2 => cases e1; cases e2; exact .p _ (.int _ _))
theorem rfsub_ok (a b : Nat) (mode : Int) (ha : a < 18446744073709551616) (hb : b < 18446744073709551616) : CallP Try.prog 56 [.int .u64 a, .int .u64 b, .int .i64 mode] (fpair (subF a b mode)) [] := by
  refine callG_of_vc (wr := wr0) Γok mixed Try.func56 (by kernel_rfl) rfl (by kernel_rfl) (le_of_ble rfl) (by simp) ?_
  refine SWrap.turn b rfl rfl hb ?_
  refine SCall.pureT (rfadd_ok a (flip b) mode ha (flip_lt hb)) (fun _ => rfl) ?_
  exact SRet.pure (.tup rfl fun i c d e1 e2 => by
    match i, e1, e2 with
    | 0, e1, e2 => cases e1; cases e2; exact .p _ (.int _ _)
    | 1, e1, e2 => cases e1; cases e2; exact .p _ (.int _ _))

theorem inf_nz {a : Nat} (h : isInf a = true) : isZ a = false := by unfold isInf at h; unfold isZ; have := of_decide_eq_true h; exact decide_eq_false (by omega)
theorem rfmul_ok (a b : Nat) (mode : Int) (ha : a < 18446744073709551616) (hb : b < 18446744073709551616) : CallP Try.prog 47 [.int .u64 a, .int .u64 b, .int .i64 mode] (fpair (mulF a b mode)) [] := by
  refine callG_of_vc (wr := wr0) Γok mixed Try.func47 (by kernel_rfl) rfl (by kernel_rfl) (le_of_ble rfl) (by simp) ?_
  unfold mulF
  refine SCall.pure (rminus_ok a ha _ rfl) ?_
  refine SCall.pure (rminus_ok b hb _ rfl) ?_
  refine SCmp.sym ?_
  have hsg : ∀ c : Nat, c < 9223372036854775808 → CallP Try.prog 83 [.bool (!(ngt a == ngt b)), .int .u64 c] (.p (.int .u64 (sg (ngt a != ngt b) c))) [] := fun c hc => rsigned_ok c hc _
  cases hna : isNan a with
  | true =>
    refine SCall.pure (rnone_ok a ha _ hna) ?_
    refine SCond.mk (fun _ => ?_) (fun h => by cases h)
    rw [if_pos (by simp)]
    exact SRet.pure (.tup rfl fun i c d e1 e2 => by
      match i, e1, e2 with
      | 0, e1, e2 => cases e1; cases e2; exact .p _ (.int _ _)
      | 1, e1, e2 => cases e1; cases e2; exact .p _ (.int _ _))
  | false =>
    refine SCall.pure (rnone_ok a ha _ hna) ?_
    refine SCond.mk (fun h => by cases h) (fun _ => ?_)
    cases hnb : isNan b with
    | true =>
      refine SCall.pure (rnone_ok b hb _ hnb) ?_
      refine SCond.mk (fun _ => ?_) (fun h => by cases h)
      rw [if_pos (by simp)]
      exact SRet.pure (.tup rfl fun i c d e1 e2 => by
        match i, e1, e2 with
        | 0, e1, e2 => cases e1; cases e2; exact .p _ (.int _ _)
        | 1, e1, e2 => cases e1; cases e2; exact .p _ (.int _ _))
    | false =>
      refine SCall.pure (rnone_ok b hb _ hnb) ?_
      refine SCond.mk (fun h => by cases h) (fun _ => ?_)
      rw [if_neg (by simp)]
      cases hia : isInf a with
      | true =>
        have hza := inf_nz hia
        refine SCall.pure (rendless_ok a ha _ hia) ?_
        refine SCond.mk (fun _ => ?_) (fun h => by cases h)
        cases hzb : isZ b with
        | true =>
          refine SCall.pure (rnought3_ok b hb _ hzb) ?_
          refine SCond.mk (fun _ => ?_) (fun h => by cases h)
          rw [if_pos (by simp)]
          exact SRet.pure (.tup rfl fun i c d e1 e2 => by
            match i, e1, e2 with
            | 0, e1, e2 => cases e1; cases e2; exact .p _ (.int _ _)
            | 1, e1, e2 => cases e1; cases e2; exact .p _ (.int _ _))
        | false =>
          refine SCall.pure (rnought3_ok b hb _ hzb) ?_
          refine SCond.mk (fun h => by cases h) (fun _ => ?_)
          refine SCall.pure (rnought3_ok a ha _ hza) ?_
          refine SCond.mk (fun h => by cases h) (fun _ => ?_)
          rw [if_neg (by simp [hza]), if_pos (by simp)]
          refine SCall.pure (rendless_ok a ha _ hia) ?_
          refine SCond.mk (fun _ => ?_) (fun h => by cases h)
          refine SCall.pure (hsg 9218868437227405312 (by omega)) ?_
          exact SRet.pure (.tup rfl fun i c d e1 e2 => by
            match i, e1, e2 with
            | 0, e1, e2 => cases e1; cases e2; exact .p _ (.int _ _)
            | 1, e1, e2 => cases e1; cases e2; exact .p _ (.int _ _))
      | false =>
        refine SCall.pure (rendless_ok a ha _ hia) ?_
        refine SCond.mk (fun h => by cases h) (fun _ => ?_)
        cases hza : isZ a with
        | true =>
          refine SCall.pure (rnought3_ok a ha _ hza) ?_
          refine SCond.mk (fun _ => ?_) (fun h => by cases h)
          cases hib : isInf b with
          | true =>
            refine SCall.pure (rendless_ok b hb _ hib) ?_
            refine SCond.mk (fun _ => ?_) (fun h => by cases h)
            rw [if_pos (by simp)]
            exact SRet.pure (.tup rfl fun i c d e1 e2 => by
              match i, e1, e2 with
              | 0, e1, e2 => cases e1; cases e2; exact .p _ (.int _ _)
              | 1, e1, e2 => cases e1; cases e2; exact .p _ (.int _ _))
          | false =>
            refine SCall.pure (rendless_ok b hb _ hib) ?_
            refine SCond.mk (fun h => by cases h) (fun _ => ?_)
            rw [if_neg (by simp), if_neg (by simp), if_pos (by simp)]
            refine SCall.pure (rendless_ok a ha _ hia) ?_
            refine SCond.mk (fun h => by cases h) (fun _ => ?_)
            refine SCall.pure (rendless_ok b hb _ hib) ?_
            refine SCond.mk (fun h => by cases h) (fun _ => ?_)
            refine SCall.pure (rnought3_ok a ha _ hza) ?_
            refine SCond.mk (fun _ => ?_) (fun h => by cases h)
            refine SCall.pure (hsg 0 (by omega)) ?_
            exact SRet.pure (.tup rfl fun i c d e1 e2 => by
              match i, e1, e2 with
              | 0, e1, e2 => cases e1; cases e2; exact .p _ (.int _ _)
              | 1, e1, e2 => cases e1; cases e2; exact .p _ (.int _ _))
        | false =>
          refine SCall.pure (rnought3_ok a ha _ hza) ?_
          refine SCond.mk (fun h => by cases h) (fun _ => ?_)
          refine SCall.pure (rendless_ok a ha _ hia) ?_
          refine SCond.mk (fun h => by cases h) (fun _ => ?_)
          cases hib : isInf b with
          | true =>
            have hzb := inf_nz hib
            refine SCall.pure (rendless_ok b hb _ hib) ?_
            refine SCond.mk (fun _ => ?_) (fun h => by cases h)
            rw [if_neg (by simp [hzb]), if_pos (by simp)]
            refine SCall.pure (hsg 9218868437227405312 (by omega)) ?_
            exact SRet.pure (.tup rfl fun i c d e1 e2 => by
              match i, e1, e2 with
              | 0, e1, e2 => cases e1; cases e2; exact .p _ (.int _ _)
              | 1, e1, e2 => cases e1; cases e2; exact .p _ (.int _ _))
          | false =>
            refine SCall.pure (rendless_ok b hb _ hib) ?_
            refine SCond.mk (fun h => by cases h) (fun _ => ?_)
            rw [if_neg (by simp), if_neg (by simp)]
            refine SCall.pure (rnought3_ok a ha _ hza) ?_
            refine SCond.mk (fun h => by cases h) (fun _ => ?_)
            cases hzb : isZ b with
            | true =>
              refine SCall.pure (rnought3_ok b hb _ hzb) ?_
              refine SCond.mk (fun _ => ?_) (fun h => by cases h)
              rw [if_pos (by simp)]
              refine SCall.pure (hsg 0 (by omega)) ?_
              exact SRet.pure (.tup rfl fun i c d e1 e2 => by
                match i, e1, e2 with
                | 0, e1, e2 => cases e1; cases e2; exact .p _ (.int _ _)
                | 1, e1, e2 => cases e1; cases e2; exact .p _ (.int _ _))
            | false =>
              refine SCall.pure (rnought3_ok b hb _ hzb) ?_
              refine SCond.mk (fun h => by cases h) (fun _ => ?_)
              rw [if_neg (by simp)]
              refine SCall.pure (rexact_ok a ha hna hia) ?_
              refine SCall.pure (rexact_ok b hb hnb hib) ?_
              refine SCall.pure (rmulq_ok _ _ (fvq_bz a) (fvq_bz b) (by omega)) ?_
              have := rfof_ok (fvq a * fvq b) mode ((fvq_bz a).mul (fvq_bz b)) (by omega)
              rw [ofF, if_neg (fun h => by rcases Rat.mul_eq_zero.1 h with h | h; exact fvq_ne hza h; exact fvq_ne hzb h)] at this
              refine SCall.pureT (this) (fun _ => rfl) ?_
              exact SRet.pure (.tup rfl fun i c d e1 e2 => by
                match i, e1, e2 with
                | 0, e1, e2 => cases e1; cases e2; exact .p _ (.int _ _)
                | 1, e1, e2 => cases e1; cases e2; exact .p _ (.int _ _))
theorem rfdiv_ok (a b : Nat) (mode : Int) (ha : a < 18446744073709551616) (hb : b < 18446744073709551616) : CallP Try.prog 57 [.int .u64 a, .int .u64 b, .int .i64 mode] (fpair (divF a b mode)) [] := by
  refine callG_of_vc (wr := wr0) Γok mixed Try.func57 (by kernel_rfl) rfl (by kernel_rfl) (le_of_ble rfl) (by simp) ?_
  unfold divF
  refine SCall.pure (rminus_ok a ha _ rfl) ?_
  refine SCall.pure (rminus_ok b hb _ rfl) ?_
  refine SCmp.sym ?_
  have hsg : ∀ c : Nat, c < 9223372036854775808 → CallP Try.prog 83 [.bool (!(ngt a == ngt b)), .int .u64 c] (.p (.int .u64 (sg (ngt a != ngt b) c))) [] := fun c hc => rsigned_ok c hc _
  cases hna : isNan a with
  | true =>
    refine SCall.pure (rnone_ok a ha _ hna) ?_
    refine SCond.mk (fun _ => ?_) (fun h => by cases h)
    rw [if_pos (by simp)]
    exact SRet.pure (.tup rfl fun i c d e1 e2 => by
      match i, e1, e2 with
      | 0, e1, e2 => cases e1; cases e2; exact .p _ (.int _ _)
      | 1, e1, e2 => cases e1; cases e2; exact .p _ (.int _ _))
  | false =>
    refine SCall.pure (rnone_ok a ha _ hna) ?_
    refine SCond.mk (fun h => by cases h) (fun _ => ?_)
    cases hnb : isNan b with
    | true =>
      refine SCall.pure (rnone_ok b hb _ hnb) ?_
      refine SCond.mk (fun _ => ?_) (fun h => by cases h)
      rw [if_pos (by simp)]
      exact SRet.pure (.tup rfl fun i c d e1 e2 => by
        match i, e1, e2 with
        | 0, e1, e2 => cases e1; cases e2; exact .p _ (.int _ _)
        | 1, e1, e2 => cases e1; cases e2; exact .p _ (.int _ _))
    | false =>
      refine SCall.pure (rnone_ok b hb _ hnb) ?_
      refine SCond.mk (fun h => by cases h) (fun _ => ?_)
      rw [if_neg (by simp)]
      cases hia : isInf a with
      | true =>
        have hza := inf_nz hia
        refine SCall.pure (rendless_ok a ha _ hia) ?_
        refine SCond.mk (fun _ => ?_) (fun h => by cases h)
        cases hib : isInf b with
        | true =>
          refine SCall.pure (rendless_ok b hb _ hib) ?_
          refine SCond.mk (fun _ => ?_) (fun h => by cases h)
          rw [if_pos (by simp)]
          exact SRet.pure (.tup rfl fun i c d e1 e2 => by
            match i, e1, e2 with
            | 0, e1, e2 => cases e1; cases e2; exact .p _ (.int _ _)
            | 1, e1, e2 => cases e1; cases e2; exact .p _ (.int _ _))
        | false =>
          refine SCall.pure (rendless_ok b hb _ hib) ?_
          refine SCond.mk (fun h => by cases h) (fun _ => ?_)
          refine SCall.pure (rnought3_ok a ha _ hza) ?_
          refine SCond.mk (fun h => by cases h) (fun _ => ?_)
          rw [if_neg (by simp [hza]), if_pos rfl]
          refine SCall.pure (rendless_ok a ha _ hia) ?_
          refine SCond.mk (fun _ => ?_) (fun h => by cases h)
          refine SCall.pure (hsg 9218868437227405312 (by omega)) ?_
          exact SRet.pure (.tup rfl fun i c d e1 e2 => by
            match i, e1, e2 with
            | 0, e1, e2 => cases e1; cases e2; exact .p _ (.int _ _)
            | 1, e1, e2 => cases e1; cases e2; exact .p _ (.int _ _))
      | false =>
        refine SCall.pure (rendless_ok a ha _ hia) ?_
        refine SCond.mk (fun h => by cases h) (fun _ => ?_)
        cases hza : isZ a with
        | true =>
          refine SCall.pure (rnought3_ok a ha _ hza) ?_
          refine SCond.mk (fun _ => ?_) (fun h => by cases h)
          cases hzb : isZ b with
          | true =>
            refine SCall.pure (rnought3_ok b hb _ hzb) ?_
            refine SCond.mk (fun _ => ?_) (fun h => by cases h)
            rw [if_pos (by simp)]
            exact SRet.pure (.tup rfl fun i c d e1 e2 => by
              match i, e1, e2 with
              | 0, e1, e2 => cases e1; cases e2; exact .p _ (.int _ _)
              | 1, e1, e2 => cases e1; cases e2; exact .p _ (.int _ _))
          | false =>
            refine SCall.pure (rnought3_ok b hb _ hzb) ?_
            refine SCond.mk (fun h => by cases h) (fun _ => ?_)
            rw [if_neg (by simp), if_neg (by simp), if_neg (by simp), if_pos (by simp)]
            refine SCall.pure (rendless_ok a ha _ hia) ?_
            refine SCond.mk (fun h => by cases h) (fun _ => ?_)
            cases hib : isInf b with
            | true =>
              refine SCall.pure (rendless_ok b hb _ hib) ?_
              refine SCond.mk (fun _ => ?_) (fun h => by cases h)
              refine SCall.pure (hsg 0 (by omega)) ?_
              exact SRet.pure (.tup rfl fun i c d e1 e2 => by
                match i, e1, e2 with
                | 0, e1, e2 => cases e1; cases e2; exact .p _ (.int _ _)
                | 1, e1, e2 => cases e1; cases e2; exact .p _ (.int _ _))
            | false =>
              refine SCall.pure (rendless_ok b hb _ hib) ?_
              refine SCond.mk (fun h => by cases h) (fun _ => ?_)
              refine SCall.pure (rnought3_ok a ha _ hza) ?_
              refine SCond.mk (fun _ => ?_) (fun h => by cases h)
              refine SCall.pure (hsg 0 (by omega)) ?_
              exact SRet.pure (.tup rfl fun i c d e1 e2 => by
                match i, e1, e2 with
                | 0, e1, e2 => cases e1; cases e2; exact .p _ (.int _ _)
                | 1, e1, e2 => cases e1; cases e2; exact .p _ (.int _ _))
        | false =>
          refine SCall.pure (rnought3_ok a ha _ hza) ?_
          refine SCond.mk (fun h => by cases h) (fun _ => ?_)
          rw [if_neg (by simp), if_neg (by simp)]
          refine SCall.pure (rendless_ok a ha _ hia) ?_
          refine SCond.mk (fun h => by cases h) (fun _ => ?_)
          cases hib : isInf b with
          | true =>
            have hzb := inf_nz hib
            refine SCall.pure (rendless_ok b hb _ hib) ?_
            refine SCond.mk (fun _ => ?_) (fun h => by cases h)
            rw [if_neg (by simp [hzb]), if_pos (by simp)]
            refine SCall.pure (hsg 0 (by omega)) ?_
            exact SRet.pure (.tup rfl fun i c d e1 e2 => by
              match i, e1, e2 with
              | 0, e1, e2 => cases e1; cases e2; exact .p _ (.int _ _)
              | 1, e1, e2 => cases e1; cases e2; exact .p _ (.int _ _))
          | false =>
            refine SCall.pure (rendless_ok b hb _ hib) ?_
            refine SCond.mk (fun h => by cases h) (fun _ => ?_)
            refine SCall.pure (rnought3_ok a ha _ hza) ?_
            refine SCond.mk (fun h => by cases h) (fun _ => ?_)
            cases hzb : isZ b with
            | true =>
              refine SCall.pure (rnought3_ok b hb _ hzb) ?_
              refine SCond.mk (fun _ => ?_) (fun h => by cases h)
              rw [if_pos rfl]
              refine SCall.pure (hsg 9218868437227405312 (by omega)) ?_
              exact SRet.pure (.tup rfl fun i c d e1 e2 => by
                match i, e1, e2 with
                | 0, e1, e2 => cases e1; cases e2; exact .p _ (.int _ _)
                | 1, e1, e2 => cases e1; cases e2; exact .p _ (.int _ _))
            | false =>
              refine SCall.pure (rnought3_ok b hb _ hzb) ?_
              refine SCond.mk (fun h => by cases h) (fun _ => ?_)
              rw [if_neg (by simp), if_neg (by simp)]
              refine SCall.pure (rexact_ok a ha hna hia) ?_
              refine SCall.pure (rexact_ok b hb hnb hib) ?_
              refine SCall.pure (rover_ok _ _ (fvq_ne hzb) (fvq_bz a) (fvq_bz b) (by omega)) ?_
              have hne : fvq a / fvq b ≠ 0 := fun h => by
                have h2 : fvq a / fvq b * fvq b = fvq a := Rat.div_mul_cancel (fvq_ne hzb)
                rw [h, Rat.zero_mul] at h2
                exact fvq_ne hza h2.symm
              have := rfof_ok (fvq a / fvq b) mode ((fvq_bz a).div (fvq_bz b)) (by omega)
              rw [ofF, if_neg hne] at this
              refine SCall.pureT (this) (fun _ => rfl) ?_
              exact SRet.pure (.tup rfl fun i c d e1 e2 => by
                match i, e1, e2 with
                | 0, e1, e2 => cases e1; cases e2; exact .p _ (.int _ _)
                | 1, e1, e2 => cases e1; cases e2; exact .p _ (.int _ _))
end Go.Proofs.Ytjcmiedpgabdbaa
