/- Floats that tell a number exactly: sums, products of them. -/
import Derived.Test.YtjcmiedpgabdbaaFf3
namespace Go.Proofs.Ytjcmiedpgabdbaa
open Go
set_option linter.unusedVariables false
set_option linter.unusedSimpArgs false
set_option maxRecDepth 10000

theorem isNan_mag (x : Nat) : isNan x = decide (9218868437227405312 < mag x) := rfl
theorem isInf_mag (x : Nat) : isInf x = decide (mag x = 9218868437227405312) := rfl
theorem isZ_mag (x : Nat) : isZ x = decide (mag x = 0) := rfl
theorem fvq_mag (x : Nat) : fvq x = sval (ngt x) (fval (mag x)) := rfl
/-- A finite float that tells q. -/
structure FinF (x : Nat) (q : Rat) : Prop where
  lt : x < 18446744073709551616
  nan : isNan x = false
  inf : isInf x = false
  val : fvq x = q
theorem FinF.mag {x : Nat} {q : Rat} (h : FinF x q) : mag x < 9218868437227405312 := by
  have h1 := of_decide_eq_false ((isNan_mag x).symm.trans h.nan)
  have h2 := of_decide_eq_false ((isInf_mag x).symm.trans h.inf)
  omega
theorem FinF.self {x : Nat} (hx : x < 18446744073709551616) (h : Go.Proofs.Ytjcmiedpgabdbaa.mag x < 9218868437227405312) : FinF x (fvq x) :=
  ⟨hx, by rw [isNan_mag]; exact decide_eq_false (by omega), by rw [isInf_mag]; exact decide_eq_false (by omega), rfl⟩
theorem FinF.sg {neg : Bool} {c : Nat} (h : c < 9218868437227405312) : FinF (sg neg c) (sval neg (fval c)) := by
  obtain ⟨m1, m2, m3⟩ := mag_sg (neg := neg) (c := c) (by omega)
  exact ⟨m3, by rw [isNan_mag, m1]; exact decide_eq_false (by omega), by rw [isInf_mag, m1]; exact decide_eq_false (by omega), by rw [fvq_mag, m1, m2]⟩
theorem FinF.zero {neg : Bool} : FinF (Go.Proofs.Ytjcmiedpgabdbaa.sg neg 0) 0 := by
  have := FinF.sg (neg := neg) (c := 0) (by decide)
  rwa [fval_zero, sval_zero.2 rfl] at this
theorem FinF.isZ {x : Nat} {q : Rat} (h : FinF x q) : isZ x = true ↔ q = 0 := by rw [← h.val, fvq_zero]
theorem FinF.flip {x : Nat} {q : Rat} (h : FinF x q) : FinF (flip x) (-q) :=
  ⟨flip_lt h.lt, by rw [isNan_flip h.lt]; exact h.nan, by rw [isInf_flip h.lt]; exact h.inf, by rw [fvq_flip h.lt, h.val]⟩
theorem FinF.uniq {x y : Nat} {q : Rat} (h : FinF x q) (h' : FinF y q) (hq : q ≠ 0) : x = y := by
  have e := h.val.trans h'.val.symm
  rw [fvq_mag, fvq_mag] at e
  have hv := h.val
  rw [fvq_mag] at hv
  have n1 := fval_nonneg (Go.Proofs.Ytjcmiedpgabdbaa.mag x)
  have n2 := fval_nonneg (Go.Proofs.Ytjcmiedpgabdbaa.mag y)
  rw [← sg_mag x h.lt, ← sg_mag y h'.lt]
  cases hx : ngt x <;> cases hy : ngt y <;> rw [hx] at e hv <;> rw [hy] at e <;> unfold sval at e hv <;> simp at e hv
  · rw [fval_inj.1 e]
  · exfalso; apply hq; grind
  · exfalso; apply hq; grind
  · rw [fval_inj.1 (show fval (Go.Proofs.Ytjcmiedpgabdbaa.mag x) = fval (Go.Proofs.Ytjcmiedpgabdbaa.mag y) by grind)]
theorem FinF.both_zero {x : Nat} (h : FinF x 0) : Go.Proofs.Ytjcmiedpgabdbaa.mag x = 0 := isZ_iff.1 (h.isZ.2 rfl)

theorem cut_val {X : Rat} {c : Nat} {half : Int} (h : Cut X c false half) : fval c = X := by
  have h1 := h.sm
  by_cases e : fval c = X
  · exact e
  · rw [decide_eq_true (show fval c ≠ X from e)] at h1; cases h1
theorem exact_cd {m : Nat} {e : Int} (hm : m ≠ 0) (hb : bitLen m ≤ 53) (he : -1074 ≤ e) (he' : e ≤ 900) : fval (cd ((m : Rat) * p2 e)) = (m : Rat) * p2 e ∧ cd ((m : Rat) * p2 e) < 9218868437227405312 := by
  have hu : ulpOf m e ≤ e := by unfold ulpOf; omega
  obtain ⟨v, t, _, ht, hv, _, hc, _⟩ := cut_exact hm hu
  rw [cd_eq hc.cd]
  exact ⟨cut_val hc, by omega⟩
theorem rS_exact {X : Rat} (hX : 0 < X) (h : fval (cd X) = X) (h2 : cd X < 9218868437227405312) (neg : Bool) (mode : Int) : rS (sval neg X) mode = (sg neg (cd X), 0) := by
  have := rnd_exact h2 neg mode
  rw [h] at this
  rw [rS_sval hX, this]

/-- A whole number of few digits, times a power of two. -/
def Dy (e : Int) (q : Rat) : Prop := -1074 ≤ e ∧ e ≤ 900 ∧ ∃ z : Int, z.natAbs < 9007199254740992 ∧ q = (z : Rat) * p2 e
theorem Dy.split {e : Int} {q : Rat} (h : Dy e q) (hq : q ≠ 0) : ∃ neg X, 0 < X ∧ q = sval neg X ∧ fval (cd X) = X ∧ cd X < 9218868437227405312 := by
  obtain ⟨h1, h2, z, hz, hqz⟩ := h
  have hz0 : z ≠ 0 := fun h => hq (by rw [hqz, h]; simp)
  obtain ⟨k1, k2⟩ := exact_cd (m := z.natAbs) (e := e) (by omega) (bitLen_le (by omega)) h1 h2
  refine ⟨decide (z < 0), ((z.natAbs : Nat) : Rat) * p2 e, mp2_pos (by omega) e, ?_, k1, k2⟩
  rw [hqz]
  by_cases h : z < 0
  · rw [decide_eq_true h, natAbs_cast_neg (by omega), sval, if_pos rfl]; grind
  · rw [decide_eq_false h, natAbs_cast_pos (by omega), sval, if_neg Bool.false_ne_true]
theorem Dy.rS {e : Int} {q : Rat} (h : Dy e q) (hq : q ≠ 0) (mode : Int) : FinF (rS q mode).1 q ∧ (rS q mode).2 = 0 := by
  obtain ⟨neg, X, h1, h2, h3, h4⟩ := h.split hq
  rw [h2, rS_exact h1 h3 h4]
  refine ⟨?_, rfl⟩
  have := FinF.sg (neg := neg) h4
  rwa [h3] at this
theorem Dy.of {e : Int} {q : Rat} (h : Dy e q) (mode : Int) : FinF (ofF q mode).1 q ∧ (ofF q mode).2 = 0 := by
  unfold ofF
  by_cases h0 : q = 0
  · subst h0
    rw [if_pos rfl]
    exact ⟨FinF.zero (neg := false), rfl⟩
  · rw [if_neg h0]; exact h.rS h0 mode
theorem Dy.add {e : Int} {x y : Nat} {p q : Rat} (hx : FinF x p) (hy : FinF y q) (h : Dy e (p + q)) (mode : Int) : FinF (addF x y mode).1 (p + q) ∧ (addF x y mode).2 = 0 := by
  rw [addF, hx.nan, hy.nan, hx.inf, hy.inf, if_neg (by simp), if_neg (by simp), if_neg (by simp), if_neg (by simp), sumF, hx.val, hy.val]
  by_cases h0 : p + q = 0
  · rw [if_pos h0, h0]
    split
    · exact ⟨FinF.zero, rfl⟩
    · exact ⟨FinF.zero, rfl⟩
  · rw [if_neg h0]; exact h.rS h0 mode
theorem Dy.sub {e : Int} {x y : Nat} {p q : Rat} (hx : FinF x p) (hy : FinF y q) (h : Dy e (p - q)) (mode : Int) : FinF (subF x y mode).1 (p - q) ∧ (subF x y mode).2 = 0 := by
  rw [Rat.sub_eq_add_neg] at h ⊢
  exact Dy.add hx hy.flip h mode
theorem Dy.mul {e : Int} {x y : Nat} {p q : Rat} (hx : FinF x p) (hy : FinF y q) (h : Dy e (p * q)) (mode : Int) : FinF (mulF x y mode).1 (p * q) ∧ (mulF x y mode).2 = 0 := by
  rw [mulF, hx.nan, hy.nan, hx.inf, hy.inf, if_neg (by simp), if_neg (by simp), if_neg (by simp), hx.val, hy.val]
  by_cases h0 : p * q = 0
  · have : (isZ x || isZ y) = true := by
      rcases Rat.mul_eq_zero.1 h0 with h1 | h1
      · rw [hx.isZ.2 h1]; rfl
      · rw [hy.isZ.2 h1]; simp
    rw [if_pos this, h0]
    exact ⟨FinF.zero, rfl⟩
  · have : ¬ (isZ x || isZ y) = true := by
      intro h1
      rcases (Bool.or_eq_true _ _).mp h1 with h2 | h2
      · exact h0 (by rw [hx.isZ.1 h2, Rat.zero_mul])
      · exact h0 (by rw [hy.isZ.1 h2, Rat.mul_zero])
    rw [if_neg this]; exact h.rS h0 mode
theorem Dy.int {z : Int} (h : z.natAbs < 9007199254740992) : Dy 0 (z : Rat) := ⟨by omega, by omega, z, h, by rw [p2_zero, Rat.mul_one]⟩
end Go.Proofs.Ytjcmiedpgabdbaa
