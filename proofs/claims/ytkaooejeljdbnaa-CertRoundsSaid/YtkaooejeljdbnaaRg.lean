/- The document floats: sums, products, quotients, roots. -/
import Derived.Test.YtkaooejeljdbnaaSg
/- The document's floats: Add, Sub, Mul, Div, Fma. -/
namespace Go.Proofs.Ytkaooejeljdbnaa
open Go
set_option linter.unusedVariables false
set_option linter.unusedSimpArgs false
set_option maxRecDepth 10000

theorem fvq_zero {f : Nat} : fvq f = 0 ↔ isZ f = true := by rw [fvq_sval, sval_zero, mp2_zero, fsig_zero, isZ_iff]
theorem fvq_ne {f : Nat} (h : isZ f = false) : fvq f ≠ 0 := fun h2 => by rw [fvq_zero.1 h2] at h; cases h
theorem fvq_z {f : Nat} (h : isZ f = true) : fvq f = 0 := fvq_zero.2 h
theorem sg_mag (f : Nat) (hf : f < 18446744073709551616) : sg (ngt f) (mag f) = f := by
  unfold sg mag
  cases h : ngt f with
  | true => have := ngt_true h; rw [if_pos rfl]; omega
  | false => have := ngt_false h; rw [if_neg Bool.false_ne_true]; omega
theorem z_eq {a b : Nat} (ha : a < 18446744073709551616) (hb : b < 18446744073709551616) (hza : isZ a = true) (hzb : isZ b = true) : ngt a = ngt b ↔ a = b := by
  constructor
  · intro h
    rw [← sg_mag a ha, ← sg_mag b hb, isZ_iff.1 hza, isZ_iff.1 hzb, h]
  · intro h; rw [h]

theorem inf_nz {a : Nat} (h : isInf a = true) : isZ a = false := by unfold isInf at h; unfold isZ; have := of_decide_eq_true h; exact decide_eq_false (by omega)
end Go.Proofs.Ytkaooejeljdbnaa

/- The document's floats: Sqrt, Fma. -/
namespace Go.Proofs.Ytkaooejeljdbnaa
open Go
set_option linter.unusedVariables false
set_option linter.unusedSimpArgs false
set_option maxRecDepth 10000

theorem out_sq {v t x : Nat} {mode : Int} {w : Nat} (hv : 4503599627370496 ≤ v) (hw : w = if v * v ≠ x ∧ goUp mode false true (decide (v % 2 = 1)) (cmpZ (x * 4) ((v * 2 + 1) * (v * 2 + 1))) = true then v + 1 else v) :
    out false (v + t * 4503599627370496) (decide (v * v ≠ x)) (cmpZ (x * 4) ((v * 2 + 1) * (v * 2 + 1))) mode = if 9218868437227405312 ≤ w + t * 4503599627370496 then (sg false (lim false mode), 5) else (sg false (w + t * 4503599627370496), if v * v ≠ x then 1 else 0) := by
  have hodd : decide ((v + t * 4503599627370496) % 2 = 1) = decide (v % 2 = 1) := by
    by_cases h : v % 2 = 1
    · rw [decide_eq_true h, decide_eq_true (by omega)]
    · rw [decide_eq_false h, decide_eq_false (by omega)]
  have hup : upc false (v + t * 4503599627370496) (decide (v * v ≠ x)) (cmpZ (x * 4) ((v * 2 + 1) * (v * 2 + 1))) mode = w + t * 4503599627370496 := by
    rw [upc, hodd, hw]
    by_cases h : v * v = x
    · have e : (v * 2 + 1) * (v * 2 + 1) = v * v * 4 + (v * 4 + 1) := by grind
      rw [decide_eq_false (by simp [h]), show cmpZ (x * 4) ((v * 2 + 1) * (v * 2 + 1)) = -1 by rw [cmpZ, if_pos (by omega)], goUp_no, if_neg (by simp), if_neg (by simp [h])]
    · rw [decide_eq_true h]
      by_cases h2 : goUp mode false true (decide (v % 2 = 1)) (cmpZ (x * 4) ((v * 2 + 1) * (v * 2 + 1))) = true
      · rw [if_pos h2, if_pos ⟨h, h2⟩]; omega
      · rw [if_neg h2, if_neg fun h3 => h2 h3.2]
  rw [out, hup]
  by_cases h : 9218868437227405312 ≤ w + t * 4503599627370496
  · rw [if_pos h, if_pos h]
  · rw [if_neg h, if_neg h]
    by_cases h2 : v * v = x
    · rw [if_neg (by simp [h2]), if_neg (by simp [h2])]
    · rw [if_pos (by simp [h2]), if_pos h2, if_neg (by omega)]

theorem sq_ref {m x v h t : Nat} {e u : Int} (hm : m ≠ 0) (hx : x = m * 2 ^ (e - 2 * u).toNat) (hu : 2 * u ≤ e) (h1 : 2 ^ 104 ≤ x) (h2 : x < 2 ^ 106) (hv : IsSq x v) (ht : u = (t : Int) - 1074) (mode : Int) :
    4503599627370496 ≤ v ∧ v < 9007199254740992 ∧ sqrtQ ((m : Rat) * p2 e) mode = out false (v + t * 4503599627370496) (decide (v * v ≠ x)) (cmpZ (x * 4) ((v * 2 + 1) * (v * 2 + 1))) mode := by
  have v1 : 4503599627370496 ≤ v := hv.le.1 (by
    have : (4503599627370496 : Nat) * 4503599627370496 = 2 ^ 104 := by decide
    omega)
  have v2 : v < 9007199254740992 := sq_lt.1 (by
    have : (9007199254740992 : Nat) * 9007199254740992 = 2 ^ 106 := by decide
    have := hv.1
    omega)
  refine ⟨v1, v2, ?_⟩
  have hX : (m : Rat) * p2 e = (x : Rat) * p2 (u + u) := by rw [hx, show u + u = 2 * u by omega]; exact p2_natmul m hu
  obtain ⟨c1, c2⟩ := fval_code (v := v) (t := t) v2 (.inl v1)
  rw [← ht] at c1 c2
  have c3 := fval_succ (v + t * 4503599627370496)
  rw [c1, c2] at c3
  have hg := p2_pos (u + u)
  have hgg : p2 (u + u) = p2 u * p2 u := p2_add u u
  have s1 : (v : Rat) * p2 u * ((v : Rat) * p2 u) = ((v * v : Nat) : Rat) * p2 (u + u) := by rw [hgg, Rat.natCast_mul]; grind
  have s2 : ((v : Rat) * p2 u + p2 u) * ((v : Rat) * p2 u + p2 u) = (((v + 1) * (v + 1) : Nat) : Rat) * p2 (u + u) := by
    rw [hgg, Rat.natCast_mul, Rat.natCast_add]
    show _ = ((v : Rat) + 1) * ((v : Rat) + 1) * (p2 u * p2 u)
    grind
  have s3 : ((v : Rat) * p2 u + ((v : Rat) * p2 u + p2 u)) * ((v : Rat) * p2 u + ((v : Rat) * p2 u + p2 u)) = (((v * 2 + 1) * (v * 2 + 1) : Nat) : Rat) * p2 (u + u) := by
    rw [hgg, Rat.natCast_mul, Rat.natCast_add, Rat.natCast_mul]
    show _ = ((v : Rat) * 2 + 1) * ((v : Rat) * 2 + 1) * (p2 u * p2 u)
    grind
  have hCS : IsCS ((m : Rat) * p2 e) (v + t * 4503599627370496) := by
    rw [IsCS, c3, c1, s1, s2, hX]
    exact ⟨mul_le_q (natq_le.2 hv.1) hg, mul_lt_q (natq_lt.2 hv.2) hg⟩
  rw [sqrtQ, cS_eq hCS, c3, c1, s1, s3, hX]
  congr 1
  · by_cases h : v * v = x
    · rw [h, decide_eq_false (by simp), decide_eq_false (by simp)]
    · rw [decide_eq_true h]
      refine decide_eq_true ?_
      intro h2
      have := le_of_mul (a := ((v * v : Nat) : Rat)) (b := (x : Rat)) (c := p2 (u + u)) (by rw [h2]; exact Rat.le_refl) hg
      have := le_of_mul (a := (x : Rat)) (b := ((v * v : Nat) : Rat)) (c := p2 (u + u)) (by rw [h2]; exact Rat.le_refl) hg
      have h3 := natq_le.1 this
      have h4 := hv.1
      omega
  · obtain ⟨H, hH⟩ : ∃ H, H = (v * 2 + 1) * (v * 2 + 1) := ⟨_, rfl⟩
    rw [← hH]
    have hx4 : 4 * ((x : Rat) * p2 (u + u)) = ((x * 4 : Nat) : Rat) * p2 (u + u) := by rw [Rat.natCast_mul]; show _ = (x : Rat) * 4 * p2 (u + u); grind
    rw [hx4]
    unfold cmpR cmpZ
    rcases Nat.lt_trichotomy (x * 4) H with h | h | h
    · rw [if_pos (mul_lt_q (natq_lt.2 h) hg), if_pos h]
    · rw [h, if_neg (by grind), if_neg (by grind), if_neg (by omega), if_pos rfl]
    · have := mul_lt_q (natq_lt.2 h) hg
      rw [if_neg (by grind), if_pos this, if_neg (by omega), if_neg (by omega)]

theorem even_bits {m : Nat} (hm : m ≠ 0) (hb : bitLen m ≤ 53) {e p h : Int} (hp : p = (bitLen m : Int) - 1 + e ∨ p = (bitLen m : Int) - 1 + e - 1) (hh : p = h + h) :
    2 ^ 104 ≤ m * 2 ^ (e - 2 * (h - 52)).toNat ∧ m * 2 ^ (e - 2 * (h - 52)).toNat < 2 ^ 106 ∧ 2 * (h - 52) ≤ e := by
  have hb0 : bitLen m ≠ 0 := mt bitLen_zero_iff.1 hm
  have h1 := bitLen_pos hm
  have h2 := bitLen_lt m
  obtain ⟨k, hk⟩ : ∃ k, k = (e - 2 * (h - 52)).toNat := ⟨_, rfl⟩
  rw [← hk]
  refine ⟨?_, ?_, by omega⟩
  · have h3 : 2 ^ (bitLen m - 1) * 2 ^ k ≤ m * 2 ^ k := Nat.mul_le_mul_right _ h1
    rw [← Nat.pow_add] at h3
    have h4 : 2 ^ 104 ≤ 2 ^ (bitLen m - 1 + k) := Nat.pow_le_pow_right (by omega) (by omega)
    omega
  · have h3 : m * 2 ^ k < 2 ^ bitLen m * 2 ^ k := Nat.mul_lt_mul_of_pos_right h2 (Nat.two_pow_pos k)
    rw [← Nat.pow_add] at h3
    have h4 : 2 ^ (bitLen m + k) ≤ 2 ^ 106 := Nat.pow_le_pow_right (by omega) (by omega)
    omega

end Go.Proofs.Ytkaooejeljdbnaa

/- The document's floats: Sqrt. -/
namespace Go.Proofs.Ytkaooejeljdbnaa
open Go
set_option linter.unusedVariables false
set_option linter.unusedSimpArgs false
set_option maxRecDepth 10000

end Go.Proofs.Ytkaooejeljdbnaa

/- The document's floats: Fma. -/
namespace Go.Proofs.Ytkaooejeljdbnaa
open Go
set_option linter.unusedVariables false
set_option linter.unusedSimpArgs false
set_option maxRecDepth 10000

theorem mag_sg {neg : Bool} {c : Nat} (h : c < 9223372036854775808) : mag (sg neg c) = c ∧ ngt (sg neg c) = neg ∧ sg neg c < 18446744073709551616 := by
  unfold mag ngt sg
  cases neg with
  | true => rw [if_pos rfl]; exact ⟨by omega, decide_eq_true (by omega), by omega⟩
  | false => rw [if_neg Bool.false_ne_true]; exact ⟨by omega, decide_eq_false (by omega), by omega⟩
theorem inf_mag {f : Nat} : isInf f = true ↔ mag f = 9218868437227405312 := by unfold isInf mag; simp
theorem add_inf {ns : Bool} {c : Nat} (mode : Int) (hc : c < 18446744073709551616) (hn : isNan c = false) :
    addF (sg ns 9218868437227405312) c mode = if isInf c && (ns != ngt c) then (9221120237041090560, 16) else (sg ns 9218868437227405312, 0) := by
  obtain ⟨m1, m2, m3⟩ := mag_sg (neg := ns) (c := 9218868437227405312) (by omega)
  have hi : isInf (sg ns 9218868437227405312) = true := inf_mag.2 m1
  have hnn : isNan (sg ns 9218868437227405312) = false := by unfold isNan; unfold mag at m1; rw [m1]; decide
  rw [addF, hnn, hn, hi, if_neg (by simp)]
  cases hic : isInf c with
  | true =>
    by_cases h : ns = ngt c
    · have : sg ns 9218868437227405312 = c := by rw [← sg_mag c hc, inf_mag.1 hic, h]
      rw [if_neg (by simp [this]), if_pos rfl, if_neg (by simp [h])]
    · have : sg ns 9218868437227405312 ≠ c := fun h2 => h (by rw [← h2, m2])
      rw [if_pos (by simp [this]), if_pos (by simp [h])]
  | false => rw [if_neg (by simp), if_pos rfl, if_neg (by simp)]
theorem add_zero {ns : Bool} {c : Nat} (mode : Int) (hn : isNan c = false) (hi : isInf c = false) :
    addF (sg ns 0) c mode = sumF 0 ns (fvq c) (ngt c) mode := by
  obtain ⟨m1, m2, m3⟩ := mag_sg (neg := ns) (c := 0) (by omega)
  have hz : isZ (sg ns 0) = true := isZ_iff.2 m1
  have hnn : isNan (sg ns 0) = false := by unfold isNan; unfold mag at m1; rw [m1]; decide
  have hii : isInf (sg ns 0) = false := by unfold isInf; unfold mag at m1; rw [m1]; decide
  rw [addF, hnn, hn, hii, hi, if_neg (by simp), if_neg (by simp), if_neg (by simp), if_neg (by simp), fvq_z hz, m2]

end Go.Proofs.Ytkaooejeljdbnaa
