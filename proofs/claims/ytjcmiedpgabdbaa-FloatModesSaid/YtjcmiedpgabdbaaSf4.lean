/- Floats: numbers as floats, floats as numbers, their order. -/
import Derived.Test.YtjcmiedpgabdbaaSf3
namespace Go.Proofs.Ytjcmiedpgabdbaa
open Go
set_option linter.unusedVariables false
set_option linter.unusedSimpArgs false
set_option maxRecDepth 10000

/-! #### numbers by their parts -/
theorem rat_parts (q : Rat) : q = (q.num : Rat) / (q.den : Rat) := by
  have : (q.num : Rat) / ((q.den : Int) : Rat) = q := by rw [← Rat.divInt_eq_div]; exact Rat.num_divInt_den q
  exact this.symm
theorem den_posQ (q : Rat) : (0 : Rat) < (q.den : Rat) := by have := q.den_pos; exact_mod_cast this
theorem natAbs_cast_pos {z : Int} (h : 0 ≤ z) : ((z.natAbs : Nat) : Rat) = (z : Rat) := by
  have : ((z.natAbs : Nat) : Int) = z := by omega
  have h2 : (((z.natAbs : Nat) : Int) : Rat) = (z : Rat) := by rw [this]
  exact h2
theorem natAbs_cast_neg {z : Int} (h : z ≤ 0) : ((z.natAbs : Nat) : Rat) = -(z : Rat) := by
  have : ((z.natAbs : Nat) : Int) = -z := by omega
  have h2 : (((z.natAbs : Nat) : Int) : Rat) = ((-z : Int) : Rat) := by rw [this]
  rw [Rat.intCast_neg] at h2
  exact h2
theorem num_neg_iff {q : Rat} : q.num < 0 ↔ q < 0 := by rw [← Int.not_le, Rat.num_nonneg, Rat.not_le]
theorem abs_parts (q : Rat) : q.abs = ((q.num.natAbs : Nat) : Rat) / (q.den : Rat) := by
  rw [Rat.abs]
  split
  · rename_i h
    rw [natAbs_cast_pos (Rat.num_nonneg.2 h)]
    exact rat_parts q
  · rename_i h
    have h2 : q.num < 0 := num_neg_iff.2 (Rat.not_le.1 h)
    rw [natAbs_cast_neg (by omega)]
    have := rat_parts q
    have h3 := den_posQ q
    generalize (q.num : Rat) = x at *
    generalize (q.den : Rat) = y at *
    rw [this]; grind
theorem mkQ_val {neg : Bool} {n d : Nat} : mkQ neg n d = if neg then -((n : Rat) / (d : Rat)) else (n : Rat) / (d : Rat) := by
  rw [mkQ, Rat.mkRat_eq_div]
  cases neg with
  | true =>
    rw [sgn, if_pos rfl, if_pos rfl, Rat.intCast_neg]
    show -(n : Rat) / (d : Rat) = _
    grind
  | false => rfl

/-! #### what a quotient is, as a value -/
theorem over_cut {n d : Nat} (hn : n ≠ 0) (hd : d ≠ 0) (e : Int) {k : Nat} (hk : 66 + bitLen d ≤ bitLen n + k) :
    n * 2 ^ k / d ≠ 0 ∧ ((n * 2 ^ k / d : Nat) : Rat) * p2 (e - k) ≤ (n : Rat) / (d : Rat) * p2 e ∧ (n : Rat) / (d : Rat) * p2 e < (((n * 2 ^ k / d : Nat) : Rat) + 1) * p2 (e - k) ∧
    decide (n * 2 ^ k % d ≠ 0) = decide ((n : Rat) / (d : Rat) * p2 e ≠ ((n * 2 ^ k / d : Nat) : Rat) * p2 (e - k)) ∧ 54 ≤ bitLen (n * 2 ^ k / d) := by
  obtain ⟨m, hm⟩ : ∃ m, m = n * 2 ^ k / d := ⟨_, rfl⟩
  obtain ⟨r, hr⟩ : ∃ r, r = n * 2 ^ k % d := ⟨_, rfl⟩
  have hdm : d * m + r = n * 2 ^ k := by rw [hm, hr]; exact Nat.div_add_mod _ _
  have hrd : r < d := by rw [hr]; exact Nat.mod_lt _ (by omega)
  have hbn := bitLen_pos hn
  have hbd := bitLen_lt d
  have hbn0 : bitLen n ≠ 0 := mt bitLen_zero_iff.1 hn
  have hbig : 2 ^ 65 ≤ m := by
    rw [hm, Nat.le_div_iff_mul_le (by omega)]
    have h1 : 2 ^ (bitLen n - 1) * 2 ^ k ≤ n * 2 ^ k := Nat.mul_le_mul_right _ hbn
    have h2 : 2 ^ (65 + bitLen d) ≤ 2 ^ (bitLen n - 1) * 2 ^ k := by rw [← Nat.pow_add]; exact Nat.pow_le_pow_right (by omega) (by omega)
    have h3 : 2 ^ 65 * d ≤ 2 ^ 65 * 2 ^ bitLen d := Nat.mul_le_mul_left _ (by omega)
    rw [Nat.pow_add] at h2
    omega
  rw [← hm, ← hr]
  have hm0 : m ≠ 0 := by have : 0 < 2 ^ 65 := by decide
                         omega
  have hb54 : 54 ≤ bitLen m := by
    rcases Nat.lt_or_ge (bitLen m) 54 with h | h
    · have h1 := bitLen_lt m
      have h2 : 2 ^ bitLen m ≤ 2 ^ 65 := Nat.pow_le_pow_right (by omega) (by omega)
      omega
    · exact h
  have hdq : (0 : Rat) < (d : Rat) := by have : 0 < d := by omega
                                         exact_mod_cast this
  have hu := p2_pos (e - k)
  have hpe : p2 e = p2 (e - k) * ((2 ^ k : Nat) : Rat) := by have := p2_add_nat (e - k) k; rwa [show e - (k : Int) + k = e by omega] at this
  have hq : (n : Rat) * ((2 ^ k : Nat) : Rat) = (d : Rat) * (m : Rat) + (r : Rat) := by rw [← Rat.natCast_mul, ← hdm, Rat.natCast_add, Rat.natCast_mul]
  obtain ⟨s, hs⟩ : ∃ s : Rat, s = (r : Rat) / (d : Rat) := ⟨_, rfl⟩
  have hs1 : s * (d : Rat) = (r : Rat) := by rw [hs]; exact Rat.div_mul_cancel (by grind)
  have hs0 : 0 ≤ s := by
    rcases Rat.le_total (a := 0) (b := s) with h | h
    · exact h
    · have hr0 : (0 : Rat) ≤ (r : Rat) := by exact_mod_cast Nat.zero_le r
      have := Rat.mul_nonneg (show 0 ≤ -s by grind) (show 0 ≤ (d : Rat) by grind)
      by_cases h2 : s = 0
      · rw [h2]; exact Rat.le_refl
      · have := Rat.mul_pos (show 0 < -s by grind) hdq
        grind
  have hs2 : s < 1 := by
    have hrq : (r : Rat) < (d : Rat) := natq_lt.2 hrd
    by_cases h : s < 1
    · exact h
    · have := mul_le_q (Rat.not_lt.1 h) hdq
      grind
  have hX : (n : Rat) / (d : Rat) * p2 e = ((m : Rat) + s) * p2 (e - k) := by
    have h1 : (n : Rat) / (d : Rat) * ((2 ^ k : Nat) : Rat) = (m : Rat) + s := by
      have h2 : (n : Rat) / (d : Rat) * (d : Rat) = (n : Rat) := Rat.div_mul_cancel (by grind)
      generalize (n : Rat) / (d : Rat) = y at h2 ⊢
      generalize ((2 ^ k : Nat) : Rat) = z at hq ⊢
      have : (y * z - ((m : Rat) + s)) * (d : Rat) = 0 := by rw [← h2] at hq; grind
      rcases Rat.mul_eq_zero.1 this with h | h
      · grind
      · grind
    rw [hpe, ← h1]; grind
  rw [hX]
  refine ⟨hm0, ?_, ?_, ?_, hb54⟩
  · have := Rat.mul_nonneg hs0 (show 0 ≤ p2 (e - k) by grind)
    grind
  · have := mul_lt_q hs2 hu
    grind
  · by_cases h : r = 0
    · subst h
      have : s = 0 := by rw [hs]; simp; grind
      rw [this, decide_eq_false (by simp), decide_eq_false (by simp; grind)]
    · rw [decide_eq_true h]
      symm
      refine decide_eq_true ?_
      intro h2
      have hr0 : (0 : Rat) < (r : Rat) := by
        have : 0 < r := by omega
        exact_mod_cast this
      have hsp : 0 < s := by
        rcases Rat.le_iff_lt_or_eq.1 hs0 with h | h
        · exact h
        · rw [← h] at hs1; grind
      have := mul_pos_q hsp hu
      grind

theorem fover_ok (neg : Bool) (m m' : Bool) (n d : Nat) (e : Int) (hd : d ≠ 0) (hn : bitLen n ≤ 131072) (hdb : bitLen d ≤ 65536) (he : -262144 ≤ e ∧ e ≤ 262144) {k : Nat} (hk : k = (66 + (bitLen d : Int) - bitLen n).toNat) :
    CallP Try.prog 75 [.bool neg, natM m n, natM m' d, .int .i64 e] (.p (numP neg (n * 2 ^ k / d) (e - k) (decide (n * 2 ^ k % d ≠ 0)))) [] := by
  refine callG_of_vc (wr := wr0) Γok mixed Try.func75 (by kernel_rfl) rfl (by kernel_rfl) (le_of_ble rfl) (by simp) ?_
  have hnn := nlen_bitLen n
  have hnd := nlen_bitLen d
  have hs := nlen_shl n k
  refine SCall.pure (nbits_ok m' d (by omega)) ?_
  refine SWrap.i64z (66 + (bitLen d : Int)) rfl (by omega) ?_
  refine SCall.pure (nbits_ok m n (by omega)) ?_
  refine SWrap.i64z (66 + (bitLen d : Int) - bitLen n) rfl (by omega) ?_
  refine SZ.mk (k : Int) ((max_ite _ _).trans (by omega)) ?_
  refine SCall.pure (fshl_ok m n k (by omega) (by omega)) ?_
  have hdiv := div_ok false m' (n * 2 ^ k) d (by omega) (by omega)
  rw [if_neg hd] at hdiv
  refine SCall.pureT (hdiv) (fun _ => rfl) ?_
  refine SWrap.i64z (e - k) rfl (by omega) ?_
  have hlr : (nl (n * 2 ^ k % d)).length = nlen (n * 2 ^ k % d) := rfl
  refine SZ.mk (nlen (n * 2 ^ k % d) : Int) (by simp [hlr]) ?_
  by_cases h0 : n * 2 ^ k % d = 0
  · have := nlen_zero_iff.2 h0
    rw [decide_eq_false (show ¬ n * 2 ^ k % d ≠ 0 from fun h => h h0)]
    refine SCmp.no (decide_eq_false (by omega)) ?_
    exact SRet.pure (.p _ (pers_num _ _ _ _))
  · have := mt nlen_zero_iff.1 h0
    rw [decide_eq_true h0]
    refine SCmp.yes (decide_eq_true (by omega)) ?_
    exact SRet.pure (.p _ (pers_num _ _ _ _))
theorem over_bits {n d k : Nat} (hd : d ≠ 0) : bitLen (n * 2 ^ k / d) ≤ bitLen n + k := bitLen_le (by
  rw [Nat.div_lt_iff_lt_mul (by omega)]
  have h1 : n * 2 ^ k < 2 ^ bitLen n * 2 ^ k := Nat.mul_lt_mul_of_pos_right (bitLen_lt n) (Nat.two_pow_pos k)
  rw [← Nat.pow_add] at h1
  exact Nat.lt_of_lt_of_le h1 (Nat.le_mul_of_pos_right _ (by omega)))
/-- A quotient, rounded. -/
theorem round_over (neg : Bool) (n d : Nat) (e mode : Int) (hn0 : n ≠ 0) (hd : d ≠ 0) (hn : bitLen n ≤ 65536) (hdb : bitLen d ≤ 65536) (he : -131072 ≤ e ∧ e ≤ 131072) {k : Nat} (hk : k = (66 + (bitLen d : Int) - bitLen n).toNat) :
    CallP Try.prog 76 [numP neg (n * 2 ^ k / d) (e - k) (decide (n * 2 ^ k % d ≠ 0)), .int .i64 mode] (fpair (rndQ neg ((n : Rat) / (d : Rat) * p2 e) mode)) [] := by
  obtain ⟨h1, h2, h3, h4, h5⟩ := over_cut (k := k) hn0 hd e (by omega)
  have hb := over_bits (n := n) (k := k) hd
  exact round_ok neg _ _ _ mode h1 (by omega) (by omega) h2 h3 h4 fun _ => h5

/-- A number, rounded. -/
noncomputable def rS (q : Rat) (mode : Int) : Nat × Int := rndQ (decide (q.num < 0)) q.abs mode
noncomputable def ofF (q : Rat) (mode : Int) : Nat × Int := if q = 0 then (0, 0) else rS q mode
theorem sfof_ok (q : Rat) (mode : Int) {k : Nat} (hq : Bz q k) (hk : k ≤ 65536) : CallP Try.prog 31 [ratP q, .int .i64 mode] (fpair (ofF q mode)) [] := by
  refine callG_of_vc (wr := wr0) Γok mixed Try.func31 (by kernel_rfl) rfl (by kernel_rfl) (le_of_ble rfl) (by simp) ?_
  have hn := hq.1
  have hd := hq.2
  have hlr : (nl q.num.natAbs).length = nlen q.num.natAbs := rfl
  refine SZ.mk (nlen q.num.natAbs : Int) (by simp [hlr]) ?_
  by_cases h0 : q.num.natAbs = 0
  · have := nlen_zero_iff.2 h0
    have hq0 : q = 0 := Rat.num_eq_zero.1 (by omega)
    rw [ofF, if_pos hq0]
    refine SCmp.yes (eqT (by omega)) ?_
    exact SRet.pure (.tup rfl fun i c d e1 e2 => by
      match i, e1, e2 with
      | 0, e1, e2 => cases e1; cases e2; exact .p _ (.int _ _)
      | 1, e1, e2 => cases e1; cases e2; exact .p _ (.int _ _))
  · have := mt nlen_zero_iff.1 h0
    have hq0 : q ≠ 0 := fun h => h0 (by rw [h]; rfl)
    rw [ofF, if_neg hq0]
    refine SCmp.no (eqF (by omega)) ?_
    have hld : (nl q.den).length = nlen q.den := rfl
    have hdn := mt nlen_zero_iff.1 q.den_nz
    refine SZ.mk (nlen q.den : Int) (by simp [hld]) ?_
    refine SCmp.no (eqF (by omega)) ?_
    refine SCall.pure (fover_ok _ false false q.num.natAbs q.den 0 q.den_nz (by omega) (by omega) (by omega) rfl) ?_
    have := round_over (decide (q.num < 0)) q.num.natAbs q.den 0 mode h0 q.den_nz (by omega) (by omega) (by omega) rfl
    rw [p2_zero, Rat.mul_one, ← abs_parts] at this
    refine SCall.pureT (this) (fun _ => rfl) ?_
    exact SRet.pure (.tup rfl fun i c d e1 e2 => by
      match i, e1, e2 with
      | 0, e1, e2 => cases e1; cases e2; exact .p _ (.int _ _)
      | 1, e1, e2 => cases e1; cases e2; exact .p _ (.int _ _))
end Go.Proofs.Ytjcmiedpgabdbaa
