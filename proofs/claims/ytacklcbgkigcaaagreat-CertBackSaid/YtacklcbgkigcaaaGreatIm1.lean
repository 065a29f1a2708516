/- Enclosures: floats against numbers, what is rounded down and up. -/
import Derived.Test.YtacklcbgkigcaaaGreatRr
namespace Go.Proofs.YtacklcbgkigcaaaGreat
open Go
set_option linter.unusedVariables false
set_option linter.unusedSimpArgs false
set_option maxRecDepth 10000

/-! #### floats against numbers -/
/-- A float is no greater than a number. -/
def LeQ (x : Nat) (q : Rat) : Prop := if isInf x then ngt x = true else fvq x ≤ q
/-- A float is no less than a number. -/
def GeQ (x : Nat) (q : Rat) : Prop := if isInf x then ngt x = false else q ≤ fvq x
instance (x : Nat) (q : Rat) : Decidable (LeQ x q) := by unfold LeQ; exact inferInstance
instance (x : Nat) (q : Rat) : Decidable (GeQ x q) := by unfold GeQ; exact inferInstance
/-- A float that is a number or an infinity. -/
structure Num (x : Nat) : Prop where
  lt : x < 18446744073709551616
  nan : isNan x = false
theorem Num.ex {x : Nat} (h : Num x) : ∃ n c, c ≤ 9218868437227405312 ∧ x = sg n c ∧ n = ngt x ∧ c = mag x :=
  ⟨ngt x, mag x, by have := of_decide_eq_false ((isNan_mag x).symm.trans h.nan); omega, (sg_mag x h.lt).symm, rfl, rfl⟩
theorem Num.sg {n : Bool} {c : Nat} (h : c ≤ 9218868437227405312) : Num (sg n c) := ⟨(mag_sg (by omega)).2.2, nan_sg h⟩
theorem FinF.num {x : Nat} {q : Rat} (h : FinF x q) : Num x := ⟨h.lt, h.nan⟩
theorem inf_sg' {n : Bool} {c : Nat} (h : c < 9223372036854775808) : isInf (sg n c) = decide (c = 9218868437227405312) := by rw [isInf_mag, (mag_sg h).1]
theorem leQ_sg {n : Bool} {c : Nat} {q : Rat} (h : c ≤ 9218868437227405312) : LeQ (sg n c) q ↔ if c = 9218868437227405312 then n = true else sval n (fval c) ≤ q := by
  unfold LeQ
  rw [inf_sg' (by omega), (mag_sg (neg := n) (c := c) (by omega)).2.1, fvq_sg (by omega)]
  by_cases e : c = 9218868437227405312
  · rw [if_pos (decide_eq_true e), if_pos e]
  · rw [if_neg (by simp [e]), if_neg e]
theorem geQ_sg {n : Bool} {c : Nat} {q : Rat} (h : c ≤ 9218868437227405312) : GeQ (sg n c) q ↔ if c = 9218868437227405312 then n = false else q ≤ sval n (fval c) := by
  unfold GeQ
  rw [inf_sg' (by omega), (mag_sg (neg := n) (c := c) (by omega)).2.1, fvq_sg (by omega)]
  by_cases e : c = 9218868437227405312
  · rw [if_pos (decide_eq_true e), if_pos e]
  · rw [if_neg (by simp [e]), if_neg e]
theorem sval_le {n m : Bool} {c d : Nat} : sval n (fval c) ≤ sval m (fval d) ↔ (if n then -(c : Int) else c) ≤ (if m then -(d : Int) else d) := by
  have h1 := fval_nonneg c
  have h2 := fval_nonneg d
  unfold sval
  cases n <;> cases m <;> simp only [if_true, if_false, Bool.false_eq_true, reduceIte]
  · rw [fval_le]; omega
  · constructor
    · intro h
      have e1 : fval c = fval 0 := by rw [fval_zero]; grind
      have e2 : fval d = fval 0 := by rw [fval_zero]; grind
      have := fval_inj.1 e1
      have := fval_inj.1 e2
      omega
    · intro h
      have e1 : c = 0 := by omega
      have e2 : d = 0 := by omega
      subst e1; subst e2
      rw [fval_zero]; grind
  · constructor
    · intro _; omega
    · intro _; grind
  · constructor
    · intro h
      have : fval d ≤ fval c := by grind
      have := fval_le.1 this
      omega
    · intro h
      have : fval d ≤ fval c := fval_le.2 (by omega)
      grind
theorem LeQ.mono {x z : Nat} {q : Rat} (hx : Num x) (hz : Num z) (h : LeQ x q) (hp : pl z ≤ pl x) : LeQ z q := by
  obtain ⟨n, c, hc, e, _, _⟩ := hx.ex
  obtain ⟨m, d, hd, e', _, _⟩ := hz.ex
  subst e; subst e'
  rw [pl_sg (by omega), pl_sg (by omega)] at hp
  rw [leQ_sg hc] at h
  rw [leQ_sg hd]
  by_cases i1 : c = 9218868437227405312
  · rw [if_pos i1] at h
    subst h
    rw [if_pos rfl] at hp
    have : m = true ∧ d = 9218868437227405312 := by cases m <;> simp at hp <;> constructor <;> first | rfl | omega
    rw [if_pos this.2]; exact this.1
  · rw [if_neg i1] at h
    by_cases i2 : d = 9218868437227405312
    · rw [if_pos i2]
      cases m with
      | true => rfl
      | false => exfalso; cases n <;> simp at hp <;> omega
    · rw [if_neg i2]
      exact Rat.le_trans (sval_le.2 hp) h
theorem LeQ.le {x : Nat} {q r : Rat} (h : LeQ x q) (hq : q ≤ r) : LeQ x r := by
  unfold LeQ at h ⊢
  split
  · rename_i i; rw [if_pos i] at h; exact h
  · rename_i i; rw [if_neg i] at h; exact Rat.le_trans h hq
theorem GeQ.ge {x : Nat} {q r : Rat} (h : GeQ x q) (hq : r ≤ q) : GeQ x r := by
  unfold GeQ at h ⊢
  split
  · rename_i i; rw [if_pos i] at h; exact h
  · rename_i i; rw [if_neg i] at h; exact Rat.le_trans hq h
theorem pl_flip {x : Nat} (h : x < 18446744073709551616) : pl (flip x) = -pl x := by
  have e := sg_mag x h
  have hm := mag_lt x
  rw [← e, flip_sg hm, pl_sg hm, pl_sg hm]
  cases ngt x <;> simp
theorem Num.flip {x : Nat} (h : Num x) : Num (flip x) := ⟨flip_lt h.lt, by rw [isNan_flip h.lt]; exact h.nan⟩
theorem geQ_flip {x : Nat} {q : Rat} (h : x < 18446744073709551616) : GeQ (flip x) (-q) ↔ LeQ x q := by
  unfold GeQ LeQ
  rw [isInf_flip h, ngt_flip h, fvq_flip h]
  split
  · cases ngt x <;> simp
  · constructor <;> intro h <;> grind
theorem leQ_flip {x : Nat} {q : Rat} (h : x < 18446744073709551616) : LeQ (flip x) (-q) ↔ GeQ x q := by
  unfold GeQ LeQ
  rw [isInf_flip h, ngt_flip h, fvq_flip h]
  split
  · cases ngt x <;> simp
  · constructor <;> intro h <;> grind
theorem GeQ.mono {x z : Nat} {q : Rat} (hx : Num x) (hz : Num z) (h : GeQ x q) (hp : pl x ≤ pl z) : GeQ z q := by
  rw [← leQ_flip hx.lt] at h
  rw [← leQ_flip hz.lt]
  exact h.mono hx.flip hz.flip (by rw [pl_flip hx.lt, pl_flip hz.lt]; omega)
theorem pl_le_of {x y : Nat} {q : Rat} (hx : Num x) (hy : Num y) (h1 : LeQ x q) (h2 : GeQ y q) : pl x ≤ pl y := by
  obtain ⟨n, c, hc, e, _, _⟩ := hx.ex
  obtain ⟨m, d, hd, e', _, _⟩ := hy.ex
  subst e; subst e'
  rw [leQ_sg hc] at h1
  rw [geQ_sg hd] at h2
  rw [pl_sg (by omega), pl_sg (by omega)]
  by_cases i1 : c = 9218868437227405312
  · rw [if_pos i1] at h1
    subst h1
    rw [if_pos rfl]
    cases m <;> simp <;> omega
  · rw [if_neg i1] at h1
    by_cases i2 : d = 9218868437227405312
    · rw [if_pos i2] at h2
      subst h2
      rw [if_neg Bool.false_ne_true]
      cases n <;> simp <;> omega
    · rw [if_neg i2] at h2
      exact sval_le.1 (Rat.le_trans h1 h2)
theorem FinF.leQ {x : Nat} {p q : Rat} (h : FinF x p) : LeQ x q ↔ p ≤ q := by unfold LeQ; rw [h.inf, if_neg Bool.false_ne_true, h.val]
theorem FinF.geQ {x : Nat} {p q : Rat} (h : FinF x p) : GeQ x q ↔ q ≤ p := by unfold GeQ; rw [h.inf, if_neg Bool.false_ne_true, h.val]
theorem FinF.pl_le {x y : Nat} {p q : Rat} (hx : FinF x p) (hy : FinF y q) : pl x ≤ pl y ↔ p ≤ q := by
  constructor
  · intro h
    exact hx.leQ.1 (LeQ.mono hy.num hx.num (hy.leQ.2 Rat.le_refl) h)
  · intro h
    exact pl_le_of hx.num hy.num (hx.leQ.2 Rat.le_refl) (hy.geQ.2 h)

/-! #### rounded down, rounded up -/
structure Rd (q : Rat) (x : Nat) : Prop where
  num : Num x
  le : LeQ x q
  max : ∀ z, Num z → LeQ z q → pl z ≤ pl x
structure Ru (q : Rat) (x : Nat) : Prop where
  num : Num x
  ge : GeQ x q
  min : ∀ z, Num z → GeQ z q → pl x ≤ pl z
theorem Rd.flip {q : Rat} {x : Nat} (h : Rd (-q) x) : Ru q (flip x) := by
  refine ⟨h.num.flip, ?_, fun z hz hg => ?_⟩
  · have := (geQ_flip h.num.lt).2 h.le
    rwa [Rat.neg_neg] at this
  · have := h.max (Go.Proofs.YtacklcbgkigcaaaGreat.flip z) hz.flip ((leQ_flip hz.lt).2 hg)
    rw [pl_flip hz.lt] at this
    rw [pl_flip h.num.lt]; omega
theorem Rd.mono {q r : Rat} {x y : Nat} (hx : Rd q x) (hy : Rd r y) (h : q ≤ r) : pl x ≤ pl y := hy.max x hx.num (hx.le.le h)
theorem Ru.mono {q r : Rat} {x y : Nat} (hx : Ru q x) (hy : Ru r y) (h : q ≤ r) : pl x ≤ pl y := hx.min y hy.num (hy.ge.ge h)
theorem Rd.zero {n : Bool} : Rd 0 (sg n 0) := by
  refine ⟨.sg (by omega), ?_, fun z hz hl => ?_⟩
  · rw [leQ_sg (by omega), if_neg (by omega), fval_zero, sval_zero.2 rfl]; exact Rat.le_refl
  · refine pl_le_of hz (.sg (by omega)) hl ?_
    rw [geQ_sg (by omega), if_neg (by omega), fval_zero, sval_zero.2 rfl]; exact Rat.le_refl
theorem Ru.zero {n : Bool} : Ru 0 (sg n 0) := by
  have h : Rd (-0) (sg (!n) 0) := by rw [show (-0 : Rat) = 0 by grind]; exact Rd.zero
  have := h.flip
  rwa [flip_sg (by omega), Bool.not_not] at this
theorem Rd.rS {q : Rat} (hq : q ≠ 0) : Rd q (rS q 2).1 := by
  obtain ⟨n, Y, hY, hv⟩ : ∃ n Y, 0 < Y ∧ q = sval n Y := by
    by_cases h : 0 < q
    · exact ⟨false, q, h, rfl⟩
    · exact ⟨true, -q, by grind, by unfold sval; rw [if_pos rfl]; grind⟩
  have hc := cd_is (X := Y) (by grind)
  subst hv
  rw [rS_sval hY, rndQ]
  obtain ⟨c, hcd⟩ : ∃ c, c = cd Y := ⟨_, rfl⟩
  rw [← hcd] at hc ⊢
  obtain ⟨sm, hsm⟩ : ∃ sm, sm = decide (fval c ≠ Y) := ⟨_, rfl⟩
  rw [← hsm]
  cases n with
  | false =>
    rw [out_lo rfl rfl]
    refine ⟨.sg (by omega), ?_, fun z hz hl => ?_⟩
    · rw [leQ_sg (by omega), if_neg (by omega), sval, if_neg Bool.false_ne_true, sval, if_neg Bool.false_ne_true]
      exact Rat.le_trans (fval_le.2 (Nat.min_le_left _ _)) hc.1
    · obtain ⟨m, d, hd, e, _, _⟩ := hz.ex
      subst e
      rw [leQ_sg hd] at hl
      rw [pl_sg (by omega), pl_sg (by omega), if_neg Bool.false_ne_true]
      cases m with
      | true => rw [if_pos rfl]; omega
      | false =>
        rw [if_neg Bool.false_ne_true]
        by_cases i : d = 9218868437227405312
        · rw [if_pos i] at hl; cases hl
        · rw [if_neg i, sval, if_neg Bool.false_ne_true, sval, if_neg Bool.false_ne_true] at hl
          have : d < c + 1 := fval_lt.1 (by have := hc.2; grind)
          omega
  | true =>
    rw [out_hi (by show (true && sm) = sm; simp) rfl]
    obtain ⟨B, hB⟩ : ∃ B, B = if sm then c + 1 else c := ⟨_, rfl⟩
    have h1 : Y ≤ fval B := by
      rw [hB, hsm]
      by_cases e : fval c = Y
      · rw [if_neg (by simp [e])]; rw [e]; exact Rat.le_refl
      · rw [if_pos (by simp [e])]; have := hc.2; grind
    have h2 : ∀ d, Y ≤ fval d → B ≤ d := fun d hd => by
      rw [hB, hsm]
      by_cases e : fval c = Y
      · rw [if_neg (by simp [e])]; exact fval_le.1 (by rw [e]; exact hd)
      · rw [if_pos (by simp [e])]
        have : c < d := fval_lt.1 (by have := hc.1; grind)
        omega
    rw [← hB]
    refine ⟨.sg (by omega), ?_, fun z hz hl => ?_⟩
    · rw [leQ_sg (by omega)]
      by_cases i : min B 9218868437227405312 = 9218868437227405312
      · rw [if_pos i]
      · rw [if_neg i, show min B 9218868437227405312 = B by omega, sval, if_pos rfl, sval, if_pos rfl]; grind
    · obtain ⟨m, d, hd, e, _, _⟩ := hz.ex
      subst e
      rw [leQ_sg hd] at hl
      rw [pl_sg (by omega), pl_sg (by omega), if_pos rfl]
      cases m with
      | true =>
        rw [if_pos rfl]
        by_cases i : d = 9218868437227405312
        · omega
        · rw [if_neg i, sval, if_pos rfl, sval, if_pos rfl] at hl
          have := h2 d (by grind)
          omega
      | false =>
        exfalso
        by_cases i : d = 9218868437227405312
        · rw [if_pos i] at hl; cases hl
        · rw [if_neg i, sval, if_neg Bool.false_ne_true, sval, if_pos rfl] at hl
          have := fval_nonneg d
          grind
theorem Ru.rS {q : Rat} (hq : q ≠ 0) : Ru q (rS q 3).1 := by
  have h := rS_neg hq 3
  have h2 : (Go.Proofs.YtacklcbgkigcaaaGreat.rS q 3).1 = Go.Proofs.YtacklcbgkigcaaaGreat.flip (Go.Proofs.YtacklcbgkigcaaaGreat.rS (-q) 2).1 := by
    rw [show (2 : Int) = sw 3 from rfl, h, flip1]
    exact (flip_flip (ok_rS q 3).1).symm
  rw [h2]
  exact Rd.flip (Rd.rS (by grind))
theorem rd_of (q : Rat) : Rd q (ofF q 2).1 := by
  unfold ofF; split
  · rename_i h; subst h; exact Rd.zero (n := false)
  · rename_i h; exact .rS h
theorem ru_of (q : Rat) : Ru q (ofF q 3).1 := by
  unfold ofF; split
  · rename_i h; subst h; exact Ru.zero (n := false)
  · rename_i h; exact .rS h
theorem rd_add {x y : Nat} {p q : Rat} (hx : FinF x p) (hy : FinF y q) : Rd (p + q) (addF x y 2).1 := by
  rw [addF, hx.nan, hy.nan, hx.inf, hy.inf, if_neg (by simp), if_neg (by simp), if_neg (by simp), if_neg (by simp), sumF, hx.val, hy.val]
  by_cases h0 : p + q = 0
  · rw [if_pos h0, h0]
    split
    · exact Rd.zero (n := ngt x)
    · exact Rd.zero (n := decide ((2 : Int) = 2))
  · rw [if_neg h0]; exact .rS h0
theorem ru_add {x y : Nat} {p q : Rat} (hx : FinF x p) (hy : FinF y q) : Ru (p + q) (addF x y 3).1 := by
  rw [addF, hx.nan, hy.nan, hx.inf, hy.inf, if_neg (by simp), if_neg (by simp), if_neg (by simp), if_neg (by simp), sumF, hx.val, hy.val]
  by_cases h0 : p + q = 0
  · rw [if_pos h0, h0]
    split
    · exact Ru.zero (n := ngt x)
    · exact Ru.zero (n := decide ((3 : Int) = 2))
  · rw [if_neg h0]; exact .rS h0
theorem rd_mul {x y : Nat} {p q : Rat} (hx : FinF x p) (hy : FinF y q) : Rd (p * q) (mulF x y 2).1 := by
  rw [mulF, hx.nan, hy.nan, hx.inf, hy.inf, if_neg (by simp), if_neg (by simp), if_neg (by simp), hx.val, hy.val]
  by_cases h0 : p * q = 0
  · have : (isZ x || isZ y) = true := by
      rcases Rat.mul_eq_zero.1 h0 with h1 | h1
      · rw [hx.isZ.2 h1]; rfl
      · rw [hy.isZ.2 h1]; simp
    rw [if_pos this, h0]
    exact .zero
  · have : ¬ (isZ x || isZ y) = true := by
      intro h1
      rcases (Bool.or_eq_true _ _).mp h1 with h2 | h2
      · exact h0 (by rw [hx.isZ.1 h2, Rat.zero_mul])
      · exact h0 (by rw [hy.isZ.1 h2, Rat.mul_zero])
    rw [if_neg this]; exact .rS h0
theorem ru_mul {x y : Nat} {p q : Rat} (hx : FinF x p) (hy : FinF y q) : Ru (p * q) (mulF x y 3).1 := by
  rw [mulF, hx.nan, hy.nan, hx.inf, hy.inf, if_neg (by simp), if_neg (by simp), if_neg (by simp), hx.val, hy.val]
  by_cases h0 : p * q = 0
  · have : (isZ x || isZ y) = true := by
      rcases Rat.mul_eq_zero.1 h0 with h1 | h1
      · rw [hx.isZ.2 h1]; rfl
      · rw [hy.isZ.2 h1]; simp
    rw [if_pos this, h0]
    exact .zero
  · have : ¬ (isZ x || isZ y) = true := by
      intro h1
      rcases (Bool.or_eq_true _ _).mp h1 with h2 | h2
      · exact h0 (by rw [hx.isZ.1 h2, Rat.zero_mul])
      · exact h0 (by rw [hy.isZ.1 h2, Rat.mul_zero])
    rw [if_neg this]; exact .rS h0
theorem rd_div {x y : Nat} {p q : Rat} (hx : FinF x p) (hy : FinF y q) (hq : q ≠ 0) : Rd (p / q) (divF x y 2).1 := by
  have hzy : isZ y = false := by cases h : isZ y with | false => rfl | true => exact absurd (hy.isZ.1 h) hq
  rw [divF, hx.nan, hy.nan, hx.inf, hy.inf, hzy, if_neg (by simp), if_neg (by simp), if_neg (by simp), if_neg (by simp), hx.val, hy.val]
  by_cases h0 : p = 0
  · rw [hx.isZ.2 h0, if_pos (by simp), h0, show (0 : Rat) / q = 0 by rw [Rat.div_def, Rat.zero_mul]]
    exact .zero
  · have hzx : isZ x = false := by cases h : isZ x with | false => rfl | true => exact absurd (hx.isZ.1 h) h0
    rw [hzx, if_neg (by simp)]
    exact .rS fun h => by
      have h2 : p / q * q = p := Rat.div_mul_cancel hq
      rw [h, Rat.zero_mul] at h2
      exact h0 h2.symm
theorem ru_div {x y : Nat} {p q : Rat} (hx : FinF x p) (hy : FinF y q) (hq : q ≠ 0) : Ru (p / q) (divF x y 3).1 := by
  have hzy : isZ y = false := by cases h : isZ y with | false => rfl | true => exact absurd (hy.isZ.1 h) hq
  rw [divF, hx.nan, hy.nan, hx.inf, hy.inf, hzy, if_neg (by simp), if_neg (by simp), if_neg (by simp), if_neg (by simp), hx.val, hy.val]
  by_cases h0 : p = 0
  · rw [hx.isZ.2 h0, if_pos (by simp), h0, show (0 : Rat) / q = 0 by rw [Rat.div_def, Rat.zero_mul]]
    exact .zero
  · have hzx : isZ x = false := by cases h : isZ x with | false => rfl | true => exact absurd (hx.isZ.1 h) h0
    rw [hzx, if_neg (by simp)]
    exact .rS fun h => by
      have h2 : p / q * q = p := Rat.div_mul_cancel hq
      rw [h, Rat.zero_mul] at h2
      exact h0 h2.symm
end Go.Proofs.YtacklcbgkigcaaaGreat
