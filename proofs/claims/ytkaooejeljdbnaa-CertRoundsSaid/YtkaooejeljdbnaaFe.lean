/- Exact floats; modes; the next float; roots. -/
import Derived.Test.YtkaooejeljdbnaaFf3
/- Floats that tell a number exactly: sums, products of them. -/
namespace Go.Proofs.Ytkaooejeljdbnaa
open Go
set_option linter.unusedVariables false
set_option linter.unusedSimpArgs false
set_option maxRecDepth 10000

theorem isNan_mag (x : Nat) : isNan x = decide (9218868437227405312 < mag x) := rfl
theorem isInf_mag (x : Nat) : isInf x = decide (mag x = 9218868437227405312) := rfl
theorem isZ_mag (x : Nat) : isZ x = decide (mag x = 0) := rfl
theorem fvq_mag (x : Nat) : fvq x = sval (ngt x) (fval (mag x)) := rfl
/-- A finite float that tells q. -/
structure FinF (x : Nat) (q : Rat) : Prop where
  lt : x < 18446744073709551616
  nan : isNan x = false
  inf : isInf x = false
  val : fvq x = q
theorem FinF.mag {x : Nat} {q : Rat} (h : FinF x q) : mag x < 9218868437227405312 := by
  have h1 := of_decide_eq_false ((isNan_mag x).symm.trans h.nan)
  have h2 := of_decide_eq_false ((isInf_mag x).symm.trans h.inf)
  omega
theorem FinF.self {x : Nat} (hx : x < 18446744073709551616) (h : Go.Proofs.Ytkaooejeljdbnaa.mag x < 9218868437227405312) : FinF x (fvq x) :=
  ⟨hx, by rw [isNan_mag]; exact decide_eq_false (by omega), by rw [isInf_mag]; exact decide_eq_false (by omega), rfl⟩
theorem FinF.sg {neg : Bool} {c : Nat} (h : c < 9218868437227405312) : FinF (sg neg c) (sval neg (fval c)) := by
  obtain ⟨m1, m2, m3⟩ := mag_sg (neg := neg) (c := c) (by omega)
  exact ⟨m3, by rw [isNan_mag, m1]; exact decide_eq_false (by omega), by rw [isInf_mag, m1]; exact decide_eq_false (by omega), by rw [fvq_mag, m1, m2]⟩
theorem FinF.zero {neg : Bool} : FinF (Go.Proofs.Ytkaooejeljdbnaa.sg neg 0) 0 := by
  have := FinF.sg (neg := neg) (c := 0) (by decide)
  rwa [fval_zero, sval_zero.2 rfl] at this
theorem FinF.isZ {x : Nat} {q : Rat} (h : FinF x q) : isZ x = true ↔ q = 0 := by rw [← h.val, fvq_zero]
theorem FinF.flip {x : Nat} {q : Rat} (h : FinF x q) : FinF (flip x) (-q) :=
  ⟨flip_lt h.lt, by rw [isNan_flip h.lt]; exact h.nan, by rw [isInf_flip h.lt]; exact h.inf, by rw [fvq_flip h.lt, h.val]⟩
theorem FinF.uniq {x y : Nat} {q : Rat} (h : FinF x q) (h' : FinF y q) (hq : q ≠ 0) : x = y := by
  have e := h.val.trans h'.val.symm
  rw [fvq_mag, fvq_mag] at e
  have hv := h.val
  rw [fvq_mag] at hv
  have n1 := fval_nonneg (Go.Proofs.Ytkaooejeljdbnaa.mag x)
  have n2 := fval_nonneg (Go.Proofs.Ytkaooejeljdbnaa.mag y)
  rw [← sg_mag x h.lt, ← sg_mag y h'.lt]
  cases hx : ngt x <;> cases hy : ngt y <;> rw [hx] at e hv <;> rw [hy] at e <;> unfold sval at e hv <;> simp at e hv
  · rw [fval_inj.1 e]
  · exfalso; apply hq; grind
  · exfalso; apply hq; grind
  · rw [fval_inj.1 (show fval (Go.Proofs.Ytkaooejeljdbnaa.mag x) = fval (Go.Proofs.Ytkaooejeljdbnaa.mag y) by grind)]
theorem FinF.both_zero {x : Nat} (h : FinF x 0) : Go.Proofs.Ytkaooejeljdbnaa.mag x = 0 := isZ_iff.1 (h.isZ.2 rfl)

theorem cut_val {X : Rat} {c : Nat} {half : Int} (h : Cut X c false half) : fval c = X := by
  have h1 := h.sm
  by_cases e : fval c = X
  · exact e
  · rw [decide_eq_true (show fval c ≠ X from e)] at h1; cases h1
theorem exact_cd {m : Nat} {e : Int} (hm : m ≠ 0) (hb : bitLen m ≤ 53) (he : -1074 ≤ e) (he' : e ≤ 900) : fval (cd ((m : Rat) * p2 e)) = (m : Rat) * p2 e ∧ cd ((m : Rat) * p2 e) < 9218868437227405312 := by
  have hu : ulpOf m e ≤ e := by unfold ulpOf; omega
  obtain ⟨v, t, _, ht, hv, _, hc, _⟩ := cut_exact hm hu
  rw [cd_eq hc.cd]
  exact ⟨cut_val hc, by omega⟩
theorem rS_exact {X : Rat} (hX : 0 < X) (h : fval (cd X) = X) (h2 : cd X < 9218868437227405312) (neg : Bool) (mode : Int) : rS (sval neg X) mode = (sg neg (cd X), 0) := by
  have := rnd_exact h2 neg mode
  rw [h] at this
  rw [rS_sval hX, this]

/-- A whole number of few digits, times a power of two. -/
def Dy (e : Int) (q : Rat) : Prop := -1074 ≤ e ∧ e ≤ 900 ∧ ∃ z : Int, z.natAbs < 9007199254740992 ∧ q = (z : Rat) * p2 e
theorem Dy.split {e : Int} {q : Rat} (h : Dy e q) (hq : q ≠ 0) : ∃ neg X, 0 < X ∧ q = sval neg X ∧ fval (cd X) = X ∧ cd X < 9218868437227405312 := by
  obtain ⟨h1, h2, z, hz, hqz⟩ := h
  have hz0 : z ≠ 0 := fun h => hq (by rw [hqz, h]; simp)
  obtain ⟨k1, k2⟩ := exact_cd (m := z.natAbs) (e := e) (by omega) (bitLen_le (by omega)) h1 h2
  refine ⟨decide (z < 0), ((z.natAbs : Nat) : Rat) * p2 e, mp2_pos (by omega) e, ?_, k1, k2⟩
  rw [hqz]
  by_cases h : z < 0
  · rw [decide_eq_true h, natAbs_cast_neg (by omega), sval, if_pos rfl]; grind
  · rw [decide_eq_false h, natAbs_cast_pos (by omega), sval, if_neg Bool.false_ne_true]
theorem Dy.rS {e : Int} {q : Rat} (h : Dy e q) (hq : q ≠ 0) (mode : Int) : FinF (rS q mode).1 q ∧ (rS q mode).2 = 0 := by
  obtain ⟨neg, X, h1, h2, h3, h4⟩ := h.split hq
  rw [h2, rS_exact h1 h3 h4]
  refine ⟨?_, rfl⟩
  have := FinF.sg (neg := neg) h4
  rwa [h3] at this
theorem Dy.of {e : Int} {q : Rat} (h : Dy e q) (mode : Int) : FinF (ofF q mode).1 q ∧ (ofF q mode).2 = 0 := by
  unfold ofF
  by_cases h0 : q = 0
  · subst h0
    rw [if_pos rfl]
    exact ⟨FinF.zero (neg := false), rfl⟩
  · rw [if_neg h0]; exact h.rS h0 mode
theorem Dy.add {e : Int} {x y : Nat} {p q : Rat} (hx : FinF x p) (hy : FinF y q) (h : Dy e (p + q)) (mode : Int) : FinF (addF x y mode).1 (p + q) ∧ (addF x y mode).2 = 0 := by
  rw [addF, hx.nan, hy.nan, hx.inf, hy.inf, if_neg (by simp), if_neg (by simp), if_neg (by simp), if_neg (by simp), sumF, hx.val, hy.val]
  by_cases h0 : p + q = 0
  · rw [if_pos h0, h0]
    split
    · exact ⟨FinF.zero, rfl⟩
    · exact ⟨FinF.zero, rfl⟩
  · rw [if_neg h0]; exact h.rS h0 mode
theorem Dy.sub {e : Int} {x y : Nat} {p q : Rat} (hx : FinF x p) (hy : FinF y q) (h : Dy e (p - q)) (mode : Int) : FinF (subF x y mode).1 (p - q) ∧ (subF x y mode).2 = 0 := by
  rw [Rat.sub_eq_add_neg] at h ⊢
  exact Dy.add hx hy.flip h mode
theorem Dy.mul {e : Int} {x y : Nat} {p q : Rat} (hx : FinF x p) (hy : FinF y q) (h : Dy e (p * q)) (mode : Int) : FinF (mulF x y mode).1 (p * q) ∧ (mulF x y mode).2 = 0 := by
  rw [mulF, hx.nan, hy.nan, hx.inf, hy.inf, if_neg (by simp), if_neg (by simp), if_neg (by simp), hx.val, hy.val]
  by_cases h0 : p * q = 0
  · have : (isZ x || isZ y) = true := by
      rcases Rat.mul_eq_zero.1 h0 with h1 | h1
      · rw [hx.isZ.2 h1]; rfl
      · rw [hy.isZ.2 h1]; simp
    rw [if_pos this, h0]
    exact ⟨FinF.zero, rfl⟩
  · have : ¬ (isZ x || isZ y) = true := by
      intro h1
      rcases (Bool.or_eq_true _ _).mp h1 with h2 | h2
      · exact h0 (by rw [hx.isZ.1 h2, Rat.zero_mul])
      · exact h0 (by rw [hy.isZ.1 h2, Rat.mul_zero])
    rw [if_neg this]; exact h.rS h0 mode
theorem Dy.int {z : Int} (h : z.natAbs < 9007199254740992) : Dy 0 (z : Rat) := ⟨by omega, by omega, z, h, by rw [p2_zero, Rat.mul_one]⟩
end Go.Proofs.Ytkaooejeljdbnaa

/- What any mode makes of a number: what Down or Up make of it. The next float; what a root's square is. -/
namespace Go.Proofs.Ytkaooejeljdbnaa
open Go
set_option linter.unusedVariables false
set_option linter.unusedSimpArgs false
set_option maxRecDepth 10000

/-! #### modes -/
structure ModesOk (r : Int → Nat) : Prop where
  lt : ∀ k, r k < 18446744073709551616
  one : ∀ k, 0 ≤ k → k < 5 → r k = r 2 ∨ r k = r 3
  ord : r 2 ≠ r 3 → isNan (r 2) = false ∧ isNan (r 3) = false ∧ pl (r 2) ≤ pl (r 3) ∧ (r 1 = (if ngt (r 2) then r 3 else r 2) ∨ pl (r 2) = pl (r 3))
theorem ModesOk.const {c : Nat} (h : c < 18446744073709551616) : ModesOk fun _ => c := ⟨fun _ => h, fun _ _ _ => .inl rfl, fun h => absurd rfl h⟩
theorem pl_sg {neg : Bool} {c : Nat} (h : c < 9223372036854775808) : pl (sg neg c) = if neg then -(c : Int) else c := by
  obtain ⟨m1, m2, m3⟩ := mag_sg (neg := neg) h
  rw [pl, m1, m2]
  cases neg with
  | true => rfl
  | false => rfl
theorem nan_sg {neg : Bool} {c : Nat} (h : c ≤ 9218868437227405312) : isNan (sg neg c) = false := by
  obtain ⟨m1, m2, m3⟩ := mag_sg (neg := neg) (c := c) (by omega)
  rw [isNan_mag, m1]; exact decide_eq_false (by omega)
theorem out_lo {neg sm : Bool} {c : Nat} {half mode : Int} (hg : goUp mode neg sm (decide (c % 2 = 1)) half = false) (hl : lim neg mode = 9218868437227405311) : (out neg c sm half mode).1 = sg neg (min c 9218868437227405311) := by
  unfold out upc
  rw [hg, if_neg Bool.false_ne_true, hl]
  split
  · rw [Nat.min_eq_right (by omega)]
  · rw [Nat.min_eq_left (by omega)]
theorem out_hi {neg sm : Bool} {c : Nat} {half mode : Int} (hg : goUp mode neg sm (decide (c % 2 = 1)) half = sm) (hl : lim neg mode = 9218868437227405312) : (out neg c sm half mode).1 = sg neg (min (if sm then c + 1 else c) 9218868437227405312) := by
  unfold out upc
  rw [hg, hl]
  generalize (if sm = true then c + 1 else c) = d
  split
  · rw [Nat.min_eq_right (by omega)]
  · rw [Nat.min_eq_left (by omega)]
theorem out_near {neg sm : Bool} {c : Nat} {half mode : Int} (hh : sm = false → half = -1) (hm : mode = 0 ∨ mode = 4) : (out neg c sm half mode).1 = sg neg (min c 9218868437227405311) ∨ (out neg c sm half mode).1 = sg neg (min (if sm then c + 1 else c) 9218868437227405312) := by
  have hl : lim neg mode = 9218868437227405312 := by rcases hm with h | h <;> subst h <;> rfl
  obtain ⟨g, hg⟩ : ∃ g, g = goUp mode neg sm (decide (c % 2 = 1)) half := ⟨_, rfl⟩
  by_cases hgs : g = sm
  · exact .inr (out_hi (by rw [← hg, hgs]) hl)
  · have hsm : sm = true := by
      cases hs : sm with
      | true => rfl
      | false =>
        exfalso; apply hgs
        rw [hg, hs, hh hs]
        rcases hm with h | h <;> subst h <;> rfl
    have hg0 : g = false := by rw [hsm] at hgs; simpa using hgs
    rw [hg0] at hg
    unfold out upc
    rw [← hg, if_neg Bool.false_ne_true, hl]
    subst hsm
    split
    · right; show sg neg 9218868437227405312 = sg neg (min (c + 1) 9218868437227405312); rw [Nat.min_eq_right (by omega)]
    · left; show sg neg c = _; rw [Nat.min_eq_left (by omega)]
theorem out_lt64 (neg : Bool) (c : Nat) (sm : Bool) (half mode : Int) : (out neg c sm half mode).1 < 18446744073709551616 := (ok_out neg c sm half mode).1
theorem modes_out (neg : Bool) (c : Nat) (sm : Bool) (half : Int) (hh : sm = false → half = -1) : ModesOk fun k => (out neg c sm half k).1 := by
  obtain ⟨A, hA⟩ : ∃ A, A = min c 9218868437227405311 := ⟨_, rfl⟩
  obtain ⟨B, hB⟩ : ∃ B, B = min (if sm then c + 1 else c) 9218868437227405312 := ⟨_, rfl⟩
  have hAB : A ≤ B := by rw [hA, hB]; split <;> omega
  have hBI : B ≤ 9218868437227405312 := by rw [hB]; omega
  have h0 := out_near (neg := neg) (sm := sm) (c := c) hh (.inl rfl)
  have h4 := out_near (neg := neg) (sm := sm) (c := c) hh (.inr rfl)
  have h1 : (out neg c sm half 1).1 = sg neg A := by rw [hA]; exact out_lo rfl rfl
  rw [← hA, ← hB] at h0 h4
  have h23 : (out neg c sm half 2).1 = sg neg (if neg then B else A) ∧ (out neg c sm half 3).1 = sg neg (if neg then A else B) := by
    cases neg with
    | true => rw [if_pos rfl, if_pos rfl, hA, hB]; exact ⟨out_hi rfl rfl, out_lo rfl rfl⟩
    | false => rw [if_neg Bool.false_ne_true, if_neg Bool.false_ne_true, hA, hB]; exact ⟨out_lo rfl rfl, out_hi rfl rfl⟩
  refine ⟨fun k => out_lt64 _ _ _ _ _, fun k hk hk' => ?_, fun hne => ?_⟩
  · show (out neg c sm half k).1 = (out neg c sm half 2).1 ∨ (out neg c sm half k).1 = (out neg c sm half 3).1
    rcases (show k = 0 ∨ k = 1 ∨ k = 2 ∨ k = 3 ∨ k = 4 by omega) with h | h | h | h | h
    · subst h; rw [h23.1, h23.2]; cases neg with
      | true => rcases h0 with h | h; exact .inr h; exact .inl h
      | false => rcases h0 with h | h; exact .inl h; exact .inr h
    · subst h; rw [h23.1, h23.2]; cases neg with
      | true => exact .inr h1
      | false => exact .inl h1
    · subst h; exact .inl rfl
    · subst h; exact .inr rfl
    · subst h; rw [h23.1, h23.2]; cases neg with
      | true => rcases h4 with h | h; exact .inr h; exact .inl h
      | false => rcases h4 with h | h; exact .inl h; exact .inr h
  · show isNan (out neg c sm half 2).1 = false ∧ isNan (out neg c sm half 3).1 = false ∧ pl (out neg c sm half 2).1 ≤ pl (out neg c sm half 3).1 ∧ ((out neg c sm half 1).1 = (if ngt (out neg c sm half 2).1 then (out neg c sm half 3).1 else (out neg c sm half 2).1) ∨ _)
    rw [h23.1, h23.2, h1]
    cases neg with
    | true =>
      rw [if_pos rfl, if_pos rfl]
      refine ⟨nan_sg (by omega), nan_sg (by omega), ?_, .inl ?_⟩
      · rw [pl_sg (by omega), pl_sg (by omega), if_pos rfl, if_pos rfl]; omega
      · rw [(mag_sg (neg := true) (c := B) (by omega)).2.1, if_pos rfl]
    | false =>
      rw [if_neg Bool.false_ne_true, if_neg Bool.false_ne_true]
      refine ⟨nan_sg (by omega), nan_sg (by omega), ?_, .inl ?_⟩
      · rw [pl_sg (by omega), pl_sg (by omega), if_neg Bool.false_ne_true, if_neg Bool.false_ne_true]; omega
      · rw [(mag_sg (neg := false) (c := A) (by omega)).2.1, if_neg Bool.false_ne_true]
theorem modes_rS (q : Rat) : ModesOk fun k => (rS q k).1 := by
  unfold rS rndQ
  exact modes_out _ _ _ _ fun h => by
    have h := of_decide_eq_false h
    have : fval (cd q.abs) = q.abs := by
      by_cases e : fval (cd q.abs) = q.abs
      · exact e
      · exact absurd e h
    have hf := half_exact (cd q.abs)
    rw [this] at hf
    rw [this]; exact hf
theorem modes_sum (p : Rat) (np : Bool) (q : Rat) (nq : Bool) : ModesOk fun k => (sumF p np q nq k).1 := by
  unfold sumF
  by_cases h : p + q = 0
  · by_cases h2 : p = 0 ∧ np = nq
    · simp only [if_pos h, if_pos h2]
      exact .const (mag_sg (by omega)).2.2
    · simp only [if_pos h, if_neg h2]
      refine ⟨fun k => (mag_sg (by omega)).2.2, fun k _ _ => ?_, fun _ => ?_⟩
      · by_cases hk : k = 2
        · subst hk; exact .inl rfl
        · right
          show sg (decide (k = 2)) 0 = _
          rw [decide_eq_false hk]; rfl
      · exact ⟨rfl, rfl, by decide, .inr (by decide)⟩
  · simp only [if_neg h]
    exact modes_rS _
theorem modes_add {x y : Nat} (hx : x < 18446744073709551616) (hy : y < 18446744073709551616) : ModesOk fun k => (addF x y k).1 := by
  unfold addF
  split
  · exact .const (by omega)
  split
  · exact .const (by omega)
  split
  · exact .const hx
  split
  · exact .const hy
  · exact modes_sum _ _ _ _
theorem modes_mul (x y : Nat) : ModesOk fun k => (mulF x y k).1 := by
  unfold mulF
  split
  · exact .const (by omega)
  split
  · exact .const (by omega)
  split
  · exact .const (mag_sg (by omega)).2.2
  split
  · exact .const (mag_sg (by omega)).2.2
  · exact modes_rS _
theorem modes_div (x y : Nat) : ModesOk fun k => (divF x y k).1 := by
  unfold divF
  split
  · exact .const (by omega)
  split
  · exact .const (by omega)
  split
  · exact .const (mag_sg (by omega)).2.2
  split
  · exact .const (mag_sg (by omega)).2.2
  split
  · exact .const (mag_sg (by omega)).2.2
  · exact modes_rS _

/-! #### the next float -/
theorem mid_code (neg : Bool) {c : Nat} (h : c + 1 < 9218868437227405312) : (ofF (sval neg ((fval c + fval (c + 1)) * (1 / 2))) 0).1 = sg neg c ∨ (ofF (sval neg ((fval c + fval (c + 1)) * (1 / 2))) 0).1 = sg neg (c + 1) := by
  have h1 := fval_lt_succ c
  have h2 := fval_nonneg c
  obtain ⟨X, hX⟩ : ∃ X, X = (fval c + fval (c + 1)) * (1 / 2) := ⟨_, rfl⟩
  have h3 : 2 * X = fval c + fval (c + 1) := by grind
  rw [← hX]
  have hp : 0 < X := by grind
  have hc : IsCd X c := ⟨by grind, by grind⟩
  rw [ofF, if_neg (mt sval_zero.1 (by grind)), rS_sval hp, rndQ, cd_eq hc, out]
  obtain ⟨g, hg⟩ : ∃ g, g = upc neg c (decide (fval c ≠ X)) (cmpR (2 * X) (fval c + fval (c + 1))) 0 := ⟨_, rfl⟩
  have hgc : g = c ∨ g = c + 1 := by
    rw [hg]; unfold upc; split
    · exact .inr rfl
    · exact .inl rfl
  rw [← hg, if_neg (by omega)]
  rcases hgc with h | h
  · left; show sg neg g = _; rw [h]
  · right; show sg neg g = _; rw [h]
theorem sval_add (n : Bool) (X Y : Rat) : sval n X + sval n Y = sval n (X + Y) := by unfold sval; cases n <;> simp; grind
theorem sval_half (n : Bool) (X : Rat) : sval n X * (1 / 2) = sval n (X * (1 / 2)) := by unfold sval; cases n <;> simp; grind
theorem next_z {n up : Bool} : nextF (sg n 0) up = sg (!up) 1 := by cases n <;> cases up <;> rfl
theorem nextF_in {n : Bool} {c : Nat} (h : c + 1 < 9218868437227405312) : nextF (sg n (c + 1)) n = sg n c := by
  obtain ⟨m1, m2, m3⟩ := mag_sg (neg := n) (c := c + 1) (by omega)
  rw [nextF, nan_sg (by omega), isZ_mag, m1, isInf_mag, m1, decide_eq_false (show ¬ c + 1 = 0 by omega), decide_eq_false (show ¬ c + 1 = 9218868437227405312 by omega), m2, if_neg Bool.false_ne_true, if_neg Bool.false_ne_true, if_neg (by simp), if_pos rfl]
  unfold sg; split <;> omega
theorem nextF_out {n : Bool} {c : Nat} (h : c < 9218868437227405312) (h0 : c ≠ 0) : nextF (sg n c) (!n) = sg n (c + 1) := by
  obtain ⟨m1, m2, m3⟩ := mag_sg (neg := n) (c := c) (by omega)
  rw [nextF, nan_sg (by omega), isZ_mag, m1, isInf_mag, m1, decide_eq_false (show ¬ c = 0 by omega), decide_eq_false (show ¬ c = 9218868437227405312 by omega), m2, if_neg Bool.false_ne_true, if_neg Bool.false_ne_true, if_neg (by simp), if_neg (by simp)]
  unfold sg; split <;> omega
structure NextOk (x y : Nat) (up : Bool) : Prop where
  lt : up = true → fvq x < fvq y
  gt : up = false → fvq y < fvq x
  back : nextF y (!up) = x ∨ mag x = 0 ∧ mag (nextF y (!up)) = 0
  mid : (ofF ((fvq x + fvq y) * (1 / 2)) 0).1 = x ∨ (ofF ((fvq x + fvq y) * (1 / 2)) 0).1 = y ∨ mag (ofF ((fvq x + fvq y) * (1 / 2)) 0).1 = 0
theorem fvq_sg {n : Bool} {c : Nat} (h : c < 9223372036854775808) : fvq (sg n c) = sval n (fval c) := by
  obtain ⟨m1, m2, m3⟩ := mag_sg (neg := n) h
  rw [fvq_mag, m1, m2]
theorem next_zero {n up : Bool} : NextOk (sg n 0) (sg (!up) 1) up := by
  have hp := fval_pos.2 (show 0 < 1 by omega)
  have e0 : fvq (sg n 0) = 0 := by rw [fvq_sg (by omega), fval_zero, sval_zero.2 rfl]
  refine ⟨fun h => ?_, fun h => ?_, .inr ⟨(mag_sg (by omega)).1, ?_⟩, ?_⟩
  · subst h; rw [e0, fvq_sg (by omega), sval, if_neg (by simp)]; exact hp
  · subst h; rw [e0, fvq_sg (by omega), sval, if_pos (show (!false) = true from rfl)]; grind
  · rw [nextF_in (n := !up) (c := 0) (by omega)]; exact (mag_sg (by omega)).1
  · rw [e0, Rat.zero_add, fvq_sg (by omega), sval_half]
    have := mid_code (!up) (c := 0) (by omega)
    rw [fval_zero, Rat.zero_add] at this
    rcases this with h | h
    · right; right; rw [h]; exact (mag_sg (by omega)).1
    · right; left; exact h
theorem next_in {n : Bool} {c : Nat} (h : c + 1 < 9218868437227405312) : NextOk (sg n (c + 1)) (sg n c) n := by
  have h1 := fval_lt_succ c
  refine ⟨fun hn => ?_, fun hn => ?_, .inl ?_, ?_⟩
  · subst hn; rw [fvq_sg (by omega), fvq_sg (by omega), sval, if_pos rfl, sval, if_pos rfl]; grind
  · subst hn; rw [fvq_sg (by omega), fvq_sg (by omega), sval, if_neg Bool.false_ne_true, sval, if_neg Bool.false_ne_true]; exact h1
  · by_cases h0 : c = 0
    · subst h0; rw [next_z, Bool.not_not]
    · exact nextF_out (by omega) h0
  · rw [fvq_sg (by omega), fvq_sg (by omega), sval_add, sval_half, Rat.add_comm]
    rcases mid_code n h with h | h
    · right; left; exact h
    · left; exact h
theorem next_out {n : Bool} {c : Nat} (h : c + 1 < 9218868437227405312) (h0 : c ≠ 0) : NextOk (sg n c) (sg n (c + 1)) (!n) := by
  have h1 := fval_lt_succ c
  refine ⟨fun hn => ?_, fun hn => ?_, .inl ?_, ?_⟩
  · have : n = false := by simpa using hn
    subst this; rw [fvq_sg (by omega), fvq_sg (by omega), sval, if_neg Bool.false_ne_true, sval, if_neg Bool.false_ne_true]; exact h1
  · have : n = true := by simpa using hn
    subst this; rw [fvq_sg (by omega), fvq_sg (by omega), sval, if_pos rfl, sval, if_pos rfl]; grind
  · rw [Bool.not_not]; exact nextF_in h
  · rw [fvq_sg (by omega), fvq_sg (by omega), sval_add, sval_half]
    rcases mid_code n h with h | h
    · left; exact h
    · right; left; exact h
theorem next_ok {x : Nat} (hx : x < 18446744073709551616) (up : Bool) (h1 : mag x < 9218868437227405312) (h2 : mag (nextF x up) < 9218868437227405312) : NextOk x (nextF x up) up := by
  have e := sg_mag x hx
  obtain ⟨n, hn⟩ : ∃ n, n = ngt x := ⟨_, rfl⟩
  obtain ⟨c, hc⟩ : ∃ c, c = mag x := ⟨_, rfl⟩
  rw [← hn, ← hc] at e
  rw [← hc] at h1
  rw [← e] at h2 ⊢
  by_cases h0 : c = 0
  · subst h0; rw [next_z]; exact next_zero
  · by_cases hu : n = up
    · subst hu
      obtain ⟨d, hd⟩ : ∃ d, c = d + 1 := ⟨c - 1, by omega⟩
      subst hd
      rw [nextF_in h1]; exact next_in h1
    · have hu : up = !n := by cases n <;> cases up <;> simp_all
      subst hu
      rw [nextF_out h1 h0] at h2 ⊢
      rw [(mag_sg (by omega)).1] at h2
      exact next_out h2 h0

/-! #### roots -/
theorem fval_inf : 1 ≤ fval 9218868437227405311 ∧ 2 * fval 9218868437227405311 ≥ fval 9218868437227405312 := by
  constructor
  · rw [← fval_one, fval_le]; omega
  · have h1 := fval_dbl (c := 9218868437227405311 - 4503599627370496) (by decide)
    have h2 := fval_succ 9218868437227405311
    have h3 : fval 9218868437227405312 = fval 9218868437227405311 + p2 (fexp 9218868437227405311) := h2
    have h4 : p2 (fexp 9218868437227405311) ≤ fval 9218868437227405311 := by
      have e1 : fsig 9218868437227405311 = 9007199254740991 := rfl
      rw [fval, e1]
      have := p2_pos (fexp 9218868437227405311)
      have h5 : (1 : Rat) ≤ ((9007199254740991 : Nat) : Rat) := by exact_mod_cast (by decide : 1 ≤ 9007199254740991)
      have h6 := mul_le_q h5 this
      grind
    grind
theorem root_lt {X : Rat} {c : Nat} (hc : fval c * fval c ≤ X) (hX : X < fval 9218868437227405312) : c + 1 < 9218868437227405312 := by
  by_cases h : c + 1 < 9218868437227405312
  · exact h
  · exfalso
    obtain ⟨h1, h2⟩ := fval_inf
    have h3 : fval 9218868437227405311 ≤ fval c := fval_le.2 (by omega)
    obtain ⟨F, hF⟩ : ∃ F, F = fval 9218868437227405311 := ⟨_, rfl⟩
    have h2F : 2 ≤ F := by
      have : fval 4611686018427387904 ≤ fval 9218868437227405311 := fval_le.2 (by omega)
      have h4 := fval_dbl (c := 4607182418800017408) (by decide)
      rw [show 4607182418800017408 + 4503599627370496 = 4611686018427387904 from rfl, fval_one] at h4
      grind
    rw [← hF] at h1 h2 h3
    have h4 := Rat.mul_nonneg (show 0 ≤ fval c - F by grind) (show 0 ≤ fval c + F by grind)
    have h5 := Rat.mul_nonneg (show 0 ≤ F - 2 by grind) (show 0 ≤ F by grind)
    grind
theorem exists_cs {X : Rat} (h0 : 0 ≤ X) (hX : X < fval 9218868437227405312) : ∃ c, IsCS X c ∧ c + 1 < 9218868437227405312 := by
  obtain ⟨c, h1, h2⟩ := find_step (fun c => fval c * fval c ≤ X) (by show fval 0 * fval 0 ≤ X; rw [fval_zero, Rat.zero_mul]; exact h0) 9218868437227405312 (by
    intro h
    have h : fval 9218868437227405312 * fval 9218868437227405312 ≤ X := h
    have h1 := root_lt h hX
    omega)
  exact ⟨c, ⟨h1, Rat.not_le.1 h2⟩, root_lt h1 hX⟩
theorem sqrt_dir {c : Nat} {X : Rat} (h : IsCS X c) (hc : c + 1 < 9218868437227405312) : ∃ (sm : Bool) (g : Int), sqrtQ X 2 = (c, g) ∧ sqrtQ X 3 = (if sm then c + 1 else c, g) ∧ (g = 0 ↔ sm = false) ∧ (sm = false ↔ fval c * fval c = X) := by
  obtain ⟨sm, hsm⟩ : ∃ sm, sm = decide (fval c * fval c ≠ X) := ⟨_, rfl⟩
  refine ⟨sm, if sm then (if c < 4503599627370496 then 3 else 1) else 0, ?_, ?_, ?_, ?_⟩
  · rw [sqrtQ, cS_eq h, ← hsm, out_fin (by rw [upc, show goUp 2 false sm _ _ = false from rfl, if_neg Bool.false_ne_true]; omega), upc, show goUp 2 false sm _ _ = false from rfl, if_neg Bool.false_ne_true]; rfl
  · have : upc false c sm (cmpR (4 * X) ((fval c + fval (c + 1)) * (fval c + fval (c + 1)))) 3 = if sm then c + 1 else c := by
      rw [upc, show goUp 3 false sm _ _ = sm from rfl]
    rw [sqrtQ, cS_eq h, ← hsm, out_fin (by rw [this]; split <;> omega), this]; rfl
  · cases sm with
    | true => rw [if_pos rfl]; split <;> simp
    | false => simp
  · rw [hsm]; simp
theorem sqrt_exact {c : Nat} (hc : c + 1 < 9218868437227405312) (mode : Int) : sqrtQ (fval c * fval c) mode = (c, 0) := by
  have h1 := fval_lt_succ c
  have h2 := fval_nonneg c
  have h : IsCS (fval c * fval c) c := ⟨Rat.le_refl, by have := Rat.mul_nonneg h2 h2; have h3 := Rat.mul_pos (show 0 < fval (c + 1) - fval c by grind) (show 0 < fval (c + 1) + fval c by grind); grind⟩
  rw [sqrtQ, cS_eq h, decide_eq_false (by simp)]
  have : cmpR (4 * (fval c * fval c)) ((fval c + fval (c + 1)) * (fval c + fval (c + 1))) = -1 := by
    rw [cmpR, if_pos]
    have h3 := Rat.mul_pos (show 0 < fval (c + 1) - fval c by grind) (show 0 < fval (c + 1) + 3 * fval c by grind)
    grind
  rw [this, out_fin (by rw [upc, goUp_no, if_neg Bool.false_ne_true]; omega), upc, goUp_no, if_neg Bool.false_ne_true, if_neg Bool.false_ne_true]
  rfl
end Go.Proofs.Ytkaooejeljdbnaa
