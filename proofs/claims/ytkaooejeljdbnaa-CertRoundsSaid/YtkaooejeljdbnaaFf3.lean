/- FloatSame, FloatTurned: order, signs. -/
import Derived.Test.YtkaooejeljdbnaaFf2
namespace Go.Proofs.Ytkaooejeljdbnaa
open Go
set_option linter.unusedVariables false
set_option linter.unusedSimpArgs false
set_option maxRecDepth 10000

theorem flip_sg {neg : Bool} {c : Nat} (h : c < 9223372036854775808) : flip (sg neg c) = sg (!neg) c := by
  unfold flip sg
  cases neg with
  | true => rw [if_pos rfl, if_neg (by omega), if_neg (by simp)]; omega
  | false => rw [if_neg Bool.false_ne_true, if_pos h, if_pos (by rfl)]
theorem flip_flip {x : Nat} (h : x < 18446744073709551616) : flip (flip x) = x := by unfold flip; split <;> split <;> omega
theorem mag_flip {x : Nat} (h : x < 18446744073709551616) : mag (flip x) = mag x := flip_mod h
theorem ngt_flip {x : Nat} (h : x < 18446744073709551616) : ngt (flip x) = !ngt x := by
  unfold ngt flip
  by_cases h2 : x < 9223372036854775808
  · rw [if_pos h2, decide_eq_true (by omega), decide_eq_false (by omega)]; rfl
  · rw [if_neg h2, decide_eq_false (by omega), decide_eq_true (by omega)]; rfl
theorem isInf_flip {b : Nat} (hb : b < 18446744073709551616) : isInf (flip b) = isInf b := by unfold isInf; rw [flip_mod hb]
theorem isZ_flip {b : Nat} (hb : b < 18446744073709551616) : isZ (flip b) = isZ b := by unfold isZ; rw [flip_mod hb]
theorem fvq_flip {x : Nat} (h : x < 18446744073709551616) : fvq (flip x) = -fvq x := by
  unfold fvq
  rw [ngt_flip h, mag_flip h]
  cases ngt x <;> simp

/-! #### order -/
theorem sumF_comm (p q : Rat) (np nq : Bool) (mode : Int) : sumF p np q nq mode = sumF q nq p np mode := by
  unfold sumF
  rw [Rat.add_comm q p]
  by_cases h : p + q = 0
  · rw [if_pos h, if_pos h]
    by_cases h2 : p = 0 ∧ np = nq
    · have : q = 0 := by have := h2.1; grind
      rw [if_pos h2, if_pos ⟨this, h2.2.symm⟩, h2.2]
    · rw [if_neg h2, if_neg]
      intro h3
      exact h2 ⟨by have := h3.1; grind, h3.2.symm⟩
  · rw [if_neg h, if_neg h]
theorem addF_comm (x y : Nat) (mode : Int) : addF x y mode = addF y x mode := by
  unfold addF
  rw [Bool.or_comm (isNan y), sumF_comm (fvq y)]
  cases hx : isInf x <;> cases hy : isInf y
  · simp
  · simp
  · simp
  · by_cases h : x = y
    · subst h; rfl
    · have h2 : ¬ y = x := fun e => h e.symm
      simp [h, h2]
theorem mulF_comm (x y : Nat) (mode : Int) : mulF x y mode = mulF y x mode := by
  unfold mulF
  rw [Bool.or_comm (isNan y), Bool.or_comm (isInf y), Bool.or_comm (isZ y), Rat.mul_comm (fvq y), show (ngt y != ngt x) = (ngt x != ngt y) by cases ngt x <;> cases ngt y <;> rfl]

/-! #### one -/
abbrev ONE : Nat := 4607182418800017408
theorem one_facts : isNan ONE = false ∧ isInf ONE = false ∧ isZ ONE = false ∧ ngt ONE = false ∧ fvq ONE = 1 :=
  ⟨by decide, by decide, by decide, by decide, by rw [fvq_pos (by decide), fval_one]⟩
theorem xor_false (b : Bool) : (b != false) = b := by cases b <;> rfl
theorem inf_sg {x : Nat} (h : x < 18446744073709551616) (hi : isInf x = true) : sg (ngt x) 9218868437227405312 = x := by rw [← inf_mag.1 hi, sg_mag x h]
theorem inf_ne {x y : Nat} (hx : x < 18446744073709551616) (hy : y < 18446744073709551616) (hi : isInf x = true) (hj : isInf y = true) : (ngt x != ngt y) = decide (x ≠ y) := by
  by_cases h : x = y
  · subst h; simp
  · rw [decide_eq_true h]
    have : ngt x ≠ ngt y := fun e => h (by rw [← inf_sg hx hi, ← inf_sg hy hj, e])
    simpa using this
theorem fma_one {x y : Nat} (hx : x < 18446744073709551616) (hy : y < 18446744073709551616) (mode : Int) : fmaF x ONE y mode = addF x y mode := by
  obtain ⟨o1, o2, o3, o4, o5⟩ := one_facts
  unfold fmaF addF
  rw [o1, o2, o3, o4, o5, Rat.mul_one, xor_false, Bool.false_or, Bool.or_false, Bool.or_false]
  cases hn : (isNan x || isNan y) with
  | true => rfl
  | false =>
    rw [if_neg Bool.false_ne_true, if_neg Bool.false_ne_true]
    cases hi : isInf x with
    | true =>
      rw [inf_nz hi, if_neg (by simp), if_pos rfl, if_pos rfl]
      cases hj : isInf y with
      | true =>
        rw [inf_ne hx hy hi hj, Bool.true_and, Bool.true_and, inf_sg hx hi]
      | false => rw [if_neg (by simp), if_neg (by simp), inf_sg hx hi]
    | false => simp only [Bool.false_and, Bool.false_eq_true, if_false, ite_false]
theorem mul_one_f {x : Nat} (hx : x < 18446744073709551616) (mode : Int) : mulF x ONE mode = (if isNan x then 9221120237041090560 else x, 0) := by
  obtain ⟨o1, o2, o3, o4, o5⟩ := one_facts
  unfold mulF
  rw [o1, o2, o3, o4, o5, Rat.mul_one, xor_false, Bool.or_false, Bool.or_false, Bool.or_false]
  cases hn : isNan x with
  | true => rfl
  | false =>
    rw [if_neg Bool.false_ne_true, if_neg Bool.false_ne_true]
    cases hi : isInf x with
    | true => rw [inf_nz hi, if_neg (by simp), if_pos rfl, inf_sg hx hi]
    | false =>
      rw [if_neg (by simp), if_neg (by simp)]
      cases hz : isZ x with
      | true =>
        have := sg_mag x hx
        rw [isZ_iff.1 hz] at this
        rw [if_pos rfl, this]
      | false => rw [if_neg (by simp), rS_fvq hx hn hi hz]

/-! #### signs -/
/-- Modes with the ends exchanged. -/
def sw (m : Int) : Int := if m = 2 then 3 else if m = 3 then 2 else m
theorem goUp_sw (mode : Int) (neg sm odd : Bool) (half : Int) : goUp (sw mode) (!neg) sm odd half = goUp mode neg sm odd half := by
  unfold sw
  by_cases h2 : mode = 2
  · subst h2; rw [if_pos rfl]; cases neg <;> rfl
  · rw [if_neg h2]
    by_cases h3 : mode = 3
    · subst h3; rw [if_pos rfl]; cases neg <;> rfl
    · rw [if_neg h3]; unfold goUp; rw [if_neg h2, if_neg h2, if_neg h3, if_neg h3]
theorem lim_sw (mode : Int) (neg : Bool) : lim (!neg) (sw mode) = lim neg mode := by
  unfold sw
  by_cases h2 : mode = 2
  · subst h2; rw [if_pos rfl]; cases neg <;> rfl
  · rw [if_neg h2]
    by_cases h3 : mode = 3
    · subst h3; rw [if_pos rfl]; cases neg <;> rfl
    · rw [if_neg h3]; unfold lim
      by_cases h1 : mode = 1
      · rw [if_pos (.inl h1), if_pos (.inl h1)]
      · rw [if_neg (by simp [h1, h2, h3]), if_neg (by simp [h1, h2, h3])]
def flip1 (r : Nat × Int) : Nat × Int := (flip r.1, r.2)
theorem out_sw (neg : Bool) (c : Nat) (sm : Bool) (half mode : Int) : out (!neg) c sm half (sw mode) = flip1 (out neg c sm half mode) := by
  have hu : upc (!neg) c sm half (sw mode) = upc neg c sm half mode := by rw [upc, upc, goUp_sw]
  rw [out, out, hu, lim_sw]
  split
  · rw [flip1, flip_sg (lim_lt _ _)]
  · rw [flip1, flip_sg (by omega)]
theorem rS_neg {q : Rat} (hq : q ≠ 0) (mode : Int) : rS (-q) (sw mode) = flip1 (rS q mode) := by
  obtain ⟨n, X, hX, hv⟩ : ∃ n X, 0 < X ∧ q = sval n X := by
    by_cases h : 0 < q
    · exact ⟨false, q, h, rfl⟩
    · exact ⟨true, -q, by grind, by unfold sval; rw [if_pos rfl]; grind⟩
  have : -q = sval (!n) X := by rw [hv]; unfold sval; cases n <;> simp
  rw [this, hv, rS_sval hX, rS_sval hX, rndQ, rndQ, out_sw]

/-- Are two answers each other's negative? -/
def TurnP (r s : Nat × Int) : Prop := r.2 = s.2 ∧ r.1 < 18446744073709551616 ∧ s.1 < 18446744073709551616 ∧ (s.1 = flip r.1 ∨ s.1 = r.1 ∧ r.1 = 9221120237041090560 ∨ mag r.1 = 0 ∧ mag s.1 = 0)
theorem TurnP.flip {r s : Nat × Int} (h : s = flip1 r) (ho : Ok64 r.1) : TurnP r s := by
  subst h; exact ⟨rfl, ho.1, flip_lt ho.1, .inl rfl⟩
theorem TurnP.nan {g : Int} : TurnP (9221120237041090560, g) (9221120237041090560, g) := ⟨rfl, by show (9221120237041090560 : Nat) < _; decide, by show (9221120237041090560 : Nat) < _; decide, .inr (.inl ⟨rfl, rfl⟩)⟩
theorem TurnP.sg {n n' : Bool} {c : Nat} {g : Int} (h : c ≤ 9221120237041090560) (hn : n' = !n) : TurnP (sg n c, g) (sg n' c, g) := by
  subst hn
  exact .flip (by rw [flip1, flip_sg (by omega)]) (ok_sg h)
theorem TurnP.z {n n' : Bool} {g : Int} : TurnP (Go.Proofs.Ytkaooejeljdbnaa.sg n 0, g) (Go.Proofs.Ytkaooejeljdbnaa.sg n' 0, g) := by
  obtain ⟨m1, m2, m3⟩ := mag_sg (neg := n) (c := 0) (by omega)
  obtain ⟨k1, k2, k3⟩ := mag_sg (neg := n') (c := 0) (by omega)
  exact ⟨rfl, m3, k3, .inr (.inr ⟨m1, k1⟩)⟩
theorem TurnP.rS {q : Rat} (hq : q ≠ 0) {mode : Int} : TurnP (rS q mode) (rS (-q) (sw mode)) := .flip (rS_neg hq mode) (ok_rS _ _)
theorem TurnP.sum (p q : Rat) (np nq : Bool) (mode : Int) : TurnP (sumF p np q nq mode) (sumF (-p) (!np) (-q) (!nq) (sw mode)) := by
  unfold sumF
  by_cases h : p + q = 0
  · have h' : -p + -q = 0 := by grind
    rw [if_pos h, if_pos h']
    by_cases h2 : p = 0 ∧ np = nq
    · have h3 : -p = 0 ∧ (!np) = (!nq) := ⟨by have := h2.1; grind, by rw [h2.2]⟩
      rw [if_pos h2, if_pos h3]; exact .z
    · have h3 : ¬ (-p = 0 ∧ (!np) = (!nq)) := fun h3 => h2 ⟨by have := h3.1; grind, by have := h3.2; cases np <;> cases nq <;> simp_all⟩
      rw [if_neg h2, if_neg h3]; exact .z
  · have h' : ¬ (-p + -q = 0) := by grind
    rw [if_neg h, if_neg h', show -p + -q = -(p + q) by grind]
    exact .rS h
theorem TurnP.self {x : Nat} (hx : x < 18446744073709551616) : TurnP (x, 0) (Go.Proofs.Ytkaooejeljdbnaa.flip x, 0) := ⟨rfl, hx, flip_lt hx, .inl rfl⟩
theorem flip_eq {x y : Nat} (hx : x < 18446744073709551616) (hy : y < 18446744073709551616) : flip x = flip y ↔ x = y :=
  ⟨fun h => by rw [← flip_flip hx, ← flip_flip hy, h], fun h => by rw [h]⟩
theorem add_turned {x y : Nat} (hx : x < 18446744073709551616) (hy : y < 18446744073709551616) (mode : Int) : TurnP (addF x y mode) (addF (flip x) (flip y) (sw mode)) := by
  unfold addF
  rw [isNan_flip hx, isNan_flip hy, isInf_flip hx, isInf_flip hy, ngt_flip hx, ngt_flip hy, fvq_flip hx, fvq_flip hy]
  have e : decide (flip x ≠ flip y) = decide (x ≠ y) := by
    by_cases h : x = y
    · rw [decide_eq_false (by simp [h]), decide_eq_false (by simp [h])]
    · rw [decide_eq_true (show flip x ≠ flip y from fun h2 => h ((flip_eq hx hy).1 h2)), decide_eq_true (show x ≠ y from h)]
  rw [e]
  split
  · exact .nan
  split
  · exact .nan
  split
  · exact .self hx
  split
  · exact .self hy
  · exact .sum _ _ _ _ _
theorem xor_not (a b : Bool) : ((!a) != b) = !(a != b) := by cases a <;> cases b <;> rfl
theorem mul_turned {x y : Nat} (hx : x < 18446744073709551616) (hy : y < 18446744073709551616) (mode : Int) : TurnP (mulF x y mode) (mulF (flip x) y (sw mode)) := by
  unfold mulF
  rw [isNan_flip hx, isInf_flip hx, isZ_flip hx, ngt_flip hx, fvq_flip hx, xor_not]
  split
  · exact .nan
  split
  · exact .nan
  split
  · exact .sg (by omega) rfl
  split
  · exact .sg (by omega) rfl
  · rename_i h1 h2 h3 h4
    rw [show -fvq x * fvq y = -(fvq x * fvq y) by grind]
    have hzx : isZ x = false := by cases h : isZ x with | false => rfl | true => rw [h] at h4; simp at h4
    have hzy : isZ y = false := by cases h : isZ y with | false => rfl | true => rw [h] at h4; simp at h4
    exact .rS fun h => by
      rcases Rat.mul_eq_zero.1 h with h | h
      · exact fvq_ne hzx h
      · exact fvq_ne hzy h
theorem div_turned {x y : Nat} (hx : x < 18446744073709551616) (hy : y < 18446744073709551616) (mode : Int) : TurnP (divF x y mode) (divF (flip x) y (sw mode)) := by
  unfold divF
  rw [isNan_flip hx, isInf_flip hx, isZ_flip hx, ngt_flip hx, fvq_flip hx, xor_not]
  split
  · exact .nan
  split
  · exact .nan
  split
  · exact .sg (by omega) rfl
  split
  · exact .sg (by omega) rfl
  split
  · exact .sg (by omega) rfl
  · rename_i h1 h2 h3 h4 h5
    have hzx : isZ x = false := by cases h : isZ x with | false => rfl | true => rw [h] at h5; simp at h5
    have hzy : isZ y = false := by simpa using h4
    have hy0 := fvq_ne hzy
    rw [show -fvq x / fvq y = -(fvq x / fvq y) by grind]
    exact .rS fun h => by
      have h2 : fvq x / fvq y * fvq y = fvq x := Rat.div_mul_cancel hy0
      rw [h, Rat.zero_mul] at h2
      exact fvq_ne hzx h2.symm

end Go.Proofs.Ytkaooejeljdbnaa
