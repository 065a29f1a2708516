/- Floats: sums, products, quotients, roots. -/
import Derived.Test.YtkaooejeljdbnaaR3
/- Floats: sums, differences, products, quotients. -/
namespace Go.Proofs.Ytkaooejeljdbnaa
open Go
set_option linter.unusedVariables false
set_option linter.unusedSimpArgs false
set_option maxRecDepth 10000

/-! #### what sums, products, quotients are -/
noncomputable def sumF (p : Rat) (np : Bool) (q : Rat) (nq : Bool) (mode : Int) : Nat × Int :=
  if p + q = 0 then (if p = 0 ∧ np = nq then (sg np 0, 0) else (sg (decide (mode = 2)) 0, 0)) else rS (p + q) mode
noncomputable def addF (x y : Nat) (mode : Int) : Nat × Int :=
  if isNan x || isNan y then (9221120237041090560, 0) else if isInf x && (isInf y && decide (x ≠ y)) then (9221120237041090560, 16) else if isInf x then (x, 0) else if isInf y then (y, 0) else sumF (fvq x) (ngt x) (fvq y) (ngt y) mode
noncomputable def mulF (x y : Nat) (mode : Int) : Nat × Int :=
  if isNan x || isNan y then (9221120237041090560, 0) else if (isInf x || isInf y) && (isZ x || isZ y) then (9221120237041090560, 16) else if isInf x || isInf y then (sg (ngt x != ngt y) 9218868437227405312, 0)
  else if isZ x || isZ y then (sg (ngt x != ngt y) 0, 0) else rS (fvq x * fvq y) mode
noncomputable def divF (x y : Nat) (mode : Int) : Nat × Int :=
  if isNan x || isNan y then (9221120237041090560, 0) else if (isInf x && isInf y) || (isZ x && isZ y) then (9221120237041090560, 16) else if isInf x then (sg (ngt x != ngt y) 9218868437227405312, 0)
  else if isZ y then (sg (ngt x != ngt y) 9218868437227405312, 8) else if isInf y || isZ x then (sg (ngt x != ngt y) 0, 0) else rS (fvq x / fvq y) mode

theorem min_ite' (a b : Int) : (if b < a then b else a) = min a b := by split <;> omega
/-- A value with a sign. -/
def sval (neg : Bool) (X : Rat) : Rat := if neg then -X else X
theorem fvq_sval (f : Nat) : fvq f = sval (ngt f) ((fsig (mag f) : Rat) * p2 (fexp (mag f))) := rfl
theorem rS_sval {neg : Bool} {X : Rat} (h : 0 < X) (mode : Int) : rS (sval neg X) mode = rndQ neg X mode := by
  unfold rS sval
  cases neg with
  | true =>
    rw [if_pos rfl, decide_eq_true (num_neg_iff.2 (by grind)), Rat.abs, if_neg (by rw [Rat.not_le]; grind)]
    congr 1; grind
  | false =>
    rw [if_neg Bool.false_ne_true, decide_eq_false (by rw [num_neg_iff]; grind), Rat.abs, if_pos (by grind)]
theorem sval_zero {neg : Bool} {X : Rat} : sval neg X = 0 ↔ X = 0 := by
  unfold sval; cases neg
  · simp
  · rw [if_pos rfl]; constructor <;> intro h <;> grind
theorem sval_mul (a b : Bool) (X Y : Rat) : sval a X * sval b Y = sval (a != b) (X * Y) := by
  unfold sval; cases a <;> cases b <;> simp <;> grind
theorem mp2_pos {m : Nat} (h : m ≠ 0) (e : Int) : 0 < (m : Rat) * p2 e := mul_pos_q (pos_q h) (p2_pos e)
theorem mp2_zero {m : Nat} {e : Int} : (m : Rat) * p2 e = 0 ↔ m = 0 := by
  constructor
  · intro h
    by_cases h2 : m = 0
    · exact h2
    · have := mp2_pos h2 e; grind
  · intro h; subst h; simp
theorem round_exact (neg : Bool) (m : Nat) (e mode : Int) (hm : m ≠ 0) (hmb : bitLen m ≤ 262144) (he : -262144 ≤ e ∧ e ≤ 262144) :
    CallP Try.prog 142 [numP neg m e false, .int .i64 mode] (fpair (rS (sval neg ((m : Rat) * p2 e)) mode)) [] := by
  rw [rS_sval (mp2_pos hm e)]
  have := p2_pos e
  exact round_ok neg m e false mode hm hmb he Rat.le_refl (by grind) (by simp) (by simp)

end Go.Proofs.Ytkaooejeljdbnaa

/- Floats: Add, Sub, Mul, Div. -/
namespace Go.Proofs.Ytkaooejeljdbnaa
open Go
set_option linter.unusedVariables false
set_option linter.unusedSimpArgs false
set_option maxRecDepth 10000

abbrev u64s (l : List Nat) : List PV := l.map fun (x : Nat) => .int .u64 x
theorem SIdx.ub {l : List Nat} {i : Int} {K : Nat → PV → Prop} (j : Nat) (hi : i = j) (hj : j < l.length) (hk : K j (.int .u64 ((l.getD j 0 : Nat) : Int))) : SIdx (u64s l) i K :=
  .mk j _ hi (by simp [List.getElem?_map, List.getElem?_eq_getElem hj, List.getD]) hk
theorem any_take {p : Nat → Bool} {l : List Nat} {i : Nat} (hi : i < l.length) : (l.take (i + 1)).any p = ((l.take i).any p || p (l.getD i 0)) := by
  rw [List.take_add_one, List.any_append, List.getElem?_eq_getElem hi]; simp [List.getD, List.getElem?_eq_getElem hi]
theorem any_of {p : Nat → Bool} {l : List Nat} {i : Nat} (hi : i < l.length) (h : p (l.getD i 0) = true) : l.any p = true := by
  rw [List.any_eq_true]
  exact ⟨l.getD i 0, by simp [List.getD, List.getElem?_eq_getElem hi], h⟩
theorem flip_mod {b : Nat} (hb : b < 18446744073709551616) : flip b % 9223372036854775808 = b % 9223372036854775808 := by unfold flip; split <;> omega
theorem isNan_flip {b : Nat} (hb : b < 18446744073709551616) : isNan (flip b) = isNan b := by
  unfold isNan; rw [flip_mod hb]
/-- What is left, of floats. -/
noncomputable def subF (a b : Nat) (mode : Int) : Nat × Int := addF a (flip b) mode
theorem isZ_iff {f : Nat} : isZ f = true ↔ mag f = 0 := by unfold isZ mag; simp
theorem fsig_zero {c : Nat} : fsig c = 0 ↔ c = 0 := by unfold fsig; split <;> omega
theorem fvq_mul (a b : Nat) : fvq a * fvq b = sval (ngt a != ngt b) (((fsig (mag a) * fsig (mag b) : Nat) : Rat) * p2 (fexp (mag a) + fexp (mag b))) := by
  rw [fvq_sval, fvq_sval, sval_mul, p2_add, Rat.natCast_mul]
  congr 1; grind
theorem signs_ok {P : Prop} {a b : Nat} {K : AV → Prop} (h : ∀ v, (v = .tf (ngt a != ngt b)) → K v) : SCmp (ngt a != ngt b) K := by
  cases e : (ngt a != ngt b) with
  | true => exact .yes rfl (h _ (by rw [e]))
  | false => exact .no rfl (h _ (by rw [e]))
end Go.Proofs.Ytkaooejeljdbnaa

/- Floats: quotients; whole roots; what a root is. -/
namespace Go.Proofs.Ytkaooejeljdbnaa
open Go
set_option linter.unusedVariables false
set_option linter.unusedSimpArgs false
set_option maxRecDepth 10000

theorem fvq_div {a b : Nat} (hb : fsig (mag b) ≠ 0) : fvq a / fvq b = sval (ngt a != ngt b) ((fsig (mag a) : Rat) / (fsig (mag b) : Rat) * p2 (fexp (mag a) - fexp (mag b))) := by
  rw [fvq_sval, fvq_sval]
  have h1 := pos_q hb
  have h2 := p2_pos (fexp (mag b))
  have h3 : p2 (fexp (mag a)) = p2 (fexp (mag a) - fexp (mag b)) * p2 (fexp (mag b)) := by rw [← p2_add]; congr 1; omega
  rw [h3]
  generalize p2 (fexp (mag a) - fexp (mag b)) = u
  generalize p2 (fexp (mag b)) = w at *
  generalize (fsig (mag a) : Rat) = x
  generalize (fsig (mag b) : Rat) = y at *
  unfold sval
  cases ngt a <;> cases ngt b <;> simp <;> grind
/-! #### whole roots -/
def IsSq (a r : Nat) : Prop := r * r ≤ a ∧ a < (r + 1) * (r + 1)
theorem sq_lt {a b : Nat} : a * a < b * b ↔ a < b := ⟨fun h => by
  rcases Nat.lt_or_ge a b with h1 | h1
  · exact h1
  · have := Nat.mul_le_mul h1 h1; omega, fun h => Nat.mul_lt_mul'' h h⟩
theorem sq_le {a b : Nat} : a * a ≤ b * b ↔ a ≤ b := by rw [← Nat.not_lt, sq_lt]; omega
theorem IsSq.le {a r n : Nat} (h : IsSq a r) : n * n ≤ a ↔ n ≤ r := by
  constructor
  · intro h1
    have := sq_lt.1 (Nat.lt_of_le_of_lt h1 h.2)
    omega
  · intro h1
    exact Nat.le_trans (sq_le.2 h1) h.1
theorem IsSq.uniq {a r s : Nat} (h : IsSq a r) (h' : IsSq a s) : r = s := by
  have h1 := h.le.1 h'.1
  have h2 := h'.le.1 h.1
  omega
theorem exists_sq (a : Nat) : ∃ r, IsSq a r := by
  obtain ⟨r, h1, h2⟩ := find_step (fun r => r * r ≤ a) (Nat.zero_le _) (a + 1) (by
    show ¬ (a + 1) * (a + 1) ≤ a
    have : (a + 1) * 1 ≤ (a + 1) * (a + 1) := Nat.mul_le_mul_left _ (by omega)
    omega)
  exact ⟨r, h1, Nat.not_le.1 h2⟩
theorem newton {a r : Nat} (hr : r ≠ 0) (h : a < (r + 1) * (r + 1)) : a < ((r + a / r) / 2 + 1) * ((r + a / r) / 2 + 1) := by
  obtain ⟨q, hq⟩ : ∃ q, q = a / r := ⟨_, rfl⟩
  obtain ⟨n, hn⟩ : ∃ n, n = (r + q) / 2 := ⟨_, rfl⟩
  have h1 : a < r * (q + 1) := by
    have := Nat.lt_mul_div_succ a (show 0 < r by omega)
    rwa [← hq] at this
  rw [← hq, ← hn]
  have h2 : r + q + 1 ≤ 2 * (n + 1) := by omega
  have h3 := Nat.mul_le_mul h2 h2
  have h4 : 4 * (r * (q + 1)) ≤ (r + q + 1) * (r + q + 1) := by
    rcases Nat.le_total r (q + 1) with h5 | h5
    · obtain ⟨d, hd⟩ : ∃ d, q + 1 = r + d := ⟨q + 1 - r, by omega⟩
      rw [show r + q + 1 = 2 * r + d by omega, hd]
      have : (2 * r + d) * (2 * r + d) = 4 * (r * (r + d)) + d * d := by grind
      omega
    · obtain ⟨d, hd⟩ : ∃ d, r = q + 1 + d := ⟨r - (q + 1), by omega⟩
      rw [show r + q + 1 = 2 * (q + 1) + d by omega, hd]
      have : (2 * (q + 1) + d) * (2 * (q + 1) + d) = 4 * ((q + 1 + d) * (q + 1)) + d * d := by grind
      omega
  have h6 : (2 * (n + 1)) * (2 * (n + 1)) = 4 * ((n + 1) * (n + 1)) := by grind
  omega
/-! #### the root of a number -/
def IsCS (X : Rat) (c : Nat) : Prop := fval c * fval c ≤ X ∧ X < fval (c + 1) * fval (c + 1)
theorem sqq_lt {a b : Rat} (ha : 0 ≤ a) (hb : 0 ≤ b) (h : a * a < b * b) : a < b := by
  by_cases h2 : a < b
  · exact h2
  · have h3 := Rat.mul_nonneg (show 0 ≤ a - b by grind) (show 0 ≤ a + b by grind)
    grind
theorem IsCS.uniq {X : Rat} {a b : Nat} (ha : IsCS X a) (hb : IsCS X b) : a = b := by
  have h1 : fval a < fval (b + 1) := sqq_lt (fval_nonneg _) (fval_nonneg _) (by have := ha.1; have := hb.2; grind)
  have h2 : fval b < fval (a + 1) := sqq_lt (fval_nonneg _) (fval_nonneg _) (by have := hb.1; have := ha.2; grind)
  rw [fval_lt] at h1 h2
  omega
open Classical in
noncomputable def cS (X : Rat) : Nat := if h : ∃ c, IsCS X c then h.choose else 0
theorem cS_eq {X : Rat} {c : Nat} (h : IsCS X c) : cS X = c := by
  unfold cS
  have h1 : ∃ c, IsCS X c := ⟨c, h⟩
  rw [dif_pos h1]
  exact h1.choose_spec.uniq h
noncomputable def sqrtQ (X : Rat) (mode : Int) : Nat × Int :=
  out false (cS X) (decide (fval (cS X) * fval (cS X) ≠ X)) (cmpR (4 * X) ((fval (cS X) + fval (cS X + 1)) * (fval (cS X) + fval (cS X + 1)))) mode
noncomputable def sqrtF (f : Nat) (mode : Int) : Nat × Int :=
  if isNan f then (9221120237041090560, 0) else if isZ f then (f, 0) else if ngt f then (9221120237041090560, 16) else if isInf f then (f, 0) else sqrtQ (fvq f) mode

/-- A root's middle: its whole part, and a half where it isn't whole. -/
def theta (a r : Nat) : Rat := if r * r = a then 0 else 1 / 2
theorem theta_le {a r N : Nat} (h : IsSq a r) : (N : Rat) ≤ (r : Rat) + theta a r ↔ N * N ≤ a := by
  rw [h.le]
  have ht : 0 ≤ theta a r ∧ theta a r < 1 := by unfold theta; split <;> constructor <;> grind
  constructor
  · intro h1
    have : (N : Rat) < ((r + 1 : Nat) : Rat) := by rw [Rat.natCast_add]; show _ < (r : Rat) + 1; grind
    have := natq_lt.1 this
    omega
  · intro h1
    have := natq_le.2 h1
    grind
theorem theta_lt {a r N : Nat} (h : IsSq a r) : (N : Rat) < (r : Rat) + theta a r ↔ N * N < a := by
  constructor
  · intro h1
    have h2 := (theta_le h).1 (show (N : Rat) ≤ _ by grind)
    rcases Nat.lt_or_ge (N * N) a with h3 | h3
    · exact h3
    · exfalso
      have h4 : N * N = a := by omega
      have h5 : N = r := IsSq.uniq ⟨by omega, by rw [← h4]; exact sq_lt.2 (by omega)⟩ h
      subst h5
      rw [theta, if_pos h4] at h1
      grind
  · intro h1
    have h2 := h.le.1 (show N * N ≤ a by omega)
    rcases Nat.lt_or_ge N r with h3 | h3
    · have h4 : ((N + 1 : Nat) : Rat) ≤ (r : Rat) := natq_le.2 h3
      rw [Rat.natCast_add] at h4
      have ht : 0 ≤ theta a r := by unfold theta; split <;> grind
      have h4 : (N : Rat) + 1 ≤ (r : Rat) := h4
      grind
    · have h4 : N = r := by omega
      subst h4
      rw [theta, if_neg (by omega)]
      grind
theorem sq_cut {a r : Nat} {e : Int} (h : IsSq a r) (hbig : 54 ≤ bitLen r) (mode : Int) : rndQ false (((r : Rat) + theta a r) * p2 e) mode = sqrtQ ((a : Rat) * p2 (e + e)) mode := by
  have hg := p2_pos e
  have ht : 0 ≤ theta a r ∧ theta a r < 1 := by unfold theta; split <;> constructor <;> grind
  have hr0 : (0 : Rat) ≤ (r : Rat) := by exact_mod_cast Nat.zero_le r
  obtain ⟨s, hs⟩ : ∃ s, s = (r : Rat) + theta a r := ⟨_, rfl⟩
  have hle : ∀ N : Nat, (N : Rat) ≤ s ↔ N * N ≤ a := fun N => by rw [hs]; exact theta_le h
  have hlt : ∀ N : Nat, (N : Rat) < s ↔ N * N < a := fun N => by rw [hs]; exact theta_lt h
  rw [← hs]
  have hX0 : 0 ≤ s * p2 e := Rat.mul_nonneg (by grind) (by grind)
  obtain ⟨c, hc⟩ : ∃ c, c = cd (s * p2 e) := ⟨_, rfl⟩
  have hcd := cd_is hX0
  rw [← hc] at hcd
  have hsucc := fval_succ c
  -- the code's own power of two is greater
  have hexp : e < fexp c := by
    rcases Int.lt_or_le e (fexp c) with h1 | h1
    · exact h1
    · exfalso
      have h2 := p2_mono h1
      have h3 : ((fsig c + 1 : Nat) : Rat) ≤ ((9007199254740992 : Nat) : Rat) := natq_le.2 (fsig_lt c)
      have h4 : ((9007199254740992 : Nat) : Rat) ≤ (r : Rat) := natq_le.2 (by
        have := bitLen_pos (n := r) (by intro h; rw [h] at hbig; simp [bitLen] at hbig)
        have h5 : 2 ^ 53 ≤ 2 ^ (bitLen r - 1) := Nat.pow_le_pow_right (by omega) (by omega)
        have h6 : 2 ^ 53 = 9007199254740992 := by decide
        omega)
      have h5 : fval (c + 1) = ((fsig c + 1 : Nat) : Rat) * p2 (fexp c) := by rw [hsucc, fval, Rat.natCast_add]; show _ = ((fsig c : Rat) + 1) * _; grind
      have h6 := mul_le_q h3 (p2_pos (fexp c))
      have h7 : ((9007199254740992 : Nat) : Rat) * p2 (fexp c) ≤ ((9007199254740992 : Nat) : Rat) * p2 e := by
        have := Rat.mul_nonneg (show (0 : Rat) ≤ ((9007199254740992 : Nat) : Rat) by exact_mod_cast Nat.zero_le _) (show 0 ≤ p2 e - p2 (fexp c) by grind)
        grind
      have h8 : ((9007199254740992 : Nat) : Rat) * p2 e ≤ s * p2 e := mul_le_q (by grind) hg
      have := hcd.2
      grind
  obtain ⟨j, hj⟩ : ∃ j : Nat, fexp c = e + 1 + j := ⟨(fexp c - e - 1).toNat, by omega⟩
  obtain ⟨U, hU⟩ : ∃ U, U = 2 ^ j := ⟨_, rfl⟩
  have hu : p2 (fexp c) = 2 * (U : Rat) * p2 e := by
    rw [hj, p2_add_nat, p2_succ, ← hU]; grind
  obtain ⟨N, hN⟩ : ∃ N, N = fsig c * (2 * U) := ⟨_, rfl⟩
  have v1 : fval c = (N : Rat) * p2 e := by
    rw [fval, hu, hN, Rat.natCast_mul, Rat.natCast_mul]
    show _ = (fsig c : Rat) * (2 * (U : Rat)) * p2 e
    grind
  have v2 : fval (c + 1) = ((N + 2 * U : Nat) : Rat) * p2 e := by
    rw [hsucc, hu, v1, Rat.natCast_add, Rat.natCast_mul]
    show _ = ((N : Rat) + 2 * (U : Rat)) * p2 e
    grind
  have v3 : fval c + fval (c + 1) = 2 * (((N + U : Nat) : Rat) * p2 e) := by
    rw [v1, v2, Rat.natCast_add, Rat.natCast_add, Rat.natCast_mul]
    show (N : Rat) * p2 e + ((N : Rat) + 2 * (U : Rat)) * p2 e = 2 * (((N : Rat) + (U : Rat)) * p2 e)
    grind
  have mid : ∀ M : Nat, ((M : Rat) * p2 e ≤ s * p2 e ↔ M * M ≤ a) := fun M => ⟨fun h => (hle M).1 (le_of_mul h hg), fun h => mul_le_q ((hle M).2 h) hg⟩
  have mid2 : ∀ M : Nat, ((M : Rat) * p2 e < s * p2 e ↔ M * M < a) := fun M => ⟨fun h => (hlt M).1 (lt_of_mul h hg), fun h => mul_lt_q ((hlt M).2 h) hg⟩
  have hgg : p2 (e + e) = p2 e * p2 e := p2_add e e
  have hgp : 0 < p2 (e + e) := p2_pos _
  have sq : ∀ M : Nat, ((M : Rat) * p2 e) * ((M : Rat) * p2 e) = ((M * M : Nat) : Rat) * p2 (e + e) := fun M => by rw [hgg, Rat.natCast_mul]; grind
  have big : ∀ M : Nat, (((M * M : Nat) : Rat) * p2 (e + e) ≤ (a : Rat) * p2 (e + e) ↔ M * M ≤ a) := fun M => ⟨fun h => natq_le.1 (le_of_mul h hgp), fun h => mul_le_q (natq_le.2 h) hgp⟩
  have big2 : ∀ M : Nat, (((M * M : Nat) : Rat) * p2 (e + e) < (a : Rat) * p2 (e + e) ↔ M * M < a) := fun M => ⟨fun h => natq_lt.1 (lt_of_mul h hgp), fun h => mul_lt_q (natq_lt.2 h) hgp⟩
  have hCS : IsCS ((a : Rat) * p2 (e + e)) c := by
    have g1 := hcd.1
    have g2 := hcd.2
    refine ⟨?_, ?_⟩
    · rw [v1, sq, big, ← mid, ← v1]; exact g1
    · rw [v2, sq, ← Rat.not_le, big, ← mid, ← v2, Rat.not_le]; exact g2
  rw [rndQ, sqrtQ, cS_eq hCS, ← hc]
  congr 1
  · -- exact or not
    have : (fval c = s * p2 e) ↔ (fval c * fval c = (a : Rat) * p2 (e + e)) := by
      rw [v1, sq]
      constructor
      · intro h1
        have g1 := (mid N).1 (by rw [h1]; exact Rat.le_refl)
        have g2 := mt (mid2 N).2 (by rw [h1]; grind)
        rw [show N * N = a by omega]
      · intro h1
        have g1 := (big N).1 (by rw [h1]; exact Rat.le_refl)
        have g2 := mt (big2 N).2 (by rw [h1]; grind)
        have g3 := (mid N).2 g1
        have g4 := mt (mid2 N).1 g2
        grind
    by_cases h1 : fval c = s * p2 e
    · rw [decide_eq_false (fun h => h h1), decide_eq_false (fun h => h (this.1 h1))]
    · rw [decide_eq_true h1, decide_eq_true (mt this.2 h1)]
  · rw [v3]
    have e1 : (2 * (((N + U : Nat) : Rat) * p2 e)) * (2 * (((N + U : Nat) : Rat) * p2 e)) = 4 * ((((N + U) * (N + U) : Nat) : Rat) * p2 (e + e)) := by rw [← sq]; grind
    rw [e1]
    have m1 := mid (N + U)
    have m2 := mid2 (N + U)
    have b1 := big (N + U)
    have b2 := big2 (N + U)
    unfold cmpR
    rcases Nat.lt_trichotomy ((N + U) * (N + U)) a with h1 | h1 | h1
    · have g1 := m2.2 h1
      have g2 := b2.2 h1
      rw [if_neg (by grind), if_pos (by grind), if_neg (by grind), if_pos (by grind)]
    · have g1 := m1.2 (by omega)
      have g2 := mt m2.1 (by omega)
      have g3 := b1.2 (by omega)
      have g4 := mt b2.1 (by omega)
      rw [if_neg (by grind), if_neg (by grind), if_neg (by grind), if_neg (by grind)]
    · have g1 := mt m1.1 (by omega)
      have g2 := mt b1.1 (by omega)
      rw [if_pos (by grind), if_pos (by grind)]
end Go.Proofs.Ytkaooejeljdbnaa

/- Floats: Sqrt, Fma. -/
namespace Go.Proofs.Ytkaooejeljdbnaa
open Go
set_option linter.unusedVariables false
set_option linter.unusedSimpArgs false
set_option maxRecDepth 10000

theorem and1_i64 (z : Int) : ((BitVec.ofInt (IntKind.bits .i64) z &&& BitVec.ofInt (IntKind.bits .i64) 1).toNat : Int) = z % 2 := by
  have e : (BitVec.ofInt 64 z &&& BitVec.ofInt 64 1).toNat = (z % 2).toNat := by
    rw [BitVec.toNat_and, BitVec.toNat_ofInt, show (BitVec.ofInt 64 1).toNat = 1 by decide, low1]
    show (z % (18446744073709551616 : Int)).toNat % 2 = (z % 2).toNat
    omega
  show ((BitVec.ofInt 64 z &&& BitVec.ofInt 64 1).toNat : Int) = z % 2
  rw [e]; omega
theorem p2_natmul_k (m k : Nat) (e : Int) : (m : Rat) * p2 e = ((m * 2 ^ k : Nat) : Rat) * p2 (e - k) := by
  have := p2_natmul m (e := e) (f := e - k) (by omega)
  rwa [show (e - (e - (k : Int))).toNat = k by omega] at this
theorem tdiv2 (e : Int) : (e + e).tdiv 2 = e := by
  rw [show e + e = 2 * e by omega]; exact Int.mul_tdiv_cancel_left e (by decide)

theorem sqrt_walk {A r k : Nat} {e' : Int} (f : Nat) (hf : f < 9218868437227405312) (hm : fsig (mag f) ≠ 0) (hk : 132 ≤ k ∧ k ≤ 133) (he : fexp (mag f) - k = e' + e') (hA : A = fsig (mag f) * 2 ^ k) (hr : IsSq A r) (mode : Int) :
    CallP Try.prog 142 [numP false r e' (decide (r * r ≠ A)), .int .i64 mode] (fpair (sqrtQ ((A : Rat) * p2 (e' + e')) mode)) [] ∧ A ≠ 0 ∧ bitLen A ≤ 200 := by
  have hp66 : (0 : Nat) < 2 ^ 66 := by decide
  have hp132 : (0 : Nat) < 2 ^ 132 := by decide
  have hA1 : 2 ^ 132 ≤ A := by
    rw [hA]
    have h1 : 2 ^ 132 ≤ 2 ^ k := Nat.pow_le_pow_right (by omega) hk.1
    have h2 : 1 * 2 ^ k ≤ fsig (mag f) * 2 ^ k := Nat.mul_le_mul_right _ (by omega)
    omega
  have hA2 : bitLen A ≤ 200 := by rw [hA]; have := bits_shl (fsig (mag f)) k; have := fsig_bits (mag f); omega
  have hr1 : 2 ^ 66 ≤ r := hr.le.1 (by rw [show 2 ^ 66 * 2 ^ 66 = 2 ^ 132 by decide]; exact hA1)
  have hbr : 54 ≤ bitLen r := by
    rcases Nat.lt_or_ge (bitLen r) 54 with h | h
    · have h1 := bitLen_lt r
      have h2 : 2 ^ bitLen r ≤ 2 ^ 66 := Nat.pow_le_pow_right (by omega) (by omega)
      omega
    · exact h
  have hr2 : bitLen r ≤ 200 := by
    have h1 : r ≤ A := by
      have := hr.1
      have h2 : r * 1 ≤ r * r := Nat.mul_le_mul_left _ (by omega)
      omega
    have := bitLen_mono h1
    omega
  have e1 := fexp_le (mag_lt f)
  have e2 := fexp_ge (mag f)
  refine ⟨?_, by omega, hA2⟩
  have hg := p2_pos e'
  have hth : 0 ≤ theta A r ∧ theta A r < 1 := by unfold theta; split <;> constructor <;> grind
  have := round_ok false r e' (decide (r * r ≠ A)) mode (X := ((r : Rat) + theta A r) * p2 e') (by omega) (by omega) (by omega)
    (mul_le_q (by grind) hg) (mul_lt_q (by grind) hg) (by
      unfold theta
      by_cases h : r * r = A
      · rw [if_pos h, decide_eq_false (fun h2 => h2 h), decide_eq_false (by simp; grind)]
      · rw [if_neg h, decide_eq_true h]
        symm
        refine decide_eq_true ?_
        grind) (fun _ => hbr)
  rw [sq_cut hr hbr mode] at this
  exact this

/-- A product and something more. -/
noncomputable def fmaF (a b c : Nat) (mode : Int) : Nat × Int :=
  if isNan a || (isNan b || isNan c) then (9221120237041090560, 0) else if (isInf a || isInf b) && (isZ a || isZ b) then (9221120237041090560, 16)
  else if isInf a || isInf b then (if isInf c && ((ngt a != ngt b) != ngt c) then (9221120237041090560, 16) else (sg (ngt a != ngt b) 9218868437227405312, 0))
  else if isInf c then (c, 0) else sumF (fvq a * fvq b) (ngt a != ngt b) (fvq c) (ngt c) mode
end Go.Proofs.Ytkaooejeljdbnaa
