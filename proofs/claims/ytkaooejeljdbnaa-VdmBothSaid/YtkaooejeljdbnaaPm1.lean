/- Polynomials: values, roots, Newton's form. Plain mathematics. -/
import Derived.Test.YtkaooejeljdbnaaVw4
namespace Go.Proofs.Ytkaooejeljdbnaa
set_option linter.unusedVariables false

/-- The value of the polynomial with coefficients c 0 .. c n. -/
def pev : Nat → (Nat → Rat) → Rat → Rat
  | 0, c, _ => c 0
  | n + 1, c, X => c 0 + X * pev n (fun i => c (i + 1)) X
theorem pev_congr : ∀ (n : Nat) {c d : Nat → Rat} (X : Rat), (∀ i, i ≤ n → c i = d i) → pev n c X = pev n d X := by
  intro n
  induction n with
  | zero => intro c d X h; exact h 0 (Nat.le_refl _)
  | succ n ih => intro c d X h; simp only [pev]; rw [h 0 (Nat.zero_le _), ih X fun i hi => h (i + 1) (by omega)]
theorem pev_sub : ∀ (n : Nat) (c d : Nat → Rat) (X : Rat), pev n (fun i => c i - d i) X = pev n c X - pev n d X := by
  intro n
  induction n with
  | zero => intro c d X; rfl
  | succ n ih => intro c d X; simp only [pev]; rw [ih]; grind
theorem pev_add : ∀ (n : Nat) (c d : Nat → Rat) (X : Rat), pev n (fun i => c i + d i) X = pev n c X + pev n d X := by
  intro n
  induction n with
  | zero => intro c d X; rfl
  | succ n ih => intro c d X; simp only [pev]; rw [ih]; grind
theorem pev_smul : ∀ (n : Nat) (a : Rat) (c : Nat → Rat) (X : Rat), pev n (fun i => a * c i) X = a * pev n c X := by
  intro n
  induction n with
  | zero => intro a c X; rfl
  | succ n ih => intro a c X; simp only [pev]; rw [ih]; grind
/-- One coefficient more, nought. -/
theorem pev_zero_top : ∀ (n : Nat) (c : Nat → Rat) (X : Rat), c (n + 1) = 0 → pev (n + 1) c X = pev n c X := by
  intro n
  induction n with
  | zero => intro c X h; simp only [pev]; rw [h]; grind
  | succ n ih =>
    intro c X h
    rw [pev, ih (fun i => c (i + 1)) X h]
    rfl
/-- A factor taken in: v i = u i - r u (i + 1), the last as it is. -/
theorem pev_step (r X : Rat) : ∀ (m : Nat) (u v : Nat → Rat), (∀ i, i ≤ m → v i = u i - r * u (i + 1)) → v (m + 1) = u (m + 1) → pev (m + 1) v X = u 0 + (X - r) * pev m (fun i => u (i + 1)) X := by
  intro m
  induction m with
  | zero =>
    intro u v h1 h2
    simp only [pev]
    rw [h1 0 (Nat.le_refl _), h2]
    grind
  | succ m ih =>
    intro u v h1 h2
    rw [pev, ih (fun i => u (i + 1)) (fun i => v (i + 1)) (fun i hi => h1 (i + 1) (by omega)) h2, h1 0 (Nat.zero_le _)]
    simp only [pev]
    grind
/-- Division by a factor. -/
theorem pev_div (r X : Rat) : ∀ (k : Nat) (c : Nat → Rat), pev (k + 1) c X - pev (k + 1) c r = (X - r) * pev k (fun i => pev (k - i) (fun j => c (i + 1 + j)) r) X := by
  intro k
  induction k with
  | zero =>
    intro c
    show c 0 + X * c 1 - (c 0 + r * c 1) = (X - r) * c 1
    grind
  | succ k ih =>
    intro c
    have h := ih (fun i => c (i + 1))
    have e1 : ∀ Y, pev (k + 1 + 1) c Y = c 0 + Y * pev (k + 1) (fun i => c (i + 1)) Y := fun Y => rfl
    have e3 : pev (k + 1) (fun i => pev (k + 1 - i) (fun j => c (i + 1 + j)) r) X = pev (k + 1 - 0) (fun j => c (0 + 1 + j)) r + X * pev k (fun i => pev (k + 1 - (i + 1)) (fun j => c (i + 1 + 1 + j)) r) X := rfl
    have e : pev k (fun i => pev (k + 1 - (i + 1)) (fun j => c (i + 1 + 1 + j)) r) X = pev k (fun i => pev (k - i) (fun j => c (i + 1 + j + 1)) r) X := pev_congr k X fun i hi => by
      show pev (k + 1 - (i + 1)) _ r = _
      rw [show k + 1 - (i + 1) = k - i by omega]
      exact pev_congr _ _ fun j _ => by show c (i + 1 + 1 + j) = c (i + 1 + j + 1); congr 1; omega
    have e0 : pev (k + 1 - 0) (fun j => c (0 + 1 + j)) r = pev (k + 1) (fun i => c (i + 1)) r := pev_congr _ _ fun j _ => by show c (0 + 1 + j) = c (j + 1); congr 1; omega
    rw [e1, e1, e3, e, e0]
    grind
/-- The product of X - r l, l < k. -/
def pr (r : Nat → Rat) (X : Rat) : Nat → Rat
  | 0 => 1
  | k + 1 => pr r X k * (X - r k)
theorem pr_zero {r : Nat → Rat} {X : Rat} : ∀ {k l : Nat}, l < k → X = r l → pr r X k = 0 := by
  intro k
  induction k with
  | zero => intro l h; omega
  | succ k ih =>
    intro l h e
    rw [pr]
    by_cases h1 : l = k
    · subst h1; rw [e]; grind
    · rw [ih (by omega) e]; grind
theorem pr_ne {r : Nat → Rat} {X : Rat} : ∀ {k : Nat}, (∀ l, l < k → X ≠ r l) → pr r X k ≠ 0 := by
  intro k
  induction k with
  | zero => intro _; rw [pr]; decide
  | succ k ih =>
    intro h
    rw [pr]
    have h1 := ih fun l hl => h l (by omega)
    have h2 := h k (Nat.lt_succ_self k)
    intro e
    rcases Rat.mul_eq_zero.1 e with e | e
    · exact h1 e
    · exact h2 (by grind)
def Inj (r : Nat → Rat) (k : Nat) : Prop := ∀ i j, i < k → j < k → r i = r j → i = j
theorem Inj.mono {r : Nat → Rat} {j k : Nat} (h : Inj r k) (hj : j ≤ k) : Inj r j := fun a b ha hb => h a b (by omega) (by omega)
/-- So many roots as the degree. -/
theorem pev_roots (X : Rat) : ∀ (k : Nat) (c r : Nat → Rat), Inj r k → (∀ l, l < k → pev k c (r l) = 0) → pev k c X = c k * pr r X k := by
  intro k
  induction k with
  | zero => intro c r _ _; simp only [pev, pr]; grind
  | succ k ih =>
    intro c r hi hz
    have hk := hz k (Nat.lt_succ_self k)
    have hq : ∀ Y, pev (k + 1) c Y = (Y - r k) * pev k (fun i => pev (k - i) (fun j => c (i + 1 + j)) (r k)) Y := fun Y => by
      have := pev_div (r k) Y k c
      rw [hk] at this
      grind
    have hz' : ∀ l, l < k → pev k (fun i => pev (k - i) (fun j => c (i + 1 + j)) (r k)) (r l) = 0 := fun l hl => by
      have h1 := hz l (by omega)
      rw [hq] at h1
      rcases Rat.mul_eq_zero.1 h1 with e | e
      · have : r l = r k := by grind
        have := hi l k (by omega) (by omega) this
        omega
      · exact e
    have := ih _ r (hi.mono (by omega)) hz'
    rw [hq, this, pr]
    have e : pev (k - k) (fun j => c (k + 1 + j)) (r k) = c (k + 1) := by rw [Nat.sub_self]; rfl
    simp only [e]
    grind
/-- One root more: nought. -/
theorem pev_unique : ∀ (k : Nat) (c r : Nat → Rat), Inj r (k + 1) → (∀ l, l < k + 1 → pev k c (r l) = 0) → ∀ i, i ≤ k → c i = 0 := by
  intro k
  induction k with
  | zero =>
    intro c r _ hz i hi
    have := hz 0 (by omega)
    rw [show i = 0 by omega]; exact this
  | succ k ih =>
    intro c r hi hz
    have hroots := pev_roots (r (k + 1)) (k + 1) c r (hi.mono (by omega)) fun l hl => hz l (by omega)
    rw [hz (k + 1) (by omega)] at hroots
    have hne : pr r (r (k + 1)) (k + 1) ≠ 0 := pr_ne fun l hl e => by have := hi (k + 1) l (by omega) (by omega) e; omega
    have htop : c (k + 1) = 0 := by
      rcases Rat.mul_eq_zero.1 hroots.symm with e | e
      · exact e
      · exact (hne e).elim
    have hlow := ih c r (hi.mono (by omega)) fun l hl => by rw [← pev_zero_top k c _ htop]; exact hz l (by omega)
    intro i hle
    by_cases e : i = k + 1
    · rw [e]; exact htop
    · exact hlow i (by omega)
theorem pev_eq {k : Nat} {c d r : Nat → Rat} (hi : Inj r (k + 1)) (h : ∀ l, l < k + 1 → pev k c (r l) = pev k d (r l)) : ∀ i, i ≤ k → c i = d i := fun i hk => by
  have := pev_unique k (fun i => c i - d i) r hi (fun l hl => by rw [pev_sub, h l hl]; grind) i hk
  grind

/-- A polynomial of degree at most k, with the coefficient a there. -/
def Pol (k : Nat) (a : Rat) (g : Rat → Rat) : Prop := ∃ c : Nat → Rat, c k = a ∧ ∀ X, pev k c X = g X
theorem Pol.sub {k : Nat} {a b : Rat} {g h : Rat → Rat} (hg : Pol k a g) (hh : Pol k b h) : Pol k (a - b) (fun X => g X - h X) := by
  obtain ⟨c, h1, h2⟩ := hg
  obtain ⟨d, h3, h4⟩ := hh
  exact ⟨fun i => c i - d i, by show c k - d k = a - b; rw [h1, h3], fun X => by rw [pev_sub, h2, h4]⟩
theorem Pol.addTop {k : Nat} {a b : Rat} {g h : Rat → Rat} (hg : Pol k a g) (hh : Pol (k + 1) b h) : Pol (k + 1) b (fun X => g X + h X) := by
  obtain ⟨c, h1, h2⟩ := hg
  obtain ⟨d, h3, h4⟩ := hh
  refine ⟨fun i => (if i ≤ k then c i else 0) + d i, by show (if k + 1 ≤ k then c (k + 1) else 0) + d (k + 1) = b; rw [if_neg (by omega), h3]; grind, fun X => ?_⟩
  rw [pev_add, h4, pev_zero_top k _ X (if_neg (by omega)), pev_congr k (d := c) X fun i hi => if_pos hi, h2]
theorem Pol.mulX {k : Nat} {a : Rat} {g : Rat → Rat} (hg : Pol k a g) (r : Rat) : Pol (k + 1) a (fun X => g X * (X - r)) := by
  obtain ⟨c, h1, h2⟩ := hg
  obtain ⟨u, hu⟩ : ∃ u : Nat → Rat, u = fun i => match i with | 0 => 0 | i + 1 => c i := ⟨_, rfl⟩
  refine ⟨fun i => if i ≤ k then u i - r * u (i + 1) else u i, ?_, fun X => ?_⟩
  · show (if k + 1 ≤ k then _ else u (k + 1)) = a
    rw [if_neg (by omega), hu]; exact h1
  · rw [pev_step r X k u _ (fun i hi => if_pos hi) (if_neg (by omega)), hu]
    show 0 + (X - r) * pev k (fun i => c i) X = _
    rw [show pev k (fun i => c i) X = g X from h2 X]
    grind
theorem Pol.smul {k : Nat} {a : Rat} {g : Rat → Rat} (hg : Pol k a g) (b : Rat) : Pol k (b * a) (fun X => b * g X) := by
  obtain ⟨c, h1, h2⟩ := hg
  exact ⟨fun i => b * c i, by show b * c k = b * a; rw [h1], fun X => by rw [pev_smul, h2]⟩
theorem Pol.pr (r : Nat → Rat) : ∀ k, Pol k 1 (fun X => pr r X k) := by
  intro k
  induction k with
  | zero => exact ⟨fun _ => 1, rfl, fun X => rfl⟩
  | succ k ih => exact ih.mulX (r k)
/-- Newton's form. -/
def nf (x c : Nat → Rat) (X : Rat) : Nat → Rat
  | 0 => c 0
  | m + 1 => nf x c X m + c (m + 1) * pr x X (m + 1)
theorem Pol.nf (x c : Nat → Rat) : ∀ k, Pol k (c k) (fun X => nf x c X k) := by
  intro k
  induction k with
  | zero => exact ⟨fun _ => c 0, rfl, fun X => rfl⟩
  | succ k ih =>
    have h := (Pol.pr x (k + 1)).smul (c (k + 1))
    rw [show c (k + 1) * 1 = c (k + 1) by grind] at h
    exact ih.addTop h
theorem nf_congr {x y c d : Nat → Rat} {X : Rat} : ∀ {k : Nat}, (∀ i, i ≤ k → x i = y i) → (∀ i, i ≤ k → c i = d i) → nf x c X k = nf y d X k := by
  have hp : ∀ {k : Nat}, (∀ i, i < k → x i = y i) → pr x X k = pr y X k := by
    intro k
    induction k with
    | zero => intro _; rfl
    | succ k ih => intro h; rw [pr, pr, ih fun i hi => h i (by omega), h k (Nat.lt_succ_self k)]
  intro k
  induction k with
  | zero => intro _ h; exact h 0 (Nat.le_refl _)
  | succ k ih => intro h1 h2; rw [nf, nf, ih (fun i hi => h1 i (by omega)) (fun i hi => h2 i (by omega)), hp fun i hi => h1 i (by omega), h2 (k + 1) (Nat.le_refl _)]
theorem Pol.roots {k : Nat} {a : Rat} {g : Rat → Rat} (h : Pol k a g) {r : Nat → Rat} (hi : Inj r k) (hz : ∀ l, l < k → g (r l) = 0) (X : Rat) : g X = a * Go.Proofs.Ytkaooejeljdbnaa.pr r X k := by
  obtain ⟨c, h1, h2⟩ := h
  rw [← h2, ← h1]
  exact pev_roots X k c r hi fun l hl => by rw [h2]; exact hz l hl
end Go.Proofs.Ytkaooejeljdbnaa
