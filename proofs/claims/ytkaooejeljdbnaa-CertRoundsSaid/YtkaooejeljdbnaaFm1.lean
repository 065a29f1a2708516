/- Floats as codes: what a code tells, their order, and what rounding takes. -/
import Derived.Test.YtkaooejeljdbnaaQa
namespace Go.Proofs.Ytkaooejeljdbnaa
open Go
set_option linter.unusedVariables false
set_option linter.unusedSimpArgs false
set_option maxRecDepth 10000

/-! #### powers of two -/
def p2 (e : Int) : Rat := if 0 ≤ e then ((2 ^ e.toNat : Nat) : Rat) else 1 / ((2 ^ (-e).toNat : Nat) : Rat)
theorem p2_ofNat (k : Nat) : p2 (k : Int) = ((2 ^ k : Nat) : Rat) := by rw [p2, if_pos (by omega), Int.toNat_natCast]
theorem pow_posQ (k : Nat) : (0 : Rat) < ((2 ^ k : Nat) : Rat) := by
  have : 0 < 2 ^ k := Nat.two_pow_pos k
  exact_mod_cast this
theorem one_div_posQ {x : Rat} (h : 0 < x) : 0 < 1 / x := by
  have e : 1 / x * x = 1 := Rat.div_mul_cancel (by grind)
  rcases Rat.le_total (a := 1 / x) (b := 0) with h1 | h1
  · have := Rat.mul_nonneg (show 0 ≤ -(1 / x) by grind) (show 0 ≤ x by grind)
    grind
  · rcases Rat.le_iff_lt_or_eq.1 h1 with h2 | h2
    · exact h2
    · rw [← h2] at e; grind
theorem p2_pos (e : Int) : 0 < p2 e := by
  unfold p2; split
  · exact pow_posQ _
  · exact one_div_posQ (pow_posQ _)
theorem p2_neg (k : Nat) : p2 (-(k : Int)) = 1 / ((2 ^ k : Nat) : Rat) := by
  unfold p2
  split
  · have : k = 0 := by omega
    subst this; simp; grind
  · congr 3; omega
theorem p2_succ (e : Int) : p2 (e + 1) = 2 * p2 e := by
  rcases Int.lt_or_le e 0 with h | h
  · obtain ⟨k, hk⟩ : ∃ k : Nat, e = -((k + 1 : Nat) : Int) := ⟨(-e - 1).toNat, by omega⟩
    rw [hk, p2_neg, show -((k + 1 : Nat) : Int) + 1 = -(k : Int) by omega, p2_neg]
    have h1 := pow_posQ k
    have h2 : ((2 ^ (k + 1) : Nat) : Rat) = 2 * ((2 ^ k : Nat) : Rat) := by rw [Nat.pow_succ, Nat.mul_comm]; simp
    rw [h2]
    generalize ((2 ^ k : Nat) : Rat) = x at h1
    grind
  · obtain ⟨k, hk⟩ : ∃ k : Nat, e = (k : Int) := ⟨e.toNat, by omega⟩
    rw [hk, p2_ofNat, show (k : Int) + 1 = ((k + 1 : Nat) : Int) by omega, p2_ofNat, Nat.pow_succ, Nat.mul_comm]
    simp
theorem p2_add_nat (e : Int) (k : Nat) : p2 (e + k) = p2 e * ((2 ^ k : Nat) : Rat) := by
  induction k with
  | zero => simp
  | succ k ih =>
    rw [show e + ((k + 1 : Nat) : Int) = e + k + 1 by omega, p2_succ, ih, Nat.pow_succ]
    simp
    grind
theorem p2_zero : p2 0 = 1 := by have := p2_ofNat 0; simpa using this
theorem p2_add (a b : Int) : p2 (a + b) = p2 a * p2 b := by
  rcases Int.lt_or_le b 0 with h | h
  · obtain ⟨k, hk⟩ : ∃ k : Nat, b = -(k : Int) := ⟨(-b).toNat, by omega⟩
    have h1 := p2_add_nat (a + b) k
    have h2 := p2_add_nat b k
    rw [show a + b + (k : Int) = a by omega] at h1
    rw [show b + (k : Int) = 0 by omega, p2_zero] at h2
    have := pow_posQ k
    rw [h1]
    generalize ((2 ^ k : Nat) : Rat) = x at *
    grind
  · obtain ⟨k, hk⟩ : ∃ k : Nat, b = (k : Int) := ⟨b.toNat, by omega⟩
    rw [hk, p2_add_nat, p2_ofNat]
theorem p2_split {a b : Int} (h : b ≤ a) : p2 a = p2 b * ((2 ^ (a - b).toNat : Nat) : Rat) := by
  have := p2_add_nat b (a - b).toNat
  rwa [show b + ((a - b).toNat : Int) = a by omega] at this

theorem natq_le {a b : Nat} : (a : Rat) ≤ (b : Rat) ↔ a ≤ b := by exact_mod_cast Iff.rfl
theorem natq_lt {a b : Nat} : (a : Rat) < (b : Rat) ↔ a < b := by exact_mod_cast Iff.rfl
theorem natq_eq {a b : Nat} : (a : Rat) = (b : Rat) ↔ a = b := by exact_mod_cast Iff.rfl
theorem mul_le_q {a b c : Rat} (h : a ≤ b) (hc : 0 < c) : a * c ≤ b * c := by
  have := Rat.mul_nonneg (show 0 ≤ b - a by grind) (show 0 ≤ c by grind)
  grind
theorem mul_pos_q {a b : Rat} (h : 0 < a) (hc : 0 < b) : 0 < a * b := Rat.mul_pos h hc
theorem mul_lt_q {a b c : Rat} (h : a < b) (hc : 0 < c) : a * c < b * c := by
  have := Rat.mul_pos (show 0 < b - a by grind) hc
  grind
theorem p2_mono {a b : Int} (h : a ≤ b) : p2 a ≤ p2 b := by
  rw [p2_split h]
  have h1 : (1 : Rat) ≤ ((2 ^ (b - a).toNat : Nat) : Rat) := by
    have := Nat.two_pow_pos (b - a).toNat
    exact_mod_cast this
  have := mul_le_q h1 (p2_pos a)
  grind

/-! #### codes -/
/-- A code's whole number. -/
def fsig (c : Nat) : Nat := if c < 4503599627370496 then c else c % 4503599627370496 + 4503599627370496
/-- A code's power of two. -/
def fexp (c : Nat) : Int := if c < 4503599627370496 then -1074 else ((c / 4503599627370496 : Nat) : Int) - 1075
/-- What a code tells. -/
def fval (c : Nat) : Rat := (fsig c : Rat) * p2 (fexp c)

theorem fval_succ (c : Nat) : fval (c + 1) = fval c + p2 (fexp c) := by
  unfold fval fsig fexp
  rcases Nat.lt_or_ge (c + 1) 4503599627370496 with h | h
  · rw [if_pos h, if_pos h, if_pos (by omega), if_pos (by omega)]
    simp; grind
  · rcases Nat.lt_or_ge c 4503599627370496 with h0 | h0
    · have : c = 4503599627370495 := by omega
      subst this
      rw [if_neg (by omega), if_neg (by omega), if_pos (by omega), if_pos (by omega)]
      have : ((4503599627370496 : Nat) : Rat) = ((4503599627370495 : Nat) : Rat) + 1 := by exact_mod_cast (rfl : (4503599627370496 : Nat) = 4503599627370495 + 1)
      show ((4503599627370496 : Nat) : Rat) * p2 (-1074) = _
      rw [this]; grind
    · rw [if_neg (by omega), if_neg (by omega), if_neg (by omega), if_neg (by omega)]
      rcases Nat.lt_or_ge (c % 4503599627370496 + 1) 4503599627370496 with h1 | h1
      · have e1 : (c + 1) / 4503599627370496 = c / 4503599627370496 := by omega
        have e2 : (c + 1) % 4503599627370496 + 4503599627370496 = (c % 4503599627370496 + 4503599627370496) + 1 := by omega
        rw [e1, e2]
        obtain ⟨x, hx⟩ : ∃ x, x = c % 4503599627370496 + 4503599627370496 := ⟨_, rfl⟩
        rw [← hx]
        simp; grind
      · have e1 : (c + 1) / 4503599627370496 = c / 4503599627370496 + 1 := by omega
        have e2 : (c + 1) % 4503599627370496 = 0 := by omega
        have e3 : c % 4503599627370496 = 4503599627370495 := by omega
        rw [e1, e2, e3, show (((c / 4503599627370496 + 1 : Nat) : Int) - 1075) = ((c / 4503599627370496 : Nat) : Int) - 1075 + 1 by omega, p2_succ]
        show ((4503599627370496 : Nat) : Rat) * _ = ((9007199254740991 : Nat) : Rat) * _ + _
        have : 2 * ((4503599627370496 : Nat) : Rat) = ((9007199254740991 : Nat) : Rat) + 1 := by exact_mod_cast (rfl : 2 * (4503599627370496 : Nat) = 9007199254740991 + 1)
        grind
theorem fval_zero : fval 0 = 0 := by simp [fval, fsig]
theorem fval_lt_succ (c : Nat) : fval c < fval (c + 1) := by rw [fval_succ]; have := p2_pos (fexp c); grind
theorem fval_add_lt (a k : Nat) : fval a < fval (a + k + 1) := by
  induction k with
  | zero => exact fval_lt_succ a
  | succ k ih => have := fval_lt_succ (a + k + 1); show _ < fval (a + k + 1 + 1); grind
theorem fval_lt {a b : Nat} : fval a < fval b ↔ a < b := by
  have key : ∀ {a b : Nat}, a < b → fval a < fval b := fun {a b} h => by
    obtain ⟨k, hk⟩ : ∃ k, b = a + k + 1 := ⟨b - a - 1, by omega⟩
    rw [hk]; exact fval_add_lt a k
  refine ⟨fun h => ?_, key⟩
  rcases Nat.lt_trichotomy a b with h1 | h1 | h1
  · exact h1
  · subst h1; grind
  · have := key h1; grind
theorem fval_le {a b : Nat} : fval a ≤ fval b ↔ a ≤ b := by
  rw [← Rat.not_lt, fval_lt]; omega
theorem fval_inj {a b : Nat} : fval a = fval b ↔ a = b := by
  refine ⟨fun h => ?_, fun h => by rw [h]⟩
  have h1 := fval_le.1 (show fval a ≤ fval b by rw [h]; exact Rat.le_refl)
  have h2 := fval_le.1 (show fval b ≤ fval a by rw [h]; exact Rat.le_refl)
  omega
theorem fval_pos {c : Nat} : 0 < fval c ↔ 0 < c := by rw [← fval_zero, fval_lt]
theorem fval_nonneg (c : Nat) : 0 ≤ fval c := by rw [← fval_zero, fval_le]; omega
theorem fval_code {v t : Nat} (h : v < 9007199254740992) (h2 : 4503599627370496 ≤ v ∨ t = 0) : fval (v + t * 4503599627370496) = (v : Rat) * p2 ((t : Int) - 1074) ∧ fexp (v + t * 4503599627370496) = (t : Int) - 1074 := by
  unfold fval fsig fexp
  rcases Nat.lt_or_ge v 4503599627370496 with h0 | h0
  · have ht : t = 0 := by omega
    subst ht
    rw [if_pos (by omega), if_pos (by omega)]
    simp
  · have e1 : (v + t * 4503599627370496) / 4503599627370496 = t + 1 := by omega
    have e2 : (v + t * 4503599627370496) % 4503599627370496 + 4503599627370496 = v := by omega
    rw [if_neg (by omega), if_neg (by omega), e1, e2, show ((t + 1 : Nat) : Int) - 1075 = (t : Int) - 1074 by omega]
    exact ⟨rfl, rfl⟩
theorem fexp_ge (c : Nat) : -1074 ≤ fexp c := by unfold fexp; split <;> omega

/-! #### the greatest code no greater than a number -/
def IsCd (X : Rat) (c : Nat) : Prop := fval c ≤ X ∧ X < fval (c + 1)
theorem IsCd.uniq {X : Rat} {a b : Nat} (ha : IsCd X a) (hb : IsCd X b) : a = b := by
  have h1 : fval a < fval (b + 1) := by have := ha.1; have := hb.2; grind
  have h2 : fval b < fval (a + 1) := by have := hb.1; have := ha.2; grind
  rw [fval_lt] at h1 h2
  omega
theorem fval_grow (c : Nat) : (c : Rat) * p2 (-1074) ≤ fval c := by
  induction c with
  | zero => rw [fval_zero]; simp
  | succ c ih =>
    rw [fval_succ]
    have := p2_mono (fexp_ge c)
    simp; grind
theorem find_step (p : Nat → Prop) (h0 : p 0) : ∀ n, ¬ p n → ∃ c, p c ∧ ¬ p (c + 1) := by
  intro n
  induction n with
  | zero => intro h; exact absurd h0 h
  | succ n ih =>
    intro h
    by_cases hn : p n
    · exact ⟨n, hn, h⟩
    · exact ih hn
theorem exists_cd {X : Rat} (h : 0 ≤ X) : ∃ c, IsCd X c := by
  obtain ⟨E, hE⟩ : ∃ E : Nat, E = 1074 := ⟨_, rfl⟩
  obtain ⟨c, h1, h2⟩ := find_step (fun c => fval c ≤ X) (by show fval 0 ≤ X; rw [fval_zero]; exact h) ((X.num.natAbs + 1) * 2 ^ E) (by
    intro hle
    have hle : fval ((X.num.natAbs + 1) * 2 ^ E) ≤ X := hle
    have h1 := fval_grow ((X.num.natAbs + 1) * 2 ^ E)
    have h2 : p2 (-1074) = 1 / ((2 ^ E : Nat) : Rat) := by rw [← p2_neg E, hE]; rfl
    have h3 := pow_posQ E
    have h4 : (((X.num.natAbs + 1) * 2 ^ E : Nat) : Rat) * p2 (-1074) = ((X.num.natAbs + 1 : Nat) : Rat) := by
      rw [h2, Rat.natCast_mul]
      generalize ((2 ^ E : Nat) : Rat) = x at h3
      generalize ((X.num.natAbs + 1 : Nat) : Rat) = y
      grind
    rw [h4] at h1
    have h5 : X ≤ ((X.num.natAbs : Nat) : Rat) := by
      have e : (X.num : Rat) / ((X.den : Int) : Rat) = X := by rw [← Rat.divInt_eq_div]; exact Rat.num_divInt_den X
      have hd0 : ((X.den : Int) : Rat) = (X.den : Rat) := rfl
      rw [hd0] at e
      have hd : (1 : Rat) ≤ (X.den : Rat) := by have := X.den_pos; exact_mod_cast this
      have h6 := Rat.mul_nonneg h (show 0 ≤ (X.den : Rat) - 1 by grind)
      have h7 : (X.num : Rat) ≤ ((X.num.natAbs : Nat) : Rat) := by
        have : X.num ≤ (X.num.natAbs : Int) := by omega
        have h8 : ((X.num : Int) : Rat) ≤ (((X.num.natAbs : Nat) : Int) : Rat) := by exact_mod_cast this
        exact h8
      have hn : (X.num : Rat) = X * (X.den : Rat) := by
        have := Rat.div_mul_cancel (a := (X.num : Rat)) (b := (X.den : Rat)) (by grind)
        rw [e] at this; exact this.symm
      rw [hn] at h7
      generalize ((X.num.natAbs : Nat) : Rat) = y at h7 ⊢
      grind
    rw [Rat.natCast_add] at h1
    grind)
  exact ⟨c, h1, Rat.not_le.1 h2⟩
open Classical in
noncomputable def cd (X : Rat) : Nat := if h : ∃ c, IsCd X c then h.choose else 0
theorem cd_eq {X : Rat} {c : Nat} (h : IsCd X c) : cd X = c := by
  unfold cd
  have h1 : ∃ c, IsCd X c := ⟨c, h⟩
  rw [dif_pos h1]
  exact h1.choose_spec.uniq h
theorem cd_is {X : Rat} (h : 0 ≤ X) : IsCd X (cd X) := by
  obtain ⟨c, hc⟩ := exists_cd h
  rw [cd_eq hc]; exact hc
theorem cd_fval (c : Nat) : cd (fval c) = c := cd_eq ⟨Rat.le_refl, fval_lt_succ c⟩

/-! #### rounding -/
def cmpR (a b : Rat) : Int := if a < b then -1 else if b < a then 1 else 0
/-- A code with a sign. -/
def sg (neg : Bool) (c : Nat) : Nat := if neg then c + 9223372036854775808 else c
def goUp (mode : Int) (neg sm odd : Bool) (half : Int) : Bool :=
  if mode = 1 then false else if mode = 2 then neg && sm else if mode = 3 then !neg && sm else if mode = 4 then decide (0 ≤ half) else decide (0 < half) || (decide (half = 0) && odd)
/-- What stands for what is beyond all floats. -/
def lim (neg : Bool) (mode : Int) : Nat := if mode = 1 ∨ (mode = 2 ∧ neg = false) ∨ (mode = 3 ∧ neg = true) then 9218868437227405311 else 9218868437227405312
def upc (neg : Bool) (c : Nat) (sm : Bool) (half mode : Int) : Nat := if goUp mode neg sm (decide (c % 2 = 1)) half then c + 1 else c
def out (neg : Bool) (c : Nat) (sm : Bool) (half mode : Int) : Nat × Int :=
  if 9218868437227405312 ≤ upc neg c sm half mode then (sg neg (lim neg mode), 5) else (sg neg (upc neg c sm half mode), if sm then (if c < 4503599627370496 then 3 else 1) else 0)
noncomputable def rndQ (neg : Bool) (X : Rat) (mode : Int) : Nat × Int := out neg (cd X) (decide (fval (cd X) ≠ X)) (cmpR (2 * X) (fval (cd X) + fval (cd X + 1))) mode

/-- A number between two neighbouring wholes, as rounding sees it. -/
structure Cut (X : Rat) (c : Nat) (sm : Bool) (half : Int) : Prop where
  cd : IsCd X c
  sm : sm = decide (fval c ≠ X)
  half : half = cmpR (2 * X) (fval c + fval (c + 1))
theorem Cut.out {X : Rat} {c : Nat} {sm : Bool} {half : Int} (h : Cut X c sm half) (neg : Bool) (mode : Int) : out neg c sm half mode = rndQ neg X mode := by
  rw [rndQ, cd_eq h.cd, ← h.sm, ← h.half]

theorem cut_mid {v t : Nat} {X : Rat} (hv : v < 9007199254740992) (h2 : 4503599627370496 ≤ v ∨ t = 0) (h3 : (v : Rat) * p2 ((t : Int) - 1074) ≤ X) (h4 : X < ((v : Rat) + 1) * p2 ((t : Int) - 1074)) :
    Cut X (v + t * 4503599627370496) (decide ((v : Rat) * p2 ((t : Int) - 1074) ≠ X)) (cmpR (2 * X) ((2 * (v : Rat) + 1) * p2 ((t : Int) - 1074))) := by
  obtain ⟨e1, e2⟩ := fval_code hv h2
  have e3 := fval_succ (v + t * 4503599627370496)
  rw [e2, e1] at e3
  refine ⟨⟨by rw [e1]; exact h3, by rw [e3]; grind⟩, by rw [e1], ?_⟩
  rw [e3, e1]
  congr 1
  grind
theorem cut_under {X : Rat} {c : Nat} (h : IsCd X c) : c < 4503599627370496 ↔ X < p2 (-1022) := by
  have e : fval 4503599627370496 = p2 (-1022) := by
    have := (fval_code (v := 4503599627370496) (t := 0) (by omega) (.inl (by omega))).1
    rw [show 4503599627370496 + 0 * 4503599627370496 = 4503599627370496 by omega] at this
    rw [this, show ((0 : Nat) : Int) - 1074 = -1074 by omega]
    have h2 := p2_add_nat (-1074) 52
    rw [show (-1074 : Int) + ((52 : Nat) : Int) = -1022 by omega] at h2
    rw [h2, show 2 ^ 52 = 4503599627370496 by decide, Rat.mul_comm]
  rw [← e]
  constructor
  · intro h1
    have := fval_le.2 (show c + 1 ≤ 4503599627370496 by omega)
    have := h.2
    grind
  · intro h1
    have : fval c < fval 4503599627370496 := by have := h.1; grind
    exact fval_lt.1 this

/-- The power of two at which a number is cut off. -/
def ulpOf (m : Nat) (e : Int) : Int := max ((bitLen m : Int) - 1 + e - 52) (-1074)
theorem p2_natmul (a : Nat) {e f : Int} (h : f ≤ e) : (a : Rat) * p2 e = ((a * 2 ^ (e - f).toNat : Nat) : Rat) * p2 f := by
  rw [p2_split h, Rat.natCast_mul]; grind

/-- An exact number that has no more digits than a float. -/
theorem cut_exact {m : Nat} {e : Int} (hm : m ≠ 0) (hk : ulpOf m e ≤ e) : ∃ v t : Nat, v = m * 2 ^ (e - ulpOf m e).toNat ∧ ulpOf m e = (t : Int) - 1074 ∧ v < 9007199254740992 ∧ (4503599627370496 ≤ v ∨ t = 0) ∧
    Cut ((m : Rat) * p2 e) (v + t * 4503599627370496) false (-1) ∧ ((bitLen m : Int) - 1 + e < -1022 ↔ v + t * 4503599627370496 < 4503599627370496) := by
  obtain ⟨L, hL⟩ : ∃ L, L = bitLen m := ⟨_, rfl⟩
  have hl := bitLen_lt m
  have hp := bitLen_pos hm
  have hL0 : L ≠ 0 := by rw [hL]; exact mt bitLen_zero_iff.1 hm
  rw [← hL] at hl hp
  obtain ⟨A, hA⟩ : ∃ A, A = ulpOf m e := ⟨_, rfl⟩
  have hA' := hA
  rw [ulpOf, ← hL] at hA'
  rw [← hA] at hk ⊢
  rw [← hL]
  obtain ⟨k, hk'⟩ : ∃ k, k = (e - A).toNat := ⟨_, rfl⟩
  rw [← hk']
  have hv : m * 2 ^ k < 9007199254740992 := by
    have h1 : m * 2 ^ k < 2 ^ L * 2 ^ k := Nat.mul_lt_mul_of_pos_right hl (Nat.two_pow_pos k)
    rw [← Nat.pow_add] at h1
    have h2 : 2 ^ (L + k) ≤ 2 ^ 53 := Nat.pow_le_pow_right (by omega) (by omega)
    have h3 : 2 ^ 53 = 9007199254740992 := by decide
    omega
  have hv2 : 4503599627370496 ≤ m * 2 ^ k ∨ A = -1074 := by
    by_cases h : A = -1074
    · exact .inr h
    · left
      have h1 : 2 ^ (L - 1) * 2 ^ k ≤ m * 2 ^ k := Nat.mul_le_mul_right _ hp
      rw [← Nat.pow_add, show L - 1 + k = 52 by omega] at h1
      have h3 : 2 ^ 52 = 4503599627370496 := by decide
      omega
  have hX : (m : Rat) * p2 e = ((m * 2 ^ k : Nat) : Rat) * p2 A := by rw [hk']; exact p2_natmul m hk
  have ht : A = ((A + 1074).toNat : Int) - 1074 := by omega
  obtain ⟨t, ht'⟩ : ∃ t, t = (A + 1074).toNat := ⟨_, rfl⟩
  rw [← ht'] at ht
  have hp2 := p2_pos A
  have hc := cut_mid (v := m * 2 ^ k) (t := t) (X := (m : Rat) * p2 e) hv (by omega) (by rw [← ht, hX]; exact Rat.le_refl) (by rw [← ht, hX]; grind)
  rw [← ht, hX] at hc
  rw [decide_eq_false (by simp)] at hc
  rw [show cmpR (2 * (((m * 2 ^ k : Nat) : Rat) * p2 A)) ((2 * ((m * 2 ^ k : Nat) : Rat) + 1) * p2 A) = -1 by rw [cmpR, if_pos (by grind)]] at hc
  refine ⟨m * 2 ^ k, t, rfl, ht, hv, by omega, by rw [hX]; exact hc, ?_⟩
  constructor
  · intro h1
    have h2 : A = -1074 := by omega
    have ht0 : t = 0 := by omega
    subst ht0
    have h1 : m * 2 ^ k < 2 ^ L * 2 ^ k := Nat.mul_lt_mul_of_pos_right hl (Nat.two_pow_pos k)
    rw [← Nat.pow_add] at h1
    have h2 : 2 ^ (L + k) ≤ 2 ^ 52 := Nat.pow_le_pow_right (by omega) (by omega)
    have h3 : 2 ^ 52 = 4503599627370496 := by decide
    omega
  · intro h1
    rcases Int.lt_or_le ((L : Int) - 1 + e) (-1022) with h2 | h2
    · exact h2
    · exfalso
      have h3 : 2 ^ (L - 1) * 2 ^ k ≤ m * 2 ^ k := Nat.mul_le_mul_right _ hp
      rw [← Nat.pow_add, show L - 1 + k = 52 by omega] at h3
      have h4 : 2 ^ 52 = 4503599627370496 := by decide
      omega

/-- How the rest that is cut off stands to a half. -/
def halfOf (r k : Nat) (more : Bool) : Int := if cmpZ r (2 ^ (k - 1)) = 0 ∧ more = true then 1 else cmpZ r (2 ^ (k - 1))

theorem cut_more {m : Nat} {e : Int} {more : Bool} {X : Rat} (hm : m ≠ 0) (hk : e < ulpOf m e) (h1 : (m : Rat) * p2 e ≤ X) (h2 : X < ((m : Rat) + 1) * p2 e) (hmore : more = decide (X ≠ (m : Rat) * p2 e)) {k : Nat} (hk' : k = (ulpOf m e - e).toNat) :
    ∃ v t : Nat, v = m / 2 ^ k ∧ ulpOf m e = (t : Int) - 1074 ∧ v < 9007199254740992 ∧ (4503599627370496 ≤ v ∨ t = 0) ∧
    Cut X (v + t * 4503599627370496) (decide (m % 2 ^ k ≠ 0) || more) (halfOf (m % 2 ^ k) k more) ∧ ((bitLen m : Int) - 1 + e < -1022 ↔ v + t * 4503599627370496 < 4503599627370496) := by
  obtain ⟨L, hL⟩ : ∃ L, L = bitLen m := ⟨_, rfl⟩
  have hl := bitLen_lt m
  have hp := bitLen_pos hm
  have hL0 : L ≠ 0 := by rw [hL]; exact mt bitLen_zero_iff.1 hm
  rw [← hL] at hl hp
  obtain ⟨A, hA⟩ : ∃ A, A = ulpOf m e := ⟨_, rfl⟩
  have hA' := hA
  rw [ulpOf, ← hL] at hA'
  rw [← hA] at hk hk' ⊢
  rw [← hL]
  have hk0 : 0 < k := by omega
  obtain ⟨v, hv0⟩ : ∃ v, v = m / 2 ^ k := ⟨_, rfl⟩
  obtain ⟨r, hr0⟩ : ∃ r, r = m % 2 ^ k := ⟨_, rfl⟩
  have hdm : m = 2 ^ k * v + r := by rw [hv0, hr0]; exact (Nat.div_add_mod m (2 ^ k)).symm
  have hr : r < 2 ^ k := by rw [hr0]; exact Nat.mod_lt _ (Nat.two_pow_pos k)
  have hv : v < 9007199254740992 := by
    rw [hv0, Nat.div_lt_iff_lt_mul (Nat.two_pow_pos k)]
    have h2 : 2 ^ L ≤ 2 ^ (53 + k) := Nat.pow_le_pow_right (by omega) (by omega)
    rw [Nat.pow_add] at h2
    have h3 : 2 ^ 53 = 9007199254740992 := by decide
    rw [h3] at h2
    omega
  have hv2 : 4503599627370496 ≤ v ∨ A = -1074 := by
    by_cases h : A = -1074
    · exact .inr h
    · left
      rw [hv0, Nat.le_div_iff_mul_le (Nat.two_pow_pos k)]
      have h2 : 2 ^ (52 + k) ≤ 2 ^ (L - 1) := Nat.pow_le_pow_right (by omega) (by omega)
      rw [Nat.pow_add] at h2
      have h3 : 2 ^ 52 = 4503599627370496 := by decide
      rw [h3] at h2
      omega
  have ht : A = ((A + 1074).toNat : Int) - 1074 := by omega
  obtain ⟨t, ht'⟩ : ∃ t, t = (A + 1074).toNat := ⟨_, rfl⟩
  rw [← ht'] at ht
  have hpe := p2_pos e
  have hpA : p2 A = p2 e * ((2 ^ k : Nat) : Rat) := by rw [hk']; exact p2_split (by omega)
  have hmq : (m : Rat) = ((2 ^ k : Nat) : Rat) * (v : Rat) + (r : Rat) := by rw [← Rat.natCast_mul, ← Rat.natCast_add, ← hdm]
  have hrq : (r : Rat) + 1 ≤ ((2 ^ k : Nat) : Rat) := by
    have : r + 1 ≤ 2 ^ k := hr
    exact_mod_cast this
  have hr1 : (0 : Rat) ≤ (r : Rat) := by exact_mod_cast Nat.zero_le r
  have hv1 : (0 : Rat) ≤ (v : Rat) := by exact_mod_cast Nat.zero_le v
  -- where X lies
  have lo : (v : Rat) * p2 A ≤ X := by
    have := Rat.mul_nonneg hr1 (show 0 ≤ p2 e by grind)
    rw [hpA]; rw [hmq] at h1; grind
  have hi : X < ((v : Rat) + 1) * p2 A := by
    have := mul_le_q hrq hpe
    rw [hpA]; rw [hmq] at h2; grind
  have hc := cut_mid (v := v) (t := t) (X := X) hv (by omega) (by rw [← ht]; exact lo) (by rw [← ht]; exact hi)
  rw [← ht] at hc
  have hsm : decide ((v : Rat) * p2 A ≠ X) = (decide (r ≠ 0) || more) := by
    rw [hmore]
    by_cases hr00 : r = 0
    · subst hr00
      rw [decide_eq_false (show ¬ ((0 : Nat) ≠ 0) by omega), Bool.false_or]
      have : (m : Rat) * p2 e = (v : Rat) * p2 A := by rw [hpA, hmq]; simp; grind
      rw [this]
      by_cases hx : X = (v : Rat) * p2 A
      · rw [decide_eq_false (by simp [hx]), decide_eq_false (by simp [hx])]
      · rw [decide_eq_true (show (v : Rat) * p2 A ≠ X from fun h => hx h.symm), decide_eq_true (show X ≠ _ from hx)]
    · rw [decide_eq_true (show r ≠ 0 from hr00), Bool.true_or]
      have hr2 : (0 : Rat) < (r : Rat) := by
        have : 0 < r := by omega
        exact_mod_cast this
      have := mul_pos_q hr2 hpe
      exact decide_eq_true (by rw [hpA]; rw [hmq] at h1; grind)
  have hhf : cmpR (2 * X) ((2 * (v : Rat) + 1) * p2 A) = halfOf r k more := by
    obtain ⟨j, hj⟩ : ∃ j, k = j + 1 := ⟨k - 1, by omega⟩
    rw [halfOf, hj, show j + 1 - 1 = j by omega]
    have hk2 : ((2 ^ k : Nat) : Rat) = 2 * ((2 ^ j : Nat) : Rat) := by rw [hj, Nat.pow_succ, Nat.mul_comm]; simp
    rw [hk2] at hpA hmq
    obtain ⟨H, hH⟩ : ∃ H, H = 2 ^ j := ⟨_, rfl⟩
    rw [← hH] at hpA hmq ⊢
    rw [hpA]
    rcases Nat.lt_trichotomy r H with h | h | h
    · have hq : (r : Rat) + 1 ≤ (H : Rat) := by
        have : r + 1 ≤ H := h
        exact_mod_cast this
      have := mul_le_q hq hpe
      have hz : cmpZ r H = -1 := by rw [cmpZ, if_pos h]
      rw [hz, if_neg (by omega), cmpR, if_pos (by rw [hmq] at h2; grind)]
    · subst h
      have hz : cmpZ r r = 0 := by rw [cmpZ, if_neg (by omega), if_pos rfl]
      rw [hz]
      by_cases hx : X = (m : Rat) * p2 e
      · rw [hmore, decide_eq_false (by simp [hx]), if_neg (by simp), hx, hmq, cmpR, if_neg (by grind), if_neg (by grind)]
      · rw [hmore, decide_eq_true (show X ≠ _ from hx), if_pos ⟨rfl, rfl⟩]
        have h3 : (m : Rat) * p2 e < X := by
          rcases Rat.le_iff_lt_or_eq.1 h1 with h | h
          · exact h
          · exact absurd h.symm hx
        rw [hmq] at h3
        rw [cmpR, if_neg (by grind), if_pos (by grind)]
    · have hq : (H : Rat) + 1 ≤ (r : Rat) := by
        have : H + 1 ≤ r := h
        exact_mod_cast this
      have := mul_le_q hq hpe
      have hz : cmpZ r H = 1 := by rw [cmpZ, if_neg (by omega), if_neg (by omega)]
      rw [hz, if_neg (by omega), cmpR, if_neg (by rw [hmq] at h1; grind), if_pos (by rw [hmq] at h1; grind)]
  rw [hsm, hhf] at hc
  rw [← hv0, ← hr0]
  refine ⟨v, t, rfl, ht, hv, by omega, hc, ?_⟩
  constructor
  · intro h1
    have h2 : A = -1074 := by omega
    have ht0 : t = 0 := by omega
    subst ht0
    have : v < 4503599627370496 := by
      rw [hv0, Nat.div_lt_iff_lt_mul (Nat.two_pow_pos k)]
      have h2 : 2 ^ L ≤ 2 ^ (52 + k) := Nat.pow_le_pow_right (by omega) (by omega)
      rw [Nat.pow_add] at h2
      have h3 : 2 ^ 52 = 4503599627370496 := by decide
      rw [h3] at h2
      omega
    omega
  · intro h1
    rcases Int.lt_or_le ((L : Int) - 1 + e) (-1022) with h2 | h2
    · exact h2
    · exfalso
      have : 4503599627370496 ≤ v := by
        rw [hv0, Nat.le_div_iff_mul_le (Nat.two_pow_pos k)]
        have h2 : 2 ^ (52 + k) ≤ 2 ^ (L - 1) := Nat.pow_le_pow_right (by omega) (by omega)
        rw [Nat.pow_add] at h2
        have h3 : 2 ^ 52 = 4503599627370496 := by decide
        rw [h3] at h2
        omega
      omega
end Go.Proofs.Ytkaooejeljdbnaa
