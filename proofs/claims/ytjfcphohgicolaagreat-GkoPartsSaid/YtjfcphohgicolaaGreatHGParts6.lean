/- FGParts: what its proof needs, part 6. -/
import Derived.Test.YtjfcphohgicolaaGreatHGParts5
set_option linter.unusedVariables false
set_option linter.unusedSimpArgs false
namespace Go.Proofs.YtjfcphohgicolaaGreat
open Go
set_option linter.unusedVariables false
set_option linter.unusedSimpArgs false
abbrev half (p c n k : Nat) : List AV := fl n fun i => if i < k then .vec (.r p i) 3 0 c else .emp
abbrev halq (p c n k q : Nat) : List AV := fl n fun i => if i < k then .vec (.r p i) 3 0 c else if i = k then .vec (.t q) 3 0 c else .emp
theorem half_full {p c n : Nat} : half p c n n = plc p c n id := fl_congr fun i hi => if_pos hi
theorem half_set {p c n k q : Nat} : (half p c n k).set k (.vec (.t q) 3 0 c) = halq p c n k q := by
  rw [fl_set]
  refine fl_congr fun i _ => ?_
  unfold upd
  by_cases e : i = k
  · rw [if_pos e, if_neg (by omega), if_pos e]
  · rw [if_neg e]
    show (if i < k then AV.vec (.r p i) 3 0 c else .emp) = _
    by_cases e2 : i < k
    · rw [if_pos e2, if_pos e2]
    · rw [if_neg e2, if_neg e2, if_neg e]
theorem halq_get {p c n k q : Nat} (h : k < n) : (halq p c n k q)[k]? = some (.vec (.t q) 3 0 c) := by
  rw [fl_get h, if_neg (Nat.lt_irrefl k), if_pos rfl]
theorem halq_ren {hs : List Nat} {P : Hp} {p c n k q : Nat} (p' q' : Nat) (hp : hs.getD p 0 = p') (hp' : p' < 1000) (hq : hs.getD q 0 = q') (hq' : q' < 1000) : AV.renL (renW hs P) (halq p c n k q) = halq p' c n k q' := by
  rw [renL_fl]
  refine fl_congr fun i hi => ?_
  have eb : Nat.blt p' 1000 = true := blt_iff.2 hp'
  have ec : Nat.blt q' 1000 = true := blt_iff.2 hq'
  by_cases e : i < k
  · rw [if_pos e, if_pos e]; simp only [AV.ren, renW, hp, eb, cond_true]
  · rw [if_neg e, if_neg e]
    by_cases e2 : i = k
    · rw [if_pos e2, if_pos e2]; simp only [AV.ren, renW, hq, ec, cond_true]; rw [show ptop q' = q' from Nat.mod_eq_of_lt hq']
    · rw [if_neg e2, if_neg e2]; simp only [AV.ren]
/-- The pool takes in the row that is filled. -/
theorem half_absorb {hs : List Nat} {P : Hp} {p p' q c n k : Nat} (hp : hs.getD p 0 = p' + 1000 * (q + 1)) (hp' : p' < 1000) (hl : plenAt P p = k + 1) : AV.renL (renW hs P) (half p c n (k + 1)) = halq p' c n k q := by
  rw [renL_fl]
  have eb : Nat.blt (hs.getD p 0) 1000 = false := by
    cases hb : Nat.blt (hs.getD p 0) 1000 with
    | false => rfl
    | true => have := blt_iff.1 hb; omega
  have e1 : hs.getD p 0 % 1000 = p' := by omega
  have e2 : hs.getD p 0 / 1000 - 1 = q := by omega
  refine fl_congr fun i hi => ?_
  by_cases h1 : i < k
  · have e4 : Nat.blt (i + 1) (k + 1) = true := blt_iff.2 (by omega)
    rw [if_pos (by omega), if_pos h1]
    simp only [AV.ren, renW, eb, hl, e4, cond_false, cond_true, e1]
  · by_cases h2 : i = k
    · have e4 : Nat.blt (i + 1) (k + 1) = false := by
        cases hb : Nat.blt (i + 1) (k + 1) with
        | false => rfl
        | true => have := blt_iff.1 hb; omega
      rw [if_pos (by omega), if_neg h1, if_pos h2]
      simp only [AV.ren, renW, eb, hl, e4, cond_false, e2]
    · rw [if_neg (by omega), if_neg h1, if_neg h2]; simp only [AV.ren]
theorem half_in {P : Hp} {p c n k : Nat} (h : ∀ i, i < k → i < plenAt P p) : ∀ x ∈ half p c n k, ∀ h, x.men h → look P h ≠ .free := by
  intro x hx g hg
  obtain ⟨i, hi, rfl⟩ := fl_mem hx
  by_cases e : i < k
  · rw [if_pos e] at hg
    simp only [AV.men] at hg
    subst hg
    exact look_row (h i e)
  · rw [if_neg e] at hg; exact hg.elim
theorem halq_in {P : Hp} {p c n k q : Nat} (h : ∀ i, i < k → i < plenAt P p) (hq : look P (.t q) ≠ .free) : ∀ x ∈ halq p c n k q, ∀ h, x.men h → look P h ≠ .free := by
  intro x hx g hg
  obtain ⟨i, hi, rfl⟩ := fl_mem hx
  by_cases e : i < k
  · rw [if_pos e] at hg
    simp only [AV.men] at hg
    subst hg
    exact look_row (h i e)
  · rw [if_neg e] at hg
    by_cases e2 : i = k
    · rw [if_pos e2] at hg
      simp only [AV.men] at hg
      subst hg; exact hq
    · rw [if_neg e2] at hg; exact hg.elim
theorem half_ren0 {ρ : Hd → Hd} {p c n : Nat} : AV.renL ρ (half p c n 0) = List.replicate n .emp := by
  rw [renL_fl, replicate_fl]
  refine fl_congr fun i _ => ?_
  rw [if_neg (Nat.not_lt_zero i)]; simp only [AV.ren]
end Go.Proofs.YtjfcphohgicolaaGreat

namespace Go.Proofs.YtjfcphohgicolaaGreat
open Go
set_option linter.unusedVariables false
set_option linter.unusedSimpArgs false
set_option maxRecDepth 10000
theorem row_step {n j : Nat} {f : Nat → Rat} (h : j < n) : (fl n fun k => if k < j then ratP (f k) else rat0).set (j + 0) (ratP (f j)) = fl n fun k => if k < j + 1 then ratP (f k) else rat0 := by
  rw [fl_set]
  refine fl_congr fun k hk => ?_
  simp only [upd, Nat.add_zero]
  by_cases e : k = j
  · rw [if_pos e, if_pos (by omega), e]
  · rw [if_neg e]
    by_cases e2 : k < j
    · rw [if_pos e2, if_pos (by omega)]
    · rw [if_neg e2, if_neg (by omega)]
theorem row_full {n : Nat} {f : Nat → Rat} : rats (lst n f) = fl n fun k => if k < n then ratP (f k) else rat0 := by
  rw [rats, lst_fl, fl_map]; exact fl_congr fun k hk => (if_pos hk).symm
end Go.Proofs.YtjfcphohgicolaaGreat

namespace Go.Proofs.YtjfcphohgicolaaGreat
open Go
set_option linter.unusedVariables false
set_option linter.unusedSimpArgs false
set_option maxRecDepth 10000
theorem bb_mono {b j k : Nat} (h : j ≤ k) : bb b j ≤ bb b k := Rmono (fun k => bb_step k) h
theorem nlen0 {q : Rat} (h : q = 0) : nlen q.num.natAbs = 0 := by rw [h]; exact nlen_zero_iff.2 rfl
theorem nlen1 {q : Rat} (h : q ≠ 0) : nlen q.num.natAbs ≠ 0 := fun e => h (Rat.num_eq_zero.1 (by have := nlen_zero_iff.1 e; omega))
end Go.Proofs.YtjfcphohgicolaaGreat

namespace Go.Proofs.YtjfcphohgicolaaGreat
set_option linter.unusedVariables false
theorem gabs_pos {c : Rat} (h : c ≠ 0) : 0 < c.abs := by
  have h1 := Rat.abs_nonneg (x := c)
  have h2 : c.abs ≠ 0 := fun e => h (Rat.abs_eq_zero_iff.1 e)
  grind
theorem gabs_mul (c x : Rat) : (c * x).abs = c.abs * x.abs := by
  by_cases hc : 0 ≤ c <;> by_cases hx : 0 ≤ x
  · rw [Rat.abs_of_nonneg hc, Rat.abs_of_nonneg hx, Rat.abs_of_nonneg (Rat.mul_nonneg hc hx)]
  · have hx' : 0 ≤ -x := by grind
    have h := Rat.mul_nonneg hc hx'
    have e1 : x.abs = -x := by rw [← Rat.abs_neg, Rat.abs_of_nonneg hx']
    have e2 : (c * x).abs = -(c * x) := by rw [← Rat.abs_neg, Rat.abs_of_nonneg (by grind)]
    rw [Rat.abs_of_nonneg hc, e1, e2]; grind
  · have hc' : 0 ≤ -c := by grind
    have h := Rat.mul_nonneg hc' hx
    have e1 : c.abs = -c := by rw [← Rat.abs_neg, Rat.abs_of_nonneg hc']
    have e2 : (c * x).abs = -(c * x) := by rw [← Rat.abs_neg, Rat.abs_of_nonneg (by grind)]
    rw [Rat.abs_of_nonneg hx, e1, e2]; grind
  · have hc' : 0 ≤ -c := by grind
    have hx' : 0 ≤ -x := by grind
    have h := Rat.mul_nonneg hc' hx'
    have e1 : c.abs = -c := by rw [← Rat.abs_neg, Rat.abs_of_nonneg hc']
    have e3 : x.abs = -x := by rw [← Rat.abs_neg, Rat.abs_of_nonneg hx']
    have e2 : (c * x).abs = c * x := Rat.abs_of_nonneg (by grind)
    rw [e1, e2, e3]; grind
def patG (B : Nat → Nat → Rat) (k : Nat) : Nat → Nat
  | 0 => k
  | d + 1 => if (B (patG B k d) k).abs < (B (k + 1 + d) k).abs then k + 1 + d else patG B k d
def pvt (B : Nat → Nat → Rat) (n k : Nat) : Nat := patG B k (n - 1 - k)
theorem patG_spec {B : Nat → Nat → Rat} {k : Nat} : ∀ d, k ≤ patG B k d ∧ patG B k d ≤ k + d ∧ ∀ i, k ≤ i → i ≤ k + d → (B i k).abs ≤ (B (patG B k d) k).abs := by
  intro d
  induction d with
  | zero =>
    simp only [patG]
    refine ⟨Nat.le_refl _, by omega, fun i h1 h2 => ?_⟩
    obtain rfl : i = k := by omega
    exact Rat.le_refl
  | succ d ih =>
    obtain ⟨h1, h2, h3⟩ := ih
    simp only [patG]
    by_cases c : (B (patG B k d) k).abs < (B (k + 1 + d) k).abs
    · rw [if_pos c]
      refine ⟨by omega, by omega, fun i q1 q2 => ?_⟩
      by_cases e : i = k + 1 + d
      · rw [e]; exact Rat.le_refl
      · have := h3 i q1 (by omega); grind
    · rw [if_neg c]
      refine ⟨h1, by omega, fun i q1 q2 => ?_⟩
      by_cases e : i = k + 1 + d
      · rw [e]; grind
      · exact h3 i q1 (by omega)
theorem pvt_spec {B : Nat → Nat → Rat} {n k : Nat} (h : k < n) : k ≤ pvt B n k ∧ pvt B n k < n ∧ ∀ i, k ≤ i → i < n → (B i k).abs ≤ (B (pvt B n k) k).abs := by
  obtain ⟨h1, h2, h3⟩ := patG_spec (B := B) (k := k) (n - 1 - k)
  exact ⟨h1, by unfold pvt; omega, fun i q1 q2 => h3 i q1 (by omega)⟩
/-- Column k is cleared below row k; all of a row. -/
def redA (B : Nat → Nat → Rat) (k : Nat) : Nat → Nat → Rat := fun i j => if k < i then B i j - B i k / B k k * B k j else B i j
def swS (s : Nat → Nat) (p k : Nat) : Nat → Nat := fun i => s (if i = p then k else if i = k then p else i)
/-- A step's multiples, kept by rows. -/
def mulS (M P : Nat → Nat → Rat) (k : Nat) : Nat → Nat → Rat := fun i j => if j = k then (if k < i then P i k / P k k else if i = k then 1 else M i j) else M i j
structure GkS where
  B : Nat → Nat → Rat
  s : Nat → Nat
  M : Nat → Nat → Rat
def gkS (n k : Nat) (S : GkS) : GkS :=
  ⟨redA (swpM S.B (pvt S.B n k) k) k, swS S.s (pvt S.B n k) k, mulS (swpM S.M (pvt S.B n k) k) (swpM S.B (pvt S.B n k) k) k⟩
def gk (n : Nat) (A : Nat → Nat → Rat) (k : Nat) : GkS := iter (gkS n) k ⟨A, id, fun _ _ => 0⟩
/-- What the step k begins with, its rows exchanged. -/
def gkP (n : Nat) (A : Nat → Nat → Rat) (k : Nat) : Nat → Nat → Rat := swpM (gk n A k).B (pvt (gk n A k).B n k) k
def gpiv (n : Nat) (A : Nat → Nat → Rat) (k : Nat) : Rat := gkP n A k k k
theorem gk_succ {n : Nat} {A : Nat → Nat → Rat} {k : Nat} : gk n A (k + 1) = ⟨redA (gkP n A k) k, swS (gk n A k).s (pvt (gk n A k).B n k) k, mulS (swpM (gk n A k).M (pvt (gk n A k).B n k) k) (gkP n A k) k⟩ := rfl
theorem gpiv_eq {n : Nat} {A : Nat → Nat → Rat} {k : Nat} : gpiv n A k = (gk n A k).B (pvt (gk n A k).B n k) k := by unfold gpiv gkP; rw [swpM_r]
theorem swp_lt {p k n i : Nat} (hp : p < n) (hk : k < n) (hi : i < n) : (if i = p then k else if i = k then p else i) < n := by
  split
  · exact hk
  · split
    · exact hp
    · exact hi
theorem swp_ge' {p k i : Nat} (hp : k ≤ p) (hi : k ≤ i) : k ≤ (if i = p then k else if i = k then p else i) := by
  split
  · exact Nat.le_refl _
  · split
    · exact hp
    · exact hi
theorem swp_low {p k i : Nat} (hp : k ≤ p) (hi : i < k) : (if i = p then k else if i = k then p else i) = i := by
  rw [if_neg (by omega), if_neg (by omega)]
theorem swp_swp {p k i : Nat} : (if (if i = p then k else if i = k then p else i) = p then k else if (if i = p then k else if i = k then p else i) = k then p else (if i = p then k else if i = k then p else i)) = i := by
  by_cases e1 : i = p
  · rw [if_pos e1]
    by_cases e2 : k = p
    · rw [if_pos e2]; omega
    · rw [if_neg e2, if_pos rfl]; omega
  · rw [if_neg e1]
    by_cases e2 : i = k
    · rw [if_pos e2, if_pos rfl]; omega
    · rw [if_neg e2, if_neg e1, if_neg e2]
theorem swpM_low {A : Nat → Nat → Rat} {p k i : Nat} (hp : k ≤ p) (hi : i < k) : swpM A p k i = A i := by unfold swpM; rw [swp_low hp hi]
/-- The rows' order is one. -/
theorem gk_perm {n : Nat} {A : Nat → Nat → Rat} : ∀ k, k ≤ n → (∀ i, i < n → (gk n A k).s i < n) ∧ (∀ i j, i < n → j < n → (gk n A k).s i = (gk n A k).s j → i = j) ∧ ∀ r, r < n → ∃ i, i < n ∧ (gk n A k).s i = r := by
  intro k
  induction k with
  | zero => intro _; exact ⟨fun i hi => hi, fun i j _ _ e => e, fun r hr => ⟨r, hr, rfl⟩⟩
  | succ k ih =>
    intro hk
    obtain ⟨h1, h2, h3⟩ := ih (by omega)
    obtain ⟨p1, p2, _⟩ := pvt_spec (B := (gk n A k).B) (n := n) (k := k) (by omega)
    rw [gk_succ]
    refine ⟨fun i hi => h1 _ (swp_lt p2 (by omega) hi), fun i j hi hj e => ?_, fun r hr => ?_⟩
    · have := h2 _ _ (swp_lt p2 (by omega) hi) (swp_lt p2 (by omega) hj) e
      rw [← swp_swp (p := pvt (gk n A k).B n k) (k := k) (i := i), this, swp_swp]
    · obtain ⟨i, hi, e⟩ := h3 r hr
      exact ⟨_, swp_lt p2 (show k < n by omega) hi, by show (gk n A k).s _ = r; rw [swp_swp]; exact e⟩
theorem gk_gt {n : Nat} {A : Nat → Nat → Rat} {k i j : Nat} (h : k < i) : (gk n A (k + 1)).B i j = gkP n A k i j - gkP n A k i k / gkP n A k k k * gkP n A k k j := by rw [gk_succ]; exact if_pos h
theorem gk_le {n : Nat} {A : Nat → Nat → Rat} {k i j : Nat} (h : i ≤ k) : (gk n A (k + 1)).B i j = gkP n A k i j := by rw [gk_succ]; exact if_neg (by omega)
theorem gkP_low {n : Nat} {A : Nat → Nat → Rat} {k i : Nat} (hk : k < n) (h : i < k) : gkP n A k i = (gk n A k).B i := swpM_low (pvt_spec hk).1 h
/-- A row stays behind its own step. -/
theorem gk_row {n : Nat} {A : Nat → Nat → Rat} {i j : Nat} : ∀ d, i + 1 + d ≤ n → (gk n A (i + 1 + d)).B i j = gkP n A i i j := by
  intro d
  induction d with
  | zero => intro _; exact gk_le (Nat.le_refl _)
  | succ d ih =>
    intro h
    rw [← ih (by omega)]
    show (gk n A (i + 1 + d + 1)).B i j = _
    rw [gk_le (by omega), gkP_low (by omega) (by omega)]
theorem gk_row' {n : Nat} {A : Nat → Nat → Rat} {i j k : Nat} (h : i < k) (hk : k ≤ n) : (gk n A k).B i j = gkP n A i i j := by
  obtain ⟨d, rfl⟩ : ∃ d, k = i + 1 + d := ⟨k - (i + 1), by omega⟩
  exact gk_row d hk
theorem swpM_ge {A : Nat → Nat → Rat} {p k n : Nat} (hp : k ≤ p) (hpn : p < n) (hk : k < n) {P : (Nat → Rat) → Prop} (h : ∀ i, k ≤ i → i < n → P (A i)) {i : Nat} (h1 : k ≤ i) (h2 : i < n) : P (swpM A p k i) :=
  h _ (swp_ge' hp h1) (swp_lt hpn hk h2)
/-- Below the corner there are noughts. -/
theorem gk_zero {n : Nat} {A : Nat → Nat → Rat} {K : Nat} (hp : ∀ t, t < K → gpiv n A t ≠ 0) : ∀ k, k ≤ K → k ≤ n → ∀ i t, i < n → t < k → t < i → (gk n A k).B i t = 0 := by
  intro k
  induction k with
  | zero => intro _ _ i t _ h; exact absurd h (Nat.not_lt_zero _)
  | succ k ih =>
    intro hk hkn i t hi ht hti
    have ih := ih (by omega) (by omega)
    obtain ⟨p1, p2, _⟩ := pvt_spec (B := (gk n A k).B) (n := n) (k := k) (by omega)
    have low : ∀ i t, i < n → t < k → t < i → gkP n A k i t = 0 := fun i t hi h1 h2 => by
      by_cases c : i < k
      · rw [gkP_low (by omega) c]; exact ih i t hi h1 h2
      · exact swpM_ge (P := fun f => f t = 0) p1 p2 (by omega) (fun q q1 q2 => ih q t q2 h1 (by omega)) (by omega) hi
    by_cases c : k < i
    · rw [gk_gt c]
      by_cases e : t = k
      · subst e
        have : gkP n A t t t ≠ 0 := hp t (by omega)
        generalize gkP n A t i t = x
        generalize gkP n A t t t = y at this
        grind
      · rw [low i t hi (by omega) hti, low k t (by omega) (by omega) (by omega)]; grind
    · rw [gk_le (by omega)]; exact low i t hi (by omega) hti
/-- The triangles. -/
def gL (n : Nat) (A : Nat → Nat → Rat) : Nat → Nat → Rat := (gk n A n).M
def gU (n : Nat) (A : Nat → Nat → Rat) : Nat → Nat → Rat := (gk n A n).B
def gO (n : Nat) (A : Nat → Nat → Rat) : Nat → Nat := (gk n A n).s
theorem gU_low {n : Nat} {A : Nat → Nat → Rat} (hp : ∀ t, t < n → gpiv n A t ≠ 0) {i j : Nat} (hi : i < n) (hj : j < i) : gU n A i j = 0 := gk_zero hp n (Nat.le_refl _) (Nat.le_refl _) i j hi (by omega) hj
theorem gU_diag {n : Nat} {A : Nat → Nat → Rat} {i : Nat} (hi : i < n) : gU n A i i = gpiv n A i := gk_row' hi (Nat.le_refl _)
/-- The multiples so far: none above the corner or ahead of its step; ones at the corner. -/
theorem gM_spec {n : Nat} {A : Nat → Nat → Rat} : ∀ k, k ≤ n → ∀ i j, i < n → (k ≤ j → (gk n A k).M i j = 0) ∧ (i < j → (gk n A k).M i j = 0) ∧ (i = j → j < k → (gk n A k).M i j = 1) := by
  intro k
  induction k with
  | zero => intro _ i j _; exact ⟨fun _ => rfl, fun _ => rfl, fun _ h => absurd h (Nat.not_lt_zero _)⟩
  | succ k ih =>
    intro hk i j hi
    have ih := ih (by omega)
    obtain ⟨p1, p2, _⟩ := pvt_spec (B := (gk n A k).B) (n := n) (k := k) (by omega)
    rw [gk_succ]
    have sw : k ≤ j → swpM (gk n A k).M (pvt (gk n A k).B n k) k i j = 0 := fun h => (ih _ j (swp_lt p2 (by omega) hi)).1 h
    show (_ → mulS _ _ k i j = 0) ∧ (_ → mulS _ _ k i j = 0) ∧ (_ → _ → mulS _ _ k i j = 1)
    unfold mulS
    refine ⟨fun h => ?_, fun h => ?_, fun h1 h2 => ?_⟩
    · rw [if_neg (by omega)]; exact sw (by omega)
    · by_cases e : j = k
      · rw [if_pos e, if_neg (by omega), if_neg (by omega)]; exact sw (by omega)
      · rw [if_neg e]
        by_cases c : k ≤ j
        · exact sw c
        · rw [swpM_low p1 (by omega)]; exact (ih i j hi).2.1 h
    · by_cases e : j = k
      · rw [if_pos e, if_neg (by omega), if_pos (by omega)]
      · rw [if_neg e, swpM_low p1 (by omega)]; exact (ih i j hi).2.2 h1 (by omega)
theorem gL_diag {n : Nat} {A : Nat → Nat → Rat} {i : Nat} (hi : i < n) : gL n A i i = 1 := (gM_spec n (Nat.le_refl _) i i hi).2.2 rfl hi
theorem gL_up {n : Nat} {A : Nat → Nat → Rat} {i j : Nat} (hi : i < n) (h : i < j) : gL n A i j = 0 := (gM_spec n (Nat.le_refl _) i j hi).2.1 h
theorem gdiv_le {x y : Rat} (h : x.abs ≤ y.abs) (hy : y ≠ 0) : (x / y).abs ≤ 1 := by
  have hp := gabs_pos hy
  have e : (x / y) * y = x := by grind
  have e2 : (x / y).abs * y.abs = x.abs := by rw [← gabs_mul, e]
  generalize (x / y).abs = q at e2
  by_cases c : q ≤ 1
  · exact c
  · have c : 1 < q := Rat.not_le.1 c
    have := Rat.mul_lt_mul_of_pos_right c hp
    grind
theorem gkq_le {n : Nat} {A : Nat → Nat → Rat} {k i : Nat} (hk : k < n) (hi : i < n) (h : k ≤ i) (hp : gpiv n A k ≠ 0) : (gkP n A k i k / gkP n A k k k).abs ≤ 1 := by
  obtain ⟨p1, p2, p3⟩ := pvt_spec (B := (gk n A k).B) (n := n) (k := k) hk
  refine gdiv_le ?_ hp
  have e : gkP n A k k k = (gk n A k).B (pvt (gk n A k).B n k) k := gpiv_eq
  rw [e]
  exact swpM_ge (P := fun f => (f k).abs ≤ _) p1 p2 hk (fun q q1 q2 => p3 q q1 q2) h hi
theorem gM_le {n : Nat} {A : Nat → Nat → Rat} {K : Nat} (hp : ∀ t, t < K → gpiv n A t ≠ 0) : ∀ k, k ≤ K → k ≤ n → ∀ i j, i < n → ((gk n A k).M i j).abs ≤ 1 := by
  intro k
  induction k with
  | zero => intro _ _ i j _; show (0 : Rat).abs ≤ 1; decide +kernel
  | succ k ih =>
    intro hk hkn i j hi
    have ih := ih (by omega) (by omega)
    obtain ⟨p1, p2, _⟩ := pvt_spec (B := (gk n A k).B) (n := n) (k := k) (by omega)
    rw [gk_succ]
    show (mulS _ _ k i j).abs ≤ 1
    unfold mulS
    have sw : (swpM (gk n A k).M (pvt (gk n A k).B n k) k i j).abs ≤ 1 := ih _ j (swp_lt p2 (by omega) hi)
    split
    · split
      · exact gkq_le (by omega) hi (by omega) (hp k (by omega))
      · split
        · decide +kernel
        · exact sw
    · exact sw
theorem gL_le {n : Nat} {A : Nat → Nat → Rat} (hp : ∀ t, t < n → gpiv n A t ≠ 0) {i j : Nat} (hi : i < n) : (gL n A i j).abs ≤ 1 := gM_le hp n (Nat.le_refl _) (Nat.le_refl _) i j hi
/-- What has been taken away, and what is left. -/
theorem gk_lu {n : Nat} {A : Nat → Nat → Rat} : ∀ k, k ≤ n → ∀ i j, i < n → sm (min i k) (fun t => (gk n A k).B t j * (gk n A k).M i t) + (gk n A k).B i j = A ((gk n A k).s i) j := by
  intro k
  induction k with
  | zero => intro _ i j _; rw [Nat.min_zero]; show (0 : Rat) + A i j = A i j; grind
  | succ k ih =>
    intro hk i j hi
    have ih := ih (by omega)
    obtain ⟨p1, p2, _⟩ := pvt_spec (B := (gk n A k).B) (n := n) (k := k) (by omega)
    -- ahead of the clearing
    have sw : ∀ i, i < n → sm (min i k) (fun t => gkP n A k t j * swpM (gk n A k).M (pvt (gk n A k).B n k) k i t) + gkP n A k i j = A ((gk n A (k + 1)).s i) j := fun i hi => by
      have hi' := swp_lt p2 (show k < n by omega) hi
      have := ih _ j hi'
      rw [gk_succ]
      show _ = A ((gk n A k).s _) j
      rw [← this]
      have em : min (if i = pvt (gk n A k).B n k then k else if i = k then pvt (gk n A k).B n k else i) k = min i k := by
        by_cases c : i < k
        · rw [swp_low p1 c]
        · have := swp_ge' p1 (show k ≤ i by omega)
          omega
      rw [em]
      congr 1
      refine sm_congr fun t ht => ?_
      rw [gkP_low (by omega) (by omega)]; rfl
    rw [← sw i hi]
    have mk : ∀ t, t < k → (gk n A (k + 1)).M i t = swpM (gk n A k).M (pvt (gk n A k).B n k) k i t := fun t ht => by
      rw [gk_succ]; exact if_neg (by omega)
    by_cases c : k < i
    · rw [show min i (k + 1) = k + 1 by omega, show min i k = k by omega]
      show sm k _ + (gk n A (k + 1)).B k j * (gk n A (k + 1)).M i k + _ = _
      rw [gk_gt c, gk_le (Nat.le_refl k)]
      have e : (gk n A (k + 1)).M i k = gkP n A k i k / gkP n A k k k := by
        rw [gk_succ]; show mulS _ _ k i k = _; unfold mulS; rw [if_pos rfl, if_pos c]
      rw [e, sm_congr (g := fun t => gkP n A k t j * swpM (gk n A k).M (pvt (gk n A k).B n k) k i t) fun t ht => by rw [gk_le (show t ≤ k by omega), mk t ht]]
      grind
    · rw [show min i (k + 1) = i by omega, show min i k = i by omega, gk_le (by omega)]
      congr 1
      exact sm_congr fun t ht => by rw [gk_le (show t ≤ k by omega), mk t (by omega)]
theorem g_mul {n : Nat} {A : Nat → Nat → Rat} {i j : Nat} (hi : i < n) : mulM n (gL n A) (gU n A) i j = A (gO n A i) j := by
  have h := gk_lu (A := A) n (Nat.le_refl _) i j hi
  rw [show min i n = i by omega] at h
  show sm n (fun t => gU n A t j * gL n A i t) = _
  obtain ⟨d, hd⟩ : ∃ d, n = (i + 1) + d := ⟨n - (i + 1), by omega⟩
  have e : sm n (fun t => gU n A t j * gL n A i t) = sm (i + 1) (fun t => gU n A t j * gL n A i t) := by
    conv => lhs; arg 1; rw [hd]
    rw [sm_split, sm_zero (n := d) fun e he => by rw [gL_up hi (by omega)]; exact Rat.mul_zero _]
    exact Rat.add_zero _
  rw [e]
  show sm i _ + gU n A i j * gL n A i i = _
  rw [gL_diag hi, Rat.mul_one]; exact h
end Go.Proofs.YtjfcphohgicolaaGreat

namespace Go.Proofs.YtjfcphohgicolaaGreat
set_option linter.unusedVariables false
theorem Ker.clr {n w k : Nat} {B : Nat → Nat → Rat} {v : Nat → Rat} (hk : k < n) : Ker n w (redA B k) v ↔ Ker n w B v := by
  have row : ∀ i, k < i → sm w (fun c => redA B k i c * v c) = sm w (fun c => B i c * v c) - B i k / B k k * sm w (fun c => B k c * v c) := by
    intro i hi
    rw [← sm_smul, ← sm_sub]
    refine sm_congr fun c _ => ?_
    have : redA B k i c = B i c - B i k / B k k * B k c := if_pos hi
    rw [this]; grind
  have low : ∀ i, ¬ k < i → (fun c => redA B k i c * v c) = fun c => B i c * v c := by
    intro i hi
    funext c
    have : redA B k i c = B i c := if_neg hi
    rw [this]
  constructor
  · intro h i hi
    have h0 : sm w (fun c => B k c * v c) = 0 := by have := h k hk; rw [low k (Nat.lt_irrefl k)] at this; exact this
    have := h i hi
    by_cases e : k < i
    · rw [row i e, h0] at this; grind
    · rw [low i e] at this; exact this
  · intro h i hi
    by_cases e : k < i
    · rw [row i e, h i hi, h k hk]; grind
    · rw [low i e]; exact h i hi
theorem gk_ker {n w : Nat} {A : Nat → Nat → Rat} {v : Nat → Rat} : ∀ k, k ≤ n → (Ker n w (gk n A k).B v ↔ Ker n w A v) := by
  intro k
  induction k with
  | zero => exact fun _ => Iff.rfl
  | succ k ih =>
    intro hk
    obtain ⟨p1, p2, _⟩ := pvt_spec (B := (gk n A k).B) (n := n) (k := k) (by omega)
    rw [gk_succ]
    exact (Ker.clr (by omega)).trans ((Ker.swp p2 (by omega)).trans (ih (by omega)))
theorem elim_full {n : Nat} {A : Nat → Nat → Rat} (h : (elim n A n).r = n) : ∀ d, d ≤ n → (elim n A (n - d)).r = n - d := by
  intro d
  induction d with
  | zero => exact fun _ => h
  | succ d ih =>
    intro hd
    have := ih (by omega)
    rw [show n - d = (n - (d + 1)) + 1 by omega] at this
    exact (elim_step this).1
/-- What is a triangle so far stays as it is. -/
theorem elim_tri {n K : Nat} {B : Nat → Nat → Rat} (hz : ∀ i t, i < n → t < K → t < i → B i t = 0) (hd : ∀ t, t < K → B t t ≠ 0) : ∀ j, j ≤ K → j ≤ n → (∀ i k, i < n → (elim n B j).A i k = B i k) ∧ (elim n B j).det = pm j (fun t => B t t) ∧ (elim n B j).r = j := by
  intro j
  induction j with
  | zero => intro _ _; exact ⟨fun _ _ _ => rfl, rfl, rfl⟩
  | succ j ih =>
    intro hj hn
    obtain ⟨h1, h2, h3⟩ := ih (by omega) (by omega)
    have hpv : pv (elim n B j).A j n j = j := pv_eq (Nat.le_refl _) (by omega) (fun i h1 h2 => by omega) (.inr (by rw [h1 j j (by omega)]; exact hd j (by omega)))
    rw [elim_next h3 (by rw [hpv]; omega), hpv, if_pos rfl, swpM_self]
    refine ⟨fun i k hi => ?_, ?_, rfl⟩
    · show redM _ j j i k = _
      by_cases c : j < i
      · rw [redM_zero (by rw [h1 i j hi]; exact hz i j hi (by omega) c)]; exact h1 i k hi
      · rw [redM_le (.inl (by omega))]; exact h1 i k hi
    · show (elim n B j).det * (elim n B j).A j j = _
      rw [h2, h1 j j (by omega)]; rfl
theorem gk_sing {n K : Nat} {A : Nat → Nat → Rat} (hK : K < n) (hp : ∀ t, t < K → gpiv n A t ≠ 0) (hz : gpiv n A K = 0) : (elim n A n).det = 0 := by
  apply Classical.byContradiction
  intro hd
  obtain ⟨p1, p2, p3⟩ := pvt_spec (B := (gk n A K).B) (n := n) (k := K) hK
  obtain ⟨h1, h2, h3⟩ := elim_tri (n := n) (K := K) (B := (gk n A K).B) (fun i t hi ht hti => gk_zero hp K (Nat.le_refl _) (by omega) i t hi ht hti)
    (fun t ht => by rw [gk_row' ht (by omega)]; exact hp t ht) K (Nat.le_refl _) (by omega)
  have col : ∀ i, K ≤ i → i < n → (gk n A K).B i K = 0 := fun i q1 q2 => by
    have := p3 i q1 q2
    rw [← gpiv_eq, hz] at this
    have h0 := Rat.abs_nonneg (x := (gk n A K).B i K)
    have e0 : (0 : Rat).abs = 0 := by decide +kernel
    rw [e0] at this
    exact Rat.abs_eq_zero_iff.1 (by grind)
  have hpv : pv (elim n (gk n A K).B K).A K n K = n := pv_eq (by omega) (Nat.le_refl _) (fun i q1 q2 => by rw [h1 i K q2]; exact col i q1 q2) (.inl rfl)
  have hr : (elim n (gk n A K).B (K + 1)).r = K := by
    rw [elim_succ]; unfold elS; rw [h3, hpv, if_pos (Nat.le_refl _)]
  have hdet : (elim n (gk n A K).B n).det = 0 := by
    apply Classical.byContradiction
    intro h
    have := elim_full ((elim_det n (Nat.le_refl _)).1 h) (n - (K + 1)) (by omega)
    rw [show n - (n - (K + 1)) = K + 1 by omega] at this
    omega
  obtain ⟨v, ⟨k, hk, hv⟩, hker⟩ := ker0 hdet
  exact hv (ker1 hd ((gk_ker K (by omega)).1 hker) k hk)
theorem gk_reg {n : Nat} {A : Nat → Nat → Rat} (hp : ∀ t, t < n → gpiv n A t ≠ 0) : (elim n A n).det ≠ 0 := by
  intro hd
  obtain ⟨v, ⟨k, hk, hv⟩, hker⟩ := ker0 hd
  have hker : Ker n n (gU n A) v := (gk_ker n (Nat.le_refl _)).2 hker
  have dg : ∀ t, t < n → gU n A t t ≠ 0 := fun t ht => by rw [gU_diag ht]; exact hp t ht
  have h := elim_tri (n := n) (K := n) (B := gU n A) (fun i t hi ht hti => gU_low hp hi hti) dg n (Nat.le_refl _) (Nat.le_refl _)
  have hdet : (elim n (gU n A) n).det ≠ 0 := by rw [h.2.1]; exact pm_ne dg
  exact hv (ker1 hdet hker k hk)
end Go.Proofs.YtjfcphohgicolaaGreat

namespace Go.Proofs.YtjfcphohgicolaaGreat
set_option linter.unusedVariables false
def mxN (f : Nat → Rat) : Nat → Rat → Rat
  | 0, g => g
  | c + 1, g => if mxN f c g < (f c).abs then (f c).abs else mxN f c g
/-- The greatest size, of so many rows from one on. -/
def mxR (B : Nat → Nat → Rat) (n k : Nat) : Nat → Rat → Rat
  | 0, g => g
  | d + 1, g => mxN (B (k + d)) n (mxR B n k d g)
theorem mxN_ge {f : Nat → Rat} {g : Rat} : ∀ c, g ≤ mxN f c g ∧ ∀ j, j < c → (f j).abs ≤ mxN f c g := by
  intro c
  induction c with
  | zero => exact ⟨Rat.le_refl, fun j h => absurd h (Nat.not_lt_zero _)⟩
  | succ c ih =>
    obtain ⟨h1, h2⟩ := ih
    simp only [mxN]
    by_cases e : mxN f c g < (f c).abs
    · rw [if_pos e]
      refine ⟨by grind, fun j hj => ?_⟩
      by_cases ej : j = c
      · rw [ej]; exact Rat.le_refl
      · have := h2 j (by omega); grind
    · rw [if_neg e]
      refine ⟨h1, fun j hj => ?_⟩
      by_cases ej : j = c
      · rw [ej]; grind
      · exact h2 j (by omega)
theorem mxR_ge {B : Nat → Nat → Rat} {n k : Nat} {g : Rat} : ∀ d, g ≤ mxR B n k d g ∧ ∀ i j, k ≤ i → i < k + d → j < n → (B i j).abs ≤ mxR B n k d g := by
  intro d
  induction d with
  | zero => exact ⟨Rat.le_refl, fun i j h1 h2 => by omega⟩
  | succ d ih =>
    obtain ⟨h1, h2⟩ := ih
    obtain ⟨q1, q2⟩ := mxN_ge (f := B (k + d)) (g := mxR B n k d g) n
    simp only [mxR]
    refine ⟨by grind, fun i j e1 e2 e3 => ?_⟩
    by_cases e : i = k + d
    · rw [e]; exact q2 j e3
    · have := h2 i j e1 (by omega) e3; grind
/-- The greatest size so far, as the steps come. -/
def ggr (n : Nat) (A : Nat → Nat → Rat) : Nat → Rat
  | 0 => mxR A n 0 n 0
  | k + 1 => mxR (gk n A k).B n k (n - k) (ggr n A k)
theorem ggr_mono {n : Nat} {A : Nat → Nat → Rat} (k : Nat) : ∀ d, ggr n A k ≤ ggr n A (k + d) := by
  intro d
  induction d with
  | zero => exact Rat.le_refl
  | succ d ih => exact Rat.le_trans ih (mxR_ge (B := (gk n A (k + d)).B) _).1
theorem ggr_mono' {n : Nat} {A : Nat → Nat → Rat} {j k : Nat} (h : j ≤ k) : ggr n A j ≤ ggr n A k := by
  obtain ⟨d, rfl⟩ : ∃ d, k = j + d := ⟨k - j, by omega⟩
  exact ggr_mono j d
theorem ggr_pos {n : Nat} {A : Nat → Nat → Rat} (hn : 0 < n) (hp : gpiv n A 0 ≠ 0) : 0 < ggr n A 0 := by
  obtain ⟨p1, p2, _⟩ := pvt_spec (B := (gk n A 0).B) (n := n) (k := 0) hn
  have h := (mxR_ge (B := A) (n := n) (k := 0) (g := 0) n).2 (pvt (gk n A 0).B n 0) 0 (Nat.zero_le _) (by omega) hn
  rw [gpiv_eq] at hp
  have := gabs_pos hp
  show 0 < mxR A n 0 n 0
  have e : (gk n A 0).B (pvt (gk n A 0).B n 0) 0 = A (pvt (gk n A 0).B n 0) 0 := rfl
  rw [e] at this
  grind
theorem gdiv_ge {x y : Rat} (h : y ≤ x) (hy : 0 < y) : 1 ≤ x / y := by
  have e : (x / y) * y = x := by grind
  by_cases c : 1 ≤ x / y
  · exact c
  · have c : x / y < 1 := Rat.not_le.1 c
    have := Rat.mul_lt_mul_of_pos_right c hy
    grind
end Go.Proofs.YtjfcphohgicolaaGreat

namespace Go.Proofs.YtjfcphohgicolaaGreat
open Go
set_option linter.unusedVariables false
set_option linter.unusedSimpArgs false
set_option maxRecDepth 10000
theorem vabs_ok (q : Rat) {k : Nat} (h : Bz q k) (hk : k ≤ 1099511627776) : CallP Tryz.prog 75 [ratP q] (.p (ratP q.abs)) [] := by
  have := abs_ok q (h.nn hk) (h.nd hk)
  rwa [absP] at this
theorem cmpQ_pos {p q : Rat} : (0 < cmpQ p q) ↔ q < p := by
  unfold cmpQ
  split
  · rename_i h; constructor
    · intro h; omega
    · intro h2; grind
  · rename_i h
    split
    · rename_i e; constructor
      · intro h; omega
      · intro h2; grind
    · rename_i e
      constructor
      · intro _; grind
      · intro _; omega
theorem cmpQ_neg {p q : Rat} : (cmpQ p q < 0) ↔ p < q := by
  unfold cmpQ
  split
  · rename_i h; simp [h]
  · rename_i h
    split
    · constructor
      · intro h; omega
      · intro h2; grind
    · constructor
      · intro h; omega
      · intro h2; grind
end Go.Proofs.YtjfcphohgicolaaGreat

namespace Go.Proofs.YtjfcphohgicolaaGreat
open Go
set_option linter.unusedVariables false
set_option linter.unusedSimpArgs false
set_option maxRecDepth 10000
theorem kzero_ok : CallP Tryz.prog 40 [] (.p (ratP 0)) [] := by
  refine callG_of_vc (wr := wr0) Γok mixed Tryz.func40 (by kernel_rfl) rfl (by kernel_rfl) (le_of_ble rfl) (by simp) ?_
  refine SRet.pure ?_
  rw [ratP_zero]
  exact conv3 ⟨rfl, rfl, rfl⟩ (.p _ (.bool _)) (.p _ (.sl _ _ (fun e he => by simp at he))) (frz1 rfl)
theorem kone_ok : CallP Tryz.prog 79 [] (.p (ratP 1)) [] := by
  refine callG_of_vc (wr := wr0) Γok mixed Tryz.func79 (by kernel_rfl) rfl (by kernel_rfl) (le_of_ble rfl) (by simp) ?_
  refine SRet.pure ?_
  rw [ratP_one']
  exact conv3 ⟨rfl, rfl, rfl⟩ (.p _ (.bool _)) (frz1 rfl) (frz1 rfl)
abbrev permP (n : Nat) (s : Nat → Nat) : List PV := fl n fun i => .int .i64 ((s i : Nat) : Int)
abbrev gwA (n : Nat) (q : Rat) : List AV := [.vec (.t 1) 1 0 n, .vec (.t 3) 1 0 n, .map (.t 4), .p (.bool (decide (q.num < 0))), .p (natP q.num.natAbs), .p (natP q.den)]
abbrev gwB (n : Nat) (G : Nat → Nat → Rat) (s : Nat → Nat) (es : List (PV × PV)) (q : Rat) : List Blk := [.box 74 (gwA n q), .rows 24 (plc 2 n n s), .pool 31 3 (plr n n G), .vec 3 1 (permP n s), .map es]
theorem pers_perm {n : Nat} {s : Nat → Nat} : ∀ e ∈ permP n s, ∀ c ∈ e.cells, Pers c := fun e he c hc => by
  obtain ⟨i, _, rfl⟩ := fl_mem he
  simp only [PV.cells, List.mem_singleton] at hc
  subst hc; exact .int _ _
theorem permP_set {n i k : Nat} {s : Nat → Nat} : (permP n s).set i (.int .i64 ((k : Nat) : Int)) = permP n (upd s i k) := by
  rw [fl_set]; exact fl_congr fun j _ => by unfold upd; split <;> rfl
theorem permP_congr {n : Nat} {s s' : Nat → Nat} (h : ∀ i, i < n → s i = s' i) : permP n s = permP n s' := fl_congr fun i hi => by rw [h i hi]
theorem plr_congr {n w : Nat} {G G' : Nat → Nat → Rat} (h : ∀ r j, r < n → j < w → G r j = G' r j) : plr n w G = plr n w G' := fl_congr fun r hr => by rw [lst_congr fun j hj => h r j hr hj]
/-- All of it is handed back. -/
theorem SRet.gw {n : Nat} {G G' : Nat → Nat → Rat} {s s' : Nat → Nat} {es es' : List (PV × PV)} {q q' : Rat} {H : Hp} {av r : AV} (hH : H.take 5 = gwB n G' s' es' q') (hes : ∀ e ∈ es', Pers e.1 ∧ Pers e.2) (hv : Conv [0, 1, 2, 3, 4] H av r) :
    SRet (gwB n G s es q) av H r (gwB n G' s' es' q') := by
  have get : ∀ i, i < 5 → H.getD i .free = (gwB n G' s' es' q').getD i .free := fun i hi => by
    rw [← hH]; simp [List.getD, List.getElem?_take_of_lt hi]
  have g0 : H.getD 0 .free = .box 74 (gwA n q') := get 0 (by decide)
  have g1 : H.getD 1 .free = .rows 24 (plc 2 n n s') := get 1 (by decide)
  have g2 : H.getD 2 .free = .pool 31 3 (plr n n G') := get 2 (by decide)
  have g3 : H.getD 3 .free = .vec 3 1 (permP n s') := get 3 (by decide)
  have g4 : H.getD 4 .free = .map es' := get 4 (by decide)
  have key : ∀ h : Hd, look (gwB n G s es q) h ≠ .free → (look H h).live ∨ (h = .t 2 ∧ look H h ≠ .free) := fun h hh => by
    have hk := look_lt hh
    have hk : h.key < 5 := hk
    cases h with
    | t i =>
      simp only [look]
      have hk : i < 5 := hk
      match i, hk with
      | 0, _ => rw [g0]; exact .inl trivial
      | 1, _ => rw [g1]; exact .inl trivial
      | 2, _ => rw [g2]; exact .inr ⟨rfl, fun e => by cases e⟩
      | 3, _ => rw [g3]; exact .inl trivial
      | 4, _ => rw [g4]; exact .inl trivial
    | r i k =>
      have hk : i < 5 := hk
      match i, hk with
      | 0, _ => exact absurd rfl hh
      | 1, _ => exact absurd rfl hh
      | 3, _ => exact absurd rfl hh
      | 4, _ => exact absurd rfl hh
      | 2, _ =>
        have hkn : k < n := by
          apply Classical.byContradiction
          intro hkn
          refine hh ?_
          show (Blk.pool 31 3 (plr n n G)).row k = .free
          simp only [Blk.row]
          rw [List.getElem?_eq_none (by simp; omega)]
        left
        simp only [look]
        rw [g2]
        simp only [Blk.row]
        rw [fl_get hkn]; trivial
  refine .mk [0, 1, 2, 3, 4] rfl (by decide) rfl (Nat.le_refl _) (fun h hh => ?_) (fun h hh => ?_) (fun i h B e1 e2 => ?_) hv
  · rcases key h (Blk.live_ne hh) with h1 | ⟨rfl, _⟩
    · exact h1
    · exact hh.elim
  · rcases key h hh with h1 | ⟨_, h1⟩
    · exact Blk.live_ne h1
    · exact h1
  · match i, e1, e2 with
    | 0, e1, e2 =>
      cases e1; cases e2; rw [g0]
      refine .box (fun d hd => by simp only [gwA, List.mem_cons, List.not_mem_nil, or_false] at hd; rcases hd with rfl | rfl | rfl | rfl | rfl | rfl <;> rfl) rfl fun b c d e1 e2 => ?_
      match b, e1, e2 with
      | 0, e1, e2 => cases e1; cases e2; exact .vec rfl
      | 1, e1, e2 => cases e1; cases e2; exact .vec rfl
      | 2, e1, e2 => cases e1; cases e2; exact .map rfl
      | 3, e1, e2 => cases e1; cases e2; exact .p _ (.bool _)
      | 4, e1, e2 => cases e1; cases e2; exact .p _ (.sl _ _ (pers_limbs _))
      | 5, e1, e2 => cases e1; cases e2; exact .p _ (.sl _ _ (pers_limbs _))
    | 1, e1, e2 =>
      cases e1; cases e2; rw [g1]
      refine .rows (fun d hd => by obtain ⟨i, _, rfl⟩ := fl_mem hd; rfl) rfl fun b c d e1 e2 => ?_
      obtain ⟨hb, rfl⟩ := fl_get_iff.1 e1
      obtain ⟨_, rfl⟩ := fl_get_iff.1 e2
      exact .vecr rfl
    | 2, e1, e2 =>
      cases e1; cases e2; rw [g2]
      exact .pool fun k es hk => by
        obtain ⟨_, h⟩ := fl_get_iff.1 hk
        cases h; exact pers_rats _
    | 3, e1, e2 => cases e1; cases e2; rw [g3]; exact .vec pers_perm
    | 4, e1, e2 => cases e1; cases e2; rw [g4]; exact .map hes
theorem plc_id {ρ : Hd → Hd} {p c n : Nat} {s : Nat → Nat} (h : ∀ k, ρ (.r p k) = .r p k) : AV.renL ρ (plc p c n s) = plc p c n s := by
  rw [renL_fl]; exact fl_congr fun i _ => by simp only [AV.ren, h]
/-- A call that works on it. -/
theorem SCall.gw {P : Program} {f : FuncId} {L : Hd → Blk} {base n k : Nat} {K : AV → List (Hd × Blk) → Prop} {G G' : Nat → Nat → Rat} {s s' : Nat → Nat} {es es' : List (PV × PV)} {q q' : Rat} {r : AV}
    (hc : CallG P f [.bptr 0 0, .p (.int .i64 (k : Int))] (gwB n G s es q) r (gwB n G' s' es' q')) (hr : ∀ ρ, r.ren ρ = r) (hb : 5 ≤ base)
    (e0 : L (.t 0) = .box 74 (gwA n q) ∧ ∀ k, L (.r 0 k) = .free) (e1 : L (.t 1) = .rows 24 (plc 2 n n s) ∧ ∀ k, L (.r 1 k) = .free) (e2 : L (.t 2) = .dead ∧ ∀ k, L (.r 2 k) = (Blk.pool 31 3 (plr n n G)).row k)
    (e3 : L (.t 3) = .vec 3 1 (permP n s) ∧ ∀ k, L (.r 3 k) = .free) (e4 : L (.t 4) = .map es ∧ ∀ k, L (.r 4 k) = .free)
    (hk : K r [(.t 0, .box 74 (gwA n q')), (.t 1, .rows 24 (plc 2 n n s')), (.t 2, .pool 31 3 (plr n n G')), (.t 3, .vec 3 1 (permP n s')), (.t 4, .map es')]) {raw : List AV} :
    SCall P true f raw [.bptr 0 0, .p (.int .i64 (k : Int))] L base K := by
  have hρ : ∀ k, renOf [0, 1, 2, 3, 4] base (.r 2 k) = .r 2 k := fun k => rfl
  refine .mk [0, 1, 2, 3, 4] [.bptr 0 0, .p (.int .i64 (k : Int))] r (gwB n G s es q) (gwB n G' s' es' q') (fun e => by cases e) (by decide) (fun h hh => by simp only [List.mem_cons, List.not_mem_nil, or_false] at hh; omega) rfl rfl (fun i h B g1 g2 => ?_)
    (fun B hB => by simp only [gwB, List.mem_cons, List.not_mem_nil, or_false] at hB; rcases hB with rfl | rfl | rfl | rfl | rfl <;> exact ⟨fun e => by (cases e), fun e => by (cases e)⟩)
    (fun B hB k hk => ?_) (Nat.le_refl _) (fun B hB => by simp only [gwB, List.mem_cons, List.not_mem_nil, or_false] at hB; rcases hB with rfl | rfl | rfl | rfl | rfl <;> exact fun e => by (cases e))
    (fun a ha k hk => by
      simp only [List.mem_cons, List.not_mem_nil, or_false] at ha
      rcases ha with rfl | rfl
      · simp only [AV.men] at hk; subst hk; decide
      · simp only [AV.men] at hk) hc ?_
  · match i, g1, g2 with
    | 0, g1, g2 => cases g1; cases g2; exact e0
    | 1, g1, g2 =>
      cases g1; cases g2
      refine ⟨?_, e1.2⟩
      show _ = Blk.rows _ (AV.renL _ _)
      rw [plc_id hρ]; exact e1.1
    | 2, g1, g2 => cases g1; cases g2; exact e2
    | 3, g1, g2 => cases g1; cases g2; exact e3
    | 4, g1, g2 => cases g1; cases g2; exact e4
  · simp only [gwB, List.mem_cons, List.not_mem_nil, or_false] at hB
    rcases hB with rfl | rfl | rfl | rfl | rfl
    · simp only [Blk.men, gwA, AV.menL, AV.men, or_false, false_or] at hk
      rcases hk with rfl | rfl | rfl <;> decide
    · simp only [Blk.men, AV.menL_iff] at hk
      obtain ⟨c, hc, hk⟩ := hk
      obtain ⟨i, _, rfl⟩ := fl_mem hc
      simp only [AV.men] at hk
      subst hk; exact (by decide : 2 < 5)
    · exact hk.elim
    · exact hk.elim
    · exact hk.elim
  · rw [hr]
    show K r [_, (_, Blk.rows _ (AV.renL _ _)), _, _, _]
    rw [plc_id hρ]
    exact hk
theorem plr_in {n w r : Nat} {G : Nat → Nat → Rat} (h : r < n) : r < (plr n w G).length := by simpa using h
theorem mxN_bz {f : Nat → Rat} {g : Rat} {D : Nat} (hg : Bz g D) : ∀ c, (∀ j, j < c → Bz (f j) D) → Bz (mxN f c g) D := by
  intro c
  induction c with
  | zero => exact fun _ => hg
  | succ c ih =>
    intro h
    simp only [mxN]
    split
    · exact (h c (by omega)).abs
    · exact ih fun j hj => h j (by omega)
theorem mxR_bz {B : Nat → Nat → Rat} {n k : Nat} {g : Rat} {D : Nat} (hg : Bz g D) : ∀ d, (∀ i j, k ≤ i → i < k + d → j < n → Bz (B i j) D) → Bz (mxR B n k d g) D := by
  intro d
  induction d with
  | zero => exact fun _ => hg
  | succ d ih =>
    intro h
    simp only [mxR]
    exact mxN_bz (ih fun i j h1 h2 h3 => h i j h1 (by omega) h3) n fun j hj => h (k + d) j (by omega) (by omega) hj
theorem glook_ok (n k : Nat) (G B : Nat → Nat → Rat) (s : Nat → Nat) (es : List (PV × PV)) (q : Rat) {D : Nat} (hk : k ≤ n) (hn : n ≤ 1000) (hs : ∀ i, i < n → s i < n) (hG : ∀ i j, i < n → j < n → G (s i) j = B i j)
    (hB : ∀ i j, i < n → j < n → Bz (B i j) D) (hq : Bz q D) (hD : D + D ≤ 1000000) (hes : ∀ e ∈ es, Pers e.1 ∧ Pers e.2) :
    CallG Tryz.prog 41 [.bptr 0 0, .p (.int .i64 (k : Int))] (gwB n G s es q) (.tup []) (gwB n G s es (mxR B n k (n - k) q)) := by
  refine callG_of_vc (wr := wr0) Γok mixed Tryz.func41 (by kernel_rfl) rfl (by kernel_rfl) (le_of_ble rfl) (by simp) ?_
  refine SCut.mk k n rfl rfl hk (Nat.le_refl _) ?_
  refine SZ.mk ((n - k : Nat) : Int) rfl ?_
  refine SLoop.mk Nat (fun d => ([(0, .bptr 0 0), (13, .vec 1 1 (0 + k) (n - k)), (14, .p (.int .i64 ((n - k : Nat) : Int))), (15, .p (.int .i64 (d : Nat)))], gwB n G s es (mxR B n k d q)))
    (fun d => d ≤ n - k) (fun d => n - k - d) 0 [0, 1, 2, 3, 4] (Nat.zero_le _) ⟨rfl, by simp, rfl, rfl, rfl, ⟨rfl, rfl, rfl, rfl, trivial⟩, ⟨rfl, congrArg _ (plc_ren 2 rfl (by decide)), rfl, rfl, rfl, rows_in fun q hq => by simpa [plenAt] using hs q hq, by simp, trivial⟩⟩ ?_
  intro d hd
  have hd : d ≤ n - k := hd
  by_cases hdn : d < n - k
  · refine SCmp.yes (decide_eq_true (by omega)) ?_
    refine SPos.mk d rfl hdn ?_
    refine SIdxA.plc (k + d) (by omega) (by omega) ?_
    refine SZ.mk (n : Int) rfl ?_
    have zr : Bz (mxR B n k d q) D := mxR_bz hq d fun i j h1 h2 h3 => hB i j (by omega) h3
    refine SLoop.mk Nat (fun c => ([(0, .bptr 0 0), (13, .vec 1 1 (0 + k) (n - k)), (14, .p (.int .i64 ((n - k : Nat) : Int))), (15, .p (.int .i64 (d : Nat))), (19, .vec (.r 2 (s (k + d))) 3 0 n), (20, .p (.int .i64 n)), (21, .p (.int .i64 (c : Nat)))], gwB n G s es (mxN (B (k + d)) c (mxR B n k d q))))
      (fun c => c ≤ n) (fun c => n - c) 0 [0, 1, 2, 3, 4] (Nat.zero_le _) ⟨rfl, by simp, rfl, rfl, rfl, ⟨rfl, rfl, rfl, rfl, rfl, rfl, rfl, trivial⟩, ⟨rfl, congrArg _ (plc_ren 2 rfl (by decide)), rfl, rfl, rfl, plr_in (hs _ (show k + d < n by omega)), rows_in fun q hq => by simpa [plenAt] using hs q hq, by simp, trivial⟩⟩ ?_
    intro c hc
    have hc : c ≤ n := hc
    by_cases hcn : c < n
    · refine SCmp.yes (decide_eq_true (by omega)) ?_
      have zc := hB (k + d) c (by omega) hcn
      have zm : Bz (mxN (B (k + d)) c (mxR B n k d q)) D := mxN_bz zr c fun j hj => hB (k + d) j (by omega) (by omega)
      refine SPos.mk c rfl hcn ?_
      refine SRow.plr (hs _ (by omega)) ?_
      refine SIdx.rv (c + 0) (B (k + d) c) rfl (by omega) (hG _ _ (by omega) hcn) ?_
      by_cases hgt : mxN (B (k + d)) c (mxR B n k d q) < (B (k + d) c).abs
      · have e : mxN (B (k + d)) (c + 1) (mxR B n k d q) = (B (k + d) c).abs := if_pos hgt
        refine SDraw.mk (by kernel_rfl) ?_
        repeat refine SOp.mk _ _ (And.intro rfl rfl) rfl ?_
        refine SOp.mk _ _ (SCall.pure (vabs_ok (B (k + d) c) zc (by omega)) (And.intro rfl rfl)) rfl ?_
        repeat refine SOp.mk _ _ (And.intro rfl rfl) rfl ?_
        refine SOp.mk _ _ (SCall.pure (ratcmp_ok _ _ zc.abs.sz zm.sz (by omega)) (And.intro rfl rfl)) rfl ?_
        refine SOp.mk _ _ (SCmp.yes (decide_eq_true (cmpQ_pos.2 hgt)) (And.intro rfl rfl)) rfl ?_
        refine SCall.pure (vabs_ok (B (k + d) c) zc (by omega)) ?_
        refine SWrap.i64z ((c + 1 : Nat) : Int) (by omega) (by omega) ?_
        exact ⟨c + 1, [0, 1, 2, 3, 4], hcn, by show n - (c + 1) < n - c; omega, ⟨rfl, by simp, rfl, rfl, rfl, ⟨rfl, rfl, rfl, rfl, rfl, rfl, rfl, trivial⟩, ⟨by rw [e]; rfl, congrArg _ (plc_ren 2 rfl (by decide)), rfl, rfl, rfl, plr_in (hs _ (show k + d < n by omega)), rows_in fun q hq => by simpa [plenAt] using hs q hq, by simp, trivial⟩⟩⟩
      · have e : mxN (B (k + d)) (c + 1) (mxR B n k d q) = mxN (B (k + d)) c (mxR B n k d q) := if_neg hgt
        refine SDraw.mk (by kernel_rfl) ?_
        repeat refine SOp.mk _ _ (And.intro rfl rfl) rfl ?_
        refine SOp.mk _ _ (SCall.pure (vabs_ok (B (k + d) c) zc (by omega)) (And.intro rfl rfl)) rfl ?_
        repeat refine SOp.mk _ _ (And.intro rfl rfl) rfl ?_
        refine SOp.mk _ _ (SCall.pure (ratcmp_ok _ _ zc.abs.sz zm.sz (by omega)) (And.intro rfl rfl)) rfl ?_
        refine SOp.mk _ _ (SCmp.no (decide_eq_false (mt cmpQ_pos.1 hgt)) (And.intro rfl rfl)) rfl ?_
        refine SWrap.i64z ((c + 1 : Nat) : Int) (by omega) (by omega) ?_
        exact ⟨c + 1, [0, 1, 2, 3, 4], hcn, by show n - (c + 1) < n - c; omega, ⟨rfl, by simp, rfl, rfl, rfl, ⟨rfl, rfl, rfl, rfl, rfl, rfl, rfl, trivial⟩, ⟨by rw [e]; rfl, congrArg _ (plc_ren 2 rfl (by decide)), rfl, rfl, rfl, plr_in (hs _ (show k + d < n by omega)), rows_in fun q hq => by simpa [plenAt] using hs q hq, by simp, trivial⟩⟩⟩
    · refine SCmp.no (decide_eq_false (by omega)) ?_
      obtain rfl : c = n := by omega
      refine SWrap.i64z ((d + 1 : Nat) : Int) (by omega) (by omega) ?_
      exact ⟨d + 1, [0, 1, 2, 3, 4], hdn, by show c - k - (d + 1) < c - k - d; omega, ⟨rfl, by simp, rfl, rfl, rfl, ⟨rfl, rfl, rfl, rfl, trivial⟩, ⟨rfl, congrArg _ (plc_ren 2 rfl (by decide)), rfl, rfl, rfl, rows_in fun q hq => by simpa [plenAt] using hs q hq, by simp, trivial⟩⟩⟩
  · refine SCmp.no (decide_eq_false (by omega)) ?_
    obtain rfl : d = n - k := by omega
    exact SRet.gw rfl hes (.tup rfl fun i c d e => by simp at e)
end Go.Proofs.YtjfcphohgicolaaGreat

namespace Go.Proofs.YtjfcphohgicolaaGreat
open Go
set_option linter.unusedVariables false
set_option linter.unusedSimpArgs false
set_option maxRecDepth 10000
theorem upd_swS {s : Nat → Nat} {p k : Nat} : upd (upd s k (s p)) p (s k) = swS s p k := by
  funext i
  unfold upd swS
  by_cases e : i = p
  · rw [if_pos e, if_pos e]
  · rw [if_neg e, if_neg e]
    by_cases e2 : i = k
    · rw [if_pos e2, if_pos e2]
    · rw [if_neg e2, if_neg e2]
theorem swS_lt {s : Nat → Nat} {n p k : Nat} (hs : ∀ i, i < n → s i < n) (hp : p < n) (hk : k < n) : ∀ i, i < n → swS s p k i < n := fun i hi => hs _ (swp_lt hp hk hi)
theorem SIdx.perm {n : Nat} {s : Nat → Nat} {i : Int} {K : Nat → PV → Prop} (j : Nat) (hi : i = j) (hj : j < n) (hk : K j (.int .i64 ((s j : Nat) : Int))) : SIdx (permP n s) i K := .mk j _ hi (fl_get hj) hk
theorem SLt.perm {n i : Nat} {s : Nat → Nat} {K : Prop} (h : i < n) (hk : K) : SLt i (permP n s).length K := .mk (by simpa using h) hk
theorem SEs.perm {n i k : Nat} {s : Nat → Nat} {K : List PV → Prop} (hk : K (permP n (upd s i k))) : SEs ((permP n s).set i (.int .i64 ((k : Nat) : Int))) K := .mk _ permP_set hk
theorem gpick_ok (n k : Nat) (G B : Nat → Nat → Rat) (s : Nat → Nat) (es : List (PV × PV)) (q : Rat) (b : Bool) {D : Nat} (hk : k < n) (hn : n ≤ 1000) (hs : ∀ i, i < n → s i < n) (hG : ∀ i j, i < n → j < n → G (s i) j = B i j)
    (hB : ∀ i j, i < n → j < n → Bz (B i j) D) (hD : D + D ≤ 1000000) (hes : ∀ e ∈ es, Pers e.1 ∧ Pers e.2) (hb : b = decide (B (pvt B n k) k ≠ 0)) :
    CallG Tryz.prog 42 [.bptr 0 0, .p (.int .i64 (k : Int))] (gwB n G s es q) (.p (.bool b)) (gwB n G (swS s (pvt B n k) k) es q) := by
  obtain ⟨p1, p2, _⟩ := pvt_spec (B := B) hk
  refine callG_of_vc (wr := wr0) Γok mixed Tryz.func42 (by kernel_rfl) rfl (by kernel_rfl) (le_of_ble rfl) (by simp) ?_
  refine SWrap.i64z ((k + 1 + 0 : Nat) : Int) (by omega) (by omega) ?_
  refine SLoop.mk Nat (fun d => ([(0, .bptr 0 0), (1, .p (.int .i64 k)), (5, .p (.int .i64 (patG B k d : Nat))), (6, .p (.int .i64 ((k + 1 + d : Nat) : Int)))], gwB n G s es q))
    (fun d => k + 1 + d ≤ n) (fun d => n - d) 0 [0, 1, 2, 3, 4] (by show k + 1 + 0 ≤ n; omega) ⟨rfl, by simp, rfl, rfl, rfl, ⟨rfl, rfl, rfl, rfl, trivial⟩, ⟨rfl, congrArg _ (plc_ren 2 rfl (by decide)), rfl, rfl, rfl, rows_in fun q hq => by simpa [plenAt] using hs q hq, by simp, trivial⟩⟩ ?_
  intro d hd
  have hd : k + 1 + d ≤ n := hd
  obtain ⟨a1, a2, _⟩ := patG_spec (B := B) (k := k) d
  refine SZ.mk (n : Int) rfl ?_
  by_cases hdn : k + 1 + d < n
  · refine SCmp.yes (decide_eq_true (by omega)) ?_
    have z1 := hB (k + 1 + d) k hdn hk
    have z2 := hB (patG B k d) k (by omega) hk
    by_cases hgt : (B (patG B k d) k).abs < (B (k + 1 + d) k).abs
    · have e : patG B k (d + 1) = k + 1 + d := if_pos hgt
      refine SDraw.mk (by kernel_rfl) ?_
      repeat refine SOp.mk _ _ (And.intro rfl rfl) rfl ?_
      refine SOp.mk _ _ (SPos.mk (k + 1 + d) rfl hdn (And.intro rfl rfl)) rfl ?_
      refine SOp.mk _ _ (SIdxA.plc (k + 1 + d + 0) rfl (by omega) (And.intro rfl rfl)) rfl ?_
      repeat refine SOp.mk _ _ (And.intro rfl rfl) rfl ?_
      refine SOp.mk _ _ (SPos.mk k rfl hk (And.intro rfl rfl)) rfl ?_
      refine SOp.mk _ _ (SRow.plr (hs _ (by omega)) <| SIdx.rv (k + 0) (B (k + 1 + d) k) rfl (by omega) (hG _ _ (by omega) hk) (And.intro rfl rfl)) rfl ?_
      refine SOp.mk _ _ (SCall.pure (vabs_ok _ z1 (by omega)) (And.intro rfl rfl)) rfl ?_
      repeat refine SOp.mk _ _ (And.intro rfl rfl) rfl ?_
      refine SOp.mk _ _ (SPos.mk (patG B k d) rfl (by omega) (And.intro rfl rfl)) rfl ?_
      refine SOp.mk _ _ (SIdxA.plc (patG B k d + 0) rfl (by omega) (And.intro rfl rfl)) rfl ?_
      repeat refine SOp.mk _ _ (And.intro rfl rfl) rfl ?_
      refine SOp.mk _ _ (SPos.mk k rfl hk (And.intro rfl rfl)) rfl ?_
      refine SOp.mk _ _ (SRow.plr (hs _ (by omega)) <| SIdx.rv (k + 0) (B (patG B k d) k) rfl (by omega) (hG _ _ (by omega) hk) (And.intro rfl rfl)) rfl ?_
      refine SOp.mk _ _ (SCall.pure (vabs_ok _ z2 (by omega)) (And.intro rfl rfl)) rfl ?_
      refine SOp.mk _ _ (SCall.pure (ratcmp_ok _ _ z1.abs.sz z2.abs.sz (by omega)) (And.intro rfl rfl)) rfl ?_
      refine SOp.mk _ _ (SCmp.yes (decide_eq_true (cmpQ_pos.2 hgt)) (And.intro rfl rfl)) rfl ?_
      refine SWrap.i64z ((k + 1 + (d + 1) : Nat) : Int) (by omega) (by omega) ?_
      exact ⟨d + 1, [0, 1, 2, 3, 4], by show k + 1 + (d + 1) ≤ n; omega, by show n - (d + 1) < n - d; omega, ⟨rfl, by simp, rfl, rfl, rfl, ⟨rfl, rfl, congrArg (fun x : Nat => AV.p (.int .i64 (x : Int))) e, rfl, trivial⟩, ⟨rfl, congrArg _ (plc_ren 2 rfl (by decide)), rfl, rfl, rfl, rows_in fun q hq => by simpa [plenAt] using hs q hq, by simp, trivial⟩⟩⟩
    · have e : patG B k (d + 1) = patG B k d := if_neg hgt
      refine SDraw.mk (by kernel_rfl) ?_
      repeat refine SOp.mk _ _ (And.intro rfl rfl) rfl ?_
      refine SOp.mk _ _ (SPos.mk (k + 1 + d) rfl hdn (And.intro rfl rfl)) rfl ?_
      refine SOp.mk _ _ (SIdxA.plc (k + 1 + d + 0) rfl (by omega) (And.intro rfl rfl)) rfl ?_
      repeat refine SOp.mk _ _ (And.intro rfl rfl) rfl ?_
      refine SOp.mk _ _ (SPos.mk k rfl hk (And.intro rfl rfl)) rfl ?_
      refine SOp.mk _ _ (SRow.plr (hs _ (by omega)) <| SIdx.rv (k + 0) (B (k + 1 + d) k) rfl (by omega) (hG _ _ (by omega) hk) (And.intro rfl rfl)) rfl ?_
      refine SOp.mk _ _ (SCall.pure (vabs_ok _ z1 (by omega)) (And.intro rfl rfl)) rfl ?_
      repeat refine SOp.mk _ _ (And.intro rfl rfl) rfl ?_
      refine SOp.mk _ _ (SPos.mk (patG B k d) rfl (by omega) (And.intro rfl rfl)) rfl ?_
      refine SOp.mk _ _ (SIdxA.plc (patG B k d + 0) rfl (by omega) (And.intro rfl rfl)) rfl ?_
      repeat refine SOp.mk _ _ (And.intro rfl rfl) rfl ?_
      refine SOp.mk _ _ (SPos.mk k rfl hk (And.intro rfl rfl)) rfl ?_
      refine SOp.mk _ _ (SRow.plr (hs _ (by omega)) <| SIdx.rv (k + 0) (B (patG B k d) k) rfl (by omega) (hG _ _ (by omega) hk) (And.intro rfl rfl)) rfl ?_
      refine SOp.mk _ _ (SCall.pure (vabs_ok _ z2 (by omega)) (And.intro rfl rfl)) rfl ?_
      refine SOp.mk _ _ (SCall.pure (ratcmp_ok _ _ z1.abs.sz z2.abs.sz (by omega)) (And.intro rfl rfl)) rfl ?_
      refine SOp.mk _ _ (SCmp.no (decide_eq_false (mt cmpQ_pos.1 hgt)) (And.intro rfl rfl)) rfl ?_
      refine SWrap.i64z ((k + 1 + (d + 1) : Nat) : Int) (by omega) (by omega) ?_
      exact ⟨d + 1, [0, 1, 2, 3, 4], by show k + 1 + (d + 1) ≤ n; omega, by show n - (d + 1) < n - d; omega, ⟨rfl, by simp, rfl, rfl, rfl, ⟨rfl, rfl, congrArg (fun x : Nat => AV.p (.int .i64 (x : Int))) e, rfl, trivial⟩, ⟨rfl, congrArg _ (plc_ren 2 rfl (by decide)), rfl, rfl, rfl, rows_in fun q hq => by simpa [plenAt] using hs q hq, by simp, trivial⟩⟩⟩
  · refine SCmp.no (decide_eq_false (by omega)) ?_
    have e : patG B k d = pvt B n k := by unfold pvt; rw [show n - 1 - k = d by omega]
    rw [e]
    generalize hp : pvt B n k = p at p1 p2 hb ⊢
    have hs' := swS_lt hs p2 hk
    refine SDraw.mkX (by kernel_rfl) ?_
    repeat refine SOp.mk _ _ (And.intro rfl rfl) rfl ?_
    refine SOp.mk _ _ (SPos.mk p rfl p2 (And.intro rfl rfl)) rfl ?_
    refine SOp.mk _ _ (SIdxA.plc (p + 0) rfl p2 (And.intro rfl rfl)) rfl ?_
    repeat refine SOp.mk _ _ (And.intro rfl rfl) rfl ?_
    refine SOp.mk _ _ (SPos.mk k rfl hk (And.intro rfl rfl)) rfl ?_
    refine SOp.mk _ _ (SIdxA.plc (k + 0) rfl hk (And.intro rfl rfl)) rfl ?_
    refine SOp.mk _ _ (SPos.mk k rfl hk (And.intro rfl rfl)) rfl ?_
    refine SOp.mk _ _ (SLt.plc hk <| SAs.plc (And.intro rfl rfl)) rfl ?_
    refine SOp.mk _ _ (SPos.mk p rfl p2 (And.intro rfl rfl)) rfl ?_
    refine SOp.mk _ _ (SLt.plc p2 <| SAs.plc (And.intro rfl rfl)) rfl ?_
    refine SFin.mk (by kernel_rfl) ?_
    refine SDraw.mkX (by kernel_rfl) ?_
    repeat refine SOp.mk _ _ (And.intro rfl rfl) rfl ?_
    refine SOp.mk _ _ (SPos.mk p rfl p2 (And.intro rfl rfl)) rfl ?_
    refine SOp.mk _ _ (SIdx.perm p rfl p2 (And.intro rfl rfl)) rfl ?_
    repeat refine SOp.mk _ _ (And.intro rfl rfl) rfl ?_
    refine SOp.mk _ _ (SPos.mk k rfl hk (And.intro rfl rfl)) rfl ?_
    refine SOp.mk _ _ (SIdx.perm k rfl hk (And.intro rfl rfl)) rfl ?_
    refine SOp.mk _ _ (SPos.mk k rfl hk (And.intro rfl rfl)) rfl ?_
    refine SOp.mk _ _ (SLt.perm hk <| SEs.perm (And.intro rfl rfl)) rfl ?_
    refine SOp.mk _ _ (SPos.mk p rfl p2 (And.intro rfl rfl)) rfl ?_
    refine SOp.mk _ _ (SLt.perm p2 <| SEs.perm (And.intro rfl rfl)) rfl ?_
    refine SFin.mk (by kernel_rfl) ?_
    refine SPos.mk k rfl hk ?_
    refine SIdxA.plc (k + 0) rfl hk ?_
    refine SPos.mk k rfl hk ?_
    have eg : G (upd (upd s k (s p)) p (s k) k) k = B p k := by
      rw [upd_swS]
      show G (s (if k = p then k else if k = k then p else k)) k = _
      by_cases c : k = p
      · rw [if_pos c, hG k k hk hk, c]
      · rw [if_neg c, if_pos rfl, hG p k p2 hk]
    have el : upd (upd s k (s p)) p (s k) k < n := by rw [upd_swS]; exact hs' k hk
    refine SRow.plr el ?_
    refine SIdx.rv (k + 0) (B p k) rfl hk eg ?_
    refine SZ.mk (nlen (B p k).num.natAbs : Int) (by simp) ?_
    by_cases hz : B p k = 0
    · refine SCmp.no (decide_eq_false (by rw [nlen0 hz]; decide)) ?_
      have hb : b = false := by rw [hb]; exact decide_eq_false (fun h => h hz)
      subst hb
      rw [← upd_swS]
      exact SRet.gw rfl hes (.tf _)
    · refine SCmp.yes (decide_eq_true (by have := nlen1 hz; omega)) ?_
      have hb : b = true := by rw [hb]; exact decide_eq_true hz
      subst hb
      rw [← upd_swS]
      exact SRet.gw rfl hes (.tf _)
end Go.Proofs.YtjfcphohgicolaaGreat

namespace Go.Proofs.YtjfcphohgicolaaGreat
open Go
set_option linter.unusedVariables false
set_option linter.unusedSimpArgs false
set_option maxRecDepth 10000
abbrev gtE (s : Nat → Nat) (P : Nat → Nat → Rat) (k d : Nat) : PV × PV := (pairP (s (k + 1 + d)) k, ratP (P (k + 1 + d) k / P k k))
/-- Entries by rows and columns, of columns ahead of one. -/
def KeyB (es : List (PV × PV)) (k : Nat) : Prop := ∀ e ∈ es, ∃ r j v, e = (pairP r j, ratP v) ∧ j < k
theorem KeyB.pers {es : List (PV × PV)} {k : Nat} (h : KeyB es k) : ∀ e ∈ es, Pers e.1 ∧ Pers e.2 := fun e he => by
  obtain ⟨r, j, v, rfl, _⟩ := h e he
  exact ⟨pers_pair _ _, pers_rat _ _ _⟩
theorem KeyB.app {es : List (PV × PV)} {k d : Nat} {s : Nat → Nat} {P : Nat → Nat → Rat} (h : KeyB es k) : KeyB (es ++ fl d (gtE s P k)) (k + 1) := fun e he => by
  rcases List.mem_append.1 he with he | he
  · obtain ⟨r, j, v, e, hj⟩ := h e he
    exact ⟨r, j, v, e, by omega⟩
  · obtain ⟨d, _, rfl⟩ := fl_mem he
    exact ⟨_, _, _, rfl, by omega⟩
theorem SKeys.kb {b : PV → Bool} {es : List (PV × PV)} {k : Nat} {K : Prop} (h : KeyB es k) (hb : ∀ i k : Nat, b (pairP i k) = true) (hK : K) : SKeys b es K :=
  .mk (fun e he => by obtain ⟨r, j, v, rfl, _⟩ := h e he; exact hb _ _) hK
theorem SPut.kb {es : List (PV × PV)} {n k d i : Nat} {s : Nat → Nat} {P : Nat → Nat → Rat} {v : PV} {K : List (PV × PV) → Prop} (h : KeyB es k) (inj : ∀ i j, i < n → j < n → s i = s j → i = j) (hi : i = k + 1 + d) (hd : i < n) (hv : v = ratP (P i k / P k k))
    (hK : K (es ++ fl (d + 1) (gtE s P k))) : SPut (es ++ fl d (gtE s P k)) (pairP (s i) k) v K := by
  subst hv; subst hi
  refine .new _ (fun e he => ?_) (by rw [List.append_assoc, fl_snoc]) hK
  rcases List.mem_append.1 he with he | he
  · obtain ⟨r, j, v, rfl, hj⟩ := h e he
    rw [keq_pair]; exact decide_eq_false fun h => by omega
  · obtain ⟨d', hd', rfl⟩ := fl_mem he
    rw [keq_pair]; exact decide_eq_false fun ⟨h, _⟩ => by have := inj _ _ hd (by omega) h; omega
set_option maxHeartbeats 1000000 in
theorem gclean_ok (n k : Nat) (G P : Nat → Nat → Rat) (s si : Nat → Nat) (es : List (PV × PV)) (q : Rat) {D : Nat} (hk : k < n) (hn : n ≤ 1000) (hs : ∀ i, i < n → s i < n) (inj : ∀ i j, i < n → j < n → s i = s j → i = j)
    (hsi : ∀ r, r < n → si r < n ∧ s (si r) = r) (hG : ∀ i j, i < n → j < n → G (s i) j = P i j) (hP : ∀ i j, i < n → j < n → Bz (P i j) D) (hD : 4 * D + 1 ≤ 1000000) (hp : P k k ≠ 0) (hes : KeyB es k) :
    CallG Tryz.prog 43 [.bptr 0 0, .p (.int .i64 (k : Int))] (gwB n G s es q) (.tup []) (gwB n (fun r j => redA P k (si r) j) s (es ++ fl (n - 1 - k) (gtE s P k)) q) := by
  refine callG_of_vc (wr := wr0) Γok mixed Tryz.func43 (by kernel_rfl) rfl (by kernel_rfl) (le_of_ble rfl) (by simp) ?_
  refine SWrap.i64z ((k + 1 : Nat) : Int) (by omega) (by omega) ?_
  refine SLoop.mk (Nat × Nat × (Nat → Nat → Rat)) (fun (i, d, G) => ([(0, .bptr 0 0), (1, .p (.int .i64 k)), (4, .p (.int .i64 (i : Nat)))], gwB n G s (es ++ fl d (gtE s P k)) q))
    (fun (i, d, G) => i = k + 1 + d ∧ i ≤ n ∧ ∀ t c, t < n → c < n → G (s t) c = if t < i then redA P k t c else P t c) (fun x => n - x.1) (k + 1, 0, G) [0, 1, 2, 3, 4]
    ⟨rfl, by omega, fun t c ht hc => by
      rw [hG t c ht hc]
      split
      · unfold redA; rw [if_neg (by omega)]
      · rfl⟩ ⟨rfl, by simp, rfl, rfl, rfl, ⟨rfl, rfl, rfl, trivial⟩, ⟨rfl, congrArg _ (plc_ren 2 rfl (by decide)), rfl, rfl, congrArg Blk.map (List.append_nil _), rows_in fun q hq => by simpa [plenAt] using hs q hq, by simp, trivial⟩⟩ ?_
  intro ⟨i, d, G1⟩ ⟨hi, hd, hG1⟩
  refine SZ.mk (n : Int) rfl ?_
  by_cases hin : i < n
  · refine SCmp.yes (decide_eq_true (by omega)) ?_
    have gi : ∀ c, c < n → G1 (s i) c = P i c := fun c hc => by rw [hG1 i c (by omega) hc, if_neg (by omega)]
    have gk : ∀ c, c < n → G1 (s k) c = P k c := fun c hc => by rw [hG1 k c hk hc, if_pos (by omega)]; unfold redA; rw [if_neg (Nat.lt_irrefl k)]
    have z1 := hP i k hin hk
    have z2 := hP k k hk hk
    have zq := z1.div z2
    have hq := quo_ok (P i k) (P k k) hp z1.sz z2.sz (by omega)
    obtain ⟨Q, hQ⟩ : ∃ Q, Q = P i k / P k k := ⟨_, rfl⟩
    rw [← hQ] at zq hq
    refine SDraw.mkX (by kernel_rfl) ?_
    repeat refine SOp.mk _ _ (And.intro rfl rfl) rfl ?_
    refine SOp.mk _ _ (SPos.mk i rfl hin (And.intro rfl rfl)) rfl ?_
    refine SOp.mk _ _ (SIdxA.plc (i + 0) rfl hin (And.intro rfl rfl)) rfl ?_
    repeat refine SOp.mk _ _ (And.intro rfl rfl) rfl ?_
    refine SOp.mk _ _ (SPos.mk k rfl hk (And.intro rfl rfl)) rfl ?_
    refine SOp.mk _ _ (SRow.plr (hs _ hin) <| SIdx.rv (k + 0) (P i k) rfl hk (gi k hk) (And.intro rfl rfl)) rfl ?_
    repeat refine SOp.mk _ _ (And.intro rfl rfl) rfl ?_
    refine SOp.mk _ _ (SPos.mk k rfl hk (And.intro rfl rfl)) rfl ?_
    refine SOp.mk _ _ (SIdxA.plc (k + 0) rfl hk (And.intro rfl rfl)) rfl ?_
    repeat refine SOp.mk _ _ (And.intro rfl rfl) rfl ?_
    refine SOp.mk _ _ (SPos.mk k rfl hk (And.intro rfl rfl)) rfl ?_
    refine SOp.mk _ _ (SRow.plr (hs _ hk) <| SIdx.rv (k + 0) (P k k) rfl hk (gk k hk) (And.intro rfl rfl)) rfl ?_
    refine SOp.mk _ _ (SCall.pureT (hq) (fun _ => rfl) (And.intro rfl rfl)) rfl ?_
    repeat refine SOp.mk _ _ (And.intro rfl rfl) rfl ?_
    refine SFin.mk (by kernel_rfl) ?_
    refine SDraw.mkX (by kernel_rfl) ?_
    repeat refine SOp.mk _ _ (And.intro rfl rfl) rfl ?_
    refine SOp.mk _ _ (SPos.mk i rfl hin (And.intro rfl rfl)) rfl ?_
    refine SOp.mk _ _ (SIdx.perm (i + 0) rfl hin (And.intro rfl rfl)) rfl ?_
    repeat refine SOp.mk _ _ (And.intro rfl rfl) rfl ?_
    refine SOp.mk _ _ (SKeys.kb hes.app (fun _ _ => rfl) <| SPut.kb (P := P) hes inj hi hin (congrArg ratP hQ) (And.intro rfl rfl)) rfl ?_
    refine SFin.mk (by kernel_rfl) ?_
    refine SPos.mk i rfl hin ?_
    refine SIdxA.plc (i + 0) rfl hin ?_
    refine SZ.mk (n : Int) rfl ?_
    refine SLoop.mk (Nat × (Nat → Nat → Rat)) (fun (c, G) => ([(0, .bptr 0 0), (1, .p (.int .i64 k)), (4, .p (.int .i64 (i : Nat))), (5, .bptr 5 0), (64, .p (.int .i64 n)), (65, .p (.int .i64 (c : Nat)))], gwB n G s (es ++ fl (d + 1) (gtE s P k)) q ++ [.box 31 (bxQ Q)]))
      (fun (c, G) => c ≤ n ∧ ∀ t x, t < n → x < n → G (s t) x = if t = i then (if x < c then redA P k i x else P i x) else G1 (s t) x) (fun x => n - x.1) (0, G1) [0, 1, 2, 3, 4, 5]
      ⟨Nat.zero_le _, fun t x ht hx => by
        by_cases e : t = i
        · rw [if_pos e, if_neg (Nat.not_lt_zero _), e]; exact gi x hx
        · rw [if_neg e]⟩ ⟨rfl, by simp, rfl, rfl, rfl, ⟨rfl, rfl, rfl, rfl, rfl, rfl, trivial⟩, ⟨rfl, congrArg _ (plc_ren 2 rfl (by decide)), rfl, rfl, rfl, rfl, rows_in fun q hq => by simpa [plenAt] using hs q hq, by simp, trivial⟩⟩ ?_
    intro ⟨c, G2⟩ ⟨hc, hG2⟩
    by_cases hcn : c < n
    · refine SCmp.yes (decide_eq_true (by omega)) ?_
      have di : G2 (s i) c = P i c := by rw [hG2 i c hin hcn, if_pos rfl, if_neg (Nat.lt_irrefl c)]
      have dk : G2 (s k) c = P k c := by rw [hG2 k c hk hcn, if_neg (by omega)]; exact gk c hcn
      have z3 := hP i c hin hcn
      have z4 := hP k c hk hcn
      refine SDraw.mkX (by kernel_rfl) ?_
      repeat refine SOp.mk _ _ (And.intro rfl rfl) rfl ?_
      refine SOp.mk _ _ (SPos.mk i rfl hin (And.intro rfl rfl)) rfl ?_
      refine SOp.mk _ _ (SIdxA.plc (i + 0) rfl hin (And.intro rfl rfl)) rfl ?_
      repeat refine SOp.mk _ _ (And.intro rfl rfl) rfl ?_
      refine SOp.mk _ _ (SPos.mk i rfl hin (And.intro rfl rfl)) rfl ?_
      refine SOp.mk _ _ (SIdxA.plc (i + 0) rfl hin (And.intro rfl rfl)) rfl ?_
      repeat refine SOp.mk _ _ (And.intro rfl rfl) rfl ?_
      refine SOp.mk _ _ (SPos.mk c rfl hcn (And.intro rfl rfl)) rfl ?_
      refine SOp.mk _ _ (SRow.plr (hs _ hin) <| SIdx.rv (c + 0) (P i c) rfl hcn di (And.intro rfl rfl)) rfl ?_
      repeat refine SOp.mk _ _ (And.intro rfl rfl) rfl ?_
      refine SOp.mk _ _ (SPos.mk k rfl hk (And.intro rfl rfl)) rfl ?_
      refine SOp.mk _ _ (SIdxA.plc (k + 0) rfl hk (And.intro rfl rfl)) rfl ?_
      repeat refine SOp.mk _ _ (And.intro rfl rfl) rfl ?_
      refine SOp.mk _ _ (SPos.mk c rfl hcn (And.intro rfl rfl)) rfl ?_
      refine SOp.mk _ _ (SRow.plr (hs _ hk) <| SIdx.rv (c + 0) (P k c) rfl hcn dk (And.intro rfl rfl)) rfl ?_
      refine SOp.mk _ _ (SCall.pure (ratmul_ok Q (P k c) zq.sz z4.sz (by omega)) (And.intro rfl rfl)) rfl ?_
      refine SOp.mk _ _ (SCall.pure (ratsub_ok (P i c) (Q * P k c) z3.sz (zq.mul z4).sz (by omega)) (And.intro rfl rfl)) rfl ?_
      refine SOp.mk _ _ (SPos.mk c rfl hcn (And.intro rfl rfl)) rfl ?_
      refine SOp.mk _ _ (SRow.plr (hs _ hin) <| SLt.rf (show c + 0 < n by omega) <| SEs.rf (And.intro rfl rfl)) rfl ?_
      refine SPool.plr (hs _ hin) ?_
      refine SFin.mk (by kernel_rfl) ?_
      refine SWrap.i64z ((c + 1 : Nat) : Int) (by omega) (by omega) ?_
      refine ⟨(c + 1, _), [0, 1, 2, 3, 4, 5], ⟨hcn, ?_⟩, by show n - (c + 1) < n - c; omega, ⟨rfl, by simp, rfl, rfl, rfl, ⟨rfl, rfl, rfl, rfl, rfl, rfl, trivial⟩, ⟨rfl, congrArg _ (plc_ren 2 rfl (by decide)), rfl, rfl, rfl, rfl, rows_in fun q hq => by simpa [plenAt] using hs q hq, by simp, trivial⟩⟩⟩
      exact upd2_step inj hin hcn hG2 (by rw [hQ]; exact (if_pos (by omega)).symm)
    · refine SCmp.no (decide_eq_false (by omega)) ?_
      obtain rfl : c = n := by omega
      refine SWrap.i64z ((i + 1 : Nat) : Int) (by omega) (by omega) ?_
      refine ⟨(i + 1, d + 1, G2), [0, 1, 2, 3, 4], ⟨by omega, hin, fun t x ht hx => ?_⟩, by show c - (i + 1) < c - i; omega, ⟨rfl, by simp, rfl, rfl, rfl, ⟨rfl, rfl, rfl, trivial⟩, ⟨rfl, congrArg _ (plc_ren 2 rfl (by decide)), rfl, rfl, rfl, rows_in fun q hq => by simpa [plenAt] using hs q hq, by simp, trivial⟩⟩⟩
      rw [hG2 t x ht hx]
      by_cases e : t = i
      · rw [if_pos e, if_pos hx, if_pos (by omega), e]
      · rw [if_neg e, hG1 t x ht hx]
        by_cases e2 : t < i
        · rw [if_pos e2, if_pos (by omega)]
        · rw [if_neg e2, if_neg (by omega)]
  · refine SCmp.no (decide_eq_false (by omega)) ?_
    obtain rfl : d = n - 1 - k := by omega
    have e : plr n n G1 = plr n n fun r j => redA P k (si r) j := plr_congr fun r j hr hj => by
      obtain ⟨h1, h2⟩ := hsi r hr
      have := hG1 (si r) j h1 hj
      rw [h2, if_pos (by omega)] at this
      exact this
    exact SRet.gw (congrArg (fun x => [Blk.box 74 (gwA n q), .rows 24 (plc 2 n n s), .pool 31 3 x, .vec 3 1 (permP n s), .map (es ++ fl (n - 1 - k) (gtE s P k))]) e) hes.app.pers (.tup rfl fun i c d e => by simp at e)
end Go.Proofs.YtjfcphohgicolaaGreat

namespace Go.Proofs.YtjfcphohgicolaaGreat
open Go
set_option linter.unusedVariables false
set_option linter.unusedSimpArgs false
set_option maxRecDepth 10000
theorem kbelow_ok (i j : Nat) : CallP Tryz.prog 80 [pairP i j] (.p (.bool (decide (j < i)))) [] := by
  by_cases c : j < i
  · rw [decide_eq_true c]
    refine callG_of_vc (wr := wr0) Γok mixed Tryz.func80 (by kernel_rfl) rfl (by kernel_rfl) (le_of_ble rfl) (by simp) ?_
    refine SZ.mk (i : Int) (by show (if (j : Int) > i then (j : Int) else i) = i; split <;> omega) ?_
    have h1 : ((i : Int) == (i : Int)) = true := eqT rfl
    have h2 : ((j : Int) == (i : Int)) = false := eqF (by omega)
    refine SCmp.yes (by rw [h1, h2]; rfl) ?_
    refine SCmp.yes (decide_eq_true (by omega)) ?_
    exact SRet.pure (.tf _)
  · rw [decide_eq_false c]
    refine callG_of_vc (wr := wr0) Γok mixed Tryz.func80 (by kernel_rfl) rfl (by kernel_rfl) (le_of_ble rfl) (by simp) ?_
    refine SZ.mk (j : Int) (by show (if (j : Int) > i then (j : Int) else i) = j; split <;> omega) ?_
    have h1 : ((i : Int) == (i : Int)) = true := eqT rfl
    have h2 : ((j : Int) == (j : Int)) = true := eqT rfl
    refine SCmp.no (by rw [h1, h2]; rfl) ?_
    exact SRet.pure (.tf _)
def gtk (n : Nat) (A : Nat → Nat → Rat) : Nat → List (PV × PV)
  | 0 => []
  | k + 1 => gtk n A k ++ fl (n - 1 - k) (gtE (gk n A (k + 1)).s (gkP n A k) k)
theorem gtk_key {n : Nat} {A : Nat → Nat → Rat} : ∀ k, KeyB (gtk n A k) k := by
  intro k
  induction k with
  | zero => intro e he; simp [gtk] at he
  | succ k ih => exact ih.app
theorem gtk_get {n : Nat} {A : Nat → Nat → Rat} : ∀ k, k ≤ n → ∀ i j, i < n → j < i → j < k → ∃ a : Nat, (gtk n A k)[a]? = some (pairP ((gk n A k).s i) j, ratP ((gk n A k).M i j)) ∧
    ∀ (b : Nat) e', b ≠ a → (gtk n A k)[b]? = some e' → PV.keq (pairP ((gk n A k).s i) j) e'.1 = false := by
  intro k
  induction k with
  | zero => intro _ i j _ _ h; exact absurd h (Nat.not_lt_zero _)
  | succ k ih =>
    intro hk i j hi hji hjk
    obtain ⟨p1, p2, _⟩ := pvt_spec (B := (gk n A k).B) (n := n) (k := k) (by omega)
    obtain ⟨_, inj, _⟩ := gk_perm (n := n) (A := A) (k + 1) hk
    have news : ∀ (b : Nat) e', (fl (n - 1 - k) (gtE (gk n A (k + 1)).s (gkP n A k) k))[b]? = some e' → ∃ d, d = b ∧ k + 1 + d < n ∧ e' = gtE (gk n A (k + 1)).s (gkP n A k) k d := fun b e' he => by
      obtain ⟨hb, rfl⟩ := fl_get_iff.1 he
      exact ⟨b, rfl, by omega, rfl⟩
    simp only [gtk]
    by_cases e : j = k
    · subst e
      have eM : (gk n A (j + 1)).M i j = gkP n A j i j / gkP n A j j j := by rw [gk_succ]; show mulS _ _ j i j = _; unfold mulS; rw [if_pos rfl, if_pos hji]
      refine ⟨(gtk n A j).length + (i - (j + 1)), ?_, fun b e' hb he => ?_⟩
      · rw [List.getElem?_append_right (by omega), show (gtk n A j).length + (i - (j + 1)) - (gtk n A j).length = i - (j + 1) by omega, fl_get (by omega), eM]
        simp only [gtE]
        rw [show j + 1 + (i - (j + 1)) = i by omega]
      · by_cases hl : b < (gtk n A j).length
        · rw [List.getElem?_append_left hl] at he
          obtain ⟨r, j', v, rfl, hj'⟩ := gtk_key j e' (List.mem_of_getElem? he)
          rw [keq_pair]; exact decide_eq_false fun h => by omega
        · rw [List.getElem?_append_right (by omega)] at he
          obtain ⟨d, hd, hdn, rfl⟩ := news _ _ he
          rw [keq_pair]
          exact decide_eq_false fun ⟨h, _⟩ => by have := inj _ _ hi hdn h; omega
    · have hi' := swp_lt p2 (show k < n by omega) hi
      have hji' : j < (if i = pvt (gk n A k).B n k then k else if i = k then pvt (gk n A k).B n k else i) := by
        by_cases c : i < k
        · rw [swp_low p1 c]; exact hji
        · have := swp_ge' p1 (show k ≤ i by omega); omega
      obtain ⟨a, h1, h2⟩ := ih (by omega) _ j hi' hji' (by omega)
      have eS : (gk n A (k + 1)).s i = (gk n A k).s (if i = pvt (gk n A k).B n k then k else if i = k then pvt (gk n A k).B n k else i) := by rw [gk_succ]; rfl
      have eM : (gk n A (k + 1)).M i j = (gk n A k).M (if i = pvt (gk n A k).B n k then k else if i = k then pvt (gk n A k).B n k else i) j := by rw [gk_succ]; exact if_neg e
      have hl := (List.getElem?_eq_some_iff.1 h1).1
      refine ⟨a, by rw [List.getElem?_append_left hl, eS, eM]; exact h1, fun b e' hb he => ?_⟩
      by_cases hl : b < (gtk n A k).length
      · rw [List.getElem?_append_left hl] at he; rw [eS]; exact h2 b e' hb he
      · rw [List.getElem?_append_right (by omega)] at he
        obtain ⟨d, hd, hdn, rfl⟩ := news _ _ he
        rw [keq_pair]; exact decide_eq_false fun h => by omega
/-- What is worked on, lent. -/
abbrev gkPtr (n : Nat) (rows : List PV) (s : Nat → Nat) (es : List (PV × PV)) (q : Rat) : PV := .pel true (.agg [.sl true 1 rows, .sl true 1 (permP n s), .mp true es, .bool (decide (q.num < 0)), natP q.num.natAbs, natP q.den])
theorem glower_ok (n : Nat) (A : Nat → Nat → Rat) (rows : List PV) (q : Rat) {D : Nat} (i j : Nat) (hi : i < n) (hj : j < n) (hz : Bz (gL n A i j) D) (hD : D ≤ 1000000) :
    CallP Tryz.prog 45 [gkPtr n rows (gO n A) (gtk n A n) q, pairP i j] (.p (ratP (gL n A i j))) [] := by
  by_cases e : i = j
  · subst e
    rw [gL_diag hi]
    refine callG_of_vc (wr := wr0) Γok mixed Tryz.func45 (by kernel_rfl) rfl (by kernel_rfl) (le_of_ble rfl) (by simp) ?_
    refine SCmp.yes (eqT rfl) ?_
    refine SCall.pure (kone_ok) ?_
    exact SRet.pure (.p _ (pers_rat _ _ _))
  · have hb := kbelow_ok i j
    by_cases c : j < i
    · rw [decide_eq_true c] at hb
      obtain ⟨a, h1, h2⟩ := gtk_get (A := A) n (Nat.le_refl _) i j hi c hj
      refine callG_of_vc (wr := wr0) Γok mixed Tryz.func45 (by kernel_rfl) rfl (by kernel_rfl) (le_of_ble rfl) (by simp) ?_
      refine SCmp.no (eqF (by omega)) ?_
      refine SCall.pure (hb) ?_
      refine SCond.mk (fun _ => ?_) (fun h => by cases h)
      refine SDraw.mkX (by kernel_rfl) ?_
      repeat refine SOp.mk _ _ (And.intro rfl rfl) rfl ?_
      refine SOp.mk _ _ (SIdx.perm i rfl hi (And.intro rfl rfl)) rfl ?_
      repeat refine SOp.mk _ _ (And.intro rfl rfl) rfl ?_
      refine SOp.mk _ _ (SKeys.kb (gtk_key n) (fun _ _ => rfl) <| SGet.yes a _ h1 (by rw [keq_pair]; exact decide_eq_true ⟨rfl, rfl⟩) h2 (And.intro rfl rfl)) rfl ?_
      refine SOp.mk _ _ (SCall.pure (kzero_ok) (And.intro rfl rfl)) rfl ?_
      refine SOp.mk _ _ (SCall.pure (gcopy_ok hz hD) (And.intro rfl rfl)) rfl ?_
      repeat refine SOp.mk _ _ (And.intro rfl rfl) rfl ?_
      refine SFin.mk (by kernel_rfl) ?_
      exact SRet.pure (.p _ (pers_rat _ _ _))
    · rw [decide_eq_false c] at hb
      rw [gL_up hi (by omega)]
      refine callG_of_vc (wr := wr0) Γok mixed Tryz.func45 (by kernel_rfl) rfl (by kernel_rfl) (le_of_ble rfl) (by simp) ?_
      refine SCmp.no (eqF (by omega)) ?_
      refine SCall.pure (hb) ?_
      refine SCond.mk (fun h => by cases h) (fun _ => ?_)
      refine SCall.pure (kzero_ok) ?_
      exact SRet.pure (.p _ (pers_rat _ _ _))
abbrev halv (p c n k q c' : Nat) : List AV := fl n fun i => if i < k then .vec (.r p i) 3 0 c else if i = k then .vec (.t q) 3 0 c' else .emp
theorem half_get {p c n k : Nat} (h : k < n) : (half p c n k)[k]? = some .emp := by rw [fl_get h, if_neg (Nat.lt_irrefl k)]
theorem half_setv {p c n k q c' : Nat} : (half p c n k).set k (.vec (.t q) 3 0 c') = halv p c n k q c' := by
  rw [fl_set]
  refine fl_congr fun i _ => ?_
  unfold upd
  by_cases e : i = k
  · rw [if_pos e, if_neg (by omega), if_pos e]
  · rw [if_neg e]
    show (if i < k then AV.vec (.r p i) 3 0 c else .emp) = _
    by_cases e2 : i < k
    · rw [if_pos e2, if_pos e2]
    · rw [if_neg e2, if_neg e2, if_neg e]
theorem halv_get {p c n k q c' : Nat} (h : k < n) : (halv p c n k q c')[k]? = some (.vec (.t q) 3 0 c') := by rw [fl_get h, if_neg (Nat.lt_irrefl k), if_pos rfl]
theorem halv_set {p c n k q c' q2 c2 : Nat} : (halv p c n k q c').set k (.vec (.t q2) 3 0 c2) = halv p c n k q2 c2 := by
  rw [fl_set]
  refine fl_congr fun i _ => ?_
  unfold upd
  by_cases e : i = k
  · rw [if_pos e, if_neg (by omega), if_pos e]
  · rw [if_neg e]
    show (if i < k then AV.vec (.r p i) 3 0 c else if i = k then AV.vec (.t q) 3 0 c' else .emp) = _
    by_cases e2 : i < k
    · rw [if_pos e2, if_pos e2]
    · rw [if_neg e2, if_neg e2, if_neg e, if_neg e]
theorem halv_ren {hs : List Nat} {P : Hp} {p c n k q c' : Nat} (p' q' : Nat) (hp : hs.getD p 0 = p') (hp' : p' < 1000) (hq : hs.getD q 0 = q') (hq' : q' < 1000) : AV.renL (renW hs P) (halv p c n k q c') = halv p' c n k q' c' := by
  rw [renL_fl]
  refine fl_congr fun i hi => ?_
  have eb : Nat.blt p' 1000 = true := blt_iff.2 hp'
  have ec : Nat.blt q' 1000 = true := blt_iff.2 hq'
  by_cases e : i < k
  · rw [if_pos e, if_pos e]; simp only [AV.ren, renW, hp, eb, cond_true]
  · rw [if_neg e, if_neg e]
    by_cases e2 : i = k
    · rw [if_pos e2, if_pos e2]; simp only [AV.ren, renW, hq, ec, cond_true]; rw [show ptop q' = q' from Nat.mod_eq_of_lt hq']
    · rw [if_neg e2, if_neg e2]; simp only [AV.ren]
theorem half_ren {hs : List Nat} {P : Hp} {p c n k : Nat} (p' : Nat) (hp : hs.getD p 0 = p') (hp' : p' < 1000) : AV.renL (renW hs P) (half p c n k) = half p' c n k := by
  rw [renL_fl]
  refine fl_congr fun i hi => ?_
  have eb : Nat.blt p' 1000 = true := blt_iff.2 hp'
  by_cases e : i < k
  · rw [if_pos e, if_pos e]; simp only [AV.ren, renW, hp, eb, cond_true]
  · rw [if_neg e, if_neg e]; simp only [AV.ren]
theorem halv_in {P : Hp} {p c n k q c' : Nat} (h : ∀ i, i < k → i < plenAt P p) (hq : look P (.t q) ≠ .free) : ∀ x ∈ halv p c n k q c', ∀ h, x.men h → look P h ≠ .free := by
  intro x hx g hg
  obtain ⟨i, hi, rfl⟩ := fl_mem hx
  by_cases e : i < k
  · rw [if_pos e] at hg
    simp only [AV.men] at hg
    subst hg
    exact look_row (h i e)
  · rw [if_neg e] at hg
    by_cases e2 : i = k
    · rw [if_pos e2] at hg
      simp only [AV.men] at hg
      subst hg; exact hq
    · rw [if_neg e2] at hg; exact hg.elim
theorem gown_ok (m m' : Bool) (n : Nat) (A : Nat → Nat → Rat) {D : Nat} (n1 : 1 ≤ n) (hn : n ≤ 1000) (hA : ∀ i j, i < n → j < n → Bz (A i j) D) (hD : D ≤ 1000000) :
    CallP Tryz.prog 44 [matP m m' n n A] (.p (matP false false n n A)) [] := by
  refine callG_of_vc (wr := wr0) Γok mixed Tryz.func44 (by kernel_rfl) rfl (by kernel_rfl) (le_of_ble rfl) (by simp) ?_
  refine SZ.mk (n : Int) (by simp) ?_
  refine SZ.mk (n : Int) rfl ?_
  refine SLt.mk (by simp) ?_
  refine SMake.mk n rfl (by simp; omega) (by omega) ?_
  refine SMk.rows ?_
  refine SZ.mk (n : Int) (by simp) ?_
  refine SLoop.mkT Nat (fun i => ([(0, .p (matP m m' n n A)), (3, .vec 0 1 0 n), (11, .p (.int .i64 n)), (12, .p (.int .i64 (i : Nat)))], [.rows 24 (half 1 n n i), .pool 31 3 (plr i n A)]))
    (fun i => i ≤ n) (fun i => n - i) 0 [0, 1] _ _ (.pool 31 3 (.done _ _)) (Nat.zero_le _) ⟨rfl, by simp, rfl, rfl, rfl, ⟨rfl, rfl, rfl, rfl, trivial⟩, ⟨congrArg _ half_ren0, rfl, half_in fun i hi => absurd hi (Nat.not_lt_zero _), trivial⟩⟩ ?_
  intro i hi
  have hi : i ≤ n := hi
  by_cases hin : i < n
  · refine SCmp.yes (decide_eq_true (by omega)) ?_
    refine SIdx.mf i rfl hin ?_
    refine SZ.mk (n : Int) (by simp [lst]) ?_
    refine SLoop.mk Nat (fun j => match j with
        | 0 => ([(0, .p (matP m m' n n A)), (3, .vec 0 1 0 n), (4, .p (.int .i64 (i : Nat))), (11, .p (.int .i64 n)), (12, .p (.int .i64 (i : Nat))), (18, .p (ratsM m' (lst n (A i)))), (19, .p (.int .i64 n)), (20, .p (.int .i64 0))], [.rows 24 (half 1 n n i), .pool 31 3 (plr i n A)])
        | j + 1 => ([(0, .p (matP m m' n n A)), (3, .vec 0 1 0 n), (4, .p (.int .i64 (i : Nat))), (11, .p (.int .i64 n)), (12, .p (.int .i64 (i : Nat))), (18, .p (ratsM m' (lst n (A i)))), (19, .p (.int .i64 n)), (20, .p (.int .i64 ((j + 1 : Nat) : Int)))], [.rows 24 (halv 1 n n i 2 (j + 1)), .pool 31 3 (plr i n A), .vec 31 3 (rats (lst (j + 1) (A i)))]))
      (fun j => j ≤ n) (fun j => n - j) 0 [0, 1] (Nat.zero_le _) ⟨rfl, by simp, rfl, rfl, rfl, ⟨rfl, rfl, rfl, rfl, rfl, rfl, rfl, rfl, trivial⟩, ⟨congrArg _ (half_ren 1 rfl (by decide)), rfl, half_in fun i hi => by simpa [plenAt] using hi, trivial⟩⟩ ?_
    intro j hj
    match j, hj with
    | 0, hj =>
      refine SCmp.yes (decide_eq_true (by omega)) ?_
      refine SIdx.rf 0 rfl (by omega) ?_
      refine SDraw.mkX (by kernel_rfl) ?_
      repeat refine SOp.mk _ _ (And.intro rfl rfl) rfl ?_
      refine SOp.mk _ _ (SPos.mk i rfl hin (And.intro rfl rfl)) rfl ?_
      refine SOp.mk _ _ (SIdxA.mk (i + 0) _ rfl (half_get hin) (And.intro rfl rfl)) rfl ?_
      repeat refine SOp.mk _ _ (And.intro rfl rfl) rfl ?_
      refine SOp.mk _ _ (SCall.pure (kzero_ok) (And.intro rfl rfl)) rfl ?_
      refine SOp.mk _ _ (SCall.pure (gcopy_ok (hA i 0 hin (by omega)) hD) (And.intro rfl rfl)) rfl ?_
      repeat refine SOp.mk _ _ (And.intro rfl rfl) rfl ?_
      refine SOp.mk _ _ (SView.all rfl <| SRoom.mk (by simp) (by simp) (And.intro rfl rfl)) rfl ?_
      repeat refine SOp.mk _ _ (And.intro rfl rfl) rfl ?_
      refine SOp.mk _ _ (SPos.mk i rfl hin (And.intro rfl rfl)) rfl ?_
      refine SOp.mk _ _ (SLt.mk (by simp; omega) <| SAs.mk (halv 1 n n i 4 1) half_setv (And.intro rfl rfl)) rfl ?_
      repeat refine SOp.mk _ _ (And.intro rfl rfl) rfl ?_
      refine SFin.mk (by kernel_rfl) ?_
      refine SWrap.i64z ((0 + 1 : Nat) : Int) (by omega) (by omega) ?_
      exact ⟨1, [0, 1, 4], n1, by show n - 1 < n - 0; omega, ⟨rfl, by simp, rfl, rfl, rfl, ⟨rfl, rfl, rfl, rfl, rfl, rfl, rfl, rfl, trivial⟩, ⟨congrArg _ (halv_ren 1 4 rfl (by decide) rfl (by decide)), rfl, rfl, halv_in (fun i hi => by simpa [plenAt] using hi) (fun e => by cases e), trivial⟩⟩⟩
    | j + 1, hj =>
      have hj : j + 1 ≤ n := hj
      by_cases hjn : j + 1 < n
      · refine SCmp.yes (decide_eq_true (by omega)) ?_
        refine SIdx.rf (j + 1) rfl hjn ?_
        refine SDraw.mkX (by kernel_rfl) ?_
        repeat refine SOp.mk _ _ (And.intro rfl rfl) rfl ?_
        refine SOp.mk _ _ (SPos.mk i rfl hin (And.intro rfl rfl)) rfl ?_
        refine SOp.mk _ _ (SIdxA.mk (i + 0) _ rfl (halv_get hin) (And.intro rfl rfl)) rfl ?_
        repeat refine SOp.mk _ _ (And.intro rfl rfl) rfl ?_
        refine SOp.mk _ _ (SCall.pure (kzero_ok) (And.intro rfl rfl)) rfl ?_
        refine SOp.mk _ _ (SCall.pure (gcopy_ok (hA i (j + 1) hin hjn) hD) (And.intro rfl rfl)) rfl ?_
        repeat refine SOp.mk _ _ (And.intro rfl rfl) rfl ?_
        refine SOp.mk _ _ (SEqN.mk (by simp [lst]) <| SView.all rfl <| SRoom.mk (by simp [lst]; omega) (by simp [lst]; omega) <| SEs.mk (rats (lst (j + 1 + 1) (A i))) (app_lst _ _ _ (rfl)) <| SZN.mk (j + 1 + 1) (by simp [lst]) (And.intro rfl rfl)) rfl ?_
        repeat refine SOp.mk _ _ (And.intro rfl rfl) rfl ?_
        refine SOp.mk _ _ (SPos.mk i rfl hin (And.intro rfl rfl)) rfl ?_
        refine SOp.mk _ _ (SLt.mk (by simp; omega) <| SAs.mk (halv 1 n n i 5 (j + 1 + 1)) halv_set (And.intro rfl rfl)) rfl ?_
        repeat refine SOp.mk _ _ (And.intro rfl rfl) rfl ?_
        refine SFin.mk (by kernel_rfl) ?_
        refine SWrap.i64z ((j + 1 + 1 : Nat) : Int) (by omega) (by omega) ?_
        exact ⟨j + 1 + 1, [0, 1, 5], hjn, by show n - (j + 1 + 1) < n - (j + 1); omega, ⟨rfl, by simp, rfl, rfl, rfl, ⟨rfl, rfl, rfl, rfl, rfl, rfl, rfl, rfl, trivial⟩, ⟨congrArg _ (halv_ren 1 5 rfl (by decide) rfl (by decide)), rfl, rfl, halv_in (fun i hi => by simpa [plenAt] using hi) (fun e => by cases e), trivial⟩⟩⟩
      · refine SCmp.no (decide_eq_false (by omega)) ?_
        obtain rfl : n = j + 1 := by omega
        refine SWrap.i64z ((i + 1 : Nat) : Int) (by omega) (by omega) ?_
        exact ⟨i + 1, [0, 3001], hin, by show j + 1 - (i + 1) < j + 1 - i; omega, ⟨rfl, by simp, rfl, rfl, rfl, ⟨rfl, rfl, rfl, rfl, trivial⟩, ⟨congrArg _ (half_absorb rfl (by decide) (by simp [plenAt])), ⟨_, _, _, _, rfl, rfl, congrArg _ plr_snoc⟩, half_in fun i hi => by simpa [plenAt] using hi, trivial⟩⟩⟩
  · refine SCmp.no (decide_eq_false (by omega)) ?_
    obtain rfl : i = n := by omega
    exact SRet.pure (frzM (H := [_, _]) (h := 0) (p := 1) (congrArg (Blk.rows _) half_full) rfl fun i hi => hi)
end Go.Proofs.YtjfcphohgicolaaGreat

namespace Go.Proofs.YtjfcphohgicolaaGreat
open Go
set_option linter.unusedVariables false
set_option linter.unusedSimpArgs false
set_option maxRecDepth 10000
theorem rall_ok (m m' q q' : Bool) (n w : Nat) (A : Nat → Nat → Rat) {a : Nat} (hA : ∀ i k, i < n → k < w → Bz (A i k) a) (ha : a + a ≤ 1048576) (hn : n ≤ 1000) (hw : w ≤ 1000) :
    CallP Tryz.prog 37 [matP m m' n w A, matP q q' n w A] (.p (.bool true)) [] := by
  refine callG_of_vc (wr := wr0) Γok mixed Tryz.func37 (by kernel_rfl) rfl (by kernel_rfl) (le_of_ble rfl) (by simp) ?_
  refine SZ.mk (n : Int) (by simp) ?_
  refine SZ.mk (n : Int) (by simp) ?_
  refine SCmp.no (neF rfl) ?_
  refine SLoop.mk Nat (fun i => ([(0, .p (matP m m' n w A)), (1, .p (matP q q' n w A)), (5, .p (.int .i64 i))], []))
    (fun i => i ≤ n) (fun i => n - i) 0 [] (Nat.zero_le _) ⟨rfl, .nil, rfl, rfl, rfl, ⟨rfl, rfl, rfl, trivial⟩, trivial⟩ ?_
  intro i hi
  have hi : i ≤ n := hi
  refine SZ.mk (n : Int) (by simp) ?_
  by_cases hin : i < n
  · refine SCmp.yes (decide_eq_true (by omega)) ?_
    have hl : Bl (lst w (A i)) a := Bl.lst fun k hk => hA i k hin hk
    have hR := rrows_ok m' q' (lst w (A i)) (lst w (A i)) hl hl ha (by rw [lst_length]; omega)
    rw [decide_eq_true rfl] at hR
    refine SDraw.mk (by kernel_rfl) ?_
    repeat refine SOp.mk _ _ (And.intro rfl rfl) rfl ?_
    refine SOp.mk _ _ (SIdx.mf i rfl hin (And.intro rfl rfl)) rfl ?_
    repeat refine SOp.mk _ _ (And.intro rfl rfl) rfl ?_
    refine SOp.mk _ _ (SIdx.mf i rfl hin (And.intro rfl rfl)) rfl ?_
    repeat refine SOp.mk _ _ (And.intro rfl rfl) rfl ?_
    refine SOp.mk _ _ (SCall.pure (hR) (And.intro rfl rfl)) rfl ?_
    refine SOp.mk _ _ (SCmp.no rfl (And.intro rfl rfl)) rfl ?_
    refine SWrap.i64z ((i + 1 : Nat) : Int) (by omega) (by omega) ?_
    exact ⟨i + 1, [], hin, by show n - (i + 1) < n - i; omega, ⟨rfl, .nil, rfl, rfl, rfl, ⟨rfl, rfl, rfl, trivial⟩, trivial⟩⟩
  · refine SCmp.no (decide_eq_false (by omega)) ?_
    exact SRet.pure (.tf _)
/-- What is told of a tree is told of another one. -/
def PRle (p' p : PV) : Prop := ∀ w FB v, PR w FB p' v → PR w FB p v
theorem PRle.refl (p : PV) : PRle p p := fun _ _ _ h => h
theorem PRle.nil (m : Bool) (W : Nat) : PRle (.raw (.slice none 0 0)) (.sl m W []) := fun w FB v h => by cases h; exact .nil _ _ _
theorem PRle.agg {cs' cs : List PV} (hl : cs'.length = cs.length) (ho : ∀ c ∈ cs, c.one = true) (h : ∀ (i : Nat) c' c, cs'[i]? = some c' → cs[i]? = some c → PRle c' c) : PRle (.agg cs') (.agg cs) := fun w FB v hv => by
  cases hv with
  | agg _ vs hone hl' h' =>
    refine .agg cs vs ho (by rw [hl', hl]) fun i c v e1 e2 => ?_
    have hi : i < cs'.length := by rw [hl]; exact (List.getElem?_eq_some_iff.1 e1).1
    exact h i cs'[i] c (List.getElem?_eq_getElem hi) e1 _ _ _ (h' i _ v (List.getElem?_eq_getElem hi) e2)
theorem CallG.weak {P : Program} {f : FuncId} {pvs pvs' : List PV} {r : AV} {nb : List Blk} (hc : CallP P f pvs r nb) (hl : pvs'.length = pvs.length) (h : ∀ (i : Nat) p' p, pvs'[i]? = some p' → pvs[i]? = some p → PRle p' p) : CallP P f pvs' r nb :=
  ⟨hc.fn, fun w F Bor β vs ha => hc.run w F Bor β vs { ha with
    len := by rw [ha.len, List.length_map, List.length_map, hl]
    rel := fun i a v e1 e2 => by
      rw [List.getElem?_map] at e1
      cases e : pvs[i]? with
      | none => rw [e] at e1; cases e1
      | some p =>
        rw [e] at e1; cases e1
        have hi : i < pvs'.length := by rw [hl]; exact (List.getElem?_eq_some_iff.1 e).1
        have e' : pvs'[i]? = some pvs'[i] := List.getElem?_eq_getElem hi
        have := ha.rel i (.p pvs'[i]) v (by rw [List.getElem?_map, e']; rfl) e2
        exact .p (h i _ p e' e _ _ _ this.pOf)
    ma := fun a ha k hk => by obtain ⟨v, _, rfl⟩ := List.mem_map.1 ha; simp only [AV.men] at hk }⟩
end Go.Proofs.YtjfcphohgicolaaGreat

namespace Go.Proofs.YtjfcphohgicolaaGreat
open Go
set_option linter.unusedVariables false
set_option linter.unusedSimpArgs false
theorem wf_mkG {k n r : Nat} {ns : List Int} (k1 : 1 ≤ k) (k7 : k ≤ 7) (n1 : 1 ≤ n) (n6 : n ≤ 6) (r1 : k = 6 ∨ k = 7 → 1 ≤ r) (r2 : r ≤ 2) (r0 : k ≤ 5 → r = 0) : Wf (mkG k n r (rowG ns)) 5 13 := by
  have hf : ∀ i, -20 ≤ rowG ns i ∧ rowG ns i ≤ 20 := fun i => smallQ_range _
  have hc := cnt_le (k := k) (r := r) n1 (show n ≤ 8 by omega) (show r ≤ 3 by omega)
  exact {
    k1 := k1, k7 := k7, n1 := n1, n6 := n6, r2 := r2, r1 := r1, r0 := r0
    bA := fun i _ => rowG_bz ns i
    bB := fun i hi => bfix_bz hf (by have hi : i < cntB k n := hi; omega) (hf _) (rowG_bz ns _) _
    bG := fun i _ => rowG_bz ns _
    bH := fun i _ => rowG_bz ns _
    ne := fun i j hi hj => bfix_ne hf (hf _) (show i < cntA k n from hi)
    bc := by omega
    c4 := by omega }
theorem gmR_ok {k : Nat} (n : Int) : (k = 6 ∨ k = 7 → 1 ≤ gmR k n) ∧ gmR k n ≤ 2 ∧ (k ≤ 5 → gmR k n = 0) := by
  unfold gmR
  refine ⟨fun h => by rw [if_pos h]; omega, by split <;> omega, fun h => if_neg (by omega)⟩
theorem gmN_ok (n most : Int) (h1 : 1 ≤ most) : 1 ≤ gmN n most ∧ (gmN n most : Int) ≤ most := by
  have := Int.emod_nonneg n (show most ≠ 0 by omega)
  have := Int.emod_lt_of_pos n (show (0 : Int) < most by omega)
  unfold gmN
  omega
theorem wf_g13 {g : GV} {ns : List Int} {b c : Nat} (h : Wf g b c) (hk : g.k = 5 ∨ g.k = 7) : Wf (g13 g ns) b c := by
  unfold g13
  split
  · rename_i ht
    have hla : g.la = g.n := h.la3 (by omega)
    have n1 := h.n1
    have ha : ∀ i, i < g.n → ∃ j, j < g.n ∧ upd g.A (g.n - 1) (g.A 0) i = g.A j := fun i hi => by
      by_cases e : i = g.n - 1
      · exact ⟨0, by omega, by rw [e, upd_same]⟩
      · exact ⟨i, hi, upd_other _ _ e⟩
    exact { h with
      bA := fun i hi => by
        obtain ⟨j, hj, e⟩ := ha i (by rw [← hla]; exact hi)
        show Bz (upd g.A (g.n - 1) (g.A 0) i) b
        rw [e]; exact h.bA j (by rw [hla]; exact hj)
      ne := fun i k hi hk => by
        obtain ⟨j, hj, e⟩ := ha i (by rw [← hla]; exact hi)
        show upd g.A (g.n - 1) (g.A 0) i ≠ g.B k
        rw [e]; exact h.ne j k (by rw [hla]; exact hj) hk }
  · exact h
theorem g13_k {g : GV} {ns : List Int} : (g13 g ns).k = g.k := by unfold g13; split <;> rfl
theorem g13_n {g : GV} {ns : List Int} : (g13 g ns).n = g.n := by unfold g13; split <;> rfl
end Go.Proofs.YtjfcphohgicolaaGreat

namespace Go.Proofs.YtjfcphohgicolaaGreat
open Go
set_option linter.unusedVariables false
set_option linter.unusedSimpArgs false
set_option maxRecDepth 10000
/-- Both rows of nodes are lent. -/
def m15 : Nat → Bool
  | 0 => true
  | 1 => true
  | _ => false
theorem PRle.gen {m : Nat → Bool} {g : GV} {k n r : Int} {a b c d : PV} (hk : k = g.k) (hn : n = g.n) (hr : r = g.r) (ha : PRle a (ratsM (m 0) (lst g.la g.A))) (hb : PRle b (ratsM (m 1) (lst g.lb g.B))) (hc : PRle c (ratsM (m 2) (lst g.lh g.G))) (hd : PRle d (ratsM (m 3) (lst g.lh g.H))) :
    PRle (.agg [.int .i64 k, .int .i64 n, .int .i64 r, a, b, c, d]) (genP m g) := by
  subst hk; subst hn; subst hr
  refine PRle.agg rfl (fun c hc => ?_) fun i c' c e1 e2 => ?_
  · simp only [genC, List.mem_cons, List.not_mem_nil, or_false] at hc
    rcases hc with rfl | rfl | rfl | rfl | rfl | rfl | rfl <;> rfl
  · match i, e1, e2 with
    | 0, e1, e2 => cases e1; cases e2; exact .refl _
    | 1, e1, e2 => cases e1; cases e2; exact .refl _
    | 2, e1, e2 => cases e1; cases e2; exact .refl _
    | 3, e1, e2 => cases e1; cases e2; exact ha
    | 4, e1, e2 => cases e1; cases e2; exact hb
    | 5, e1, e2 => cases e1; cases e2; exact hc
    | 6, e1, e2 => cases e1; cases e2; exact hd
theorem CallG.weak1 {P : Program} {f : FuncId} {p p' : PV} {r : AV} {nb : List Blk} (hc : CallP P f [p] r nb) (h : PRle p' p) : CallP P f [p'] r nb :=
  CallG.weak hc rfl fun i p1 p2 e1 e2 => by
    match i, e1, e2 with
    | 0, e1, e2 => cases e1; cases e2; exact h
end Go.Proofs.YtjfcphohgicolaaGreat

namespace Go.Proofs.YtjfcphohgicolaaGreat
open Go
set_option linter.unusedVariables false
set_option linter.unusedSimpArgs false
set_option maxRecDepth 10000
/-- The matrix, handed out as the caller's own. -/
theorem gexpandO_ok (m : Nat → Bool) (g : GV) {b c : Nat} (h : Wf g b c) : CallP Tryz.prog 39 [genP m g] (.vec 0 1 0 g.n) [.rows 24 (plc 1 g.n g.n id), .pool 31 3 (plr g.n g.n (ent g))] := by
  have h6 := h.n6
  have n1 := h.n1
  refine callG_of_vc (wr := wr0) Γok mixed Tryz.func39 (by kernel_rfl) rfl (by kernel_rfl) (le_of_ble rfl) (by simp) ?_
  refine SCall.pure (gcheck_ok m g h) ?_
  refine SCmp.no (rfl) ?_
  refine SZ.mk (g.n : Int) rfl ?_
  refine SLt.mk (by simp) ?_
  refine SMake.mk g.n rfl (by simp; omega) (by omega) ?_
  refine SMk.rows ?_
  refine SZ.mk (g.n : Int) rfl ?_
  refine SLoop.mkT Nat (fun i => ([(1, .bptr 0 0), (3, .vec 1 1 0 g.n), (13, .p (.int .i64 g.n)), (14, .p (.int .i64 i))], [.box 26 (genA m g), .rows 24 (half 2 g.n g.n i), .pool 31 3 (plr i g.n (ent g))]))
    (fun i => i ≤ g.n) (fun i => g.n - i) 0 [0, 1, 2] _ _ (.pool 31 3 (.done _ _)) (Nat.zero_le _) ⟨rfl, by simp, rfl, rfl, rfl, ⟨rfl, rfl, rfl, rfl, trivial⟩, ⟨rfl, congrArg _ half_ren0, rfl, half_in fun i hi => absurd hi (Nat.not_lt_zero _), trivial⟩⟩ ?_
  intro i hi
  have hi : i ≤ g.n := hi
  by_cases hin : i < g.n
  · refine SCmp.yes (decide_eq_true (by omega)) ?_
    refine SZ.mk (g.n : Int) rfl ?_
    refine SLt.mk (by simp) ?_
    refine SMake.rat g.n rfl (by omega) ?_
    refine SPos.mk i rfl hin ?_
    refine SLt.mk (by simp; omega) ?_
    refine SAs.mk (halq 2 g.n g.n i 3) half_set ?_
    refine SPos.mk i rfl hin ?_
    refine SIdxA.mk i _ rfl (halq_get hin) ?_
    refine SZ.mk (g.n : Int) rfl ?_
    refine SLoop.mk (Nat × (Nat → Rat)) (fun (j, F) => ([(1, .bptr 0 0), (3, .vec 1 1 0 g.n), (4, .p (.int .i64 i)), (13, .p (.int .i64 g.n)), (14, .p (.int .i64 i)), (27, .p (.int .i64 g.n)), (28, .p (.int .i64 j))], [.box 26 (genA m g), .rows 24 (halq 2 g.n g.n i 3), .pool 31 3 (plr i g.n (ent g)), .vec 31 3 (fl g.n fun k => if k < j then ratP (ent g i k) else rat0)]))
      (fun (j, F) => j ≤ g.n) (fun x => g.n - x.1) (0, ent g i) [0, 1, 2, 3] (Nat.zero_le _) ⟨rfl, by simp, rfl, rfl, rfl, ⟨rfl, rfl, rfl, rfl, rfl, rfl, rfl, trivial⟩, ⟨rfl, congrArg _ (halq_ren 2 3 rfl (by decide) rfl (by decide)), rfl, congrArg _ ((fl_congr fun k hk => if_neg (by omega)).trans (replicate_fl g.n rat0).symm), halq_in (fun i hi => by simpa [plenAt] using hi) (fun e => by cases e), trivial⟩⟩ ?_
    intro ⟨j, F⟩ hj
    have hj : j ≤ g.n := hj
    by_cases hjn : j < g.n
    · refine SCmp.yes (decide_eq_true (by omega)) ?_
      refine SDraw.mkX (by kernel_rfl) ?_
      repeat refine SOp.mk _ _ (And.intro rfl rfl) rfl ?_
      refine SOp.mk _ _ (SPos.mk i rfl hin (And.intro rfl rfl)) rfl ?_
      refine SOp.mk _ _ (SIdxA.mk i _ rfl (halq_get hin) (And.intro rfl rfl)) rfl ?_
      repeat refine SOp.mk _ _ (And.intro rfl rfl) rfl ?_
      refine SOp.mk _ _ (SCall.pure (gentry_ok m g h i j hin hjn) (And.intro rfl rfl)) rfl ?_
      refine SOp.mk _ _ (SPos.mk j rfl hjn (And.intro rfl rfl)) rfl ?_
      refine SOp.mk _ _ (SLt.mk (by simp; omega) <| SEs.mk _ (row_step hjn) (And.intro rfl rfl)) rfl ?_
      repeat refine SOp.mk _ _ (And.intro rfl rfl) rfl ?_
      refine SFin.mk (by kernel_rfl) ?_
      refine SWrap.i64z ((j + 1 : Nat) : Int) (by omega) (by omega) ?_
      exact ⟨(j + 1, F), [0, 1, 2, 3], hjn, by show g.n - (j + 1) < g.n - j; omega, ⟨rfl, by simp, rfl, rfl, rfl, ⟨rfl, rfl, rfl, rfl, rfl, rfl, rfl, trivial⟩, ⟨rfl, congrArg _ (halq_ren 2 3 rfl (by decide) rfl (by decide)), rfl, rfl, halq_in (fun i hi => by simpa [plenAt] using hi) (fun e => by cases e), trivial⟩⟩⟩
    · refine SCmp.no (decide_eq_false (by omega)) ?_
      obtain rfl : j = g.n := by omega
      refine SWrap.i64z ((i + 1 : Nat) : Int) (by omega) (by omega) ?_
      exact ⟨i + 1, [0, 1, 4002], hin, by show g.n - (i + 1) < g.n - i; omega, ⟨rfl, by simp, rfl, rfl, rfl, ⟨rfl, rfl, rfl, rfl, trivial⟩, ⟨rfl, congrArg _ (half_absorb rfl (by decide) (by simp [plenAt])), ⟨_, _, _, _, rfl, rfl, congrArg _ (plr_snoc.trans (congrArg (fun r => plr i g.n (ent g) ++ [some r]) row_full))⟩, half_in fun i hi => by simpa [plenAt] using hi, trivial⟩⟩⟩
  · refine SCmp.no (decide_eq_false (by omega)) ?_
    obtain rfl : i = g.n := by omega
    refine SRet.mk [1, 2] rfl (by decide) rfl (Nat.zero_le _) (fun h hl => by rw [look_nil] at hl; exact hl.elim) (fun h hl => absurd (look_nil h) hl) (fun a h B e1 e2 => ?_) (.vec rfl)
    match a, e1, e2 with
    | 0, e1, e2 =>
      cases e1; cases e2
      show ConvB _ _ (Blk.rows _ (half 2 g.n g.n g.n)) _
      rw [half_full]
      refine .rows (fun d hd => by obtain ⟨i, _, rfl⟩ := fl_mem hd; rfl) (by simp) fun b c d e1 e2 => ?_
      obtain ⟨hb, rfl⟩ := fl_get_iff.1 e1
      obtain ⟨_, rfl⟩ := fl_get_iff.1 e2
      exact .vecr rfl
    | 1, e1, e2 =>
      cases e1; cases e2
      exact .pool fun k es hk => by
        obtain ⟨_, h⟩ := fl_get_iff.1 hk
        cases h; exact pers_rats _
/-- A call that makes a matrix and answers with it. -/
theorem SCall.mtx {P : Program} {wr : Bool} {f : FuncId} {L : Hd → Blk} {base n w N : Nat} {K : AV → List (Hd × Blk) → Prop} {pvs : List PV} {T T' : TypeId} {G : Nat → Nat → Rat} (hc : CallP P f pvs (.vec 0 1 0 n) [.rows T (plc 1 w n id), .pool T' 3 (plr N w G)])
    (hk : K (.vec base 1 0 n) [(.t base, .rows T (plc (base + 1) w n id)), (.t (base + 1), .pool T' 3 (plr N w G))]) {raw : List AV} : SCall P wr f raw (pvs.map .p) L base K := by
  refine SCall.news hc (fun B hB => by simp only [List.mem_cons, List.not_mem_nil, or_false] at hB; rcases hB with rfl | rfl <;> exact fun e => by (cases e)) ?_
  have e : AV.renL (renOf [] base) (plc 1 w n id) = plc (base + 1) w n id := by
    rw [renL_fl]; exact fl_congr fun i _ => by simp only [AV.ren, renOf, renN]; rfl
  show K (.vec (.t (base + (0 - 0))) 1 0 n) [(.t (base + (0 - 0)), .rows T (AV.renL _ _)), (.t (base + (1 - 0)), _)]
  rw [e]; exact hk
/-- A contract that tells less of its answer. -/
theorem CallG.weakR {P : Program} {f : FuncId} {pvs : List PV} {r r' : AV} {nb : List Blk} (hc : CallP P f pvs r' nb) (h : ∀ w FB β v, VR w FB β r' v → VR w FB β r v) (hm : ∀ k, ¬ r.men k) : CallP P f pvs r nb :=
  ⟨hc.fn, fun w F Bor β vs ha => (hc.run w F Bor β vs ha).mono fun e w' ⟨v, F', β', h1, h2⟩ => ⟨v, F', β', h1, { h2 with rel := h _ _ _ _ h2.rel, mr := fun k hk => (hm k hk).elim }⟩⟩
theorem VR.weak2 {p p' : PV} {c : PV} (h : PRle p' p) : ∀ w FB β v, VR w FB β (.tup [.p p', .p c]) v → VR w FB β (.tup [.p p, .p c]) v := fun w FB β v hv => by
  cases hv with | tup _ vs hl hr =>
  refine .tup _ vs hl fun i d x e1 e2 => ?_
  match i, e1, e2 with
  | 0, e1, e2 => cases e1; exact .p (h _ _ _ (hr 0 _ _ rfl e2).pOf)
  | 1, e1, e2 => cases e1; exact hr 1 _ _ rfl e2
def GkB (n : Nat) (A : Nat → Nat → Rat) (D : Nat) : Prop := ∀ k, k ≤ n → ∀ i j, i < n → j < n → Bz ((gk n A k).B i j) D
theorem GkB.P {n : Nat} {A : Nat → Nat → Rat} {D : Nat} (h : GkB n A D) {k : Nat} (hk : k < n) : ∀ i j, i < n → j < n → Bz (gkP n A k i j) D := fun i j hi hj => by
  obtain ⟨p1, p2, _⟩ := pvt_spec (B := (gk n A k).B) hk
  exact h k (by omega) _ j (swp_lt p2 hk hi) hj
theorem gk_bz {n b : Nat} {A : Nat → Nat → Rat} (hA : ∀ i j, i < n → j < n → Bz (A i j) b) : ∀ k, k ≤ n → ∀ i j, i < n → j < n → Bz ((gk n A k).B i j) (bb b k) := by
  intro k
  induction k with
  | zero => intro _ i j hi hj; exact hA i j hi hj
  | succ k ih =>
    intro hk i j hi hj
    have ih := ih (by omega)
    obtain ⟨p1, p2, _⟩ := pvt_spec (B := (gk n A k).B) (n := n) (k := k) (by omega)
    have zP : ∀ i j, i < n → j < n → Bz (gkP n A k i j) (bb b k) := fun i j hi hj => ih _ j (swp_lt p2 (by omega) hi) hj
    by_cases c : k < i
    · rw [gk_gt c]
      exact ((zP i j hi hj).sub (((zP i k hi (by omega)).div (zP k k (by omega) (by omega))).mul (zP k j (by omega) hj))).mono (by simp only [bb]; omega)
    · rw [gk_le (by omega)]; exact (zP i j hi hj).mono (by simp only [bb]; omega)
theorem GkB.of {n b : Nat} {A : Nat → Nat → Rat} (n1 : 1 ≤ n) (hA : ∀ i j, i < n → j < n → Bz (A i j) b) : GkB n A (bb b (n - 1)) := fun k hk i j hi hj => by
  by_cases e : k = n
  · obtain ⟨d, rfl⟩ : ∃ d, n = d + 1 := ⟨n - 1, by omega⟩
    obtain ⟨p1, p2, _⟩ := pvt_spec (B := (gk (d + 1) A d).B) (n := d + 1) (k := d) (by omega)
    rw [e, gk_le (by omega)]
    exact gk_bz hA d (by omega) _ j (swp_lt p2 (by omega) hi) hj
  · exact (gk_bz hA k hk i j hi hj).mono (bb_mono (by omega))
theorem ggr_bz {n D : Nat} {A : Nat → Nat → Rat} (h : GkB n A D) (hD : 1 ≤ D) : ∀ k, k ≤ n → Bz (ggr n A k) D := by
  intro k
  induction k with
  | zero => intro _; exact mxR_bz (bz_zero.mono hD) n fun i j _ h2 h3 => h 0 (Nat.zero_le _) i j (by omega) h3
  | succ k ih => intro hk; exact mxR_bz (ih (by omega)) _ fun i j _ h2 h3 => h k (by omega) i j (by omega) h3
theorem gM_bz {n D : Nat} {A : Nat → Nat → Rat} (h : GkB n A D) (hD : 1 ≤ D) : ∀ k, k ≤ n → ∀ i j, i < n → Bz ((gk n A k).M i j) (D + D) := by
  intro k
  induction k with
  | zero => intro _ i j _; exact bz_zero.mono (by omega)
  | succ k ih =>
    intro hk i j hi
    obtain ⟨p1, p2, _⟩ := pvt_spec (B := (gk n A k).B) (n := n) (k := k) (by omega)
    have sw : Bz (swpM (gk n A k).M (pvt (gk n A k).B n k) k i j) (D + D) := ih (by omega) _ j (swp_lt p2 (by omega) hi)
    rw [gk_succ]
    show Bz (mulS _ _ k i j) _
    unfold mulS
    split
    · split
      · exact (h.P (by omega) i k hi (by omega)).div (h.P (by omega) k k (by omega) (by omega))
      · split
        · exact bz_one.mono (by omega)
        · exact sw
    · exact sw
def gro (n : Nat) (A : Nat → Nat → Rat) : Rat := ggr n A n / ggr n A 0
abbrev part0 : PV := .agg [.sl false 1 [], .sl false 1 [], .sl false 1 [], .bool false, .sl false 1 [], .sl false 1 []]
abbrev partC (n : Nat) (A : Nat → Nat → Rat) : List PV := [.sl false 1 (permP n (gO n A)), matP false false n n (gL n A), matP false false n n (gU n A), .bool (decide ((gro n A).num < 0)), natP (gro n A).num.natAbs, natP (gro n A).den]
abbrev partP (n : Nat) (A : Nat → Nat → Rat) : PV := .agg (partC n A)
theorem part_le : PRle (.agg [.raw (.slice none 0 0), .raw (.slice none 0 0), .raw (.slice none 0 0), .bool false, .sl false 1 [], .sl false 1 []]) part0 := by
  refine PRle.agg rfl (fun c hc => by simp only [List.mem_cons, List.not_mem_nil, or_false] at hc; rcases hc with rfl | rfl | rfl | rfl | rfl | rfl <;> rfl) fun i c' c e1 e2 => ?_
  match i, e1, e2 with
  | 0, e1, e2 => cases e1; cases e2; exact .nil _ _
  | 1, e1, e2 => cases e1; cases e2; exact .nil _ _
  | 2, e1, e2 => cases e1; cases e2; exact .nil _ _
  | 3, e1, e2 => cases e1; cases e2; exact .refl _
  | 4, e1, e2 => cases e1; cases e2; exact .refl _
  | 5, e1, e2 => cases e1; cases e2; exact .refl _
theorem pers_part0 : Pers (.agg [.raw (.slice none 0 0), .raw (.slice none 0 0), .raw (.slice none 0 0), .bool false, .sl false 1 [], .sl false 1 []]) := .agg _ fun c hc => by
  simp only [List.mem_cons, List.not_mem_nil, or_false] at hc
  rcases hc with rfl | rfl | rfl | rfl | rfl | rfl <;> first | exact .raw _ | exact .bool _ | exact .sl _ _ (fun e he => by simp at he)
theorem nomen2 {p c : PV} (k : Hd) : ¬ (AV.tup [.p p, .p c]).men k := fun h => by simp only [AV.men, AV.menL, or_false] at h
end Go.Proofs.YtjfcphohgicolaaGreat

namespace Go.Proofs.YtjfcphohgicolaaGreat
open Go
set_option linter.unusedVariables false
set_option linter.unusedSimpArgs false
set_option maxRecDepth 10000
abbrev wrK : FuncId → Bool := fun f => Nat.beq f 41 || (Nat.beq f 42 || Nat.beq f 43)
abbrev zpartA : List AV := [.p (.raw (.slice none 0 0)), .p (.raw (.slice none 0 0)), .p (.raw (.slice none 0 0)), .p (.bool false), .p (.sl false 1 []), .p (.sl false 1 [])]
theorem perm0 {n : Nat} : List.replicate n (PV.int .i64 0) = permP n fun t => if t < 0 then t else 0 := (replicate_fl n _).trans (fl_congr fun i _ => congrArg (fun x : Nat => PV.int .i64 (x : Int)) (if_neg (Nat.not_lt_zero i)).symm)
theorem gw_next {n k : Nat} {A : Nat → Nat → Rat} {si : Nat → Nat} (hk : k < n) (hsi : ∀ r, r < n → si r < n ∧ (gk n A (k + 1)).s (si r) = r) : ∀ i j, i < n → j < n → (fun r j => redA (gkP n A k) k (si r) j) ((gk n A (k + 1)).s i) j = (gk n A (k + 1)).B i j := fun i j hi hj => by
  obtain ⟨h1, h2, _⟩ := gk_perm (n := n) (A := A) (k + 1) hk
  obtain ⟨a, b⟩ := hsi _ (h1 i hi)
  have e := h2 _ _ a hi b
  show redA (gkP n A k) k (si ((gk n A (k + 1)).s i)) j = _
  rw [e, gk_succ]
theorem gw_swp {n k : Nat} {A G : Nat → Nat → Rat} (hk : k < n) (hG : ∀ i j, i < n → j < n → G ((gk n A k).s i) j = (gk n A k).B i j) : ∀ i j, i < n → j < n → G ((gk n A (k + 1)).s i) j = gkP n A k i j := fun i j hi hj => by
  obtain ⟨p1, p2, _⟩ := pvt_spec (B := (gk n A k).B) hk
  rw [gk_succ]
  exact hG _ j (swp_lt p2 hk hi) hj
theorem gw_inv {n k : Nat} {A : Nat → Nat → Rat} (hk : k ≤ n) : ∃ si : Nat → Nat, ∀ r, r < n → si r < n ∧ (gk n A k).s (si r) = r := by
  obtain ⟨_, _, h3⟩ := gk_perm (n := n) (A := A) k hk
  refine ⟨fun r => if h : r < n then (h3 r h).choose else 0, fun r hr => ?_⟩
  show (if h : r < n then (h3 r h).choose else 0) < n ∧ (gk n A k).s (if h : r < n then (h3 r h).choose else 0) = r
  rw [dif_pos hr]
  exact (h3 r hr).choose_spec
theorem kfactorZ_ok (m : Nat → Bool) (g : GV) {b c D K : Nat} (h : Wf g b c) (hk : g.k = 5 ∨ g.k = 7) (hB : GkB g.n (ent g) D) (h1 : 1 ≤ D) (hD : 4 * D + 1 ≤ 1000000) (hK : K < g.n) (hp : ∀ t, t < K → gpiv g.n (ent g) t ≠ 0) (hz : gpiv g.n (ent g) K = 0) :
    CallP Tryz.prog 11 [genP m g] (.tup [.p part0, .p (.int .i64 9)]) [] := by
  have h6 := h.n6
  have n1 := h.n1
  refine CallG.weakR ?_ (VR.weak2 part_le) nomen2
  rcases hk with e | e
  · refine callG_of_vc (wr := wrK) Γok mixed Tryz.func11 (by kernel_rfl) rfl (by kernel_rfl) (le_of_ble rfl) (by simp) ?_
    refine SCmp.no (neF (by rw [e]; rfl)) ?_
    refine SCall.mtx (gexpandO_ok m g h) ?_
    refine SNil.mk (fun _ => ?_) (fun h => absurd h (by omega))
    refine SDraw.mkX (by kernel_rfl) ?_
    repeat refine SOp.mk _ _ (And.intro rfl rfl) rfl ?_
    refine SOp.mk _ _ (SZ.mk (g.n : Int) rfl (And.intro rfl rfl)) rfl ?_
    repeat refine SOp.mk _ _ (And.intro rfl rfl) rfl ?_
    refine SOp.mk _ _ (SZ.mk (g.n : Int) rfl <| SLt.mk (by simp) <| SMake.mk g.n rfl (by show g.n * 8 ≤ _; omega) (by omega) (And.intro rfl rfl)) rfl ?_
    repeat refine SOp.mk _ _ (And.intro rfl rfl) rfl ?_
    refine SOp.mk _ _ (SCall.pure (kzero_ok) (And.intro rfl rfl)) rfl ?_
    repeat refine SOp.mk _ _ (And.intro rfl rfl) rfl ?_
    refine SFin.mk (by kernel_rfl) ?_
    refine SZ.mk (g.n : Int) rfl ?_
    refine SLoop.mk (Nat × (Nat → Nat)) (fun (i, s) => ([(2, .bptr 5 0), (5, .bptr 0 0), (39, .p (.int .i64 g.n)), (40, .p (.int .i64 (i : Nat)))],
        [.box 74 (gwA g.n 0), .rows 24 (plc 2 g.n g.n id), .pool 31 3 (plr g.n g.n (ent g)), .vec 3 1 (permP g.n s), .map [], .box 33 zpartA]))
      (fun (i, s) => i ≤ g.n ∧ ∀ t, t < g.n → s t = if t < i then t else 0) (fun x => g.n - x.1) (0, fun t => if t < 0 then t else 0) [6, 2, 3, 4, 5, 1] ⟨Nat.zero_le _, fun t _ => rfl⟩
      ⟨rfl, by simp, rfl, rfl, rfl, ⟨rfl, rfl, rfl, rfl, trivial⟩, ⟨rfl, congrArg _ (plc_ren 3 rfl (by decide)), rfl, congrArg _ perm0.symm, rfl, rfl, rows_in fun q hq => by simpa [plenAt] using hq, trivial⟩⟩ ?_
    intro ⟨i, s⟩ ⟨hi, hs⟩
    by_cases hin : i < g.n
    · refine SCmp.yes (decide_eq_true (by omega)) ?_
      refine SPos.mk i rfl hin ?_
      refine SLt.perm hin ?_
      refine SEs.perm ?_
      refine SWrap.i64z ((i + 1 : Nat) : Int) (by omega) (by omega) ?_
      refine ⟨(i + 1, _), [0, 1, 2, 3, 4, 5], ⟨hin, fun t ht => ?_⟩, by show g.n - (i + 1) < g.n - i; omega, ⟨rfl, by simp, rfl, rfl, rfl, ⟨rfl, rfl, rfl, rfl, trivial⟩, ⟨rfl, congrArg _ (plc_ren 2 rfl (by decide)), rfl, rfl, rfl, rfl, rows_in fun q hq => by simpa [plenAt] using hq, trivial⟩⟩⟩
      show upd s (i + 0) i t = _
      unfold upd
      by_cases e : t = i
      · rw [if_pos (by omega), if_pos (by omega), e]
      · rw [if_neg (by omega), hs t ht]
        by_cases e2 : t < i
        · rw [if_pos e2, if_pos (by omega)]
        · rw [if_neg e2, if_neg (by omega)]
    refine SCmp.no (decide_eq_false (by omega)) ?_
    obtain rfl : i = g.n := by omega
    have es : permP g.n s = permP g.n id := permP_congr fun t ht => by rw [hs t ht, if_pos ht]; rfl
    refine SCall.gw (glook_ok g.n 0 (ent g) (ent g) id [] 0 (Nat.zero_le _) (by omega) (fun i hi => hi) (fun _ _ _ _ => rfl) (hB 0 (Nat.zero_le _)) (bz_zero.mono h1) (by omega) (fun e he => by simp at he)) (fun _ => rfl) (by decide) ⟨rfl, fun _ => rfl⟩ ⟨rfl, fun _ => rfl⟩ ⟨rfl, fun _ => rfl⟩ ⟨congrArg (Blk.vec 3 1) es, fun _ => rfl⟩ ⟨rfl, fun _ => rfl⟩ ?_
    refine SZ.mk (g.n : Int) rfl ?_
    refine SLoop.mk (Nat × (Nat → Nat → Rat)) (fun (k, G) => ([(2, .bptr 5 0), (5, .bptr 0 0), (7, .bptr 6 0), (61, .p (.int .i64 g.n)), (62, .p (.int .i64 (k : Nat)))],
        gwB g.n G (gk g.n (ent g) k).s (gtk g.n (ent g) k) (ggr g.n (ent g) k) ++ [.box 33 zpartA, .box 31 (bxQ (ggr g.n (ent g) 0))]))
      (fun (k, G) => k ≤ K ∧ ∀ i j, i < g.n → j < g.n → G ((gk g.n (ent g) k).s i) j = (gk g.n (ent g) k).B i j) (fun x => g.n - x.1) (0, ent g) [0, 1, 2, 3, 4, 5, 6] ⟨Nat.zero_le _, fun _ _ _ _ => rfl⟩
      ⟨rfl, by simp, rfl, rfl, rfl, ⟨rfl, rfl, rfl, rfl, rfl, trivial⟩, ⟨rfl, congrArg _ (plc_ren 2 rfl (by decide)), rfl, rfl, rfl, rfl, rfl, rows_in (s := id) fun q hq => by simpa [plenAt] using hq, trivial⟩⟩ ?_
    intro ⟨k, G⟩ ⟨hkn, hG⟩
    obtain ⟨r1, r2, r3⟩ := gk_perm (n := g.n) (A := ent g) k (by omega)
    have zr := ggr_bz hB h1 k (by omega)
    refine SCmp.yes (decide_eq_true (by omega)) ?_
    by_cases e : k < K
    · refine SCall.gw (glook_ok g.n k G (gk g.n (ent g) k).B (gk g.n (ent g) k).s (gtk g.n (ent g) k) (ggr g.n (ent g) k) (by omega) (by omega) r1 hG (hB k (by omega)) zr (by omega) (gtk_key k).pers)
        (fun _ => rfl) (by decide) ⟨rfl, fun _ => rfl⟩ ⟨rfl, fun _ => rfl⟩ ⟨rfl, fun _ => rfl⟩ ⟨rfl, fun _ => rfl⟩ ⟨rfl, fun _ => rfl⟩ ?_
      refine SCall.gw (gpick_ok g.n k G (gk g.n (ent g) k).B (gk g.n (ent g) k).s (gtk g.n (ent g) k) (ggr g.n (ent g) (k + 1)) true (by omega) (by omega) r1 hG (hB k (by omega)) (by omega) (gtk_key k).pers ((decide_eq_true (by rw [← gpiv_eq]; exact hp k e)).symm))
        (fun _ => rfl) (by decide) ⟨rfl, fun _ => rfl⟩ ⟨rfl, fun _ => rfl⟩ ⟨rfl, fun _ => rfl⟩ ⟨rfl, fun _ => rfl⟩ ⟨rfl, fun _ => rfl⟩ ?_
      refine SCmp.no (rfl) ?_
      obtain ⟨si, hsi⟩ := gw_inv (n := g.n) (A := ent g) (k := k + 1) (by omega)
      obtain ⟨q1, q2, _⟩ := gk_perm (n := g.n) (A := ent g) (k + 1) (by omega)
      refine SCall.gw (gclean_ok g.n k G (gkP g.n (ent g) k) (gk g.n (ent g) (k + 1)).s si (gtk g.n (ent g) k) (ggr g.n (ent g) (k + 1)) (by omega) (by omega) q1 q2 hsi (gw_swp (by omega) hG) (hB.P (by omega)) (by omega) (hp k e) (gtk_key k))
        (fun _ => rfl) (by decide) ⟨rfl, fun _ => rfl⟩ ⟨rfl, fun _ => rfl⟩ ⟨rfl, fun _ => rfl⟩ ⟨rfl, fun _ => rfl⟩ ⟨rfl, fun _ => rfl⟩ ?_
      refine SWrap.i64z ((k + 1 : Nat) : Int) (by omega) (by omega) ?_
      exact ⟨(k + 1, fun r j => redA (gkP g.n (ent g) k) k (si r) j), [0, 1, 2, 3, 4, 5, 6], ⟨by omega, gw_next (by omega) hsi⟩, by show g.n - (k + 1) < g.n - k; omega, ⟨rfl, by simp, rfl, rfl, rfl, ⟨rfl, rfl, rfl, rfl, rfl, trivial⟩, ⟨rfl, congrArg _ (plc_ren 2 rfl (by decide)), rfl, rfl, rfl, rfl, rfl, rows_in fun q hq => by simpa [plenAt] using q1 q hq, trivial⟩⟩⟩
    · obtain rfl : k = K := by omega
      refine SCall.gw (glook_ok g.n k G (gk g.n (ent g) k).B (gk g.n (ent g) k).s (gtk g.n (ent g) k) (ggr g.n (ent g) k) (by omega) (by omega) r1 hG (hB k (by omega)) zr (by omega) (gtk_key k).pers)
        (fun _ => rfl) (by decide) ⟨rfl, fun _ => rfl⟩ ⟨rfl, fun _ => rfl⟩ ⟨rfl, fun _ => rfl⟩ ⟨rfl, fun _ => rfl⟩ ⟨rfl, fun _ => rfl⟩ ?_
      refine SCall.gw (gpick_ok g.n k G (gk g.n (ent g) k).B (gk g.n (ent g) k).s (gtk g.n (ent g) k) (ggr g.n (ent g) (k + 1)) false (by omega) (by omega) r1 hG (hB k (by omega)) (by omega) (gtk_key k).pers ((decide_eq_false (by rw [← gpiv_eq]; exact fun h => h hz)).symm))
        (fun _ => rfl) (by decide) ⟨rfl, fun _ => rfl⟩ ⟨rfl, fun _ => rfl⟩ ⟨rfl, fun _ => rfl⟩ ⟨rfl, fun _ => rfl⟩ ⟨rfl, fun _ => rfl⟩ ?_
      refine SCmp.yes (rfl) ?_
      refine SRet.pure (.tup rfl fun i c d e1 e2 => ?_)
      match i, e1, e2 with
      | 0, e1, e2 => cases e1; cases e2; exact .p _ pers_part0
      | 1, e1, e2 => cases e1; cases e2; exact .p _ (.int _ _)
  · refine callG_of_vc (wr := wrK) Γok mixed Tryz.func11 (by kernel_rfl) rfl (by kernel_rfl) (le_of_ble rfl) (by simp) ?_
    refine SCmp.yes (neT (by rw [e]; decide)) ?_
    refine SCmp.no (neF (by rw [e]; rfl)) ?_
    refine SCall.mtx (gexpandO_ok m g h) ?_
    refine SNil.mk (fun _ => ?_) (fun h => absurd h (by omega))
    refine SDraw.mkX (by kernel_rfl) ?_
    repeat refine SOp.mk _ _ (And.intro rfl rfl) rfl ?_
    refine SOp.mk _ _ (SZ.mk (g.n : Int) rfl (And.intro rfl rfl)) rfl ?_
    repeat refine SOp.mk _ _ (And.intro rfl rfl) rfl ?_
    refine SOp.mk _ _ (SZ.mk (g.n : Int) rfl <| SLt.mk (by simp) <| SMake.mk g.n rfl (by show g.n * 8 ≤ _; omega) (by omega) (And.intro rfl rfl)) rfl ?_
    repeat refine SOp.mk _ _ (And.intro rfl rfl) rfl ?_
    refine SOp.mk _ _ (SCall.pure (kzero_ok) (And.intro rfl rfl)) rfl ?_
    repeat refine SOp.mk _ _ (And.intro rfl rfl) rfl ?_
    refine SFin.mk (by kernel_rfl) ?_
    refine SZ.mk (g.n : Int) rfl ?_
    refine SLoop.mk (Nat × (Nat → Nat)) (fun (i, s) => ([(2, .bptr 5 0), (5, .bptr 0 0), (39, .p (.int .i64 g.n)), (40, .p (.int .i64 (i : Nat)))],
        [.box 74 (gwA g.n 0), .rows 24 (plc 2 g.n g.n id), .pool 31 3 (plr g.n g.n (ent g)), .vec 3 1 (permP g.n s), .map [], .box 33 zpartA]))
      (fun (i, s) => i ≤ g.n ∧ ∀ t, t < g.n → s t = if t < i then t else 0) (fun x => g.n - x.1) (0, fun t => if t < 0 then t else 0) [6, 2, 3, 4, 5, 1] ⟨Nat.zero_le _, fun t _ => rfl⟩
      ⟨rfl, by simp, rfl, rfl, rfl, ⟨rfl, rfl, rfl, rfl, trivial⟩, ⟨rfl, congrArg _ (plc_ren 3 rfl (by decide)), rfl, congrArg _ perm0.symm, rfl, rfl, rows_in fun q hq => by simpa [plenAt] using hq, trivial⟩⟩ ?_
    intro ⟨i, s⟩ ⟨hi, hs⟩
    by_cases hin : i < g.n
    · refine SCmp.yes (decide_eq_true (by omega)) ?_
      refine SPos.mk i rfl hin ?_
      refine SLt.perm hin ?_
      refine SEs.perm ?_
      refine SWrap.i64z ((i + 1 : Nat) : Int) (by omega) (by omega) ?_
      refine ⟨(i + 1, _), [0, 1, 2, 3, 4, 5], ⟨hin, fun t ht => ?_⟩, by show g.n - (i + 1) < g.n - i; omega, ⟨rfl, by simp, rfl, rfl, rfl, ⟨rfl, rfl, rfl, rfl, trivial⟩, ⟨rfl, congrArg _ (plc_ren 2 rfl (by decide)), rfl, rfl, rfl, rfl, rows_in fun q hq => by simpa [plenAt] using hq, trivial⟩⟩⟩
      show upd s (i + 0) i t = _
      unfold upd
      by_cases e : t = i
      · rw [if_pos (by omega), if_pos (by omega), e]
      · rw [if_neg (by omega), hs t ht]
        by_cases e2 : t < i
        · rw [if_pos e2, if_pos (by omega)]
        · rw [if_neg e2, if_neg (by omega)]
    refine SCmp.no (decide_eq_false (by omega)) ?_
    obtain rfl : i = g.n := by omega
    have es : permP g.n s = permP g.n id := permP_congr fun t ht => by rw [hs t ht, if_pos ht]; rfl
    refine SCall.gw (glook_ok g.n 0 (ent g) (ent g) id [] 0 (Nat.zero_le _) (by omega) (fun i hi => hi) (fun _ _ _ _ => rfl) (hB 0 (Nat.zero_le _)) (bz_zero.mono h1) (by omega) (fun e he => by simp at he)) (fun _ => rfl) (by decide) ⟨rfl, fun _ => rfl⟩ ⟨rfl, fun _ => rfl⟩ ⟨rfl, fun _ => rfl⟩ ⟨congrArg (Blk.vec 3 1) es, fun _ => rfl⟩ ⟨rfl, fun _ => rfl⟩ ?_
    refine SZ.mk (g.n : Int) rfl ?_
    refine SLoop.mk (Nat × (Nat → Nat → Rat)) (fun (k, G) => ([(2, .bptr 5 0), (5, .bptr 0 0), (7, .bptr 6 0), (61, .p (.int .i64 g.n)), (62, .p (.int .i64 (k : Nat)))],
        gwB g.n G (gk g.n (ent g) k).s (gtk g.n (ent g) k) (ggr g.n (ent g) k) ++ [.box 33 zpartA, .box 31 (bxQ (ggr g.n (ent g) 0))]))
      (fun (k, G) => k ≤ K ∧ ∀ i j, i < g.n → j < g.n → G ((gk g.n (ent g) k).s i) j = (gk g.n (ent g) k).B i j) (fun x => g.n - x.1) (0, ent g) [0, 1, 2, 3, 4, 5, 6] ⟨Nat.zero_le _, fun _ _ _ _ => rfl⟩
      ⟨rfl, by simp, rfl, rfl, rfl, ⟨rfl, rfl, rfl, rfl, rfl, trivial⟩, ⟨rfl, congrArg _ (plc_ren 2 rfl (by decide)), rfl, rfl, rfl, rfl, rfl, rows_in (s := id) fun q hq => by simpa [plenAt] using hq, trivial⟩⟩ ?_
    intro ⟨k, G⟩ ⟨hkn, hG⟩
    obtain ⟨r1, r2, r3⟩ := gk_perm (n := g.n) (A := ent g) k (by omega)
    have zr := ggr_bz hB h1 k (by omega)
    refine SCmp.yes (decide_eq_true (by omega)) ?_
    by_cases e : k < K
    · refine SCall.gw (glook_ok g.n k G (gk g.n (ent g) k).B (gk g.n (ent g) k).s (gtk g.n (ent g) k) (ggr g.n (ent g) k) (by omega) (by omega) r1 hG (hB k (by omega)) zr (by omega) (gtk_key k).pers)
        (fun _ => rfl) (by decide) ⟨rfl, fun _ => rfl⟩ ⟨rfl, fun _ => rfl⟩ ⟨rfl, fun _ => rfl⟩ ⟨rfl, fun _ => rfl⟩ ⟨rfl, fun _ => rfl⟩ ?_
      refine SCall.gw (gpick_ok g.n k G (gk g.n (ent g) k).B (gk g.n (ent g) k).s (gtk g.n (ent g) k) (ggr g.n (ent g) (k + 1)) true (by omega) (by omega) r1 hG (hB k (by omega)) (by omega) (gtk_key k).pers ((decide_eq_true (by rw [← gpiv_eq]; exact hp k e)).symm))
        (fun _ => rfl) (by decide) ⟨rfl, fun _ => rfl⟩ ⟨rfl, fun _ => rfl⟩ ⟨rfl, fun _ => rfl⟩ ⟨rfl, fun _ => rfl⟩ ⟨rfl, fun _ => rfl⟩ ?_
      refine SCmp.no (rfl) ?_
      obtain ⟨si, hsi⟩ := gw_inv (n := g.n) (A := ent g) (k := k + 1) (by omega)
      obtain ⟨q1, q2, _⟩ := gk_perm (n := g.n) (A := ent g) (k + 1) (by omega)
      refine SCall.gw (gclean_ok g.n k G (gkP g.n (ent g) k) (gk g.n (ent g) (k + 1)).s si (gtk g.n (ent g) k) (ggr g.n (ent g) (k + 1)) (by omega) (by omega) q1 q2 hsi (gw_swp (by omega) hG) (hB.P (by omega)) (by omega) (hp k e) (gtk_key k))
        (fun _ => rfl) (by decide) ⟨rfl, fun _ => rfl⟩ ⟨rfl, fun _ => rfl⟩ ⟨rfl, fun _ => rfl⟩ ⟨rfl, fun _ => rfl⟩ ⟨rfl, fun _ => rfl⟩ ?_
      refine SWrap.i64z ((k + 1 : Nat) : Int) (by omega) (by omega) ?_
      exact ⟨(k + 1, fun r j => redA (gkP g.n (ent g) k) k (si r) j), [0, 1, 2, 3, 4, 5, 6], ⟨by omega, gw_next (by omega) hsi⟩, by show g.n - (k + 1) < g.n - k; omega, ⟨rfl, by simp, rfl, rfl, rfl, ⟨rfl, rfl, rfl, rfl, rfl, trivial⟩, ⟨rfl, congrArg _ (plc_ren 2 rfl (by decide)), rfl, rfl, rfl, rfl, rfl, rows_in fun q hq => by simpa [plenAt] using q1 q hq, trivial⟩⟩⟩
    · obtain rfl : k = K := by omega
      refine SCall.gw (glook_ok g.n k G (gk g.n (ent g) k).B (gk g.n (ent g) k).s (gtk g.n (ent g) k) (ggr g.n (ent g) k) (by omega) (by omega) r1 hG (hB k (by omega)) zr (by omega) (gtk_key k).pers)
        (fun _ => rfl) (by decide) ⟨rfl, fun _ => rfl⟩ ⟨rfl, fun _ => rfl⟩ ⟨rfl, fun _ => rfl⟩ ⟨rfl, fun _ => rfl⟩ ⟨rfl, fun _ => rfl⟩ ?_
      refine SCall.gw (gpick_ok g.n k G (gk g.n (ent g) k).B (gk g.n (ent g) k).s (gtk g.n (ent g) k) (ggr g.n (ent g) (k + 1)) false (by omega) (by omega) r1 hG (hB k (by omega)) (by omega) (gtk_key k).pers ((decide_eq_false (by rw [← gpiv_eq]; exact fun h => h hz)).symm))
        (fun _ => rfl) (by decide) ⟨rfl, fun _ => rfl⟩ ⟨rfl, fun _ => rfl⟩ ⟨rfl, fun _ => rfl⟩ ⟨rfl, fun _ => rfl⟩ ⟨rfl, fun _ => rfl⟩ ?_
      refine SCmp.yes (rfl) ?_
      refine SRet.pure (.tup rfl fun i c d e1 e2 => ?_)
      match i, e1, e2 with
      | 0, e1, e2 => cases e1; cases e2; exact .p _ pers_part0
      | 1, e1, e2 => cases e1; cases e2; exact .p _ (.int _ _)
end Go.Proofs.YtjfcphohgicolaaGreat

namespace Go.Proofs.YtjfcphohgicolaaGreat
open Go
set_option linter.unusedVariables false
set_option linter.unusedSimpArgs false
set_option maxRecDepth 10000
theorem kfactor_ok (m : Nat → Bool) (g : GV) {b c D : Nat} (h : Wf g b c) (hk : g.k = 5 ∨ g.k = 7) (hB : GkB g.n (ent g) D) (h1 : 1 ≤ D) (hD : 4 * D + 1 ≤ 1000000) (hp : ∀ t, t < g.n → gpiv g.n (ent g) t ≠ 0) :
    CallP Tryz.prog 11 [genP m g] (.tup [.p (partP g.n (ent g)), .p (.int .i64 0)]) [] := by
  have h6 := h.n6
  have n1 := h.n1
  have zL : ∀ i j, i < g.n → Bz (gL g.n (ent g) i j) (D + D) := fun i j hi => gM_bz hB h1 g.n (Nat.le_refl _) i j hi
  rcases hk with e | e
  · refine callG_of_vc (wr := wrK) Γok mixed Tryz.func11 (by kernel_rfl) rfl (by kernel_rfl) (le_of_ble rfl) (by simp) ?_
    refine SCmp.no (neF (by rw [e]; rfl)) ?_
    refine SCall.mtx (gexpandO_ok m g h) ?_
    refine SNil.mk (fun _ => ?_) (fun h => absurd h (by omega))
    refine SDraw.mkX (by kernel_rfl) ?_
    repeat refine SOp.mk _ _ (And.intro rfl rfl) rfl ?_
    refine SOp.mk _ _ (SZ.mk (g.n : Int) rfl (And.intro rfl rfl)) rfl ?_
    repeat refine SOp.mk _ _ (And.intro rfl rfl) rfl ?_
    refine SOp.mk _ _ (SZ.mk (g.n : Int) rfl <| SLt.mk (by simp) <| SMake.mk g.n rfl (by show g.n * 8 ≤ _; omega) (by omega) (And.intro rfl rfl)) rfl ?_
    repeat refine SOp.mk _ _ (And.intro rfl rfl) rfl ?_
    refine SOp.mk _ _ (SCall.pure (kzero_ok) (And.intro rfl rfl)) rfl ?_
    repeat refine SOp.mk _ _ (And.intro rfl rfl) rfl ?_
    refine SFin.mk (by kernel_rfl) ?_
    refine SZ.mk (g.n : Int) rfl ?_
    refine SLoop.mk (Nat × (Nat → Nat)) (fun (i, s) => ([(2, .bptr 5 0), (5, .bptr 0 0), (39, .p (.int .i64 g.n)), (40, .p (.int .i64 (i : Nat)))],
        [.box 74 (gwA g.n 0), .rows 24 (plc 2 g.n g.n id), .pool 31 3 (plr g.n g.n (ent g)), .vec 3 1 (permP g.n s), .map [], .box 33 zpartA]))
      (fun (i, s) => i ≤ g.n ∧ ∀ t, t < g.n → s t = if t < i then t else 0) (fun x => g.n - x.1) (0, fun t => if t < 0 then t else 0) [6, 2, 3, 4, 5, 1] ⟨Nat.zero_le _, fun t _ => rfl⟩
      ⟨rfl, by simp, rfl, rfl, rfl, ⟨rfl, rfl, rfl, rfl, trivial⟩, ⟨rfl, congrArg _ (plc_ren 3 rfl (by decide)), rfl, congrArg _ perm0.symm, rfl, rfl, rows_in fun q hq => by simpa [plenAt] using hq, trivial⟩⟩ ?_
    intro ⟨i, s⟩ ⟨hi, hs⟩
    by_cases hin : i < g.n
    · refine SCmp.yes (decide_eq_true (by omega)) ?_
      refine SPos.mk i rfl hin ?_
      refine SLt.perm hin ?_
      refine SEs.perm ?_
      refine SWrap.i64z ((i + 1 : Nat) : Int) (by omega) (by omega) ?_
      refine ⟨(i + 1, _), [0, 1, 2, 3, 4, 5], ⟨hin, fun t ht => ?_⟩, by show g.n - (i + 1) < g.n - i; omega, ⟨rfl, by simp, rfl, rfl, rfl, ⟨rfl, rfl, rfl, rfl, trivial⟩, ⟨rfl, congrArg _ (plc_ren 2 rfl (by decide)), rfl, rfl, rfl, rfl, rows_in fun q hq => by simpa [plenAt] using hq, trivial⟩⟩⟩
      show upd s (i + 0) i t = _
      unfold upd
      by_cases e : t = i
      · rw [if_pos (by omega), if_pos (by omega), e]
      · rw [if_neg (by omega), hs t ht]
        by_cases e2 : t < i
        · rw [if_pos e2, if_pos (by omega)]
        · rw [if_neg e2, if_neg (by omega)]
    refine SCmp.no (decide_eq_false (by omega)) ?_
    obtain rfl : i = g.n := by omega
    have es : permP g.n s = permP g.n id := permP_congr fun t ht => by rw [hs t ht, if_pos ht]; rfl
    refine SCall.gw (glook_ok g.n 0 (ent g) (ent g) id [] 0 (Nat.zero_le _) (by omega) (fun i hi => hi) (fun _ _ _ _ => rfl) (hB 0 (Nat.zero_le _)) (bz_zero.mono h1) (by omega) (fun e he => by simp at he)) (fun _ => rfl) (by decide) ⟨rfl, fun _ => rfl⟩ ⟨rfl, fun _ => rfl⟩ ⟨rfl, fun _ => rfl⟩ ⟨congrArg (Blk.vec 3 1) es, fun _ => rfl⟩ ⟨rfl, fun _ => rfl⟩ ?_
    refine SZ.mk (g.n : Int) rfl ?_
    refine SLoop.mk (Nat × (Nat → Nat → Rat)) (fun (k, G) => ([(2, .bptr 5 0), (5, .bptr 0 0), (7, .bptr 6 0), (61, .p (.int .i64 g.n)), (62, .p (.int .i64 (k : Nat)))],
        gwB g.n G (gk g.n (ent g) k).s (gtk g.n (ent g) k) (ggr g.n (ent g) k) ++ [.box 33 zpartA, .box 31 (bxQ (ggr g.n (ent g) 0))]))
      (fun (k, G) => k ≤ g.n ∧ ∀ i j, i < g.n → j < g.n → G ((gk g.n (ent g) k).s i) j = (gk g.n (ent g) k).B i j) (fun x => g.n - x.1) (0, ent g) [0, 1, 2, 3, 4, 5, 6] ⟨Nat.zero_le _, fun _ _ _ _ => rfl⟩
      ⟨rfl, by simp, rfl, rfl, rfl, ⟨rfl, rfl, rfl, rfl, rfl, trivial⟩, ⟨rfl, congrArg _ (plc_ren 2 rfl (by decide)), rfl, rfl, rfl, rfl, rfl, rows_in (s := id) fun q hq => by simpa [plenAt] using hq, trivial⟩⟩ ?_
    intro ⟨k, G⟩ ⟨hkn, hG⟩
    obtain ⟨r1, r2, r3⟩ := gk_perm (n := g.n) (A := ent g) k (by omega)
    have zr := ggr_bz hB h1 k (by omega)
    by_cases hkn2 : k < g.n
    · refine SCmp.yes (decide_eq_true (by omega)) ?_
      refine SCall.gw (glook_ok g.n k G (gk g.n (ent g) k).B (gk g.n (ent g) k).s (gtk g.n (ent g) k) (ggr g.n (ent g) k) (by omega) (by omega) r1 hG (hB k (by omega)) zr (by omega) (gtk_key k).pers)
        (fun _ => rfl) (by decide) ⟨rfl, fun _ => rfl⟩ ⟨rfl, fun _ => rfl⟩ ⟨rfl, fun _ => rfl⟩ ⟨rfl, fun _ => rfl⟩ ⟨rfl, fun _ => rfl⟩ ?_
      refine SCall.gw (gpick_ok g.n k G (gk g.n (ent g) k).B (gk g.n (ent g) k).s (gtk g.n (ent g) k) (ggr g.n (ent g) (k + 1)) true (by omega) (by omega) r1 hG (hB k (by omega)) (by omega) (gtk_key k).pers ((decide_eq_true (by rw [← gpiv_eq]; exact hp k hkn2)).symm))
        (fun _ => rfl) (by decide) ⟨rfl, fun _ => rfl⟩ ⟨rfl, fun _ => rfl⟩ ⟨rfl, fun _ => rfl⟩ ⟨rfl, fun _ => rfl⟩ ⟨rfl, fun _ => rfl⟩ ?_
      refine SCmp.no (rfl) ?_
      obtain ⟨si, hsi⟩ := gw_inv (n := g.n) (A := ent g) (k := k + 1) (by omega)
      obtain ⟨q1, q2, _⟩ := gk_perm (n := g.n) (A := ent g) (k + 1) (by omega)
      refine SCall.gw (gclean_ok g.n k G (gkP g.n (ent g) k) (gk g.n (ent g) (k + 1)).s si (gtk g.n (ent g) k) (ggr g.n (ent g) (k + 1)) (by omega) (by omega) q1 q2 hsi (gw_swp (by omega) hG) (hB.P (by omega)) (by omega) (hp k hkn2) (gtk_key k))
        (fun _ => rfl) (by decide) ⟨rfl, fun _ => rfl⟩ ⟨rfl, fun _ => rfl⟩ ⟨rfl, fun _ => rfl⟩ ⟨rfl, fun _ => rfl⟩ ⟨rfl, fun _ => rfl⟩ ?_
      refine SWrap.i64z ((k + 1 : Nat) : Int) (by omega) (by omega) ?_
      exact ⟨(k + 1, fun r j => redA (gkP g.n (ent g) k) k (si r) j), [0, 1, 2, 3, 4, 5, 6], ⟨by omega, gw_next (by omega) hsi⟩, by show g.n - (k + 1) < g.n - k; omega, ⟨rfl, by simp, rfl, rfl, rfl, ⟨rfl, rfl, rfl, rfl, rfl, trivial⟩, ⟨rfl, congrArg _ (plc_ren 2 rfl (by decide)), rfl, rfl, rfl, rfl, rfl, rows_in fun q hq => by simpa [plenAt] using q1 q hq, trivial⟩⟩⟩
    · refine SCmp.no (decide_eq_false (by omega)) ?_
      obtain rfl : k = g.n := by omega
      have r1 : ∀ i, i < g.n → gO g.n (ent g) i < g.n := r1
      have own := gown_ok true true g.n (fun i => G (gO g.n (ent g) i)) n1 (by omega) (fun i j hi hj => by
        have e : G (gO g.n (ent g) i) j = (gk g.n (ent g) g.n).B i j := hG i j hi hj
        rw [e]; exact hB g.n (Nat.le_refl _) i j hi hj) (by omega)
      have eU : matP false false g.n g.n (fun i => G (gO g.n (ent g) i)) = matP false false g.n g.n (gU g.n (ent g)) := matP_congr fun i j hi hj => hG i j hi hj
      rw [eU] at own
      refine SDraw.mkX (by kernel_rfl) ?_
      repeat refine SOp.mk _ _ (And.intro rfl rfl) rfl ?_
      refine SOp.mk _ _ (SLendR.plc rfl r1 <| SCall.pure own (And.intro rfl rfl)) rfl ?_
      repeat refine SOp.mk _ _ (And.intro rfl rfl) rfl ?_
      refine SFin.mk (by kernel_rfl) ?_
      refine SZ.mk (g.n : Int) rfl ?_
      refine SLoop.mkT Nat (fun i => match i with
          | 0 => ([(2, .bptr 5 0), (5, .bptr 0 0), (7, .bptr 6 0), (9, .bptr 7 0), (91, .p (.int .i64 g.n)), (92, .p (.int .i64 0))],
            gwB g.n G (gO g.n (ent g)) (gtk g.n (ent g) g.n) (ggr g.n (ent g) g.n) ++ ([Blk.box 33 zpartA, Blk.box 31 (bxQ (ggr g.n (ent g) 0)), Blk.box 33 [.vec (.t 3) 1 0 g.n, .p (.raw (.slice none 0 0)), .p (matP false false g.n g.n (gU g.n (ent g))), .p (.bool false), .p (.sl false 1 []), .p (.sl false 1 [])], Blk.pool 31 3 (plr 0 g.n (gL g.n (ent g)))] : List Blk))
          | i + 1 => ([(2, .bptr 5 0), (5, .bptr 0 0), (7, .bptr 6 0), (9, .bptr 7 0), (91, .p (.int .i64 g.n)), (92, .p (.int .i64 ((i + 1 : Nat) : Int)))],
            gwB g.n G (gO g.n (ent g)) (gtk g.n (ent g) g.n) (ggr g.n (ent g) g.n) ++ ([Blk.box 33 zpartA, Blk.box 31 (bxQ (ggr g.n (ent g) 0)), Blk.box 33 [.vec (.t 3) 1 0 g.n, .vec (.t 9) 1 0 (i + 1), .p (matP false false g.n g.n (gU g.n (ent g))), .p (.bool false), .p (.sl false 1 []), .p (.sl false 1 [])], Blk.pool 31 3 (plr (i + 1) g.n (gL g.n (ent g))), Blk.rows 24 (plc 8 g.n (i + 1) id)] : List Blk)))
        (fun i => i ≤ g.n) (fun i => g.n - i) 0 [0, 1, 2, 3, 4, 5, 6, 7, 8] _ _ (.pool 31 3 (.done _ _)) (Nat.zero_le _) ⟨rfl, by simp, rfl, rfl, rfl, ⟨rfl, rfl, rfl, rfl, rfl, rfl, trivial⟩, ⟨rfl, congrArg _ (plc_ren 2 rfl (by decide)), rfl, rfl, rfl, rfl, rfl, rfl, rfl, rows_in fun q hq => by simpa [plenAt] using r1 q hq, trivial⟩⟩ ?_
      intro i hi
      match i, hi with
      | 0, hi =>
        refine SCmp.yes (decide_eq_true (by omega)) ?_
        refine SZ.mk (g.n : Int) rfl ?_
        refine SZ.mk (g.n : Int) rfl ?_
        refine SLt.mk (by simp) ?_
        refine SMake.rat g.n rfl (by omega) ?_
        refine SZ.mk (g.n : Int) rfl ?_
        refine SLoop.mk Nat (fun j => ([(2, .bptr 5 0), (5, .bptr 0 0), (7, .bptr 6 0), (9, .bptr 7 0), (10, .p (.int .i64 0)), (11, .vec 9 3 0 g.n), (91, .p (.int .i64 g.n)), (92, .p (.int .i64 0)), (102, .p (.int .i64 g.n)), (103, .p (.int .i64 (j : Nat)))],
            gwB g.n G (gO g.n (ent g)) (gtk g.n (ent g) g.n) (ggr g.n (ent g) g.n) ++ ([Blk.box 33 zpartA, Blk.box 31 (bxQ (ggr g.n (ent g) 0)), Blk.box 33 [.vec (.t 3) 1 0 g.n, .p (.raw (.slice none 0 0)), .p (matP false false g.n g.n (gU g.n (ent g))), .p (.bool false), .p (.sl false 1 []), .p (.sl false 1 [])], Blk.pool 31 3 (plr 0 g.n (gL g.n (ent g))),Blk.vec 31 3 (fl g.n fun k => if k < j then ratP (gL g.n (ent g) (0) k) else rat0)] : List Blk)))
          (fun j => j ≤ g.n) (fun j => g.n - j) 0 [0, 1, 2, 3, 4, 5, 6, 7, 8, 9] (Nat.zero_le _) ⟨rfl, by simp, rfl, rfl, rfl, ⟨rfl, rfl, rfl, rfl, rfl, rfl, rfl, rfl, rfl, rfl, trivial⟩, ⟨rfl, congrArg _ (plc_ren 2 rfl (by decide)), rfl, rfl, rfl, rfl, rfl, rfl, rfl,congrArg _ ((fl_congr fun k hk => if_neg (by omega)).trans (replicate_fl g.n rat0).symm), rows_in fun q hq => by simpa [plenAt] using r1 q hq, trivial⟩⟩ ?_
        intro j hj
        have hj : j ≤ g.n := hj
        by_cases hjn : j < g.n
        · refine SCmp.yes (decide_eq_true (by omega)) ?_
          have low := glower_ok g.n (ent g) (fl g.n fun i => ratsM true (lst g.n (G (gO g.n (ent g) i)))) (ggr g.n (ent g) g.n) (0) j (by omega) hjn (zL (0) j (by omega)) (by omega)
          refine SLendR.plc rfl r1 ?_
          refine SView.all (by simp) ?_
          refine SCall.pure (low) ?_
          refine SPos.mk j rfl hjn ?_
          refine SLt.mk (by simp; omega) <| SEs.mk _ (row_step hjn) ?_
          refine SWrap.i64z ((j + 1 : Nat) : Int) (by omega) (by omega) ?_
          exact ⟨j + 1, [0, 1, 2, 3, 4, 5, 6, 7, 8, 9], hjn, by show g.n - (j + 1) < g.n - j; omega, ⟨rfl, by simp, rfl, rfl, rfl, ⟨rfl, rfl, rfl, rfl, rfl, rfl, rfl, rfl, rfl, rfl, trivial⟩, ⟨rfl, congrArg _ (plc_ren 2 rfl (by decide)), rfl, rfl, rfl, rfl, rfl, rfl, rfl,rfl, rows_in fun q hq => by simpa [plenAt] using r1 q hq, trivial⟩⟩⟩
        · refine SCmp.no (decide_eq_false (by omega)) ?_
          obtain rfl : j = g.n := by omega
          refine SRoom.mk (by simp) (by simp) ?_
          refine SWrap.i64z ((0 + 1 : Nat) : Int) (by omega) (by omega) ?_
          exact ⟨1, [0, 1, 2, 3, 4, 5, 6, 7, 10008, 11], n1, by show g.n - 1 < g.n - 0; omega, ⟨rfl, by simp, rfl, rfl, rfl, ⟨rfl, rfl, rfl, rfl, rfl, rfl, trivial⟩, ⟨rfl, congrArg _ (plc_ren 2 rfl (by decide)), rfl, rfl, rfl, rfl, rfl, rfl, ⟨_, _, _, _, rfl, rfl, congrArg _ (plr_snoc.trans (congrArg (fun r => plr 0 g.n (gL g.n (ent g)) ++ [some r]) row_full))⟩, congrArg _ (plc_absorb (p' := 8) (q := 9) (c := g.n) (k := 0) rfl (by decide) (by simp [plenAt])), rows_in fun q hq => by simpa [plenAt] using r1 q hq, rows_in fun q hq => by simpa [plenAt] using hq, trivial⟩⟩⟩
      | i + 1, hi =>
        have hi : i + 1 ≤ g.n := hi
        by_cases hin : i + 1 < g.n
        · refine SCmp.yes (decide_eq_true (by omega)) ?_
          refine SZ.mk (g.n : Int) rfl ?_
          refine SZ.mk (g.n : Int) rfl ?_
          refine SLt.mk (by simp) ?_
          refine SMake.rat g.n rfl (by omega) ?_
          refine SZ.mk (g.n : Int) rfl ?_
          refine SLoop.mk Nat (fun j => ([(2, .bptr 5 0), (5, .bptr 0 0), (7, .bptr 6 0), (9, .bptr 7 0), (10, .p (.int .i64 ((i + 1 : Nat) : Int))), (11, .vec 10 3 0 g.n), (91, .p (.int .i64 g.n)), (92, .p (.int .i64 ((i + 1 : Nat) : Int))), (102, .p (.int .i64 g.n)), (103, .p (.int .i64 (j : Nat)))],
              gwB g.n G (gO g.n (ent g)) (gtk g.n (ent g) g.n) (ggr g.n (ent g) g.n) ++ ([Blk.box 33 zpartA, Blk.box 31 (bxQ (ggr g.n (ent g) 0)), Blk.box 33 [.vec (.t 3) 1 0 g.n, .vec (.t 9) 1 0 (i + 1), .p (matP false false g.n g.n (gU g.n (ent g))), .p (.bool false), .p (.sl false 1 []), .p (.sl false 1 [])], Blk.pool 31 3 (plr (i + 1) g.n (gL g.n (ent g))), Blk.rows 24 (plc 8 g.n (i + 1) id),Blk.vec 31 3 (fl g.n fun k => if k < j then ratP (gL g.n (ent g) (i + 1) k) else rat0)] : List Blk)))
            (fun j => j ≤ g.n) (fun j => g.n - j) 0 [0, 1, 2, 3, 4, 5, 6, 7, 8, 9, 10] (Nat.zero_le _) ⟨rfl, by simp, rfl, rfl, rfl, ⟨rfl, rfl, rfl, rfl, rfl, rfl, rfl, rfl, rfl, rfl, trivial⟩, ⟨rfl, congrArg _ (plc_ren 2 rfl (by decide)), rfl, rfl, rfl, rfl, rfl, rfl, rfl, congrArg _ (plc_ren 8 rfl (by decide)),congrArg _ ((fl_congr fun k hk => if_neg (by omega)).trans (replicate_fl g.n rat0).symm), rows_in fun q hq => by simpa [plenAt] using r1 q hq, rows_in fun q hq => by simpa [plenAt] using hq,trivial⟩⟩ ?_
          intro j hj
          have hj : j ≤ g.n := hj
          by_cases hjn : j < g.n
          · refine SCmp.yes (decide_eq_true (by omega)) ?_
            have low := glower_ok g.n (ent g) (fl g.n fun i => ratsM true (lst g.n (G (gO g.n (ent g) i)))) (ggr g.n (ent g) g.n) (i + 1) j (by omega) hjn (zL (i + 1) j (by omega)) (by omega)
            refine SLendR.plc rfl r1 ?_
            refine SView.all (by simp) ?_
            refine SCall.pure (low) ?_
            refine SPos.mk j rfl hjn ?_
            refine SLt.mk (by simp; omega) <| SEs.mk _ (row_step hjn) ?_
            refine SWrap.i64z ((j + 1 : Nat) : Int) (by omega) (by omega) ?_
            exact ⟨j + 1, [0, 1, 2, 3, 4, 5, 6, 7, 8, 9, 10], hjn, by show g.n - (j + 1) < g.n - j; omega, ⟨rfl, by simp, rfl, rfl, rfl, ⟨rfl, rfl, rfl, rfl, rfl, rfl, rfl, rfl, rfl, rfl, trivial⟩, ⟨rfl, congrArg _ (plc_ren 2 rfl (by decide)), rfl, rfl, rfl, rfl, rfl, rfl, rfl, congrArg _ (plc_ren 8 rfl (by decide)),rfl, rows_in fun q hq => by simpa [plenAt] using r1 q hq, rows_in fun q hq => by simpa [plenAt] using hq,trivial⟩⟩⟩
          · refine SCmp.no (decide_eq_false (by omega)) ?_
            obtain rfl : j = g.n := by omega
            refine SEqN.mk (by simp) ?_
            refine SRoom.mk (by simp; omega) (by simp; omega) ?_
            refine SAs.mk _ rfl ?_
            refine SZN.mk (i + 1 + 1) (by simp) ?_
            refine SWrap.i64z ((i + 1 + 1 : Nat) : Int) (by omega) (by omega) ?_
            exact ⟨i + 1 + 1, [0, 1, 2, 3, 4, 5, 6, 7, 11008, 12], hin, by show g.n - (i + 1 + 1) < g.n - (i + 1); omega, ⟨rfl, by simp, rfl, rfl, rfl, ⟨rfl, rfl, rfl, rfl, rfl, rfl, trivial⟩, ⟨rfl, congrArg _ (plc_ren 2 rfl (by decide)), rfl, rfl, rfl, rfl, rfl, rfl, ⟨_, _, _, _, rfl, rfl, congrArg _ (plr_snoc.trans (congrArg (fun r => plr (i + 1) g.n (gL g.n (ent g)) ++ [some r]) row_full))⟩, congrArg _ (plc_absorb (p' := 8) (q := 10) (c := g.n) (k := i + 1) rfl (by decide) (by simp [plenAt])), rows_in fun q hq => by simpa [plenAt] using r1 q hq, rows_in fun q hq => by simpa [plenAt] using hq, trivial⟩⟩⟩
        · refine SCmp.no (decide_eq_false (by omega)) ?_
          have hn : i + 1 = g.n := by omega
          have z0 : ggr g.n (ent g) 0 ≠ 0 := fun e => by have := ggr_pos n1 (hp 0 n1); rw [e] at this; exact absurd this (by decide)
          have gq := quo_ok (ggr g.n (ent g) g.n) (ggr g.n (ent g) 0) z0 (ggr_bz hB h1 g.n (Nat.le_refl _)).sz (ggr_bz hB h1 0 (Nat.zero_le _)).sz (by omega)
          refine SDraw.mkX (by kernel_rfl) ?_
          repeat refine SOp.mk _ _ (And.intro rfl rfl) rfl ?_
          refine SOp.mk _ _ (SCall.pureT (gq) (fun _ => rfl) (And.intro rfl rfl)) rfl ?_
          repeat refine SOp.mk _ _ (And.intro rfl rfl) rfl ?_
          refine SFin.mk (by kernel_rfl) ?_
          have eL : matP false false g.n g.n (gL g.n (ent g)) = matP false false (i + 1) g.n (gL g.n (ent g)) := by rw [hn]
          refine SRet.pure (.tup rfl fun a c d e1 e2 => ?_)
          match a, e1, e2 with
          | 0, e1, e2 =>
            cases e1; cases e2
            refine .aggp (ps := partC g.n (ent g)) (fun d hd => by simp only [partC, List.mem_cons, List.not_mem_nil, or_false] at hd; rcases hd with rfl | rfl | rfl | rfl | rfl | rfl <;> rfl) rfl fun a c d e1 e2 => ?_
            match a, e1, e2 with
            | 0, e1, e2 => cases e1; cases e2; exact .frz (h := .t 3) rfl (by simp) (by simp) pers_perm (by rw [List.drop_zero]; exact List.take_of_length_le (by simp))
            | 1, e1, e2 => cases e1; cases e2; rw [eL]; exact frzM (h := 9) (p := 8) rfl rfl fun q hq => hq
            | 2, e1, e2 => cases e1; cases e2; exact .p _ pers_matP
            | 3, e1, e2 => cases e1; cases e2; exact .p _ (.bool _)
            | 4, e1, e2 => cases e1; cases e2; exact .p _ (.sl _ _ (pers_limbs _))
            | 5, e1, e2 => cases e1; cases e2; exact .p _ (.sl _ _ (pers_limbs _))
          | 1, e1, e2 => cases e1; cases e2; exact .p _ (.int _ _)
  · refine callG_of_vc (wr := wrK) Γok mixed Tryz.func11 (by kernel_rfl) rfl (by kernel_rfl) (le_of_ble rfl) (by simp) ?_
    refine SCmp.yes (neT (by rw [e]; decide)) ?_
    refine SCmp.no (neF (by rw [e]; rfl)) ?_
    refine SCall.mtx (gexpandO_ok m g h) ?_
    refine SNil.mk (fun _ => ?_) (fun h => absurd h (by omega))
    refine SDraw.mkX (by kernel_rfl) ?_
    repeat refine SOp.mk _ _ (And.intro rfl rfl) rfl ?_
    refine SOp.mk _ _ (SZ.mk (g.n : Int) rfl (And.intro rfl rfl)) rfl ?_
    repeat refine SOp.mk _ _ (And.intro rfl rfl) rfl ?_
    refine SOp.mk _ _ (SZ.mk (g.n : Int) rfl <| SLt.mk (by simp) <| SMake.mk g.n rfl (by show g.n * 8 ≤ _; omega) (by omega) (And.intro rfl rfl)) rfl ?_
    repeat refine SOp.mk _ _ (And.intro rfl rfl) rfl ?_
    refine SOp.mk _ _ (SCall.pure (kzero_ok) (And.intro rfl rfl)) rfl ?_
    repeat refine SOp.mk _ _ (And.intro rfl rfl) rfl ?_
    refine SFin.mk (by kernel_rfl) ?_
    refine SZ.mk (g.n : Int) rfl ?_
    refine SLoop.mk (Nat × (Nat → Nat)) (fun (i, s) => ([(2, .bptr 5 0), (5, .bptr 0 0), (39, .p (.int .i64 g.n)), (40, .p (.int .i64 (i : Nat)))],
        [.box 74 (gwA g.n 0), .rows 24 (plc 2 g.n g.n id), .pool 31 3 (plr g.n g.n (ent g)), .vec 3 1 (permP g.n s), .map [], .box 33 zpartA]))
      (fun (i, s) => i ≤ g.n ∧ ∀ t, t < g.n → s t = if t < i then t else 0) (fun x => g.n - x.1) (0, fun t => if t < 0 then t else 0) [6, 2, 3, 4, 5, 1] ⟨Nat.zero_le _, fun t _ => rfl⟩
      ⟨rfl, by simp, rfl, rfl, rfl, ⟨rfl, rfl, rfl, rfl, trivial⟩, ⟨rfl, congrArg _ (plc_ren 3 rfl (by decide)), rfl, congrArg _ perm0.symm, rfl, rfl, rows_in fun q hq => by simpa [plenAt] using hq, trivial⟩⟩ ?_
    intro ⟨i, s⟩ ⟨hi, hs⟩
    by_cases hin : i < g.n
    · refine SCmp.yes (decide_eq_true (by omega)) ?_
      refine SPos.mk i rfl hin ?_
      refine SLt.perm hin ?_
      refine SEs.perm ?_
      refine SWrap.i64z ((i + 1 : Nat) : Int) (by omega) (by omega) ?_
      refine ⟨(i + 1, _), [0, 1, 2, 3, 4, 5], ⟨hin, fun t ht => ?_⟩, by show g.n - (i + 1) < g.n - i; omega, ⟨rfl, by simp, rfl, rfl, rfl, ⟨rfl, rfl, rfl, rfl, trivial⟩, ⟨rfl, congrArg _ (plc_ren 2 rfl (by decide)), rfl, rfl, rfl, rfl, rows_in fun q hq => by simpa [plenAt] using hq, trivial⟩⟩⟩
      show upd s (i + 0) i t = _
      unfold upd
      by_cases e : t = i
      · rw [if_pos (by omega), if_pos (by omega), e]
      · rw [if_neg (by omega), hs t ht]
        by_cases e2 : t < i
        · rw [if_pos e2, if_pos (by omega)]
        · rw [if_neg e2, if_neg (by omega)]
    refine SCmp.no (decide_eq_false (by omega)) ?_
    obtain rfl : i = g.n := by omega
    have es : permP g.n s = permP g.n id := permP_congr fun t ht => by rw [hs t ht, if_pos ht]; rfl
    refine SCall.gw (glook_ok g.n 0 (ent g) (ent g) id [] 0 (Nat.zero_le _) (by omega) (fun i hi => hi) (fun _ _ _ _ => rfl) (hB 0 (Nat.zero_le _)) (bz_zero.mono h1) (by omega) (fun e he => by simp at he)) (fun _ => rfl) (by decide) ⟨rfl, fun _ => rfl⟩ ⟨rfl, fun _ => rfl⟩ ⟨rfl, fun _ => rfl⟩ ⟨congrArg (Blk.vec 3 1) es, fun _ => rfl⟩ ⟨rfl, fun _ => rfl⟩ ?_
    refine SZ.mk (g.n : Int) rfl ?_
    refine SLoop.mk (Nat × (Nat → Nat → Rat)) (fun (k, G) => ([(2, .bptr 5 0), (5, .bptr 0 0), (7, .bptr 6 0), (61, .p (.int .i64 g.n)), (62, .p (.int .i64 (k : Nat)))],
        gwB g.n G (gk g.n (ent g) k).s (gtk g.n (ent g) k) (ggr g.n (ent g) k) ++ [.box 33 zpartA, .box 31 (bxQ (ggr g.n (ent g) 0))]))
      (fun (k, G) => k ≤ g.n ∧ ∀ i j, i < g.n → j < g.n → G ((gk g.n (ent g) k).s i) j = (gk g.n (ent g) k).B i j) (fun x => g.n - x.1) (0, ent g) [0, 1, 2, 3, 4, 5, 6] ⟨Nat.zero_le _, fun _ _ _ _ => rfl⟩
      ⟨rfl, by simp, rfl, rfl, rfl, ⟨rfl, rfl, rfl, rfl, rfl, trivial⟩, ⟨rfl, congrArg _ (plc_ren 2 rfl (by decide)), rfl, rfl, rfl, rfl, rfl, rows_in (s := id) fun q hq => by simpa [plenAt] using hq, trivial⟩⟩ ?_
    intro ⟨k, G⟩ ⟨hkn, hG⟩
    obtain ⟨r1, r2, r3⟩ := gk_perm (n := g.n) (A := ent g) k (by omega)
    have zr := ggr_bz hB h1 k (by omega)
    by_cases hkn2 : k < g.n
    · refine SCmp.yes (decide_eq_true (by omega)) ?_
      refine SCall.gw (glook_ok g.n k G (gk g.n (ent g) k).B (gk g.n (ent g) k).s (gtk g.n (ent g) k) (ggr g.n (ent g) k) (by omega) (by omega) r1 hG (hB k (by omega)) zr (by omega) (gtk_key k).pers)
        (fun _ => rfl) (by decide) ⟨rfl, fun _ => rfl⟩ ⟨rfl, fun _ => rfl⟩ ⟨rfl, fun _ => rfl⟩ ⟨rfl, fun _ => rfl⟩ ⟨rfl, fun _ => rfl⟩ ?_
      refine SCall.gw (gpick_ok g.n k G (gk g.n (ent g) k).B (gk g.n (ent g) k).s (gtk g.n (ent g) k) (ggr g.n (ent g) (k + 1)) true (by omega) (by omega) r1 hG (hB k (by omega)) (by omega) (gtk_key k).pers ((decide_eq_true (by rw [← gpiv_eq]; exact hp k hkn2)).symm))
        (fun _ => rfl) (by decide) ⟨rfl, fun _ => rfl⟩ ⟨rfl, fun _ => rfl⟩ ⟨rfl, fun _ => rfl⟩ ⟨rfl, fun _ => rfl⟩ ⟨rfl, fun _ => rfl⟩ ?_
      refine SCmp.no (rfl) ?_
      obtain ⟨si, hsi⟩ := gw_inv (n := g.n) (A := ent g) (k := k + 1) (by omega)
      obtain ⟨q1, q2, _⟩ := gk_perm (n := g.n) (A := ent g) (k + 1) (by omega)
      refine SCall.gw (gclean_ok g.n k G (gkP g.n (ent g) k) (gk g.n (ent g) (k + 1)).s si (gtk g.n (ent g) k) (ggr g.n (ent g) (k + 1)) (by omega) (by omega) q1 q2 hsi (gw_swp (by omega) hG) (hB.P (by omega)) (by omega) (hp k hkn2) (gtk_key k))
        (fun _ => rfl) (by decide) ⟨rfl, fun _ => rfl⟩ ⟨rfl, fun _ => rfl⟩ ⟨rfl, fun _ => rfl⟩ ⟨rfl, fun _ => rfl⟩ ⟨rfl, fun _ => rfl⟩ ?_
      refine SWrap.i64z ((k + 1 : Nat) : Int) (by omega) (by omega) ?_
      exact ⟨(k + 1, fun r j => redA (gkP g.n (ent g) k) k (si r) j), [0, 1, 2, 3, 4, 5, 6], ⟨by omega, gw_next (by omega) hsi⟩, by show g.n - (k + 1) < g.n - k; omega, ⟨rfl, by simp, rfl, rfl, rfl, ⟨rfl, rfl, rfl, rfl, rfl, trivial⟩, ⟨rfl, congrArg _ (plc_ren 2 rfl (by decide)), rfl, rfl, rfl, rfl, rfl, rows_in fun q hq => by simpa [plenAt] using q1 q hq, trivial⟩⟩⟩
    · refine SCmp.no (decide_eq_false (by omega)) ?_
      obtain rfl : k = g.n := by omega
      have r1 : ∀ i, i < g.n → gO g.n (ent g) i < g.n := r1
      have own := gown_ok true true g.n (fun i => G (gO g.n (ent g) i)) n1 (by omega) (fun i j hi hj => by
        have e : G (gO g.n (ent g) i) j = (gk g.n (ent g) g.n).B i j := hG i j hi hj
        rw [e]; exact hB g.n (Nat.le_refl _) i j hi hj) (by omega)
      have eU : matP false false g.n g.n (fun i => G (gO g.n (ent g) i)) = matP false false g.n g.n (gU g.n (ent g)) := matP_congr fun i j hi hj => hG i j hi hj
      rw [eU] at own
      refine SDraw.mkX (by kernel_rfl) ?_
      repeat refine SOp.mk _ _ (And.intro rfl rfl) rfl ?_
      refine SOp.mk _ _ (SLendR.plc rfl r1 <| SCall.pure own (And.intro rfl rfl)) rfl ?_
      repeat refine SOp.mk _ _ (And.intro rfl rfl) rfl ?_
      refine SFin.mk (by kernel_rfl) ?_
      refine SZ.mk (g.n : Int) rfl ?_
      refine SLoop.mkT Nat (fun i => match i with
          | 0 => ([(2, .bptr 5 0), (5, .bptr 0 0), (7, .bptr 6 0), (9, .bptr 7 0), (91, .p (.int .i64 g.n)), (92, .p (.int .i64 0))],
            gwB g.n G (gO g.n (ent g)) (gtk g.n (ent g) g.n) (ggr g.n (ent g) g.n) ++ ([Blk.box 33 zpartA, Blk.box 31 (bxQ (ggr g.n (ent g) 0)), Blk.box 33 [.vec (.t 3) 1 0 g.n, .p (.raw (.slice none 0 0)), .p (matP false false g.n g.n (gU g.n (ent g))), .p (.bool false), .p (.sl false 1 []), .p (.sl false 1 [])], Blk.pool 31 3 (plr 0 g.n (gL g.n (ent g)))] : List Blk))
          | i + 1 => ([(2, .bptr 5 0), (5, .bptr 0 0), (7, .bptr 6 0), (9, .bptr 7 0), (91, .p (.int .i64 g.n)), (92, .p (.int .i64 ((i + 1 : Nat) : Int)))],
            gwB g.n G (gO g.n (ent g)) (gtk g.n (ent g) g.n) (ggr g.n (ent g) g.n) ++ ([Blk.box 33 zpartA, Blk.box 31 (bxQ (ggr g.n (ent g) 0)), Blk.box 33 [.vec (.t 3) 1 0 g.n, .vec (.t 9) 1 0 (i + 1), .p (matP false false g.n g.n (gU g.n (ent g))), .p (.bool false), .p (.sl false 1 []), .p (.sl false 1 [])], Blk.pool 31 3 (plr (i + 1) g.n (gL g.n (ent g))), Blk.rows 24 (plc 8 g.n (i + 1) id)] : List Blk)))
        (fun i => i ≤ g.n) (fun i => g.n - i) 0 [0, 1, 2, 3, 4, 5, 6, 7, 8] _ _ (.pool 31 3 (.done _ _)) (Nat.zero_le _) ⟨rfl, by simp, rfl, rfl, rfl, ⟨rfl, rfl, rfl, rfl, rfl, rfl, trivial⟩, ⟨rfl, congrArg _ (plc_ren 2 rfl (by decide)), rfl, rfl, rfl, rfl, rfl, rfl, rfl, rows_in fun q hq => by simpa [plenAt] using r1 q hq, trivial⟩⟩ ?_
      intro i hi
      match i, hi with
      | 0, hi =>
        refine SCmp.yes (decide_eq_true (by omega)) ?_
        refine SZ.mk (g.n : Int) rfl ?_
        refine SZ.mk (g.n : Int) rfl ?_
        refine SLt.mk (by simp) ?_
        refine SMake.rat g.n rfl (by omega) ?_
        refine SZ.mk (g.n : Int) rfl ?_
        refine SLoop.mk Nat (fun j => ([(2, .bptr 5 0), (5, .bptr 0 0), (7, .bptr 6 0), (9, .bptr 7 0), (10, .p (.int .i64 0)), (11, .vec 9 3 0 g.n), (91, .p (.int .i64 g.n)), (92, .p (.int .i64 0)), (102, .p (.int .i64 g.n)), (103, .p (.int .i64 (j : Nat)))],
            gwB g.n G (gO g.n (ent g)) (gtk g.n (ent g) g.n) (ggr g.n (ent g) g.n) ++ ([Blk.box 33 zpartA, Blk.box 31 (bxQ (ggr g.n (ent g) 0)), Blk.box 33 [.vec (.t 3) 1 0 g.n, .p (.raw (.slice none 0 0)), .p (matP false false g.n g.n (gU g.n (ent g))), .p (.bool false), .p (.sl false 1 []), .p (.sl false 1 [])], Blk.pool 31 3 (plr 0 g.n (gL g.n (ent g))),Blk.vec 31 3 (fl g.n fun k => if k < j then ratP (gL g.n (ent g) (0) k) else rat0)] : List Blk)))
          (fun j => j ≤ g.n) (fun j => g.n - j) 0 [0, 1, 2, 3, 4, 5, 6, 7, 8, 9] (Nat.zero_le _) ⟨rfl, by simp, rfl, rfl, rfl, ⟨rfl, rfl, rfl, rfl, rfl, rfl, rfl, rfl, rfl, rfl, trivial⟩, ⟨rfl, congrArg _ (plc_ren 2 rfl (by decide)), rfl, rfl, rfl, rfl, rfl, rfl, rfl,congrArg _ ((fl_congr fun k hk => if_neg (by omega)).trans (replicate_fl g.n rat0).symm), rows_in fun q hq => by simpa [plenAt] using r1 q hq, trivial⟩⟩ ?_
        intro j hj
        have hj : j ≤ g.n := hj
        by_cases hjn : j < g.n
        · refine SCmp.yes (decide_eq_true (by omega)) ?_
          have low := glower_ok g.n (ent g) (fl g.n fun i => ratsM true (lst g.n (G (gO g.n (ent g) i)))) (ggr g.n (ent g) g.n) (0) j (by omega) hjn (zL (0) j (by omega)) (by omega)
          refine SLendR.plc rfl r1 ?_
          refine SView.all (by simp) ?_
          refine SCall.pure (low) ?_
          refine SPos.mk j rfl hjn ?_
          refine SLt.mk (by simp; omega) <| SEs.mk _ (row_step hjn) ?_
          refine SWrap.i64z ((j + 1 : Nat) : Int) (by omega) (by omega) ?_
          exact ⟨j + 1, [0, 1, 2, 3, 4, 5, 6, 7, 8, 9], hjn, by show g.n - (j + 1) < g.n - j; omega, ⟨rfl, by simp, rfl, rfl, rfl, ⟨rfl, rfl, rfl, rfl, rfl, rfl, rfl, rfl, rfl, rfl, trivial⟩, ⟨rfl, congrArg _ (plc_ren 2 rfl (by decide)), rfl, rfl, rfl, rfl, rfl, rfl, rfl,rfl, rows_in fun q hq => by simpa [plenAt] using r1 q hq, trivial⟩⟩⟩
        · refine SCmp.no (decide_eq_false (by omega)) ?_
          obtain rfl : j = g.n := by omega
          refine SRoom.mk (by simp) (by simp) ?_
          refine SWrap.i64z ((0 + 1 : Nat) : Int) (by omega) (by omega) ?_
          exact ⟨1, [0, 1, 2, 3, 4, 5, 6, 7, 10008, 11], n1, by show g.n - 1 < g.n - 0; omega, ⟨rfl, by simp, rfl, rfl, rfl, ⟨rfl, rfl, rfl, rfl, rfl, rfl, trivial⟩, ⟨rfl, congrArg _ (plc_ren 2 rfl (by decide)), rfl, rfl, rfl, rfl, rfl, rfl, ⟨_, _, _, _, rfl, rfl, congrArg _ (plr_snoc.trans (congrArg (fun r => plr 0 g.n (gL g.n (ent g)) ++ [some r]) row_full))⟩, congrArg _ (plc_absorb (p' := 8) (q := 9) (c := g.n) (k := 0) rfl (by decide) (by simp [plenAt])), rows_in fun q hq => by simpa [plenAt] using r1 q hq, rows_in fun q hq => by simpa [plenAt] using hq, trivial⟩⟩⟩
      | i + 1, hi =>
        have hi : i + 1 ≤ g.n := hi
        by_cases hin : i + 1 < g.n
        · refine SCmp.yes (decide_eq_true (by omega)) ?_
          refine SZ.mk (g.n : Int) rfl ?_
          refine SZ.mk (g.n : Int) rfl ?_
          refine SLt.mk (by simp) ?_
          refine SMake.rat g.n rfl (by omega) ?_
          refine SZ.mk (g.n : Int) rfl ?_
          refine SLoop.mk Nat (fun j => ([(2, .bptr 5 0), (5, .bptr 0 0), (7, .bptr 6 0), (9, .bptr 7 0), (10, .p (.int .i64 ((i + 1 : Nat) : Int))), (11, .vec 10 3 0 g.n), (91, .p (.int .i64 g.n)), (92, .p (.int .i64 ((i + 1 : Nat) : Int))), (102, .p (.int .i64 g.n)), (103, .p (.int .i64 (j : Nat)))],
              gwB g.n G (gO g.n (ent g)) (gtk g.n (ent g) g.n) (ggr g.n (ent g) g.n) ++ ([Blk.box 33 zpartA, Blk.box 31 (bxQ (ggr g.n (ent g) 0)), Blk.box 33 [.vec (.t 3) 1 0 g.n, .vec (.t 9) 1 0 (i + 1), .p (matP false false g.n g.n (gU g.n (ent g))), .p (.bool false), .p (.sl false 1 []), .p (.sl false 1 [])], Blk.pool 31 3 (plr (i + 1) g.n (gL g.n (ent g))), Blk.rows 24 (plc 8 g.n (i + 1) id),Blk.vec 31 3 (fl g.n fun k => if k < j then ratP (gL g.n (ent g) (i + 1) k) else rat0)] : List Blk)))
            (fun j => j ≤ g.n) (fun j => g.n - j) 0 [0, 1, 2, 3, 4, 5, 6, 7, 8, 9, 10] (Nat.zero_le _) ⟨rfl, by simp, rfl, rfl, rfl, ⟨rfl, rfl, rfl, rfl, rfl, rfl, rfl, rfl, rfl, rfl, trivial⟩, ⟨rfl, congrArg _ (plc_ren 2 rfl (by decide)), rfl, rfl, rfl, rfl, rfl, rfl, rfl, congrArg _ (plc_ren 8 rfl (by decide)),congrArg _ ((fl_congr fun k hk => if_neg (by omega)).trans (replicate_fl g.n rat0).symm), rows_in fun q hq => by simpa [plenAt] using r1 q hq, rows_in fun q hq => by simpa [plenAt] using hq,trivial⟩⟩ ?_
          intro j hj
          have hj : j ≤ g.n := hj
          by_cases hjn : j < g.n
          · refine SCmp.yes (decide_eq_true (by omega)) ?_
            have low := glower_ok g.n (ent g) (fl g.n fun i => ratsM true (lst g.n (G (gO g.n (ent g) i)))) (ggr g.n (ent g) g.n) (i + 1) j (by omega) hjn (zL (i + 1) j (by omega)) (by omega)
            refine SLendR.plc rfl r1 ?_
            refine SView.all (by simp) ?_
            refine SCall.pure (low) ?_
            refine SPos.mk j rfl hjn ?_
            refine SLt.mk (by simp; omega) <| SEs.mk _ (row_step hjn) ?_
            refine SWrap.i64z ((j + 1 : Nat) : Int) (by omega) (by omega) ?_
            exact ⟨j + 1, [0, 1, 2, 3, 4, 5, 6, 7, 8, 9, 10], hjn, by show g.n - (j + 1) < g.n - j; omega, ⟨rfl, by simp, rfl, rfl, rfl, ⟨rfl, rfl, rfl, rfl, rfl, rfl, rfl, rfl, rfl, rfl, trivial⟩, ⟨rfl, congrArg _ (plc_ren 2 rfl (by decide)), rfl, rfl, rfl, rfl, rfl, rfl, rfl, congrArg _ (plc_ren 8 rfl (by decide)),rfl, rows_in fun q hq => by simpa [plenAt] using r1 q hq, rows_in fun q hq => by simpa [plenAt] using hq,trivial⟩⟩⟩
          · refine SCmp.no (decide_eq_false (by omega)) ?_
            obtain rfl : j = g.n := by omega
            refine SEqN.mk (by simp) ?_
            refine SRoom.mk (by simp; omega) (by simp; omega) ?_
            refine SAs.mk _ rfl ?_
            refine SZN.mk (i + 1 + 1) (by simp) ?_
            refine SWrap.i64z ((i + 1 + 1 : Nat) : Int) (by omega) (by omega) ?_
            exact ⟨i + 1 + 1, [0, 1, 2, 3, 4, 5, 6, 7, 11008, 12], hin, by show g.n - (i + 1 + 1) < g.n - (i + 1); omega, ⟨rfl, by simp, rfl, rfl, rfl, ⟨rfl, rfl, rfl, rfl, rfl, rfl, trivial⟩, ⟨rfl, congrArg _ (plc_ren 2 rfl (by decide)), rfl, rfl, rfl, rfl, rfl, rfl, ⟨_, _, _, _, rfl, rfl, congrArg _ (plr_snoc.trans (congrArg (fun r => plr (i + 1) g.n (gL g.n (ent g)) ++ [some r]) row_full))⟩, congrArg _ (plc_absorb (p' := 8) (q := 10) (c := g.n) (k := i + 1) rfl (by decide) (by simp [plenAt])), rows_in fun q hq => by simpa [plenAt] using r1 q hq, rows_in fun q hq => by simpa [plenAt] using hq, trivial⟩⟩⟩
        · refine SCmp.no (decide_eq_false (by omega)) ?_
          have hn : i + 1 = g.n := by omega
          have z0 : ggr g.n (ent g) 0 ≠ 0 := fun e => by have := ggr_pos n1 (hp 0 n1); rw [e] at this; exact absurd this (by decide)
          have gq := quo_ok (ggr g.n (ent g) g.n) (ggr g.n (ent g) 0) z0 (ggr_bz hB h1 g.n (Nat.le_refl _)).sz (ggr_bz hB h1 0 (Nat.zero_le _)).sz (by omega)
          refine SDraw.mkX (by kernel_rfl) ?_
          repeat refine SOp.mk _ _ (And.intro rfl rfl) rfl ?_
          refine SOp.mk _ _ (SCall.pureT (gq) (fun _ => rfl) (And.intro rfl rfl)) rfl ?_
          repeat refine SOp.mk _ _ (And.intro rfl rfl) rfl ?_
          refine SFin.mk (by kernel_rfl) ?_
          have eL : matP false false g.n g.n (gL g.n (ent g)) = matP false false (i + 1) g.n (gL g.n (ent g)) := by rw [hn]
          refine SRet.pure (.tup rfl fun a c d e1 e2 => ?_)
          match a, e1, e2 with
          | 0, e1, e2 =>
            cases e1; cases e2
            refine .aggp (ps := partC g.n (ent g)) (fun d hd => by simp only [partC, List.mem_cons, List.not_mem_nil, or_false] at hd; rcases hd with rfl | rfl | rfl | rfl | rfl | rfl <;> rfl) rfl fun a c d e1 e2 => ?_
            match a, e1, e2 with
            | 0, e1, e2 => cases e1; cases e2; exact .frz (h := .t 3) rfl (by simp) (by simp) pers_perm (by rw [List.drop_zero]; exact List.take_of_length_le (by simp))
            | 1, e1, e2 => cases e1; cases e2; rw [eL]; exact frzM (h := 9) (p := 8) rfl rfl fun q hq => hq
            | 2, e1, e2 => cases e1; cases e2; exact .p _ pers_matP
            | 3, e1, e2 => cases e1; cases e2; exact .p _ (.bool _)
            | 4, e1, e2 => cases e1; cases e2; exact .p _ (.sl _ _ (pers_limbs _))
            | 5, e1, e2 => cases e1; cases e2; exact .p _ (.sl _ _ (pers_limbs _))
          | 1, e1, e2 => cases e1; cases e2; exact .p _ (.int _ _)
end Go.Proofs.YtjfcphohgicolaaGreat

namespace Go.Proofs.YtjfcphohgicolaaGreat
open Go
set_option linter.unusedVariables false
set_option linter.unusedSimpArgs false
set_option maxRecDepth 10000
theorem gpiv_cases (n : Nat) (A : Nat → Nat → Rat) : (∀ t, t < n → gpiv n A t ≠ 0) ∨ ∃ K, K < n ∧ (∀ t, t < K → gpiv n A t ≠ 0) ∧ gpiv n A K = 0 := by
  have key : ∀ m, m ≤ n → (∀ t, t < m → gpiv n A t ≠ 0) ∨ ∃ K, K < m ∧ (∀ t, t < K → gpiv n A t ≠ 0) ∧ gpiv n A K = 0 := by
    intro m
    induction m with
    | zero => exact fun _ => .inl fun t h => absurd h (Nat.not_lt_zero _)
    | succ m ih =>
      intro hm
      rcases ih (by omega) with h | ⟨K, h1, h2, h3⟩
      · by_cases e : gpiv n A m = 0
        · exact .inr ⟨m, Nat.lt_succ_self _, h, e⟩
        · refine .inl fun t ht => ?_
          by_cases et : t = m
          · rw [et]; exact e
          · exact h t (by omega)
      · exact .inr ⟨K, by omega, h2, h3⟩
  exact key n (Nat.le_refl _)
/-- Digits of all that is left, of a Gen of the statements. -/
theorem gkB_wf {g : GV} (h : Wf g 5 13) (h5 : g.n ≤ 5) : GkB g.n (ent g) 42100 := fun k hk i j hi hj =>
  (GkB.of (b := 163) h.n1 (fun i j hi hj => h.bEnt hi hj) k hk i j hi hj).mono (Nat.le_trans (bb_mono (show g.n - 1 ≤ 4 by omega)) (by decide +kernel))
/-- The statements' matrices. -/
theorem gmake_ok (m : Bool) (n : Int) (ns : List Int) (like : Bool) (hn : I64 n) (hns : I64s ns) :
    ∃ g, CallP Tryz.prog 10 [.int .i64 n, .sl m 1 (intsP ns), .bool like, .int .i64 5] (.p (genP noF g)) [] ∧ Wf g 5 13 ∧ g.n ≤ 5 ∧ (g.k = 5 ∨ g.k = 7) := by
  have hm := lmake13_ok m n 5 ns like hn hns (by omega) (by omega)
  have hN := gmN_ok n 5 (by omega)
  refine ⟨_, hm, ?_, by rw [g13_n]; show gmN n 5 ≤ 5; omega, ?_⟩
  · cases like with
    | true =>
      obtain ⟨r1, r2, r0⟩ := gmR_ok (k := 7) n
      exact wf_g13 (wf_mkG (by decide) (by decide) hN.1 (by omega) r1 r2 r0) (.inr rfl)
    | false =>
      obtain ⟨r1, r2, r0⟩ := gmR_ok (k := 5) n
      exact wf_g13 (wf_mkG (by decide) (by decide) hN.1 (by omega) r1 r2 r0) (.inl rfl)
  · rw [g13_k]
    cases like with
    | true => exact .inr rfl
    | false => exact .inl rfl
def gk13 : GV := ⟨5, 1, 0, fun _ => ((2 : Int) : Rat), fun _ => ((1 : Int) : Rat), fun _ => 0, fun _ => 0⟩
theorem wf_gk13 : Wf gk13 5 13 where
  k1 := by decide
  k7 := by decide
  n1 := by decide
  n6 := by decide
  r2 := by decide
  r1 := fun h => by rcases h with h | h <;> cases h
  r0 := fun _ => rfl
  bA := fun i _ => int_bz (by decide) (by decide)
  bB := fun i _ => (int_bz (k := 5) (by decide) (by decide)).mono (by decide)
  bG := fun i _ => bz_zero.mono (by decide)
  bH := fun i _ => bz_zero.mono (by decide)
  ne := fun i j _ _ => by show ((2 : Int) : Rat) ≠ ((1 : Int) : Rat); decide
  bc := by decide
  c4 := by decide
/-- One row, of one number, made anew. -/
theorem kall1_ok (A : Nat → Nat → Rat) {a : Nat} (hA : Bz (A 0 0) a) (ha : a + a ≤ 1048576) : CallP Tryz.prog 37 [matP false false 1 1 A, .sl true 1 [ratsM true (lst 1 fun _ => A 0 0)]] (.p (.bool true)) [] := by
  have h := rall_ok false false true true 1 1 A (a := a) (fun i k hi hk => by
    obtain rfl : i = 0 := by omega
    obtain rfl : k = 0 := by omega
    exact hA) ha (by decide) (by decide)
  exact h
theorem known13_ok : CallP Tryz.prog 9 [] (.p (.bool true)) [] := by
  have hf := kfactor_ok m15 gk13 wf_gk13 (.inl rfl) (gkB_wf wf_gk13 (by decide)) (by decide) (by decide) (fun t ht => by
    obtain rfl : t = 0 := by have : t < 1 := ht; omega
    decide +kernel)
  have e1 : gU 1 (ent gk13) 0 0 = ((1 : Int) : Rat) := by decide +kernel
  have e2 : gro 1 (ent gk13) = ((1 : Int) : Rat) := by decide +kernel
  have a1 := kall1_ok (gU 1 (ent gk13)) (a := 5) (by rw [e1]; exact int_bz (by decide) (by decide)) (by decide)
  rw [e1] at a1
  have b1 : Bz (gro 1 (ent gk13)) 5 := by rw [e2]; exact int_bz (by decide) (by decide)
  have b2 : Bz ((1 : Int) : Rat) 5 := int_bz (by decide) (by decide)
  have s1 := rsame_ok (gro 1 (ent gk13)) ((1 : Int) : Rat) b1 b2 (by decide)
  rw [decide_eq_true e2] at s1
  refine callG_of_vc (wr := wr0) Γok mixed Tryz.func9 (by kernel_rfl) rfl (by kernel_rfl) (le_of_ble rfl) (by simp) ?_
  refine SCall.pure (rint_ok 2 (by decide)) ?_
  refine SCall.pure (rint_ok 1 (by decide)) ?_
  refine SView.all rfl <| SView.all rfl <| SCall.pureT (pvs := [.agg [.int .i64 5, .int .i64 1, .int .i64 0, ratsM true (lst 1 gk13.A), ratsM true (lst 1 gk13.B), znil, znil]]) (CallG.weak1 hf (.gen rfl rfl rfl (.refl _) (.refl _) (.nil _ _) (.nil _ _))) (fun _ => rfl) ?_
  refine SDraw.mkX (by kernel_rfl) ?_
  repeat refine SOp.mk _ _ (And.intro rfl rfl) rfl ?_
  refine SOp.mk _ _ (SCmp.yes rfl (And.intro rfl rfl)) rfl ?_
  repeat refine SOp.mk _ _ (And.intro rfl rfl) rfl ?_
  refine SOp.mk _ _ (SZ.mk 1 rfl (And.intro rfl rfl)) rfl ?_
  refine SOp.mk _ _ (SCmp.yes rfl (And.intro rfl rfl)) rfl ?_
  repeat refine SOp.mk _ _ (And.intro rfl rfl) rfl ?_
  refine SOp.mk _ _ (SCall.pure (rint_ok 1 (by decide)) (And.intro rfl rfl)) rfl ?_
  repeat refine SOp.mk _ _ (And.intro rfl rfl) rfl ?_
  refine SOp.mk _ _ (SLendR.mk [ratsM true (lst 1 fun _ => ((1 : Int) : Rat))] rfl rfl (fun i c p e1 e2 => by match i, e1, e2 with | 0, e1, e2 => cases e1; cases e2; exact .vec (es := rats (lst 1 fun _ => ((1 : Int) : Rat))) rfl (by decide)) <| SCall.pure a1 (And.intro rfl rfl)) rfl ?_
  repeat refine SOp.mk _ _ (And.intro rfl rfl) rfl ?_
  refine SOp.mk _ _ (SCall.pure (rint_ok 1 (by decide)) (And.intro rfl rfl)) rfl ?_
  refine SOp.mk _ _ (SCall.pure (s1) (And.intro rfl rfl)) rfl ?_
  repeat refine SOp.mk _ _ (And.intro rfl rfl) rfl ?_
  refine SFin.mk (by kernel_rfl) ?_
  exact SRet.pure (.p _ (.bool _))
end Go.Proofs.YtjfcphohgicolaaGreat

namespace Go.Proofs.YtjfcphohgicolaaGreat
open Go
set_option linter.unusedVariables false
set_option linter.unusedSimpArgs false
set_option maxRecDepth 10000
theorem rdet_ok (m m' : Bool) (n : Nat) (A : Nat → Nat → Rat) {R : Nat → Nat} (hRB : RB R n n A) (hn : n ≤ 900) :
    CallP Tryz.prog 18 [matP m m' n n A] (.p (ratP (elim n A n).det)) [] := by
  refine callG_of_vc (wr := wr0) Γok mixed Tryz.func18 (by kernel_rfl) rfl (by kernel_rfl) (le_of_ble rfl) (by simp) ?_
  refine SZ.mk (n : Int) (by simp) ?_
  refine SCall.pureT (rtriangle_ok m m' n n A hRB (Nat.le_refl n) (by omega)) (fun _ => rfl) ?_
  exact SRet.pure (.p _ (pers_rat _ _ _))
end Go.Proofs.YtjfcphohgicolaaGreat

namespace Go.Proofs.YtjfcphohgicolaaGreat
open Go
set_option linter.unusedVariables false
set_option linter.unusedSimpArgs false
set_option maxRecDepth 10000
theorem rexpand5_ok (m : Nat → Bool) (g : GV) {b c : Nat} (h : Wf g b c) : CallP Tryz.prog 16 [genP m g] (.p (matP false false g.n g.n (ent g))) [] := by
  have h8 := h.n6
  refine callG_of_vc (wr := wr0) Γok mixed Tryz.func16 (by kernel_rfl) rfl (by kernel_rfl) (le_of_ble rfl) (by simp) ?_
  refine SLoop.mkT Nat (fun i => ([(1, .bptr 0 0), (3, .vec 1 1 0 i), (4, .p (.int .i64 i))], [.box 26 (genA m g), .rows 24 (plc 2 g.n i id), .pool 31 3 (plr i g.n (ent g))]))
    (fun i => i ≤ g.n) (fun i => g.n - i) 0 [0, 1, 2] _ _ (.rows 3 24 rfl (.pool 31 3 (.done _ _))) (Nat.zero_le _) ⟨rfl, by simp, rfl, rfl, rfl, ⟨rfl, rfl, rfl, trivial⟩, ⟨rfl, rfl, rfl, rows_in fun i hi => absurd hi (Nat.not_lt_zero _), trivial⟩⟩ ?_
  intro i hi
  have hi : i ≤ g.n := hi
  by_cases hin : i < g.n
  · refine SCmp.yes (decide_eq_true (by omega)) ?_
    refine SLoop.mkT Nat (fun j => ([(1, .bptr 0 0), (3, .vec 1 1 0 i), (4, .p (.int .i64 i)), (5, .vec 3 3 0 j), (6, .p (.int .i64 j))], [.box 26 (genA m g), .rows 24 (plc 2 g.n i id), .pool 31 3 (plr i g.n (ent g)), .vec 31 3 (rats (lst j (ent g i)))]))
      (fun j => j ≤ g.n) (fun j => g.n - j) 0 [0, 1, 2, 3] _ _ (.step 5 31 3 rfl (.done _ _)) (Nat.zero_le _) ⟨rfl, by simp, rfl, rfl, rfl, ⟨rfl, rfl, rfl, rfl, rfl, trivial⟩, ⟨rfl, congrArg _ (plc_ren 2 rfl (by decide)), rfl, rfl, rows_in fun i hi => by simpa [plenAt] using hi, trivial⟩⟩ ?_
    intro j hj
    have hj : j ≤ g.n := hj
    by_cases hjn : j < g.n
    · refine SCmp.yes (decide_eq_true (by omega)) ?_
      refine SCall.pure (rentry5_ok m g h i j hin hjn) ?_
      refine SEqN.mk (by simp [lst]) <| SView.all rfl <| SRoom.mk (by simp [lst]; omega) (by simp [lst]; omega) <| SEs.mk (rats (lst (j + 1) (ent g i))) (app_lst _ _ _ (rfl)) <| SZN.mk (j + 1) (by simp [lst]) ?_
      refine SWrap.i64z ((j + 1 : Nat) : Int) (by omega) (by omega) ?_
      exact ⟨j + 1, [0, 1, 2, 5], hjn, by show g.n - (j + 1) < g.n - j; omega, ⟨rfl, by simp, rfl, rfl, rfl, ⟨rfl, rfl, rfl, rfl, rfl, trivial⟩, ⟨rfl, congrArg _ (plc_ren 2 rfl (by decide)), rfl, rfl, rows_in fun i hi => by simpa [plenAt] using hi, trivial⟩⟩⟩
    · refine SCmp.no (decide_eq_false (by omega)) ?_
      obtain rfl : j = g.n := by omega
      refine SEqN.mk (by simp) ?_
      refine SRoom.mk (by simp; omega) (by simp; omega) ?_
      refine SAs.mk _ rfl ?_
      refine SZN.mk (i + 1) (by simp) ?_
      refine SWrap.i64z ((i + 1 : Nat) : Int) (by omega) (by omega) ?_
      exact ⟨i + 1, [0, 5, 4002], hin, by show g.n - (i + 1) < g.n - i; omega, ⟨rfl, by simp, rfl, rfl, rfl, ⟨rfl, rfl, rfl, trivial⟩, ⟨rfl, congrArg _ (plc_absorb rfl (by decide) (by simp [plenAt])), ⟨_, _, _, _, rfl, rfl, congrArg _ plr_snoc⟩, rows_in fun i hi => by simpa [plenAt] using hi, trivial⟩⟩⟩
  · refine SCmp.no (decide_eq_false (by omega)) ?_
    obtain rfl : i = g.n := by omega
    exact SRet.pure (frzM (H := [_, _, _]) (h := 1) (p := 2) rfl rfl fun i hi => hi)
end Go.Proofs.YtjfcphohgicolaaGreat

namespace Go.Proofs.YtjfcphohgicolaaGreat
open Go
set_option linter.unusedVariables false
set_option linter.unusedSimpArgs false
set_option maxRecDepth 10000
theorem rb163k {g : GV} (h : Wf g 5 13) (h5 : g.n ≤ 5) : RB (bb 163) g.n g.n (ent g) :=
  RB.std (fun i k hi hk => h.bEnt hi hk) (Nat.le_refl _) (Nat.le_trans (dR_mono h5) (by decide +kernel))
abbrev partA (n : Nat) (A : Nat → Nat → Rat) : List AV := [.p (.sl false 1 (permP n (gO n A))), .p (matP false false n n (gL n A)), .p (matP false false n n (gU n A)), .p (.bool (decide ((gro n A).num < 0))), .p (natP (gro n A).num.natAbs), .p (natP (gro n A).den)]
end Go.Proofs.YtjfcphohgicolaaGreat

namespace Go.Proofs.YtjfcphohgicolaaGreat
open Go
set_option linter.unusedVariables false
set_option linter.unusedSimpArgs false
set_option maxRecDepth 10000
abbrev boolsP (n : Nat) (f : Nat → Bool) : List PV := fl n fun i => .bool (f i)
theorem bools0 {n : Nat} : List.replicate n (PV.bool false) = boolsP n fun _ => false := replicate_fl n _
theorem bools_set {n k : Nat} {f : Nat → Bool} : (boolsP n f).set (k + 0) (.bool true) = boolsP n (upd f k true) := by
  rw [fl_set, Nat.add_zero]; exact fl_congr fun j _ => by unfold upd; split <;> rfl
theorem kcmp_le0 {p q : Rat} (h : p ≤ q) : decide (cmpQ p q > 0) = false := decide_eq_false (mt cmpQ_pos.1 (by grind))
theorem kcmp_ge0 {p q : Rat} (h : q ≤ p) : decide (cmpQ p q < 0) = false := decide_eq_false (mt cmpQ_neg.1 (by grind))
set_option maxHeartbeats 1000000 in
theorem gkoParts_ok (m : Bool) (n : Int) (ns : List Int) (like : Bool) (hn : I64 n) (hns : I64s ns) : CallP Tryz.prog 4 [.int .i64 n, .sl m 1 (intsP ns), .bool like] (.p (.bool true)) [] := by
  obtain ⟨g, hm, H, h5, hk⟩ := gmake_ok m n ns like hn hns
  have n1 := H.n1
  have hB := gkB_wf H h5
  have hex := rexpand5_ok noF g H
  have hd := rdet_ok false false g.n (ent g) (rb163k H h5) (by omega)
  have hno := rnought_ok (elim g.n (ent g) g.n).det
  have one_eq : ((1 : Int) : Rat) = 1 := rfl
  have r1 := rint_ok 1 (by decide)
  rw [one_eq] at r1
  rcases gpiv_cases g.n (ent g) with hp | ⟨K, hK, hp, hz⟩
  · have f1 := kfactor_ok noF g H hk hB (by decide) (by decide) hp
    rw [decide_eq_false (gk_reg hp)] at hno
    obtain ⟨o1, o2, _⟩ := gk_perm (n := g.n) (A := ent g) g.n (Nat.le_refl _)
    have o1 : ∀ i, i < g.n → gO g.n (ent g) i < g.n := o1
    have o2 : ∀ i j, i < g.n → j < g.n → gO g.n (ent g) i = gO g.n (ent g) j → i = j := o2
    have zL : ∀ i j, i < g.n → j < g.n → Bz (gL g.n (ent g) i j) 84200 := fun i j hi _ => gM_bz hB (by decide) g.n (Nat.le_refl _) i j hi
    have zU : ∀ i j, i < g.n → j < g.n → Bz (gU g.n (ent g) i j) 42100 := hB g.n (Nat.le_refl _)
    have zg : Bz (gro g.n (ent g)) 84200 := ((ggr_bz hB (by decide) g.n (Nat.le_refl _)).div (ggr_bz hB (by decide) 0 (Nat.zero_le _))).mono (by decide)
    have hg1 : 1 ≤ gro g.n (ent g) := gdiv_ge (ggr_mono' (Nat.zero_le _)) (ggr_pos n1 (hp 0 n1))
    have s0 := rsame_ok 0 0 (bz_zero.mono (show 1 ≤ 1 by decide)) (bz_zero.mono (show 1 ≤ 1 by decide)) (by decide)
    rw [decide_eq_true rfl] at s0
    have hmul := rmul7_ok false false false false g.n (gL g.n (ent g)) (gU g.n (ent g)) zL zU (by omega) (by omega)
    rw [matP_congr (B := fun i j => ent g (gO g.n (ent g) i) j) fun i j hi hj => g_mul hi] at hmul
    refine callG_of_vc (wr := wr0) Γok mixed Tryz.func4 (by kernel_rfl) rfl (by kernel_rfl) (le_of_ble rfl) (by simp) ?_
    refine SCall.pure (known13_ok) ?_
    refine SCmp.no (rfl) ?_
    refine SCall.pure (hm) ?_
    refine SCall.pure (hex) ?_
    refine SCall.pureT (f1) (fun _ => rfl) ?_
    refine SCmp.no (neF rfl) ?_
    refine SDraw.mk (by kernel_rfl) ?_
    repeat refine SOp.mk _ _ (And.intro rfl rfl) rfl ?_
    refine SOp.mk _ _ (SCall.pure (hd) (And.intro rfl rfl)) rfl ?_
    refine SOp.mk _ _ (SCall.pure (hno) (And.intro rfl rfl)) rfl ?_
    repeat refine SOp.mk _ _ (And.intro rfl rfl) rfl ?_
    refine SOp.mk _ _ (SZ.mk (g.n : Int) (by simp) (And.intro rfl rfl)) rfl ?_
    repeat refine SOp.mk _ _ (And.intro rfl rfl) rfl ?_
    refine SOp.mk _ _ (SCmp.no (neF rfl) (And.intro rfl rfl)) rfl ?_
    repeat refine SOp.mk _ _ (And.intro rfl rfl) rfl ?_
    refine SOp.mk _ _ (SZ.mk (g.n : Int) (by simp) (And.intro rfl rfl)) rfl ?_
    repeat refine SOp.mk _ _ (And.intro rfl rfl) rfl ?_
    refine SOp.mk _ _ (SCmp.no (neF rfl) (And.intro rfl rfl)) rfl ?_
    repeat refine SOp.mk _ _ (And.intro rfl rfl) rfl ?_
    refine SOp.mk _ _ (SZ.mk (g.n : Int) (by simp) (And.intro rfl rfl)) rfl ?_
    repeat refine SOp.mk _ _ (And.intro rfl rfl) rfl ?_
    refine SOp.mk _ _ (SCmp.no (neF rfl) (And.intro rfl rfl)) rfl ?_
    repeat refine SOp.mk _ _ (And.intro rfl rfl) rfl ?_
    refine SOp.mk _ _ (SCall.pure (r1) (And.intro rfl rfl)) rfl ?_
    refine SOp.mk _ _ (SCall.pure (rcmpq_ok _ _ zg bz_one (by decide)) (And.intro rfl rfl)) rfl ?_
    refine SOp.mk _ _ (SCmp.no (kcmp_ge0 hg1) (And.intro rfl rfl)) rfl ?_
    repeat refine SOp.mk _ _ (And.intro rfl rfl) rfl ?_
    refine SZ.mk (g.n : Int) rfl ?_
    refine SLt.mk (by simp) ?_
    refine SMake.mk g.n rfl (by show g.n * 1 ≤ _; omega) (by omega) ?_
    refine SLoop.mk (Nat × (Nat → Bool)) (fun (i, f) => ([(7, .bptr 0 0), (8, .p (matP false false g.n g.n (ent g))), (9, .bptr 1 0), (11, .vec 2 1 0 g.n), (12, .p (.int .i64 (i : Nat)))], [.box 26 (genA noF g), .box 33 (partA g.n (ent g)), .vec 4 1 (boolsP g.n f)]))
      (fun (i, f) => i ≤ g.n ∧ ∀ r, r < g.n → f r = true → ∃ t, t < i ∧ gO g.n (ent g) t = r) (fun x => g.n - x.1) (0, fun _ => false) [0, 1, 2] ⟨Nat.zero_le _, fun r _ h => by cases h⟩ ⟨rfl, by simp, rfl, rfl, rfl, ⟨rfl, rfl, rfl, rfl, rfl, trivial⟩, ⟨rfl, rfl, congrArg _ bools0.symm, trivial⟩⟩ ?_
    intro ⟨i, f⟩ ⟨hi, hf⟩
    by_cases hin : i < g.n
    · refine SCmp.yes (decide_eq_true (by omega)) ?_
      have ho := o1 i hin
      have hfi : f (gO g.n (ent g) i) = false := by
        cases e : f (gO g.n (ent g) i) with
        | false => rfl
        | true =>
          obtain ⟨t, ht, e2⟩ := hf _ ho e
          have := o2 t i (by omega) hin e2; omega
      refine SIdx.perm i rfl hin ?_
      refine SDraw.mk (by kernel_rfl) ?_
      repeat refine SOp.mk _ _ (And.intro rfl rfl) rfl ?_
      refine SOp.mk _ _ (SIdx.mf i rfl hin (And.intro rfl rfl)) rfl ?_
      repeat refine SOp.mk _ _ (And.intro rfl rfl) rfl ?_
      refine SOp.mk _ _ (SZ.mk (g.n : Int) (by simp [lst]) (And.intro rfl rfl)) rfl ?_
      repeat refine SOp.mk _ _ (And.intro rfl rfl) rfl ?_
      refine SOp.mk _ _ (SCmp.no (neF rfl) (And.intro rfl rfl)) rfl ?_
      repeat refine SOp.mk _ _ (And.intro rfl rfl) rfl ?_
      refine SOp.mk _ _ (SIdx.mf i rfl hin (And.intro rfl rfl)) rfl ?_
      repeat refine SOp.mk _ _ (And.intro rfl rfl) rfl ?_
      refine SOp.mk _ _ (SZ.mk (g.n : Int) (by simp [lst]) (And.intro rfl rfl)) rfl ?_
      repeat refine SOp.mk _ _ (And.intro rfl rfl) rfl ?_
      refine SOp.mk _ _ (SCmp.no (neF rfl) (And.intro rfl rfl)) rfl ?_
      repeat refine SOp.mk _ _ (And.intro rfl rfl) rfl ?_
      refine SOp.mk _ _ (SCmp.no (decide_eq_false (by omega)) (And.intro rfl rfl)) rfl ?_
      repeat refine SOp.mk _ _ (And.intro rfl rfl) rfl ?_
      refine SOp.mk _ _ (SCmp.no (decide_eq_false (by omega)) (And.intro rfl rfl)) rfl ?_
      repeat refine SOp.mk _ _ (And.intro rfl rfl) rfl ?_
      refine SOp.mk _ _ (SPos.mk (gO g.n (ent g) i) rfl ho (And.intro rfl rfl)) rfl ?_
      refine SOp.mk _ _ (SIdx.mk (gO g.n (ent g) i) (.bool false) rfl (by rw [fl_get ho, hfi]) (And.intro rfl rfl)) rfl ?_
      repeat refine SOp.mk _ _ (And.intro rfl rfl) rfl ?_
      refine SCond.mk (fun h => by cases h) (fun _ => ?_)
      refine SPos.mk (gO g.n (ent g) i) rfl ho ?_
      refine SLt.mk (by simp; exact ho) <| SEs.mk _ bools_set ?_
      refine SLoop.mk Nat (fun j => ([(7, .bptr 0 0), (8, .p (matP false false g.n g.n (ent g))), (9, .bptr 1 0), (11, .vec 2 1 0 g.n), (12, .p (.int .i64 (i : Nat))), (14, .p (.int .i64 (j : Nat)))], [.box 26 (genA noF g), .box 33 (partA g.n (ent g)), .vec 4 1 (boolsP g.n (upd f (gO g.n (ent g) i) true))]))
        (fun j => j ≤ g.n) (fun j => g.n - j) 0 [0, 1, 2] (Nat.zero_le _) ⟨rfl, by simp, rfl, rfl, rfl, ⟨rfl, rfl, rfl, rfl, rfl, rfl, trivial⟩, ⟨rfl, rfl, rfl, trivial⟩⟩ ?_
      intro j hj
      have hj : j ≤ g.n := hj
      by_cases hjn : j < g.n
      · refine SCmp.yes (decide_eq_true (by omega)) ?_
        have zl := zL i j hin hjn
        by_cases hji : j < i
        · refine SDraw.mk (by kernel_rfl) ?_
          repeat refine SOp.mk _ _ (And.intro rfl rfl) rfl ?_
          refine SOp.mk _ _ (SIdx.mf i rfl hin (And.intro rfl rfl)) rfl ?_
          repeat refine SOp.mk _ _ (And.intro rfl rfl) rfl ?_
          refine SOp.mk _ _ (SIdx.rf j rfl hjn (And.intro rfl rfl)) rfl ?_
          repeat refine SOp.mk _ _ (And.intro rfl rfl) rfl ?_
          refine SOp.mk _ _ (SCall.pure (rabs_ok _ zl (by decide)) (And.intro rfl rfl)) rfl ?_
          refine SOp.mk _ _ (SCall.pure (r1) (And.intro rfl rfl)) rfl ?_
          refine SOp.mk _ _ (SCall.pure (rcmpq_ok _ _ zl.abs bz_one (by decide)) (And.intro rfl rfl)) rfl ?_
          refine SOp.mk _ _ (SCmp.no (kcmp_le0 (gL_le hp hin)) (And.intro rfl rfl)) rfl ?_
          repeat refine SOp.mk _ _ (And.intro rfl rfl) rfl ?_
          refine SOp.mk _ _ (SCmp.yes (decide_eq_true (by omega)) (And.intro rfl rfl)) rfl ?_
          repeat refine SOp.mk _ _ (And.intro rfl rfl) rfl ?_
          refine SOp.mk _ _ (SIdx.mf i rfl hin (And.intro rfl rfl)) rfl ?_
          repeat refine SOp.mk _ _ (And.intro rfl rfl) rfl ?_
          refine SOp.mk _ _ (SIdx.rv j 0 rfl hjn (gU_low hp hin hji) (And.intro rfl rfl)) rfl ?_
          repeat refine SOp.mk _ _ (And.intro rfl rfl) rfl ?_
          refine SOp.mk _ _ (SCall.pure (rzero_ok) (And.intro rfl rfl)) rfl ?_
          refine SOp.mk _ _ (SCall.pure (s0) (And.intro rfl rfl)) rfl ?_
          refine SOp.mk _ _ (SCmp.no rfl (And.intro rfl rfl)) rfl ?_
          repeat refine SOp.mk _ _ (And.intro rfl rfl) rfl ?_
          refine SWrap.i64z ((j + 1 : Nat) : Int) (by omega) (by omega) ?_
          exact ⟨j + 1, [0, 1, 2], hjn, by show g.n - (j + 1) < g.n - j; omega, ⟨rfl, by simp, rfl, rfl, rfl, ⟨rfl, rfl, rfl, rfl, rfl, rfl, trivial⟩, ⟨rfl, rfl, rfl, trivial⟩⟩⟩
        · refine SDraw.mk (by kernel_rfl) ?_
          repeat refine SOp.mk _ _ (And.intro rfl rfl) rfl ?_
          refine SOp.mk _ _ (SIdx.mf i rfl hin (And.intro rfl rfl)) rfl ?_
          repeat refine SOp.mk _ _ (And.intro rfl rfl) rfl ?_
          refine SOp.mk _ _ (SIdx.rf j rfl hjn (And.intro rfl rfl)) rfl ?_
          repeat refine SOp.mk _ _ (And.intro rfl rfl) rfl ?_
          refine SOp.mk _ _ (SCall.pure (rabs_ok _ zl (by decide)) (And.intro rfl rfl)) rfl ?_
          refine SOp.mk _ _ (SCall.pure (r1) (And.intro rfl rfl)) rfl ?_
          refine SOp.mk _ _ (SCall.pure (rcmpq_ok _ _ zl.abs bz_one (by decide)) (And.intro rfl rfl)) rfl ?_
          refine SOp.mk _ _ (SCmp.no (kcmp_le0 (gL_le hp hin)) (And.intro rfl rfl)) rfl ?_
          repeat refine SOp.mk _ _ (And.intro rfl rfl) rfl ?_
          refine SOp.mk _ _ (SCmp.no (decide_eq_false (by omega)) (And.intro rfl rfl)) rfl ?_
          repeat refine SOp.mk _ _ (And.intro rfl rfl) rfl ?_
          refine SWrap.i64z ((j + 1 : Nat) : Int) (by omega) (by omega) ?_
          exact ⟨j + 1, [0, 1, 2], hjn, by show g.n - (j + 1) < g.n - j; omega, ⟨rfl, by simp, rfl, rfl, rfl, ⟨rfl, rfl, rfl, rfl, rfl, rfl, trivial⟩, ⟨rfl, rfl, rfl, trivial⟩⟩⟩
      · refine SCmp.no (decide_eq_false (by omega)) ?_
        refine SWrap.i64z ((i + 1 : Nat) : Int) (by omega) (by omega) ?_
        exact ⟨(i + 1, upd f (gO g.n (ent g) i) true), [0, 1, 2], ⟨hin, fun r hr h => by
          by_cases e : r = gO g.n (ent g) i
          · exact ⟨i, by omega, e.symm⟩
          · rw [upd_other _ _ e] at h
            obtain ⟨t, ht, e2⟩ := hf r hr h
            exact ⟨t, by omega, e2⟩⟩, by show g.n - (i + 1) < g.n - i; omega, ⟨rfl, by simp, rfl, rfl, rfl, ⟨rfl, rfl, rfl, rfl, rfl, trivial⟩, ⟨rfl, rfl, rfl, trivial⟩⟩⟩
    · refine SCmp.no (decide_eq_false (by omega)) ?_
      refine SCall.pure (hmul) ?_
      refine SLoop.mk Nat (fun i => ([(7, .bptr 0 0), (8, .p (matP false false g.n g.n (ent g))), (9, .bptr 1 0), (15, .p (matP false false g.n g.n fun i j => ent g (gO g.n (ent g) i) j)), (16, .p (.int .i64 (i : Nat)))], [.box 26 (genA noF g), .box 33 (partA g.n (ent g))]))
        (fun i => i ≤ g.n) (fun i => g.n - i) 0 [0, 1] (Nat.zero_le _) ⟨rfl, by simp, rfl, rfl, rfl, ⟨rfl, rfl, rfl, rfl, rfl, trivial⟩, ⟨rfl, rfl, trivial⟩⟩ ?_
      intro q hq
      have hq : q ≤ g.n := hq
      by_cases hqn : q < g.n
      · refine SCmp.yes (decide_eq_true (by omega)) ?_
        have hrow := rrows_ok false false (lst g.n (ent g (gO g.n (ent g) q))) (lst g.n (ent g (gO g.n (ent g) q))) (Bl.lst fun c hc => hB 0 (Nat.zero_le _) _ c (o1 q hqn) hc) (Bl.lst fun c hc => hB 0 (Nat.zero_le _) _ c (o1 q hqn) hc) (by decide) (by rw [lst_length]; omega)
        rw [decide_eq_true rfl] at hrow
        refine SDraw.mk (by kernel_rfl) ?_
        repeat refine SOp.mk _ _ (And.intro rfl rfl) rfl ?_
        refine SOp.mk _ _ (SIdx.mf q rfl hqn (And.intro rfl rfl)) rfl ?_
        repeat refine SOp.mk _ _ (And.intro rfl rfl) rfl ?_
        refine SOp.mk _ _ (SIdx.perm q rfl hqn (And.intro rfl rfl)) rfl ?_
        repeat refine SOp.mk _ _ (And.intro rfl rfl) rfl ?_
        refine SOp.mk _ _ (SIdx.mf (gO g.n (ent g) q) rfl (o1 q hqn) (And.intro rfl rfl)) rfl ?_
        repeat refine SOp.mk _ _ (And.intro rfl rfl) rfl ?_
        refine SOp.mk _ _ (SCall.pure (hrow) (And.intro rfl rfl)) rfl ?_
        refine SOp.mk _ _ (SCmp.no rfl (And.intro rfl rfl)) rfl ?_
        refine SWrap.i64z ((q + 1 : Nat) : Int) (by omega) (by omega) ?_
        exact ⟨q + 1, [0, 1], hqn, by show g.n - (q + 1) < g.n - q; omega, ⟨rfl, by simp, rfl, rfl, rfl, ⟨rfl, rfl, rfl, rfl, rfl, trivial⟩, ⟨rfl, rfl, trivial⟩⟩⟩
      · refine SCmp.no (decide_eq_false (by omega)) ?_
        exact SRet.pure (.tf _)
  · have f1 := kfactorZ_ok noF g H hk hB (by decide) (by decide) hK hp hz
    rw [decide_eq_true (gk_sing hK hp hz)] at hno
    refine callG_of_vc (wr := wr0) Γok mixed Tryz.func4 (by kernel_rfl) rfl (by kernel_rfl) (le_of_ble rfl) (by simp) ?_
    refine SCall.pure (known13_ok) ?_
    refine SCmp.no (rfl) ?_
    refine SCall.pure (hm) ?_
    refine SCall.pure (hex) ?_
    refine SCall.pureT (f1) (fun _ => rfl) ?_
    refine SCmp.yes (rfl) ?_
    refine SCmp.yes (rfl) ?_
    refine SCall.pure (hd) ?_
    refine SCall.pure (hno) ?_
    refine SCond.mk (fun _ => ?_) (fun h => by cases h)
    refine SZ.mk 0 rfl ?_
    refine SCmp.yes (rfl) ?_
    exact SRet.pure (.tf _)
end Go.Proofs.YtjfcphohgicolaaGreat

namespace Go.Proofs.YtjfcphohgicolaaGreat
open Go Go.ChangeShapes Go.WideShapes Go.ChangeAt Go.RowKit Go.WideElems
set_option linter.unusedVariables false
set_option linter.unusedSimpArgs false
theorem Tryz.own : ownKnob Tryz.prog.godebug = none := by kernel_rfl
theorem Tryz.laidOut : laidOutB Tryz.prog = true := by kernel_rfl
theorem Tryz.cells3 : Tryz.prog.cellsOf 3 = 1 := by kernel_rfl
abbrev oldF (W : World) : Nat → Prop := fun b => b < W.heap.size
theorem law_call {P : Program} {f : FuncId} {pvs : List PV} (hc : CallP P f pvs (.p (.bool true)) []) {W : World} {vs : List Value} (hl : vs.length = pvs.length) (hv : ∀ (i : Nat) p v, pvs[i]? = some p → vs[i]? = some v → PR W (FBof noBor (oldF W)) p v) :
    Calls P f vs.toArray W fun e W' => e = .returned (.bool true) ∧ Below W.heap.size W W' := by
  refine (hc.run W (oldF W) noBor (fun _ => (none, 0)) vs ⟨by simp [hl], fun i a v e1 e2 => ?_, fun h => by rw [look_nil]; trivial, fun b h => h, fun b h => h.elim, fun h b hl => ?_, fun h h' b hl => ?_, fun a ha k hk => ?_, fun h k hk => ?_⟩).mono ?_
  · rw [List.getElem?_map] at e1
    cases hp : pvs[i]? with
    | none => rw [hp] at e1; cases e1
    | some p => rw [hp] at e1; cases e1; exact .p (hv i p v hp e2)
  · rw [look_nil] at hl; exact hl.elim
  · rw [look_nil] at hl; exact hl.elim
  · obtain ⟨p, _, rfl⟩ := List.mem_map.1 ha; simp only [AV.men] at hk
  · rw [look_nil] at hk; exact hk.elim
  · intro e W' ⟨v, F', β', he, hr⟩
    subst he
    refine ⟨?_, hr.os, hr.tape, hr.output, hr.size, fun b hb => hr.same b hb fun h hl => ?_⟩
    · have := hr.rel
      cases this with | p h => cases h; rfl
    · rw [look_nil] at hl; exact hl.elim
section
variable {H : Type} {enc : TypeId × Value → H} {P : Program} {W : World} {base : Nat} {sp : Nat → Bool} {held : Bool}
theorem openInt {t : TypeId} {r : Go.Reach} {b0 : Nat} {v : Value} {d : DataW H} {ps : List MemPlace} (ht : P.underlying t = some (.int .i64)) (hval : Value.okWide P W r b0 t v) (hd : DataW.Trod enc P W base sp held t v d ps) :
    ∃ n, v = .int .i64 n ∧ I64 n := by
  obtain ⟨n, h1, h2, h3, h4⟩ := open_int ht hval hd
  refine ⟨n, h1, ?_⟩
  simp [Lit.wf, IntKind.min, IntKind.max, IntKind.signed, IntKind.bits] at h4
  exact ⟨by omega, by omega⟩
theorem openInts {t e : TypeId} {r : Go.Reach} {b0 : Nat} {v : Value} {d : DataW H} {ps : List MemPlace} (ht : P.underlying t = some (.slice e)) (he : P.underlying e = some (.int .i64)) (hc : P.cellsOf e = 1) (hval : Value.okWide P W r b0 t v)
    (hd : DataW.Trod enc P W base sp held t v d ps) (hlt : ∀ x ∈ ps, x.block < W.heap.size) : ∃ zs : List Int, I64s zs ∧ PR W (FBof noBor (oldF W)) (.sl false 1 (intsP zs)) v := by
  obtain ⟨a0, len, cap, rfl⟩ := okWide_slice ht hval
  obtain ⟨fuel, hf⟩ := hd
  rcases open_ints ht he hc hf with ⟨hcs, hx⟩ | ⟨a, len', cap', zs, hcs, _, hl, hm, hz, hx, hcell, hwz⟩
  · simp [Value.cells] at hcs
    obtain ⟨rfl, rfl, rfl⟩ := hcs
    exact ⟨[], fun i => by simp [I64], .nil _ _ _⟩
  · simp [Value.cells] at hcs
    obtain ⟨rfl, rfl, rfl⟩ := hcs
    simp only [Prod.mk.injEq] at hx
    obtain ⟨_, rfl⟩ := hx
    have hlen : len ≤ zs.length := by rw [hz]; split <;> omega
    have hspot : a.spot = none := by
      simp only [Value.okWide, ht, Cell.okWide] at hval
      simp [Cell.ok, World.has] at hval
      first | exact hval.1.2.1 | exact hval.2.1 | (have := hval; simp_all)
    obtain ⟨b, off, spot⟩ := a
    simp only at hspot
    subst hspot
    refine ⟨zs.take len, fun i => ?_, ?_⟩
    · by_cases hi : i < (zs.take len).length
      · have hm : (zs.take len).getD i 0 ∈ zs := by
          have : (zs.take len).getD i 0 = (zs.take len)[i] := by simp only [List.getD, List.getElem?_eq_getElem hi, Option.getD_some]
          rw [this]
          exact List.mem_of_mem_take (List.getElem_mem hi)
        have h4 := hwz _ hm
        generalize (zs.take len).getD i 0 = q at h4 ⊢
        simp [Lit.wf, IntKind.min, IntKind.max, IntKind.signed, IntKind.bits] at h4
        exact ⟨by omega, by omega⟩
      · rw [getD_ge _ 0 (by omega)]; simp [I64]
    · have hll : (intsP (zs.take len)).length = len := by simp; omega
      have h := PR.sl (w := W) (FB := FBof noBor (oldF W)) false 1 (intsP (zs.take len)) b off cap (fun i _ => .int .i64 (zs.getD i 0)) (by rw [hll]; exact hl) (fun hne => ?_) (fun e he => ?_) (fun e he c hc => ?_) (fun i e j c e1 e2 => ?_) (fun i e j c e1 e2 => ?_)
      · rw [hll] at h; exact h
      · have hpos : 0 < zs.length := by
          rcases Nat.eq_zero_or_pos zs.length with h0 | h0
          · exact (hne (by rw [List.length_eq_zero_iff.1 h0]; simp)).elim
          · exact h0
        exact hlt (.cell b off) (MemPlace.mem_row.2 ⟨0, hpos, by simp⟩)
      · obtain ⟨z, _, rfl⟩ := List.mem_map.1 he; rfl
      · obtain ⟨z, _, rfl⟩ := List.mem_map.1 he
        have hc : c ∈ [PV.int .i64 z] := hc
        simp at hc; subst hc; rfl
      all_goals
        have hi : i < len := by have := (List.getElem?_eq_some_iff.1 e1).1; rwa [hll] at this
        have he : e = .int .i64 (zs.getD i 0) := by
          rw [List.getElem?_map, List.getElem?_take_of_lt hi, List.getElem?_eq_getElem (show i < zs.length by omega)] at e1
          simp at e1
          simp [List.getD, show i < zs.length by omega, ← e1]
        subst he
        have hj : j = 0 := by
          have := (List.getElem?_eq_some_iff.1 e2).1
          simpa [PV.cells] using this
        subst hj
        first
          | (have := hcell i (by omega)
             rw [show off + i * 1 + 0 = off + i by omega]
             rwa [Addr.add_lit] at this)
          | (have hcv : c = .int .i64 (zs.getD i 0) := by simpa [PV.cells] using e2.symm
             subst hcv
             exact .int _ _)
end
end Go.Proofs.YtjfcphohgicolaaGreat

