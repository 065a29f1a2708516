/- Matrices made triangles: what the document's rounds come to, told by functions. -/
import Derived.Test.YtkaooejeljdbnaaVw3
namespace Go.Proofs.Ytkaooejeljdbnaa

/-- The first place from p on, among so many, with no nought in column j. -/
def pvG (A : Nat → Nat → Rat) (j : Nat) : Nat → Nat → Nat
  | 0, p => p
  | d + 1, p => if A p j = 0 then pvG A j d (p + 1) else p
def pv (A : Nat → Nat → Rat) (j n r : Nat) : Nat := pvG A j (n - r) r
theorem pvG_eq {A : Nat → Nat → Rat} {j : Nat} : ∀ (d r p : Nat), r ≤ p → p ≤ r + d → (∀ i, r ≤ i → i < p → A i j = 0) → (p = r + d ∨ A p j ≠ 0) → pvG A j d r = p := by
  intro d
  induction d with
  | zero => intro r p h1 h2 _ _; simp only [pvG]; omega
  | succ d ih =>
    intro r p h1 h2 h3 h4
    simp only [pvG]
    by_cases e : r = p
    · subst e
      rcases h4 with h4 | h4
      · omega
      · rw [if_neg h4]
    · rw [if_pos (h3 r (Nat.le_refl _) (by omega))]
      exact ih (r + 1) p (by omega) (by omega) (fun i hi => h3 i (by omega)) (h4.imp (fun h => by omega) id)
theorem pv_eq {A : Nat → Nat → Rat} {j n r p : Nat} (h1 : r ≤ p) (h2 : p ≤ n) (h3 : ∀ i, r ≤ i → i < p → A i j = 0) (h4 : p = n ∨ A p j ≠ 0) : pv A j n r = p :=
  pvG_eq _ _ _ h1 (by omega) h3 (h4.imp (fun h => by omega) id)
theorem pvG_spec {A : Nat → Nat → Rat} {j : Nat} : ∀ (d r : Nat), r ≤ pvG A j d r ∧ pvG A j d r ≤ r + d ∧ (∀ i, r ≤ i → i < pvG A j d r → A i j = 0) ∧ (pvG A j d r = r + d ∨ A (pvG A j d r) j ≠ 0) := by
  intro d
  induction d with
  | zero => intro r; simp only [pvG]; exact ⟨Nat.le_refl _, Nat.le_refl _, fun i h1 h2 => by omega, .inl rfl⟩
  | succ d ih =>
    intro r
    simp only [pvG]
    by_cases e : A r j = 0
    · rw [if_pos e]
      obtain ⟨h1, h2, h3, h4⟩ := ih (r + 1)
      refine ⟨by omega, by omega, fun i hi hi2 => ?_, h4.imp (fun h => by omega) id⟩
      by_cases ei : i = r
      · subst ei; exact e
      · exact h3 i (by omega) hi2
    · rw [if_neg e]; exact ⟨Nat.le_refl _, by omega, fun i h1 h2 => by omega, .inr e⟩
theorem pv_spec {A : Nat → Nat → Rat} {j n r : Nat} (h : r ≤ n) : r ≤ pv A j n r ∧ pv A j n r ≤ n ∧ (∀ i, r ≤ i → i < pv A j n r → A i j = 0) ∧ (pv A j n r = n ∨ A (pv A j n r) j ≠ 0) := by
  obtain ⟨h1, h2, h3, h4⟩ := pvG_spec (A := A) (j := j) (n - r) r
  have e : r + (n - r) = n := by omega
  rw [e] at h2 h4
  exact ⟨h1, h2, h3, h4⟩

def swpM (A : Nat → Nat → Rat) (p r : Nat) : Nat → Nat → Rat := fun i => A (if i = p then r else if i = r then p else i)
/-- Column j is cleared below row r. -/
def redM (B : Nat → Nat → Rat) (r j : Nat) : Nat → Nat → Rat := fun i k => if r < i ∧ j ≤ k then B i k - B i j / B r j * B r k else B i k
structure ElS where
  A : Nat → Nat → Rat
  det : Rat
  r : Nat
/-- The round of column j. -/
def elS (n j : Nat) (s : ElS) : ElS :=
  if n ≤ pv s.A j n s.r then ⟨s.A, 0, s.r⟩ else
    ⟨redM (swpM s.A (pv s.A j n s.r) s.r) s.r j, (if pv s.A j n s.r = s.r then s.det else -s.det) * swpM s.A (pv s.A j n s.r) s.r s.r j, s.r + 1⟩
def elim (n : Nat) (A : Nat → Nat → Rat) (j : Nat) : ElS := iter (elS n) j ⟨A, 1, 0⟩
theorem elim_succ {n : Nat} {A : Nat → Nat → Rat} {j : Nat} : elim n A (j + 1) = elS n j (elim n A j) := rfl
theorem elim_r_le {n : Nat} {A : Nat → Nat → Rat} : ∀ j, (elim n A j).r ≤ j := by
  intro j
  induction j with
  | zero => exact Nat.le_refl _
  | succ j ih =>
    rw [elim_succ]; unfold elS
    split
    · show (elim n A j).r ≤ j + 1; omega
    · show (elim n A j).r + 1 ≤ j + 1; omega
theorem elim_r_n {n : Nat} {A : Nat → Nat → Rat} : ∀ j, (elim n A j).r ≤ n := by
  intro j
  induction j with
  | zero => exact Nat.zero_le _
  | succ j ih =>
    rw [elim_succ]; unfold elS
    split
    · exact ih
    · rename_i h
      have := (pv_spec (A := (elim n A j).A) (j := j) ih).1
      show (elim n A j).r + 1 ≤ n; omega

/-- How many digits there may be in a row that was turned so often; in the determinant. -/
def bb (b : Nat) : Nat → Nat
  | 0 => b
  | k + 1 => 4 * bb b k + 1
/-- The same, where the first round is known to be a mild one. -/
def b1 (b c : Nat) : Nat → Nat
  | 0 => b
  | k + 1 => bb c k
def dR (R : Nat → Nat) : Nat → Nat
  | 0 => 1
  | k + 1 => dR R k + R k
theorem Rmono {R : Nat → Nat} (h : ∀ k, R k ≤ R (k + 1)) {i j : Nat} (hij : i ≤ j) : R i ≤ R j := by
  induction j with
  | zero => rw [Nat.le_zero.1 hij]; exact Nat.le_refl _
  | succ j ih =>
    by_cases e : i = j + 1
    · rw [e]; exact Nat.le_refl _
    · exact Nat.le_trans (ih (by omega)) (h j)
theorem dR_mono {R : Nat → Nat} {i j : Nat} (h : i ≤ j) : dR R i ≤ dR R j := Rmono (fun k => Nat.le_add_right _ _) h
theorem dR_pos {R : Nat → Nat} {k : Nat} : 1 ≤ dR R k := dR_mono (R := R) (Nat.zero_le k)
theorem dR_lt {R : Nat → Nat} {k n : Nat} (h : k < n) : R k + 1 ≤ dR R n := by
  have h1 := dR_mono (R := R) (show k + 1 ≤ n from h)
  have h2 := dR_pos (R := R) (k := k)
  simp only [dR] at h1; omega

/-- The rows' digits. -/
def RowB (R : Nat → Nat) (n w : Nat) (A : Nat → Nat → Rat) (r : Nat) : Prop := ∀ i k, i < n → k < w → Bz (A i k) (R (min i r))
theorem RowB.swp {R : Nat → Nat} {n w : Nat} {A : Nat → Nat → Rat} {r p : Nat} (h : RowB R n w A r) (hp : r ≤ p) (hpn : p < n) : RowB R n w (swpM A p r) r := by
  intro i k hi hk
  unfold swpM
  by_cases e1 : i = p
  · rw [if_pos e1]
    have := h r k (by omega) hk
    rw [Nat.min_self] at this
    rw [Nat.min_eq_right (by omega)]; exact this
  · rw [if_neg e1]
    by_cases e2 : i = r
    · rw [if_pos e2]
      have := h p k hpn hk
      rw [Nat.min_eq_right hp] at this
      rw [e2, Nat.min_self]; exact this
    · rw [if_neg e2]; exact h i k hi hk
theorem RowB.quo {R : Nat → Nat} {n w : Nat} {B : Nat → Nat → Rat} {r : Nat} (h : RowB R n w B r) {i j : Nat} (hi : i < n) (hr : r < i) (hj : j < w) : Bz (B i j / B r j) (R r + R r) := by
  have h1 := h i j hi hj
  have h2 := h r j (by omega) hj
  rw [Nat.min_eq_right (by omega)] at h1
  rw [Nat.min_self] at h2
  exact h1.div h2
theorem RowB.red {R : Nat → Nat} {n w : Nat} {B : Nat → Nat → Rat} {r j : Nat} (hR : 4 * R r + 1 ≤ R (r + 1)) (hm : ∀ k, R k ≤ R (k + 1)) (h : RowB R n w B r) (hj : j < w) : RowB R n w (redM B r j) (r + 1) := by
  intro i k hi hk
  unfold redM
  by_cases c : r < i ∧ j ≤ k
  · rw [if_pos c]
    have h1 := h i k hi hk
    have h2 := h r k (by omega) hk
    have h3 := h.quo hi c.1 hj
    rw [Nat.min_eq_right (by omega)] at h1
    rw [Nat.min_self] at h2
    rw [Nat.min_eq_right (by omega)]
    exact (h1.sub (h3.mul h2)).mono (by omega)
  · rw [if_neg c]
    exact (h i k hi hk).mono (Rmono hm (by omega))
theorem swpM_self {A : Nat → Nat → Rat} {r : Nat} : swpM A r r = A := by
  funext i
  unfold swpM
  by_cases e : i = r
  · rw [if_pos e, e]
  · rw [if_neg e, if_neg e]
theorem swpM_r {A : Nat → Nat → Rat} {p r : Nat} : swpM A p r r = A p := by
  unfold swpM
  by_cases e : r = p
  · rw [if_pos e, e]
  · rw [if_neg e, if_pos rfl]
theorem redM_le {B : Nat → Nat → Rat} {r j i k : Nat} (h : i ≤ r ∨ k < j) : redM B r j i k = B i k := if_neg (by omega)
theorem redM_zero {B : Nat → Nat → Rat} {r j i k : Nat} (h : B i j = 0) : redM B r j i k = B i k := by
  unfold redM
  split
  · rw [h]; grind
  · rfl
theorem redM_gt {B : Nat → Nat → Rat} {r j i k : Nat} (h1 : r < i) (h2 : j ≤ k) : redM B r j i k = B i k - B i j / B r j * B r k := if_pos ⟨h1, h2⟩
/-- What is known of the digits, all the way down. -/
structure RB (R : Nat → Nat) (n w : Nat) (A : Nat → Nat → Rat) : Prop where
  row : ∀ j, j ≤ n → RowB R n w (elim n A j).A (elim n A j).r
  mono : ∀ k, R k ≤ R (k + 1)
  lim : ∀ k, k + 1 < n → 4 * R k + 1 ≤ 1048576
  dlim : dR R n ≤ 1048576
theorem RB.det {R : Nat → Nat} {n w : Nat} {A : Nat → Nat → Rat} (h : RB R n w A) (hw : n ≤ w) : ∀ j, j ≤ n → Bz (elim n A j).det (dR R (elim n A j).r) := by
  intro j
  induction j with
  | zero => exact fun _ => bz_one
  | succ j ih =>
    intro hj
    have h2 := ih (by omega)
    have h1 := h.row j (by omega)
    have hr := elim_r_n (n := n) (A := A) j
    rw [elim_succ]
    unfold elS
    split
    · exact bz_zero.mono dR_pos
    · rename_i hp
      obtain ⟨p1, p2, _, _⟩ := pv_spec (A := (elim n A j).A) (j := j) hr
      have h3 := h1.swp p1 (by omega)
      have h4 := h3 (elim n A j).r j (by omega) (by omega)
      rw [Nat.min_self] at h4
      have h5 : Bz (if pv (elim n A j).A j n (elim n A j).r = (elim n A j).r then (elim n A j).det else -(elim n A j).det) (dR R (elim n A j).r) := by
        split
        · exact h2
        · exact h2.neg
      exact (h5.mul h4).mono (by simp only [dR]; omega)
/-- From the round m on. -/
theorem elim_b {R : Nat → Nat} {n w : Nat} {A : Nat → Nat → Rat} (m : Nat) (hm : ∀ k, R k ≤ R (k + 1)) (h4 : ∀ k, m ≤ k → 4 * R k + 1 ≤ R (k + 1)) (hw : n ≤ w)
    (h0 : ∀ j, j ≤ m → j ≤ n → RowB R n w (elim n A j).A (elim n A j).r) (hrm : m ≤ n → (elim n A m).r = m) : ∀ j, j ≤ n → RowB R n w (elim n A j).A (elim n A j).r ∧ (m ≤ j → m ≤ (elim n A j).r) := by
  intro j
  induction j with
  | zero => intro hj; exact ⟨h0 0 (Nat.zero_le _) hj, fun e => by omega⟩
  | succ j ih =>
    intro hj
    by_cases hjm : j + 1 ≤ m
    · refine ⟨h0 _ hjm hj, fun e => ?_⟩
      have e : m = j + 1 := by omega
      rw [← e, hrm (by omega)]; exact Nat.le_refl _
    obtain ⟨h1, h2⟩ := ih (by omega)
    have h2 := h2 (by omega)
    have hr := elim_r_n (n := n) (A := A) j
    rw [elim_succ]
    unfold elS
    split
    · exact ⟨h1, fun _ => h2⟩
    · rename_i hp
      obtain ⟨p1, p2, _, _⟩ := pv_spec (A := (elim n A j).A) (j := j) hr
      have h3 := h1.swp p1 (by omega)
      exact ⟨h3.red (h4 _ h2) hm (by omega), fun _ => Nat.le_succ_of_le h2⟩
theorem bb_step {b : Nat} (k : Nat) : bb b k ≤ bb b (k + 1) := by simp only [bb]; omega
theorem RB.std {n w b : Nat} {A : Nat → Nat → Rat} (hA : ∀ i k, i < n → k < w → Bz (A i k) b) (hw : n ≤ w) (hb : dR (bb b) n ≤ 1048576) : RB (bb b) n w A where
  row := fun j hj => (elim_b 0 bb_step (fun k _ => Nat.le_refl _) hw (fun j h0 _ => by
    rw [Nat.le_zero.1 h0]
    intro i k hi hk; show Bz (A i k) (bb b (min i 0)); rw [Nat.min_zero]; exact hA i k hi hk) (fun _ => rfl) j hj).1
  mono := bb_step
  lim := fun k hk => by have := dR_lt (R := bb b) hk; simp only [bb] at this; omega
  dlim := hb
/-- Where the first place is no nought. -/
theorem RB.one {n w b c : Nat} {A : Nat → Nat → Rat} (hA : ∀ i k, i < n → k < w → Bz (A i k) b) (hw : n ≤ w) (hbc : b ≤ c) (hc : 4 * b + 1 ≤ 1048576) (hb : dR (b1 b c) n ≤ 1048576) (h00 : A 0 0 ≠ 0)
    (h1 : ∀ i k, 0 < i → i < n → k < w → Bz (A i k - A i 0 / A 0 0 * A 0 k) c) : RB (b1 b c) n w A where
  row := fun j hj => (elim_b 1 (fun k => by cases k with
      | zero => exact hbc
      | succ k => exact bb_step k) (fun k hk => by cases k with
      | zero => omega
      | succ k => exact Nat.le_refl _) hw (fun j hj1 hjn => by
    have h0 : RowB (b1 b c) n w A 0 := fun i k hi hk => by rw [Nat.min_zero]; exact hA i k hi hk
    by_cases e : j = 0
    · subst e; exact h0
    · obtain rfl : j = 1 := by omega
      have hpv : pv A 0 n 0 = 0 := pv_eq (Nat.le_refl _) (Nat.zero_le _) (fun i h1 h2 => absurd h2 (Nat.not_lt_zero _)) (.inr h00)
      show RowB (b1 b c) n w (elS n 0 ⟨A, 1, 0⟩).A (elS n 0 ⟨A, 1, 0⟩).r
      unfold elS
      dsimp only
      rw [hpv, if_neg (by omega), swpM_self]
      intro i k hi hk
      show Bz (redM A 0 0 i k) _
      by_cases hi0 : 0 < i
      · rw [redM_gt hi0 (Nat.zero_le _), Nat.min_eq_right hi0]; exact h1 i k hi0 hi hk
      · rw [redM_le (.inl (by omega)), Nat.min_eq_left (by show i ≤ 0 + 1; omega)]
        obtain rfl : i = 0 := by omega
        exact hA 0 k hi hk) (fun hn => by
      have hpv : pv A 0 n 0 = 0 := pv_eq (Nat.le_refl _) (Nat.zero_le _) (fun i h1 h2 => absurd h2 (Nat.not_lt_zero _)) (.inr h00)
      show (elS n 0 ⟨A, 1, 0⟩).r = 1
      unfold elS
      dsimp only
      rw [hpv, if_neg (by omega)]) j hj).1
  mono := fun k => by cases k with
      | zero => exact hbc
      | succ k => exact bb_step k
  lim := fun k hk => by
    cases k with
    | zero => exact hc
    | succ k => have := dR_lt (R := b1 b c) hk; simp only [b1, bb] at this ⊢; omega
  dlim := hb
end Go.Proofs.Ytkaooejeljdbnaa
