/- The document's weights and polynomials are the program's, plainly. -/
import Derived.Test.YtkaooejeljdbnaaMp1
import Derived.Test.YtkaooejeljdbnaaLo1
namespace Go.Proofs.Ytkaooejeljdbnaa
set_option linter.unusedVariables false

theorem pev_sm : ∀ (n : Nat) (c : Nat → Rat) (X : Rat), sm (n + 1) (fun k => X ^ k * c k) = pev n c X := by
  intro n
  induction n with
  | zero => intro c X; show (0 : Rat) + X ^ 0 * c 0 = c 0; rw [Rat.pow_zero]; grind
  | succ n ih =>
    intro c X
    rw [sm_first, pev, ← ih, ← sm_smul, Rat.pow_zero, Rat.one_mul]
    congr 1
    exact sm_congr fun k _ => by rw [Rat.pow_succ]; grind
theorem pw_eq (X : Rat) : ∀ j, pw X j = X ^ j
  | 0 => (Rat.pow_zero ..).symm
  | j + 1 => by rw [pw, pw_eq X j, Rat.pow_succ]; grind
theorem thr_det {n : Nat} {x : Nat → Rat} : (elim (n + 1) (fun i k => x i ^ k) (n + 1)).det ≠ 0 ↔ Inj x (n + 1) := by
  constructor
  · intro h i j hi hj e
    have h1 := slv_ok (A := fun i k => x i ^ k) (y := fun k => if k = i then 1 else 0) h i hi
    have h2 := slv_ok (A := fun i k => x i ^ k) (y := fun k => if k = i then 1 else 0) h j hj
    rw [e] at h1
    rw [h1, if_pos rfl] at h2
    by_cases e2 : j = i
    · exact e2.symm
    · rw [if_neg e2] at h2; exact absurd h2 (by decide)
  · intro h e
    obtain ⟨v, ⟨k, hk, hv⟩, hK⟩ := ker0 e
    have := thr_unique (n := n) (x := x) (f := fun _ => 0) (c := v) h fun l hl => by
      have := hK l (by omega); rw [pev_sm] at this; exact this
    have h2 := thr_unique (n := n) (x := x) (f := fun _ => 0) (c := fun _ => 0) h fun l hl => by
      rw [← pev_sm]; exact sm_zero fun k _ => Rat.mul_zero _
    exact hv (by rw [← this k (by omega), h2 k (by omega)])
theorem mom_ker {n : Nat} {x w : Nat → Rat} (h : Inj x (n + 1)) (hK : ∀ j, j < n + 1 → sm (n + 1) (fun i => x i ^ j * w i) = 0) : ∀ i, i < n + 1 → w i = 0 := by
  intro l hl
  -- every polynomial's values, weighed, come to nought
  have h2 : ∀ c : Nat → Rat, sm (n + 1) (fun i => w i * pev n c (x i)) = 0 := by
    intro c
    have : ∀ m, m ≤ n + 1 → sm (n + 1) (fun i => w i * sm m (fun k => x i ^ k * c k)) = 0 := by
      intro m
      induction m with
      | zero => intro _; exact sm_zero fun i _ => Rat.mul_zero _
      | succ m ih =>
        intro hm
        have e : (fun i => w i * sm (m + 1) (fun k => x i ^ k * c k)) = fun i => w i * sm m (fun k => x i ^ k * c k) + c m * (x i ^ m * w i) := by
          funext i; show w i * (sm m _ + x i ^ m * c m) = _; grind
        rw [e, sm_add, ih (by omega), sm_smul, hK m (by omega)]; grind
    rw [← this (n + 1) (Nat.le_refl _)]
    exact sm_congr fun i _ => by rw [pev_sm]
  have h3 := h2 (thrC x n fun i => if i = l then 1 else 0)
  rw [sm_congr (g := fun i => w i * (if i = l then 1 else 0)) fun i hi => by rw [thr_interp x _ h (by omega)], sm_one hl] at h3
  exact h3
theorem mom_det {n : Nat} {x : Nat → Rat} : (elim (n + 1) (fun i k => x k ^ i) (n + 1)).det ≠ 0 ↔ Inj x (n + 1) := by
  constructor
  · intro h i j hi hj e
    by_cases e2 : i = j
    · exact e2
    · have := ker1 (v := fun k => if k = i then 1 else if k = j then -1 else 0) h (fun q hq => by
        have e3 : (fun k => x k ^ q * (if k = i then (1 : Rat) else if k = j then -1 else 0)) = fun k => x k ^ q * (if k = i then 1 else 0) - x k ^ q * (if k = j then 1 else 0) := by
          funext k
          by_cases c : k = i
          · rw [if_pos c, if_pos c, if_neg (by omega)]; grind
          · rw [if_neg c, if_neg c]
            split <;> grind
        show sm (n + 1) (fun k => x k ^ q * (if k = i then (1 : Rat) else if k = j then -1 else 0)) = 0
        rw [e3, sm_sub, sm_one hi (fun k => x k ^ q), sm_one hj (fun k => x k ^ q), e]; grind) i hi
      rw [if_pos rfl] at this
      exact absurd this (by decide)
  · intro h e
    obtain ⟨v, ⟨k, hk, hv⟩, hK⟩ := ker0 e
    exact hv (mom_ker h hK k hk)
theorem thr_slv {n : Nat} {x f : Nat → Rat} (h : Inj x (n + 1)) :
    lst (n + 1) (bk (elim (n + 1) (augM (n + 1) (fun i k => x i ^ k) f) (n + 1)).A (n + 1) (n + 1)) = thrL (lst (n + 1) x) (lst (n + 1) f) :=
  (thrL_eq h fun l hl => by
    have := slv_ok (y := f) (thr_det.2 h) l (by omega)
    rw [pev_sm] at this; exact this).symm
theorem momL_lst {n : Nat} {x f : Nat → Rat} : momL (lst (n + 1) x) (lst (n + 1) f) = lst (n + 1) (momC (fun i => (lst (n + 1) x).getD i 0) n (fun i => (lst (n + 1) f).getD i 0)) := by
  rw [momL, lst_length]; rfl
theorem momL_spec {n s b : Nat} {x f : Nat → Rat} (h : Inj x (n + 1)) (hx : ∀ i, i < n + 1 → Bz (x i) s) (hf : ∀ i, i < n + 1 → Bz (f i) b) : ∃ w, momL (lst (n + 1) x) (lst (n + 1) f) = lst (n + 1) w ∧ (∀ j, j < n + 1 → sm (n + 1) (fun i => x i ^ j * w i) = f j) ∧ ∀ i, i < n + 1 → Bz (w i) (bs (4 * s + 4) b (n + n)) := by
  have ex : ∀ i, i < n + 1 → x i = (lst (n + 1) x).getD i 0 := fun i hi => (lst_getD hi).symm
  refine ⟨_, momL_lst, fun j hj => ?_, mom_bz (fun i hi => by rw [lst_getD hi]; exact hx i hi) (fun i hi => by rw [lst_getD hi]; exact hf i hi)⟩
  have := mom_ok (fun i => (lst (n + 1) f).getD i 0) (h.congr ex) (show j ≤ n by omega)
  rw [lst_getD hj] at this
  rw [← this]
  exact sm_congr fun i hi => by rw [pw_eq, lst_getD hi]; grind
theorem mom_slv {n s b : Nat} {x f : Nat → Rat} (h : Inj x (n + 1)) (hx : ∀ i, i < n + 1 → Bz (x i) s) (hf : ∀ i, i < n + 1 → Bz (f i) b) :
    lst (n + 1) (bk (elim (n + 1) (augM (n + 1) (fun i k => x k ^ i) f) (n + 1)).A (n + 1) (n + 1)) = momL (lst (n + 1) x) (lst (n + 1) f) := by
  obtain ⟨w, h1, h2, _⟩ := momL_spec h hx hf
  rw [h1]
  exact lst_congr fun i hi => slv_one (mom_det.2 h) (fun j hj => by rw [slv_ok (mom_det.2 h) j hj]; exact (h2 j hj).symm) i hi
theorem both {n : Nat} {x f b c w : Nat → Rat} (h : Inj x (n + 1)) (hc : ∀ l, l ≤ n → pev n c (x l) = f l) (hw : ∀ j, j < n + 1 → sm (n + 1) (fun i => x i ^ j * w i) = b j) :
    sm (n + 1) (fun i => w i * f i) = sm (n + 1) (fun i => b i * c i) := by
  have h1 : ∀ i, i < n + 1 → thrC x n f i = c i := fun i hi => thr_unique h hc i (by omega)
  have h2 : ∀ i, i < n + 1 → momC x n b i = w i := fun i hi => slv_one (A := fun i k => x k ^ i) (mom_det.2 h) (fun j hj => by
    rw [hw j hj, ← mom_ok b h (show j ≤ n by omega)]
    exact sm_congr fun i hi => by rw [pw_eq]; grind) i hi
  have := dual x n b f
  rw [sm_congr (g := fun i => b i * c i) fun i hi => by rw [h1 i hi], sm_congr (f := fun i => momC x n b i * f i) (g := fun i => w i * f i) fun i hi => by rw [h2 i hi]] at this
  exact this.symm
/-- What stands on the diagonal. -/
theorem slv_diag {n : Nat} {A : Nat → Nat → Rat} (h : (elim n A n).det ≠ 0) : ∀ i, i < n → (elim n A n).A i i ≠ 0 :=
  elim_diag n ((elim_det n (Nat.le_refl _)).1 h)
theorem thr_rb {n : Nat} {x f : Nat → Rat} (hn : n ≤ 5) (hx : ∀ i, i < n + 1 → Bz (x i) 6) (hf : ∀ i, i < n + 1 → Bz (f i) 5) :
    RB (b1 31 63) (n + 1) (n + 1 + 1) (augM (n + 1) (fun i k => x i ^ k) f) := by
  have hA : ∀ i k, i < n + 1 → k < n + 1 + 1 → Bz (augM (n + 1) (fun i k => x i ^ k) f i k) 31 := fun i k hi hk => by
    unfold augM
    split
    · exact (bz_pow (hx i hi) k).mono (by omega)
    · exact (hf i hi).mono (by omega)
  have one : ∀ i, augM (n + 1) (fun i k => x i ^ k) f i 0 = 1 := fun i => by unfold augM; rw [if_pos (by omega)]; exact Rat.pow_zero ..
  refine .one hA (by omega) (by decide) (by decide) ?_ (by rw [one]; decide) fun i k hi0 hi hk => ?_
  · have : ∀ n, n < 6 → dR (b1 31 63) (n + 1) ≤ 1048576 := by decide
    exact this n (by omega)
  · rw [one, one, show (1 : Rat) / 1 = 1 by grind, Rat.one_mul]
    exact (hA i k hi hk).sub (hA 0 k (by omega) hk)
theorem mom_rb {n : Nat} {x f : Nat → Rat} (hn : n ≤ 5) (hx : ∀ i, i < n + 1 → Bz (x i) 6) (hf : ∀ i, i < n + 1 → Bz (f i) 5) :
    RB (b1 31 63) (n + 1) (n + 1 + 1) (augM (n + 1) (fun i k => x k ^ i) f) := by
  have hA : ∀ i k, i < n + 1 → k < n + 1 + 1 → Bz (augM (n + 1) (fun i k => x k ^ i) f i k) 31 := fun i k hi hk => by
    unfold augM
    split
    · exact (bz_pow (hx k (by assumption)) i).mono (by omega)
    · exact (hf i hi).mono (by omega)
  have one : ∀ k, k < n + 1 → augM (n + 1) (fun i k => x k ^ i) f 0 k = 1 := fun k hk => by unfold augM; rw [if_pos hk]; exact Rat.pow_zero ..
  refine .one hA (by omega) (by decide) (by decide) ?_ (by rw [one 0 (by omega)]; decide) fun i k hi0 hi hk => ?_
  · have : ∀ n, n < 6 → dR (b1 31 63) (n + 1) ≤ 1048576 := by decide
    exact this n (by omega)
  · rw [one 0 (by omega), show augM (n + 1) (fun i k => x k ^ i) f i 0 / 1 = augM (n + 1) (fun i k => x k ^ i) f i 0 by grind]
    by_cases e : k < n + 1
    · rw [one k e, Rat.mul_one]
      exact (hA i k hi hk).sub (hA i 0 hi (by omega))
    · have y1 : Bz (augM (n + 1) (fun i k => x k ^ i) f i k) 5 := by unfold augM; rw [if_neg e]; exact hf i hi
      have y0 : Bz (augM (n + 1) (fun i k => x k ^ i) f 0 k) 5 := by unfold augM; rw [if_neg e]; exact hf 0 (by omega)
      exact (y1.sub ((hA i 0 hi (by omega)).mul y0)).mono (by omega)
theorem vdm_xs {n : Nat} (hn : n ≤ 5) : ∀ t, t < n + 1 → 2 * b1 31 63 (n + 1 - 1 - t) + t * (b1 31 63 (n + 1 - 1 - t) + 1) + xs (b1 31 63) (n + 1) t ≤ 1048576 := by
  have : ∀ n, n < 6 → ∀ t, t < n + 1 → 2 * b1 31 63 (n + 1 - 1 - t) + t * (b1 31 63 (n + 1 - 1 - t) + 1) + xs (b1 31 63) (n + 1) t ≤ 1048576 := by decide
  exact this n (by omega)
end Go.Proofs.Ytkaooejeljdbnaa
