/- What through and moments compute. Plain mathematics. -/
import Derived.Test.YtkaooejeljdbnaaPm1
namespace Go.Proofs.Ytkaooejeljdbnaa
set_option linter.unusedVariables false

theorem pr_first (y : Nat → Rat) (X : Rat) : ∀ k, pr y X (k + 1) = (X - y 0) * pr (fun l => y (l + 1)) X k := by
  intro k
  induction k with
  | zero => simp only [pr]; grind
  | succ k ih => rw [pr, ih, pr]; grind

section
variable (x f : Nat → Rat)
abbrev ddT (k : Nat) : Nat → Rat := iter (stepA x) k f
theorem ddT_succ {k i : Nat} (h : k < i) : ddT x f (k + 1) i = (ddT x f k i - ddT x f k (i - 1)) / (x i - x (i - (k + 1))) := if_pos h
theorem ddT_keep {k i : Nat} (h : i ≤ k) : ddT x f (k + 1) i = ddT x f k i := if_neg (by omega)
theorem ddT_diag : ∀ {k j : Nat}, j ≤ k → ddT x f k j = ddT x f j j := by
  intro k
  induction k with
  | zero => intro j h; rw [Nat.le_zero.1 h]
  | succ k ih =>
    intro j h
    by_cases e : j = k + 1
    · rw [e]
    · rw [ddT_keep x f (by omega), ih (by omega)]
/-- The polynomial through the nodes a .. a + k. -/
def nwt (a k : Nat) (X : Rat) : Rat := nf (fun l => x (a + l)) (fun j => ddT x f j (a + j)) X k
theorem nwt_pol (a k : Nat) : Pol k (ddT x f k (a + k)) (nwt x f a k) := Pol.nf (fun l => x (a + l)) (fun j => ddT x f j (a + j)) k
theorem nwt_ok {n : Nat} (hd : Inj x (n + 1)) : ∀ (k a : Nat), a + k ≤ n → ∀ l, l ≤ k → nwt x f a k (x (a + l)) = f (a + l) := by
  intro k
  induction k with
  | zero =>
    intro a _ l hl
    rw [Nat.le_zero.1 hl]
    rfl
  | succ k ih =>
    intro a ha l hl
    have e : ∀ X, nwt x f a (k + 1) X = nwt x f a k X + ddT x f (k + 1) (a + (k + 1)) * pr (fun l => x (a + l)) X (k + 1) := fun X => rfl
    by_cases h1 : l = k + 1
    · subst h1
      have hD := ((nwt_pol x f (a + 1) k).sub (nwt_pol x f a k)).roots (r := fun l => x (a + 1 + l)) (fun i j hi hj h => by have := hd _ _ (by omega) (by omega) h; omega) (fun l hl => by
        rw [ih (a + 1) (by omega) l (by omega), show a + 1 + l = a + (l + 1) by omega, ih a (by omega) (l + 1) (by omega)]
        grind) (x (a + (k + 1)))
      have hT := ih (a + 1) (by omega) k (Nat.le_refl _)
      rw [show a + 1 + k = a + (k + 1) by omega] at hT
      rw [hT] at hD
      have hs : ddT x f (k + 1) (a + (k + 1)) = (ddT x f k (a + (k + 1)) - ddT x f k (a + k)) / (x (a + (k + 1)) - x a) := by
        have := ddT_succ x f (k := k) (i := a + (k + 1)) (by omega)
        rwa [show a + (k + 1) - 1 = a + k by omega, show a + (k + 1) - (k + 1) = a by omega] at this
      have hne : x (a + (k + 1)) - x a ≠ 0 := sub_ne fun h => by have := hd _ _ (by omega) (by omega) h; omega
      have hp := pr_first (fun l => x (a + l)) (x (a + (k + 1))) k
      have hp2 : pr (fun l => x (a + (l + 1))) (x (a + (k + 1))) k = pr (fun l => x (a + 1 + l)) (x (a + (k + 1))) k := by
        congr 1; funext l; congr 1; omega
      simp only [Nat.add_zero] at hp
      rw [hp2] at hp
      rw [show a + 1 + k = a + (k + 1) by omega] at hD
      rw [e, hp, hs]
      generalize pr (fun l => x (a + 1 + l)) (x (a + (k + 1))) k = Q at hD ⊢
      generalize ddT x f k (a + (k + 1)) - ddT x f k (a + k) = U at hD ⊢
      generalize nwt x f a k (x (a + (k + 1))) = V at hD ⊢
      generalize x (a + (k + 1)) - x a = W at hne ⊢
      have : U / W * (W * Q) = U * Q := by
        rw [← Rat.mul_assoc, Rat.div_mul_cancel hne]
      rw [this]
      grind
    · rw [e, ih a (by omega) l (by omega), pr_zero (l := l) (by omega) rfl]
      grind

/-- The terms of Newton's form ahead of q. -/
def nfp (T : Nat → Rat) (X : Rat) : Nat → Rat
  | 0 => 0
  | q + 1 => nfp T X q + T q * pr x X q
theorem nf_nfp (T : Nat → Rat) (X : Rat) : ∀ m, nf x T X m = nfp x T X (m + 1) := by
  intro m
  induction m with
  | zero => simp only [nf, nfp, pr]; grind
  | succ m ih => rw [nf, ih]; rfl
theorem expand (n : Nat) (T : Nat → Rat) (X : Rat) : ∀ d, d ≤ n → (∀ i, i < n - d → iter (fun r => stepB x n (n - 1 - r)) d T i = T i) ∧
    nfp x T X (n - d) + pr x X (n - d) * pev d (fun i => iter (fun r => stepB x n (n - 1 - r)) d T (n - d + i)) X = nf x T X n := by
  intro d
  induction d with
  | zero =>
    intro _
    refine ⟨fun i _ => rfl, ?_⟩
    rw [nf_nfp]
    simp only [Nat.sub_zero, pev, iter, nfp, Nat.add_zero]
    grind
  | succ d ih =>
    intro hd
    obtain ⟨h1, h2⟩ := ih (by omega)
    obtain ⟨k, hk⟩ : ∃ k, k = n - 1 - d := ⟨_, rfl⟩
    obtain ⟨c, hc⟩ : ∃ c, c = iter (fun r => stepB x n (n - 1 - r)) d T := ⟨_, rfl⟩
    rw [← hc] at h1 h2
    have hit : iter (fun r => stepB x n (n - 1 - r)) (d + 1) T = stepB x n k c := by rw [iter, ← hc, ← hk]
    rw [hit]
    have e1 : n - (d + 1) = k := by omega
    have e2 : n - d = k + 1 := by omega
    rw [e1]
    rw [e2] at h1 h2
    refine ⟨fun i hi => ?_, ?_⟩
    · rw [stepB, if_neg (by omega)]; exact h1 i (by omega)
    · rw [pev_step (x k) X d (fun i => c (k + i)) (fun i => stepB x n k c (k + i)) (fun i hi => if_pos ⟨by omega, by omega⟩) (show stepB x n k c (k + (d + 1)) = c (k + (d + 1)) from if_neg (by omega))]
      · rw [← h2]
        have e3 : pev d (fun i => c (k + (i + 1))) X = pev d (fun i => c (k + 1 + i)) X := pev_congr d X fun i _ => by show c (k + (i + 1)) = c (k + 1 + i); congr 1; omega
        rw [e3, show c (k + 0) = T k from h1 k (by omega)]
        simp only [nfp, pr]
        grind
theorem thr_interp {n : Nat} (hd : Inj x (n + 1)) {l : Nat} (hl : l ≤ n) : pev n (thrC x n f) (x l) = f l := by
  have h := (expand x n (ddT x f n) (x l) n (Nat.le_refl _)).2
  rw [Nat.sub_self] at h
  have e : pev n (thrC x n f) (x l) = pev n (fun i => iter (fun r => stepB x n (n - 1 - r)) n (ddT x f n) (0 + i)) (x l) := pev_congr n _ fun i _ => by
    rw [Nat.zero_add]; rfl
  rw [e]
  have h2 := nwt_ok x f hd n 0 (by omega) l hl
  rw [Nat.zero_add] at h2
  rw [← h2, nwt]
  have h3 : nf x (ddT x f n) (x l) n = nf (fun l => x (0 + l)) (fun j => ddT x f j (0 + j)) (x l) n := nf_congr (fun i _ => by rw [Nat.zero_add]) fun i hi => by rw [Nat.zero_add]; exact ddT_diag x f hi
  rw [← h3, ← h]
  simp only [nfp, pr]
  grind
end
/-- There is one such polynomial alone. -/
theorem thr_unique {n : Nat} {x f c : Nat → Rat} (hd : Inj x (n + 1)) (h : ∀ l, l ≤ n → pev n c (x l) = f l) : ∀ i, i ≤ n → thrC x n f i = c i :=
  pev_eq hd fun l hl => by rw [thr_interp x f hd (by omega), h l (by omega)]

/-! #### sums -/
def sm : Nat → (Nat → Rat) → Rat
  | 0, _ => 0
  | n + 1, f => sm n f + f n
theorem sm_congr {f g : Nat → Rat} : ∀ {n : Nat}, (∀ i, i < n → f i = g i) → sm n f = sm n g := by
  intro n
  induction n with
  | zero => intro _; rfl
  | succ n ih => intro h; rw [sm, sm, ih fun i hi => h i (by omega), h n (Nat.lt_succ_self n)]
theorem sm_add (f g : Nat → Rat) : ∀ n, sm n (fun i => f i + g i) = sm n f + sm n g := by
  intro n
  induction n with
  | zero => simp only [sm]; grind
  | succ n ih => simp only [sm]; rw [ih]; grind
theorem sm_sub (f g : Nat → Rat) : ∀ n, sm n (fun i => f i - g i) = sm n f - sm n g := by
  intro n
  induction n with
  | zero => simp only [sm]; grind
  | succ n ih => simp only [sm]; rw [ih]; grind
theorem sm_smul (a : Rat) (f : Nat → Rat) : ∀ n, sm n (fun i => a * f i) = a * sm n f := by
  intro n
  induction n with
  | zero => simp only [sm]; grind
  | succ n ih => simp only [sm]; rw [ih]; grind
theorem sm_first (f : Nat → Rat) : ∀ n, sm (n + 1) f = f 0 + sm n (fun i => f (i + 1)) := by
  intro n
  induction n with
  | zero => simp only [sm]; grind
  | succ n ih => rw [sm, ih, sm]; grind
theorem sm_zero {f : Nat → Rat} : ∀ {n : Nat}, (∀ i, i < n → f i = 0) → sm n f = 0 := by
  intro n
  induction n with
  | zero => intro _; rfl
  | succ n ih => intro h; rw [sm, ih fun i hi => h i (by omega), h n (Nat.lt_succ_self n)]; grind
theorem sm_shift (k n : Nat) (a b : Nat → Rat) : sm (n + 1) (fun j => if k < j then a (j - 1) * b j else 0) = sm (n + 1) (fun i => if k ≤ i ∧ i < n then a i * b (i + 1) else 0) := by
  rw [sm_first, sm, if_neg (by omega), if_neg (by omega)]
  have : sm n (fun i => if k < i + 1 then a (i + 1 - 1) * b (i + 1) else 0) = sm n (fun i => if k ≤ i ∧ i < n then a i * b (i + 1) else 0) := sm_congr fun i hi => by
    by_cases h : k ≤ i
    · rw [if_pos (show k < i + 1 by omega), if_pos ⟨h, hi⟩]; rfl
    · rw [if_neg (show ¬ k < i + 1 by omega), if_neg (by omega)]
  rw [this]
  grind
theorem dual_B (x : Nat → Rat) (n k : Nat) (w c : Nat → Rat) : sm (n + 1) (fun i => w i * stepB x n k c i) = sm (n + 1) (fun i => stepBT x k w i * c i) := by
  have h1 : sm (n + 1) (fun i => w i * stepB x n k c i) = sm (n + 1) (fun i => w i * c i - x k * (if k ≤ i ∧ i < n then w i * c (i + 1) else 0)) := sm_congr fun i hi => by
    unfold stepB
    split
    · grind
    · grind
  have h2 : sm (n + 1) (fun i => stepBT x k w i * c i) = sm (n + 1) (fun i => w i * c i - x k * (if k < i then w (i - 1) * c i else 0)) := sm_congr fun i hi => by
    unfold stepBT
    split
    · grind
    · grind
  rw [h1, h2, sm_sub (fun i => w i * c i) (fun i => x k * (if k ≤ i ∧ i < n then w i * c (i + 1) else 0)), sm_sub (fun i => w i * c i) (fun i => x k * (if k < i then w (i - 1) * c i else 0)), sm_smul, sm_smul, sm_shift]
theorem dual_A (x : Nat → Rat) (n k : Nat) (w c : Nat → Rat) : sm (n + 1) (fun i => w i * stepA x k c i) = sm (n + 1) (fun i => stepA2 n k (stepA1 x k w) i * c i) := by
  obtain ⟨v, hv⟩ : ∃ v, v = stepA1 x k w := ⟨_, rfl⟩
  rw [← hv]
  have h1 : sm (n + 1) (fun i => w i * stepA x k c i) = sm (n + 1) (fun i => v i * c i - (if k < i then c (i - 1) * v i else 0)) := sm_congr fun i hi => by
    rw [hv]
    unfold stepA stepA1
    by_cases h : k < i
    · simp only [if_pos h]; grind
    · simp only [if_neg h]; grind
  have h2 : sm (n + 1) (fun i => stepA2 n k v i * c i) = sm (n + 1) (fun i => v i * c i - (if k ≤ i ∧ i < n then c i * v (i + 1) else 0)) := sm_congr fun i hi => by
    unfold stepA2
    split
    · grind
    · grind
  rw [h1, h2, sm_sub (fun i => v i * c i), sm_sub (fun i => v i * c i), sm_shift]
/-- The weights that answer moments, and the polynomial through points, go together. -/
theorem dual (x : Nat → Rat) (n : Nat) (b f : Nat → Rat) : sm (n + 1) (fun i => b i * thrC x n f i) = sm (n + 1) (fun i => momC x n b i * f i) := by
  obtain ⟨c1, hc1⟩ : ∃ c1, c1 = iter (stepA x) n f := ⟨_, rfl⟩
  have s1 : ∀ j, j ≤ n → sm (n + 1) (fun i => b i * iter (fun r => stepB x n (n - 1 - r)) n c1 i) = sm (n + 1) (fun i => iter (stepBT x) j b i * iter (fun r => stepB x n (n - 1 - r)) (n - j) c1 i) := by
    intro j
    induction j with
    | zero => intro _; rfl
    | succ j ih =>
      intro hj
      rw [ih (by omega), show n - j = (n - (j + 1)) + 1 by omega, iter]
      show sm (n + 1) (fun i => _ * stepB x n (n - 1 - (n - (j + 1))) _ i) = _
      rw [show n - 1 - (n - (j + 1)) = j by omega, dual_B]
      rfl
  obtain ⟨W, hW⟩ : ∃ W, W = iter (stepBT x) n b := ⟨_, rfl⟩
  have s2 : ∀ j, j ≤ n → sm (n + 1) (fun i => W i * iter (stepA x) n f i) = sm (n + 1) (fun i => iter (fun r w => stepA2 n (n - 1 - r) (stepA1 x (n - 1 - r) w)) j W i * iter (stepA x) (n - j) f i) := by
    intro j
    induction j with
    | zero => intro _; rfl
    | succ j ih =>
      intro hj
      rw [ih (by omega), show n - j = (n - (j + 1)) + 1 by omega, iter, dual_A, show n - (j + 1) = n - 1 - j by omega]
      rfl
  have e1 := s1 n (Nat.le_refl _)
  have e2 := s2 n (Nat.le_refl _)
  rw [Nat.sub_self] at e1 e2
  rw [thrC, momC, ← hc1, e1, ← hW]
  show sm (n + 1) (fun i => W i * c1 i) = _
  rw [hc1, e2]
  rfl

/-- X ^ j. -/
def pw (X : Rat) : Nat → Rat
  | 0 => 1
  | j + 1 => X * pw X j
theorem pev_pw (X : Rat) : ∀ (n j : Nat), j ≤ n → pev n (fun i => if i = j then 1 else 0) X = pw X j := by
  intro n
  induction n with
  | zero => intro j h; rw [Nat.le_zero.1 h]; simp [pev, pw]
  | succ n ih =>
    intro j h
    cases j with
    | zero =>
      rw [pev]
      have : pev n (fun i => if i + 1 = 0 then (1 : Rat) else 0) X = pev n (fun i => 0 * (1 : Rat)) X := pev_congr n X fun i _ => by simp
      rw [this, pev_smul n 0 (fun _ => 1)]
      simp [pw]
      grind
    | succ j =>
      rw [pev]
      have : pev n (fun i => if i + 1 = j + 1 then (1 : Rat) else 0) X = pev n (fun i => if i = j then 1 else 0) X := pev_congr n X fun i _ => by simp
      rw [this, ih j (by omega)]
      simp [pw]
      grind
theorem sm_one {n j : Nat} (hj : j < n) (b : Nat → Rat) : sm n (fun i => b i * (if i = j then 1 else 0)) = b j := by
  induction n with
  | zero => omega
  | succ n ih =>
    rw [sm]
    by_cases e : n = j
    · subst e
      rw [if_pos rfl, sm_zero fun i hi => by rw [if_neg (by omega)]; grind]
      grind
    · rw [if_neg e, ih (by omega)]; grind
/-- The moments of the weights. -/
theorem mom_ok {n : Nat} {x : Nat → Rat} (b : Nat → Rat) (hd : Inj x (n + 1)) {j : Nat} (hj : j ≤ n) : sm (n + 1) (fun i => momC x n b i * pw (x i) j) = b j := by
  rw [← dual x n b fun i => pw (x i) j]
  have h := thr_unique (n := n) (x := x) (f := fun i => pw (x i) j) (c := fun i => if i = j then 1 else 0) hd fun l _ => pev_pw _ n j hj
  rw [sm_congr (g := fun i => b i * (if i = j then 1 else 0)) fun i hi => by rw [h i (by omega)]]
  exact sm_one (by omega) b

/-! #### sizes -/
theorem bz_iter {F : Nat → (Nat → Rat) → (Nat → Rat)} {N t : Nat} (h : ∀ r c B, (∀ i, i < N → Bz (c i) B) → ∀ i, i < N → Bz (F r c i) (2 * B + t)) : ∀ (r : Nat) (c : Nat → Rat) (b : Nat), (∀ i, i < N → Bz (c i) b) → ∀ i, i < N → Bz (iter F r c i) (bs t b r) := by
  intro r
  induction r with
  | zero => intro c b hc; exact hc
  | succ r ih => intro c b hc; exact h r _ _ (ih c b hc)
theorem bs_add (t b : Nat) : ∀ (i j : Nat), bs t (bs t b i) j = bs t b (i + j) := by
  intro i j
  induction j with
  | zero => rfl
  | succ j ih => show 2 * bs t (bs t b i) j + t = 2 * bs t b (i + j) + t; rw [ih]
theorem thr_bz {n s b : Nat} {x f : Nat → Rat} (hx : ∀ i, i < n + 1 → Bz (x i) s) (hf : ∀ i, i < n + 1 → Bz (f i) b) : ∀ i, i < n + 1 → Bz (thrC x n f i) (bs (2 * s + 2) b (n + n)) := by
  rw [← bs_add]
  refine bz_iter (N := n + 1) (fun r c B hc i hi => ?_) n _ _ (bz_iter (N := n + 1) (fun r c B hc i hi => ?_) n f b hf)
  · unfold stepB
    split
    · rename_i h; exact ((hc i hi).sub ((hx _ (by omega)).mul (hc (i + 1) (by omega)))).mono (by omega)
    · exact (hc i hi).mono (by omega)
  · unfold stepA
    split
    · exact (((hc i hi).sub (hc (i - 1) (by omega))).div ((hx i hi).sub (hx _ (by omega)))).mono (by omega)
    · exact (hc i hi).mono (by omega)
theorem mom_bz {n s b : Nat} {x f : Nat → Rat} (hx : ∀ i, i < n + 1 → Bz (x i) s) (hf : ∀ i, i < n + 1 → Bz (f i) b) : ∀ i, i < n + 1 → Bz (momC x n f i) (bs (4 * s + 4) b (n + n)) := by
  rw [← bs_add]
  refine bz_iter (N := n + 1) (fun r c B hc i hi => ?_) n _ _ (bz_iter (N := n + 1) (fun r c B hc i hi => ?_) n f b hf)
  · have hm : ∀ i, i < n + 1 → Bz (stepA1 x (n - 1 - r) c i) (B + (s + s + 1)) := fun i hi => by
      unfold stepA1
      split
      · exact (hc i hi).div ((hx i hi).sub (hx _ (by omega)))
      · exact (hc i hi).mono (by omega)
    show Bz (stepA2 n (n - 1 - r) (stepA1 x (n - 1 - r) c) i) _
    unfold stepA2
    split
    · rename_i h; exact ((hm i hi).sub (hm (i + 1) (by omega))).mono (by omega)
    · exact (hm i hi).mono (by omega)
  · unfold stepBT
    split
    · exact ((hc i hi).sub ((hx r (by omega)).mul (hc (i - 1) (by omega)))).mono (by omega)
    · exact (hc i hi).mono (by omega)

/-- The program's values: Horner's rule. -/
theorem hor_cons (X a : Rat) (c : List Rat) : hor X (a :: c) = hor X c * X + a := rfl
theorem lst_cons (n : Nat) (c : Nat → Rat) : lst (n + 1) c = c 0 :: lst n (fun i => c (i + 1)) := by
  rw [lst, lst, List.range_succ_eq_map, List.map_cons, List.map_map]; rfl
theorem hor_lst (X : Rat) : ∀ (n : Nat) (c : Nat → Rat), hor X (lst (n + 1) c) = pev n c X := by
  intro n
  induction n with
  | zero => intro c; rw [lst_cons, hor_cons]; simp only [lst, hor, pev, List.range_zero, List.map_nil, List.foldr_nil]; grind
  | succ n ih => intro c; rw [lst_cons, hor_cons, ih, pev]; grind
theorem hor_bz {X : Rat} {s b : Nat} (hX : Bz X s) : ∀ (c : List Rat), Bl c b → Bz (hor X c) (c.length * (s + b + 1) + 1) := by
  intro c
  induction c with
  | nil => intro _; exact bz_zero.mono (by simp)
  | cons a c ih =>
    intro h
    have h1 := ih fun i hi => by have := h (i + 1) (by simpa using hi); simpa using this
    have h2 : Bz a b := by have := h 0 (by simp); simpa using this
    rw [hor_cons]
    refine ((h1.mul hX).add h2).mono ?_
    rw [List.length_cons, Nat.add_mul, Nat.one_mul]
    omega
end Go.Proofs.Ytkaooejeljdbnaa
