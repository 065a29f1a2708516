/- FGSolves: what its proof needs, part 5. -/
import Derived.Test.YtjfcphohgicolaaGreatHGSolves4
set_option linter.unusedVariables false
set_option linter.unusedSimpArgs false
namespace Go.Proofs.YtjfcphohgicolaaGreat
set_option linter.unusedVariables false
theorem pr_first (y : Nat → Rat) (X : Rat) : ∀ k, pr y X (k + 1) = (X - y 0) * pr (fun l => y (l + 1)) X k := by
  intro k
  induction k with
  | zero => simp only [pr]; grind
  | succ k ih => rw [pr, ih, pr]; grind
section
variable (x f : Nat → Rat)
abbrev ddT (k : Nat) : Nat → Rat := iter (stepA x) k f
theorem ddT_succ {k i : Nat} (h : k < i) : ddT x f (k + 1) i = (ddT x f k i - ddT x f k (i - 1)) / (x i - x (i - (k + 1))) := if_pos h
theorem ddT_keep {k i : Nat} (h : i ≤ k) : ddT x f (k + 1) i = ddT x f k i := if_neg (by omega)
theorem ddT_diag : ∀ {k j : Nat}, j ≤ k → ddT x f k j = ddT x f j j := by
  intro k
  induction k with
  | zero => intro j h; rw [Nat.le_zero.1 h]
  | succ k ih =>
    intro j h
    by_cases e : j = k + 1
    · rw [e]
    · rw [ddT_keep x f (by omega), ih (by omega)]
/-- The polynomial through the nodes a .. a + k. -/
def nwt (a k : Nat) (X : Rat) : Rat := nf (fun l => x (a + l)) (fun j => ddT x f j (a + j)) X k
theorem nwt_pol (a k : Nat) : Pol k (ddT x f k (a + k)) (nwt x f a k) := Pol.nf (fun l => x (a + l)) (fun j => ddT x f j (a + j)) k
theorem nwt_ok {n : Nat} (hd : Inj x (n + 1)) : ∀ (k a : Nat), a + k ≤ n → ∀ l, l ≤ k → nwt x f a k (x (a + l)) = f (a + l) := by
  intro k
  induction k with
  | zero =>
    intro a _ l hl
    rw [Nat.le_zero.1 hl]
    rfl
  | succ k ih =>
    intro a ha l hl
    have e : ∀ X, nwt x f a (k + 1) X = nwt x f a k X + ddT x f (k + 1) (a + (k + 1)) * pr (fun l => x (a + l)) X (k + 1) := fun X => rfl
    by_cases h1 : l = k + 1
    · subst h1
      have hD := ((nwt_pol x f (a + 1) k).sub (nwt_pol x f a k)).roots (r := fun l => x (a + 1 + l)) (fun i j hi hj h => by have := hd _ _ (by omega) (by omega) h; omega) (fun l hl => by
        rw [ih (a + 1) (by omega) l (by omega), show a + 1 + l = a + (l + 1) by omega, ih a (by omega) (l + 1) (by omega)]
        grind) (x (a + (k + 1)))
      have hT := ih (a + 1) (by omega) k (Nat.le_refl _)
      rw [show a + 1 + k = a + (k + 1) by omega] at hT
      rw [hT] at hD
      have hs : ddT x f (k + 1) (a + (k + 1)) = (ddT x f k (a + (k + 1)) - ddT x f k (a + k)) / (x (a + (k + 1)) - x a) := by
        have := ddT_succ x f (k := k) (i := a + (k + 1)) (by omega)
        rwa [show a + (k + 1) - 1 = a + k by omega, show a + (k + 1) - (k + 1) = a by omega] at this
      have hne : x (a + (k + 1)) - x a ≠ 0 := sub_ne fun h => by have := hd _ _ (by omega) (by omega) h; omega
      have hp := pr_first (fun l => x (a + l)) (x (a + (k + 1))) k
      have hp2 : pr (fun l => x (a + (l + 1))) (x (a + (k + 1))) k = pr (fun l => x (a + 1 + l)) (x (a + (k + 1))) k := by
        congr 1; funext l; congr 1; omega
      simp only [Nat.add_zero] at hp
      rw [hp2] at hp
      rw [show a + 1 + k = a + (k + 1) by omega] at hD
      rw [e, hp, hs]
      generalize pr (fun l => x (a + 1 + l)) (x (a + (k + 1))) k = Q at hD ⊢
      generalize ddT x f k (a + (k + 1)) - ddT x f k (a + k) = U at hD ⊢
      generalize nwt x f a k (x (a + (k + 1))) = V at hD ⊢
      generalize x (a + (k + 1)) - x a = W at hne ⊢
      have : U / W * (W * Q) = U * Q := by
        rw [← Rat.mul_assoc, Rat.div_mul_cancel hne]
      rw [this]
      grind
    · rw [e, ih a (by omega) l (by omega), pr_zero (l := l) (by omega) rfl]
      grind
/-- The terms of Newton's form ahead of q. -/
def nfp (T : Nat → Rat) (X : Rat) : Nat → Rat
  | 0 => 0
  | q + 1 => nfp T X q + T q * pr x X q
theorem nf_nfp (T : Nat → Rat) (X : Rat) : ∀ m, nf x T X m = nfp x T X (m + 1) := by
  intro m
  induction m with
  | zero => simp only [nf, nfp, pr]; grind
  | succ m ih => rw [nf, ih]; rfl
theorem expand (n : Nat) (T : Nat → Rat) (X : Rat) : ∀ d, d ≤ n → (∀ i, i < n - d → iter (fun r => stepB x n (n - 1 - r)) d T i = T i) ∧
    nfp x T X (n - d) + pr x X (n - d) * pev d (fun i => iter (fun r => stepB x n (n - 1 - r)) d T (n - d + i)) X = nf x T X n := by
  intro d
  induction d with
  | zero =>
    intro _
    refine ⟨fun i _ => rfl, ?_⟩
    rw [nf_nfp]
    simp only [Nat.sub_zero, pev, iter, nfp, Nat.add_zero]
    grind
  | succ d ih =>
    intro hd
    obtain ⟨h1, h2⟩ := ih (by omega)
    obtain ⟨k, hk⟩ : ∃ k, k = n - 1 - d := ⟨_, rfl⟩
    obtain ⟨c, hc⟩ : ∃ c, c = iter (fun r => stepB x n (n - 1 - r)) d T := ⟨_, rfl⟩
    rw [← hc] at h1 h2
    have hit : iter (fun r => stepB x n (n - 1 - r)) (d + 1) T = stepB x n k c := by rw [iter, ← hc, ← hk]
    rw [hit]
    have e1 : n - (d + 1) = k := by omega
    have e2 : n - d = k + 1 := by omega
    rw [e1]
    rw [e2] at h1 h2
    refine ⟨fun i hi => ?_, ?_⟩
    · rw [stepB, if_neg (by omega)]; exact h1 i (by omega)
    · rw [pev_step (x k) X d (fun i => c (k + i)) (fun i => stepB x n k c (k + i)) (fun i hi => if_pos ⟨by omega, by omega⟩) (show stepB x n k c (k + (d + 1)) = c (k + (d + 1)) from if_neg (by omega))]
      · rw [← h2]
        have e3 : pev d (fun i => c (k + (i + 1))) X = pev d (fun i => c (k + 1 + i)) X := pev_congr d X fun i _ => by show c (k + (i + 1)) = c (k + 1 + i); congr 1; omega
        rw [e3, show c (k + 0) = T k from h1 k (by omega)]
        simp only [nfp, pr]
        grind
theorem thr_interp {n : Nat} (hd : Inj x (n + 1)) {l : Nat} (hl : l ≤ n) : pev n (thrC x n f) (x l) = f l := by
  have h := (expand x n (ddT x f n) (x l) n (Nat.le_refl _)).2
  rw [Nat.sub_self] at h
  have e : pev n (thrC x n f) (x l) = pev n (fun i => iter (fun r => stepB x n (n - 1 - r)) n (ddT x f n) (0 + i)) (x l) := pev_congr n _ fun i _ => by
    rw [Nat.zero_add]; rfl
  rw [e]
  have h2 := nwt_ok x f hd n 0 (by omega) l hl
  rw [Nat.zero_add] at h2
  rw [← h2, nwt]
  have h3 : nf x (ddT x f n) (x l) n = nf (fun l => x (0 + l)) (fun j => ddT x f j (0 + j)) (x l) n := nf_congr (fun i _ => by rw [Nat.zero_add]) fun i hi => by rw [Nat.zero_add]; exact ddT_diag x f hi
  rw [← h3, ← h]
  simp only [nfp, pr]
  grind
end
/-- There is one such polynomial alone. -/
theorem thr_unique {n : Nat} {x f c : Nat → Rat} (hd : Inj x (n + 1)) (h : ∀ l, l ≤ n → pev n c (x l) = f l) : ∀ i, i ≤ n → thrC x n f i = c i :=
  pev_eq hd fun l hl => by rw [thr_interp x f hd (by omega), h l (by omega)]
def sm : Nat → (Nat → Rat) → Rat
  | 0, _ => 0
  | n + 1, f => sm n f + f n
theorem sm_congr {f g : Nat → Rat} : ∀ {n : Nat}, (∀ i, i < n → f i = g i) → sm n f = sm n g := by
  intro n
  induction n with
  | zero => intro _; rfl
  | succ n ih => intro h; rw [sm, sm, ih fun i hi => h i (by omega), h n (Nat.lt_succ_self n)]
theorem sm_add (f g : Nat → Rat) : ∀ n, sm n (fun i => f i + g i) = sm n f + sm n g := by
  intro n
  induction n with
  | zero => simp only [sm]; grind
  | succ n ih => simp only [sm]; rw [ih]; grind
theorem sm_sub (f g : Nat → Rat) : ∀ n, sm n (fun i => f i - g i) = sm n f - sm n g := by
  intro n
  induction n with
  | zero => simp only [sm]; grind
  | succ n ih => simp only [sm]; rw [ih]; grind
theorem sm_smul (a : Rat) (f : Nat → Rat) : ∀ n, sm n (fun i => a * f i) = a * sm n f := by
  intro n
  induction n with
  | zero => simp only [sm]; grind
  | succ n ih => simp only [sm]; rw [ih]; grind
theorem sm_first (f : Nat → Rat) : ∀ n, sm (n + 1) f = f 0 + sm n (fun i => f (i + 1)) := by
  intro n
  induction n with
  | zero => simp only [sm]; grind
  | succ n ih => rw [sm, ih, sm]; grind
theorem sm_zero {f : Nat → Rat} : ∀ {n : Nat}, (∀ i, i < n → f i = 0) → sm n f = 0 := by
  intro n
  induction n with
  | zero => intro _; rfl
  | succ n ih => intro h; rw [sm, ih fun i hi => h i (by omega), h n (Nat.lt_succ_self n)]; grind
theorem sm_shift (k n : Nat) (a b : Nat → Rat) : sm (n + 1) (fun j => if k < j then a (j - 1) * b j else 0) = sm (n + 1) (fun i => if k ≤ i ∧ i < n then a i * b (i + 1) else 0) := by
  rw [sm_first, sm, if_neg (by omega), if_neg (by omega)]
  have : sm n (fun i => if k < i + 1 then a (i + 1 - 1) * b (i + 1) else 0) = sm n (fun i => if k ≤ i ∧ i < n then a i * b (i + 1) else 0) := sm_congr fun i hi => by
    by_cases h : k ≤ i
    · rw [if_pos (show k < i + 1 by omega), if_pos ⟨h, hi⟩]; rfl
    · rw [if_neg (show ¬ k < i + 1 by omega), if_neg (by omega)]
  rw [this]
  grind
theorem dual_B (x : Nat → Rat) (n k : Nat) (w c : Nat → Rat) : sm (n + 1) (fun i => w i * stepB x n k c i) = sm (n + 1) (fun i => stepBT x k w i * c i) := by
  have h1 : sm (n + 1) (fun i => w i * stepB x n k c i) = sm (n + 1) (fun i => w i * c i - x k * (if k ≤ i ∧ i < n then w i * c (i + 1) else 0)) := sm_congr fun i hi => by
    unfold stepB
    split
    · grind
    · grind
  have h2 : sm (n + 1) (fun i => stepBT x k w i * c i) = sm (n + 1) (fun i => w i * c i - x k * (if k < i then w (i - 1) * c i else 0)) := sm_congr fun i hi => by
    unfold stepBT
    split
    · grind
    · grind
  rw [h1, h2, sm_sub (fun i => w i * c i) (fun i => x k * (if k ≤ i ∧ i < n then w i * c (i + 1) else 0)), sm_sub (fun i => w i * c i) (fun i => x k * (if k < i then w (i - 1) * c i else 0)), sm_smul, sm_smul, sm_shift]
theorem dual_A (x : Nat → Rat) (n k : Nat) (w c : Nat → Rat) : sm (n + 1) (fun i => w i * stepA x k c i) = sm (n + 1) (fun i => stepA2 n k (stepA1 x k w) i * c i) := by
  obtain ⟨v, hv⟩ : ∃ v, v = stepA1 x k w := ⟨_, rfl⟩
  rw [← hv]
  have h1 : sm (n + 1) (fun i => w i * stepA x k c i) = sm (n + 1) (fun i => v i * c i - (if k < i then c (i - 1) * v i else 0)) := sm_congr fun i hi => by
    rw [hv]
    unfold stepA stepA1
    by_cases h : k < i
    · simp only [if_pos h]; grind
    · simp only [if_neg h]; grind
  have h2 : sm (n + 1) (fun i => stepA2 n k v i * c i) = sm (n + 1) (fun i => v i * c i - (if k ≤ i ∧ i < n then c i * v (i + 1) else 0)) := sm_congr fun i hi => by
    unfold stepA2
    split
    · grind
    · grind
  rw [h1, h2, sm_sub (fun i => v i * c i), sm_sub (fun i => v i * c i), sm_shift]
/-- The weights that answer moments, and the polynomial through points, go together. -/
theorem dual (x : Nat → Rat) (n : Nat) (b f : Nat → Rat) : sm (n + 1) (fun i => b i * thrC x n f i) = sm (n + 1) (fun i => momC x n b i * f i) := by
  obtain ⟨c1, hc1⟩ : ∃ c1, c1 = iter (stepA x) n f := ⟨_, rfl⟩
  have s1 : ∀ j, j ≤ n → sm (n + 1) (fun i => b i * iter (fun r => stepB x n (n - 1 - r)) n c1 i) = sm (n + 1) (fun i => iter (stepBT x) j b i * iter (fun r => stepB x n (n - 1 - r)) (n - j) c1 i) := by
    intro j
    induction j with
    | zero => intro _; rfl
    | succ j ih =>
      intro hj
      rw [ih (by omega), show n - j = (n - (j + 1)) + 1 by omega, iter]
      show sm (n + 1) (fun i => _ * stepB x n (n - 1 - (n - (j + 1))) _ i) = _
      rw [show n - 1 - (n - (j + 1)) = j by omega, dual_B]
      rfl
  obtain ⟨W, hW⟩ : ∃ W, W = iter (stepBT x) n b := ⟨_, rfl⟩
  have s2 : ∀ j, j ≤ n → sm (n + 1) (fun i => W i * iter (stepA x) n f i) = sm (n + 1) (fun i => iter (fun r w => stepA2 n (n - 1 - r) (stepA1 x (n - 1 - r) w)) j W i * iter (stepA x) (n - j) f i) := by
    intro j
    induction j with
    | zero => intro _; rfl
    | succ j ih =>
      intro hj
      rw [ih (by omega), show n - j = (n - (j + 1)) + 1 by omega, iter, dual_A, show n - (j + 1) = n - 1 - j by omega]
      rfl
  have e1 := s1 n (Nat.le_refl _)
  have e2 := s2 n (Nat.le_refl _)
  rw [Nat.sub_self] at e1 e2
  rw [thrC, momC, ← hc1, e1, ← hW]
  show sm (n + 1) (fun i => W i * c1 i) = _
  rw [hc1, e2]
  rfl
/-- X ^ j. -/
def pw (X : Rat) : Nat → Rat
  | 0 => 1
  | j + 1 => X * pw X j
theorem pev_pw (X : Rat) : ∀ (n j : Nat), j ≤ n → pev n (fun i => if i = j then 1 else 0) X = pw X j := by
  intro n
  induction n with
  | zero => intro j h; rw [Nat.le_zero.1 h]; simp [pev, pw]
  | succ n ih =>
    intro j h
    cases j with
    | zero =>
      rw [pev]
      have : pev n (fun i => if i + 1 = 0 then (1 : Rat) else 0) X = pev n (fun i => 0 * (1 : Rat)) X := pev_congr n X fun i _ => by simp
      rw [this, pev_smul n 0 (fun _ => 1)]
      simp [pw]
      grind
    | succ j =>
      rw [pev]
      have : pev n (fun i => if i + 1 = j + 1 then (1 : Rat) else 0) X = pev n (fun i => if i = j then 1 else 0) X := pev_congr n X fun i _ => by simp
      rw [this, ih j (by omega)]
      simp [pw]
      grind
theorem sm_one {n j : Nat} (hj : j < n) (b : Nat → Rat) : sm n (fun i => b i * (if i = j then 1 else 0)) = b j := by
  induction n with
  | zero => omega
  | succ n ih =>
    rw [sm]
    by_cases e : n = j
    · subst e
      rw [if_pos rfl, sm_zero fun i hi => by rw [if_neg (by omega)]; grind]
      grind
    · rw [if_neg e, ih (by omega)]; grind
/-- The moments of the weights. -/
theorem mom_ok {n : Nat} {x : Nat → Rat} (b : Nat → Rat) (hd : Inj x (n + 1)) {j : Nat} (hj : j ≤ n) : sm (n + 1) (fun i => momC x n b i * pw (x i) j) = b j := by
  rw [← dual x n b fun i => pw (x i) j]
  have h := thr_unique (n := n) (x := x) (f := fun i => pw (x i) j) (c := fun i => if i = j then 1 else 0) hd fun l _ => pev_pw _ n j hj
  rw [sm_congr (g := fun i => b i * (if i = j then 1 else 0)) fun i hi => by rw [h i (by omega)]]
  exact sm_one (by omega) b
end Go.Proofs.YtjfcphohgicolaaGreat

namespace Go.Proofs.YtjfcphohgicolaaGreat
open Go
set_option linter.unusedVariables false
set_option linter.unusedSimpArgs false
set_option maxRecDepth 10000
def fl {α : Type} (n : Nat) (f : Nat → α) : List α := (List.range n).map f
@[simp] theorem fl_length {α : Type} {n : Nat} {f : Nat → α} : (fl n f).length = n := by simp [fl]
theorem fl_get {α : Type} {n : Nat} {f : Nat → α} {i : Nat} (h : i < n) : (fl n f)[i]? = some (f i) := by simp [fl, h]
theorem fl_get_iff {α : Type} {n : Nat} {f : Nat → α} {i : Nat} {v : α} : (fl n f)[i]? = some v ↔ i < n ∧ f i = v := by
  constructor
  · intro h
    have hi : i < n := by have := (List.getElem?_eq_some_iff.1 h).1; simpa using this
    rw [fl_get hi] at h
    exact ⟨hi, by simpa using h⟩
  · rintro ⟨hi, rfl⟩; exact fl_get hi
theorem fl_set {α : Type} {n : Nat} {f : Nat → α} {i : Nat} {v : α} : (fl n f).set i v = fl n (upd f i v) := by
  apply List.ext_getElem (by simp)
  intro k h1 h2
  simp only [List.getElem_set, fl, List.getElem_map, List.getElem_range, upd]
  by_cases e : i = k
  · rw [if_pos e, if_pos e.symm]
  · rw [if_neg e, if_neg (Ne.symm e)]
theorem fl_snoc {α : Type} {n : Nat} {f : Nat → α} : fl (n + 1) f = fl n f ++ [f n] := by simp [fl, List.range_succ]
theorem fl_congr {α : Type} {n : Nat} {f g : Nat → α} (h : ∀ i, i < n → f i = g i) : fl n f = fl n g := List.map_congr_left fun i hi => h i (by simpa using hi)
theorem fl_map {α β : Type} {n : Nat} {f : Nat → α} {g : α → β} : (fl n f).map g = fl n fun i => g (f i) := by simp [fl]
theorem fl_mem {α : Type} {n : Nat} {f : Nat → α} {x : α} (h : x ∈ fl n f) : ∃ i, i < n ∧ f i = x := by
  simp only [fl, List.mem_map, List.mem_range] at h; exact h
theorem lst_fl {n : Nat} {g : Nat → Rat} : lst n g = fl n g := rfl
theorem app_lst (k : Nat) (f : Nat → Rat) (q : Rat) (h : q = f k) : rats (lst k f) ++ [ratP q] = rats (lst (k + 1) f) := by
  subst h; rw [rats, rats, lst, lst, List.range_succ, List.map_append, List.map_append]; rfl
abbrev matP (m m' : Bool) (n w : Nat) (A : Nat → Nat → Rat) : PV := .sl m 1 (fl n fun i => ratsM m' (lst w (A i)))
theorem SIdx.mf {m' : Bool} {n w : Nat} {A : Nat → Nat → Rat} {i : Int} {K : Nat → PV → Prop} (j : Nat) (hi : i = j) (hj : j < n) (hk : K j (ratsM m' (lst w (A j)))) : SIdx (fl n fun i => ratsM m' (lst w (A i))) i K :=
  .mk j _ hi (fl_get hj) hk
theorem pers_matP {n w : Nat} {A : Nat → Nat → Rat} : Pers (matP false false n w A) :=
  .sl _ _ fun e he c hc => by
    obtain ⟨i, _, rfl⟩ := fl_mem he
    simp only [PV.cells, List.mem_singleton] at hc
    subst hc
    exact .sl _ _ (pers_rats _)
abbrev plc (p c n : Nat) (s : Nat → Nat) : List AV := fl n fun i => .vec (.r p (s i)) 3 0 c
abbrev plr (n w : Nat) (G : Nat → Nat → Rat) : List (Option (List PV)) := fl n fun k => some (rats (lst w (G k)))
theorem SIdxA.plc {p c n : Nat} {s : Nat → Nat} {i : Int} {K : AV → Prop} (j : Nat) (hi : i = j) (hj : j < n) (hk : K (.vec (.r p (s j)) 3 0 c)) : SIdxA (plc p c n s) i K := .mk j _ hi (fl_get hj) hk
theorem SRow.plr {n w : Nat} {G : Nat → Nat → Rat} {k : Nat} {K : List PV → Prop} (hk : k < n) (hK : K (rats (lst w (G k)))) : SRow (plr n w G) k K := .mk _ (fl_get hk) hK
theorem SPool.plr {n w : Nat} {G : Nat → Nat → Rat} {k : Nat} {f : Nat → Rat} {K : List (Option (List PV)) → Prop} (hk : k < n) (hK : K (plr n w (upd G k f))) : SPool (plr n w G) k (some (rats (lst w f))) K :=
  .mk _ (by simpa using hk) (by rw [fl_set]; exact fl_congr fun i _ => by unfold upd; split <;> rfl) hK
theorem SLt.plc {p c n i : Nat} {s : Nat → Nat} {K : Prop} (h : i < n) (hk : K) : SLt i (plc p c n s).length K := .mk (by simpa using h) hk
theorem SAs.plc {p c n i k : Nat} {s : Nat → Nat} {K : List AV → Prop} (hk : K (plc p c n (upd s i k))) : SAs ((plc p c n s).set i (.vec (.r p k) 3 0 c)) K :=
  .mk _ (by rw [fl_set]; exact fl_congr fun j _ => by unfold upd; split <;> rfl) hk
theorem renL_fl {ρ : Hd → Hd} {n : Nat} {f : Nat → AV} : AV.renL ρ (fl n f) = fl n fun i => (f i).ren ρ := by rw [AV.renL_eq, fl_map]
/-- The pool takes a row in. -/
theorem plc_absorb {hs : List Nat} {P : Hp} {p p' q c k : Nat} (hp : hs.getD p 0 = p' + 1000 * (q + 1)) (hp' : p' < 1000) (hl : plenAt P p = k + 1) : AV.renL (renW hs P) (plc p c (k + 1) id) = plc p' c k id ++ [.vec (.t q) 3 0 c] := by
  rw [renL_fl, fl_snoc]
  have eb : Nat.blt (hs.getD p 0) 1000 = false := by
    cases hb : Nat.blt (hs.getD p 0) 1000 with
    | false => rfl
    | true => have := blt_iff.1 hb; omega
  have e1 : hs.getD p 0 % 1000 = p' := by omega
  have e2 : hs.getD p 0 / 1000 - 1 = q := by omega
  congr 1
  · refine fl_congr fun i hi => ?_
    have e4 : Nat.blt (i + 1) (k + 1) = true := blt_iff.2 (by omega)
    simp only [AV.ren, renW, eb, hl, id, e4, cond_false, cond_true, e1]
  · have e4 : Nat.blt (k + 1) (k + 1) = false := by
      cases hb : Nat.blt (k + 1) (k + 1) with
      | false => rfl
      | true => have := blt_iff.1 hb; omega
    simp only [AV.ren, renW, eb, hl, id, e4, cond_false, e2]
theorem plc_ren {hs : List Nat} {P : Hp} {p c n : Nat} {s : Nat → Nat} (p' : Nat) (hp : hs.getD p 0 = p') (hp' : p' < 1000) : AV.renL (renW hs P) (plc p c n s) = plc p' c n s := by
  rw [renL_fl]
  refine fl_congr fun i hi => ?_
  have eb : Nat.blt p' 1000 = true := blt_iff.2 hp'
  simp only [AV.ren, renW, hp, eb, cond_true]
theorem plr_snoc {n w : Nat} {G : Nat → Nat → Rat} : plr (n + 1) w G = plr n w G ++ [some (rats (lst w (G n)))] := fl_snoc
theorem rows_in {P : Hp} {p c n : Nat} {s : Nat → Nat} (h : ∀ i, i < n → s i < plenAt P p) : ∀ x ∈ plc p c n s, ∀ h, x.men h → look P h ≠ .free := by
  intro x hx g hg
  obtain ⟨i, hi, rfl⟩ := fl_mem hx
  simp only [AV.men] at hg
  subst hg
  exact look_row (h i hi)
theorem look_pr {H : Hp} {p n w : Nat} {T : TypeId} {G : Nat → Nat → Rat} (hH : H.getD p .free = .pool T 3 (plr n w G)) {k : Nat} (hk : k < n) : look H (.r p k) = .vec T 3 (rats (lst w (G k))) := by
  simp only [look, hH, Blk.row, fl_get hk]
theorem SLendR.plc {H : Hp} {p n N w : Nat} {T : TypeId} {G : Nat → Nat → Rat} {s : Nat → Nat} {K : List PV → Prop} (hH : H.getD p .free = .pool T 3 (plr N w G)) (hs : ∀ i, i < n → s i < N) (hk : K (fl n fun i => ratsM true (lst w (G (s i))))) : SLendR (look H) (plc p w n s) n K :=
  .mk _ (by simp) (by simp) (fun i c q e1 e2 => by
    obtain ⟨hi, rfl⟩ := fl_get_iff.1 e1
    obtain ⟨_, rfl⟩ := fl_get_iff.1 e2
    have := LendR.vec (L := look H) (h := .r p (s i)) (W := 3) (off := 0) (len := w) (look_pr hH (hs i hi)) (by simp [lst])
    rw [List.drop_zero, List.take_of_length_le (by simp [lst])] at this
    exact this) hk
/-- The call's own matrix, as it is answered: read alone from then on. -/
theorem frzM {H : Hp} {h p n N w : Nat} {T T' : TypeId} {G : Nat → Nat → Rat} {s : Nat → Nat} (hB : look H h = .rows T (plc p w n s)) (hH : H.getD p .free = .pool T' 3 (plr N w G)) (hs : ∀ i, i < n → s i < N) : Conv [] H (.vec h 1 0 n) (.p (matP false false n w fun i => G (s i))) := by
  refine Conv.frzR (h := h) hB (by simp) (by simp) (fun d hd => by obtain ⟨i, _, rfl⟩ := fl_mem hd; rfl) (by simp) fun i c d e1 e2 => ?_
  obtain ⟨hi, rfl⟩ := fl_get_iff.1 e1
  obtain ⟨_, rfl⟩ := fl_get_iff.1 e2
  exact .frz (look_pr hH (hs i hi)) (by simp) (by simp [lst]) (pers_rats _) (by rw [List.drop_zero]; exact List.take_of_length_le (by simp [lst]))
abbrev bxQ (q : Rat) : List AV := [.p (.bool (decide (q.num < 0))), .p (natP q.num.natAbs), .p (natP q.den)]
end Go.Proofs.YtjfcphohgicolaaGreat

namespace Go.Proofs.YtjfcphohgicolaaGreat
open Go
set_option linter.unusedVariables false
set_option linter.unusedSimpArgs false
set_option maxRecDepth 10000
structure GV where
  k : Nat
  n : Nat
  r : Nat
  A : Nat → Rat
  B : Nat → Rat
  G : Nat → Rat
  H : Nat → Rat
def cntA (k n : Nat) : Nat := if k = 1 ∨ k = 2 then 2 * n - 1 else if k = 6 then 0 else n
def cntB (k n : Nat) : Nat := if k = 5 ∨ k = 7 then n else 0
def cntH (k n r : Nat) : Nat := if k = 6 ∨ k = 7 then n * r else 0
def GV.la (g : GV) : Nat := cntA g.k g.n
def GV.lb (g : GV) : Nat := cntB g.k g.n
def GV.lh (g : GV) : Nat := cntH g.k g.n g.r
/-- Which rows are lent: none. -/
abbrev noF : Nat → Bool := fun _ => false
abbrev genC (m : Nat → Bool) (g : GV) : List PV := [.int .i64 g.k, .int .i64 g.n, .int .i64 g.r, ratsM (m 0) (lst g.la g.A), ratsM (m 1) (lst g.lb g.B), ratsM (m 2) (lst g.lh g.G), ratsM (m 3) (lst g.lh g.H)]
abbrev genP (m : Nat → Bool) (g : GV) : PV := .agg (genC m g)
theorem pers_gen (g : GV) : Pers (genP noF g) := .agg _ fun c hc => by
  simp only [genC, List.mem_cons, List.not_mem_nil, or_false] at hc
  rcases hc with rfl | rfl | rfl | rfl | rfl | rfl | rfl <;> first | exact .int _ _ | exact .sl _ _ (pers_rats _)
theorem within5_ok (a n : Int) (hn : 0 < n) (hn' : n < 4611686018427387904) : CallP Tryz.prog 48 [.int .i64 a, .int .i64 n] (.p (.int .i64 (a % n))) [] := by
  refine callG_of_vc (wr := wr0) Γok mixed Tryz.func48 (by kernel_rfl) rfl (by kernel_rfl) (le_of_ble rfl) (by simp) ?_
  have hw := within_aux (a := a) hn
  have hb := tmod_bd a hn
  obtain ⟨r, hr⟩ : ∃ r, r = a.tmod n := ⟨_, rfl⟩
  rw [← hr] at hw hb
  refine SNe.mk (by omega) ?_
  refine SZ.mk r hr.symm ?_
  by_cases h : r < 0
  · refine SCmp.yes (decide_eq_true (by omega)) ?_
    refine SWrap.i64z (r + n) rfl (by omega) ?_
    rw [if_pos h] at hw
    rw [← hw]
    exact SRet.pure (.p _ (.int _ _))
  · refine SCmp.no (decide_eq_false (by omega)) ?_
    rw [if_neg h] at hw
    rw [← hw]
    exact SRet.pure (.p _ (.int _ _))
theorem within13_ok (a n : Int) (hn : 0 < n) (hn' : n < 4611686018427387904) : CallP Tryz.prog 14 [.int .i64 a, .int .i64 n] (.p (.int .i64 (a % n))) [] := by
  refine callG_of_vc (wr := wr0) Γok mixed Tryz.func14 (by kernel_rfl) rfl (by kernel_rfl) (le_of_ble rfl) (by simp) ?_
  have hw := within_aux (a := a) hn
  have hb := tmod_bd a hn
  obtain ⟨r, hr⟩ : ∃ r, r = a.tmod n := ⟨_, rfl⟩
  rw [← hr] at hw hb
  refine SNe.mk (by omega) ?_
  refine SZ.mk r hr.symm ?_
  by_cases h : r < 0
  · refine SCmp.yes (decide_eq_true (by omega)) ?_
    refine SWrap.i64z (r + n) rfl (by omega) ?_
    rw [if_pos h] at hw
    rw [← hw]
    exact SRet.pure (.p _ (.int _ _))
  · refine SCmp.no (decide_eq_false (by omega)) ?_
    rw [if_neg h] at hw
    rw [← hw]
    exact SRet.pure (.p _ (.int _ _))
theorem k_cases {k : Nat} (h1 : 1 ≤ k) (h7 : k ≤ 7) : k = 1 ∨ k = 2 ∨ k = 3 ∨ k = 4 ∨ k = 5 ∨ k = 6 ∨ k = 7 := by omega
theorem rlike_ok (k : Nat) (h1 : 1 ≤ k) (h7 : k ≤ 7) : CallP Tryz.prog 49 [.int .i64 k] (.p (.bool (decide (k = 6 ∨ k = 7)))) [] := by
  refine callG_of_vc (wr := wr0) Γok mixed Tryz.func49 (by kernel_rfl) rfl (by kernel_rfl) (le_of_ble rfl) (by simp) ?_
  by_cases e6 : k = 6
  · refine SCmp.yes (decide_eq_true (by omega)) ?_
    rw [decide_eq_true (.inl e6)]
    exact SRet.pure (.tf _)
  · refine SCmp.no (decide_eq_false (by omega)) ?_
    by_cases e7 : k = 7
    · refine SCmp.yes (decide_eq_true (by omega)) ?_
      rw [decide_eq_true (.inr e7)]
      exact SRet.pure (.tf _)
    · refine SCmp.no (decide_eq_false (by omega)) ?_
      rw [decide_eq_false (by omega)]
      exact SRet.pure (.tf _)
theorem rcounts_ok (k n r : Nat) (h1 : 1 ≤ k) (h7 : k ≤ 7) (hn1 : 1 ≤ n) (hn : n ≤ 8) (hr : r ≤ 3) (a b c d : PV) :
    CallP Tryz.prog 50 [.agg [.int .i64 k, .int .i64 n, .int .i64 r, a, b, c, d]] (.tup [.p (.int .i64 (cntA k n)), .p (.int .i64 (cntB k n)), .p (.int .i64 (cntH k n r))]) [] := by
  have hnr : n * r ≤ 24 := Nat.mul_le_mul hn hr
  have hnz : ((n * r : Nat) : Int) = (n : Int) * (r : Int) := Int.natCast_mul n r
  refine callG_of_vc (wr := wr0) Γok mixed Tryz.func50 (by kernel_rfl) rfl (by kernel_rfl) (le_of_ble rfl) (by simp) ?_
  rcases k_cases h1 h7 with rfl | rfl | rfl | rfl | rfl | rfl | rfl
  · refine SCmp.yes (rfl) ?_
    refine SWrap.i64z ((2 * n : Nat) : Int) (by omega) (by omega) ?_
    refine SWrap.i64z ((2 * n - 1 : Nat) : Int) (by omega) (by omega) ?_
    exact SRet.pure (.tup rfl fun i c d e1 e2 => by
      match i, e1, e2 with
      | 0, e1, e2 => cases e1; cases e2; exact .p _ (.int _ _)
      | 1, e1, e2 => cases e1; cases e2; exact .p _ (.int _ _)
      | 2, e1, e2 => cases e1; cases e2; exact .p _ (.int _ _))
  · refine SCmp.no (rfl) ?_
    refine SCmp.yes (rfl) ?_
    refine SWrap.i64z ((2 * n : Nat) : Int) (by omega) (by omega) ?_
    refine SWrap.i64z ((2 * n - 1 : Nat) : Int) (by omega) (by omega) ?_
    exact SRet.pure (.tup rfl fun i c d e1 e2 => by
      match i, e1, e2 with
      | 0, e1, e2 => cases e1; cases e2; exact .p _ (.int _ _)
      | 1, e1, e2 => cases e1; cases e2; exact .p _ (.int _ _)
      | 2, e1, e2 => cases e1; cases e2; exact .p _ (.int _ _))
  · refine SCmp.no (rfl) ?_
    refine SCmp.no (rfl) ?_
    refine SCmp.yes (rfl) ?_
    exact SRet.pure (.tup rfl fun i c d e1 e2 => by
      match i, e1, e2 with
      | 0, e1, e2 => cases e1; cases e2; exact .p _ (.int _ _)
      | 1, e1, e2 => cases e1; cases e2; exact .p _ (.int _ _)
      | 2, e1, e2 => cases e1; cases e2; exact .p _ (.int _ _))
  · refine SCmp.no (rfl) ?_
    refine SCmp.no (rfl) ?_
    refine SCmp.no (rfl) ?_
    refine SCmp.yes (rfl) ?_
    exact SRet.pure (.tup rfl fun i c d e1 e2 => by
      match i, e1, e2 with
      | 0, e1, e2 => cases e1; cases e2; exact .p _ (.int _ _)
      | 1, e1, e2 => cases e1; cases e2; exact .p _ (.int _ _)
      | 2, e1, e2 => cases e1; cases e2; exact .p _ (.int _ _))
  · refine SCmp.no (rfl) ?_
    refine SCmp.no (rfl) ?_
    refine SCmp.no (rfl) ?_
    refine SCmp.no (rfl) ?_
    refine SCmp.yes (rfl) ?_
    refine SDraw.mk (by kernel_rfl) ?_
    repeat refine SOp.mk _ _ (And.intro rfl rfl) rfl ?_
    exact SRet.pure (.tup rfl fun i c d e1 e2 => by
      match i, e1, e2 with
      | 0, e1, e2 => cases e1; cases e2; exact .p _ (.int _ _)
      | 1, e1, e2 => cases e1; cases e2; exact .p _ (.int _ _)
      | 2, e1, e2 => cases e1; cases e2; exact .p _ (.int _ _))
  · refine SCmp.no (rfl) ?_
    refine SCmp.no (rfl) ?_
    refine SCmp.no (rfl) ?_
    refine SCmp.no (rfl) ?_
    refine SCmp.no (rfl) ?_
    refine SCmp.yes (rfl) ?_
    refine SDraw.mk (by kernel_rfl) ?_
    repeat refine SOp.mk _ _ (And.intro rfl rfl) rfl ?_
    refine SOp.mk _ _ (SWrap.i64z ((n * r : Nat) : Int) (by omega) (by omega) (And.intro rfl rfl)) rfl ?_
    repeat refine SOp.mk _ _ (And.intro rfl rfl) rfl ?_
    exact SRet.pure (.tup rfl fun i c d e1 e2 => by
      match i, e1, e2 with
      | 0, e1, e2 => cases e1; cases e2; exact .p _ (.int _ _)
      | 1, e1, e2 => cases e1; cases e2; exact .p _ (.int _ _)
      | 2, e1, e2 => cases e1; cases e2; exact .p _ (.int _ _))
  · refine SCmp.no (rfl) ?_
    refine SCmp.no (rfl) ?_
    refine SCmp.no (rfl) ?_
    refine SCmp.no (rfl) ?_
    refine SCmp.no (rfl) ?_
    refine SCmp.no (rfl) ?_
    refine SDraw.mk (by kernel_rfl) ?_
    repeat refine SOp.mk _ _ (And.intro rfl rfl) rfl ?_
    refine SOp.mk _ _ (SWrap.i64z ((n * r : Nat) : Int) (by omega) (by omega) (And.intro rfl rfl)) rfl ?_
    repeat refine SOp.mk _ _ (And.intro rfl rfl) rfl ?_
    exact SRet.pure (.tup rfl fun i c d e1 e2 => by
      match i, e1, e2 with
      | 0, e1, e2 => cases e1; cases e2; exact .p _ (.int _ _)
      | 1, e1, e2 => cases e1; cases e2; exact .p _ (.int _ _)
      | 2, e1, e2 => cases e1; cases e2; exact .p _ (.int _ _))
end Go.Proofs.YtjfcphohgicolaaGreat

namespace Go.Proofs.YtjfcphohgicolaaGreat
open Go
set_option linter.unusedVariables false
set_option linter.unusedSimpArgs false
set_option maxRecDepth 10000
theorem mkQ_range {neg : Bool} {a d : Nat} (ha : a ≤ 20) (hd : d ≠ 0) : -20 ≤ mkQ neg a d ∧ mkQ neg a d ≤ 20 := by
  have h0 : (0 : Rat) < (d : Rat) := by exact_mod_cast Nat.pos_of_ne_zero hd
  have h1 : (1 : Rat) ≤ (d : Rat) := by exact_mod_cast Nat.pos_of_ne_zero hd
  have e : mkQ neg a d * (d : Rat) = ((sgn neg a : Int) : Rat) := by
    rw [mkQ, Rat.mkRat_eq_div]
    grind
  have s1 : (-20 : Int) ≤ sgn neg a ∧ sgn neg a ≤ 20 := by unfold sgn; cases neg <;> simp <;> omega
  have s2 : (-20 : Rat) ≤ ((sgn neg a : Int) : Rat) := by have := Rat.intCast_le_intCast.2 s1.1; rw [show (-20 : Rat) = ((-20 : Int) : Rat) from rfl]; exact this
  have s3 : ((sgn neg a : Int) : Rat) ≤ 20 := by have := s1.2; exact_mod_cast this
  generalize mkQ neg a d = q at e
  generalize ((sgn neg a : Int) : Rat) = s at e s2 s3
  generalize (d : Rat) = D at e h0 h1
  constructor
  · by_cases c : -20 ≤ q
    · exact c
    · have c : q < -20 := Rat.not_le.1 c
      have := Rat.mul_lt_mul_of_pos_right c h0
      grind
  · by_cases c : q ≤ 20
    · exact c
    · have c : 20 < q := Rat.not_le.1 c
      have := Rat.mul_lt_mul_of_pos_right c h0
      grind
theorem smallQ_range (n : Int) : -20 ≤ smallQ n ∧ smallQ n ≤ 20 := mkQ_range (by omega) (by omega)
/-- What node j of the second row becomes, as so many of the first ones are looked at. -/
def bfix (f : Nat → Rat) (j : Nat) (b : Rat) : Nat → Rat
  | 0 => b
  | i + 1 => if f i = bfix f j b i then bfix f j b i + (((100 + j : Nat) : Int) : Rat) else bfix f j b i
theorem bfix_val {f : Nat → Rat} (hf : ∀ i, -20 ≤ f i ∧ f i ≤ 20) {j : Nat} {b : Rat} (hb : -20 ≤ b ∧ b ≤ 20) : ∀ i, (bfix f j b i = b ∧ ∀ t, t < i → f t ≠ b) ∨ bfix f j b i = b + (((100 + j : Nat) : Int) : Rat) := by
  intro i
  have big : (100 : Rat) ≤ (((100 + j : Nat) : Int) : Rat) := by
    have : (100 : Int) ≤ ((100 + j : Nat) : Int) := by omega
    exact_mod_cast this
  induction i with
  | zero => exact .inl ⟨rfl, fun t ht => absurd ht (Nat.not_lt_zero _)⟩
  | succ i ih =>
    simp only [bfix]
    rcases ih with ⟨ih, hn⟩ | ih
    · rw [ih]
      by_cases c : f i = b
      · rw [if_pos c]; exact .inr rfl
      · rw [if_neg c]
        exact .inl ⟨rfl, fun t ht => by
          by_cases e : t = i
          · rw [e]; exact c
          · exact hn t (by omega)⟩
    · rw [ih, if_neg]
      · exact .inr rfl
      · have := (hf i).2
        have := hb.1
        generalize (((100 + j : Nat) : Int) : Rat) = z at big
        grind
theorem bfix_ne {f : Nat → Rat} (hf : ∀ i, -20 ≤ f i ∧ f i ≤ 20) {j : Nat} {b : Rat} (hb : -20 ≤ b ∧ b ≤ 20) {i t : Nat} (ht : t < i) : f t ≠ bfix f j b i := by
  rcases bfix_val hf (j := j) hb i with ⟨h, hn⟩ | h
  · rw [h]; exact hn t ht
  · have big : (100 : Rat) ≤ (((100 + j : Nat) : Int) : Rat) := by
      have : (100 : Int) ≤ ((100 + j : Nat) : Int) := by omega
      exact_mod_cast this
    rw [h]
    have := (hf t).2
    have := hb.1
    generalize (((100 + j : Nat) : Int) : Rat) = z at big
    grind
theorem bfix_bz {f : Nat → Rat} (hf : ∀ i, -20 ≤ f i ∧ f i ≤ 20) {j : Nat} (hj : j < 28) {b : Rat} (hb : -20 ≤ b ∧ b ≤ 20) (hz : Bz b 5) (i : Nat) : Bz (bfix f j b i) 13 := by
  rcases bfix_val hf (j := j) hb i with ⟨h, _⟩ | h
  · rw [h]; exact hz.mono (by omega)
  · rw [h]; exact (hz.add (int_bz (k := 7) (bitLen_le (by rw [Int.natAbs_natCast]; omega)) (by omega))).mono (by omega)
def gmK (kind : Int) : Nat := (1 + kind % 7).toNat
def gmN (n most : Int) : Nat := (1 + n % most).toNat
def gmR (k : Nat) (n : Int) : Nat := if k = 6 ∨ k = 7 then (1 + n.tdiv 8 % 2).toNat else 0
def mkG (k n r : Nat) (f : Nat → Rat) : GV :=
  ⟨k, n, r, f, fun j => bfix f j (f (cntA k n + j)) (cntA k n), fun t => f (cntA k n + cntB k n + t), fun t => f (cntA k n + cntB k n + cntH k n r + t)⟩
theorem cnt_le {k n r : Nat} (hn1 : 1 ≤ n) (hn : n ≤ 8) (hr : r ≤ 3) : cntA k n ≤ 15 ∧ cntB k n ≤ 8 ∧ cntH k n r ≤ 24 ∧ cntB k n ≤ n := by
  have hnr : n * r ≤ 24 := Nat.mul_le_mul hn hr
  unfold cntA cntB cntH
  refine ⟨?_, ?_, ?_, ?_⟩ <;> (repeat' split) <;> omega
end Go.Proofs.YtjfcphohgicolaaGreat

namespace Go.Proofs.YtjfcphohgicolaaGreat
open Go
set_option linter.unusedVariables false
set_option linter.unusedSimpArgs false
set_option maxRecDepth 10000
abbrev znil : PV := .raw (.slice none 0 0)
def zgen : List AV := [.p (.int .i64 0), .p (.int .i64 0), .p (.int .i64 0), .p znil, .p znil, .p znil, .p znil]
def gcells (k N r : Nat) : List AV := [.p (.int .i64 k), .p (.int .i64 N), .p (.int .i64 r), .vec 2 3 (0 + 0) (cntA k N - 0), .vec 2 3 (0 + cntA k N) (cntA k N + cntB k N - cntA k N),
  .vec 2 3 (0 + (cntA k N + cntB k N)) (cntA k N + cntB k N + cntH k N r - (cntA k N + cntB k N)), .vec 2 3 (0 + (cntA k N + cntB k N + cntH k N r)) (cntA k N + cntB k N + 2 * cntH k N r - (cntA k N + cntB k N + cntH k N r))]
theorem frzS {H : Hp} {h : Hd} {T : TypeId} {N off len l : Nat} {F g : Nat → Rat} (hB : look H h = .vec T 3 (rats (lst N F))) (hl : off + len ≤ N) (hlen : len = l) (hg : ∀ t, t < l → F (off + t) = g t) : Conv [] H (.vec h 3 off len) (.p (ratsM false (lst l g))) := by
  subst hlen
  refine .frz hB (by simp) (by simpa [lst] using hl) (pers_rats _) ?_
  apply List.ext_getElem
  · simp [lst]; omega
  · intro i h1 h2
    have hi : i < len := by simpa [lst] using h2
    simp [lst, rats, hg i hi]
theorem lmake5_ok (m : Bool) (kind n most : Int) (ns : List Int) (hkind : I64 kind) (hn : I64 n) (hns : I64s ns) (hm1 : 1 ≤ most) (hm8 : most ≤ 8) :
    CallP Tryz.prog 13 [.int .i64 kind, .int .i64 n, .sl m 1 (intsP ns), .int .i64 most] (.p (genP noF (mkG (gmK kind) (gmN n most) (gmR (gmK kind) n) (rowG ns)))) [] := by
  have hkz : ((gmK kind : Nat) : Int) = 1 + kind % 7 := by unfold gmK; omega
  have hmz := Int.emod_nonneg n (show most ≠ 0 by omega)
  have hmz2 := Int.emod_lt_of_pos n (show (0 : Int) < most by omega)
  have hnz : ((gmN n most : Nat) : Int) = 1 + n % most := by unfold gmN; omega
  obtain ⟨k, hk⟩ : ∃ k, k = gmK kind := ⟨_, rfl⟩
  obtain ⟨N, hN⟩ : ∃ N, N = gmN n most := ⟨_, rfl⟩
  obtain ⟨r, hr⟩ : ∃ r, r = gmR k n := ⟨_, rfl⟩
  rw [← hk] at hkz ⊢
  rw [← hN] at hnz ⊢
  rw [← hr]
  have k1 : 1 ≤ k := by omega
  have k7 : k ≤ 7 := by omega
  have n1 : 1 ≤ N := by omega
  have n8 : N ≤ 8 := by omega
  have hr3 : r ≤ 3 := by rw [hr]; unfold gmR; split <;> omega
  obtain ⟨ca, cb, ch, cbn⟩ := cnt_le (k := k) (r := r) n1 n8 hr3
  have hf : ∀ i, -20 ≤ rowG ns i ∧ rowG ns i ≤ 20 := fun i => smallQ_range _
  have hfb : ∀ i, Bz (rowG ns i) 5 := rowG_bz ns
  refine callG_of_vc (wr := wr0) Γok mixed Tryz.func13 (by kernel_rfl) rfl (by kernel_rfl) (le_of_ble rfl) (by simp) ?_
  refine SCall.pure (within5_ok kind 7 (by omega) (by omega)) ?_
  refine SWrap.i64z (k : Int) (by omega) (by omega) ?_
  refine SCall.pure (within5_ok n most (by omega) (by omega)) ?_
  refine SWrap.i64z (N : Int) (by omega) (by omega) ?_
  refine SCall.pure (rlike_ok k k1 k7) ?_
  by_cases hl : k = 6 ∨ k = 7
  · rw [decide_eq_true hl]
    refine SCond.mk (fun _ => ?_) (fun h => by cases h)
    have hq : -9223372036854775808 ≤ n.tdiv 8 ∧ n.tdiv 8 < 9223372036854775808 := by
      unfold I64 at hn
      rw [Int.tdiv_eq_ediv, show Int.sign 8 = 1 from rfl]; split <;> omega
    refine SNe.mk (by omega) ?_
    refine SWrap.i64z (n.tdiv 8) rfl hq ?_
    refine SCall.pure (within5_ok (n.tdiv 8) 2 (by omega) (by omega)) ?_
    have hrz : 1 + n.tdiv 8 % 2 = (r : Int) := by rw [hr]; unfold gmR; rw [if_pos hl]; omega
    refine SWrap.i64z (r : Int) hrz (by omega) ?_
    have hc := rcounts_ok k N r k1 k7 n1 n8 hr3 znil znil znil znil
    refine SCall.pureT (hc) (fun _ => rfl) ?_
    refine SWrap.i64z ((cntA k N + cntB k N : Nat) : Int) (by omega) (by omega) ?_
    refine SWrap.i64z ((2 * cntH k N r : Nat) : Int) (by omega) (by omega) ?_
    refine SWrap.i64z ((cntA k N + cntB k N + 2 * cntH k N r : Nat) : Int) (by omega) (by omega) ?_
    refine SCall.fresh (pvs := [.sl m 1 (intsP ns), .int .i64 ((cntA k N + cntB k N + 2 * cntH k N r : Nat) : Int)]) (row2v_ok m ns hns (cntA k N + cntB k N + 2 * cntH k N r) (by omega)) ?_
    refine SDraw.mkX (by kernel_rfl) ?_
    repeat refine SOp.mk _ _ (And.intro rfl rfl) rfl ?_
    refine SOp.mk _ _ (SZ.mk (cntA k N : Int) rfl <| SLt.mk (by simp) <| SCut.mk (0) (cntA k N) rfl rfl (by omega) (by omega) (And.intro rfl rfl)) rfl ?_
    repeat refine SOp.mk _ _ (And.intro rfl rfl) rfl ?_
    refine SOp.mk _ _ (SWrap.i64z ((cntA k N + cntB k N : Nat) : Int) (by omega) (by omega) (And.intro rfl rfl)) rfl ?_
    repeat refine SOp.mk _ _ (And.intro rfl rfl) rfl ?_
    refine SOp.mk _ _ (SWrap.i64z ((cntA k N + cntB k N : Nat) : Int) (by omega) (by omega) (And.intro rfl rfl)) rfl ?_
    refine SOp.mk _ _ (SZ.mk ((cntA k N + cntB k N : Nat) : Int) rfl <| SLt.mk (by simp) <| SCut.mk (cntA k N) (cntA k N + cntB k N) rfl rfl (by omega) (by omega) (And.intro rfl rfl)) rfl ?_
    repeat refine SOp.mk _ _ (And.intro rfl rfl) rfl ?_
    refine SOp.mk _ _ (SWrap.i64z ((cntA k N + cntB k N : Nat) : Int) (by omega) (by omega) (And.intro rfl rfl)) rfl ?_
    repeat refine SOp.mk _ _ (And.intro rfl rfl) rfl ?_
    refine SOp.mk _ _ (SWrap.i64z ((cntA k N + cntB k N : Nat) : Int) (by omega) (by omega) (And.intro rfl rfl)) rfl ?_
    repeat refine SOp.mk _ _ (And.intro rfl rfl) rfl ?_
    refine SOp.mk _ _ (SWrap.i64z ((cntA k N + cntB k N + cntH k N r : Nat) : Int) (by omega) (by omega) (And.intro rfl rfl)) rfl ?_
    repeat refine SOp.mk _ _ (And.intro rfl rfl) rfl ?_
    refine SOp.mk _ _ (SWrap.i64z ((cntA k N + cntB k N : Nat) : Int) (by omega) (by omega) (And.intro rfl rfl)) rfl ?_
    repeat refine SOp.mk _ _ (And.intro rfl rfl) rfl ?_
    refine SOp.mk _ _ (SWrap.i64z ((cntA k N + cntB k N + cntH k N r : Nat) : Int) (by omega) (by omega) (And.intro rfl rfl)) rfl ?_
    refine SOp.mk _ _ (SZ.mk ((cntA k N + cntB k N + cntH k N r : Nat) : Int) rfl <| SLt.mk (by simp) <| SCut.mk (cntA k N + cntB k N) (cntA k N + cntB k N + cntH k N r) rfl rfl (by omega) (by omega) (And.intro rfl rfl)) rfl ?_
    repeat refine SOp.mk _ _ (And.intro rfl rfl) rfl ?_
    refine SOp.mk _ _ (SWrap.i64z ((cntA k N + cntB k N : Nat) : Int) (by omega) (by omega) (And.intro rfl rfl)) rfl ?_
    repeat refine SOp.mk _ _ (And.intro rfl rfl) rfl ?_
    refine SOp.mk _ _ (SWrap.i64z ((cntA k N + cntB k N + cntH k N r : Nat) : Int) (by omega) (by omega) (And.intro rfl rfl)) rfl ?_
    refine SOp.mk _ _ (SCut.mk (cntA k N + cntB k N + cntH k N r) (cntA k N + cntB k N + 2 * cntH k N r) rfl rfl (by omega) (by omega) (And.intro rfl rfl)) rfl ?_
    repeat refine SOp.mk _ _ (And.intro rfl rfl) rfl ?_
    refine SFin.mk (by kernel_rfl) ?_
    refine SLoop.mk (Nat × (Nat → Rat)) (fun (j, F) => ([(8, .bptr 0 0), (9, .bptr 1 0), (10, .p (.int .i64 (cntA k N))), (11, .p (.int .i64 (cntB k N))), (14, .p (.int .i64 j))],
        [.box 26 zgen, .box 26 (gcells k N r), .vec 31 3 (rats (lst (cntA k N + cntB k N + 2 * cntH k N r) F))]))
      (fun (j, F) => j ≤ cntB k N ∧ ∀ t, t < cntA k N + cntB k N + 2 * cntH k N r → F t = if cntA k N ≤ t ∧ t < cntA k N + j then bfix (rowG ns) (t - cntA k N) (rowG ns t) (cntA k N) else rowG ns t) (fun x => cntB k N - x.1) (0, rowG ns) [0, 1, 2]
      ⟨Nat.zero_le _, fun t _ => by rw [if_neg (by omega)]⟩ ⟨rfl, by simp, rfl, rfl, rfl, ⟨rfl, rfl, rfl, rfl, rfl, trivial⟩, ⟨rfl, rfl, rfl, trivial⟩⟩ ?_
    intro ⟨j, F⟩ ⟨j1, j2⟩
    by_cases hj : j < cntB k N
    · refine SCmp.yes (decide_eq_true (by omega)) ?_
      refine SLoop.mk (Nat × (Nat → Rat)) (fun (i, F) => ([(8, .bptr 0 0), (9, .bptr 1 0), (10, .p (.int .i64 (cntA k N))), (11, .p (.int .i64 (cntB k N))), (14, .p (.int .i64 j)), (15, .p (.int .i64 i))],
          [.box 26 zgen, .box 26 (gcells k N r), .vec 31 3 (rats (lst (cntA k N + cntB k N + 2 * cntH k N r) F))]))
        (fun (i, F') => i ≤ cntA k N ∧ ∀ t, t < cntA k N + cntB k N + 2 * cntH k N r → F' t = if t = cntA k N + j then bfix (rowG ns) j (rowG ns (cntA k N + j)) i else F t) (fun x => cntA k N - x.1) (0, F) [0, 1, 2]
        ⟨Nat.zero_le _, fun t ht => by
          split
          · rename_i e; rw [j2 t ht, if_neg (by omega), e]; rfl
          · rfl⟩ ⟨rfl, by simp, rfl, rfl, rfl, ⟨rfl, rfl, rfl, rfl, rfl, rfl, trivial⟩, ⟨rfl, rfl, rfl, trivial⟩⟩ ?_
      intro ⟨i, F'⟩ ⟨i1, i2⟩
      by_cases hi : i < cntA k N
      · refine SCmp.yes (decide_eq_true (by omega)) ?_
        have eA : F' i = rowG ns i := by rw [i2 i (by omega), if_neg (by omega), j2 i (by omega), if_neg (by omega)]
        have eB : F' (cntA k N + j) = bfix (rowG ns) j (rowG ns (cntA k N + j)) i := by rw [i2 _ (by omega), if_pos rfl]
        have zA : Bz (rowG ns i) 13 := (hfb i).mono (by omega)
        have zB := bfix_bz hf (j := j) (by omega) (hf (cntA k N + j)) (hfb _) i
        refine SDraw.mk (by kernel_rfl) ?_
        repeat refine SOp.mk _ _ (And.intro rfl rfl) rfl ?_
        refine SOp.mk _ _ (SPos.mk i rfl (by omega) (And.intro rfl rfl)) rfl ?_
        refine SOp.mk _ _ (SIdx.rv (i + (0 + 0)) (rowG ns i) rfl (by omega) eA (And.intro rfl rfl)) rfl ?_
        repeat refine SOp.mk _ _ (And.intro rfl rfl) rfl ?_
        refine SOp.mk _ _ (SPos.mk j rfl (by omega) (And.intro rfl rfl)) rfl ?_
        refine SOp.mk _ _ (SIdx.rv (j + (0 + cntA k N)) (bfix (rowG ns) j (rowG ns (cntA k N + j)) i) rfl (by omega) (by rw [← eB]; congr 1; omega) (And.intro rfl rfl)) rfl ?_
        repeat refine SOp.mk _ _ (And.intro rfl rfl) rfl ?_
        refine SOp.mk _ _ (SCall.pure (rsame_ok _ _ zA zB (by omega)) (And.intro rfl rfl)) rfl ?_
        repeat refine SOp.mk _ _ (And.intro rfl rfl) rfl ?_
        by_cases heq : rowG ns i = bfix (rowG ns) j (rowG ns (cntA k N + j)) i
        · refine SCond.mk (fun _ => ?_) (fun hb => absurd heq (of_decide_eq_false hb))
          have zO : Bz (((100 + j : Nat) : Int) : Rat) 7 := int_bz (k := 7) (bitLen_le (by rw [Int.natAbs_natCast]; omega)) (by omega)
          refine SDraw.mkX (by kernel_rfl) ?_
          repeat refine SOp.mk _ _ (And.intro rfl rfl) rfl ?_
          refine SOp.mk _ _ (SPos.mk j rfl (by omega) (And.intro rfl rfl)) rfl ?_
          refine SOp.mk _ _ (SIdx.rv (j + (0 + cntA k N)) (bfix (rowG ns) j (rowG ns (cntA k N + j)) i) rfl (by omega) (by rw [← eB]; congr 1; omega) (And.intro rfl rfl)) rfl ?_
          repeat refine SOp.mk _ _ (And.intro rfl rfl) rfl ?_
          refine SOp.mk _ _ (SWrap.i64z ((100 + j : Nat) : Int) (by omega) (by omega) (And.intro rfl rfl)) rfl ?_
          refine SOp.mk _ _ (SCall.pure (rint_ok ((100 + j : Nat) : Int) (by omega)) (And.intro rfl rfl)) rfl ?_
          refine SOp.mk _ _ (SCall.pure (raddq_ok _ _ zB zO (by omega)) (And.intro rfl rfl)) rfl ?_
          refine SOp.mk _ _ (SPos.mk j rfl (by omega) (And.intro rfl rfl)) rfl ?_
          refine SOp.mk _ _ (SLt.rf (by omega) <| SEs.rf (And.intro rfl rfl)) rfl ?_
          refine SFin.mk (by kernel_rfl) ?_
          refine SWrap.i64z ((i + 1 : Nat) : Int) (by omega) (by omega) ?_
          refine ⟨(i + 1, _), [0, 1, 2], ⟨hi, fun t ht => ?_⟩, by show cntA k N - (i + 1) < cntA k N - i; omega, ⟨rfl, by simp, rfl, rfl, rfl, ⟨rfl, rfl, rfl, rfl, rfl, rfl, trivial⟩, ⟨rfl, rfl, rfl, trivial⟩⟩⟩
          by_cases e : t = cntA k N + j
          · have e' : t = j + (0 + cntA k N) := by omega
            rw [if_pos e, e', upd_same]; simp only [bfix]; rw [if_pos heq]
          · rw [if_neg e, upd_other _ _ (by omega), i2 t ht, if_neg e]
        · refine SCond.mk (fun hb => absurd (of_decide_eq_true hb) heq) (fun _ => ?_)
          refine SWrap.i64z ((i + 1 : Nat) : Int) (by omega) (by omega) ?_
          refine ⟨(i + 1, F'), [0, 1, 2], ⟨hi, fun t ht => ?_⟩, by show cntA k N - (i + 1) < cntA k N - i; omega, ⟨rfl, by simp, rfl, rfl, rfl, ⟨rfl, rfl, rfl, rfl, rfl, rfl, trivial⟩, ⟨rfl, rfl, rfl, trivial⟩⟩⟩
          rw [i2 t ht]
          by_cases e : t = cntA k N + j
          · rw [if_pos e, if_pos e]; simp only [bfix]; rw [if_neg heq]
          · rw [if_neg e, if_neg e]
      · refine SCmp.no (decide_eq_false (by omega)) ?_
        obtain rfl : i = cntA k N := by omega
        refine SWrap.i64z ((j + 1 : Nat) : Int) (by omega) (by omega) ?_
        refine ⟨(j + 1, F'), [0, 1, 2], ⟨hj, fun t ht => ?_⟩, by show cntB k N - (j + 1) < cntB k N - j; omega, ⟨rfl, by simp, rfl, rfl, rfl, ⟨rfl, rfl, rfl, rfl, rfl, trivial⟩, ⟨rfl, rfl, rfl, trivial⟩⟩⟩
        rw [i2 t ht]
        by_cases e : t = cntA k N + j
        · rw [if_pos e, if_pos (by omega), e, show cntA k N + j - cntA k N = j by omega]
        · rw [if_neg e, j2 t ht]
          by_cases e2 : cntA k N ≤ t ∧ t < cntA k N + j
          · rw [if_pos e2, if_pos (by omega)]
          · rw [if_neg e2, if_neg (by omega)]
    · refine SCmp.no (decide_eq_false (by omega)) ?_
      obtain rfl : j = cntB k N := by omega
      have hL : look [.box 26 zgen, .box 26 (gcells k N r), .vec 31 3 (rats (lst (cntA k N + cntB k N + 2 * cntH k N r) F))] (2 : Nat) = .vec 31 3 (rats (lst (cntA k N + cntB k N + 2 * cntH k N r) F)) := rfl
      refine SRet.pure (.aggp (ps := genC noF (mkG k N r (rowG ns))) (fun d hd => by simp at hd; rcases hd with rfl | rfl | rfl | rfl | rfl | rfl | rfl <;> rfl) rfl fun i c d e1 e2 => ?_)
      match i, e1, e2 with
      | 0, e1, e2 => cases e1; cases e2; exact .p _ (.int _ _)
      | 1, e1, e2 => cases e1; cases e2; exact .p _ (.int _ _)
      | 2, e1, e2 => cases e1; cases e2; exact .p _ (.int _ _)
      | 3, e1, e2 =>
        cases e1; cases e2
        exact frzS (N := cntA k N + cntB k N + 2 * cntH k N r) (F := F) rfl (by omega) (Nat.sub_zero _) fun t ht => by
          have ht : t < cntA k N := ht
          rw [j2 _ (by omega), if_neg (by omega)]; show rowG ns (0 + 0 + t) = rowG ns t; congr 1; omega
      | 4, e1, e2 =>
        cases e1; cases e2
        exact frzS (N := cntA k N + cntB k N + 2 * cntH k N r) (F := F) rfl (by omega) (by show _ = cntB k N; omega) fun t ht => by
          have ht : t < cntB k N := ht
          rw [j2 _ (by omega), if_pos (by omega)]
          show bfix _ (0 + cntA k N + t - cntA k N) _ _ = bfix _ t (rowG ns (cntA k N + t)) _
          rw [show 0 + cntA k N + t = cntA k N + t by omega, show cntA k N + t - cntA k N = t by omega]
      | 5, e1, e2 =>
        cases e1; cases e2
        exact frzS (N := cntA k N + cntB k N + 2 * cntH k N r) (F := F) rfl (by omega) (by show _ = cntH k N r; omega) fun t ht => by
          have ht : t < cntH k N r := ht
          rw [j2 _ (by omega), if_neg (by omega)]; show rowG ns _ = rowG ns (cntA k N + cntB k N + t); congr 1; omega
      | 6, e1, e2 =>
        cases e1; cases e2
        exact frzS (N := cntA k N + cntB k N + 2 * cntH k N r) (F := F) rfl (by omega) (by show _ = cntH k N r; omega) fun t ht => by
          have ht : t < cntH k N r := ht
          rw [j2 _ (by omega), if_neg (by omega)]; show rowG ns _ = rowG ns (cntA k N + cntB k N + cntH k N r + t); congr 1; omega
  · rw [decide_eq_false hl]
    refine SCond.mk (fun h => by cases h) (fun _ => ?_)
    have hr0 : r = 0 := by rw [hr]; unfold gmR; rw [if_neg hl]
    subst hr0
    have hc := rcounts_ok k N 0 k1 k7 n1 n8 hr3 znil znil znil znil
    refine SCall.pureT (hc) (fun _ => rfl) ?_
    refine SWrap.i64z ((cntA k N + cntB k N : Nat) : Int) (by omega) (by omega) ?_
    refine SWrap.i64z ((2 * cntH k N 0 : Nat) : Int) (by omega) (by omega) ?_
    refine SWrap.i64z ((cntA k N + cntB k N + 2 * cntH k N 0 : Nat) : Int) (by omega) (by omega) ?_
    refine SCall.fresh (pvs := [.sl m 1 (intsP ns), .int .i64 ((cntA k N + cntB k N + 2 * cntH k N 0 : Nat) : Int)]) (row2v_ok m ns hns (cntA k N + cntB k N + 2 * cntH k N 0) (by omega)) ?_
    refine SDraw.mkX (by kernel_rfl) ?_
    repeat refine SOp.mk _ _ (And.intro rfl rfl) rfl ?_
    refine SOp.mk _ _ (SZ.mk (cntA k N : Int) rfl <| SLt.mk (by simp) <| SCut.mk (0) (cntA k N) rfl rfl (by omega) (by omega) (And.intro rfl rfl)) rfl ?_
    repeat refine SOp.mk _ _ (And.intro rfl rfl) rfl ?_
    refine SOp.mk _ _ (SWrap.i64z ((cntA k N + cntB k N : Nat) : Int) (by omega) (by omega) (And.intro rfl rfl)) rfl ?_
    repeat refine SOp.mk _ _ (And.intro rfl rfl) rfl ?_
    refine SOp.mk _ _ (SWrap.i64z ((cntA k N + cntB k N : Nat) : Int) (by omega) (by omega) (And.intro rfl rfl)) rfl ?_
    refine SOp.mk _ _ (SZ.mk ((cntA k N + cntB k N : Nat) : Int) rfl <| SLt.mk (by simp) <| SCut.mk (cntA k N) (cntA k N + cntB k N) rfl rfl (by omega) (by omega) (And.intro rfl rfl)) rfl ?_
    repeat refine SOp.mk _ _ (And.intro rfl rfl) rfl ?_
    refine SOp.mk _ _ (SWrap.i64z ((cntA k N + cntB k N : Nat) : Int) (by omega) (by omega) (And.intro rfl rfl)) rfl ?_
    repeat refine SOp.mk _ _ (And.intro rfl rfl) rfl ?_
    refine SOp.mk _ _ (SWrap.i64z ((cntA k N + cntB k N : Nat) : Int) (by omega) (by omega) (And.intro rfl rfl)) rfl ?_
    repeat refine SOp.mk _ _ (And.intro rfl rfl) rfl ?_
    refine SOp.mk _ _ (SWrap.i64z ((cntA k N + cntB k N + cntH k N 0 : Nat) : Int) (by omega) (by omega) (And.intro rfl rfl)) rfl ?_
    repeat refine SOp.mk _ _ (And.intro rfl rfl) rfl ?_
    refine SOp.mk _ _ (SWrap.i64z ((cntA k N + cntB k N : Nat) : Int) (by omega) (by omega) (And.intro rfl rfl)) rfl ?_
    repeat refine SOp.mk _ _ (And.intro rfl rfl) rfl ?_
    refine SOp.mk _ _ (SWrap.i64z ((cntA k N + cntB k N + cntH k N 0 : Nat) : Int) (by omega) (by omega) (And.intro rfl rfl)) rfl ?_
    refine SOp.mk _ _ (SZ.mk ((cntA k N + cntB k N + cntH k N 0 : Nat) : Int) rfl <| SLt.mk (by simp) <| SCut.mk (cntA k N + cntB k N) (cntA k N + cntB k N + cntH k N 0) rfl rfl (by omega) (by omega) (And.intro rfl rfl)) rfl ?_
    repeat refine SOp.mk _ _ (And.intro rfl rfl) rfl ?_
    refine SOp.mk _ _ (SWrap.i64z ((cntA k N + cntB k N : Nat) : Int) (by omega) (by omega) (And.intro rfl rfl)) rfl ?_
    repeat refine SOp.mk _ _ (And.intro rfl rfl) rfl ?_
    refine SOp.mk _ _ (SWrap.i64z ((cntA k N + cntB k N + cntH k N 0 : Nat) : Int) (by omega) (by omega) (And.intro rfl rfl)) rfl ?_
    refine SOp.mk _ _ (SCut.mk (cntA k N + cntB k N + cntH k N 0) (cntA k N + cntB k N + 2 * cntH k N 0) rfl rfl (by omega) (by omega) (And.intro rfl rfl)) rfl ?_
    repeat refine SOp.mk _ _ (And.intro rfl rfl) rfl ?_
    refine SFin.mk (by kernel_rfl) ?_
    refine SLoop.mk (Nat × (Nat → Rat)) (fun (j, F) => ([(8, .bptr 0 0), (9, .bptr 1 0), (10, .p (.int .i64 (cntA k N))), (11, .p (.int .i64 (cntB k N))), (14, .p (.int .i64 j))],
        [.box 26 zgen, .box 26 (gcells k N 0), .vec 31 3 (rats (lst (cntA k N + cntB k N + 2 * cntH k N 0) F))]))
      (fun (j, F) => j ≤ cntB k N ∧ ∀ t, t < cntA k N + cntB k N + 2 * cntH k N 0 → F t = if cntA k N ≤ t ∧ t < cntA k N + j then bfix (rowG ns) (t - cntA k N) (rowG ns t) (cntA k N) else rowG ns t) (fun x => cntB k N - x.1) (0, rowG ns) [0, 1, 2]
      ⟨Nat.zero_le _, fun t _ => by rw [if_neg (by omega)]⟩ ⟨rfl, by simp, rfl, rfl, rfl, ⟨rfl, rfl, rfl, rfl, rfl, trivial⟩, ⟨rfl, rfl, rfl, trivial⟩⟩ ?_
    intro ⟨j, F⟩ ⟨j1, j2⟩
    by_cases hj : j < cntB k N
    · refine SCmp.yes (decide_eq_true (by omega)) ?_
      refine SLoop.mk (Nat × (Nat → Rat)) (fun (i, F) => ([(8, .bptr 0 0), (9, .bptr 1 0), (10, .p (.int .i64 (cntA k N))), (11, .p (.int .i64 (cntB k N))), (14, .p (.int .i64 j)), (15, .p (.int .i64 i))],
          [.box 26 zgen, .box 26 (gcells k N 0), .vec 31 3 (rats (lst (cntA k N + cntB k N + 2 * cntH k N 0) F))]))
        (fun (i, F') => i ≤ cntA k N ∧ ∀ t, t < cntA k N + cntB k N + 2 * cntH k N 0 → F' t = if t = cntA k N + j then bfix (rowG ns) j (rowG ns (cntA k N + j)) i else F t) (fun x => cntA k N - x.1) (0, F) [0, 1, 2]
        ⟨Nat.zero_le _, fun t ht => by
          split
          · rename_i e; rw [j2 t ht, if_neg (by omega), e]; rfl
          · rfl⟩ ⟨rfl, by simp, rfl, rfl, rfl, ⟨rfl, rfl, rfl, rfl, rfl, rfl, trivial⟩, ⟨rfl, rfl, rfl, trivial⟩⟩ ?_
      intro ⟨i, F'⟩ ⟨i1, i2⟩
      by_cases hi : i < cntA k N
      · refine SCmp.yes (decide_eq_true (by omega)) ?_
        have eA : F' i = rowG ns i := by rw [i2 i (by omega), if_neg (by omega), j2 i (by omega), if_neg (by omega)]
        have eB : F' (cntA k N + j) = bfix (rowG ns) j (rowG ns (cntA k N + j)) i := by rw [i2 _ (by omega), if_pos rfl]
        have zA : Bz (rowG ns i) 13 := (hfb i).mono (by omega)
        have zB := bfix_bz hf (j := j) (by omega) (hf (cntA k N + j)) (hfb _) i
        refine SDraw.mk (by kernel_rfl) ?_
        repeat refine SOp.mk _ _ (And.intro rfl rfl) rfl ?_
        refine SOp.mk _ _ (SPos.mk i rfl (by omega) (And.intro rfl rfl)) rfl ?_
        refine SOp.mk _ _ (SIdx.rv (i + (0 + 0)) (rowG ns i) rfl (by omega) eA (And.intro rfl rfl)) rfl ?_
        repeat refine SOp.mk _ _ (And.intro rfl rfl) rfl ?_
        refine SOp.mk _ _ (SPos.mk j rfl (by omega) (And.intro rfl rfl)) rfl ?_
        refine SOp.mk _ _ (SIdx.rv (j + (0 + cntA k N)) (bfix (rowG ns) j (rowG ns (cntA k N + j)) i) rfl (by omega) (by rw [← eB]; congr 1; omega) (And.intro rfl rfl)) rfl ?_
        repeat refine SOp.mk _ _ (And.intro rfl rfl) rfl ?_
        refine SOp.mk _ _ (SCall.pure (rsame_ok _ _ zA zB (by omega)) (And.intro rfl rfl)) rfl ?_
        repeat refine SOp.mk _ _ (And.intro rfl rfl) rfl ?_
        by_cases heq : rowG ns i = bfix (rowG ns) j (rowG ns (cntA k N + j)) i
        · refine SCond.mk (fun _ => ?_) (fun hb => absurd heq (of_decide_eq_false hb))
          have zO : Bz (((100 + j : Nat) : Int) : Rat) 7 := int_bz (k := 7) (bitLen_le (by rw [Int.natAbs_natCast]; omega)) (by omega)
          refine SDraw.mkX (by kernel_rfl) ?_
          repeat refine SOp.mk _ _ (And.intro rfl rfl) rfl ?_
          refine SOp.mk _ _ (SPos.mk j rfl (by omega) (And.intro rfl rfl)) rfl ?_
          refine SOp.mk _ _ (SIdx.rv (j + (0 + cntA k N)) (bfix (rowG ns) j (rowG ns (cntA k N + j)) i) rfl (by omega) (by rw [← eB]; congr 1; omega) (And.intro rfl rfl)) rfl ?_
          repeat refine SOp.mk _ _ (And.intro rfl rfl) rfl ?_
          refine SOp.mk _ _ (SWrap.i64z ((100 + j : Nat) : Int) (by omega) (by omega) (And.intro rfl rfl)) rfl ?_
          refine SOp.mk _ _ (SCall.pure (rint_ok ((100 + j : Nat) : Int) (by omega)) (And.intro rfl rfl)) rfl ?_
          refine SOp.mk _ _ (SCall.pure (raddq_ok _ _ zB zO (by omega)) (And.intro rfl rfl)) rfl ?_
          refine SOp.mk _ _ (SPos.mk j rfl (by omega) (And.intro rfl rfl)) rfl ?_
          refine SOp.mk _ _ (SLt.rf (by omega) <| SEs.rf (And.intro rfl rfl)) rfl ?_
          refine SFin.mk (by kernel_rfl) ?_
          refine SWrap.i64z ((i + 1 : Nat) : Int) (by omega) (by omega) ?_
          refine ⟨(i + 1, _), [0, 1, 2], ⟨hi, fun t ht => ?_⟩, by show cntA k N - (i + 1) < cntA k N - i; omega, ⟨rfl, by simp, rfl, rfl, rfl, ⟨rfl, rfl, rfl, rfl, rfl, rfl, trivial⟩, ⟨rfl, rfl, rfl, trivial⟩⟩⟩
          by_cases e : t = cntA k N + j
          · have e' : t = j + (0 + cntA k N) := by omega
            rw [if_pos e, e', upd_same]; simp only [bfix]; rw [if_pos heq]
          · rw [if_neg e, upd_other _ _ (by omega), i2 t ht, if_neg e]
        · refine SCond.mk (fun hb => absurd (of_decide_eq_true hb) heq) (fun _ => ?_)
          refine SWrap.i64z ((i + 1 : Nat) : Int) (by omega) (by omega) ?_
          refine ⟨(i + 1, F'), [0, 1, 2], ⟨hi, fun t ht => ?_⟩, by show cntA k N - (i + 1) < cntA k N - i; omega, ⟨rfl, by simp, rfl, rfl, rfl, ⟨rfl, rfl, rfl, rfl, rfl, rfl, trivial⟩, ⟨rfl, rfl, rfl, trivial⟩⟩⟩
          rw [i2 t ht]
          by_cases e : t = cntA k N + j
          · rw [if_pos e, if_pos e]; simp only [bfix]; rw [if_neg heq]
          · rw [if_neg e, if_neg e]
      · refine SCmp.no (decide_eq_false (by omega)) ?_
        obtain rfl : i = cntA k N := by omega
        refine SWrap.i64z ((j + 1 : Nat) : Int) (by omega) (by omega) ?_
        refine ⟨(j + 1, F'), [0, 1, 2], ⟨hj, fun t ht => ?_⟩, by show cntB k N - (j + 1) < cntB k N - j; omega, ⟨rfl, by simp, rfl, rfl, rfl, ⟨rfl, rfl, rfl, rfl, rfl, trivial⟩, ⟨rfl, rfl, rfl, trivial⟩⟩⟩
        rw [i2 t ht]
        by_cases e : t = cntA k N + j
        · rw [if_pos e, if_pos (by omega), e, show cntA k N + j - cntA k N = j by omega]
        · rw [if_neg e, j2 t ht]
          by_cases e2 : cntA k N ≤ t ∧ t < cntA k N + j
          · rw [if_pos e2, if_pos (by omega)]
          · rw [if_neg e2, if_neg (by omega)]
    · refine SCmp.no (decide_eq_false (by omega)) ?_
      obtain rfl : j = cntB k N := by omega
      have hL : look [.box 26 zgen, .box 26 (gcells k N 0), .vec 31 3 (rats (lst (cntA k N + cntB k N + 2 * cntH k N 0) F))] (2 : Nat) = .vec 31 3 (rats (lst (cntA k N + cntB k N + 2 * cntH k N 0) F)) := rfl
      refine SRet.pure (.aggp (ps := genC noF (mkG k N 0 (rowG ns))) (fun d hd => by simp at hd; rcases hd with rfl | rfl | rfl | rfl | rfl | rfl | rfl <;> rfl) rfl fun i c d e1 e2 => ?_)
      match i, e1, e2 with
      | 0, e1, e2 => cases e1; cases e2; exact .p _ (.int _ _)
      | 1, e1, e2 => cases e1; cases e2; exact .p _ (.int _ _)
      | 2, e1, e2 => cases e1; cases e2; exact .p _ (.int _ _)
      | 3, e1, e2 =>
        cases e1; cases e2
        exact frzS (N := cntA k N + cntB k N + 2 * cntH k N 0) (F := F) rfl (by omega) (Nat.sub_zero _) fun t ht => by
          have ht : t < cntA k N := ht
          rw [j2 _ (by omega), if_neg (by omega)]; show rowG ns (0 + 0 + t) = rowG ns t; congr 1; omega
      | 4, e1, e2 =>
        cases e1; cases e2
        exact frzS (N := cntA k N + cntB k N + 2 * cntH k N 0) (F := F) rfl (by omega) (by show _ = cntB k N; omega) fun t ht => by
          have ht : t < cntB k N := ht
          rw [j2 _ (by omega), if_pos (by omega)]
          show bfix _ (0 + cntA k N + t - cntA k N) _ _ = bfix _ t (rowG ns (cntA k N + t)) _
          rw [show 0 + cntA k N + t = cntA k N + t by omega, show cntA k N + t - cntA k N = t by omega]
      | 5, e1, e2 =>
        cases e1; cases e2
        exact frzS (N := cntA k N + cntB k N + 2 * cntH k N 0) (F := F) rfl (by omega) (by show _ = cntH k N 0; omega) fun t ht => by
          have ht : t < cntH k N 0 := ht
          rw [j2 _ (by omega), if_neg (by omega)]; show rowG ns _ = rowG ns (cntA k N + cntB k N + t); congr 1; omega
      | 6, e1, e2 =>
        cases e1; cases e2
        exact frzS (N := cntA k N + cntB k N + 2 * cntH k N 0) (F := F) rfl (by omega) (by show _ = cntH k N 0; omega) fun t ht => by
          have ht : t < cntH k N 0 := ht
          rw [j2 _ (by omega), if_neg (by omega)]; show rowG ns _ = rowG ns (cntA k N + cntB k N + cntH k N 0 + t); congr 1; omega
end Go.Proofs.YtjfcphohgicolaaGreat

namespace Go.Proofs.YtjfcphohgicolaaGreat
open Go
set_option linter.unusedVariables false
set_option linter.unusedSimpArgs false
set_option maxRecDepth 10000
/-- Are two nodes made the same? -/
def twin13 (N : Nat) (ns : List Int) : Prop := 1 < ns.length ∧ ns.getD 1 0 % 4 = 0 ∧ 1 < N
instance (N : Nat) (ns : List Int) : Decidable (twin13 N ns) := inferInstanceAs (Decidable (_ ∧ _ ∧ _))
def g13 (g : GV) (ns : List Int) : GV := if twin13 g.n ns then { g with A := upd g.A (g.n - 1) (g.A 0) } else g
theorem rcopyq_ok {q : Rat} {k : Nat} (h : Bz q k) (hk : k ≤ 1099511627776) : CallP Tryz.prog 38 [ratP q] (.p (ratP q)) [] := rcopy_ok q h hk
theorem lmake13_ok (m : Bool) (n most : Int) (ns : List Int) (like : Bool) (hn : I64 n) (hns : I64s ns) (hm1 : 1 ≤ most) (hm8 : most ≤ 8) :
    CallP Tryz.prog 10 [.int .i64 n, .sl m 1 (intsP ns), .bool like, .int .i64 most] (.p (genP noF (g13 (mkG (if like then 7 else 5) (gmN n most) (gmR (if like then 7 else 5) n) (rowG ns)) ns))) [] := by
  cases like with
  | true =>
    obtain ⟨g, hg⟩ : ∃ g, g = mkG 7 (gmN n most) (gmR 7 n) (rowG ns) := ⟨_, rfl⟩
    have hm := lmake5_ok m 6 n most ns (by unfold I64; omega) hn hns hm1 hm8
    have e13 : gmK 6 = 7 := by decide
    rw [e13, ← hg] at hm
    have gn : g.n = gmN n most := by rw [hg]; rfl
    have gk : g.k = 7 := by rw [hg]; rfl
    have gA : g.A = rowG ns := by rw [hg]; rfl
    have hmz := Int.emod_nonneg n (show most ≠ 0 by omega)
    have hmz2 := Int.emod_lt_of_pos n (show (0 : Int) < most by omega)
    have hnz : ((gmN n most : Nat) : Int) = 1 + n % most := by unfold gmN; omega
    rw [← gn] at hnz
    have n1 : 1 ≤ g.n := by omega
    have n8 : g.n ≤ 8 := by omega
    have hla : g.la = g.n := by unfold GV.la cntA; rw [gk]; rfl
    have bA : ∀ i, Bz (g.A i) 5 := by rw [gA]; exact rowG_bz ns
    show CallP _ _ _ (.p (genP noF (g13 (mkG 7 (gmN n most) (gmR 7 n) (rowG ns)) ns))) []
    rw [← hg]
    have conv : CallP Tryz.prog 10 [.int .i64 n, .sl m 1 (intsP ns), .bool true, .int .i64 most] (.p (genP noF (g13 g ns))) [] := by
      refine callG_of_vc (wr := wr0) Γok mixed Tryz.func10 (by kernel_rfl) rfl (by kernel_rfl) (le_of_ble rfl) (by simp) ?_
      refine SCond.mk (fun _ => ?_) (fun h => by cases h)
      refine SCall.pure (hm) ?_
      refine SZ.mk (ns.length : Int) (by simp) ?_
      have fin0 : ¬ twin13 g.n ns → g13 g ns = g := fun h => if_neg h
      by_cases c1 : 1 < ns.length
      · refine SCmp.yes (decide_eq_true (by omega)) ?_
        refine SIdx.ib 1 rfl c1 ?_
        refine SCall.pure (within13_ok (ns.getD 1 0) 4 (by omega) (by omega)) ?_
        by_cases c2 : ns.getD 1 0 % 4 = 0
        · refine SCmp.yes (decide_eq_true c2) ?_
          by_cases c3 : 1 < g.n
          · refine SCmp.yes (decide_eq_true (by omega)) ?_
            have ht : g13 g ns = { g with A := upd g.A (g.n - 1) (g.A 0) } := if_pos ⟨c1, c2, c3⟩
            rw [ht]
            have hlen : (rats (lst g.la g.A)).length = g.la := by simp [lst]
            refine SRoom.mk (by simp [lst]; omega) (by simp [lst]; omega) ?_
            refine SDraw.mkX (by kernel_rfl) ?_
            repeat refine SOp.mk _ _ (And.intro rfl rfl) rfl ?_
            refine SOp.mk _ _ (SWrap.i64z ((g.n - 1 : Nat) : Int) (by omega) (by omega) (And.intro rfl rfl)) rfl ?_
            repeat refine SOp.mk _ _ (And.intro rfl rfl) rfl ?_
            refine SOp.mk _ _ (SPos.mk 0 rfl (by omega) (And.intro rfl rfl)) rfl ?_
            refine SOp.mk _ _ (SIdx.rv (0 + 0) (g.A 0) rfl (by omega) rfl (And.intro rfl rfl)) rfl ?_
            refine SOp.mk _ _ (SCall.pure (rcopyq_ok (bA 0) (by omega)) (And.intro rfl rfl)) rfl ?_
            refine SOp.mk _ _ (SPos.mk (g.n - 1) rfl (by omega) (And.intro rfl rfl)) rfl ?_
            refine SOp.mk _ _ (SLt.rf (by omega) <| SEs.rf (And.intro rfl rfl)) rfl ?_
            repeat refine SOp.mk _ _ (And.intro rfl rfl) rfl ?_
            refine SFin.mk (by kernel_rfl) ?_
            refine SRet.pure (.aggp (ps := genC noF { g with A := upd g.A (g.n - 1) (g.A 0) }) (fun d hd => by simp at hd; rcases hd with rfl | rfl | rfl | rfl | rfl | rfl | rfl <;> rfl) rfl fun i c d e1 e2 => ?_)
            match i, e1, e2 with
            | 0, e1, e2 => cases e1; cases e2; exact .p _ (.int _ _)
            | 1, e1, e2 => cases e1; cases e2; exact .p _ (.int _ _)
            | 2, e1, e2 => cases e1; cases e2; exact .p _ (.int _ _)
            | 3, e1, e2 => cases e1; cases e2; exact frzS (N := g.la) (F := upd g.A (g.n - 1 + 0) (g.A 0)) rfl (by omega) hlen fun t _ => by rw [Nat.zero_add]; rfl
            | 4, e1, e2 => cases e1; cases e2; exact .p _ (.sl _ _ (pers_rats _))
            | 5, e1, e2 => cases e1; cases e2; exact .p _ (.sl _ _ (pers_rats _))
            | 6, e1, e2 => cases e1; cases e2; exact .p _ (.sl _ _ (pers_rats _))
          · refine SCmp.no (decide_eq_false (by omega)) ?_
            rw [fin0 fun h => c3 h.2.2]
            exact SRet.pure (.p _ (pers_gen g))
        · refine SCmp.no (decide_eq_false c2) ?_
          rw [fin0 fun h => c2 h.2.1]
          exact SRet.pure (.p _ (pers_gen g))
      · refine SCmp.no (decide_eq_false (by omega)) ?_
        rw [fin0 fun h => c1 h.1]
        exact SRet.pure (.p _ (pers_gen g))
    exact conv
  | false =>
    obtain ⟨g, hg⟩ : ∃ g, g = mkG 5 (gmN n most) (gmR 5 n) (rowG ns) := ⟨_, rfl⟩
    have hm := lmake5_ok m 4 n most ns (by unfold I64; omega) hn hns hm1 hm8
    have e13 : gmK 4 = 5 := by decide
    rw [e13, ← hg] at hm
    have gn : g.n = gmN n most := by rw [hg]; rfl
    have gk : g.k = 5 := by rw [hg]; rfl
    have gA : g.A = rowG ns := by rw [hg]; rfl
    have hmz := Int.emod_nonneg n (show most ≠ 0 by omega)
    have hmz2 := Int.emod_lt_of_pos n (show (0 : Int) < most by omega)
    have hnz : ((gmN n most : Nat) : Int) = 1 + n % most := by unfold gmN; omega
    rw [← gn] at hnz
    have n1 : 1 ≤ g.n := by omega
    have n8 : g.n ≤ 8 := by omega
    have hla : g.la = g.n := by unfold GV.la cntA; rw [gk]; rfl
    have bA : ∀ i, Bz (g.A i) 5 := by rw [gA]; exact rowG_bz ns
    show CallP _ _ _ (.p (genP noF (g13 (mkG 5 (gmN n most) (gmR 5 n) (rowG ns)) ns))) []
    rw [← hg]
    have conv : CallP Tryz.prog 10 [.int .i64 n, .sl m 1 (intsP ns), .bool false, .int .i64 most] (.p (genP noF (g13 g ns))) [] := by
      refine callG_of_vc (wr := wr0) Γok mixed Tryz.func10 (by kernel_rfl) rfl (by kernel_rfl) (le_of_ble rfl) (by simp) ?_
      refine SCond.mk (fun h => by cases h) (fun _ => ?_)
      refine SCall.pure (hm) ?_
      refine SZ.mk (ns.length : Int) (by simp) ?_
      have fin0 : ¬ twin13 g.n ns → g13 g ns = g := fun h => if_neg h
      by_cases c1 : 1 < ns.length
      · refine SCmp.yes (decide_eq_true (by omega)) ?_
        refine SIdx.ib 1 rfl c1 ?_
        refine SCall.pure (within13_ok (ns.getD 1 0) 4 (by omega) (by omega)) ?_
        by_cases c2 : ns.getD 1 0 % 4 = 0
        · refine SCmp.yes (decide_eq_true c2) ?_
          by_cases c3 : 1 < g.n
          · refine SCmp.yes (decide_eq_true (by omega)) ?_
            have ht : g13 g ns = { g with A := upd g.A (g.n - 1) (g.A 0) } := if_pos ⟨c1, c2, c3⟩
            rw [ht]
            have hlen : (rats (lst g.la g.A)).length = g.la := by simp [lst]
            refine SRoom.mk (by simp [lst]; omega) (by simp [lst]; omega) ?_
            refine SDraw.mkX (by kernel_rfl) ?_
            repeat refine SOp.mk _ _ (And.intro rfl rfl) rfl ?_
            refine SOp.mk _ _ (SWrap.i64z ((g.n - 1 : Nat) : Int) (by omega) (by omega) (And.intro rfl rfl)) rfl ?_
            repeat refine SOp.mk _ _ (And.intro rfl rfl) rfl ?_
            refine SOp.mk _ _ (SPos.mk 0 rfl (by omega) (And.intro rfl rfl)) rfl ?_
            refine SOp.mk _ _ (SIdx.rv (0 + 0) (g.A 0) rfl (by omega) rfl (And.intro rfl rfl)) rfl ?_
            refine SOp.mk _ _ (SCall.pure (rcopyq_ok (bA 0) (by omega)) (And.intro rfl rfl)) rfl ?_
            refine SOp.mk _ _ (SPos.mk (g.n - 1) rfl (by omega) (And.intro rfl rfl)) rfl ?_
            refine SOp.mk _ _ (SLt.rf (by omega) <| SEs.rf (And.intro rfl rfl)) rfl ?_
            repeat refine SOp.mk _ _ (And.intro rfl rfl) rfl ?_
            refine SFin.mk (by kernel_rfl) ?_
            refine SRet.pure (.aggp (ps := genC noF { g with A := upd g.A (g.n - 1) (g.A 0) }) (fun d hd => by simp at hd; rcases hd with rfl | rfl | rfl | rfl | rfl | rfl | rfl <;> rfl) rfl fun i c d e1 e2 => ?_)
            match i, e1, e2 with
            | 0, e1, e2 => cases e1; cases e2; exact .p _ (.int _ _)
            | 1, e1, e2 => cases e1; cases e2; exact .p _ (.int _ _)
            | 2, e1, e2 => cases e1; cases e2; exact .p _ (.int _ _)
            | 3, e1, e2 => cases e1; cases e2; exact frzS (N := g.la) (F := upd g.A (g.n - 1 + 0) (g.A 0)) rfl (by omega) hlen fun t _ => by rw [Nat.zero_add]; rfl
            | 4, e1, e2 => cases e1; cases e2; exact .p _ (.sl _ _ (pers_rats _))
            | 5, e1, e2 => cases e1; cases e2; exact .p _ (.sl _ _ (pers_rats _))
            | 6, e1, e2 => cases e1; cases e2; exact .p _ (.sl _ _ (pers_rats _))
          · refine SCmp.no (decide_eq_false (by omega)) ?_
            rw [fin0 fun h => c3 h.2.2]
            exact SRet.pure (.p _ (pers_gen g))
        · refine SCmp.no (decide_eq_false c2) ?_
          rw [fin0 fun h => c2 h.2.1]
          exact SRet.pure (.p _ (pers_gen g))
      · refine SCmp.no (decide_eq_false (by omega)) ?_
        rw [fin0 fun h => c1 h.1]
        exact SRet.pure (.p _ (pers_gen g))
    exact conv
end Go.Proofs.YtjfcphohgicolaaGreat

namespace Go.Proofs.YtjfcphohgicolaaGreat
open Go
set_option linter.unusedVariables false
set_option linter.unusedSimpArgs false
set_option maxRecDepth 10000
theorem bz_pow {q : Rat} {b : Nat} (h : Bz q b) : ∀ k, Bz (q ^ k) (b * k + 1)
  | 0 => by rw [Rat.pow_zero, Nat.mul_zero]; exact bz_one
  | k + 1 => by
    have := (bz_pow h k).mul h
    rw [Rat.pow_succ]
    exact this.mono (by rw [Nat.mul_succ]; omega)
end Go.Proofs.YtjfcphohgicolaaGreat

namespace Go.Proofs.YtjfcphohgicolaaGreat
open Go
set_option linter.unusedVariables false
set_option linter.unusedSimpArgs false
set_option maxRecDepth 10000
def rowS (g : GV) (i j : Nat) : Rat := sm g.r fun t => g.G (i * g.r + t) * g.H (j * g.r + t)
def ent (g : GV) (i j : Nat) : Rat :=
  if g.k = 1 then g.A (i + g.n - 1 - j) else if g.k = 2 then g.A (i + j) else if g.k = 3 then g.A ((i + g.n - j) % g.n) else if g.k = 4 then g.A i ^ j
  else if g.k = 5 then 1 / (g.A i - g.B j) else if g.k = 6 then sm (min i j + 1) fun m => rowS g (i - m) (j - m) else rowS g i j / (g.A i - g.B j)
/-- A Gen that may be, of numbers of so many digits. -/
structure Wf (g : GV) (b c : Nat) : Prop where
  k1 : 1 ≤ g.k
  k7 : g.k ≤ 7
  n1 : 1 ≤ g.n
  n6 : g.n ≤ 6
  r2 : g.r ≤ 2
  r1 : g.k = 6 ∨ g.k = 7 → 1 ≤ g.r
  r0 : g.k ≤ 5 → g.r = 0
  bA : ∀ i, i < g.la → Bz (g.A i) b
  bB : ∀ i, i < g.lb → Bz (g.B i) c
  bG : ∀ i, i < g.lh → Bz (g.G i) b
  bH : ∀ i, i < g.lh → Bz (g.H i) b
  ne : ∀ i j, i < g.la → j < g.lb → g.A i ≠ g.B j
  bc : b ≤ c
  c4 : c ≤ 100
abbrev genA (m : Nat → Bool) (g : GV) : List AV := [.p (.int .i64 g.k), .p (.int .i64 g.n), .p (.int .i64 g.r), .p (ratsM (m 0) (lst g.la g.A)), .p (ratsM (m 1) (lst g.lb g.B)), .p (ratsM (m 2) (lst g.lh g.G)), .p (ratsM (m 3) (lst g.lh g.H))]
theorem row_lt {i n r t : Nat} (hi : i < n) (ht : t < r) : i * r + t < n * r := by
  have : (i + 1) * r ≤ n * r := Nat.mul_le_mul_right _ hi
  rw [Nat.succ_mul] at this; omega
theorem sm_bz' {F : Nat → Rat} {B n : Nat} (h : ∀ i, i < n → Bz (F i) B) : ∀ k, k ≤ n → Bz (sm k F) (k * (B + 1) + 1) := by
  intro k
  induction k with
  | zero => exact fun _ => bz_zero.mono (by omega)
  | succ k ih =>
    intro hk
    exact ((ih (by omega)).add (h k (by omega))).mono (by rw [Nat.succ_mul]; omega)
theorem Wf.lh {g : GV} {b c : Nat} (h : Wf g b c) (hk : g.k = 6 ∨ g.k = 7) : g.lh = g.n * g.r := if_pos hk
theorem Wf.prod {g : GV} {b c : Nat} (h : Wf g b c) (hk : g.k = 6 ∨ g.k = 7) {i j : Nat} (hi : i < g.n) (hj : j < g.n) : ∀ t, t < g.r → Bz (g.G (i * g.r + t) * g.H (j * g.r + t)) (2 * b) := fun t ht =>
  ((h.bG _ (by rw [h.lh hk]; exact row_lt hi ht)).mul (h.bH _ (by rw [h.lh hk]; exact row_lt hj ht))).mono (by omega)
theorem Wf.bRow {g : GV} {b c : Nat} (h : Wf g b c) (hk : g.k = 6 ∨ g.k = 7) {i j : Nat} (hi : i < g.n) (hj : j < g.n) : Bz (rowS g i j) (2 * (2 * b + 1) + 1) :=
  (sm_bz' (h.prod hk hi hj) g.r (Nat.le_refl _)).mono (Nat.add_le_add_right (Nat.mul_le_mul_right _ h.r2) 1)
abbrev zratA : List AV := [.p (.bool false), .p (.sl false 1 []), .p (.sl false 1 [])]
theorem rrow5_ok (m : Nat → Bool) (g : GV) {b c : Nat} (h : Wf g b c) (hk : g.k = 6 ∨ g.k = 7) (i j : Nat) (hi : i < g.n) (hj : j < g.n) :
    CallP Tryz.prog 86 [genP m g, .int .i64 i, .int .i64 j] (.p (ratP (rowS g i j))) [] := by
  have h8 := h.n6
  have h2 := h.r2
  have h4 := h.c4
  have h5 := h.bc
  have hlh := h.lh hk
  have zP := h.prod hk hi hj
  have zS := sm_bz' zP
  have i0 : i * g.r ≤ 16 := Nat.mul_le_mul (show i ≤ 8 by omega) h2
  have j0 : j * g.r ≤ 16 := Nat.mul_le_mul (show j ≤ 8 by omega) h2
  have ic : ((i * g.r : Nat) : Int) = (i : Int) * (g.r : Int) := Int.natCast_mul i g.r
  have jc : ((j * g.r : Nat) : Int) = (j : Int) * (g.r : Int) := Int.natCast_mul j g.r
  refine callG_of_vc (wr := wr0) Γok mixed Tryz.func86 (by kernel_rfl) rfl (by kernel_rfl) (le_of_ble rfl) (by simp) ?_
  refine SCall.pure (rzero_ok) ?_
  refine SLoop.mk Nat (fun t => ([(1, .p (.int .i64 i)), (2, .p (.int .i64 j)), (3, .bptr 0 0), (6, .bptr 1 0), (7, .bptr 2 0), (8, .p (.int .i64 t))], [.box 26 (genA m g), .box 31 zratA, .box 31 (bxQ (sm t fun t => g.G (i * g.r + t) * g.H (j * g.r + t)))]))
    (fun t => t ≤ g.r) (fun t => g.r - t) 0 [0, 1, 2] (Nat.zero_le _) ⟨rfl, by simp, rfl, rfl, rfl, ⟨rfl, rfl, rfl, rfl, rfl, rfl, trivial⟩, ⟨rfl, rfl, rfl, trivial⟩⟩ ?_
  intro t ht
  have ht : t ≤ g.r := ht
  by_cases htr : t < g.r
  · refine SCmp.yes (decide_eq_true (by omega)) ?_
    have l1 := row_lt hi htr
    have l2 := row_lt hj htr
    have lt : t * (2 * b + 1) ≤ 2 * (2 * b + 1) := Nat.mul_le_mul_right _ (by omega)
    refine SDraw.mkX (by kernel_rfl) ?_
    repeat refine SOp.mk _ _ (And.intro rfl rfl) rfl ?_
    refine SOp.mk _ _ (SWrap.i64z ((i * g.r : Nat) : Int) (by omega) (by omega) (And.intro rfl rfl)) rfl ?_
    repeat refine SOp.mk _ _ (And.intro rfl rfl) rfl ?_
    refine SOp.mk _ _ (SWrap.i64z ((i * g.r + t : Nat) : Int) (by omega) (by omega) (And.intro rfl rfl)) rfl ?_
    refine SOp.mk _ _ (SIdx.rf (i * g.r + t) rfl (by omega) (And.intro rfl rfl)) rfl ?_
    repeat refine SOp.mk _ _ (And.intro rfl rfl) rfl ?_
    refine SOp.mk _ _ (SWrap.i64z ((j * g.r : Nat) : Int) (by omega) (by omega) (And.intro rfl rfl)) rfl ?_
    repeat refine SOp.mk _ _ (And.intro rfl rfl) rfl ?_
    refine SOp.mk _ _ (SWrap.i64z ((j * g.r + t : Nat) : Int) (by omega) (by omega) (And.intro rfl rfl)) rfl ?_
    refine SOp.mk _ _ (SIdx.rf (j * g.r + t) rfl (by omega) (And.intro rfl rfl)) rfl ?_
    repeat refine SOp.mk _ _ (And.intro rfl rfl) rfl ?_
    refine SOp.mk _ _ (SCall.pure (rmulq_ok _ _ (h.bG _ (by omega)) (h.bH _ (by omega)) (by omega)) (And.intro rfl rfl)) rfl ?_
    refine SOp.mk _ _ (SCall.pure (raddq_ok _ _ (zS t ht) (zP t htr) (by omega)) (And.intro rfl rfl)) rfl ?_
    repeat refine SOp.mk _ _ (And.intro rfl rfl) rfl ?_
    refine SFin.mk (by kernel_rfl) ?_
    refine SWrap.i64z ((t + 1 : Nat) : Int) (by omega) (by omega) ?_
    exact ⟨t + 1, [0, 1, 2], htr, by show g.r - (t + 1) < g.r - t; omega, ⟨rfl, by simp, rfl, rfl, rfl, ⟨rfl, rfl, rfl, rfl, rfl, rfl, trivial⟩, ⟨rfl, rfl, rfl, trivial⟩⟩⟩
  · refine SCmp.no (decide_eq_false (by omega)) ?_
    obtain rfl : t = g.r := by omega
    exact SRet.pure (.p _ (pers_rat _ _ _))
end Go.Proofs.YtjfcphohgicolaaGreat

namespace Go.Proofs.YtjfcphohgicolaaGreat
open Go
set_option linter.unusedVariables false
set_option linter.unusedSimpArgs false
set_option maxRecDepth 10000
theorem ranked_ok (k : Nat) (h1 : 1 ≤ k) (h7 : k ≤ 7) : CallP Tryz.prog 126 [.int .i64 k] (.p (.bool (decide (k = 6 ∨ k = 7)))) [] := by
  refine callG_of_vc (wr := wr0) Γok mixed Tryz.func126 (by kernel_rfl) rfl (by kernel_rfl) (le_of_ble rfl) (by simp) ?_
  by_cases e6 : k = 6
  · refine SCmp.yes (decide_eq_true (by omega)) ?_
    rw [decide_eq_true (.inl e6)]
    exact SRet.pure (.tf _)
  · refine SCmp.no (decide_eq_false (by omega)) ?_
    by_cases e7 : k = 7
    · refine SCmp.yes (decide_eq_true (by omega)) ?_
      rw [decide_eq_true (.inr e7)]
      exact SRet.pure (.tf _)
    · refine SCmp.no (decide_eq_false (by omega)) ?_
      rw [decide_eq_false (by omega)]
      exact SRet.pure (.tf _)
theorem sized_ok (m : Nat → Bool) (g : GV) {b c : Nat} (h : Wf g b c) : CallP Tryz.prog 98 [genP m g] (.p (.bool true)) [] := by
  have h1 := h.k1
  have h7 := h.k7
  have n1 := h.n1
  have n6 := h.n6
  have r2 := h.r2
  refine callG_of_vc (wr := wr0) Γok mixed Tryz.func98 (by kernel_rfl) rfl (by kernel_rfl) (le_of_ble rfl) (by simp) ?_
  refine SCmp.no (decide_eq_false (by omega)) ?_
  refine SCmp.no (decide_eq_false (by omega)) ?_
  refine SCall.pure (ranked_ok g.k h1 h7) ?_
  by_cases hl : g.k = 6 ∨ g.k = 7
  · have r1 := h.r1 hl
    rw [decide_eq_true hl]
    refine SCond.mk (fun _ => ?_) (fun h => by cases h)
    refine SCmp.yes (decide_eq_true (by omega)) ?_
    refine SCmp.yes (decide_eq_true (by omega)) ?_
    exact SRet.pure (.tf _)
  · have r0 := h.r0 (by omega)
    rw [decide_eq_false hl]
    refine SCond.mk (fun h => by cases h) (fun _ => ?_)
    refine SCmp.yes (decide_eq_true (by omega)) ?_
    exact SRet.pure (.tf _)
theorem genrows_ok (m : Nat → Bool) (g : GV) : CallL Tryz.prog 99 [genP m g] (.agg [ratsM (m 0) (lst g.la g.A), ratsM (m 1) (lst g.lb g.B), ratsM (m 2) (lst g.lh g.G), ratsM (m 3) (lst g.lh g.H)]) := by
  refine callL_of_vc (wr := wr0) Γok mixed Tryz.func99 (by kernel_rfl) rfl (by kernel_rfl) (le_of_ble rfl) ?_
  exact rfl
abbrev cntK (k i : Int) : PV := .agg [.int .i64 k, .int .i64 i]
abbrev cntV (a b c : Int) : PV := .agg [.int .i64 a, .int .i64 b, .int .i64 c]
abbrev cntM : List (PV × PV) := [(cntK 1 0, cntV 2 0 (-1)), (cntK 2 0, cntV 2 0 (-1)), (cntK 3 0, cntV 1 0 0), (cntK 4 0, cntV 1 0 0), (cntK 5 0, cntV 1 0 0), (cntK 5 1, cntV 1 0 0), (cntK 6 2, cntV 0 1 0), (cntK 6 3, cntV 0 1 0), (cntK 7 0, cntV 1 0 0), (cntK 7 1, cntV 1 0 0), (cntK 7 2, cntV 0 1 0), (cntK 7 3, cntV 0 1 0)]
theorem counts_ok : CallP Tryz.prog 100 [] (.p (.mp false cntM)) [] := by
  refine callG_of_vc (wr := wr0) Γok mixed Tryz.func100 (by kernel_rfl) rfl (by kernel_rfl) (le_of_ble rfl) (by simp) ?_
  refine SDraw.mkX (by kernel_rfl) ?_
  repeat refine SOp.mk _ _ (And.intro rfl rfl) rfl ?_
  refine SOp.mk _ _ (SKeys.all rfl <| SPut.add rfl (And.intro rfl rfl)) rfl ?_
  repeat refine SOp.mk _ _ (And.intro rfl rfl) rfl ?_
  refine SOp.mk _ _ (SKeys.all rfl <| SPut.add rfl (And.intro rfl rfl)) rfl ?_
  repeat refine SOp.mk _ _ (And.intro rfl rfl) rfl ?_
  refine SOp.mk _ _ (SKeys.all rfl <| SPut.add rfl (And.intro rfl rfl)) rfl ?_
  repeat refine SOp.mk _ _ (And.intro rfl rfl) rfl ?_
  refine SOp.mk _ _ (SKeys.all rfl <| SPut.add rfl (And.intro rfl rfl)) rfl ?_
  repeat refine SOp.mk _ _ (And.intro rfl rfl) rfl ?_
  refine SOp.mk _ _ (SKeys.all rfl <| SPut.add rfl (And.intro rfl rfl)) rfl ?_
  repeat refine SOp.mk _ _ (And.intro rfl rfl) rfl ?_
  refine SOp.mk _ _ (SKeys.all rfl <| SPut.add rfl (And.intro rfl rfl)) rfl ?_
  repeat refine SOp.mk _ _ (And.intro rfl rfl) rfl ?_
  refine SOp.mk _ _ (SKeys.all rfl <| SPut.add rfl (And.intro rfl rfl)) rfl ?_
  repeat refine SOp.mk _ _ (And.intro rfl rfl) rfl ?_
  refine SOp.mk _ _ (SKeys.all rfl <| SPut.add rfl (And.intro rfl rfl)) rfl ?_
  repeat refine SOp.mk _ _ (And.intro rfl rfl) rfl ?_
  refine SOp.mk _ _ (SKeys.all rfl <| SPut.add rfl (And.intro rfl rfl)) rfl ?_
  repeat refine SOp.mk _ _ (And.intro rfl rfl) rfl ?_
  refine SOp.mk _ _ (SKeys.all rfl <| SPut.add rfl (And.intro rfl rfl)) rfl ?_
  repeat refine SOp.mk _ _ (And.intro rfl rfl) rfl ?_
  refine SOp.mk _ _ (SKeys.all rfl <| SPut.add rfl (And.intro rfl rfl)) rfl ?_
  repeat refine SOp.mk _ _ (And.intro rfl rfl) rfl ?_
  refine SOp.mk _ _ (SKeys.all rfl <| SPut.add rfl (And.intro rfl rfl)) rfl ?_
  repeat refine SOp.mk _ _ (And.intro rfl rfl) rfl ?_
  refine SFin.mkL (by kernel_rfl) ?_
  refine SLit.mk cntM rfl rfl fun es hp => ?_
  refine SRet.pure (.frzmap (es := es) rfl (by simp) hp fun e he => ?_)
  have : ∀ a b c d f : Int, Pers (cntK a b) ∧ Pers (cntV c d f) := fun a b c d f => ⟨.agg _ fun x hx => by
    simp only [List.mem_cons, List.not_mem_nil, or_false] at hx; rcases hx with rfl | rfl <;> exact .int _ _, .agg _ fun x hx => by
    simp only [List.mem_cons, List.not_mem_nil, or_false] at hx; rcases hx with rfl | rfl | rfl <;> exact .int _ _⟩
  have he := hp.mem_iff.1 he
  simp only [cntM, List.mem_cons, List.not_mem_nil, or_false] at he
  rcases he with rfl | rfl | rfl | rfl | rfl | rfl | rfl | rfl | rfl | rfl | rfl | rfl <;> exact this _ _ _ _ _
theorem bz_nlen {q : Rat} (h : Bz q 100) : nlen q.num.natAbs ≤ 4 ∧ nlen q.den ≤ 4 := by
  have : ∀ {a : Nat}, bitLen a ≤ 100 → nlen a ≤ 4 := fun {a} ha => nlen_le (Nat.lt_of_lt_of_le (bitLen_lt a) (Nat.le_trans (Nat.pow_le_pow_right (by decide) ha) (by decide)))
  exact ⟨this h.1, this h.2⟩
theorem gsmall_ok (q : Rat) (h : Bz q 100) : CallP Tryz.prog 103 [ratP q] (.p (.bool true)) [] := by
  obtain ⟨h1, h2⟩ := bz_nlen h
  refine callG_of_vc (wr := wr0) Γok mixed Tryz.func103 (by kernel_rfl) rfl (by kernel_rfl) (le_of_ble rfl) (by simp) ?_
  refine SZ.mk (nlen q.num.natAbs : Int) (by simp) ?_
  refine SCmp.yes (decide_eq_true (by omega)) ?_
  refine SZ.mk (nlen q.den : Int) (by simp) ?_
  refine SCmp.yes (decide_eq_true (by omega)) ?_
  refine SCall.pure (ratright_ok q h.sz (by omega)) ?_
  exact SRet.pure (.p _ (.bool _))
theorem check1_ok (q : Rat) (h : Bz q 100) : CallP Tryz.prog 102 [ratP q] (.p (.bool false)) [] := by
  refine callG_of_vc (wr := wr0) Γok mixed Tryz.func102 (by kernel_rfl) rfl (by kernel_rfl) (le_of_ble rfl) (by simp) ?_
  refine SCall.pure (gsmall_ok q h) ?_
  refine SCmp.no (rfl) ?_
  exact SRet.pure (.tf _)
theorem check2_ok (m : Bool) (a b : Rat) {k : Nat} (ha : Bz a k) (hb : Bz b k) (hk : k + k ≤ 1048576) : CallP Tryz.prog 104 [ratP b, .pel m (ratP a)] (.p (.bool (decide (a = b)))) [] := by
  refine callG_of_vc (wr := wr0) Γok mixed Tryz.func104 (by kernel_rfl) rfl (by kernel_rfl) (le_of_ble rfl) (by simp) ?_
  refine SCall.pure (ratsame_ok a b ha.sz hb.sz (by omega)) ?_
  exact SRet.pure (.p _ (.bool _))
theorem none1I_ok (m : Bool) (l : List Rat) (hF : ∀ i, i < l.length → CallP Tryz.prog 102 [ratP (l.getD i 0)] (.p (.bool false)) []) (hn : l.length ≤ 1099511627776) :
    CallP Tryz.prog 127 [ratsM m l, .fn 102 []] (.p (.int .i64 (-1))) [] := by
  refine callG_of_vc (wr := wr0) Γok mixed Tryz.func127 (by kernel_rfl) rfl (by kernel_rfl) (le_of_ble rfl) (by simp) ?_
  refine SZ.mk (l.length : Int) (by simp) ?_
  refine SLoop.mk Nat (fun i => ([(0, .p (ratsM m l)), (1, .p (.fn 102 [])), (7, .p (.int .i64 l.length)), (8, .p (.int .i64 i))], []))
    (fun i => i ≤ l.length) (fun i => l.length - i) 0 [] (Nat.zero_le _) ⟨rfl, .nil, rfl, rfl, rfl, ⟨rfl, rfl, rfl, rfl, trivial⟩, trivial⟩ ?_
  intro i h1
  have h1 : i ≤ l.length := h1
  by_cases hi : i < l.length
  · refine SCmp.yes (decide_eq_true (by omega)) ?_
    refine SIdx.rb i rfl hi ?_
    refine SCall.pure (pvs := [ratP (l.getD i 0)]) (hF i hi) ?_
    refine SCond.mk (fun h => by cases h) (fun _ => ?_)
    refine SWrap.i64z ((i + 1 : Nat) : Int) (by omega) (by omega) ?_
    exact ⟨i + 1, [], hi, by show l.length - (i + 1) < l.length - i; omega, ⟨rfl, .nil, rfl, rfl, rfl, ⟨rfl, rfl, rfl, rfl, trivial⟩, trivial⟩⟩
  · refine SCmp.no (decide_eq_false (by omega)) ?_
    exact SRet.pure (.p _ (.int _ _))
theorem none1_ok (m : Bool) (l : List Rat) (hF : ∀ i, i < l.length → CallP Tryz.prog 102 [ratP (l.getD i 0)] (.p (.bool false)) []) (hn : l.length ≤ 1099511627776) :
    CallP Tryz.prog 101 [ratsM m l, .fn 102 []] (.p (.bool false)) [] := by
  refine callG_of_vc (wr := wr0) Γok mixed Tryz.func101 (by kernel_rfl) rfl (by kernel_rfl) (le_of_ble rfl) (by simp) ?_
  refine SCall.pure (pvs := [ratsM m l, .fn 102 []]) (none1I_ok m l hF hn) ?_
  refine SCmp.no (rfl) ?_
  exact SRet.pure (.tf _)
theorem none2I_ok (m : Bool) (m2 : Bool) (a : Rat) (l : List Rat) (hF : ∀ i, i < l.length → CallP Tryz.prog 104 [ratP (l.getD i 0), .pel m2 (ratP a)] (.p (.bool false)) []) (hn : l.length ≤ 1099511627776) :
    CallP Tryz.prog 127 [ratsM m l, .fn 104 [.pel m2 (ratP a)]] (.p (.int .i64 (-1))) [] := by
  refine callG_of_vc (wr := wr0) Γok mixed Tryz.func127 (by kernel_rfl) rfl (by kernel_rfl) (le_of_ble rfl) (by simp) ?_
  refine SZ.mk (l.length : Int) (by simp) ?_
  refine SLoop.mk Nat (fun i => ([(0, .p (ratsM m l)), (1, .p (.fn 104 [.pel m2 (ratP a)])), (7, .p (.int .i64 l.length)), (8, .p (.int .i64 i))], []))
    (fun i => i ≤ l.length) (fun i => l.length - i) 0 [] (Nat.zero_le _) ⟨rfl, .nil, rfl, rfl, rfl, ⟨rfl, rfl, rfl, rfl, trivial⟩, trivial⟩ ?_
  intro i h1
  have h1 : i ≤ l.length := h1
  by_cases hi : i < l.length
  · refine SCmp.yes (decide_eq_true (by omega)) ?_
    refine SIdx.rb i rfl hi ?_
    refine SCall.pure (pvs := [ratP (l.getD i 0), .pel m2 (ratP a)]) (hF i hi) ?_
    refine SCond.mk (fun h => by cases h) (fun _ => ?_)
    refine SWrap.i64z ((i + 1 : Nat) : Int) (by omega) (by omega) ?_
    exact ⟨i + 1, [], hi, by show l.length - (i + 1) < l.length - i; omega, ⟨rfl, .nil, rfl, rfl, rfl, ⟨rfl, rfl, rfl, rfl, trivial⟩, trivial⟩⟩
  · refine SCmp.no (decide_eq_false (by omega)) ?_
    exact SRet.pure (.p _ (.int _ _))
theorem none2_ok (m : Bool) (m2 : Bool) (a : Rat) (l : List Rat) (hF : ∀ i, i < l.length → CallP Tryz.prog 104 [ratP (l.getD i 0), .pel m2 (ratP a)] (.p (.bool false)) []) (hn : l.length ≤ 1099511627776) :
    CallP Tryz.prog 101 [ratsM m l, .fn 104 [.pel m2 (ratP a)]] (.p (.bool false)) [] := by
  refine callG_of_vc (wr := wr0) Γok mixed Tryz.func101 (by kernel_rfl) rfl (by kernel_rfl) (le_of_ble rfl) (by simp) ?_
  refine SCall.pure (pvs := [ratsM m l, .fn 104 [.pel m2 (ratP a)]]) (none2I_ok m m2 a l hF hn) ?_
  refine SCmp.no (rfl) ?_
  exact SRet.pure (.tf _)
end Go.Proofs.YtjfcphohgicolaaGreat

namespace Go.Proofs.YtjfcphohgicolaaGreat
open Go
set_option linter.unusedVariables false
set_option linter.unusedSimpArgs false
set_option maxRecDepth 10000
abbrev pairP (i k : Nat) : PV := .agg [.int .i64 (i : Int), .int .i64 (k : Int)]
theorem keq_pair (a b c d : Nat) : PV.keq (pairP a b) (pairP c d) = decide (a = c ∧ b = d) := by
  show (decide (IntKind.i64 = IntKind.i64) && (((a : Int) == (c : Int)) && (decide (IntKind.i64 = IntKind.i64) && (((b : Int) == (d : Int)) && true)))) = _
  have hd : decide (IntKind.i64 = IntKind.i64) = true := rfl
  rw [hd, Bool.true_and, Bool.true_and, Bool.and_true]
  by_cases e1 : a = c
  · by_cases e2 : b = d
    · rw [decide_eq_true (show a = c ∧ b = d from ⟨e1, e2⟩), e1, e2]; simp
    · rw [decide_eq_false (show ¬ (a = c ∧ b = d) from fun h => e2 h.2), beq_eq_false_iff_ne.2 (show (b : Int) ≠ d by omega), Bool.and_false]
  · rw [decide_eq_false (show ¬ (a = c ∧ b = d) from fun h => e1 h.1), beq_eq_false_iff_ne.2 (show (a : Int) ≠ c by omega), Bool.false_and]
theorem pers_pair (i k : Nat) : Pers (pairP i k) := .agg _ fun x hx => by
  simp only [List.mem_cons, List.not_mem_nil, or_false] at hx; rcases hx with rfl | rfl <;> exact .int _ _
end Go.Proofs.YtjfcphohgicolaaGreat

namespace Go.Proofs.YtjfcphohgicolaaGreat
open Go
set_option linter.unusedVariables false
set_option linter.unusedSimpArgs false
/-- A call that makes blocks and answers with them. -/
theorem SCall.news {P : Program} {wr : Bool} {f : FuncId} {L : Hd → Blk} {base : Nat} {K : AV → List (Hd × Blk) → Prop} {pvs : List PV} {r : AV} {nb : List Blk} (hc : CallP P f pvs r nb) (hf : ∀ B ∈ nb, B ≠ .free)
    (hk : K (r.ren (renOf [] base)) (nb.zipIdx.map fun x => (.t (renN [] base x.2), x.1.ren (renOf [] base)))) {raw : List AV} : SCall P wr f raw (pvs.map .p) L base K :=
  .mk [] (pvs.map .p) r [] nb (fun _ => rfl) .nil (fun _ h => by simp at h) (by rw [AV.renL_eq, List.map_map]; exact List.map_congr_left fun _ _ => rfl) rfl (fun i h B e => by simp at e) (fun _ h => by simp at h) (fun _ h => by simp at h) (Nat.zero_le _) hf
    (fun a ha k hk => by obtain ⟨v, _, rfl⟩ := List.mem_map.1 ha; simp only [AV.men] at hk) hc hk
end Go.Proofs.YtjfcphohgicolaaGreat

namespace Go.Proofs.YtjfcphohgicolaaGreat
/-- The first place from p on, among so many, with no nought in column j. -/
def pvG (A : Nat → Nat → Rat) (j : Nat) : Nat → Nat → Nat
  | 0, p => p
  | d + 1, p => if A p j = 0 then pvG A j d (p + 1) else p
def pv (A : Nat → Nat → Rat) (j n r : Nat) : Nat := pvG A j (n - r) r
theorem pvG_eq {A : Nat → Nat → Rat} {j : Nat} : ∀ (d r p : Nat), r ≤ p → p ≤ r + d → (∀ i, r ≤ i → i < p → A i j = 0) → (p = r + d ∨ A p j ≠ 0) → pvG A j d r = p := by
  intro d
  induction d with
  | zero => intro r p h1 h2 _ _; simp only [pvG]; omega
  | succ d ih =>
    intro r p h1 h2 h3 h4
    simp only [pvG]
    by_cases e : r = p
    · subst e
      rcases h4 with h4 | h4
      · omega
      · rw [if_neg h4]
    · rw [if_pos (h3 r (Nat.le_refl _) (by omega))]
      exact ih (r + 1) p (by omega) (by omega) (fun i hi => h3 i (by omega)) (h4.imp (fun h => by omega) id)
theorem pv_eq {A : Nat → Nat → Rat} {j n r p : Nat} (h1 : r ≤ p) (h2 : p ≤ n) (h3 : ∀ i, r ≤ i → i < p → A i j = 0) (h4 : p = n ∨ A p j ≠ 0) : pv A j n r = p :=
  pvG_eq _ _ _ h1 (by omega) h3 (h4.imp (fun h => by omega) id)
theorem pvG_spec {A : Nat → Nat → Rat} {j : Nat} : ∀ (d r : Nat), r ≤ pvG A j d r ∧ pvG A j d r ≤ r + d ∧ (∀ i, r ≤ i → i < pvG A j d r → A i j = 0) ∧ (pvG A j d r = r + d ∨ A (pvG A j d r) j ≠ 0) := by
  intro d
  induction d with
  | zero => intro r; simp only [pvG]; exact ⟨Nat.le_refl _, Nat.le_refl _, fun i h1 h2 => by omega, .inl rfl⟩
  | succ d ih =>
    intro r
    simp only [pvG]
    by_cases e : A r j = 0
    · rw [if_pos e]
      obtain ⟨h1, h2, h3, h4⟩ := ih (r + 1)
      refine ⟨by omega, by omega, fun i hi hi2 => ?_, h4.imp (fun h => by omega) id⟩
      by_cases ei : i = r
      · subst ei; exact e
      · exact h3 i (by omega) hi2
    · rw [if_neg e]; exact ⟨Nat.le_refl _, by omega, fun i h1 h2 => by omega, .inr e⟩
theorem pv_spec {A : Nat → Nat → Rat} {j n r : Nat} (h : r ≤ n) : r ≤ pv A j n r ∧ pv A j n r ≤ n ∧ (∀ i, r ≤ i → i < pv A j n r → A i j = 0) ∧ (pv A j n r = n ∨ A (pv A j n r) j ≠ 0) := by
  obtain ⟨h1, h2, h3, h4⟩ := pvG_spec (A := A) (j := j) (n - r) r
  have e : r + (n - r) = n := by omega
  rw [e] at h2 h4
  exact ⟨h1, h2, h3, h4⟩
def swpM (A : Nat → Nat → Rat) (p r : Nat) : Nat → Nat → Rat := fun i => A (if i = p then r else if i = r then p else i)
/-- Column j is cleared below row r. -/
def redM (B : Nat → Nat → Rat) (r j : Nat) : Nat → Nat → Rat := fun i k => if r < i ∧ j ≤ k then B i k - B i j / B r j * B r k else B i k
structure ElS where
  A : Nat → Nat → Rat
  det : Rat
  r : Nat
/-- The round of column j. -/
def elS (n j : Nat) (s : ElS) : ElS :=
  if n ≤ pv s.A j n s.r then ⟨s.A, 0, s.r⟩ else
    ⟨redM (swpM s.A (pv s.A j n s.r) s.r) s.r j, (if pv s.A j n s.r = s.r then s.det else -s.det) * swpM s.A (pv s.A j n s.r) s.r s.r j, s.r + 1⟩
def elim (n : Nat) (A : Nat → Nat → Rat) (j : Nat) : ElS := iter (elS n) j ⟨A, 1, 0⟩
theorem elim_succ {n : Nat} {A : Nat → Nat → Rat} {j : Nat} : elim n A (j + 1) = elS n j (elim n A j) := rfl
theorem elim_r_le {n : Nat} {A : Nat → Nat → Rat} : ∀ j, (elim n A j).r ≤ j := by
  intro j
  induction j with
  | zero => exact Nat.le_refl _
  | succ j ih =>
    rw [elim_succ]; unfold elS
    split
    · show (elim n A j).r ≤ j + 1; omega
    · show (elim n A j).r + 1 ≤ j + 1; omega
theorem elim_r_n {n : Nat} {A : Nat → Nat → Rat} : ∀ j, (elim n A j).r ≤ n := by
  intro j
  induction j with
  | zero => exact Nat.zero_le _
  | succ j ih =>
    rw [elim_succ]; unfold elS
    split
    · exact ih
    · rename_i h
      have := (pv_spec (A := (elim n A j).A) (j := j) ih).1
      show (elim n A j).r + 1 ≤ n; omega
/-- How many digits there may be in a row that was turned so often; in the determinant. -/
def bb (b : Nat) : Nat → Nat
  | 0 => b
  | k + 1 => 4 * bb b k + 1
def dR (R : Nat → Nat) : Nat → Nat
  | 0 => 1
  | k + 1 => dR R k + R k
theorem Rmono {R : Nat → Nat} (h : ∀ k, R k ≤ R (k + 1)) {i j : Nat} (hij : i ≤ j) : R i ≤ R j := by
  induction j with
  | zero => rw [Nat.le_zero.1 hij]; exact Nat.le_refl _
  | succ j ih =>
    by_cases e : i = j + 1
    · rw [e]; exact Nat.le_refl _
    · exact Nat.le_trans (ih (by omega)) (h j)
theorem dR_mono {R : Nat → Nat} {i j : Nat} (h : i ≤ j) : dR R i ≤ dR R j := Rmono (fun k => Nat.le_add_right _ _) h
theorem dR_pos {R : Nat → Nat} {k : Nat} : 1 ≤ dR R k := dR_mono (R := R) (Nat.zero_le k)
theorem dR_lt {R : Nat → Nat} {k n : Nat} (h : k < n) : R k + 1 ≤ dR R n := by
  have h1 := dR_mono (R := R) (show k + 1 ≤ n from h)
  have h2 := dR_pos (R := R) (k := k)
  simp only [dR] at h1; omega
/-- The rows' digits. -/
def RowB (R : Nat → Nat) (n w : Nat) (A : Nat → Nat → Rat) (r : Nat) : Prop := ∀ i k, i < n → k < w → Bz (A i k) (R (min i r))
theorem RowB.swp {R : Nat → Nat} {n w : Nat} {A : Nat → Nat → Rat} {r p : Nat} (h : RowB R n w A r) (hp : r ≤ p) (hpn : p < n) : RowB R n w (swpM A p r) r := by
  intro i k hi hk
  unfold swpM
  by_cases e1 : i = p
  · rw [if_pos e1]
    have := h r k (by omega) hk
    rw [Nat.min_self] at this
    rw [Nat.min_eq_right (by omega)]; exact this
  · rw [if_neg e1]
    by_cases e2 : i = r
    · rw [if_pos e2]
      have := h p k hpn hk
      rw [Nat.min_eq_right hp] at this
      rw [e2, Nat.min_self]; exact this
    · rw [if_neg e2]; exact h i k hi hk
theorem RowB.quo {R : Nat → Nat} {n w : Nat} {B : Nat → Nat → Rat} {r : Nat} (h : RowB R n w B r) {i j : Nat} (hi : i < n) (hr : r < i) (hj : j < w) : Bz (B i j / B r j) (R r + R r) := by
  have h1 := h i j hi hj
  have h2 := h r j (by omega) hj
  rw [Nat.min_eq_right (by omega)] at h1
  rw [Nat.min_self] at h2
  exact h1.div h2
theorem RowB.red {R : Nat → Nat} {n w : Nat} {B : Nat → Nat → Rat} {r j : Nat} (hR : 4 * R r + 1 ≤ R (r + 1)) (hm : ∀ k, R k ≤ R (k + 1)) (h : RowB R n w B r) (hj : j < w) : RowB R n w (redM B r j) (r + 1) := by
  intro i k hi hk
  unfold redM
  by_cases c : r < i ∧ j ≤ k
  · rw [if_pos c]
    have h1 := h i k hi hk
    have h2 := h r k (by omega) hk
    have h3 := h.quo hi c.1 hj
    rw [Nat.min_eq_right (by omega)] at h1
    rw [Nat.min_self] at h2
    rw [Nat.min_eq_right (by omega)]
    exact (h1.sub (h3.mul h2)).mono (by omega)
  · rw [if_neg c]
    exact (h i k hi hk).mono (Rmono hm (by omega))
theorem swpM_self {A : Nat → Nat → Rat} {r : Nat} : swpM A r r = A := by
  funext i
  unfold swpM
  by_cases e : i = r
  · rw [if_pos e, e]
  · rw [if_neg e, if_neg e]
theorem swpM_r {A : Nat → Nat → Rat} {p r : Nat} : swpM A p r r = A p := by
  unfold swpM
  by_cases e : r = p
  · rw [if_pos e, e]
  · rw [if_neg e, if_pos rfl]
theorem redM_le {B : Nat → Nat → Rat} {r j i k : Nat} (h : i ≤ r ∨ k < j) : redM B r j i k = B i k := if_neg (by omega)
theorem redM_zero {B : Nat → Nat → Rat} {r j i k : Nat} (h : B i j = 0) : redM B r j i k = B i k := by
  unfold redM
  split
  · rw [h]; grind
  · rfl
theorem redM_gt {B : Nat → Nat → Rat} {r j i k : Nat} (h1 : r < i) (h2 : j ≤ k) : redM B r j i k = B i k - B i j / B r j * B r k := if_pos ⟨h1, h2⟩
/-- What is known of the digits, all the way down. -/
structure RB (R : Nat → Nat) (n w : Nat) (A : Nat → Nat → Rat) : Prop where
  row : ∀ j, j ≤ n → RowB R n w (elim n A j).A (elim n A j).r
  mono : ∀ k, R k ≤ R (k + 1)
  lim : ∀ k, k + 1 < n → 4 * R k + 1 ≤ 1048576
  dlim : dR R n ≤ 1048576
/-- From the round m on. -/
theorem elim_b {R : Nat → Nat} {n w : Nat} {A : Nat → Nat → Rat} (m : Nat) (hm : ∀ k, R k ≤ R (k + 1)) (h4 : ∀ k, m ≤ k → 4 * R k + 1 ≤ R (k + 1)) (hw : n ≤ w)
    (h0 : ∀ j, j ≤ m → j ≤ n → RowB R n w (elim n A j).A (elim n A j).r) (hrm : m ≤ n → (elim n A m).r = m) : ∀ j, j ≤ n → RowB R n w (elim n A j).A (elim n A j).r ∧ (m ≤ j → m ≤ (elim n A j).r) := by
  intro j
  induction j with
  | zero => intro hj; exact ⟨h0 0 (Nat.zero_le _) hj, fun e => by omega⟩
  | succ j ih =>
    intro hj
    by_cases hjm : j + 1 ≤ m
    · refine ⟨h0 _ hjm hj, fun e => ?_⟩
      have e : m = j + 1 := by omega
      rw [← e, hrm (by omega)]; exact Nat.le_refl _
    obtain ⟨h1, h2⟩ := ih (by omega)
    have h2 := h2 (by omega)
    have hr := elim_r_n (n := n) (A := A) j
    rw [elim_succ]
    unfold elS
    split
    · exact ⟨h1, fun _ => h2⟩
    · rename_i hp
      obtain ⟨p1, p2, _, _⟩ := pv_spec (A := (elim n A j).A) (j := j) hr
      have h3 := h1.swp p1 (by omega)
      exact ⟨h3.red (h4 _ h2) hm (by omega), fun _ => Nat.le_succ_of_le h2⟩
theorem bb_step {b : Nat} (k : Nat) : bb b k ≤ bb b (k + 1) := by simp only [bb]; omega
theorem RB.std {n w b : Nat} {A : Nat → Nat → Rat} (hA : ∀ i k, i < n → k < w → Bz (A i k) b) (hw : n ≤ w) (hb : dR (bb b) n ≤ 1048576) : RB (bb b) n w A where
  row := fun j hj => (elim_b 0 bb_step (fun k _ => Nat.le_refl _) hw (fun j h0 _ => by
    rw [Nat.le_zero.1 h0]
    intro i k hi hk; show Bz (A i k) (bb b (min i 0)); rw [Nat.min_zero]; exact hA i k hi hk) (fun _ => rfl) j hj).1
  mono := bb_step
  lim := fun k hk => by have := dR_lt (R := bb b) hk; simp only [bb] at this; omega
  dlim := hb
end Go.Proofs.YtjfcphohgicolaaGreat

namespace Go.Proofs.YtjfcphohgicolaaGreat
open Go
set_option linter.unusedVariables false
set_option linter.unusedSimpArgs false
set_option maxRecDepth 10000
theorem matP_congr {m m' : Bool} {n w : Nat} {A B : Nat → Nat → Rat} (h : ∀ i k, i < n → k < w → A i k = B i k) : matP m m' n w A = matP m m' n w B :=
  congrArg (PV.sl m 1) (fl_congr fun i hi => by rw [lst_congr fun k hk => h i k hi hk])
theorem upd2_step {S : Nat → Nat} {G2 G1 : Nat → Nat → Rat} {f g : Nat → Rat} {i w q k : Nat} {v : Rat} (inj : ∀ p q, p < i → q < i → S p = S q → p = q) (hq : q < i) (hk : k < w)
    (h : ∀ t c, t < i → c < w → G2 (S t) c = if t = q then (if c < k then f c else g c) else G1 (S t) c) (hv : v = f k) :
    ∀ t c, t < i → c < w → upd G2 (S (q + 0)) (upd (G2 (S (q + 0))) (k + 0) v) (S t) c = if t = q then (if c < k + 1 then f c else g c) else G1 (S t) c := by
  intro t c ht hc
  rw [Nat.add_zero, Nat.add_zero]
  by_cases e : t = q
  · subst e
    rw [upd_same, if_pos rfl]
    by_cases ec : c = k
    · subst ec; rw [upd_same, if_pos (by omega), hv]
    · rw [upd_other _ _ ec, h t c ht hc, if_pos rfl]
      by_cases e2 : c < k
      · rw [if_pos e2, if_pos (by omega)]
      · rw [if_neg e2, if_neg (by omega)]
  · rw [upd_other _ _ (fun e' => e (inj t q ht hq e')), h t c ht hc, if_neg e, if_neg e]
end Go.Proofs.YtjfcphohgicolaaGreat

namespace Go.Proofs.YtjfcphohgicolaaGreat
open Go
set_option linter.unusedVariables false
set_option linter.unusedSimpArgs false
set_option maxRecDepth 10000
/-- s0, less so many products. -/
def sb (a x : Nat → Rat) (s0 : Rat) (from' : Nat) : Nat → Rat
  | 0 => s0
  | d + 1 => sb a x s0 from' d - a (from' + d) * x (from' + d)
/-- What is known behind so many rounds, from the last row on. -/
def bk (A : Nat → Nat → Rat) (n : Nat) : Nat → Nat → Rat
  | 0 => fun _ => 0
  | t + 1 => upd (bk A n t) (n - 1 - t) (sb (A (n - 1 - t)) (bk A n t) (A (n - 1 - t) n) (n - t) t / A (n - 1 - t) (n - 1 - t))
theorem bk_keep {A : Nat → Nat → Rat} {n t k : Nat} (h : n ≤ k + t) (ht : t < n) : bk A n (t + 1) k = bk A n t k := by
  simp only [bk]; exact upd_other _ _ (by omega)
def augM (n : Nat) (A : Nat → Nat → Rat) (y : Nat → Rat) : Nat → Nat → Rat := fun i k => if k < n then A i k else y i
theorem SIdx.fl {n : Nat} {f : Nat → PV} {i : Int} {K : Nat → PV → Prop} (j : Nat) (v : PV) (hi : i = j) (hj : j < n) (hv : f j = v) (hk : K j v) : SIdx (fl n f) i K := by
  subst hv; exact .mk j _ hi (fl_get hj) hk
theorem replicate_fl {α : Type} (n : Nat) (z : α) : List.replicate n z = fl n fun _ => z := by
  apply List.ext_getElem (by simp)
  intro i h1 h2
  simp [Go.Proofs.YtjfcphohgicolaaGreat.fl]
end Go.Proofs.YtjfcphohgicolaaGreat

namespace Go.Proofs.YtjfcphohgicolaaGreat
theorem swp_ge {A : Nat → Nat → Rat} {p r n : Nat} (hp : r ≤ p) (hpn : p < n) {P : (Nat → Rat) → Prop} (h : ∀ i, i < n → r ≤ i → P (A i)) {i : Nat} (hi : i < n) (hr : r ≤ i) : P (swpM A p r i) := by
  unfold swpM
  split
  · exact h r (by omega) (Nat.le_refl _)
  · split
    · exact h p hpn hp
    · exact h i hi hr
theorem elim_ech {n : Nat} {A : Nat → Nat → Rat} : ∀ j i k, i < n → (elim n A j).r ≤ i → k < j → (elim n A j).A i k = 0 := by
  intro j
  induction j with
  | zero => intro i k _ _ h; exact absurd h (Nat.not_lt_zero _)
  | succ j ih =>
    have hr := elim_r_n (n := n) (A := A) j
    obtain ⟨p1, p2, p3, p4⟩ := pv_spec (A := (elim n A j).A) (j := j) hr
    intro i k hi
    rw [elim_succ]
    unfold elS
    split
    · rename_i hp
      intro hri hk
      by_cases e : k = j
      · subst e; exact p3 i hri (by omega)
      · exact ih i k hi hri (by omega)
    · rename_i hp
      intro hri hk
      have hri : (elim n A j).r + 1 ≤ i := hri
      show redM _ _ _ i k = 0
      by_cases e : k = j
      · subst e
        rw [redM_gt (by omega) (Nat.le_refl _)]
        have h0 : swpM (elim n A k).A (pv (elim n A k).A k n (elim n A k).r) (elim n A k).r (elim n A k).r k ≠ 0 := by
          rw [swpM_r]; exact p4.resolve_left (by omega)
        grind
      · rw [redM_le (.inr (by omega))]
        exact swp_ge (P := fun f => f k = 0) p1 (by omega) (fun q hq hrq => ih q k hq hrq (by omega)) hi (by omega)
def Ker (n w : Nat) (A : Nat → Nat → Rat) (v : Nat → Rat) : Prop := ∀ i, i < n → sm w (fun k => A i k * v k) = 0
theorem Ker.swp {n w p r : Nat} {A : Nat → Nat → Rat} {v : Nat → Rat} (hp : p < n) (hr : r < n) : Ker n w (swpM A p r) v ↔ Ker n w A v := by
  constructor
  · intro h i hi
    by_cases e1 : i = p
    · have := h r hr
      unfold swpM at this
      by_cases e2 : r = p
      · rw [if_pos e2] at this; rw [e1, ← e2]; exact this
      · rw [if_neg e2, if_pos rfl] at this; rw [e1]; exact this
    · by_cases e2 : i = r
      · have := h p hp
        unfold swpM at this
        rw [if_pos rfl] at this; rw [e2]; exact this
      · have := h i hi
        unfold swpM at this
        rw [if_neg e1, if_neg e2] at this; exact this
  · intro h i hi
    unfold swpM
    split
    · exact h r hr
    · split
      · exact h p hp
      · exact h i hi
theorem red_row {B : Nat → Nat → Rat} {r j i : Nat} (hz : ∀ k, k < j → B r k = 0) (hi : r < i) (k : Nat) : redM B r j i k = B i k - B i j / B r j * B r k := by
  by_cases e : j ≤ k
  · exact redM_gt hi e
  · rw [redM_le (.inr (by omega)), hz k (by omega)]; grind
theorem Ker.red {n w r j : Nat} {B : Nat → Nat → Rat} {v : Nat → Rat} (hz : ∀ k, k < j → B r k = 0) (hr : r < n) : Ker n w (redM B r j) v ↔ Ker n w B v := by
  have row : ∀ i, r < i → sm w (fun k => redM B r j i k * v k) = sm w (fun k => B i k * v k) - B i j / B r j * sm w (fun k => B r k * v k) := by
    intro i hi
    rw [← sm_smul, ← sm_sub]
    refine sm_congr fun k _ => ?_
    rw [red_row hz hi]; grind
  have low : ∀ i, ¬ r < i → (fun k => redM B r j i k * v k) = fun k => B i k * v k := by
    intro i hi
    funext k
    rw [redM_le (.inl (by omega))]
  constructor
  · intro h i hi
    have h0 : sm w (fun k => B r k * v k) = 0 := by have := h r hr; rw [low r (Nat.lt_irrefl r)] at this; exact this
    have := h i hi
    by_cases e : r < i
    · rw [row i e, h0] at this; grind
    · rw [low i e] at this; exact this
  · intro h i hi
    by_cases e : r < i
    · rw [row i e, h i hi, h r hr]; grind
    · rw [low i e]; exact h i hi
theorem elim_ker {n w : Nat} {A : Nat → Nat → Rat} {v : Nat → Rat} : ∀ j, Ker n w (elim n A j).A v ↔ Ker n w A v := by
  intro j
  induction j with
  | zero => exact Iff.rfl
  | succ j ih =>
    have hr := elim_r_n (n := n) (A := A) j
    obtain ⟨p1, p2, p3, p4⟩ := pv_spec (A := (elim n A j).A) (j := j) hr
    rw [elim_succ]
    unfold elS
    split
    · exact ih
    · rename_i hp
      have hpn : pv (elim n A j).A j n (elim n A j).r < n := by omega
      refine (Ker.red (fun k hk => ?_) (by omega)).trans ((Ker.swp hpn (by omega)).trans ih)
      rw [swpM_r]; exact elim_ech j _ k hpn p1 hk
theorem elim_step {n : Nat} {A : Nat → Nat → Rat} {j : Nat} (h : (elim n A (j + 1)).r = j + 1) : (elim n A j).r = j ∧ pv (elim n A j).A j n j < n := by
  have hr := elim_r_le (n := n) (A := A) j
  rw [elim_succ] at h
  unfold elS at h
  split at h
  · have : (elim n A j).r = j + 1 := h; omega
  · rename_i hp
    have : (elim n A j).r + 1 = j + 1 := h
    have e : (elim n A j).r = j := by omega
    rw [e] at hp
    exact ⟨e, by omega⟩
theorem elim_next {n : Nat} {A : Nat → Nat → Rat} {j : Nat} (h : (elim n A j).r = j) (hp : pv (elim n A j).A j n j < n) :
    elim n A (j + 1) = ⟨redM (swpM (elim n A j).A (pv (elim n A j).A j n j) j) j j, (if pv (elim n A j).A j n j = j then (elim n A j).det else -(elim n A j).det) * (elim n A j).A (pv (elim n A j).A j n j) j, j + 1⟩ := by
  rw [elim_succ]; unfold elS; rw [h, if_neg (by omega), swpM_r]
theorem elim_diag {n : Nat} {A : Nat → Nat → Rat} : ∀ j, (elim n A j).r = j → ∀ i, i < j → (elim n A j).A i i ≠ 0 := by
  intro j
  induction j with
  | zero => intro _ i hi; exact absurd hi (Nat.not_lt_zero _)
  | succ j ih =>
    intro h i hi
    obtain ⟨h1, h2⟩ := elim_step h
    have hr := elim_r_n (n := n) (A := A) j
    rw [h1] at hr
    obtain ⟨p1, p2, p3, p4⟩ := pv_spec (A := (elim n A j).A) (j := j) hr
    rw [elim_next h1 h2]
    show redM _ j j i i ≠ 0
    rw [redM_le (.inl (by omega))]
    by_cases e : i = j
    · subst e; rw [swpM_r]; exact p4.resolve_left (by omega)
    · unfold swpM; rw [if_neg (by omega), if_neg e]; exact ih h1 i (by omega)
theorem elim_det {n : Nat} {A : Nat → Nat → Rat} : ∀ j, j ≤ n → ((elim n A j).det ≠ 0 ↔ (elim n A j).r = j) := by
  intro j
  induction j with
  | zero => intro _; exact ⟨fun _ => rfl, fun _ => by show (1 : Rat) ≠ 0; decide⟩
  | succ j ih =>
    intro hj
    have ih := ih (by omega)
    have hr := elim_r_n (n := n) (A := A) j
    obtain ⟨p1, p2, p3, p4⟩ := pv_spec (A := (elim n A j).A) (j := j) hr
    constructor
    · intro h
      rw [elim_succ] at h ⊢
      unfold elS at h ⊢
      split at h
      · exact absurd rfl h
      · rename_i hp
        rw [if_neg hp]
        show (elim n A j).r + 1 = j + 1
        have : (elim n A j).det ≠ 0 := fun e => h (by
          show (if _ then (elim n A j).det else -(elim n A j).det) * _ = 0
          rw [e]; split <;> grind)
        rw [ih.1 this]
    · intro h
      obtain ⟨h1, h2⟩ := elim_step h
      rw [h1] at p4
      rw [elim_next h1 h2]
      have d := ih.2 h1
      have e := p4.resolve_left (by omega)
      show (if _ then (elim n A j).det else -(elim n A j).det) * _ ≠ 0
      intro e0
      rcases Rat.mul_eq_zero.1 e0 with e0 | e0
      · split at e0
        · exact d e0
        · exact d (by grind)
      · exact e e0
theorem elim_fail {n : Nat} {A : Nat → Nat → Rat} : ∀ m, m ≤ n → (elim n A m).r ≠ m → ∃ j, j < m ∧ (elim n A j).r = j ∧ pv (elim n A j).A j n j = n := by
  intro m
  induction m with
  | zero => intro _ h; exact absurd rfl h
  | succ m ih =>
    intro hm h
    by_cases e : (elim n A m).r = m
    · refine ⟨m, Nat.lt_succ_self _, e, ?_⟩
      have hr := elim_r_n (n := n) (A := A) m
      rw [e] at hr
      obtain ⟨p1, p2, p3, p4⟩ := pv_spec (A := (elim n A m).A) (j := m) hr
      rcases Nat.lt_or_ge (pv (elim n A m).A m n m) n with c | c
      · exact absurd (by rw [elim_next e c]) h
      · omega
    · obtain ⟨j, h1, h2⟩ := ih (by omega) e
      exact ⟨j, by omega, h2⟩
theorem sm_split (f : Nat → Rat) (m : Nat) : ∀ d, sm (m + d) f = sm m f + sm d (fun e => f (m + e)) := by
  intro d
  induction d with
  | zero => show sm m f = sm m f + 0; grind
  | succ d ih => show sm (m + d) f + f (m + d) = sm m f + (sm d (fun e => f (m + e)) + f (m + d)); rw [ih]; grind
theorem sb_eq (a x : Nat → Rat) (s0 : Rat) (m : Nat) : ∀ d, sb a x s0 m d = s0 - sm d (fun e => a (m + e) * x (m + e)) := by
  intro d
  induction d with
  | zero => show s0 = s0 - 0; grind
  | succ d ih => show sb a x s0 m d - _ = s0 - (sm d (fun e => a (m + e) * x (m + e)) + _); rw [ih]; grind
theorem bk_ok {A : Nat → Nat → Rat} {n : Nat} (up : ∀ i k, i < n → k < i → A i k = 0) (dg : ∀ i, i < n → A i i ≠ 0) :
    ∀ t, t ≤ n → ∀ i, n ≤ i + t → i < n → sm n (fun k => A i k * bk A n t k) = A i n := by
  intro t
  induction t with
  | zero => intro _ i h1 h2; omega
  | succ t ih =>
    intro ht i h1 h2
    by_cases e : i = n - 1 - t
    · have hv : bk A n (t + 1) i = sb (A i) (bk A n t) (A i n) (n - t) t / A i i := by simp only [bk]; rw [← e]; exact upd_same _ _ _
      have en : n = i + 1 + t := by omega
      have hs : sm n (fun k => A i k * bk A n (t + 1) k) = 0 + A i i * bk A n (t + 1) i + sm t (fun e => A i (i + 1 + e) * bk A n t (i + 1 + e)) := by
        conv => lhs; rw [en]
        rw [sm_split]
        congr 1
        · show sm i _ + _ = _
          rw [sm_zero fun k hk => by rw [up i k h2 hk]; exact Rat.zero_mul _, ← en]
        · refine sm_congr fun k hk => ?_
          rw [← en, bk_keep (by omega) (by omega)]
      rw [hs, hv, sb_eq, show n - t = i + 1 by omega]
      have := dg i h2
      grind
    · rw [← ih (by omega) i (by omega) h2]
      refine sm_congr fun k hk => ?_
      by_cases ek : k = n - 1 - t
      · rw [up i k h2 (by omega)]; grind
      · have : bk A n (t + 1) k = bk A n t k := by simp only [bk]; exact upd_other _ _ ek
        rw [this]
theorem elim_up {n : Nat} {A : Nat → Nat → Rat} : ∀ j, j ≤ n → (elim n A j).r = j → ∀ i k, i < n → k < i → k < j → (elim n A j).A i k = 0 := by
  intro j
  induction j with
  | zero => intro _ _ i k _ _ h; exact absurd h (Nat.not_lt_zero _)
  | succ j ih =>
    intro hj h i k hi hki hkj
    by_cases e : j + 1 ≤ i
    · exact elim_ech (j + 1) i k hi (by rw [h]; exact e) hkj
    · obtain ⟨h1, h2⟩ := elim_step h
      rw [elim_next h1 h2]
      show redM _ j j i k = 0
      rw [redM_le (.inl (by omega))]
      have hrn := elim_r_n (n := n) (A := A) j
      rw [h1] at hrn
      have hp := (pv_spec (A := (elim n A j).A) (j := j) hrn).1
      by_cases e2 : i = j
      · subst e2; rw [swpM_r]
        exact elim_ech i _ k h2 (by rw [h1]; exact hp) hki
      · unfold swpM; rw [if_neg (by omega), if_neg e2]
        exact ih (by omega) h1 i k hi hki (by omega)
theorem ker1 {n : Nat} {A : Nat → Nat → Rat} {v : Nat → Rat} (hd : (elim n A n).det ≠ 0) (h : Ker n n A v) : ∀ k, k < n → v k = 0 := by
  have hr := (elim_det n (Nat.le_refl _)).1 hd
  have hk := (elim_ker n).2 h
  have up : ∀ i k, i < n → k < i → (elim n A n).A i k = 0 := fun i k hi hk => elim_up n (Nat.le_refl _) hr i k hi hk (by omega)
  have dg := elim_diag n hr
  have : ∀ t, t ≤ n → ∀ i, n ≤ i + t → i < n → v i = 0 := by
    intro t
    induction t with
    | zero => intro _ i h1 h2; omega
    | succ t ih =>
      intro ht i h1 h2
      by_cases e : n ≤ i + t
      · exact ih (by omega) i e h2
      · have en : n = i + 1 + t := by omega
        have h0 := hk i h2
        have hs : sm n (fun k => (elim n A n).A i k * v k) = 0 + (elim n A n).A i i * v i + 0 := by
          conv => lhs; arg 1; rw [en]
          rw [sm_split]
          congr 1
          · show sm i _ + _ = _
            rw [sm_zero fun k hk => by rw [up i k h2 hk]; exact Rat.zero_mul _]
          · exact sm_zero fun k hk => by rw [ih (by omega) (i + 1 + k) (by omega) (by omega)]; exact Rat.mul_zero _
        rw [hs] at h0
        have := dg i h2
        rcases Rat.mul_eq_zero.1 (show (elim n A n).A i i * v i = 0 by grind) with c | c
        · exact absurd c this
        · exact c
  exact fun k hk => this n (Nat.le_refl _) k (by omega) hk
theorem ker0 {n : Nat} {A : Nat → Nat → Rat} (hd : (elim n A n).det = 0) : ∃ v : Nat → Rat, (∃ k, k < n ∧ v k ≠ 0) ∧ Ker n n A v := by
  obtain ⟨j, hj, h1, h2⟩ := elim_fail (A := A) n (Nat.le_refl n) fun e => (elim_det n (Nat.le_refl _)).2 e hd
  have hrn := elim_r_n (n := n) (A := A) j
  rw [h1] at hrn
  obtain ⟨p1, p2, p3, p4⟩ := pv_spec (A := (elim n A j).A) (j := j) hrn
  let A' : Nat → Nat → Rat := fun i k => if k = j then -(elim n A j).A i j else (elim n A j).A i k
  have hb := bk_ok (A := A') (n := j) (fun i k hi hk => by
      show (if k = j then _ else _) = (0 : Rat)
      rw [if_neg (by omega)]; exact elim_up j (by omega) h1 i k (by omega) hk (by omega))
    (fun i hi => by
      show (if i = j then _ else _) ≠ (0 : Rat)
      rw [if_neg (by omega)]; exact elim_diag j h1 i hi) j (Nat.le_refl _)
  refine ⟨fun k => if k < j then bk A' j j k else if k = j then 1 else 0, ⟨j, hj, by simp⟩, (elim_ker j).1 fun i hi => ?_⟩
  have en : n = j + 1 + (n - j - 1) := by omega
  rw [en, sm_split]
  have z : sm (n - j - 1) (fun e => (elim n A j).A i (j + 1 + e) * (fun k => if k < j then bk A' j j k else if k = j then 1 else 0) (j + 1 + e)) = 0 :=
    sm_zero fun e he => by show _ * (if j + 1 + e < j then _ else if j + 1 + e = j then _ else _) = (0 : Rat); rw [if_neg (by omega), if_neg (by omega)]; exact Rat.mul_zero _
  rw [← en, z]
  show sm j _ + (elim n A j).A i j * (if j < j then _ else if j = j then 1 else 0) + 0 = 0
  rw [if_neg (Nat.lt_irrefl j), if_pos rfl]
  by_cases e : i < j
  · have := hb i (by omega) e
    have e2 : sm j (fun k => (elim n A j).A i k * (if k < j then bk A' j j k else if k = j then 1 else 0)) = sm j (fun k => A' i k * bk A' j j k) :=
      sm_congr fun k hk => by
        show _ = (if k = j then _ else (elim n A j).A i k) * _
        rw [if_pos hk, if_neg (by omega)]
    have e3 : A' i j = -(elim n A j).A i j := if_pos rfl
    rw [e2, this, e3]; grind
  · rw [sm_zero fun k hk => by rw [elim_ech j i k hi (by omega) hk]; exact Rat.zero_mul _, p3 i (by omega) (by omega)]; grind
theorem pv_congr {n j r : Nat} {A B : Nat → Nat → Rat} (h : ∀ i, i < n → A i j = B i j) (hr : r ≤ n) : pv A j n r = pv B j n r := by
  obtain ⟨p1, p2, p3, p4⟩ := pv_spec (A := B) (j := j) hr
  refine pv_eq p1 p2 (fun i h1 h2 => by rw [h i (by omega)]; exact p3 i h1 h2) ?_
  by_cases e : pv B j n r = n
  · exact .inl e
  · exact .inr (by rw [h _ (by omega)]; exact p4.resolve_left e)
theorem elim_congr {n : Nat} {A B : Nat → Nat → Rat} (h : ∀ i k, i < n → k < n → A i k = B i k) : ∀ j, j ≤ n →
    (elim n A j).det = (elim n B j).det ∧ (elim n A j).r = (elim n B j).r ∧ ∀ i k, i < n → k < n → (elim n A j).A i k = (elim n B j).A i k := by
  intro j
  induction j with
  | zero => exact fun _ => ⟨rfl, rfl, h⟩
  | succ j ih =>
    intro hj
    obtain ⟨h1, h2, h3⟩ := ih (by omega)
    have hr := elim_r_n (n := n) (A := B) j
    have hp := pv_congr (r := (elim n B j).r) (fun i hi => h3 i j hi (by omega)) hr
    rw [elim_succ, elim_succ]
    unfold elS
    rw [h2, hp, h1]
    obtain ⟨p1, p2, p3, p4⟩ := pv_spec (A := (elim n B j).A) (j := j) hr
    split
    · exact ⟨rfl, rfl, h3⟩
    · rename_i c
      have hs : ∀ i k, i < n → k < n → swpM (elim n A j).A (pv (elim n B j).A j n (elim n B j).r) (elim n B j).r i k = swpM (elim n B j).A (pv (elim n B j).A j n (elim n B j).r) (elim n B j).r i k := by
        intro i k hi hk
        unfold swpM
        split
        · exact h3 _ k (by omega) hk
        · split
          · exact h3 _ k (by omega) hk
          · exact h3 _ k hi hk
      refine ⟨?_, rfl, fun i k hi hk => ?_⟩
      · show _ * _ = _ * _; rw [hs _ j (by omega) (by omega)]
      · show redM _ _ _ i k = redM _ _ _ i k
        unfold redM
        rw [hs i k hi hk, hs i j hi (by omega), hs _ j (by omega) (by omega), hs _ k (by omega) hk]
theorem aug_det {n : Nat} {A : Nat → Nat → Rat} {y : Nat → Rat} : (elim n (augM n A y) n).det = (elim n A n).det :=
  (elim_congr (fun i k _ hk => if_pos hk) n (Nat.le_refl _)).1
theorem slv_ok {n : Nat} {A : Nat → Nat → Rat} {y : Nat → Rat} (hd : (elim n A n).det ≠ 0) : ∀ i, i < n → sm n (fun k => A i k * bk (elim n (augM n A y) n).A n n k) = y i := by
  have hd' : (elim n (augM n A y) n).det ≠ 0 := by rw [aug_det]; exact hd
  have hr := (elim_det n (Nat.le_refl _)).1 hd'
  have hb := bk_ok (A := (elim n (augM n A y) n).A) (n := n) (fun i k hi hk => elim_up n (Nat.le_refl _) hr i k hi hk (by omega)) (elim_diag n hr) n (Nat.le_refl _)
  have hk : Ker n (n + 1) (elim n (augM n A y) n).A fun k => if k < n then bk (elim n (augM n A y) n).A n n k else -1 := fun i hi => by
    show sm n _ + _ * (if n < n then _ else (-1 : Rat)) = 0
    rw [if_neg (Nat.lt_irrefl n), sm_congr (g := fun k => (elim n (augM n A y) n).A i k * bk (elim n (augM n A y) n).A n n k) fun k hk => by show _ * (if k < n then _ else _) = _; rw [if_pos hk], hb i (by omega) hi]
    grind
  intro i hi
  have := (elim_ker n).1 hk i hi
  have h2 : sm n (fun k => A i k * bk (elim n (augM n A y) n).A n n k) + augM n A y i n * (if n < n then bk (elim n (augM n A y) n).A n n n else -1) = 0 := by
    rw [← this]
    show _ = sm n _ + _
    congr 1
    exact sm_congr fun k hk => by show _ = augM n A y i k * _; rw [if_pos hk]; unfold augM; rw [if_pos hk]
  rw [if_neg (Nat.lt_irrefl n), show augM n A y i n = y i from if_neg (Nat.lt_irrefl n)] at h2
  grind
/-- The one answer. -/
theorem slv_one {n : Nat} {A : Nat → Nat → Rat} {u v : Nat → Rat} (hd : (elim n A n).det ≠ 0) (h : ∀ i, i < n → sm n (fun k => A i k * u k) = sm n (fun k => A i k * v k)) : ∀ k, k < n → u k = v k := by
  intro k hk
  have : Ker n n A fun k => u k - v k := fun i hi => by
    have e : (fun k => A i k * (u k - v k)) = fun k => A i k * u k - A i k * v k := by funext k; grind
    rw [e, sm_sub, h i hi]; grind
  have := ker1 hd this k hk
  grind
end Go.Proofs.YtjfcphohgicolaaGreat

namespace Go.Proofs.YtjfcphohgicolaaGreat
open Go
set_option linter.unusedVariables false
set_option linter.unusedSimpArgs false
set_option maxRecDepth 10000
def apl (w : Nat) (A : Nat → Nat → Rat) (y : Nat → Rat) (i : Nat) : Rat := sm w fun k => A i k * y k
theorem apl_bz {w : Nat} {A : Nat → Nat → Rat} {y : Nat → Rat} {a b i : Nat} (hA : ∀ k, k < w → Bz (A i k) a) (hy : ∀ k, k < w → Bz (y k) b) : ∀ k, k ≤ w → Bz (sm k fun k => A i k * y k) (k * (a + b + 1) + 1) := by
  intro k
  induction k with
  | zero => exact fun _ => bz_zero.mono (by omega)
  | succ k ih =>
    intro hk
    exact ((ih (by omega)).add ((hA k (by omega)).mul (hy k (by omega)))).mono (by rw [Nat.succ_mul]; omega)
theorem rapplyM_ok (m m' m'' : Bool) (n w : Nat) (A : Nat → Nat → Rat) (y : Nat → Rat) {a b : Nat} (hA : ∀ i k, i < n → k < w → Bz (A i k) a) (hy : ∀ k, k < w → Bz (y k) b) (hn : n ≤ 1000) (hw : w ≤ 1000) (hb : w * (a + b + 1) + 1 + (a + b) + 1 ≤ 1048576) :
    CallP Tryz.prog 36 [matP m m' n w A, ratsM m'' (lst w y)] (.p (ratsM false (lst n (apl w A y)))) [] := by
  refine callG_of_vc (wr := wr0) Γok mixed Tryz.func36 (by kernel_rfl) rfl (by kernel_rfl) (le_of_ble rfl) (by simp) ?_
  refine SLoop.mkT Nat (fun i => ([(0, .p (matP m m' n w A)), (1, .p (ratsM m'' (lst w y))), (5, .vec 0 3 0 i), (6, .p (.int .i64 i))], [.vec 31 3 (rats (lst i (apl w A y)))]))
    (fun i => i ≤ n) (fun i => n - i) 0 [0] _ _ (.step 5 31 3 rfl (.done _ _)) (Nat.zero_le _) ⟨rfl, by simp, rfl, rfl, rfl, ⟨rfl, rfl, rfl, rfl, trivial⟩, ⟨rfl, trivial⟩⟩ ?_
  intro i hi
  have hi : i ≤ n := hi
  refine SZ.mk (n : Int) (by simp) ?_
  by_cases hin : i < n
  · refine SCmp.yes (decide_eq_true (by omega)) ?_
    refine SCall.pure (rzero_ok) ?_
    refine SLoop.mk (Nat × Rat) (fun (k, s) => ([(0, .p (matP m m' n w A)), (1, .p (ratsM m'' (lst w y))), (5, .vec 0 3 0 i), (6, .p (.int .i64 i)), (7, .bptr 1 0), (8, .p (.int .i64 k))], [.vec 31 3 (rats (lst i (apl w A y))), .box 31 (bxQ s)]))
      (fun (k, s) => k ≤ w ∧ s = sm k fun k => A i k * y k) (fun x => w - x.1) (0, 0) [0, 1] ⟨Nat.zero_le _, rfl⟩ ⟨rfl, by simp, rfl, rfl, rfl, ⟨rfl, rfl, rfl, rfl, rfl, rfl, trivial⟩, ⟨rfl, rfl, trivial⟩⟩ ?_
    intro ⟨k, s⟩ ⟨hk, hs⟩
    have zs : Bz s (k * (a + b + 1) + 1) := by rw [hs]; exact apl_bz (fun k hk => hA i k hin hk) hy k hk
    have hkw : k * (a + b + 1) ≤ w * (a + b + 1) := Nat.mul_le_mul_right _ hk
    refine SZ.mk (w : Int) (by simp [lst]) ?_
    by_cases hkn : k < w
    · refine SCmp.yes (decide_eq_true (by omega)) ?_
      have z1 := (hA i k hin hkn).mul (hy k hkn)
      refine SDraw.mkX (by kernel_rfl) ?_
      repeat refine SOp.mk _ _ (And.intro rfl rfl) rfl ?_
      refine SOp.mk _ _ (SIdx.mf i rfl hin (And.intro rfl rfl)) rfl ?_
      repeat refine SOp.mk _ _ (And.intro rfl rfl) rfl ?_
      refine SOp.mk _ _ (SIdx.rf k rfl hkn (And.intro rfl rfl)) rfl ?_
      repeat refine SOp.mk _ _ (And.intro rfl rfl) rfl ?_
      refine SOp.mk _ _ (SIdx.rf k rfl hkn (And.intro rfl rfl)) rfl ?_
      repeat refine SOp.mk _ _ (And.intro rfl rfl) rfl ?_
      refine SOp.mk _ _ (SCall.pure (rmulq_ok _ _ (hA i k hin hkn) (hy k hkn) (by omega)) (And.intro rfl rfl)) rfl ?_
      refine SOp.mk _ _ (SCall.pure (raddq_ok _ _ zs z1 (by omega)) (And.intro rfl rfl)) rfl ?_
      repeat refine SOp.mk _ _ (And.intro rfl rfl) rfl ?_
      refine SFin.mk (by kernel_rfl) ?_
      refine SWrap.i64z ((k + 1 : Nat) : Int) (by omega) (by omega) ?_
      exact ⟨(k + 1, _), [0, 1], ⟨hkn, by rw [hs]; rfl⟩, by show w - (k + 1) < w - k; omega, ⟨rfl, by simp, rfl, rfl, rfl, ⟨rfl, rfl, rfl, rfl, rfl, rfl, trivial⟩, ⟨rfl, rfl, trivial⟩⟩⟩
    · refine SCmp.no (decide_eq_false (by omega)) ?_
      obtain rfl : k = w := by omega
      refine SEqN.mk (by simp [lst]) <| SView.all rfl <| SRoom.mk (by simp [lst]; omega) (by simp [lst]; omega) <| SEs.mk (rats (lst (i + 1) (apl k A y))) (app_lst _ _ _ (hs)) <| SZN.mk (i + 1) (by simp [lst]) ?_
      refine SWrap.i64z ((i + 1 : Nat) : Int) (by omega) (by omega) ?_
      exact ⟨i + 1, [3], hin, by show n - (i + 1) < n - i; omega, ⟨rfl, by simp, rfl, rfl, rfl, ⟨rfl, rfl, rfl, rfl, trivial⟩, ⟨rfl, trivial⟩⟩⟩
  · refine SCmp.no (decide_eq_false (by omega)) ?_
    obtain rfl : i = n := by omega
    exact SRet.pure (frzR (h := 0) (l := lst i (apl w A y)) rfl (by simp [lst]))
/-- A product's entries, as the document comes to them. -/
def mulM (n : Nat) (A B : Nat → Nat → Rat) (i j : Nat) : Rat := sm n fun k => B k j * A i k
theorem sm_comm {F : Nat → Nat → Rat} {m : Nat} : ∀ n, sm n (fun i => sm m fun j => F i j) = sm m fun j => sm n fun i => F i j := by
  intro n
  induction n with
  | zero => show (0 : Rat) = sm m fun _ => 0; exact (sm_zero fun _ _ => rfl).symm
  | succ n ih =>
    show sm n _ + sm m _ = sm m fun j => sm n (fun i => F i j) + F n j
    rw [ih, sm_add (fun j => sm n fun i => F i j) (fun j => F n j)]
end Go.Proofs.YtjfcphohgicolaaGreat

namespace Go.Proofs.YtjfcphohgicolaaGreat
def pm : Nat → (Nat → Rat) → Rat
  | 0, _ => 1
  | n + 1, f => pm n f * f n
def pmx (n k : Nat) (f : Nat → Rat) : Rat := pm n fun t => if t = k then 1 else f t
theorem pm_congr {f g : Nat → Rat} : ∀ {n : Nat}, (∀ i, i < n → f i = g i) → pm n f = pm n g := by
  intro n
  induction n with
  | zero => exact fun _ => rfl
  | succ n ih => intro h; simp only [pm]; rw [ih fun i hi => h i (by omega), h n (by omega)]
theorem pm_ne {f : Nat → Rat} : ∀ {n : Nat}, (∀ i, i < n → f i ≠ 0) → pm n f ≠ 0 := by
  intro n
  induction n with
  | zero => intro _; simp only [pm]; decide
  | succ n ih =>
    intro h e
    rcases Rat.mul_eq_zero.1 e with e | e
    · exact ih (fun i hi => h i (by omega)) e
    · exact h n (by omega) e
theorem pm_zero {f : Nat → Rat} {k : Nat} : ∀ {n : Nat}, k < n → f k = 0 → pm n f = 0 := by
  intro n
  induction n with
  | zero => intro h; exact absurd h (Nat.not_lt_zero _)
  | succ n ih =>
    intro h e
    simp only [pm]
    by_cases c : k = n
    · rw [← c, e]; exact Rat.mul_zero _
    · rw [ih (by omega) e]; exact Rat.zero_mul _
theorem pmx_ne {f : Nat → Rat} {n k : Nat} (h : ∀ i, i < n → i ≠ k → f i ≠ 0) : pmx n k f ≠ 0 :=
  pm_ne fun i hi => by
    by_cases e : i = k
    · rw [if_pos e]; decide
    · rw [if_neg e]; exact h i hi e
theorem pmx_zero {f : Nat → Rat} {n k l : Nat} (hl : l < n) (hk : l ≠ k) (h : f l = 0) : pmx n k f = 0 := pm_zero hl (by rw [if_neg hk]; exact h)
theorem pmx_ge {f : Nat → Rat} {n k : Nat} (h : n ≤ k) : pmx n k f = pm n f := pm_congr fun i hi => if_neg (by omega)
theorem pmx_succ {f : Nat → Rat} {n k : Nat} (h : n ≠ k) : pmx (n + 1) k f = pmx n k f * f n := by
  show pm n _ * (if n = k then 1 else f n) = _
  rw [if_neg h]; rfl
theorem pmx_self {f : Nat → Rat} {n : Nat} : pmx (n + 1) n f = pm n f := by
  show pm n _ * (if n = n then 1 else f n) = _
  rw [if_pos rfl, Rat.mul_one]; exact pmx_ge (Nat.le_refl n)
theorem pm_split {f : Nat → Rat} {k : Nat} : ∀ {n : Nat}, k < n → pm n f = f k * pmx n k f := by
  intro n
  induction n with
  | zero => intro h; exact absurd h (Nat.not_lt_zero _)
  | succ n ih =>
    intro h
    by_cases c : k = n
    · subst c; rw [pmx_self]; simp only [pm]; exact Rat.mul_comm _ _
    · rw [pmx_succ (by omega)]; simp only [pm]; rw [ih (by omega)]; grind
def PolE (k : Nat) (g : Rat → Rat) : Prop := ∃ c : Nat → Rat, ∀ X, pev k c X = g X
theorem PolE.zero (k : Nat) : PolE k fun _ => 0 := ⟨fun i => 0 * (0 : Rat), fun X => by rw [pev_smul k 0 (fun _ => 0) X]; exact Rat.zero_mul _⟩
theorem PolE.add {k : Nat} {g h : Rat → Rat} (hg : PolE k g) (hh : PolE k h) : PolE k fun X => g X + h X := by
  obtain ⟨c, hc⟩ := hg
  obtain ⟨d, hd⟩ := hh
  exact ⟨fun i => c i + d i, fun X => by rw [pev_add, hc, hd]⟩
theorem PolE.smul {k : Nat} {g : Rat → Rat} (b : Rat) (hg : PolE k g) : PolE k fun X => b * g X := by
  obtain ⟨c, hc⟩ := hg
  exact ⟨fun i => b * c i, fun X => by rw [pev_smul, hc]⟩
theorem PolE.mulX {k : Nat} {g : Rat → Rat} (hg : PolE k g) (r : Rat) : PolE (k + 1) fun X => g X * (r - X) := by
  obtain ⟨c, hc⟩ := hg
  obtain ⟨d, _, hd⟩ := (Pol.mulX (g := g) ⟨c, rfl, hc⟩ r).smul (-1)
  exact ⟨d, fun X => by rw [hd]; grind⟩
theorem PolE.pm (a : Nat → Rat) : ∀ n, PolE n fun X => pm n fun t => a t - X := by
  intro n
  induction n with
  | zero => exact ⟨fun _ => 1, fun X => rfl⟩
  | succ n ih => exact ih.mulX (a n)
theorem PolE.pmx (a : Nat → Rat) (j : Nat) : ∀ n, j < n + 1 → PolE n fun X => pmx (n + 1) j fun t => a t - X := by
  intro n
  induction n with
  | zero =>
    intro h
    obtain rfl : j = 0 := by omega
    have : (fun X : Rat => Go.Proofs.YtjfcphohgicolaaGreat.pmx (0 + 1) 0 fun t => a t - X) = fun X => Go.Proofs.YtjfcphohgicolaaGreat.pm 0 fun t => a t - X := by funext X; exact pmx_self
    rw [this]; exact PolE.pm a 0
  | succ n ih =>
    intro h
    by_cases e : j = n + 1
    · subst e
      have : (fun X : Rat => Go.Proofs.YtjfcphohgicolaaGreat.pmx (n + 1 + 1) (n + 1) fun t => a t - X) = fun X => Go.Proofs.YtjfcphohgicolaaGreat.pm (n + 1) fun t => a t - X := by funext X; exact pmx_self
      rw [this]; exact PolE.pm a (n + 1)
    · have : (fun X : Rat => Go.Proofs.YtjfcphohgicolaaGreat.pmx (n + 1 + 1) j fun t => a t - X) = fun X => (Go.Proofs.YtjfcphohgicolaaGreat.pmx (n + 1) j fun t => a t - X) * (a (n + 1) - X) := by funext X; exact pmx_succ (by omega)
      rw [this]; exact (ih (by omega)).mulX _
theorem PolE.sum {k : Nat} {G : Nat → Rat → Rat} : ∀ m, (∀ t, t < m → PolE k (G t)) → PolE k fun X => sm m fun t => G t X := by
  intro m
  induction m with
  | zero => exact fun _ => PolE.zero k
  | succ m ih => intro h; exact (ih fun t ht => h t (by omega)).add (h m (by omega))
theorem PolE.eq {k : Nat} {g h : Rat → Rat} {r : Nat → Rat} (hg : PolE k g) (hh : PolE k h) (hi : Inj r (k + 1)) (he : ∀ l, l < k + 1 → g (r l) = h (r l)) (X : Rat) : g X = h X := by
  obtain ⟨c, hc⟩ := hg
  obtain ⟨d, hd⟩ := hh
  rw [← hc, ← hd]
  exact pev_congr k X (pev_eq hi fun l hl => by rw [hc, hd]; exact he l hl)
theorem rsub_ne {a b : Rat} (h : a ≠ b) : a - b ≠ 0 := fun e => h (by grind)
/-- Parts of a quotient of polynomials. -/
theorem parts {n : Nat} {b : Nat → Rat} (hb : Inj b n) {g : Rat → Rat} (hn : 1 ≤ n) (hg : PolE (n - 1) g) {x : Rat} (hx : ∀ k, k < n → x ≠ b k) :
    sm n (fun k => 1 / (x - b k) * (g (b k) / pmx n k fun t => b t - b k)) = -(g x / pm n fun t => b t - x) := by
  obtain ⟨m, rfl⟩ : ∃ m, n = m + 1 := ⟨n - 1, by omega⟩
  have hnz : ∀ k, k < m + 1 → (pmx (m + 1) k fun t => b t - b k) ≠ 0 := fun k hk => pmx_ne fun t ht e => rsub_ne fun c => e (hb t k ht hk c)
  have key := PolE.eq (g := fun X => sm (m + 1) fun k => g (b k) / (pmx (m + 1) k fun t => b t - b k) * pmx (m + 1) k fun t => b t - X) (PolE.sum (m + 1) fun k hk => (PolE.pmx b k m hk).smul _) hg hb (fun l hl => by
    show (sm (m + 1) fun k => g (b k) / (pmx (m + 1) k fun t => b t - b k) * pmx (m + 1) k fun t => b t - b l) = g (b l)
    have : (sm (m + 1) fun k => g (b k) / (pmx (m + 1) k fun t => b t - b k) * pmx (m + 1) k fun t => b t - b l) = sm (m + 1) fun k => g (b k) * (if k = l then 1 else 0) := sm_congr fun k hk => by
      by_cases e : k = l
      · subst e; rw [if_pos rfl]; have := hnz k hk; grind
      · rw [if_neg e, pmx_zero (f := fun t => b t - b l) (l := l) hl (Ne.symm e) (by grind)]; grind
    rw [this]; exact sm_one hl _) x
  have hp : pm (m + 1) (fun t => b t - x) ≠ 0 := pm_ne fun t ht => rsub_ne fun c => hx t ht c.symm
  have key : (sm (m + 1) fun k => g (b k) / (pmx (m + 1) k fun t => b t - b k) * pmx (m + 1) k fun t => b t - x) = g x := key
  rw [← key]
  have : (sm (m + 1) fun k => g (b k) / (pmx (m + 1) k fun t => b t - b k) * pmx (m + 1) k fun t => b t - x) = -(pm (m + 1) fun t => b t - x) * sm (m + 1) (fun k => 1 / (x - b k) * (g (b k) / pmx (m + 1) k fun t => b t - b k)) := by
    rw [← sm_smul]
    refine sm_congr fun k hk => ?_
    rw [pm_split hk]
    have h1 := hnz k hk
    have h2 : x - b k ≠ 0 := rsub_ne (hx k hk)
    generalize (pmx (m + 1) k fun t => b t - x) = u
    generalize (pmx (m + 1) k fun t => b t - b k) = v at h1
    generalize g (b k) = y
    generalize b k = z at h2
    grind
  rw [this]
  generalize (sm (m + 1) fun k => 1 / (x - b k) * (g (b k) / pmx (m + 1) k fun t => b t - b k)) = S
  generalize pm (m + 1) (fun t => b t - x) = p at hp
  grind
end Go.Proofs.YtjfcphohgicolaaGreat

namespace Go.Proofs.YtjfcphohgicolaaGreat
open Go
set_option linter.unusedVariables false
set_option linter.unusedSimpArgs false
set_option maxRecDepth 10000
theorem bz_one' {b : Nat} (h : 1 ≤ b) : Bz (((1 : Int) : Rat)) b := bz_one.mono h
theorem Wf.dif {g : GV} {b c : Nat} (h : Wf g b c) {i j : Nat} (hi : i < g.la) (hj : j < g.lb) : Bz (g.A i - g.B j) (b + c + 1) ∧ g.A i - g.B j ≠ 0 :=
  ⟨(h.bA i hi).sub (h.bB j hj), fun e => h.ne i j hi hj (by grind)⟩
/-- How many digits an entry has. -/
def eb (b c : Nat) : Nat := 24 * b + c + 30
theorem Wf.la12 {g : GV} {b c : Nat} (h : Wf g b c) (hk : g.k = 1 ∨ g.k = 2) : g.la = 2 * g.n - 1 := by unfold GV.la cntA; rw [if_pos hk]
theorem Wf.la3 {g : GV} {b c : Nat} (h : Wf g b c) (hk : g.k = 3 ∨ g.k = 4 ∨ g.k = 5 ∨ g.k = 7) : g.la = g.n := by unfold GV.la cntA; rw [if_neg (by omega), if_neg (by omega)]
theorem Wf.lb5 {g : GV} {b c : Nat} (h : Wf g b c) (hk : g.k = 5 ∨ g.k = 7) : g.lb = g.n := by unfold GV.lb cntB; rw [if_pos hk]
theorem Wf.bSum {g : GV} {b c : Nat} (h : Wf g b c) (hk : g.k = 6 ∨ g.k = 7) {i j : Nat} (hi : i < g.n) (hj : j < g.n) : ∀ k, k ≤ min i j + 1 → Bz (sm k fun m => rowS g (i - m) (j - m)) (k * (2 * (2 * b + 1) + 1 + 1) + 1) :=
  sm_bz' (F := fun m => rowS g (i - m) (j - m)) (n := min i j + 1) fun m hm => h.bRow hk (by omega) (by omega)
theorem Wf.bEnt {g : GV} {b c : Nat} (h : Wf g b c) {i j : Nat} (hi : i < g.n) (hj : j < g.n) : Bz (ent g i j) (eb b c) := by
  have h8 := h.n6
  unfold ent eb
  rcases k_cases h.k1 h.k7 with e | e | e | e | e | e | e
  · rw [if_pos e]
    exact (h.bA _ (by rw [h.la12 (by omega)]; omega)).mono (by omega)
  · rw [if_neg (by omega), if_pos e]
    exact (h.bA _ (by rw [h.la12 (by omega)]; omega)).mono (by omega)
  · rw [if_neg (by omega), if_neg (by omega), if_pos e]
    exact (h.bA _ (by rw [h.la3 (by omega)]; exact Nat.mod_lt _ (by omega))).mono (by omega)
  · rw [if_neg (by omega), if_neg (by omega), if_neg (by omega), if_pos e]
    have hj7 : b * j ≤ b * 5 := Nat.mul_le_mul_left _ (by omega)
    exact (bz_pow (h.bA i (by rw [h.la3 (by omega)]; exact hi)) j).mono (by omega)
  · rw [if_neg (by omega), if_neg (by omega), if_neg (by omega), if_neg (by omega), if_pos e]
    have := h.dif (i := i) (j := j) (by rw [h.la3 (by omega)]; exact hi) (by rw [h.lb5 (by omega)]; exact hj)
    exact (bz_one.div this.1).mono (by omega)
  · rw [if_neg (by omega), if_neg (by omega), if_neg (by omega), if_neg (by omega), if_neg (by omega), if_pos e]
    have z := h.bSum (.inl e) hi hj (min i j + 1) (Nat.le_refl _)
    have := Nat.mul_le_mul_right (2 * (2 * b + 1) + 1 + 1) (show min i j + 1 ≤ 6 by omega)
    exact z.mono (by omega)
  · rw [if_neg (by omega), if_neg (by omega), if_neg (by omega), if_neg (by omega), if_neg (by omega), if_neg (by omega)]
    have := h.dif (i := i) (j := j) (by rw [h.la3 (by omega)]; exact hi) (by rw [h.lb5 (by omega)]; exact hj)
    exact ((h.bRow (.inr e) hi hj).div this.1).mono (by omega)
theorem rentry5_ok (m : Nat → Bool) (g : GV) {b c : Nat} (h : Wf g b c) (i j : Nat) (hi : i < g.n) (hj : j < g.n) :
    CallP Tryz.prog 52 [genP m g, .int .i64 i, .int .i64 j] (.p (ratP (ent g i j))) [] := by
  have h8 := h.n6
  have h2 := h.r2
  have h4 := h.c4
  have h5 := h.bc
  rcases k_cases h.k1 h.k7 with e | e | e | e | e | e | e
  · have hl := h.la12 (.inl e)
    have hE : ent g i j = g.A (i + g.n - 1 - j) := by unfold ent; rw [if_pos e]
    rw [hE]
    refine callG_of_vc (wr := wr0) Γok mixed Tryz.func52 (by kernel_rfl) rfl (by kernel_rfl) (le_of_ble rfl) (by simp) ?_
    refine SCmp.yes (decide_eq_true (by omega)) ?_
    refine SWrap.i64z ((i : Int) - j) rfl (by omega) ?_
    refine SWrap.i64z ((i + g.n - j : Nat) : Int) (by omega) (by omega) ?_
    refine SWrap.i64z ((i + g.n - 1 - j : Nat) : Int) (by omega) (by omega) ?_
    refine SIdx.rf (i + g.n - 1 - j) rfl (by omega) ?_
    refine SCall.pure (rcopyq_ok (h.bA (i + g.n - 1 - j) (by omega)) (by omega)) ?_
    exact SRet.pure (.p _ (pers_rat _ _ _))
  · have hl := h.la12 (.inr e)
    have hE : ent g i j = g.A (i + j) := by unfold ent; rw [if_neg (by omega), if_pos e]
    rw [hE]
    refine callG_of_vc (wr := wr0) Γok mixed Tryz.func52 (by kernel_rfl) rfl (by kernel_rfl) (le_of_ble rfl) (by simp) ?_
    refine SCmp.no (decide_eq_false (by omega)) ?_
    refine SCmp.yes (decide_eq_true (by omega)) ?_
    refine SWrap.i64z ((i + j : Nat) : Int) (by omega) (by omega) ?_
    refine SIdx.rf (i + j) rfl (by omega) ?_
    refine SCall.pure (rcopyq_ok (h.bA (i + j) (by omega)) (by omega)) ?_
    exact SRet.pure (.p _ (pers_rat _ _ _))
  · have hl := h.la3 (by omega)
    have hE : ent g i j = g.A ((i + g.n - j) % g.n) := by unfold ent; rw [if_neg (by omega), if_neg (by omega), if_pos e]
    have hm : (i + g.n - j) % g.n < g.n := Nat.mod_lt _ (by omega)
    rw [hE]
    refine callG_of_vc (wr := wr0) Γok mixed Tryz.func52 (by kernel_rfl) rfl (by kernel_rfl) (le_of_ble rfl) (by simp) ?_
    refine SCmp.no (decide_eq_false (by omega)) ?_
    refine SCmp.no (decide_eq_false (by omega)) ?_
    refine SCmp.yes (decide_eq_true (by omega)) ?_
    refine SDraw.mkX (by kernel_rfl) ?_
    repeat refine SOp.mk _ _ (And.intro rfl rfl) rfl ?_
    refine SOp.mk _ _ (SWrap.i64z ((i : Int) - j) rfl (by omega) (And.intro rfl rfl)) rfl ?_
    repeat refine SOp.mk _ _ (And.intro rfl rfl) rfl ?_
    refine SOp.mk _ _ (SWrap.i64z ((i + g.n - j : Nat) : Int) (by omega) (by omega) (And.intro rfl rfl)) rfl ?_
    repeat refine SOp.mk _ _ (And.intro rfl rfl) rfl ?_
    refine SOp.mk _ _ (SRem (b := g.n) (by omega) rfl (And.intro rfl rfl)) rfl ?_
    refine SOp.mk _ _ (SIdx.rf ((i + g.n - j) % g.n) rfl (by omega) (And.intro rfl rfl)) rfl ?_
    repeat refine SOp.mk _ _ (And.intro rfl rfl) rfl ?_
    refine SOp.mk _ _ (SCall.pure (rcopyq_ok (h.bA ((i + g.n - j) % g.n) (by omega)) (by omega)) (And.intro rfl rfl)) rfl ?_
    repeat refine SOp.mk _ _ (And.intro rfl rfl) rfl ?_
    refine SFin.mk (by kernel_rfl) ?_
    exact SRet.pure (.p _ (pers_rat _ _ _))
  · have hl := h.la3 (by omega)
    have hE : ent g i j = g.A i ^ j := by unfold ent; rw [if_neg (by omega), if_neg (by omega), if_neg (by omega), if_pos e]
    rw [hE]
    have hz := h.bA i (by omega)
    refine callG_of_vc (wr := wr0) Γok mixed Tryz.func52 (by kernel_rfl) rfl (by kernel_rfl) (le_of_ble rfl) (by simp) ?_
    refine SCmp.no (decide_eq_false (by omega)) ?_
    refine SCmp.no (decide_eq_false (by omega)) ?_
    refine SCmp.no (decide_eq_false (by omega)) ?_
    refine SCmp.yes (decide_eq_true (by omega)) ?_
    refine SCall.pure (rint_ok 1 (by decide)) ?_
    refine SLoop.mk (Nat × Rat) (fun (t, q) => ([(1, .p (.int .i64 i)), (2, .p (.int .i64 j)), (3, .bptr 0 0), (6, .bptr 1 0), (7, .bptr 2 0), (8, .p (.int .i64 t))], [.box 26 (genA m g), .box 31 zratA, .box 31 (bxQ q)]))
      (fun (t, q) => t ≤ j ∧ q = g.A i ^ t) (fun x => j - x.1) (0, ((1 : Int) : Rat)) [0, 1, 2] ⟨Nat.zero_le _, (Rat.pow_zero _).symm⟩ ⟨rfl, by simp, rfl, rfl, rfl, ⟨rfl, rfl, rfl, rfl, rfl, rfl, trivial⟩, ⟨rfl, rfl, rfl, trivial⟩⟩ ?_
    intro ⟨t, q⟩ ⟨ht, hq⟩
    by_cases htj : t < j
    · refine SCmp.yes (decide_eq_true (by omega)) ?_
      have zq : Bz q (b * t + 1) := by rw [hq]; exact bz_pow hz t
      have hbt : b * t ≤ b * 5 := Nat.mul_le_mul_left _ (by omega)
      refine SDraw.mkX (by kernel_rfl) ?_
      repeat refine SOp.mk _ _ (And.intro rfl rfl) rfl ?_
      refine SOp.mk _ _ (SIdx.rf i rfl (by omega) (And.intro rfl rfl)) rfl ?_
      repeat refine SOp.mk _ _ (And.intro rfl rfl) rfl ?_
      refine SOp.mk _ _ (SCall.pure (rmulq_ok _ _ zq hz (by omega)) (And.intro rfl rfl)) rfl ?_
      repeat refine SOp.mk _ _ (And.intro rfl rfl) rfl ?_
      refine SFin.mk (by kernel_rfl) ?_
      refine SWrap.i64z ((t + 1 : Nat) : Int) (by omega) (by omega) ?_
      exact ⟨(t + 1, q * g.A i), [0, 1, 2], ⟨htj, by rw [hq, Rat.pow_succ]⟩, by show j - (t + 1) < j - t; omega, ⟨rfl, by simp, rfl, rfl, rfl, ⟨rfl, rfl, rfl, rfl, rfl, rfl, trivial⟩, ⟨rfl, rfl, rfl, trivial⟩⟩⟩
    · refine SCmp.no (decide_eq_false (by omega)) ?_
      obtain rfl : t = j := by omega
      rw [← hq]
      exact SRet.pure (.p _ (pers_rat _ _ _))
  · have hl := h.la3 (by omega)
    have hl2 := h.lb5 (by omega)
    have hE : ent g i j = 1 / (g.A i - g.B j) := by unfold ent; rw [if_neg (by omega), if_neg (by omega), if_neg (by omega), if_neg (by omega), if_pos e]
    rw [hE]
    have hd := h.dif (i := i) (j := j) (by omega) (by omega)
    refine callG_of_vc (wr := wr0) Γok mixed Tryz.func52 (by kernel_rfl) rfl (by kernel_rfl) (le_of_ble rfl) (by simp) ?_
    refine SCmp.no (decide_eq_false (by omega)) ?_
    refine SCmp.no (decide_eq_false (by omega)) ?_
    refine SCmp.no (decide_eq_false (by omega)) ?_
    refine SCmp.no (decide_eq_false (by omega)) ?_
    refine SCmp.yes (decide_eq_true (by omega)) ?_
    refine SDraw.mkX (by kernel_rfl) ?_
    refine SOp.mk _ _ (SCall.pure (rint_ok 1 (by decide)) (And.intro rfl rfl)) rfl ?_
    repeat refine SOp.mk _ _ (And.intro rfl rfl) rfl ?_
    refine SOp.mk _ _ (SIdx.rf i rfl (by omega) (And.intro rfl rfl)) rfl ?_
    repeat refine SOp.mk _ _ (And.intro rfl rfl) rfl ?_
    refine SOp.mk _ _ (SIdx.rf j rfl (by omega) (And.intro rfl rfl)) rfl ?_
    repeat refine SOp.mk _ _ (And.intro rfl rfl) rfl ?_
    refine SOp.mk _ _ (SCall.pure (rsubq_ok _ _ (h.bA i (by omega)) (h.bB j (by omega)) (by omega)) (And.intro rfl rfl)) rfl ?_
    refine SOp.mk _ _ (SCall.pure (rover_ok (((1 : Int) : Rat)) _ hd.2 (bz_one' (Nat.le_refl 1)) hd.1 (by omega)) (And.intro rfl rfl)) rfl ?_
    repeat refine SOp.mk _ _ (And.intro rfl rfl) rfl ?_
    refine SFin.mk (by kernel_rfl) ?_
    exact SRet.pure (.p _ (pers_rat _ _ _))
  · have hE : ent g i j = sm (min i j + 1) fun m => rowS g (i - m) (j - m) := by unfold ent; rw [if_neg (by omega), if_neg (by omega), if_neg (by omega), if_neg (by omega), if_neg (by omega), if_pos e]
    rw [hE]
    have zS := h.bSum (.inl e) hi hj
    refine callG_of_vc (wr := wr0) Γok mixed Tryz.func52 (by kernel_rfl) rfl (by kernel_rfl) (le_of_ble rfl) (by simp) ?_
    refine SCmp.no (decide_eq_false (by omega)) ?_
    refine SCmp.no (decide_eq_false (by omega)) ?_
    refine SCmp.no (decide_eq_false (by omega)) ?_
    refine SCmp.no (decide_eq_false (by omega)) ?_
    refine SCmp.no (decide_eq_false (by omega)) ?_
    refine SCmp.yes (decide_eq_true (by omega)) ?_
    refine SCall.pure (rzero_ok) ?_
    refine SLoop.mk Nat (fun t => ([(1, .p (.int .i64 i)), (2, .p (.int .i64 j)), (3, .bptr 0 0), (6, .bptr 1 0), (9, .bptr 2 0), (10, .p (.int .i64 t))], [.box 26 (genA m g), .box 31 zratA, .box 31 (bxQ (sm t fun m => rowS g (i - m) (j - m)))]))
      (fun t => t ≤ min i j + 1) (fun t => min i j + 1 - t) 0 [0, 1, 2] (Nat.zero_le _) ⟨rfl, by simp, rfl, rfl, rfl, ⟨rfl, rfl, rfl, rfl, rfl, rfl, trivial⟩, ⟨rfl, rfl, rfl, trivial⟩⟩ ?_
    intro t ht
    have ht : t ≤ min i j + 1 := ht
    refine SZ.mk ((min i j : Nat) : Int) (by show (if (j : Int) < (i : Int) then (j : Int) else (i : Int)) = _; split <;> omega) ?_
    by_cases htj : t < min i j + 1
    · refine SCmp.yes (decide_eq_true (by omega)) ?_
      have lt : t * (2 * (2 * b + 1) + 1 + 1) ≤ 6 * (2 * (2 * b + 1) + 1 + 1) := Nat.mul_le_mul_right _ (by omega)
      refine SDraw.mkX (by kernel_rfl) ?_
      repeat refine SOp.mk _ _ (And.intro rfl rfl) rfl ?_
      refine SOp.mk _ _ (SWrap.i64z ((i - t : Nat) : Int) (by omega) (by omega) (And.intro rfl rfl)) rfl ?_
      repeat refine SOp.mk _ _ (And.intro rfl rfl) rfl ?_
      refine SOp.mk _ _ (SWrap.i64z ((j - t : Nat) : Int) (by omega) (by omega) (And.intro rfl rfl)) rfl ?_
      refine SOp.mk _ _ (SCall.pure (rrow5_ok m g h (.inl e) (i - t) (j - t) (by omega) (by omega)) (And.intro rfl rfl)) rfl ?_
      refine SOp.mk _ _ (SCall.pure (raddq_ok _ _ (zS t ht) (h.bRow (.inl e) (i := i - t) (j := j - t) (by omega) (by omega)) (by omega)) (And.intro rfl rfl)) rfl ?_
      repeat refine SOp.mk _ _ (And.intro rfl rfl) rfl ?_
      refine SFin.mk (by kernel_rfl) ?_
      refine SWrap.i64z ((t + 1 : Nat) : Int) (by omega) (by omega) ?_
      exact ⟨t + 1, [0, 1, 2], htj, by show min i j + 1 - (t + 1) < min i j + 1 - t; omega, ⟨rfl, by simp, rfl, rfl, rfl, ⟨rfl, rfl, rfl, rfl, rfl, rfl, trivial⟩, ⟨rfl, rfl, rfl, trivial⟩⟩⟩
    · refine SCmp.no (decide_eq_false (by omega)) ?_
      obtain rfl : t = min i j + 1 := by omega
      exact SRet.pure (.p _ (pers_rat _ _ _))
  · have hl := h.la3 (by omega)
    have hl2 := h.lb5 (by omega)
    have hE : ent g i j = rowS g i j / (g.A i - g.B j) := by unfold ent; rw [if_neg (by omega), if_neg (by omega), if_neg (by omega), if_neg (by omega), if_neg (by omega), if_neg (by omega)]
    rw [hE]
    have hd := h.dif (i := i) (j := j) (by omega) (by omega)
    refine callG_of_vc (wr := wr0) Γok mixed Tryz.func52 (by kernel_rfl) rfl (by kernel_rfl) (le_of_ble rfl) (by simp) ?_
    refine SCmp.no (decide_eq_false (by omega)) ?_
    refine SCmp.no (decide_eq_false (by omega)) ?_
    refine SCmp.no (decide_eq_false (by omega)) ?_
    refine SCmp.no (decide_eq_false (by omega)) ?_
    refine SCmp.no (decide_eq_false (by omega)) ?_
    refine SCmp.no (decide_eq_false (by omega)) ?_
    refine SDraw.mkX (by kernel_rfl) ?_
    repeat refine SOp.mk _ _ (And.intro rfl rfl) rfl ?_
    refine SOp.mk _ _ (SCall.pure (rrow5_ok m g h (.inr e) i j hi hj) (And.intro rfl rfl)) rfl ?_
    repeat refine SOp.mk _ _ (And.intro rfl rfl) rfl ?_
    refine SOp.mk _ _ (SIdx.rf i rfl (by omega) (And.intro rfl rfl)) rfl ?_
    repeat refine SOp.mk _ _ (And.intro rfl rfl) rfl ?_
    refine SOp.mk _ _ (SIdx.rf j rfl (by omega) (And.intro rfl rfl)) rfl ?_
    repeat refine SOp.mk _ _ (And.intro rfl rfl) rfl ?_
    refine SOp.mk _ _ (SCall.pure (rsubq_ok _ _ (h.bA i (by omega)) (h.bB j (by omega)) (by omega)) (And.intro rfl rfl)) rfl ?_
    refine SOp.mk _ _ (SCall.pure (rover_ok _ _ hd.2 (h.bRow (.inr e) hi hj) hd.1 (by omega)) (And.intro rfl rfl)) rfl ?_
    repeat refine SOp.mk _ _ (And.intro rfl rfl) rfl ?_
    refine SFin.mk (by kernel_rfl) ?_
    exact SRet.pure (.p _ (pers_rat _ _ _))
end Go.Proofs.YtjfcphohgicolaaGreat

namespace Go.Proofs.YtjfcphohgicolaaGreat
open Go
set_option linter.unusedVariables false
set_option linter.unusedSimpArgs false
set_option maxRecDepth 10000
theorem gcheck1_ok (m : Nat → Bool) (n r : Nat) (A B G H : Nat → Rat) {b c : Nat} (h : Wf ⟨1, n, r, A, B, G, H⟩ b c) : CallP Tryz.prog 72 [genP m ⟨1, n, r, A, B, G, H⟩] (.p (.int .i64 0)) [] := by
  have n6 : n ≤ 6 := h.n6
  have n1 : 1 ≤ n := h.n1
  have r2 : r ≤ 2 := h.r2
  have hnr : n * r ≤ 12 := Nat.mul_le_mul n6 r2
  have hc4 := h.c4
  have hbc := h.bc
  have cc := cnt_le (k := 1) (r := r) n1 (show n ≤ 8 by omega) (show r ≤ 3 by omega)
  have cb : ∀ i : Nat, (if i = 0 then cntA 1 n else if i = 1 then cntB 1 n else cntH 1 n r) ≤ 24 := fun i => by split <;> (try split) <;> omega
  show CallP Tryz.prog 72 [.agg [.int .i64 ((1 : Nat) : Int), .int .i64 (n : Int), .int .i64 (r : Int), ratsM (m 0) (lst (cntA 1 n) A), ratsM (m 1) (lst (cntB 1 n) B), ratsM (m 2) (lst (cntH 1 n r) G), ratsM (m 3) (lst (cntH 1 n r) H)]] (.p (.int .i64 0)) []
  refine callG_of_vc (wr := wr0) Γok mixed Tryz.func72 (by kernel_rfl) rfl (by kernel_rfl) (le_of_ble rfl) (by simp) ?_
  refine SCmp.no (decide_eq_false (by omega)) ?_
  refine SCmp.no (decide_eq_false (by omega)) ?_
  refine SCall.pure (sized_ok m ⟨1, n, r, A, B, G, H⟩ h) ?_
  refine SCmp.no (rfl) ?_
  refine SCall.lent [genP m ⟨1, n, r, A, B, G, H⟩] _ rfl (genrows_ok m ⟨1, n, r, A, B, G, H⟩) ?_
  refine SCall.pure (counts_ok) ?_
  refine SLoop.mk Nat (fun i => ([(1, .bptr 0 0), (3, .bptr 1 0), (4, .p (.mp false cntM)), (28, .p (.agg [ratsM (m 0) (lst (cntA 1 n) A), ratsM (m 1) (lst (cntB 1 n) B), ratsM (m 2) (lst (cntH 1 n r) G), ratsM (m 3) (lst (cntH 1 n r) H)])), (29, .p (.int .i64 i))], [.box 26 [.p (.int .i64 ((1 : Nat) : Int)), .p (.int .i64 (n : Int)), .p (.int .i64 (r : Int)), .p (ratsM (m 0) (lst (cntA 1 n) A)), .p (ratsM (m 1) (lst (cntB 1 n) B)), .p (ratsM (m 2) (lst (cntH 1 n r) G)), .p (ratsM (m 3) (lst (cntH 1 n r) H))], .box 121 [.p (ratsM (m 0) (lst (cntA 1 n) A)), .p (ratsM (m 1) (lst (cntB 1 n) B)), .p (ratsM (m 2) (lst (cntH 1 n r) G)), .p (ratsM (m 3) (lst (cntH 1 n r) H))]]))
    (fun i => i ≤ 4) (fun i => 4 - i) 0 [0, 1] (Nat.zero_le _) ⟨rfl, by simp, rfl, rfl, rfl, ⟨rfl, rfl, rfl, rfl, rfl, trivial⟩, ⟨rfl, rfl, trivial⟩⟩ ?_
  intro i hi
  have hi : i ≤ 4 := hi
  rcases (show i = 0 ∨ i = 1 ∨ i = 2 ∨ i = 3 ∨ i = 4 by omega) with rfl | rfl | rfl | rfl | rfl
  · refine SCmp.yes (rfl) ?_
    refine SIdx.mk 0 _ rfl rfl ?_
    refine SKeys.all rfl <| SGet.at 0 _ rfl rfl rfl ?_
    refine SZ.mk ((cntA 1 n : Nat) : Int) (by simp [lst]) ?_
    refine SPos.mk 0 rfl (by decide) ?_
    refine SWrap.i64z ((2 * n : Nat) : Int) (by omega) (by omega) ?_
    refine SPos.mk 1 rfl (by decide) ?_
    refine SWrap.i64z ((0 * n : Nat) : Int) (by omega) (by omega) ?_
    refine SWrap.i64z ((0 : Nat) : Int) (by simp) (by omega) ?_
    refine SWrap.i64z ((2 * n + 0 : Nat) : Int) (by omega) (by omega) ?_
    refine SPos.mk 2 rfl (by decide) ?_
    refine SWrap.i64z ((cntA 1 n : Nat) : Int) (by simp [cntA, cntB, cntH] <;> omega) (by have := cnt_le (k := 1) (r := r) n1 (show n ≤ 8 by omega) (show r ≤ 3 by omega); omega) ?_
    refine SCmp.no (neF rfl) ?_
    refine SWrap.i64z ((0 + 1 : Nat) : Int) (by omega) (by omega) ?_
    exact ⟨0 + 1, [0, 1], by decide, by decide, ⟨rfl, by simp, rfl, rfl, rfl, ⟨rfl, rfl, rfl, rfl, rfl, trivial⟩, ⟨rfl, rfl, trivial⟩⟩⟩
  · refine SCmp.yes (rfl) ?_
    refine SIdx.mk 1 _ rfl rfl ?_
    refine SKeys.all rfl <| SGet.none rfl ?_
    refine SZ.mk ((cntB 1 n : Nat) : Int) (by simp [lst]) ?_
    refine SPos.mk 0 rfl (by decide) ?_
    refine SWrap.i64z ((0 * n : Nat) : Int) (by omega) (by omega) ?_
    refine SPos.mk 1 rfl (by decide) ?_
    refine SWrap.i64z ((0 * n : Nat) : Int) (by omega) (by omega) ?_
    refine SWrap.i64z ((0 : Nat) : Int) (by simp) (by omega) ?_
    refine SWrap.i64z ((0 * n + 0 : Nat) : Int) (by omega) (by omega) ?_
    refine SPos.mk 2 rfl (by decide) ?_
    refine SWrap.i64z ((cntB 1 n : Nat) : Int) (by simp [cntA, cntB, cntH] <;> omega) (by have := cnt_le (k := 1) (r := r) n1 (show n ≤ 8 by omega) (show r ≤ 3 by omega); omega) ?_
    refine SCmp.no (neF rfl) ?_
    refine SWrap.i64z ((1 + 1 : Nat) : Int) (by omega) (by omega) ?_
    exact ⟨1 + 1, [0, 1], by decide, by decide, ⟨rfl, by simp, rfl, rfl, rfl, ⟨rfl, rfl, rfl, rfl, rfl, trivial⟩, ⟨rfl, rfl, trivial⟩⟩⟩
  · refine SCmp.yes (rfl) ?_
    refine SIdx.mk 2 _ rfl rfl ?_
    refine SKeys.all rfl <| SGet.none rfl ?_
    refine SZ.mk ((cntH 1 n r : Nat) : Int) (by simp [lst]) ?_
    refine SPos.mk 0 rfl (by decide) ?_
    refine SWrap.i64z ((0 * n : Nat) : Int) (by omega) (by omega) ?_
    refine SPos.mk 1 rfl (by decide) ?_
    refine SWrap.i64z ((0 * n : Nat) : Int) (by omega) (by omega) ?_
    refine SWrap.i64z ((0 : Nat) : Int) (by simp) (by omega) ?_
    refine SWrap.i64z ((0 * n + 0 : Nat) : Int) (by omega) (by omega) ?_
    refine SPos.mk 2 rfl (by decide) ?_
    refine SWrap.i64z ((cntH 1 n r : Nat) : Int) (by simp [cntA, cntB, cntH] <;> omega) (by have := cnt_le (k := 1) (r := r) n1 (show n ≤ 8 by omega) (show r ≤ 3 by omega); omega) ?_
    refine SCmp.no (neF rfl) ?_
    refine SWrap.i64z ((2 + 1 : Nat) : Int) (by omega) (by omega) ?_
    exact ⟨2 + 1, [0, 1], by decide, by decide, ⟨rfl, by simp, rfl, rfl, rfl, ⟨rfl, rfl, rfl, rfl, rfl, trivial⟩, ⟨rfl, rfl, trivial⟩⟩⟩
  · refine SCmp.yes (rfl) ?_
    refine SIdx.mk 3 _ rfl rfl ?_
    refine SKeys.all rfl <| SGet.none rfl ?_
    refine SZ.mk ((cntH 1 n r : Nat) : Int) (by simp [lst]) ?_
    refine SPos.mk 0 rfl (by decide) ?_
    refine SWrap.i64z ((0 * n : Nat) : Int) (by omega) (by omega) ?_
    refine SPos.mk 1 rfl (by decide) ?_
    refine SWrap.i64z ((0 * n : Nat) : Int) (by omega) (by omega) ?_
    refine SWrap.i64z ((0 : Nat) : Int) (by simp) (by omega) ?_
    refine SWrap.i64z ((0 * n + 0 : Nat) : Int) (by omega) (by omega) ?_
    refine SPos.mk 2 rfl (by decide) ?_
    refine SWrap.i64z ((cntH 1 n r : Nat) : Int) (by simp [cntA, cntB, cntH] <;> omega) (by have := cnt_le (k := 1) (r := r) n1 (show n ≤ 8 by omega) (show r ≤ 3 by omega); omega) ?_
    refine SCmp.no (neF rfl) ?_
    refine SWrap.i64z ((3 + 1 : Nat) : Int) (by omega) (by omega) ?_
    exact ⟨3 + 1, [0, 1], by decide, by decide, ⟨rfl, by simp, rfl, rfl, rfl, ⟨rfl, rfl, rfl, rfl, rfl, trivial⟩, ⟨rfl, rfl, trivial⟩⟩⟩
  · refine SCmp.no (rfl) ?_
    refine SLoop.mk Nat (fun i => ([(1, .bptr 0 0), (60, .p (.agg [ratsM (m 0) (lst (cntA 1 n) A), ratsM (m 1) (lst (cntB 1 n) B), ratsM (m 2) (lst (cntH 1 n r) G), ratsM (m 3) (lst (cntH 1 n r) H)])), (61, .p (.int .i64 i))], [.box 26 [.p (.int .i64 ((1 : Nat) : Int)), .p (.int .i64 (n : Int)), .p (.int .i64 (r : Int)), .p (ratsM (m 0) (lst (cntA 1 n) A)), .p (ratsM (m 1) (lst (cntB 1 n) B)), .p (ratsM (m 2) (lst (cntH 1 n r) G)), .p (ratsM (m 3) (lst (cntH 1 n r) H))], .box 121 [.p (ratsM (m 0) (lst (cntA 1 n) A)), .p (ratsM (m 1) (lst (cntB 1 n) B)), .p (ratsM (m 2) (lst (cntH 1 n r) G)), .p (ratsM (m 3) (lst (cntH 1 n r) H))]]))
      (fun i => i ≤ 4) (fun i => 4 - i) 0 [0, 1] (Nat.zero_le _) ⟨rfl, by simp, rfl, rfl, rfl, ⟨rfl, rfl, rfl, trivial⟩, ⟨rfl, rfl, trivial⟩⟩ ?_
    intro i hi
    have hi : i ≤ 4 := hi
    rcases (show i = 0 ∨ i = 1 ∨ i = 2 ∨ i = 3 ∨ i = 4 by omega) with rfl | rfl | rfl | rfl | rfl
    · refine SCmp.yes (rfl) ?_
      refine SIdx.mk 0 _ rfl rfl ?_
      refine SCall.pure (none1_ok (m 0) (lst (cntA 1 n) A) (fun i hi => by rw [lst_length] at hi; rw [lst_getD hi]; exact check1_ok _ ((h.bA i hi).mono (by omega))) (by rw [lst_length]; exact Nat.le_trans (cb 0) (by decide))) ?_
      refine SCond.mk (fun h => by cases h) (fun _ => ?_)
      refine SWrap.i64z ((0 + 1 : Nat) : Int) (by omega) (by omega) ?_
      exact ⟨0 + 1, [0, 1], by decide, by decide, ⟨rfl, by simp, rfl, rfl, rfl, ⟨rfl, rfl, rfl, trivial⟩, ⟨rfl, rfl, trivial⟩⟩⟩
    · refine SCmp.yes (rfl) ?_
      refine SIdx.mk 1 _ rfl rfl ?_
      refine SCall.pure (none1_ok (m 1) (lst (cntB 1 n) B) (fun i hi => by rw [lst_length] at hi; rw [lst_getD hi]; exact check1_ok _ ((h.bB i hi).mono (by omega))) (by rw [lst_length]; exact Nat.le_trans (cb 1) (by decide))) ?_
      refine SCond.mk (fun h => by cases h) (fun _ => ?_)
      refine SWrap.i64z ((1 + 1 : Nat) : Int) (by omega) (by omega) ?_
      exact ⟨1 + 1, [0, 1], by decide, by decide, ⟨rfl, by simp, rfl, rfl, rfl, ⟨rfl, rfl, rfl, trivial⟩, ⟨rfl, rfl, trivial⟩⟩⟩
    · refine SCmp.yes (rfl) ?_
      refine SIdx.mk 2 _ rfl rfl ?_
      refine SCall.pure (none1_ok (m 2) (lst (cntH 1 n r) G) (fun i hi => by rw [lst_length] at hi; rw [lst_getD hi]; exact check1_ok _ ((h.bG i hi).mono (by omega))) (by rw [lst_length]; exact Nat.le_trans (cb 2) (by decide))) ?_
      refine SCond.mk (fun h => by cases h) (fun _ => ?_)
      refine SWrap.i64z ((2 + 1 : Nat) : Int) (by omega) (by omega) ?_
      exact ⟨2 + 1, [0, 1], by decide, by decide, ⟨rfl, by simp, rfl, rfl, rfl, ⟨rfl, rfl, rfl, trivial⟩, ⟨rfl, rfl, trivial⟩⟩⟩
    · refine SCmp.yes (rfl) ?_
      refine SIdx.mk 3 _ rfl rfl ?_
      refine SCall.pure (none1_ok (m 3) (lst (cntH 1 n r) H) (fun i hi => by rw [lst_length] at hi; rw [lst_getD hi]; exact check1_ok _ ((h.bH i hi).mono (by omega))) (by rw [lst_length]; exact Nat.le_trans (cb 3) (by decide))) ?_
      refine SCond.mk (fun h => by cases h) (fun _ => ?_)
      refine SWrap.i64z ((3 + 1 : Nat) : Int) (by omega) (by omega) ?_
      exact ⟨3 + 1, [0, 1], by decide, by decide, ⟨rfl, by simp, rfl, rfl, rfl, ⟨rfl, rfl, rfl, trivial⟩, ⟨rfl, rfl, trivial⟩⟩⟩
    · refine SCmp.no (rfl) ?_
      refine SZ.mk ((cntA 1 n : Nat) : Int) (by simp [lst]) ?_
      refine SLoop.mk Nat (fun i => ([(1, .bptr 0 0), (68, .p (ratsM (m 0) (lst (cntA 1 n) A))), (69, .p (.int .i64 ((cntA 1 n : Nat) : Int))), (70, .p (.int .i64 i))], [.box 26 [.p (.int .i64 ((1 : Nat) : Int)), .p (.int .i64 (n : Int)), .p (.int .i64 (r : Int)), .p (ratsM (m 0) (lst (cntA 1 n) A)), .p (ratsM (m 1) (lst (cntB 1 n) B)), .p (ratsM (m 2) (lst (cntH 1 n r) G)), .p (ratsM (m 3) (lst (cntH 1 n r) H))], .box 121 [.p (ratsM (m 0) (lst (cntA 1 n) A)), .p (ratsM (m 1) (lst (cntB 1 n) B)), .p (ratsM (m 2) (lst (cntH 1 n r) G)), .p (ratsM (m 3) (lst (cntH 1 n r) H))]]))
        (fun i => i ≤ cntA 1 n) (fun i => cntA 1 n - i) 0 [0, 1] (Nat.zero_le _) ⟨rfl, by simp, rfl, rfl, rfl, ⟨rfl, rfl, rfl, rfl, trivial⟩, ⟨rfl, rfl, trivial⟩⟩ ?_
      intro i hi
      have hi : i ≤ cntA 1 n := hi
      have cA := cb 0
      by_cases hia : i < cntA 1 n
      · refine SCmp.yes (decide_eq_true (by omega)) ?_
        refine SIdx.rf i rfl hia ?_
        have hz := (h.bA i hia).mono (show b ≤ c by omega)
        have hc2 := none2_ok (m 1) true (A i) (lst (cntB 1 n) B) (fun j hj => by
          rw [lst_length] at hj; rw [lst_getD hj]
          have := check2_ok true (A i) (B j) hz (h.bB j hj) (by omega)
          rw [decide_eq_false (h.ne i j hia hj)] at this
          exact this) (by rw [lst_length]; exact Nat.le_trans (cb 1) (by decide))
        refine SCall.pure (pvs := [ratsM (m 1) (lst (cntB 1 n) B), .fn 104 [.pel true (ratP (A i))]]) hc2 ?_
        refine SCond.mk (fun h => by cases h) (fun _ => ?_)
        refine SWrap.i64z ((i + 1 : Nat) : Int) (by omega) (by omega) ?_
        exact ⟨i + 1, [0, 1], hia, by show cntA 1 n - (i + 1) < cntA 1 n - i; omega, ⟨rfl, by simp, rfl, rfl, rfl, ⟨rfl, rfl, rfl, rfl, trivial⟩, ⟨rfl, rfl, trivial⟩⟩⟩
      · refine SCmp.no (decide_eq_false (by omega)) ?_
        exact SRet.pure (.p _ (.int _ _))
theorem gcheck2_ok (m : Nat → Bool) (n r : Nat) (A B G H : Nat → Rat) {b c : Nat} (h : Wf ⟨2, n, r, A, B, G, H⟩ b c) : CallP Tryz.prog 72 [genP m ⟨2, n, r, A, B, G, H⟩] (.p (.int .i64 0)) [] := by
  have n6 : n ≤ 6 := h.n6
  have n1 : 1 ≤ n := h.n1
  have r2 : r ≤ 2 := h.r2
  have hnr : n * r ≤ 12 := Nat.mul_le_mul n6 r2
  have hc4 := h.c4
  have hbc := h.bc
  have cc := cnt_le (k := 2) (r := r) n1 (show n ≤ 8 by omega) (show r ≤ 3 by omega)
  have cb : ∀ i : Nat, (if i = 0 then cntA 2 n else if i = 1 then cntB 2 n else cntH 2 n r) ≤ 24 := fun i => by split <;> (try split) <;> omega
  show CallP Tryz.prog 72 [.agg [.int .i64 ((2 : Nat) : Int), .int .i64 (n : Int), .int .i64 (r : Int), ratsM (m 0) (lst (cntA 2 n) A), ratsM (m 1) (lst (cntB 2 n) B), ratsM (m 2) (lst (cntH 2 n r) G), ratsM (m 3) (lst (cntH 2 n r) H)]] (.p (.int .i64 0)) []
  refine callG_of_vc (wr := wr0) Γok mixed Tryz.func72 (by kernel_rfl) rfl (by kernel_rfl) (le_of_ble rfl) (by simp) ?_
  refine SCmp.no (decide_eq_false (by omega)) ?_
  refine SCmp.no (decide_eq_false (by omega)) ?_
  refine SCall.pure (sized_ok m ⟨2, n, r, A, B, G, H⟩ h) ?_
  refine SCmp.no (rfl) ?_
  refine SCall.lent [genP m ⟨2, n, r, A, B, G, H⟩] _ rfl (genrows_ok m ⟨2, n, r, A, B, G, H⟩) ?_
  refine SCall.pure (counts_ok) ?_
  refine SLoop.mk Nat (fun i => ([(1, .bptr 0 0), (3, .bptr 1 0), (4, .p (.mp false cntM)), (28, .p (.agg [ratsM (m 0) (lst (cntA 2 n) A), ratsM (m 1) (lst (cntB 2 n) B), ratsM (m 2) (lst (cntH 2 n r) G), ratsM (m 3) (lst (cntH 2 n r) H)])), (29, .p (.int .i64 i))], [.box 26 [.p (.int .i64 ((2 : Nat) : Int)), .p (.int .i64 (n : Int)), .p (.int .i64 (r : Int)), .p (ratsM (m 0) (lst (cntA 2 n) A)), .p (ratsM (m 1) (lst (cntB 2 n) B)), .p (ratsM (m 2) (lst (cntH 2 n r) G)), .p (ratsM (m 3) (lst (cntH 2 n r) H))], .box 121 [.p (ratsM (m 0) (lst (cntA 2 n) A)), .p (ratsM (m 1) (lst (cntB 2 n) B)), .p (ratsM (m 2) (lst (cntH 2 n r) G)), .p (ratsM (m 3) (lst (cntH 2 n r) H))]]))
    (fun i => i ≤ 4) (fun i => 4 - i) 0 [0, 1] (Nat.zero_le _) ⟨rfl, by simp, rfl, rfl, rfl, ⟨rfl, rfl, rfl, rfl, rfl, trivial⟩, ⟨rfl, rfl, trivial⟩⟩ ?_
  intro i hi
  have hi : i ≤ 4 := hi
  rcases (show i = 0 ∨ i = 1 ∨ i = 2 ∨ i = 3 ∨ i = 4 by omega) with rfl | rfl | rfl | rfl | rfl
  · refine SCmp.yes (rfl) ?_
    refine SIdx.mk 0 _ rfl rfl ?_
    refine SKeys.all rfl <| SGet.at 1 _ rfl rfl rfl ?_
    refine SZ.mk ((cntA 2 n : Nat) : Int) (by simp [lst]) ?_
    refine SPos.mk 0 rfl (by decide) ?_
    refine SWrap.i64z ((2 * n : Nat) : Int) (by omega) (by omega) ?_
    refine SPos.mk 1 rfl (by decide) ?_
    refine SWrap.i64z ((0 * n : Nat) : Int) (by omega) (by omega) ?_
    refine SWrap.i64z ((0 : Nat) : Int) (by simp) (by omega) ?_
    refine SWrap.i64z ((2 * n + 0 : Nat) : Int) (by omega) (by omega) ?_
    refine SPos.mk 2 rfl (by decide) ?_
    refine SWrap.i64z ((cntA 2 n : Nat) : Int) (by simp [cntA, cntB, cntH] <;> omega) (by have := cnt_le (k := 2) (r := r) n1 (show n ≤ 8 by omega) (show r ≤ 3 by omega); omega) ?_
    refine SCmp.no (neF rfl) ?_
    refine SWrap.i64z ((0 + 1 : Nat) : Int) (by omega) (by omega) ?_
    exact ⟨0 + 1, [0, 1], by decide, by decide, ⟨rfl, by simp, rfl, rfl, rfl, ⟨rfl, rfl, rfl, rfl, rfl, trivial⟩, ⟨rfl, rfl, trivial⟩⟩⟩
  · refine SCmp.yes (rfl) ?_
    refine SIdx.mk 1 _ rfl rfl ?_
    refine SKeys.all rfl <| SGet.none rfl ?_
    refine SZ.mk ((cntB 2 n : Nat) : Int) (by simp [lst]) ?_
    refine SPos.mk 0 rfl (by decide) ?_
    refine SWrap.i64z ((0 * n : Nat) : Int) (by omega) (by omega) ?_
    refine SPos.mk 1 rfl (by decide) ?_
    refine SWrap.i64z ((0 * n : Nat) : Int) (by omega) (by omega) ?_
    refine SWrap.i64z ((0 : Nat) : Int) (by simp) (by omega) ?_
    refine SWrap.i64z ((0 * n + 0 : Nat) : Int) (by omega) (by omega) ?_
    refine SPos.mk 2 rfl (by decide) ?_
    refine SWrap.i64z ((cntB 2 n : Nat) : Int) (by simp [cntA, cntB, cntH] <;> omega) (by have := cnt_le (k := 2) (r := r) n1 (show n ≤ 8 by omega) (show r ≤ 3 by omega); omega) ?_
    refine SCmp.no (neF rfl) ?_
    refine SWrap.i64z ((1 + 1 : Nat) : Int) (by omega) (by omega) ?_
    exact ⟨1 + 1, [0, 1], by decide, by decide, ⟨rfl, by simp, rfl, rfl, rfl, ⟨rfl, rfl, rfl, rfl, rfl, trivial⟩, ⟨rfl, rfl, trivial⟩⟩⟩
  · refine SCmp.yes (rfl) ?_
    refine SIdx.mk 2 _ rfl rfl ?_
    refine SKeys.all rfl <| SGet.none rfl ?_
    refine SZ.mk ((cntH 2 n r : Nat) : Int) (by simp [lst]) ?_
    refine SPos.mk 0 rfl (by decide) ?_
    refine SWrap.i64z ((0 * n : Nat) : Int) (by omega) (by omega) ?_
    refine SPos.mk 1 rfl (by decide) ?_
    refine SWrap.i64z ((0 * n : Nat) : Int) (by omega) (by omega) ?_
    refine SWrap.i64z ((0 : Nat) : Int) (by simp) (by omega) ?_
    refine SWrap.i64z ((0 * n + 0 : Nat) : Int) (by omega) (by omega) ?_
    refine SPos.mk 2 rfl (by decide) ?_
    refine SWrap.i64z ((cntH 2 n r : Nat) : Int) (by simp [cntA, cntB, cntH] <;> omega) (by have := cnt_le (k := 2) (r := r) n1 (show n ≤ 8 by omega) (show r ≤ 3 by omega); omega) ?_
    refine SCmp.no (neF rfl) ?_
    refine SWrap.i64z ((2 + 1 : Nat) : Int) (by omega) (by omega) ?_
    exact ⟨2 + 1, [0, 1], by decide, by decide, ⟨rfl, by simp, rfl, rfl, rfl, ⟨rfl, rfl, rfl, rfl, rfl, trivial⟩, ⟨rfl, rfl, trivial⟩⟩⟩
  · refine SCmp.yes (rfl) ?_
    refine SIdx.mk 3 _ rfl rfl ?_
    refine SKeys.all rfl <| SGet.none rfl ?_
    refine SZ.mk ((cntH 2 n r : Nat) : Int) (by simp [lst]) ?_
    refine SPos.mk 0 rfl (by decide) ?_
    refine SWrap.i64z ((0 * n : Nat) : Int) (by omega) (by omega) ?_
    refine SPos.mk 1 rfl (by decide) ?_
    refine SWrap.i64z ((0 * n : Nat) : Int) (by omega) (by omega) ?_
    refine SWrap.i64z ((0 : Nat) : Int) (by simp) (by omega) ?_
    refine SWrap.i64z ((0 * n + 0 : Nat) : Int) (by omega) (by omega) ?_
    refine SPos.mk 2 rfl (by decide) ?_
    refine SWrap.i64z ((cntH 2 n r : Nat) : Int) (by simp [cntA, cntB, cntH] <;> omega) (by have := cnt_le (k := 2) (r := r) n1 (show n ≤ 8 by omega) (show r ≤ 3 by omega); omega) ?_
    refine SCmp.no (neF rfl) ?_
    refine SWrap.i64z ((3 + 1 : Nat) : Int) (by omega) (by omega) ?_
    exact ⟨3 + 1, [0, 1], by decide, by decide, ⟨rfl, by simp, rfl, rfl, rfl, ⟨rfl, rfl, rfl, rfl, rfl, trivial⟩, ⟨rfl, rfl, trivial⟩⟩⟩
  · refine SCmp.no (rfl) ?_
    refine SLoop.mk Nat (fun i => ([(1, .bptr 0 0), (60, .p (.agg [ratsM (m 0) (lst (cntA 2 n) A), ratsM (m 1) (lst (cntB 2 n) B), ratsM (m 2) (lst (cntH 2 n r) G), ratsM (m 3) (lst (cntH 2 n r) H)])), (61, .p (.int .i64 i))], [.box 26 [.p (.int .i64 ((2 : Nat) : Int)), .p (.int .i64 (n : Int)), .p (.int .i64 (r : Int)), .p (ratsM (m 0) (lst (cntA 2 n) A)), .p (ratsM (m 1) (lst (cntB 2 n) B)), .p (ratsM (m 2) (lst (cntH 2 n r) G)), .p (ratsM (m 3) (lst (cntH 2 n r) H))], .box 121 [.p (ratsM (m 0) (lst (cntA 2 n) A)), .p (ratsM (m 1) (lst (cntB 2 n) B)), .p (ratsM (m 2) (lst (cntH 2 n r) G)), .p (ratsM (m 3) (lst (cntH 2 n r) H))]]))
      (fun i => i ≤ 4) (fun i => 4 - i) 0 [0, 1] (Nat.zero_le _) ⟨rfl, by simp, rfl, rfl, rfl, ⟨rfl, rfl, rfl, trivial⟩, ⟨rfl, rfl, trivial⟩⟩ ?_
    intro i hi
    have hi : i ≤ 4 := hi
    rcases (show i = 0 ∨ i = 1 ∨ i = 2 ∨ i = 3 ∨ i = 4 by omega) with rfl | rfl | rfl | rfl | rfl
    · refine SCmp.yes (rfl) ?_
      refine SIdx.mk 0 _ rfl rfl ?_
      refine SCall.pure (none1_ok (m 0) (lst (cntA 2 n) A) (fun i hi => by rw [lst_length] at hi; rw [lst_getD hi]; exact check1_ok _ ((h.bA i hi).mono (by omega))) (by rw [lst_length]; exact Nat.le_trans (cb 0) (by decide))) ?_
      refine SCond.mk (fun h => by cases h) (fun _ => ?_)
      refine SWrap.i64z ((0 + 1 : Nat) : Int) (by omega) (by omega) ?_
      exact ⟨0 + 1, [0, 1], by decide, by decide, ⟨rfl, by simp, rfl, rfl, rfl, ⟨rfl, rfl, rfl, trivial⟩, ⟨rfl, rfl, trivial⟩⟩⟩
    · refine SCmp.yes (rfl) ?_
      refine SIdx.mk 1 _ rfl rfl ?_
      refine SCall.pure (none1_ok (m 1) (lst (cntB 2 n) B) (fun i hi => by rw [lst_length] at hi; rw [lst_getD hi]; exact check1_ok _ ((h.bB i hi).mono (by omega))) (by rw [lst_length]; exact Nat.le_trans (cb 1) (by decide))) ?_
      refine SCond.mk (fun h => by cases h) (fun _ => ?_)
      refine SWrap.i64z ((1 + 1 : Nat) : Int) (by omega) (by omega) ?_
      exact ⟨1 + 1, [0, 1], by decide, by decide, ⟨rfl, by simp, rfl, rfl, rfl, ⟨rfl, rfl, rfl, trivial⟩, ⟨rfl, rfl, trivial⟩⟩⟩
    · refine SCmp.yes (rfl) ?_
      refine SIdx.mk 2 _ rfl rfl ?_
      refine SCall.pure (none1_ok (m 2) (lst (cntH 2 n r) G) (fun i hi => by rw [lst_length] at hi; rw [lst_getD hi]; exact check1_ok _ ((h.bG i hi).mono (by omega))) (by rw [lst_length]; exact Nat.le_trans (cb 2) (by decide))) ?_
      refine SCond.mk (fun h => by cases h) (fun _ => ?_)
      refine SWrap.i64z ((2 + 1 : Nat) : Int) (by omega) (by omega) ?_
      exact ⟨2 + 1, [0, 1], by decide, by decide, ⟨rfl, by simp, rfl, rfl, rfl, ⟨rfl, rfl, rfl, trivial⟩, ⟨rfl, rfl, trivial⟩⟩⟩
    · refine SCmp.yes (rfl) ?_
      refine SIdx.mk 3 _ rfl rfl ?_
      refine SCall.pure (none1_ok (m 3) (lst (cntH 2 n r) H) (fun i hi => by rw [lst_length] at hi; rw [lst_getD hi]; exact check1_ok _ ((h.bH i hi).mono (by omega))) (by rw [lst_length]; exact Nat.le_trans (cb 3) (by decide))) ?_
      refine SCond.mk (fun h => by cases h) (fun _ => ?_)
      refine SWrap.i64z ((3 + 1 : Nat) : Int) (by omega) (by omega) ?_
      exact ⟨3 + 1, [0, 1], by decide, by decide, ⟨rfl, by simp, rfl, rfl, rfl, ⟨rfl, rfl, rfl, trivial⟩, ⟨rfl, rfl, trivial⟩⟩⟩
    · refine SCmp.no (rfl) ?_
      refine SZ.mk ((cntA 2 n : Nat) : Int) (by simp [lst]) ?_
      refine SLoop.mk Nat (fun i => ([(1, .bptr 0 0), (68, .p (ratsM (m 0) (lst (cntA 2 n) A))), (69, .p (.int .i64 ((cntA 2 n : Nat) : Int))), (70, .p (.int .i64 i))], [.box 26 [.p (.int .i64 ((2 : Nat) : Int)), .p (.int .i64 (n : Int)), .p (.int .i64 (r : Int)), .p (ratsM (m 0) (lst (cntA 2 n) A)), .p (ratsM (m 1) (lst (cntB 2 n) B)), .p (ratsM (m 2) (lst (cntH 2 n r) G)), .p (ratsM (m 3) (lst (cntH 2 n r) H))], .box 121 [.p (ratsM (m 0) (lst (cntA 2 n) A)), .p (ratsM (m 1) (lst (cntB 2 n) B)), .p (ratsM (m 2) (lst (cntH 2 n r) G)), .p (ratsM (m 3) (lst (cntH 2 n r) H))]]))
        (fun i => i ≤ cntA 2 n) (fun i => cntA 2 n - i) 0 [0, 1] (Nat.zero_le _) ⟨rfl, by simp, rfl, rfl, rfl, ⟨rfl, rfl, rfl, rfl, trivial⟩, ⟨rfl, rfl, trivial⟩⟩ ?_
      intro i hi
      have hi : i ≤ cntA 2 n := hi
      have cA := cb 0
      by_cases hia : i < cntA 2 n
      · refine SCmp.yes (decide_eq_true (by omega)) ?_
        refine SIdx.rf i rfl hia ?_
        have hz := (h.bA i hia).mono (show b ≤ c by omega)
        have hc2 := none2_ok (m 1) true (A i) (lst (cntB 2 n) B) (fun j hj => by
          rw [lst_length] at hj; rw [lst_getD hj]
          have := check2_ok true (A i) (B j) hz (h.bB j hj) (by omega)
          rw [decide_eq_false (h.ne i j hia hj)] at this
          exact this) (by rw [lst_length]; exact Nat.le_trans (cb 1) (by decide))
        refine SCall.pure (pvs := [ratsM (m 1) (lst (cntB 2 n) B), .fn 104 [.pel true (ratP (A i))]]) hc2 ?_
        refine SCond.mk (fun h => by cases h) (fun _ => ?_)
        refine SWrap.i64z ((i + 1 : Nat) : Int) (by omega) (by omega) ?_
        exact ⟨i + 1, [0, 1], hia, by show cntA 2 n - (i + 1) < cntA 2 n - i; omega, ⟨rfl, by simp, rfl, rfl, rfl, ⟨rfl, rfl, rfl, rfl, trivial⟩, ⟨rfl, rfl, trivial⟩⟩⟩
      · refine SCmp.no (decide_eq_false (by omega)) ?_
        exact SRet.pure (.p _ (.int _ _))
theorem gcheck3_ok (m : Nat → Bool) (n r : Nat) (A B G H : Nat → Rat) {b c : Nat} (h : Wf ⟨3, n, r, A, B, G, H⟩ b c) : CallP Tryz.prog 72 [genP m ⟨3, n, r, A, B, G, H⟩] (.p (.int .i64 0)) [] := by
  have n6 : n ≤ 6 := h.n6
  have n1 : 1 ≤ n := h.n1
  have r2 : r ≤ 2 := h.r2
  have hnr : n * r ≤ 12 := Nat.mul_le_mul n6 r2
  have hc4 := h.c4
  have hbc := h.bc
  have cc := cnt_le (k := 3) (r := r) n1 (show n ≤ 8 by omega) (show r ≤ 3 by omega)
  have cb : ∀ i : Nat, (if i = 0 then cntA 3 n else if i = 1 then cntB 3 n else cntH 3 n r) ≤ 24 := fun i => by split <;> (try split) <;> omega
  show CallP Tryz.prog 72 [.agg [.int .i64 ((3 : Nat) : Int), .int .i64 (n : Int), .int .i64 (r : Int), ratsM (m 0) (lst (cntA 3 n) A), ratsM (m 1) (lst (cntB 3 n) B), ratsM (m 2) (lst (cntH 3 n r) G), ratsM (m 3) (lst (cntH 3 n r) H)]] (.p (.int .i64 0)) []
  refine callG_of_vc (wr := wr0) Γok mixed Tryz.func72 (by kernel_rfl) rfl (by kernel_rfl) (le_of_ble rfl) (by simp) ?_
  refine SCmp.no (decide_eq_false (by omega)) ?_
  refine SCmp.no (decide_eq_false (by omega)) ?_
  refine SCall.pure (sized_ok m ⟨3, n, r, A, B, G, H⟩ h) ?_
  refine SCmp.no (rfl) ?_
  refine SCall.lent [genP m ⟨3, n, r, A, B, G, H⟩] _ rfl (genrows_ok m ⟨3, n, r, A, B, G, H⟩) ?_
  refine SCall.pure (counts_ok) ?_
  refine SLoop.mk Nat (fun i => ([(1, .bptr 0 0), (3, .bptr 1 0), (4, .p (.mp false cntM)), (28, .p (.agg [ratsM (m 0) (lst (cntA 3 n) A), ratsM (m 1) (lst (cntB 3 n) B), ratsM (m 2) (lst (cntH 3 n r) G), ratsM (m 3) (lst (cntH 3 n r) H)])), (29, .p (.int .i64 i))], [.box 26 [.p (.int .i64 ((3 : Nat) : Int)), .p (.int .i64 (n : Int)), .p (.int .i64 (r : Int)), .p (ratsM (m 0) (lst (cntA 3 n) A)), .p (ratsM (m 1) (lst (cntB 3 n) B)), .p (ratsM (m 2) (lst (cntH 3 n r) G)), .p (ratsM (m 3) (lst (cntH 3 n r) H))], .box 121 [.p (ratsM (m 0) (lst (cntA 3 n) A)), .p (ratsM (m 1) (lst (cntB 3 n) B)), .p (ratsM (m 2) (lst (cntH 3 n r) G)), .p (ratsM (m 3) (lst (cntH 3 n r) H))]]))
    (fun i => i ≤ 4) (fun i => 4 - i) 0 [0, 1] (Nat.zero_le _) ⟨rfl, by simp, rfl, rfl, rfl, ⟨rfl, rfl, rfl, rfl, rfl, trivial⟩, ⟨rfl, rfl, trivial⟩⟩ ?_
  intro i hi
  have hi : i ≤ 4 := hi
  rcases (show i = 0 ∨ i = 1 ∨ i = 2 ∨ i = 3 ∨ i = 4 by omega) with rfl | rfl | rfl | rfl | rfl
  · refine SCmp.yes (rfl) ?_
    refine SIdx.mk 0 _ rfl rfl ?_
    refine SKeys.all rfl <| SGet.at 2 _ rfl rfl rfl ?_
    refine SZ.mk ((cntA 3 n : Nat) : Int) (by simp [lst]) ?_
    refine SPos.mk 0 rfl (by decide) ?_
    refine SWrap.i64z ((1 * n : Nat) : Int) (by omega) (by omega) ?_
    refine SPos.mk 1 rfl (by decide) ?_
    refine SWrap.i64z ((0 * n : Nat) : Int) (by omega) (by omega) ?_
    refine SWrap.i64z ((0 : Nat) : Int) (by simp) (by omega) ?_
    refine SWrap.i64z ((1 * n + 0 : Nat) : Int) (by omega) (by omega) ?_
    refine SPos.mk 2 rfl (by decide) ?_
    refine SWrap.i64z ((cntA 3 n : Nat) : Int) (by simp [cntA, cntB, cntH] <;> omega) (by have := cnt_le (k := 3) (r := r) n1 (show n ≤ 8 by omega) (show r ≤ 3 by omega); omega) ?_
    refine SCmp.no (neF rfl) ?_
    refine SWrap.i64z ((0 + 1 : Nat) : Int) (by omega) (by omega) ?_
    exact ⟨0 + 1, [0, 1], by decide, by decide, ⟨rfl, by simp, rfl, rfl, rfl, ⟨rfl, rfl, rfl, rfl, rfl, trivial⟩, ⟨rfl, rfl, trivial⟩⟩⟩
  · refine SCmp.yes (rfl) ?_
    refine SIdx.mk 1 _ rfl rfl ?_
    refine SKeys.all rfl <| SGet.none rfl ?_
    refine SZ.mk ((cntB 3 n : Nat) : Int) (by simp [lst]) ?_
    refine SPos.mk 0 rfl (by decide) ?_
    refine SWrap.i64z ((0 * n : Nat) : Int) (by omega) (by omega) ?_
    refine SPos.mk 1 rfl (by decide) ?_
    refine SWrap.i64z ((0 * n : Nat) : Int) (by omega) (by omega) ?_
    refine SWrap.i64z ((0 : Nat) : Int) (by simp) (by omega) ?_
    refine SWrap.i64z ((0 * n + 0 : Nat) : Int) (by omega) (by omega) ?_
    refine SPos.mk 2 rfl (by decide) ?_
    refine SWrap.i64z ((cntB 3 n : Nat) : Int) (by simp [cntA, cntB, cntH] <;> omega) (by have := cnt_le (k := 3) (r := r) n1 (show n ≤ 8 by omega) (show r ≤ 3 by omega); omega) ?_
    refine SCmp.no (neF rfl) ?_
    refine SWrap.i64z ((1 + 1 : Nat) : Int) (by omega) (by omega) ?_
    exact ⟨1 + 1, [0, 1], by decide, by decide, ⟨rfl, by simp, rfl, rfl, rfl, ⟨rfl, rfl, rfl, rfl, rfl, trivial⟩, ⟨rfl, rfl, trivial⟩⟩⟩
  · refine SCmp.yes (rfl) ?_
    refine SIdx.mk 2 _ rfl rfl ?_
    refine SKeys.all rfl <| SGet.none rfl ?_
    refine SZ.mk ((cntH 3 n r : Nat) : Int) (by simp [lst]) ?_
    refine SPos.mk 0 rfl (by decide) ?_
    refine SWrap.i64z ((0 * n : Nat) : Int) (by omega) (by omega) ?_
    refine SPos.mk 1 rfl (by decide) ?_
    refine SWrap.i64z ((0 * n : Nat) : Int) (by omega) (by omega) ?_
    refine SWrap.i64z ((0 : Nat) : Int) (by simp) (by omega) ?_
    refine SWrap.i64z ((0 * n + 0 : Nat) : Int) (by omega) (by omega) ?_
    refine SPos.mk 2 rfl (by decide) ?_
    refine SWrap.i64z ((cntH 3 n r : Nat) : Int) (by simp [cntA, cntB, cntH] <;> omega) (by have := cnt_le (k := 3) (r := r) n1 (show n ≤ 8 by omega) (show r ≤ 3 by omega); omega) ?_
    refine SCmp.no (neF rfl) ?_
    refine SWrap.i64z ((2 + 1 : Nat) : Int) (by omega) (by omega) ?_
    exact ⟨2 + 1, [0, 1], by decide, by decide, ⟨rfl, by simp, rfl, rfl, rfl, ⟨rfl, rfl, rfl, rfl, rfl, trivial⟩, ⟨rfl, rfl, trivial⟩⟩⟩
  · refine SCmp.yes (rfl) ?_
    refine SIdx.mk 3 _ rfl rfl ?_
    refine SKeys.all rfl <| SGet.none rfl ?_
    refine SZ.mk ((cntH 3 n r : Nat) : Int) (by simp [lst]) ?_
    refine SPos.mk 0 rfl (by decide) ?_
    refine SWrap.i64z ((0 * n : Nat) : Int) (by omega) (by omega) ?_
    refine SPos.mk 1 rfl (by decide) ?_
    refine SWrap.i64z ((0 * n : Nat) : Int) (by omega) (by omega) ?_
    refine SWrap.i64z ((0 : Nat) : Int) (by simp) (by omega) ?_
    refine SWrap.i64z ((0 * n + 0 : Nat) : Int) (by omega) (by omega) ?_
    refine SPos.mk 2 rfl (by decide) ?_
    refine SWrap.i64z ((cntH 3 n r : Nat) : Int) (by simp [cntA, cntB, cntH] <;> omega) (by have := cnt_le (k := 3) (r := r) n1 (show n ≤ 8 by omega) (show r ≤ 3 by omega); omega) ?_
    refine SCmp.no (neF rfl) ?_
    refine SWrap.i64z ((3 + 1 : Nat) : Int) (by omega) (by omega) ?_
    exact ⟨3 + 1, [0, 1], by decide, by decide, ⟨rfl, by simp, rfl, rfl, rfl, ⟨rfl, rfl, rfl, rfl, rfl, trivial⟩, ⟨rfl, rfl, trivial⟩⟩⟩
  · refine SCmp.no (rfl) ?_
    refine SLoop.mk Nat (fun i => ([(1, .bptr 0 0), (60, .p (.agg [ratsM (m 0) (lst (cntA 3 n) A), ratsM (m 1) (lst (cntB 3 n) B), ratsM (m 2) (lst (cntH 3 n r) G), ratsM (m 3) (lst (cntH 3 n r) H)])), (61, .p (.int .i64 i))], [.box 26 [.p (.int .i64 ((3 : Nat) : Int)), .p (.int .i64 (n : Int)), .p (.int .i64 (r : Int)), .p (ratsM (m 0) (lst (cntA 3 n) A)), .p (ratsM (m 1) (lst (cntB 3 n) B)), .p (ratsM (m 2) (lst (cntH 3 n r) G)), .p (ratsM (m 3) (lst (cntH 3 n r) H))], .box 121 [.p (ratsM (m 0) (lst (cntA 3 n) A)), .p (ratsM (m 1) (lst (cntB 3 n) B)), .p (ratsM (m 2) (lst (cntH 3 n r) G)), .p (ratsM (m 3) (lst (cntH 3 n r) H))]]))
      (fun i => i ≤ 4) (fun i => 4 - i) 0 [0, 1] (Nat.zero_le _) ⟨rfl, by simp, rfl, rfl, rfl, ⟨rfl, rfl, rfl, trivial⟩, ⟨rfl, rfl, trivial⟩⟩ ?_
    intro i hi
    have hi : i ≤ 4 := hi
    rcases (show i = 0 ∨ i = 1 ∨ i = 2 ∨ i = 3 ∨ i = 4 by omega) with rfl | rfl | rfl | rfl | rfl
    · refine SCmp.yes (rfl) ?_
      refine SIdx.mk 0 _ rfl rfl ?_
      refine SCall.pure (none1_ok (m 0) (lst (cntA 3 n) A) (fun i hi => by rw [lst_length] at hi; rw [lst_getD hi]; exact check1_ok _ ((h.bA i hi).mono (by omega))) (by rw [lst_length]; exact Nat.le_trans (cb 0) (by decide))) ?_
      refine SCond.mk (fun h => by cases h) (fun _ => ?_)
      refine SWrap.i64z ((0 + 1 : Nat) : Int) (by omega) (by omega) ?_
      exact ⟨0 + 1, [0, 1], by decide, by decide, ⟨rfl, by simp, rfl, rfl, rfl, ⟨rfl, rfl, rfl, trivial⟩, ⟨rfl, rfl, trivial⟩⟩⟩
    · refine SCmp.yes (rfl) ?_
      refine SIdx.mk 1 _ rfl rfl ?_
      refine SCall.pure (none1_ok (m 1) (lst (cntB 3 n) B) (fun i hi => by rw [lst_length] at hi; rw [lst_getD hi]; exact check1_ok _ ((h.bB i hi).mono (by omega))) (by rw [lst_length]; exact Nat.le_trans (cb 1) (by decide))) ?_
      refine SCond.mk (fun h => by cases h) (fun _ => ?_)
      refine SWrap.i64z ((1 + 1 : Nat) : Int) (by omega) (by omega) ?_
      exact ⟨1 + 1, [0, 1], by decide, by decide, ⟨rfl, by simp, rfl, rfl, rfl, ⟨rfl, rfl, rfl, trivial⟩, ⟨rfl, rfl, trivial⟩⟩⟩
    · refine SCmp.yes (rfl) ?_
      refine SIdx.mk 2 _ rfl rfl ?_
      refine SCall.pure (none1_ok (m 2) (lst (cntH 3 n r) G) (fun i hi => by rw [lst_length] at hi; rw [lst_getD hi]; exact check1_ok _ ((h.bG i hi).mono (by omega))) (by rw [lst_length]; exact Nat.le_trans (cb 2) (by decide))) ?_
      refine SCond.mk (fun h => by cases h) (fun _ => ?_)
      refine SWrap.i64z ((2 + 1 : Nat) : Int) (by omega) (by omega) ?_
      exact ⟨2 + 1, [0, 1], by decide, by decide, ⟨rfl, by simp, rfl, rfl, rfl, ⟨rfl, rfl, rfl, trivial⟩, ⟨rfl, rfl, trivial⟩⟩⟩
    · refine SCmp.yes (rfl) ?_
      refine SIdx.mk 3 _ rfl rfl ?_
      refine SCall.pure (none1_ok (m 3) (lst (cntH 3 n r) H) (fun i hi => by rw [lst_length] at hi; rw [lst_getD hi]; exact check1_ok _ ((h.bH i hi).mono (by omega))) (by rw [lst_length]; exact Nat.le_trans (cb 3) (by decide))) ?_
      refine SCond.mk (fun h => by cases h) (fun _ => ?_)
      refine SWrap.i64z ((3 + 1 : Nat) : Int) (by omega) (by omega) ?_
      exact ⟨3 + 1, [0, 1], by decide, by decide, ⟨rfl, by simp, rfl, rfl, rfl, ⟨rfl, rfl, rfl, trivial⟩, ⟨rfl, rfl, trivial⟩⟩⟩
    · refine SCmp.no (rfl) ?_
      refine SZ.mk ((cntA 3 n : Nat) : Int) (by simp [lst]) ?_
      refine SLoop.mk Nat (fun i => ([(1, .bptr 0 0), (68, .p (ratsM (m 0) (lst (cntA 3 n) A))), (69, .p (.int .i64 ((cntA 3 n : Nat) : Int))), (70, .p (.int .i64 i))], [.box 26 [.p (.int .i64 ((3 : Nat) : Int)), .p (.int .i64 (n : Int)), .p (.int .i64 (r : Int)), .p (ratsM (m 0) (lst (cntA 3 n) A)), .p (ratsM (m 1) (lst (cntB 3 n) B)), .p (ratsM (m 2) (lst (cntH 3 n r) G)), .p (ratsM (m 3) (lst (cntH 3 n r) H))], .box 121 [.p (ratsM (m 0) (lst (cntA 3 n) A)), .p (ratsM (m 1) (lst (cntB 3 n) B)), .p (ratsM (m 2) (lst (cntH 3 n r) G)), .p (ratsM (m 3) (lst (cntH 3 n r) H))]]))
        (fun i => i ≤ cntA 3 n) (fun i => cntA 3 n - i) 0 [0, 1] (Nat.zero_le _) ⟨rfl, by simp, rfl, rfl, rfl, ⟨rfl, rfl, rfl, rfl, trivial⟩, ⟨rfl, rfl, trivial⟩⟩ ?_
      intro i hi
      have hi : i ≤ cntA 3 n := hi
      have cA := cb 0
      by_cases hia : i < cntA 3 n
      · refine SCmp.yes (decide_eq_true (by omega)) ?_
        refine SIdx.rf i rfl hia ?_
        have hz := (h.bA i hia).mono (show b ≤ c by omega)
        have hc2 := none2_ok (m 1) true (A i) (lst (cntB 3 n) B) (fun j hj => by
          rw [lst_length] at hj; rw [lst_getD hj]
          have := check2_ok true (A i) (B j) hz (h.bB j hj) (by omega)
          rw [decide_eq_false (h.ne i j hia hj)] at this
          exact this) (by rw [lst_length]; exact Nat.le_trans (cb 1) (by decide))
        refine SCall.pure (pvs := [ratsM (m 1) (lst (cntB 3 n) B), .fn 104 [.pel true (ratP (A i))]]) hc2 ?_
        refine SCond.mk (fun h => by cases h) (fun _ => ?_)
        refine SWrap.i64z ((i + 1 : Nat) : Int) (by omega) (by omega) ?_
        exact ⟨i + 1, [0, 1], hia, by show cntA 3 n - (i + 1) < cntA 3 n - i; omega, ⟨rfl, by simp, rfl, rfl, rfl, ⟨rfl, rfl, rfl, rfl, trivial⟩, ⟨rfl, rfl, trivial⟩⟩⟩
      · refine SCmp.no (decide_eq_false (by omega)) ?_
        exact SRet.pure (.p _ (.int _ _))
theorem gcheck4_ok (m : Nat → Bool) (n r : Nat) (A B G H : Nat → Rat) {b c : Nat} (h : Wf ⟨4, n, r, A, B, G, H⟩ b c) : CallP Tryz.prog 72 [genP m ⟨4, n, r, A, B, G, H⟩] (.p (.int .i64 0)) [] := by
  have n6 : n ≤ 6 := h.n6
  have n1 : 1 ≤ n := h.n1
  have r2 : r ≤ 2 := h.r2
  have hnr : n * r ≤ 12 := Nat.mul_le_mul n6 r2
  have hc4 := h.c4
  have hbc := h.bc
  have cc := cnt_le (k := 4) (r := r) n1 (show n ≤ 8 by omega) (show r ≤ 3 by omega)
  have cb : ∀ i : Nat, (if i = 0 then cntA 4 n else if i = 1 then cntB 4 n else cntH 4 n r) ≤ 24 := fun i => by split <;> (try split) <;> omega
  show CallP Tryz.prog 72 [.agg [.int .i64 ((4 : Nat) : Int), .int .i64 (n : Int), .int .i64 (r : Int), ratsM (m 0) (lst (cntA 4 n) A), ratsM (m 1) (lst (cntB 4 n) B), ratsM (m 2) (lst (cntH 4 n r) G), ratsM (m 3) (lst (cntH 4 n r) H)]] (.p (.int .i64 0)) []
  refine callG_of_vc (wr := wr0) Γok mixed Tryz.func72 (by kernel_rfl) rfl (by kernel_rfl) (le_of_ble rfl) (by simp) ?_
  refine SCmp.no (decide_eq_false (by omega)) ?_
  refine SCmp.no (decide_eq_false (by omega)) ?_
  refine SCall.pure (sized_ok m ⟨4, n, r, A, B, G, H⟩ h) ?_
  refine SCmp.no (rfl) ?_
  refine SCall.lent [genP m ⟨4, n, r, A, B, G, H⟩] _ rfl (genrows_ok m ⟨4, n, r, A, B, G, H⟩) ?_
  refine SCall.pure (counts_ok) ?_
  refine SLoop.mk Nat (fun i => ([(1, .bptr 0 0), (3, .bptr 1 0), (4, .p (.mp false cntM)), (28, .p (.agg [ratsM (m 0) (lst (cntA 4 n) A), ratsM (m 1) (lst (cntB 4 n) B), ratsM (m 2) (lst (cntH 4 n r) G), ratsM (m 3) (lst (cntH 4 n r) H)])), (29, .p (.int .i64 i))], [.box 26 [.p (.int .i64 ((4 : Nat) : Int)), .p (.int .i64 (n : Int)), .p (.int .i64 (r : Int)), .p (ratsM (m 0) (lst (cntA 4 n) A)), .p (ratsM (m 1) (lst (cntB 4 n) B)), .p (ratsM (m 2) (lst (cntH 4 n r) G)), .p (ratsM (m 3) (lst (cntH 4 n r) H))], .box 121 [.p (ratsM (m 0) (lst (cntA 4 n) A)), .p (ratsM (m 1) (lst (cntB 4 n) B)), .p (ratsM (m 2) (lst (cntH 4 n r) G)), .p (ratsM (m 3) (lst (cntH 4 n r) H))]]))
    (fun i => i ≤ 4) (fun i => 4 - i) 0 [0, 1] (Nat.zero_le _) ⟨rfl, by simp, rfl, rfl, rfl, ⟨rfl, rfl, rfl, rfl, rfl, trivial⟩, ⟨rfl, rfl, trivial⟩⟩ ?_
  intro i hi
  have hi : i ≤ 4 := hi
  rcases (show i = 0 ∨ i = 1 ∨ i = 2 ∨ i = 3 ∨ i = 4 by omega) with rfl | rfl | rfl | rfl | rfl
  · refine SCmp.yes (rfl) ?_
    refine SIdx.mk 0 _ rfl rfl ?_
    refine SKeys.all rfl <| SGet.at 3 _ rfl rfl rfl ?_
    refine SZ.mk ((cntA 4 n : Nat) : Int) (by simp [lst]) ?_
    refine SPos.mk 0 rfl (by decide) ?_
    refine SWrap.i64z ((1 * n : Nat) : Int) (by omega) (by omega) ?_
    refine SPos.mk 1 rfl (by decide) ?_
    refine SWrap.i64z ((0 * n : Nat) : Int) (by omega) (by omega) ?_
    refine SWrap.i64z ((0 : Nat) : Int) (by simp) (by omega) ?_
    refine SWrap.i64z ((1 * n + 0 : Nat) : Int) (by omega) (by omega) ?_
    refine SPos.mk 2 rfl (by decide) ?_
    refine SWrap.i64z ((cntA 4 n : Nat) : Int) (by simp [cntA, cntB, cntH] <;> omega) (by have := cnt_le (k := 4) (r := r) n1 (show n ≤ 8 by omega) (show r ≤ 3 by omega); omega) ?_
    refine SCmp.no (neF rfl) ?_
    refine SWrap.i64z ((0 + 1 : Nat) : Int) (by omega) (by omega) ?_
    exact ⟨0 + 1, [0, 1], by decide, by decide, ⟨rfl, by simp, rfl, rfl, rfl, ⟨rfl, rfl, rfl, rfl, rfl, trivial⟩, ⟨rfl, rfl, trivial⟩⟩⟩
  · refine SCmp.yes (rfl) ?_
    refine SIdx.mk 1 _ rfl rfl ?_
    refine SKeys.all rfl <| SGet.none rfl ?_
    refine SZ.mk ((cntB 4 n : Nat) : Int) (by simp [lst]) ?_
    refine SPos.mk 0 rfl (by decide) ?_
    refine SWrap.i64z ((0 * n : Nat) : Int) (by omega) (by omega) ?_
    refine SPos.mk 1 rfl (by decide) ?_
    refine SWrap.i64z ((0 * n : Nat) : Int) (by omega) (by omega) ?_
    refine SWrap.i64z ((0 : Nat) : Int) (by simp) (by omega) ?_
    refine SWrap.i64z ((0 * n + 0 : Nat) : Int) (by omega) (by omega) ?_
    refine SPos.mk 2 rfl (by decide) ?_
    refine SWrap.i64z ((cntB 4 n : Nat) : Int) (by simp [cntA, cntB, cntH] <;> omega) (by have := cnt_le (k := 4) (r := r) n1 (show n ≤ 8 by omega) (show r ≤ 3 by omega); omega) ?_
    refine SCmp.no (neF rfl) ?_
    refine SWrap.i64z ((1 + 1 : Nat) : Int) (by omega) (by omega) ?_
    exact ⟨1 + 1, [0, 1], by decide, by decide, ⟨rfl, by simp, rfl, rfl, rfl, ⟨rfl, rfl, rfl, rfl, rfl, trivial⟩, ⟨rfl, rfl, trivial⟩⟩⟩
  · refine SCmp.yes (rfl) ?_
    refine SIdx.mk 2 _ rfl rfl ?_
    refine SKeys.all rfl <| SGet.none rfl ?_
    refine SZ.mk ((cntH 4 n r : Nat) : Int) (by simp [lst]) ?_
    refine SPos.mk 0 rfl (by decide) ?_
    refine SWrap.i64z ((0 * n : Nat) : Int) (by omega) (by omega) ?_
    refine SPos.mk 1 rfl (by decide) ?_
    refine SWrap.i64z ((0 * n : Nat) : Int) (by omega) (by omega) ?_
    refine SWrap.i64z ((0 : Nat) : Int) (by simp) (by omega) ?_
    refine SWrap.i64z ((0 * n + 0 : Nat) : Int) (by omega) (by omega) ?_
    refine SPos.mk 2 rfl (by decide) ?_
    refine SWrap.i64z ((cntH 4 n r : Nat) : Int) (by simp [cntA, cntB, cntH] <;> omega) (by have := cnt_le (k := 4) (r := r) n1 (show n ≤ 8 by omega) (show r ≤ 3 by omega); omega) ?_
    refine SCmp.no (neF rfl) ?_
    refine SWrap.i64z ((2 + 1 : Nat) : Int) (by omega) (by omega) ?_
    exact ⟨2 + 1, [0, 1], by decide, by decide, ⟨rfl, by simp, rfl, rfl, rfl, ⟨rfl, rfl, rfl, rfl, rfl, trivial⟩, ⟨rfl, rfl, trivial⟩⟩⟩
  · refine SCmp.yes (rfl) ?_
    refine SIdx.mk 3 _ rfl rfl ?_
    refine SKeys.all rfl <| SGet.none rfl ?_
    refine SZ.mk ((cntH 4 n r : Nat) : Int) (by simp [lst]) ?_
    refine SPos.mk 0 rfl (by decide) ?_
    refine SWrap.i64z ((0 * n : Nat) : Int) (by omega) (by omega) ?_
    refine SPos.mk 1 rfl (by decide) ?_
    refine SWrap.i64z ((0 * n : Nat) : Int) (by omega) (by omega) ?_
    refine SWrap.i64z ((0 : Nat) : Int) (by simp) (by omega) ?_
    refine SWrap.i64z ((0 * n + 0 : Nat) : Int) (by omega) (by omega) ?_
    refine SPos.mk 2 rfl (by decide) ?_
    refine SWrap.i64z ((cntH 4 n r : Nat) : Int) (by simp [cntA, cntB, cntH] <;> omega) (by have := cnt_le (k := 4) (r := r) n1 (show n ≤ 8 by omega) (show r ≤ 3 by omega); omega) ?_
    refine SCmp.no (neF rfl) ?_
    refine SWrap.i64z ((3 + 1 : Nat) : Int) (by omega) (by omega) ?_
    exact ⟨3 + 1, [0, 1], by decide, by decide, ⟨rfl, by simp, rfl, rfl, rfl, ⟨rfl, rfl, rfl, rfl, rfl, trivial⟩, ⟨rfl, rfl, trivial⟩⟩⟩
  · refine SCmp.no (rfl) ?_
    refine SLoop.mk Nat (fun i => ([(1, .bptr 0 0), (60, .p (.agg [ratsM (m 0) (lst (cntA 4 n) A), ratsM (m 1) (lst (cntB 4 n) B), ratsM (m 2) (lst (cntH 4 n r) G), ratsM (m 3) (lst (cntH 4 n r) H)])), (61, .p (.int .i64 i))], [.box 26 [.p (.int .i64 ((4 : Nat) : Int)), .p (.int .i64 (n : Int)), .p (.int .i64 (r : Int)), .p (ratsM (m 0) (lst (cntA 4 n) A)), .p (ratsM (m 1) (lst (cntB 4 n) B)), .p (ratsM (m 2) (lst (cntH 4 n r) G)), .p (ratsM (m 3) (lst (cntH 4 n r) H))], .box 121 [.p (ratsM (m 0) (lst (cntA 4 n) A)), .p (ratsM (m 1) (lst (cntB 4 n) B)), .p (ratsM (m 2) (lst (cntH 4 n r) G)), .p (ratsM (m 3) (lst (cntH 4 n r) H))]]))
      (fun i => i ≤ 4) (fun i => 4 - i) 0 [0, 1] (Nat.zero_le _) ⟨rfl, by simp, rfl, rfl, rfl, ⟨rfl, rfl, rfl, trivial⟩, ⟨rfl, rfl, trivial⟩⟩ ?_
    intro i hi
    have hi : i ≤ 4 := hi
    rcases (show i = 0 ∨ i = 1 ∨ i = 2 ∨ i = 3 ∨ i = 4 by omega) with rfl | rfl | rfl | rfl | rfl
    · refine SCmp.yes (rfl) ?_
      refine SIdx.mk 0 _ rfl rfl ?_
      refine SCall.pure (none1_ok (m 0) (lst (cntA 4 n) A) (fun i hi => by rw [lst_length] at hi; rw [lst_getD hi]; exact check1_ok _ ((h.bA i hi).mono (by omega))) (by rw [lst_length]; exact Nat.le_trans (cb 0) (by decide))) ?_
      refine SCond.mk (fun h => by cases h) (fun _ => ?_)
      refine SWrap.i64z ((0 + 1 : Nat) : Int) (by omega) (by omega) ?_
      exact ⟨0 + 1, [0, 1], by decide, by decide, ⟨rfl, by simp, rfl, rfl, rfl, ⟨rfl, rfl, rfl, trivial⟩, ⟨rfl, rfl, trivial⟩⟩⟩
    · refine SCmp.yes (rfl) ?_
      refine SIdx.mk 1 _ rfl rfl ?_
      refine SCall.pure (none1_ok (m 1) (lst (cntB 4 n) B) (fun i hi => by rw [lst_length] at hi; rw [lst_getD hi]; exact check1_ok _ ((h.bB i hi).mono (by omega))) (by rw [lst_length]; exact Nat.le_trans (cb 1) (by decide))) ?_
      refine SCond.mk (fun h => by cases h) (fun _ => ?_)
      refine SWrap.i64z ((1 + 1 : Nat) : Int) (by omega) (by omega) ?_
      exact ⟨1 + 1, [0, 1], by decide, by decide, ⟨rfl, by simp, rfl, rfl, rfl, ⟨rfl, rfl, rfl, trivial⟩, ⟨rfl, rfl, trivial⟩⟩⟩
    · refine SCmp.yes (rfl) ?_
      refine SIdx.mk 2 _ rfl rfl ?_
      refine SCall.pure (none1_ok (m 2) (lst (cntH 4 n r) G) (fun i hi => by rw [lst_length] at hi; rw [lst_getD hi]; exact check1_ok _ ((h.bG i hi).mono (by omega))) (by rw [lst_length]; exact Nat.le_trans (cb 2) (by decide))) ?_
      refine SCond.mk (fun h => by cases h) (fun _ => ?_)
      refine SWrap.i64z ((2 + 1 : Nat) : Int) (by omega) (by omega) ?_
      exact ⟨2 + 1, [0, 1], by decide, by decide, ⟨rfl, by simp, rfl, rfl, rfl, ⟨rfl, rfl, rfl, trivial⟩, ⟨rfl, rfl, trivial⟩⟩⟩
    · refine SCmp.yes (rfl) ?_
      refine SIdx.mk 3 _ rfl rfl ?_
      refine SCall.pure (none1_ok (m 3) (lst (cntH 4 n r) H) (fun i hi => by rw [lst_length] at hi; rw [lst_getD hi]; exact check1_ok _ ((h.bH i hi).mono (by omega))) (by rw [lst_length]; exact Nat.le_trans (cb 3) (by decide))) ?_
      refine SCond.mk (fun h => by cases h) (fun _ => ?_)
      refine SWrap.i64z ((3 + 1 : Nat) : Int) (by omega) (by omega) ?_
      exact ⟨3 + 1, [0, 1], by decide, by decide, ⟨rfl, by simp, rfl, rfl, rfl, ⟨rfl, rfl, rfl, trivial⟩, ⟨rfl, rfl, trivial⟩⟩⟩
    · refine SCmp.no (rfl) ?_
      refine SZ.mk ((cntA 4 n : Nat) : Int) (by simp [lst]) ?_
      refine SLoop.mk Nat (fun i => ([(1, .bptr 0 0), (68, .p (ratsM (m 0) (lst (cntA 4 n) A))), (69, .p (.int .i64 ((cntA 4 n : Nat) : Int))), (70, .p (.int .i64 i))], [.box 26 [.p (.int .i64 ((4 : Nat) : Int)), .p (.int .i64 (n : Int)), .p (.int .i64 (r : Int)), .p (ratsM (m 0) (lst (cntA 4 n) A)), .p (ratsM (m 1) (lst (cntB 4 n) B)), .p (ratsM (m 2) (lst (cntH 4 n r) G)), .p (ratsM (m 3) (lst (cntH 4 n r) H))], .box 121 [.p (ratsM (m 0) (lst (cntA 4 n) A)), .p (ratsM (m 1) (lst (cntB 4 n) B)), .p (ratsM (m 2) (lst (cntH 4 n r) G)), .p (ratsM (m 3) (lst (cntH 4 n r) H))]]))
        (fun i => i ≤ cntA 4 n) (fun i => cntA 4 n - i) 0 [0, 1] (Nat.zero_le _) ⟨rfl, by simp, rfl, rfl, rfl, ⟨rfl, rfl, rfl, rfl, trivial⟩, ⟨rfl, rfl, trivial⟩⟩ ?_
      intro i hi
      have hi : i ≤ cntA 4 n := hi
      have cA := cb 0
      by_cases hia : i < cntA 4 n
      · refine SCmp.yes (decide_eq_true (by omega)) ?_
        refine SIdx.rf i rfl hia ?_
        have hz := (h.bA i hia).mono (show b ≤ c by omega)
        have hc2 := none2_ok (m 1) true (A i) (lst (cntB 4 n) B) (fun j hj => by
          rw [lst_length] at hj; rw [lst_getD hj]
          have := check2_ok true (A i) (B j) hz (h.bB j hj) (by omega)
          rw [decide_eq_false (h.ne i j hia hj)] at this
          exact this) (by rw [lst_length]; exact Nat.le_trans (cb 1) (by decide))
        refine SCall.pure (pvs := [ratsM (m 1) (lst (cntB 4 n) B), .fn 104 [.pel true (ratP (A i))]]) hc2 ?_
        refine SCond.mk (fun h => by cases h) (fun _ => ?_)
        refine SWrap.i64z ((i + 1 : Nat) : Int) (by omega) (by omega) ?_
        exact ⟨i + 1, [0, 1], hia, by show cntA 4 n - (i + 1) < cntA 4 n - i; omega, ⟨rfl, by simp, rfl, rfl, rfl, ⟨rfl, rfl, rfl, rfl, trivial⟩, ⟨rfl, rfl, trivial⟩⟩⟩
      · refine SCmp.no (decide_eq_false (by omega)) ?_
        exact SRet.pure (.p _ (.int _ _))
theorem gcheck5_ok (m : Nat → Bool) (n r : Nat) (A B G H : Nat → Rat) {b c : Nat} (h : Wf ⟨5, n, r, A, B, G, H⟩ b c) : CallP Tryz.prog 72 [genP m ⟨5, n, r, A, B, G, H⟩] (.p (.int .i64 0)) [] := by
  have n6 : n ≤ 6 := h.n6
  have n1 : 1 ≤ n := h.n1
  have r2 : r ≤ 2 := h.r2
  have hnr : n * r ≤ 12 := Nat.mul_le_mul n6 r2
  have hc4 := h.c4
  have hbc := h.bc
  have cc := cnt_le (k := 5) (r := r) n1 (show n ≤ 8 by omega) (show r ≤ 3 by omega)
  have cb : ∀ i : Nat, (if i = 0 then cntA 5 n else if i = 1 then cntB 5 n else cntH 5 n r) ≤ 24 := fun i => by split <;> (try split) <;> omega
  show CallP Tryz.prog 72 [.agg [.int .i64 ((5 : Nat) : Int), .int .i64 (n : Int), .int .i64 (r : Int), ratsM (m 0) (lst (cntA 5 n) A), ratsM (m 1) (lst (cntB 5 n) B), ratsM (m 2) (lst (cntH 5 n r) G), ratsM (m 3) (lst (cntH 5 n r) H)]] (.p (.int .i64 0)) []
  refine callG_of_vc (wr := wr0) Γok mixed Tryz.func72 (by kernel_rfl) rfl (by kernel_rfl) (le_of_ble rfl) (by simp) ?_
  refine SCmp.no (decide_eq_false (by omega)) ?_
  refine SCmp.no (decide_eq_false (by omega)) ?_
  refine SCall.pure (sized_ok m ⟨5, n, r, A, B, G, H⟩ h) ?_
  refine SCmp.no (rfl) ?_
  refine SCall.lent [genP m ⟨5, n, r, A, B, G, H⟩] _ rfl (genrows_ok m ⟨5, n, r, A, B, G, H⟩) ?_
  refine SCall.pure (counts_ok) ?_
  refine SLoop.mk Nat (fun i => ([(1, .bptr 0 0), (3, .bptr 1 0), (4, .p (.mp false cntM)), (28, .p (.agg [ratsM (m 0) (lst (cntA 5 n) A), ratsM (m 1) (lst (cntB 5 n) B), ratsM (m 2) (lst (cntH 5 n r) G), ratsM (m 3) (lst (cntH 5 n r) H)])), (29, .p (.int .i64 i))], [.box 26 [.p (.int .i64 ((5 : Nat) : Int)), .p (.int .i64 (n : Int)), .p (.int .i64 (r : Int)), .p (ratsM (m 0) (lst (cntA 5 n) A)), .p (ratsM (m 1) (lst (cntB 5 n) B)), .p (ratsM (m 2) (lst (cntH 5 n r) G)), .p (ratsM (m 3) (lst (cntH 5 n r) H))], .box 121 [.p (ratsM (m 0) (lst (cntA 5 n) A)), .p (ratsM (m 1) (lst (cntB 5 n) B)), .p (ratsM (m 2) (lst (cntH 5 n r) G)), .p (ratsM (m 3) (lst (cntH 5 n r) H))]]))
    (fun i => i ≤ 4) (fun i => 4 - i) 0 [0, 1] (Nat.zero_le _) ⟨rfl, by simp, rfl, rfl, rfl, ⟨rfl, rfl, rfl, rfl, rfl, trivial⟩, ⟨rfl, rfl, trivial⟩⟩ ?_
  intro i hi
  have hi : i ≤ 4 := hi
  rcases (show i = 0 ∨ i = 1 ∨ i = 2 ∨ i = 3 ∨ i = 4 by omega) with rfl | rfl | rfl | rfl | rfl
  · refine SCmp.yes (rfl) ?_
    refine SIdx.mk 0 _ rfl rfl ?_
    refine SKeys.all rfl <| SGet.at 4 _ rfl rfl rfl ?_
    refine SZ.mk ((cntA 5 n : Nat) : Int) (by simp [lst]) ?_
    refine SPos.mk 0 rfl (by decide) ?_
    refine SWrap.i64z ((1 * n : Nat) : Int) (by omega) (by omega) ?_
    refine SPos.mk 1 rfl (by decide) ?_
    refine SWrap.i64z ((0 * n : Nat) : Int) (by omega) (by omega) ?_
    refine SWrap.i64z ((0 : Nat) : Int) (by simp) (by omega) ?_
    refine SWrap.i64z ((1 * n + 0 : Nat) : Int) (by omega) (by omega) ?_
    refine SPos.mk 2 rfl (by decide) ?_
    refine SWrap.i64z ((cntA 5 n : Nat) : Int) (by simp [cntA, cntB, cntH] <;> omega) (by have := cnt_le (k := 5) (r := r) n1 (show n ≤ 8 by omega) (show r ≤ 3 by omega); omega) ?_
    refine SCmp.no (neF rfl) ?_
    refine SWrap.i64z ((0 + 1 : Nat) : Int) (by omega) (by omega) ?_
    exact ⟨0 + 1, [0, 1], by decide, by decide, ⟨rfl, by simp, rfl, rfl, rfl, ⟨rfl, rfl, rfl, rfl, rfl, trivial⟩, ⟨rfl, rfl, trivial⟩⟩⟩
  · refine SCmp.yes (rfl) ?_
    refine SIdx.mk 1 _ rfl rfl ?_
    refine SKeys.all rfl <| SGet.at 5 _ rfl rfl rfl ?_
    refine SZ.mk ((cntB 5 n : Nat) : Int) (by simp [lst]) ?_
    refine SPos.mk 0 rfl (by decide) ?_
    refine SWrap.i64z ((1 * n : Nat) : Int) (by omega) (by omega) ?_
    refine SPos.mk 1 rfl (by decide) ?_
    refine SWrap.i64z ((0 * n : Nat) : Int) (by omega) (by omega) ?_
    refine SWrap.i64z ((0 : Nat) : Int) (by simp) (by omega) ?_
    refine SWrap.i64z ((1 * n + 0 : Nat) : Int) (by omega) (by omega) ?_
    refine SPos.mk 2 rfl (by decide) ?_
    refine SWrap.i64z ((cntB 5 n : Nat) : Int) (by simp [cntA, cntB, cntH] <;> omega) (by have := cnt_le (k := 5) (r := r) n1 (show n ≤ 8 by omega) (show r ≤ 3 by omega); omega) ?_
    refine SCmp.no (neF rfl) ?_
    refine SWrap.i64z ((1 + 1 : Nat) : Int) (by omega) (by omega) ?_
    exact ⟨1 + 1, [0, 1], by decide, by decide, ⟨rfl, by simp, rfl, rfl, rfl, ⟨rfl, rfl, rfl, rfl, rfl, trivial⟩, ⟨rfl, rfl, trivial⟩⟩⟩
  · refine SCmp.yes (rfl) ?_
    refine SIdx.mk 2 _ rfl rfl ?_
    refine SKeys.all rfl <| SGet.none rfl ?_
    refine SZ.mk ((cntH 5 n r : Nat) : Int) (by simp [lst]) ?_
    refine SPos.mk 0 rfl (by decide) ?_
    refine SWrap.i64z ((0 * n : Nat) : Int) (by omega) (by omega) ?_
    refine SPos.mk 1 rfl (by decide) ?_
    refine SWrap.i64z ((0 * n : Nat) : Int) (by omega) (by omega) ?_
    refine SWrap.i64z ((0 : Nat) : Int) (by simp) (by omega) ?_
    refine SWrap.i64z ((0 * n + 0 : Nat) : Int) (by omega) (by omega) ?_
    refine SPos.mk 2 rfl (by decide) ?_
    refine SWrap.i64z ((cntH 5 n r : Nat) : Int) (by simp [cntA, cntB, cntH] <;> omega) (by have := cnt_le (k := 5) (r := r) n1 (show n ≤ 8 by omega) (show r ≤ 3 by omega); omega) ?_
    refine SCmp.no (neF rfl) ?_
    refine SWrap.i64z ((2 + 1 : Nat) : Int) (by omega) (by omega) ?_
    exact ⟨2 + 1, [0, 1], by decide, by decide, ⟨rfl, by simp, rfl, rfl, rfl, ⟨rfl, rfl, rfl, rfl, rfl, trivial⟩, ⟨rfl, rfl, trivial⟩⟩⟩
  · refine SCmp.yes (rfl) ?_
    refine SIdx.mk 3 _ rfl rfl ?_
    refine SKeys.all rfl <| SGet.none rfl ?_
    refine SZ.mk ((cntH 5 n r : Nat) : Int) (by simp [lst]) ?_
    refine SPos.mk 0 rfl (by decide) ?_
    refine SWrap.i64z ((0 * n : Nat) : Int) (by omega) (by omega) ?_
    refine SPos.mk 1 rfl (by decide) ?_
    refine SWrap.i64z ((0 * n : Nat) : Int) (by omega) (by omega) ?_
    refine SWrap.i64z ((0 : Nat) : Int) (by simp) (by omega) ?_
    refine SWrap.i64z ((0 * n + 0 : Nat) : Int) (by omega) (by omega) ?_
    refine SPos.mk 2 rfl (by decide) ?_
    refine SWrap.i64z ((cntH 5 n r : Nat) : Int) (by simp [cntA, cntB, cntH] <;> omega) (by have := cnt_le (k := 5) (r := r) n1 (show n ≤ 8 by omega) (show r ≤ 3 by omega); omega) ?_
    refine SCmp.no (neF rfl) ?_
    refine SWrap.i64z ((3 + 1 : Nat) : Int) (by omega) (by omega) ?_
    exact ⟨3 + 1, [0, 1], by decide, by decide, ⟨rfl, by simp, rfl, rfl, rfl, ⟨rfl, rfl, rfl, rfl, rfl, trivial⟩, ⟨rfl, rfl, trivial⟩⟩⟩
  · refine SCmp.no (rfl) ?_
    refine SLoop.mk Nat (fun i => ([(1, .bptr 0 0), (60, .p (.agg [ratsM (m 0) (lst (cntA 5 n) A), ratsM (m 1) (lst (cntB 5 n) B), ratsM (m 2) (lst (cntH 5 n r) G), ratsM (m 3) (lst (cntH 5 n r) H)])), (61, .p (.int .i64 i))], [.box 26 [.p (.int .i64 ((5 : Nat) : Int)), .p (.int .i64 (n : Int)), .p (.int .i64 (r : Int)), .p (ratsM (m 0) (lst (cntA 5 n) A)), .p (ratsM (m 1) (lst (cntB 5 n) B)), .p (ratsM (m 2) (lst (cntH 5 n r) G)), .p (ratsM (m 3) (lst (cntH 5 n r) H))], .box 121 [.p (ratsM (m 0) (lst (cntA 5 n) A)), .p (ratsM (m 1) (lst (cntB 5 n) B)), .p (ratsM (m 2) (lst (cntH 5 n r) G)), .p (ratsM (m 3) (lst (cntH 5 n r) H))]]))
      (fun i => i ≤ 4) (fun i => 4 - i) 0 [0, 1] (Nat.zero_le _) ⟨rfl, by simp, rfl, rfl, rfl, ⟨rfl, rfl, rfl, trivial⟩, ⟨rfl, rfl, trivial⟩⟩ ?_
    intro i hi
    have hi : i ≤ 4 := hi
    rcases (show i = 0 ∨ i = 1 ∨ i = 2 ∨ i = 3 ∨ i = 4 by omega) with rfl | rfl | rfl | rfl | rfl
    · refine SCmp.yes (rfl) ?_
      refine SIdx.mk 0 _ rfl rfl ?_
      refine SCall.pure (none1_ok (m 0) (lst (cntA 5 n) A) (fun i hi => by rw [lst_length] at hi; rw [lst_getD hi]; exact check1_ok _ ((h.bA i hi).mono (by omega))) (by rw [lst_length]; exact Nat.le_trans (cb 0) (by decide))) ?_
      refine SCond.mk (fun h => by cases h) (fun _ => ?_)
      refine SWrap.i64z ((0 + 1 : Nat) : Int) (by omega) (by omega) ?_
      exact ⟨0 + 1, [0, 1], by decide, by decide, ⟨rfl, by simp, rfl, rfl, rfl, ⟨rfl, rfl, rfl, trivial⟩, ⟨rfl, rfl, trivial⟩⟩⟩
    · refine SCmp.yes (rfl) ?_
      refine SIdx.mk 1 _ rfl rfl ?_
      refine SCall.pure (none1_ok (m 1) (lst (cntB 5 n) B) (fun i hi => by rw [lst_length] at hi; rw [lst_getD hi]; exact check1_ok _ ((h.bB i hi).mono (by omega))) (by rw [lst_length]; exact Nat.le_trans (cb 1) (by decide))) ?_
      refine SCond.mk (fun h => by cases h) (fun _ => ?_)
      refine SWrap.i64z ((1 + 1 : Nat) : Int) (by omega) (by omega) ?_
      exact ⟨1 + 1, [0, 1], by decide, by decide, ⟨rfl, by simp, rfl, rfl, rfl, ⟨rfl, rfl, rfl, trivial⟩, ⟨rfl, rfl, trivial⟩⟩⟩
    · refine SCmp.yes (rfl) ?_
      refine SIdx.mk 2 _ rfl rfl ?_
      refine SCall.pure (none1_ok (m 2) (lst (cntH 5 n r) G) (fun i hi => by rw [lst_length] at hi; rw [lst_getD hi]; exact check1_ok _ ((h.bG i hi).mono (by omega))) (by rw [lst_length]; exact Nat.le_trans (cb 2) (by decide))) ?_
      refine SCond.mk (fun h => by cases h) (fun _ => ?_)
      refine SWrap.i64z ((2 + 1 : Nat) : Int) (by omega) (by omega) ?_
      exact ⟨2 + 1, [0, 1], by decide, by decide, ⟨rfl, by simp, rfl, rfl, rfl, ⟨rfl, rfl, rfl, trivial⟩, ⟨rfl, rfl, trivial⟩⟩⟩
    · refine SCmp.yes (rfl) ?_
      refine SIdx.mk 3 _ rfl rfl ?_
      refine SCall.pure (none1_ok (m 3) (lst (cntH 5 n r) H) (fun i hi => by rw [lst_length] at hi; rw [lst_getD hi]; exact check1_ok _ ((h.bH i hi).mono (by omega))) (by rw [lst_length]; exact Nat.le_trans (cb 3) (by decide))) ?_
      refine SCond.mk (fun h => by cases h) (fun _ => ?_)
      refine SWrap.i64z ((3 + 1 : Nat) : Int) (by omega) (by omega) ?_
      exact ⟨3 + 1, [0, 1], by decide, by decide, ⟨rfl, by simp, rfl, rfl, rfl, ⟨rfl, rfl, rfl, trivial⟩, ⟨rfl, rfl, trivial⟩⟩⟩
    · refine SCmp.no (rfl) ?_
      refine SZ.mk ((cntA 5 n : Nat) : Int) (by simp [lst]) ?_
      refine SLoop.mk Nat (fun i => ([(1, .bptr 0 0), (68, .p (ratsM (m 0) (lst (cntA 5 n) A))), (69, .p (.int .i64 ((cntA 5 n : Nat) : Int))), (70, .p (.int .i64 i))], [.box 26 [.p (.int .i64 ((5 : Nat) : Int)), .p (.int .i64 (n : Int)), .p (.int .i64 (r : Int)), .p (ratsM (m 0) (lst (cntA 5 n) A)), .p (ratsM (m 1) (lst (cntB 5 n) B)), .p (ratsM (m 2) (lst (cntH 5 n r) G)), .p (ratsM (m 3) (lst (cntH 5 n r) H))], .box 121 [.p (ratsM (m 0) (lst (cntA 5 n) A)), .p (ratsM (m 1) (lst (cntB 5 n) B)), .p (ratsM (m 2) (lst (cntH 5 n r) G)), .p (ratsM (m 3) (lst (cntH 5 n r) H))]]))
        (fun i => i ≤ cntA 5 n) (fun i => cntA 5 n - i) 0 [0, 1] (Nat.zero_le _) ⟨rfl, by simp, rfl, rfl, rfl, ⟨rfl, rfl, rfl, rfl, trivial⟩, ⟨rfl, rfl, trivial⟩⟩ ?_
      intro i hi
      have hi : i ≤ cntA 5 n := hi
      have cA := cb 0
      by_cases hia : i < cntA 5 n
      · refine SCmp.yes (decide_eq_true (by omega)) ?_
        refine SIdx.rf i rfl hia ?_
        have hz := (h.bA i hia).mono (show b ≤ c by omega)
        have hc2 := none2_ok (m 1) true (A i) (lst (cntB 5 n) B) (fun j hj => by
          rw [lst_length] at hj; rw [lst_getD hj]
          have := check2_ok true (A i) (B j) hz (h.bB j hj) (by omega)
          rw [decide_eq_false (h.ne i j hia hj)] at this
          exact this) (by rw [lst_length]; exact Nat.le_trans (cb 1) (by decide))
        refine SCall.pure (pvs := [ratsM (m 1) (lst (cntB 5 n) B), .fn 104 [.pel true (ratP (A i))]]) hc2 ?_
        refine SCond.mk (fun h => by cases h) (fun _ => ?_)
        refine SWrap.i64z ((i + 1 : Nat) : Int) (by omega) (by omega) ?_
        exact ⟨i + 1, [0, 1], hia, by show cntA 5 n - (i + 1) < cntA 5 n - i; omega, ⟨rfl, by simp, rfl, rfl, rfl, ⟨rfl, rfl, rfl, rfl, trivial⟩, ⟨rfl, rfl, trivial⟩⟩⟩
      · refine SCmp.no (decide_eq_false (by omega)) ?_
        exact SRet.pure (.p _ (.int _ _))
theorem gcheck6_ok (m : Nat → Bool) (n r : Nat) (A B G H : Nat → Rat) {b c : Nat} (h : Wf ⟨6, n, r, A, B, G, H⟩ b c) : CallP Tryz.prog 72 [genP m ⟨6, n, r, A, B, G, H⟩] (.p (.int .i64 0)) [] := by
  have n6 : n ≤ 6 := h.n6
  have n1 : 1 ≤ n := h.n1
  have r2 : r ≤ 2 := h.r2
  have hnr : n * r ≤ 12 := Nat.mul_le_mul n6 r2
  have hc4 := h.c4
  have hbc := h.bc
  have cc := cnt_le (k := 6) (r := r) n1 (show n ≤ 8 by omega) (show r ≤ 3 by omega)
  have cb : ∀ i : Nat, (if i = 0 then cntA 6 n else if i = 1 then cntB 6 n else cntH 6 n r) ≤ 24 := fun i => by split <;> (try split) <;> omega
  show CallP Tryz.prog 72 [.agg [.int .i64 ((6 : Nat) : Int), .int .i64 (n : Int), .int .i64 (r : Int), ratsM (m 0) (lst (cntA 6 n) A), ratsM (m 1) (lst (cntB 6 n) B), ratsM (m 2) (lst (cntH 6 n r) G), ratsM (m 3) (lst (cntH 6 n r) H)]] (.p (.int .i64 0)) []
  refine callG_of_vc (wr := wr0) Γok mixed Tryz.func72 (by kernel_rfl) rfl (by kernel_rfl) (le_of_ble rfl) (by simp) ?_
  refine SCmp.no (decide_eq_false (by omega)) ?_
  refine SCmp.no (decide_eq_false (by omega)) ?_
  refine SCall.pure (sized_ok m ⟨6, n, r, A, B, G, H⟩ h) ?_
  refine SCmp.no (rfl) ?_
  refine SCall.lent [genP m ⟨6, n, r, A, B, G, H⟩] _ rfl (genrows_ok m ⟨6, n, r, A, B, G, H⟩) ?_
  refine SCall.pure (counts_ok) ?_
  refine SLoop.mk Nat (fun i => ([(1, .bptr 0 0), (3, .bptr 1 0), (4, .p (.mp false cntM)), (28, .p (.agg [ratsM (m 0) (lst (cntA 6 n) A), ratsM (m 1) (lst (cntB 6 n) B), ratsM (m 2) (lst (cntH 6 n r) G), ratsM (m 3) (lst (cntH 6 n r) H)])), (29, .p (.int .i64 i))], [.box 26 [.p (.int .i64 ((6 : Nat) : Int)), .p (.int .i64 (n : Int)), .p (.int .i64 (r : Int)), .p (ratsM (m 0) (lst (cntA 6 n) A)), .p (ratsM (m 1) (lst (cntB 6 n) B)), .p (ratsM (m 2) (lst (cntH 6 n r) G)), .p (ratsM (m 3) (lst (cntH 6 n r) H))], .box 121 [.p (ratsM (m 0) (lst (cntA 6 n) A)), .p (ratsM (m 1) (lst (cntB 6 n) B)), .p (ratsM (m 2) (lst (cntH 6 n r) G)), .p (ratsM (m 3) (lst (cntH 6 n r) H))]]))
    (fun i => i ≤ 4) (fun i => 4 - i) 0 [0, 1] (Nat.zero_le _) ⟨rfl, by simp, rfl, rfl, rfl, ⟨rfl, rfl, rfl, rfl, rfl, trivial⟩, ⟨rfl, rfl, trivial⟩⟩ ?_
  intro i hi
  have hi : i ≤ 4 := hi
  rcases (show i = 0 ∨ i = 1 ∨ i = 2 ∨ i = 3 ∨ i = 4 by omega) with rfl | rfl | rfl | rfl | rfl
  · refine SCmp.yes (rfl) ?_
    refine SIdx.mk 0 _ rfl rfl ?_
    refine SKeys.all rfl <| SGet.none rfl ?_
    refine SZ.mk ((cntA 6 n : Nat) : Int) (by simp [lst]) ?_
    refine SPos.mk 0 rfl (by decide) ?_
    refine SWrap.i64z ((0 * n : Nat) : Int) (by omega) (by omega) ?_
    refine SPos.mk 1 rfl (by decide) ?_
    refine SWrap.i64z ((0 * n : Nat) : Int) (by omega) (by omega) ?_
    refine SWrap.i64z ((0 : Nat) : Int) (by simp) (by omega) ?_
    refine SWrap.i64z ((0 * n + 0 : Nat) : Int) (by omega) (by omega) ?_
    refine SPos.mk 2 rfl (by decide) ?_
    refine SWrap.i64z ((cntA 6 n : Nat) : Int) (by simp [cntA, cntB, cntH] <;> omega) (by have := cnt_le (k := 6) (r := r) n1 (show n ≤ 8 by omega) (show r ≤ 3 by omega); omega) ?_
    refine SCmp.no (neF rfl) ?_
    refine SWrap.i64z ((0 + 1 : Nat) : Int) (by omega) (by omega) ?_
    exact ⟨0 + 1, [0, 1], by decide, by decide, ⟨rfl, by simp, rfl, rfl, rfl, ⟨rfl, rfl, rfl, rfl, rfl, trivial⟩, ⟨rfl, rfl, trivial⟩⟩⟩
  · refine SCmp.yes (rfl) ?_
    refine SIdx.mk 1 _ rfl rfl ?_
    refine SKeys.all rfl <| SGet.none rfl ?_
    refine SZ.mk ((cntB 6 n : Nat) : Int) (by simp [lst]) ?_
    refine SPos.mk 0 rfl (by decide) ?_
    refine SWrap.i64z ((0 * n : Nat) : Int) (by omega) (by omega) ?_
    refine SPos.mk 1 rfl (by decide) ?_
    refine SWrap.i64z ((0 * n : Nat) : Int) (by omega) (by omega) ?_
    refine SWrap.i64z ((0 : Nat) : Int) (by simp) (by omega) ?_
    refine SWrap.i64z ((0 * n + 0 : Nat) : Int) (by omega) (by omega) ?_
    refine SPos.mk 2 rfl (by decide) ?_
    refine SWrap.i64z ((cntB 6 n : Nat) : Int) (by simp [cntA, cntB, cntH] <;> omega) (by have := cnt_le (k := 6) (r := r) n1 (show n ≤ 8 by omega) (show r ≤ 3 by omega); omega) ?_
    refine SCmp.no (neF rfl) ?_
    refine SWrap.i64z ((1 + 1 : Nat) : Int) (by omega) (by omega) ?_
    exact ⟨1 + 1, [0, 1], by decide, by decide, ⟨rfl, by simp, rfl, rfl, rfl, ⟨rfl, rfl, rfl, rfl, rfl, trivial⟩, ⟨rfl, rfl, trivial⟩⟩⟩
  · refine SCmp.yes (rfl) ?_
    refine SIdx.mk 2 _ rfl rfl ?_
    refine SKeys.all rfl <| SGet.at 6 _ rfl rfl rfl ?_
    refine SZ.mk ((cntH 6 n r : Nat) : Int) (by simp [lst]) ?_
    refine SPos.mk 0 rfl (by decide) ?_
    refine SWrap.i64z ((0 * n : Nat) : Int) (by omega) (by omega) ?_
    refine SPos.mk 1 rfl (by decide) ?_
    refine SWrap.i64z ((1 * n : Nat) : Int) (by omega) (by omega) ?_
    refine SWrap.i64z ((n * r : Nat) : Int) (by rw [Int.natCast_mul]; simp) (by omega) ?_
    refine SWrap.i64z ((0 * n + n * r : Nat) : Int) (by omega) (by omega) ?_
    refine SPos.mk 2 rfl (by decide) ?_
    refine SWrap.i64z ((cntH 6 n r : Nat) : Int) (by simp [cntA, cntB, cntH] <;> omega) (by have := cnt_le (k := 6) (r := r) n1 (show n ≤ 8 by omega) (show r ≤ 3 by omega); omega) ?_
    refine SCmp.no (neF rfl) ?_
    refine SWrap.i64z ((2 + 1 : Nat) : Int) (by omega) (by omega) ?_
    exact ⟨2 + 1, [0, 1], by decide, by decide, ⟨rfl, by simp, rfl, rfl, rfl, ⟨rfl, rfl, rfl, rfl, rfl, trivial⟩, ⟨rfl, rfl, trivial⟩⟩⟩
  · refine SCmp.yes (rfl) ?_
    refine SIdx.mk 3 _ rfl rfl ?_
    refine SKeys.all rfl <| SGet.at 7 _ rfl rfl rfl ?_
    refine SZ.mk ((cntH 6 n r : Nat) : Int) (by simp [lst]) ?_
    refine SPos.mk 0 rfl (by decide) ?_
    refine SWrap.i64z ((0 * n : Nat) : Int) (by omega) (by omega) ?_
    refine SPos.mk 1 rfl (by decide) ?_
    refine SWrap.i64z ((1 * n : Nat) : Int) (by omega) (by omega) ?_
    refine SWrap.i64z ((n * r : Nat) : Int) (by rw [Int.natCast_mul]; simp) (by omega) ?_
    refine SWrap.i64z ((0 * n + n * r : Nat) : Int) (by omega) (by omega) ?_
    refine SPos.mk 2 rfl (by decide) ?_
    refine SWrap.i64z ((cntH 6 n r : Nat) : Int) (by simp [cntA, cntB, cntH] <;> omega) (by have := cnt_le (k := 6) (r := r) n1 (show n ≤ 8 by omega) (show r ≤ 3 by omega); omega) ?_
    refine SCmp.no (neF rfl) ?_
    refine SWrap.i64z ((3 + 1 : Nat) : Int) (by omega) (by omega) ?_
    exact ⟨3 + 1, [0, 1], by decide, by decide, ⟨rfl, by simp, rfl, rfl, rfl, ⟨rfl, rfl, rfl, rfl, rfl, trivial⟩, ⟨rfl, rfl, trivial⟩⟩⟩
  · refine SCmp.no (rfl) ?_
    refine SLoop.mk Nat (fun i => ([(1, .bptr 0 0), (60, .p (.agg [ratsM (m 0) (lst (cntA 6 n) A), ratsM (m 1) (lst (cntB 6 n) B), ratsM (m 2) (lst (cntH 6 n r) G), ratsM (m 3) (lst (cntH 6 n r) H)])), (61, .p (.int .i64 i))], [.box 26 [.p (.int .i64 ((6 : Nat) : Int)), .p (.int .i64 (n : Int)), .p (.int .i64 (r : Int)), .p (ratsM (m 0) (lst (cntA 6 n) A)), .p (ratsM (m 1) (lst (cntB 6 n) B)), .p (ratsM (m 2) (lst (cntH 6 n r) G)), .p (ratsM (m 3) (lst (cntH 6 n r) H))], .box 121 [.p (ratsM (m 0) (lst (cntA 6 n) A)), .p (ratsM (m 1) (lst (cntB 6 n) B)), .p (ratsM (m 2) (lst (cntH 6 n r) G)), .p (ratsM (m 3) (lst (cntH 6 n r) H))]]))
      (fun i => i ≤ 4) (fun i => 4 - i) 0 [0, 1] (Nat.zero_le _) ⟨rfl, by simp, rfl, rfl, rfl, ⟨rfl, rfl, rfl, trivial⟩, ⟨rfl, rfl, trivial⟩⟩ ?_
    intro i hi
    have hi : i ≤ 4 := hi
    rcases (show i = 0 ∨ i = 1 ∨ i = 2 ∨ i = 3 ∨ i = 4 by omega) with rfl | rfl | rfl | rfl | rfl
    · refine SCmp.yes (rfl) ?_
      refine SIdx.mk 0 _ rfl rfl ?_
      refine SCall.pure (none1_ok (m 0) (lst (cntA 6 n) A) (fun i hi => by rw [lst_length] at hi; rw [lst_getD hi]; exact check1_ok _ ((h.bA i hi).mono (by omega))) (by rw [lst_length]; exact Nat.le_trans (cb 0) (by decide))) ?_
      refine SCond.mk (fun h => by cases h) (fun _ => ?_)
      refine SWrap.i64z ((0 + 1 : Nat) : Int) (by omega) (by omega) ?_
      exact ⟨0 + 1, [0, 1], by decide, by decide, ⟨rfl, by simp, rfl, rfl, rfl, ⟨rfl, rfl, rfl, trivial⟩, ⟨rfl, rfl, trivial⟩⟩⟩
    · refine SCmp.yes (rfl) ?_
      refine SIdx.mk 1 _ rfl rfl ?_
      refine SCall.pure (none1_ok (m 1) (lst (cntB 6 n) B) (fun i hi => by rw [lst_length] at hi; rw [lst_getD hi]; exact check1_ok _ ((h.bB i hi).mono (by omega))) (by rw [lst_length]; exact Nat.le_trans (cb 1) (by decide))) ?_
      refine SCond.mk (fun h => by cases h) (fun _ => ?_)
      refine SWrap.i64z ((1 + 1 : Nat) : Int) (by omega) (by omega) ?_
      exact ⟨1 + 1, [0, 1], by decide, by decide, ⟨rfl, by simp, rfl, rfl, rfl, ⟨rfl, rfl, rfl, trivial⟩, ⟨rfl, rfl, trivial⟩⟩⟩
    · refine SCmp.yes (rfl) ?_
      refine SIdx.mk 2 _ rfl rfl ?_
      refine SCall.pure (none1_ok (m 2) (lst (cntH 6 n r) G) (fun i hi => by rw [lst_length] at hi; rw [lst_getD hi]; exact check1_ok _ ((h.bG i hi).mono (by omega))) (by rw [lst_length]; exact Nat.le_trans (cb 2) (by decide))) ?_
      refine SCond.mk (fun h => by cases h) (fun _ => ?_)
      refine SWrap.i64z ((2 + 1 : Nat) : Int) (by omega) (by omega) ?_
      exact ⟨2 + 1, [0, 1], by decide, by decide, ⟨rfl, by simp, rfl, rfl, rfl, ⟨rfl, rfl, rfl, trivial⟩, ⟨rfl, rfl, trivial⟩⟩⟩
    · refine SCmp.yes (rfl) ?_
      refine SIdx.mk 3 _ rfl rfl ?_
      refine SCall.pure (none1_ok (m 3) (lst (cntH 6 n r) H) (fun i hi => by rw [lst_length] at hi; rw [lst_getD hi]; exact check1_ok _ ((h.bH i hi).mono (by omega))) (by rw [lst_length]; exact Nat.le_trans (cb 3) (by decide))) ?_
      refine SCond.mk (fun h => by cases h) (fun _ => ?_)
      refine SWrap.i64z ((3 + 1 : Nat) : Int) (by omega) (by omega) ?_
      exact ⟨3 + 1, [0, 1], by decide, by decide, ⟨rfl, by simp, rfl, rfl, rfl, ⟨rfl, rfl, rfl, trivial⟩, ⟨rfl, rfl, trivial⟩⟩⟩
    · refine SCmp.no (rfl) ?_
      refine SZ.mk ((cntA 6 n : Nat) : Int) (by simp [lst]) ?_
      refine SLoop.mk Nat (fun i => ([(1, .bptr 0 0), (68, .p (ratsM (m 0) (lst (cntA 6 n) A))), (69, .p (.int .i64 ((cntA 6 n : Nat) : Int))), (70, .p (.int .i64 i))], [.box 26 [.p (.int .i64 ((6 : Nat) : Int)), .p (.int .i64 (n : Int)), .p (.int .i64 (r : Int)), .p (ratsM (m 0) (lst (cntA 6 n) A)), .p (ratsM (m 1) (lst (cntB 6 n) B)), .p (ratsM (m 2) (lst (cntH 6 n r) G)), .p (ratsM (m 3) (lst (cntH 6 n r) H))], .box 121 [.p (ratsM (m 0) (lst (cntA 6 n) A)), .p (ratsM (m 1) (lst (cntB 6 n) B)), .p (ratsM (m 2) (lst (cntH 6 n r) G)), .p (ratsM (m 3) (lst (cntH 6 n r) H))]]))
        (fun i => i ≤ cntA 6 n) (fun i => cntA 6 n - i) 0 [0, 1] (Nat.zero_le _) ⟨rfl, by simp, rfl, rfl, rfl, ⟨rfl, rfl, rfl, rfl, trivial⟩, ⟨rfl, rfl, trivial⟩⟩ ?_
      intro i hi
      have hi : i ≤ cntA 6 n := hi
      have cA := cb 0
      by_cases hia : i < cntA 6 n
      · refine SCmp.yes (decide_eq_true (by omega)) ?_
        refine SIdx.rf i rfl hia ?_
        have hz := (h.bA i hia).mono (show b ≤ c by omega)
        have hc2 := none2_ok (m 1) true (A i) (lst (cntB 6 n) B) (fun j hj => by
          rw [lst_length] at hj; rw [lst_getD hj]
          have := check2_ok true (A i) (B j) hz (h.bB j hj) (by omega)
          rw [decide_eq_false (h.ne i j hia hj)] at this
          exact this) (by rw [lst_length]; exact Nat.le_trans (cb 1) (by decide))
        refine SCall.pure (pvs := [ratsM (m 1) (lst (cntB 6 n) B), .fn 104 [.pel true (ratP (A i))]]) hc2 ?_
        refine SCond.mk (fun h => by cases h) (fun _ => ?_)
        refine SWrap.i64z ((i + 1 : Nat) : Int) (by omega) (by omega) ?_
        exact ⟨i + 1, [0, 1], hia, by show cntA 6 n - (i + 1) < cntA 6 n - i; omega, ⟨rfl, by simp, rfl, rfl, rfl, ⟨rfl, rfl, rfl, rfl, trivial⟩, ⟨rfl, rfl, trivial⟩⟩⟩
      · refine SCmp.no (decide_eq_false (by omega)) ?_
        exact SRet.pure (.p _ (.int _ _))
theorem gcheck7_ok (m : Nat → Bool) (n r : Nat) (A B G H : Nat → Rat) {b c : Nat} (h : Wf ⟨7, n, r, A, B, G, H⟩ b c) : CallP Tryz.prog 72 [genP m ⟨7, n, r, A, B, G, H⟩] (.p (.int .i64 0)) [] := by
  have n6 : n ≤ 6 := h.n6
  have n1 : 1 ≤ n := h.n1
  have r2 : r ≤ 2 := h.r2
  have hnr : n * r ≤ 12 := Nat.mul_le_mul n6 r2
  have hc4 := h.c4
  have hbc := h.bc
  have cc := cnt_le (k := 7) (r := r) n1 (show n ≤ 8 by omega) (show r ≤ 3 by omega)
  have cb : ∀ i : Nat, (if i = 0 then cntA 7 n else if i = 1 then cntB 7 n else cntH 7 n r) ≤ 24 := fun i => by split <;> (try split) <;> omega
  show CallP Tryz.prog 72 [.agg [.int .i64 ((7 : Nat) : Int), .int .i64 (n : Int), .int .i64 (r : Int), ratsM (m 0) (lst (cntA 7 n) A), ratsM (m 1) (lst (cntB 7 n) B), ratsM (m 2) (lst (cntH 7 n r) G), ratsM (m 3) (lst (cntH 7 n r) H)]] (.p (.int .i64 0)) []
  refine callG_of_vc (wr := wr0) Γok mixed Tryz.func72 (by kernel_rfl) rfl (by kernel_rfl) (le_of_ble rfl) (by simp) ?_
  refine SCmp.no (decide_eq_false (by omega)) ?_
  refine SCmp.no (decide_eq_false (by omega)) ?_
  refine SCall.pure (sized_ok m ⟨7, n, r, A, B, G, H⟩ h) ?_
  refine SCmp.no (rfl) ?_
  refine SCall.lent [genP m ⟨7, n, r, A, B, G, H⟩] _ rfl (genrows_ok m ⟨7, n, r, A, B, G, H⟩) ?_
  refine SCall.pure (counts_ok) ?_
  refine SLoop.mk Nat (fun i => ([(1, .bptr 0 0), (3, .bptr 1 0), (4, .p (.mp false cntM)), (28, .p (.agg [ratsM (m 0) (lst (cntA 7 n) A), ratsM (m 1) (lst (cntB 7 n) B), ratsM (m 2) (lst (cntH 7 n r) G), ratsM (m 3) (lst (cntH 7 n r) H)])), (29, .p (.int .i64 i))], [.box 26 [.p (.int .i64 ((7 : Nat) : Int)), .p (.int .i64 (n : Int)), .p (.int .i64 (r : Int)), .p (ratsM (m 0) (lst (cntA 7 n) A)), .p (ratsM (m 1) (lst (cntB 7 n) B)), .p (ratsM (m 2) (lst (cntH 7 n r) G)), .p (ratsM (m 3) (lst (cntH 7 n r) H))], .box 121 [.p (ratsM (m 0) (lst (cntA 7 n) A)), .p (ratsM (m 1) (lst (cntB 7 n) B)), .p (ratsM (m 2) (lst (cntH 7 n r) G)), .p (ratsM (m 3) (lst (cntH 7 n r) H))]]))
    (fun i => i ≤ 4) (fun i => 4 - i) 0 [0, 1] (Nat.zero_le _) ⟨rfl, by simp, rfl, rfl, rfl, ⟨rfl, rfl, rfl, rfl, rfl, trivial⟩, ⟨rfl, rfl, trivial⟩⟩ ?_
  intro i hi
  have hi : i ≤ 4 := hi
  rcases (show i = 0 ∨ i = 1 ∨ i = 2 ∨ i = 3 ∨ i = 4 by omega) with rfl | rfl | rfl | rfl | rfl
  · refine SCmp.yes (rfl) ?_
    refine SIdx.mk 0 _ rfl rfl ?_
    refine SKeys.all rfl <| SGet.at 8 _ rfl rfl rfl ?_
    refine SZ.mk ((cntA 7 n : Nat) : Int) (by simp [lst]) ?_
    refine SPos.mk 0 rfl (by decide) ?_
    refine SWrap.i64z ((1 * n : Nat) : Int) (by omega) (by omega) ?_
    refine SPos.mk 1 rfl (by decide) ?_
    refine SWrap.i64z ((0 * n : Nat) : Int) (by omega) (by omega) ?_
    refine SWrap.i64z ((0 : Nat) : Int) (by simp) (by omega) ?_
    refine SWrap.i64z ((1 * n + 0 : Nat) : Int) (by omega) (by omega) ?_
    refine SPos.mk 2 rfl (by decide) ?_
    refine SWrap.i64z ((cntA 7 n : Nat) : Int) (by simp [cntA, cntB, cntH] <;> omega) (by have := cnt_le (k := 7) (r := r) n1 (show n ≤ 8 by omega) (show r ≤ 3 by omega); omega) ?_
    refine SCmp.no (neF rfl) ?_
    refine SWrap.i64z ((0 + 1 : Nat) : Int) (by omega) (by omega) ?_
    exact ⟨0 + 1, [0, 1], by decide, by decide, ⟨rfl, by simp, rfl, rfl, rfl, ⟨rfl, rfl, rfl, rfl, rfl, trivial⟩, ⟨rfl, rfl, trivial⟩⟩⟩
  · refine SCmp.yes (rfl) ?_
    refine SIdx.mk 1 _ rfl rfl ?_
    refine SKeys.all rfl <| SGet.at 9 _ rfl rfl rfl ?_
    refine SZ.mk ((cntB 7 n : Nat) : Int) (by simp [lst]) ?_
    refine SPos.mk 0 rfl (by decide) ?_
    refine SWrap.i64z ((1 * n : Nat) : Int) (by omega) (by omega) ?_
    refine SPos.mk 1 rfl (by decide) ?_
    refine SWrap.i64z ((0 * n : Nat) : Int) (by omega) (by omega) ?_
    refine SWrap.i64z ((0 : Nat) : Int) (by simp) (by omega) ?_
    refine SWrap.i64z ((1 * n + 0 : Nat) : Int) (by omega) (by omega) ?_
    refine SPos.mk 2 rfl (by decide) ?_
    refine SWrap.i64z ((cntB 7 n : Nat) : Int) (by simp [cntA, cntB, cntH] <;> omega) (by have := cnt_le (k := 7) (r := r) n1 (show n ≤ 8 by omega) (show r ≤ 3 by omega); omega) ?_
    refine SCmp.no (neF rfl) ?_
    refine SWrap.i64z ((1 + 1 : Nat) : Int) (by omega) (by omega) ?_
    exact ⟨1 + 1, [0, 1], by decide, by decide, ⟨rfl, by simp, rfl, rfl, rfl, ⟨rfl, rfl, rfl, rfl, rfl, trivial⟩, ⟨rfl, rfl, trivial⟩⟩⟩
  · refine SCmp.yes (rfl) ?_
    refine SIdx.mk 2 _ rfl rfl ?_
    refine SKeys.all rfl <| SGet.at 10 _ rfl rfl rfl ?_
    refine SZ.mk ((cntH 7 n r : Nat) : Int) (by simp [lst]) ?_
    refine SPos.mk 0 rfl (by decide) ?_
    refine SWrap.i64z ((0 * n : Nat) : Int) (by omega) (by omega) ?_
    refine SPos.mk 1 rfl (by decide) ?_
    refine SWrap.i64z ((1 * n : Nat) : Int) (by omega) (by omega) ?_
    refine SWrap.i64z ((n * r : Nat) : Int) (by rw [Int.natCast_mul]; simp) (by omega) ?_
    refine SWrap.i64z ((0 * n + n * r : Nat) : Int) (by omega) (by omega) ?_
    refine SPos.mk 2 rfl (by decide) ?_
    refine SWrap.i64z ((cntH 7 n r : Nat) : Int) (by simp [cntA, cntB, cntH] <;> omega) (by have := cnt_le (k := 7) (r := r) n1 (show n ≤ 8 by omega) (show r ≤ 3 by omega); omega) ?_
    refine SCmp.no (neF rfl) ?_
    refine SWrap.i64z ((2 + 1 : Nat) : Int) (by omega) (by omega) ?_
    exact ⟨2 + 1, [0, 1], by decide, by decide, ⟨rfl, by simp, rfl, rfl, rfl, ⟨rfl, rfl, rfl, rfl, rfl, trivial⟩, ⟨rfl, rfl, trivial⟩⟩⟩
  · refine SCmp.yes (rfl) ?_
    refine SIdx.mk 3 _ rfl rfl ?_
    refine SKeys.all rfl <| SGet.at 11 _ rfl rfl rfl ?_
    refine SZ.mk ((cntH 7 n r : Nat) : Int) (by simp [lst]) ?_
    refine SPos.mk 0 rfl (by decide) ?_
    refine SWrap.i64z ((0 * n : Nat) : Int) (by omega) (by omega) ?_
    refine SPos.mk 1 rfl (by decide) ?_
    refine SWrap.i64z ((1 * n : Nat) : Int) (by omega) (by omega) ?_
    refine SWrap.i64z ((n * r : Nat) : Int) (by rw [Int.natCast_mul]; simp) (by omega) ?_
    refine SWrap.i64z ((0 * n + n * r : Nat) : Int) (by omega) (by omega) ?_
    refine SPos.mk 2 rfl (by decide) ?_
    refine SWrap.i64z ((cntH 7 n r : Nat) : Int) (by simp [cntA, cntB, cntH] <;> omega) (by have := cnt_le (k := 7) (r := r) n1 (show n ≤ 8 by omega) (show r ≤ 3 by omega); omega) ?_
    refine SCmp.no (neF rfl) ?_
    refine SWrap.i64z ((3 + 1 : Nat) : Int) (by omega) (by omega) ?_
    exact ⟨3 + 1, [0, 1], by decide, by decide, ⟨rfl, by simp, rfl, rfl, rfl, ⟨rfl, rfl, rfl, rfl, rfl, trivial⟩, ⟨rfl, rfl, trivial⟩⟩⟩
  · refine SCmp.no (rfl) ?_
    refine SLoop.mk Nat (fun i => ([(1, .bptr 0 0), (60, .p (.agg [ratsM (m 0) (lst (cntA 7 n) A), ratsM (m 1) (lst (cntB 7 n) B), ratsM (m 2) (lst (cntH 7 n r) G), ratsM (m 3) (lst (cntH 7 n r) H)])), (61, .p (.int .i64 i))], [.box 26 [.p (.int .i64 ((7 : Nat) : Int)), .p (.int .i64 (n : Int)), .p (.int .i64 (r : Int)), .p (ratsM (m 0) (lst (cntA 7 n) A)), .p (ratsM (m 1) (lst (cntB 7 n) B)), .p (ratsM (m 2) (lst (cntH 7 n r) G)), .p (ratsM (m 3) (lst (cntH 7 n r) H))], .box 121 [.p (ratsM (m 0) (lst (cntA 7 n) A)), .p (ratsM (m 1) (lst (cntB 7 n) B)), .p (ratsM (m 2) (lst (cntH 7 n r) G)), .p (ratsM (m 3) (lst (cntH 7 n r) H))]]))
      (fun i => i ≤ 4) (fun i => 4 - i) 0 [0, 1] (Nat.zero_le _) ⟨rfl, by simp, rfl, rfl, rfl, ⟨rfl, rfl, rfl, trivial⟩, ⟨rfl, rfl, trivial⟩⟩ ?_
    intro i hi
    have hi : i ≤ 4 := hi
    rcases (show i = 0 ∨ i = 1 ∨ i = 2 ∨ i = 3 ∨ i = 4 by omega) with rfl | rfl | rfl | rfl | rfl
    · refine SCmp.yes (rfl) ?_
      refine SIdx.mk 0 _ rfl rfl ?_
      refine SCall.pure (none1_ok (m 0) (lst (cntA 7 n) A) (fun i hi => by rw [lst_length] at hi; rw [lst_getD hi]; exact check1_ok _ ((h.bA i hi).mono (by omega))) (by rw [lst_length]; exact Nat.le_trans (cb 0) (by decide))) ?_
      refine SCond.mk (fun h => by cases h) (fun _ => ?_)
      refine SWrap.i64z ((0 + 1 : Nat) : Int) (by omega) (by omega) ?_
      exact ⟨0 + 1, [0, 1], by decide, by decide, ⟨rfl, by simp, rfl, rfl, rfl, ⟨rfl, rfl, rfl, trivial⟩, ⟨rfl, rfl, trivial⟩⟩⟩
    · refine SCmp.yes (rfl) ?_
      refine SIdx.mk 1 _ rfl rfl ?_
      refine SCall.pure (none1_ok (m 1) (lst (cntB 7 n) B) (fun i hi => by rw [lst_length] at hi; rw [lst_getD hi]; exact check1_ok _ ((h.bB i hi).mono (by omega))) (by rw [lst_length]; exact Nat.le_trans (cb 1) (by decide))) ?_
      refine SCond.mk (fun h => by cases h) (fun _ => ?_)
      refine SWrap.i64z ((1 + 1 : Nat) : Int) (by omega) (by omega) ?_
      exact ⟨1 + 1, [0, 1], by decide, by decide, ⟨rfl, by simp, rfl, rfl, rfl, ⟨rfl, rfl, rfl, trivial⟩, ⟨rfl, rfl, trivial⟩⟩⟩
    · refine SCmp.yes (rfl) ?_
      refine SIdx.mk 2 _ rfl rfl ?_
      refine SCall.pure (none1_ok (m 2) (lst (cntH 7 n r) G) (fun i hi => by rw [lst_length] at hi; rw [lst_getD hi]; exact check1_ok _ ((h.bG i hi).mono (by omega))) (by rw [lst_length]; exact Nat.le_trans (cb 2) (by decide))) ?_
      refine SCond.mk (fun h => by cases h) (fun _ => ?_)
      refine SWrap.i64z ((2 + 1 : Nat) : Int) (by omega) (by omega) ?_
      exact ⟨2 + 1, [0, 1], by decide, by decide, ⟨rfl, by simp, rfl, rfl, rfl, ⟨rfl, rfl, rfl, trivial⟩, ⟨rfl, rfl, trivial⟩⟩⟩
    · refine SCmp.yes (rfl) ?_
      refine SIdx.mk 3 _ rfl rfl ?_
      refine SCall.pure (none1_ok (m 3) (lst (cntH 7 n r) H) (fun i hi => by rw [lst_length] at hi; rw [lst_getD hi]; exact check1_ok _ ((h.bH i hi).mono (by omega))) (by rw [lst_length]; exact Nat.le_trans (cb 3) (by decide))) ?_
      refine SCond.mk (fun h => by cases h) (fun _ => ?_)
      refine SWrap.i64z ((3 + 1 : Nat) : Int) (by omega) (by omega) ?_
      exact ⟨3 + 1, [0, 1], by decide, by decide, ⟨rfl, by simp, rfl, rfl, rfl, ⟨rfl, rfl, rfl, trivial⟩, ⟨rfl, rfl, trivial⟩⟩⟩
    · refine SCmp.no (rfl) ?_
      refine SZ.mk ((cntA 7 n : Nat) : Int) (by simp [lst]) ?_
      refine SLoop.mk Nat (fun i => ([(1, .bptr 0 0), (68, .p (ratsM (m 0) (lst (cntA 7 n) A))), (69, .p (.int .i64 ((cntA 7 n : Nat) : Int))), (70, .p (.int .i64 i))], [.box 26 [.p (.int .i64 ((7 : Nat) : Int)), .p (.int .i64 (n : Int)), .p (.int .i64 (r : Int)), .p (ratsM (m 0) (lst (cntA 7 n) A)), .p (ratsM (m 1) (lst (cntB 7 n) B)), .p (ratsM (m 2) (lst (cntH 7 n r) G)), .p (ratsM (m 3) (lst (cntH 7 n r) H))], .box 121 [.p (ratsM (m 0) (lst (cntA 7 n) A)), .p (ratsM (m 1) (lst (cntB 7 n) B)), .p (ratsM (m 2) (lst (cntH 7 n r) G)), .p (ratsM (m 3) (lst (cntH 7 n r) H))]]))
        (fun i => i ≤ cntA 7 n) (fun i => cntA 7 n - i) 0 [0, 1] (Nat.zero_le _) ⟨rfl, by simp, rfl, rfl, rfl, ⟨rfl, rfl, rfl, rfl, trivial⟩, ⟨rfl, rfl, trivial⟩⟩ ?_
      intro i hi
      have hi : i ≤ cntA 7 n := hi
      have cA := cb 0
      by_cases hia : i < cntA 7 n
      · refine SCmp.yes (decide_eq_true (by omega)) ?_
        refine SIdx.rf i rfl hia ?_
        have hz := (h.bA i hia).mono (show b ≤ c by omega)
        have hc2 := none2_ok (m 1) true (A i) (lst (cntB 7 n) B) (fun j hj => by
          rw [lst_length] at hj; rw [lst_getD hj]
          have := check2_ok true (A i) (B j) hz (h.bB j hj) (by omega)
          rw [decide_eq_false (h.ne i j hia hj)] at this
          exact this) (by rw [lst_length]; exact Nat.le_trans (cb 1) (by decide))
        refine SCall.pure (pvs := [ratsM (m 1) (lst (cntB 7 n) B), .fn 104 [.pel true (ratP (A i))]]) hc2 ?_
        refine SCond.mk (fun h => by cases h) (fun _ => ?_)
        refine SWrap.i64z ((i + 1 : Nat) : Int) (by omega) (by omega) ?_
        exact ⟨i + 1, [0, 1], hia, by show cntA 7 n - (i + 1) < cntA 7 n - i; omega, ⟨rfl, by simp, rfl, rfl, rfl, ⟨rfl, rfl, rfl, rfl, trivial⟩, ⟨rfl, rfl, trivial⟩⟩⟩
      · refine SCmp.no (decide_eq_false (by omega)) ?_
        exact SRet.pure (.p _ (.int _ _))
theorem gcheck_ok (m : Nat → Bool) (g : GV) {b c : Nat} (h : Wf g b c) : CallP Tryz.prog 72 [genP m g] (.p (.int .i64 0)) [] := by
  obtain ⟨k, n, r, A, B, G, H⟩ := g
  rcases k_cases h.k1 h.k7 with e | e | e | e | e | e | e <;> (have e : k = _ := e; subst e)
  · exact gcheck1_ok m n r A B G H h
  · exact gcheck2_ok m n r A B G H h
  · exact gcheck3_ok m n r A B G H h
  · exact gcheck4_ok m n r A B G H h
  · exact gcheck5_ok m n r A B G H h
  · exact gcheck6_ok m n r A B G H h
  · exact gcheck7_ok m n r A B G H h
end Go.Proofs.YtjfcphohgicolaaGreat

namespace Go.Proofs.YtjfcphohgicolaaGreat
open Go
set_option linter.unusedVariables false
set_option linter.unusedSimpArgs false
set_option maxRecDepth 10000
theorem ratP_one' : ratP 1 = .agg [.bool false, natP 1, natP 1] := rfl
theorem gzero_ok : CallP Tryz.prog 106 [] (.p (ratP 0)) [] := by
  refine callG_of_vc (wr := wr0) Γok mixed Tryz.func106 (by kernel_rfl) rfl (by kernel_rfl) (le_of_ble rfl) (by simp) ?_
  refine SRet.pure ?_
  rw [ratP_zero]
  exact conv3 ⟨rfl, rfl, rfl⟩ (.p _ (.bool _)) (.p _ (.sl _ _ (fun e he => by simp at he))) (frz1 rfl)
theorem gone_ok : CallP Tryz.prog 109 [] (.p (ratP 1)) [] := by
  refine callG_of_vc (wr := wr0) Γok mixed Tryz.func109 (by kernel_rfl) rfl (by kernel_rfl) (le_of_ble rfl) (by simp) ?_
  refine SRet.pure ?_
  rw [ratP_one']
  exact conv3 ⟨rfl, rfl, rfl⟩ (.p _ (.bool _)) (frz1 rfl) (frz1 rfl)
theorem gdot_ok (m : Nat → Bool) (g : GV) {b c : Nat} (h : Wf g b c) (hk : g.k = 6 ∨ g.k = 7) (i j : Nat) (hi : i < g.n) (hj : j < g.n) :
    CallP Tryz.prog 110 [genP m g, .int .i64 i, .int .i64 j] (.p (ratP (rowS g i j))) [] := by
  have h8 := h.n6
  have h2 := h.r2
  have h4 := h.c4
  have h5 := h.bc
  have hlh := h.lh hk
  have zP := h.prod hk hi hj
  have zS := sm_bz' zP
  have i0 : i * g.r ≤ 16 := Nat.mul_le_mul (show i ≤ 8 by omega) h2
  have j0 : j * g.r ≤ 16 := Nat.mul_le_mul (show j ≤ 8 by omega) h2
  have ic : ((i * g.r : Nat) : Int) = (i : Int) * (g.r : Int) := Int.natCast_mul i g.r
  have jc : ((j * g.r : Nat) : Int) = (j : Int) * (g.r : Int) := Int.natCast_mul j g.r
  refine callG_of_vc (wr := wr0) Γok mixed Tryz.func110 (by kernel_rfl) rfl (by kernel_rfl) (le_of_ble rfl) (by simp) ?_
  refine SCall.pure (gzero_ok) ?_
  refine SLoop.mk Nat (fun t => ([(1, .p (.int .i64 i)), (2, .p (.int .i64 j)), (3, .bptr 0 0), (6, .bptr 1 0), (7, .bptr 2 0), (11, .p (.int .i64 g.r)), (12, .p (.int .i64 t))], [.box 26 (genA m g), .box 31 zratA, .box 31 (bxQ (sm t fun t => g.G (i * g.r + t) * g.H (j * g.r + t)))]))
    (fun t => t ≤ g.r) (fun t => g.r - t) 0 [0, 1, 2] (Nat.zero_le _) ⟨rfl, by simp, rfl, rfl, rfl, ⟨rfl, rfl, rfl, rfl, rfl, rfl, rfl, trivial⟩, ⟨rfl, rfl, rfl, trivial⟩⟩ ?_
  intro t ht
  have ht : t ≤ g.r := ht
  by_cases htr : t < g.r
  · refine SCmp.yes (decide_eq_true (by omega)) ?_
    have l1 := row_lt hi htr
    have l2 := row_lt hj htr
    have lt : t * (2 * b + 1) ≤ 2 * (2 * b + 1) := Nat.mul_le_mul_right _ (by omega)
    refine SDraw.mkX (by kernel_rfl) ?_
    repeat refine SOp.mk _ _ (And.intro rfl rfl) rfl ?_
    refine SOp.mk _ _ (SWrap.i64z ((i * g.r : Nat) : Int) (by omega) (by omega) (And.intro rfl rfl)) rfl ?_
    repeat refine SOp.mk _ _ (And.intro rfl rfl) rfl ?_
    refine SOp.mk _ _ (SWrap.i64z ((i * g.r + t : Nat) : Int) (by omega) (by omega) (And.intro rfl rfl)) rfl ?_
    refine SOp.mk _ _ (SIdx.rf (i * g.r + t) rfl (by omega) (And.intro rfl rfl)) rfl ?_
    repeat refine SOp.mk _ _ (And.intro rfl rfl) rfl ?_
    refine SOp.mk _ _ (SWrap.i64z ((j * g.r : Nat) : Int) (by omega) (by omega) (And.intro rfl rfl)) rfl ?_
    repeat refine SOp.mk _ _ (And.intro rfl rfl) rfl ?_
    refine SOp.mk _ _ (SWrap.i64z ((j * g.r + t : Nat) : Int) (by omega) (by omega) (And.intro rfl rfl)) rfl ?_
    refine SOp.mk _ _ (SIdx.rf (j * g.r + t) rfl (by omega) (And.intro rfl rfl)) rfl ?_
    repeat refine SOp.mk _ _ (And.intro rfl rfl) rfl ?_
    refine SOp.mk _ _ (SCall.pure (ratmul_ok _ _ (h.bG _ (by omega)).sz (h.bH _ (by omega)).sz (by omega)) (And.intro rfl rfl)) rfl ?_
    refine SOp.mk _ _ (SCall.pure (ratadd_ok _ _ (zS t ht).sz (zP t htr).sz (by omega)) (And.intro rfl rfl)) rfl ?_
    repeat refine SOp.mk _ _ (And.intro rfl rfl) rfl ?_
    refine SFin.mk (by kernel_rfl) ?_
    refine SWrap.i64z ((t + 1 : Nat) : Int) (by omega) (by omega) ?_
    exact ⟨t + 1, [0, 1, 2], htr, by show g.r - (t + 1) < g.r - t; omega, ⟨rfl, by simp, rfl, rfl, rfl, ⟨rfl, rfl, rfl, rfl, rfl, rfl, rfl, trivial⟩, ⟨rfl, rfl, rfl, trivial⟩⟩⟩
  · refine SCmp.no (decide_eq_false (by omega)) ?_
    obtain rfl : t = g.r := by omega
    exact SRet.pure (.p _ (pers_rat _ _ _))
theorem gover_ok (m : Nat → Bool) (g : GV) {b c : Nat} (h : Wf g b c) (a : Rat) {d : Nat} (ha : Bz a d) (hd : d ≤ 1000) (hk : g.k = 5 ∨ g.k = 7) (i j : Nat) (hi : i < g.n) (hj : j < g.n) :
    CallP Tryz.prog 108 [genP m g, ratP a, .int .i64 i, .int .i64 j] (.p (ratP (a / (g.A i - g.B j)))) [] := by
  have h4 := h.c4
  have h5 := h.bc
  have hl := h.la3 (by omega)
  have hl2 := h.lb5 hk
  have hdf := h.dif (i := i) (j := j) (by omega) (by omega)
  refine callG_of_vc (wr := wr0) Γok mixed Tryz.func108 (by kernel_rfl) rfl (by kernel_rfl) (le_of_ble rfl) (by simp) ?_
  refine SDraw.mkX (by kernel_rfl) ?_
  repeat refine SOp.mk _ _ (And.intro rfl rfl) rfl ?_
  refine SOp.mk _ _ (SIdx.rf i rfl (by omega) (And.intro rfl rfl)) rfl ?_
  repeat refine SOp.mk _ _ (And.intro rfl rfl) rfl ?_
  refine SOp.mk _ _ (SIdx.rf j rfl (by omega) (And.intro rfl rfl)) rfl ?_
  repeat refine SOp.mk _ _ (And.intro rfl rfl) rfl ?_
  refine SOp.mk _ _ (SCall.pure (ratsub_ok _ _ (h.bA i (by omega)).sz (h.bB j (by omega)).sz (by omega)) (And.intro rfl rfl)) rfl ?_
  refine SOp.mk _ _ (SCall.pureT (quo_ok a _ hdf.2 ha.sz hdf.1.sz (by omega)) (fun _ => rfl) (And.intro rfl rfl)) rfl ?_
  repeat refine SOp.mk _ _ (And.intro rfl rfl) rfl ?_
  refine SFin.mk (by kernel_rfl) ?_
  exact SRet.pure (.p _ (pers_rat _ _ _))
theorem gpower_ok (a : Rat) {b : Nat} (ha : Bz a b) (hb : b ≤ 100) (j : Nat) (hj : j ≤ 8) : CallP Tryz.prog 107 [ratP a, .int .i64 j] (.p (ratP (a ^ j))) [] := by
  refine callG_of_vc (wr := wr0) Γok mixed Tryz.func107 (by kernel_rfl) rfl (by kernel_rfl) (le_of_ble rfl) (by simp) ?_
  refine SCall.pure (gone_ok) ?_
  refine SLoop.mk (Nat × Rat) (fun (t, q) => ([(2, .bptr 0 0), (4, .bptr 1 0), (5, .bptr 2 0), (7, .p (.int .i64 j)), (8, .p (.int .i64 t))], [.box 31 (bxQ a), .box 31 zratA, .box 31 (bxQ q)]))
    (fun (t, q) => t ≤ j ∧ q = a ^ t) (fun x => j - x.1) (0, 1) [0, 1, 2] ⟨Nat.zero_le _, (Rat.pow_zero _).symm⟩ ⟨rfl, by simp, rfl, rfl, rfl, ⟨rfl, rfl, rfl, rfl, rfl, trivial⟩, ⟨rfl, rfl, rfl, trivial⟩⟩ ?_
  intro ⟨t, q⟩ ⟨ht, hq⟩
  by_cases htj : t < j
  · refine SCmp.yes (decide_eq_true (by omega)) ?_
    have zq : Bz q (b * t + 1) := by rw [hq]; exact bz_pow ha t
    have hbt : b * t ≤ b * 8 := Nat.mul_le_mul_left _ (by omega)
    refine SCall.pure (ratmul_ok _ _ zq.sz ha.sz (by omega)) ?_
    refine SWrap.i64z ((t + 1 : Nat) : Int) (by omega) (by omega) ?_
    exact ⟨(t + 1, q * a), [0, 1, 2], ⟨htj, by rw [hq, Rat.pow_succ]⟩, by show j - (t + 1) < j - t; omega, ⟨rfl, by simp, rfl, rfl, rfl, ⟨rfl, rfl, rfl, rfl, rfl, trivial⟩, ⟨rfl, rfl, rfl, trivial⟩⟩⟩
  · refine SCmp.no (decide_eq_false (by omega)) ?_
    obtain rfl : t = j := by omega
    rw [← hq]
    exact SRet.pure (.p _ (pers_rat _ _ _))
end Go.Proofs.YtjfcphohgicolaaGreat

namespace Go.Proofs.YtjfcphohgicolaaGreat
open Go
set_option linter.unusedVariables false
set_option linter.unusedSimpArgs false
set_option maxRecDepth 10000
theorem gcopy_ok {q : Rat} {k : Nat} (h : Bz q k) (hk : k ≤ 1000000) : CallP Tryz.prog 78 [ratP q, ratP 0] (.p (ratP q)) [] := by
  have := ratadd_ok q 0 h.sz bz_zero.sz (by omega)
  rw [Rat.add_zero] at this; exact this
theorem gentry_ok (m : Nat → Bool) (g : GV) {b c : Nat} (h : Wf g b c) (i j : Nat) (hi : i < g.n) (hj : j < g.n) :
    CallP Tryz.prog 73 [genP m g, .int .i64 i, .int .i64 j] (.p (ratP (ent g i j))) [] := by
  have h8 := h.n6
  have h2 := h.r2
  have h4 := h.c4
  have h5 := h.bc
  rcases k_cases h.k1 h.k7 with e | e | e | e | e | e | e
  · have hl := h.la12 (.inl e)
    have hE : ent g i j = g.A (i + g.n - 1 - j) := by unfold ent; rw [if_pos e]
    rw [hE]
    refine callG_of_vc (wr := wr0) Γok mixed Tryz.func73 (by kernel_rfl) rfl (by kernel_rfl) (le_of_ble rfl) (by simp) ?_
    refine SCmp.yes (decide_eq_true (by omega)) ?_
    refine SDraw.mkX (by kernel_rfl) ?_
    repeat refine SOp.mk _ _ (And.intro rfl rfl) rfl ?_
    refine SOp.mk _ _ (SWrap.i64z ((i : Int) - j) rfl (by omega) (And.intro rfl rfl)) rfl ?_
    repeat refine SOp.mk _ _ (And.intro rfl rfl) rfl ?_
    refine SOp.mk _ _ (SWrap.i64z ((i + g.n - j : Nat) : Int) (by omega) (by omega) (And.intro rfl rfl)) rfl ?_
    refine SOp.mk _ _ (SWrap.i64z ((i + g.n - 1 - j : Nat) : Int) (by omega) (by omega) (And.intro rfl rfl)) rfl ?_
    refine SOp.mk _ _ (SIdx.rf (i + g.n - 1 - j) rfl (by omega) (And.intro rfl rfl)) rfl ?_
    repeat refine SOp.mk _ _ (And.intro rfl rfl) rfl ?_
    refine SOp.mk _ _ (SCall.pure (gzero_ok) (And.intro rfl rfl)) rfl ?_
    refine SOp.mk _ _ (SCall.pure (gcopy_ok (h.bA (i + g.n - 1 - j) (by omega)) (by omega)) (And.intro rfl rfl)) rfl ?_
    repeat refine SOp.mk _ _ (And.intro rfl rfl) rfl ?_
    refine SFin.mk (by kernel_rfl) ?_
    exact SRet.pure (.p _ (pers_rat _ _ _))
  · have hl := h.la12 (.inr e)
    have hE : ent g i j = g.A (i + j) := by unfold ent; rw [if_neg (by omega), if_pos e]
    rw [hE]
    refine callG_of_vc (wr := wr0) Γok mixed Tryz.func73 (by kernel_rfl) rfl (by kernel_rfl) (le_of_ble rfl) (by simp) ?_
    refine SCmp.no (decide_eq_false (by omega)) ?_
    refine SCmp.yes (decide_eq_true (by omega)) ?_
    refine SDraw.mkX (by kernel_rfl) ?_
    repeat refine SOp.mk _ _ (And.intro rfl rfl) rfl ?_
    refine SOp.mk _ _ (SWrap.i64z ((i + j : Nat) : Int) (by omega) (by omega) (And.intro rfl rfl)) rfl ?_
    refine SOp.mk _ _ (SIdx.rf (i + j) rfl (by omega) (And.intro rfl rfl)) rfl ?_
    repeat refine SOp.mk _ _ (And.intro rfl rfl) rfl ?_
    refine SOp.mk _ _ (SCall.pure (gzero_ok) (And.intro rfl rfl)) rfl ?_
    refine SOp.mk _ _ (SCall.pure (gcopy_ok (h.bA (i + j) (by omega)) (by omega)) (And.intro rfl rfl)) rfl ?_
    repeat refine SOp.mk _ _ (And.intro rfl rfl) rfl ?_
    refine SFin.mk (by kernel_rfl) ?_
    exact SRet.pure (.p _ (pers_rat _ _ _))
  · have hl := h.la3 (by omega)
    have hE : ent g i j = g.A ((i + g.n - j) % g.n) := by unfold ent; rw [if_neg (by omega), if_neg (by omega), if_pos e]
    have hm : (i + g.n - j) % g.n < g.n := Nat.mod_lt _ (by omega)
    rw [hE]
    refine callG_of_vc (wr := wr0) Γok mixed Tryz.func73 (by kernel_rfl) rfl (by kernel_rfl) (le_of_ble rfl) (by simp) ?_
    refine SCmp.no (decide_eq_false (by omega)) ?_
    refine SCmp.no (decide_eq_false (by omega)) ?_
    refine SCmp.yes (decide_eq_true (by omega)) ?_
    refine SDraw.mkX (by kernel_rfl) ?_
    repeat refine SOp.mk _ _ (And.intro rfl rfl) rfl ?_
    refine SOp.mk _ _ (SWrap.i64z ((i : Int) - j) rfl (by omega) (And.intro rfl rfl)) rfl ?_
    repeat refine SOp.mk _ _ (And.intro rfl rfl) rfl ?_
    refine SOp.mk _ _ (SWrap.i64z ((i + g.n - j : Nat) : Int) (by omega) (by omega) (And.intro rfl rfl)) rfl ?_
    repeat refine SOp.mk _ _ (And.intro rfl rfl) rfl ?_
    refine SOp.mk _ _ (SRem (b := g.n) (by omega) rfl (And.intro rfl rfl)) rfl ?_
    refine SOp.mk _ _ (SIdx.rf ((i + g.n - j) % g.n) rfl (by omega) (And.intro rfl rfl)) rfl ?_
    repeat refine SOp.mk _ _ (And.intro rfl rfl) rfl ?_
    refine SOp.mk _ _ (SCall.pure (gzero_ok) (And.intro rfl rfl)) rfl ?_
    refine SOp.mk _ _ (SCall.pure (gcopy_ok (h.bA ((i + g.n - j) % g.n) (by omega)) (by omega)) (And.intro rfl rfl)) rfl ?_
    repeat refine SOp.mk _ _ (And.intro rfl rfl) rfl ?_
    refine SFin.mk (by kernel_rfl) ?_
    exact SRet.pure (.p _ (pers_rat _ _ _))
  · have hl := h.la3 (by omega)
    have hE : ent g i j = g.A i ^ j := by unfold ent; rw [if_neg (by omega), if_neg (by omega), if_neg (by omega), if_pos e]
    rw [hE]
    refine callG_of_vc (wr := wr0) Γok mixed Tryz.func73 (by kernel_rfl) rfl (by kernel_rfl) (le_of_ble rfl) (by simp) ?_
    refine SCmp.no (decide_eq_false (by omega)) ?_
    refine SCmp.no (decide_eq_false (by omega)) ?_
    refine SCmp.no (decide_eq_false (by omega)) ?_
    refine SCmp.yes (decide_eq_true (by omega)) ?_
    refine SIdx.rf i rfl (by omega) ?_
    refine SCall.pure (gpower_ok _ (h.bA i (by omega)) (by omega) j (by omega)) ?_
    exact SRet.pure (.p _ (pers_rat _ _ _))
  · have hE : ent g i j = 1 / (g.A i - g.B j) := by unfold ent; rw [if_neg (by omega), if_neg (by omega), if_neg (by omega), if_neg (by omega), if_pos e]
    rw [hE]
    refine callG_of_vc (wr := wr0) Γok mixed Tryz.func73 (by kernel_rfl) rfl (by kernel_rfl) (le_of_ble rfl) (by simp) ?_
    refine SCmp.no (decide_eq_false (by omega)) ?_
    refine SCmp.no (decide_eq_false (by omega)) ?_
    refine SCmp.no (decide_eq_false (by omega)) ?_
    refine SCmp.no (decide_eq_false (by omega)) ?_
    refine SCmp.yes (decide_eq_true (by omega)) ?_
    refine SDraw.mkX (by kernel_rfl) ?_
    repeat refine SOp.mk _ _ (And.intro rfl rfl) rfl ?_
    refine SOp.mk _ _ (SCall.pure (gone_ok) (And.intro rfl rfl)) rfl ?_
    repeat refine SOp.mk _ _ (And.intro rfl rfl) rfl ?_
    refine SOp.mk _ _ (SCall.pure (gover_ok m g h 1 bz_one (by omega) (.inl e) i j hi hj) (And.intro rfl rfl)) rfl ?_
    repeat refine SOp.mk _ _ (And.intro rfl rfl) rfl ?_
    refine SFin.mk (by kernel_rfl) ?_
    exact SRet.pure (.p _ (pers_rat _ _ _))
  · have hE : ent g i j = sm (min i j + 1) fun m => rowS g (i - m) (j - m) := by unfold ent; rw [if_neg (by omega), if_neg (by omega), if_neg (by omega), if_neg (by omega), if_neg (by omega), if_pos e]
    rw [hE]
    have zS := h.bSum (.inl e) hi hj
    refine callG_of_vc (wr := wr0) Γok mixed Tryz.func73 (by kernel_rfl) rfl (by kernel_rfl) (le_of_ble rfl) (by simp) ?_
    refine SCmp.no (decide_eq_false (by omega)) ?_
    refine SCmp.no (decide_eq_false (by omega)) ?_
    refine SCmp.no (decide_eq_false (by omega)) ?_
    refine SCmp.no (decide_eq_false (by omega)) ?_
    refine SCmp.no (decide_eq_false (by omega)) ?_
    refine SCmp.no (decide_eq_false (by omega)) ?_
    refine SCall.pure (gzero_ok) ?_
    refine SLoop.mk Nat (fun t => ([(1, .p (.int .i64 i)), (2, .p (.int .i64 j)), (3, .bptr 0 0), (6, .bptr 1 0), (7, .bptr 2 0), (8, .p (.int .i64 t))], [.box 26 (genA m g), .box 31 zratA, .box 31 (bxQ (sm t fun m => rowS g (i - m) (j - m)))]))
      (fun t => t ≤ min i j + 1) (fun t => min i j + 1 - t) 0 [0, 1, 2] (Nat.zero_le _) ⟨rfl, by simp, rfl, rfl, rfl, ⟨rfl, rfl, rfl, rfl, rfl, rfl, trivial⟩, ⟨rfl, rfl, rfl, trivial⟩⟩ ?_
    intro t ht
    have ht : t ≤ min i j + 1 := ht
    refine SZ.mk ((min i j : Nat) : Int) (by show (if (j : Int) < (i : Int) then (j : Int) else (i : Int)) = _; split <;> omega) ?_
    by_cases htj : t < min i j + 1
    · refine SCmp.yes (decide_eq_true (by omega)) ?_
      have lt : t * (2 * (2 * b + 1) + 1 + 1) ≤ 6 * (2 * (2 * b + 1) + 1 + 1) := Nat.mul_le_mul_right _ (by omega)
      refine SDraw.mkX (by kernel_rfl) ?_
      repeat refine SOp.mk _ _ (And.intro rfl rfl) rfl ?_
      refine SOp.mk _ _ (SWrap.i64z ((i - t : Nat) : Int) (by omega) (by omega) (And.intro rfl rfl)) rfl ?_
      repeat refine SOp.mk _ _ (And.intro rfl rfl) rfl ?_
      refine SOp.mk _ _ (SWrap.i64z ((j - t : Nat) : Int) (by omega) (by omega) (And.intro rfl rfl)) rfl ?_
      refine SOp.mk _ _ (SCall.pure (gdot_ok m g h (.inl e) (i - t) (j - t) (by omega) (by omega)) (And.intro rfl rfl)) rfl ?_
      refine SOp.mk _ _ (SCall.pure (ratadd_ok _ _ (zS t ht).sz (h.bRow (.inl e) (i := i - t) (j := j - t) (by omega) (by omega)).sz (by omega)) (And.intro rfl rfl)) rfl ?_
      repeat refine SOp.mk _ _ (And.intro rfl rfl) rfl ?_
      refine SFin.mk (by kernel_rfl) ?_
      refine SWrap.i64z ((t + 1 : Nat) : Int) (by omega) (by omega) ?_
      exact ⟨t + 1, [0, 1, 2], htj, by show min i j + 1 - (t + 1) < min i j + 1 - t; omega, ⟨rfl, by simp, rfl, rfl, rfl, ⟨rfl, rfl, rfl, rfl, rfl, rfl, trivial⟩, ⟨rfl, rfl, rfl, trivial⟩⟩⟩
    · refine SCmp.no (decide_eq_false (by omega)) ?_
      obtain rfl : t = min i j + 1 := by omega
      exact SRet.pure (.p _ (pers_rat _ _ _))
  · have hE : ent g i j = rowS g i j / (g.A i - g.B j) := by unfold ent; rw [if_neg (by omega), if_neg (by omega), if_neg (by omega), if_neg (by omega), if_neg (by omega), if_neg (by omega)]
    rw [hE]
    refine callG_of_vc (wr := wr0) Γok mixed Tryz.func73 (by kernel_rfl) rfl (by kernel_rfl) (le_of_ble rfl) (by simp) ?_
    refine SCmp.no (decide_eq_false (by omega)) ?_
    refine SCmp.no (decide_eq_false (by omega)) ?_
    refine SCmp.no (decide_eq_false (by omega)) ?_
    refine SCmp.no (decide_eq_false (by omega)) ?_
    refine SCmp.no (decide_eq_false (by omega)) ?_
    refine SCmp.yes (decide_eq_true (by omega)) ?_
    refine SDraw.mkX (by kernel_rfl) ?_
    repeat refine SOp.mk _ _ (And.intro rfl rfl) rfl ?_
    refine SOp.mk _ _ (SCall.pure (gdot_ok m g h (.inr e) i j hi hj) (And.intro rfl rfl)) rfl ?_
    repeat refine SOp.mk _ _ (And.intro rfl rfl) rfl ?_
    refine SOp.mk _ _ (SCall.pure (gover_ok m g h (rowS g i j) (h.bRow (.inr e) hi hj) (by omega) (.inr e) i j hi hj) (And.intro rfl rfl)) rfl ?_
    repeat refine SOp.mk _ _ (And.intro rfl rfl) rfl ?_
    refine SFin.mk (by kernel_rfl) ?_
    exact SRet.pure (.p _ (pers_rat _ _ _))
end Go.Proofs.YtjfcphohgicolaaGreat

namespace Go.Proofs.YtjfcphohgicolaaGreat
open Go
set_option linter.unusedVariables false
set_option linter.unusedSimpArgs false
abbrev half (p c n k : Nat) : List AV := fl n fun i => if i < k then .vec (.r p i) 3 0 c else .emp
abbrev halq (p c n k q : Nat) : List AV := fl n fun i => if i < k then .vec (.r p i) 3 0 c else if i = k then .vec (.t q) 3 0 c else .emp
theorem half_full {p c n : Nat} : half p c n n = plc p c n id := fl_congr fun i hi => if_pos hi
theorem half_set {p c n k q : Nat} : (half p c n k).set k (.vec (.t q) 3 0 c) = halq p c n k q := by
  rw [fl_set]
  refine fl_congr fun i _ => ?_
  unfold upd
  by_cases e : i = k
  · rw [if_pos e, if_neg (by omega), if_pos e]
  · rw [if_neg e]
    show (if i < k then AV.vec (.r p i) 3 0 c else .emp) = _
    by_cases e2 : i < k
    · rw [if_pos e2, if_pos e2]
    · rw [if_neg e2, if_neg e2, if_neg e]
theorem halq_get {p c n k q : Nat} (h : k < n) : (halq p c n k q)[k]? = some (.vec (.t q) 3 0 c) := by
  rw [fl_get h, if_neg (Nat.lt_irrefl k), if_pos rfl]
theorem halq_ren {hs : List Nat} {P : Hp} {p c n k q : Nat} (p' q' : Nat) (hp : hs.getD p 0 = p') (hp' : p' < 1000) (hq : hs.getD q 0 = q') (hq' : q' < 1000) : AV.renL (renW hs P) (halq p c n k q) = halq p' c n k q' := by
  rw [renL_fl]
  refine fl_congr fun i hi => ?_
  have eb : Nat.blt p' 1000 = true := blt_iff.2 hp'
  have ec : Nat.blt q' 1000 = true := blt_iff.2 hq'
  by_cases e : i < k
  · rw [if_pos e, if_pos e]; simp only [AV.ren, renW, hp, eb, cond_true]
  · rw [if_neg e, if_neg e]
    by_cases e2 : i = k
    · rw [if_pos e2, if_pos e2]; simp only [AV.ren, renW, hq, ec, cond_true]; rw [show ptop q' = q' from Nat.mod_eq_of_lt hq']
    · rw [if_neg e2, if_neg e2]; simp only [AV.ren]
/-- The pool takes in the row that is filled. -/
theorem half_absorb {hs : List Nat} {P : Hp} {p p' q c n k : Nat} (hp : hs.getD p 0 = p' + 1000 * (q + 1)) (hp' : p' < 1000) (hl : plenAt P p = k + 1) : AV.renL (renW hs P) (half p c n (k + 1)) = halq p' c n k q := by
  rw [renL_fl]
  have eb : Nat.blt (hs.getD p 0) 1000 = false := by
    cases hb : Nat.blt (hs.getD p 0) 1000 with
    | false => rfl
    | true => have := blt_iff.1 hb; omega
  have e1 : hs.getD p 0 % 1000 = p' := by omega
  have e2 : hs.getD p 0 / 1000 - 1 = q := by omega
  refine fl_congr fun i hi => ?_
  by_cases h1 : i < k
  · have e4 : Nat.blt (i + 1) (k + 1) = true := blt_iff.2 (by omega)
    rw [if_pos (by omega), if_pos h1]
    simp only [AV.ren, renW, eb, hl, e4, cond_false, cond_true, e1]
  · by_cases h2 : i = k
    · have e4 : Nat.blt (i + 1) (k + 1) = false := by
        cases hb : Nat.blt (i + 1) (k + 1) with
        | false => rfl
        | true => have := blt_iff.1 hb; omega
      rw [if_pos (by omega), if_neg h1, if_pos h2]
      simp only [AV.ren, renW, eb, hl, e4, cond_false, e2]
    · rw [if_neg (by omega), if_neg h1, if_neg h2]; simp only [AV.ren]
theorem half_in {P : Hp} {p c n k : Nat} (h : ∀ i, i < k → i < plenAt P p) : ∀ x ∈ half p c n k, ∀ h, x.men h → look P h ≠ .free := by
  intro x hx g hg
  obtain ⟨i, hi, rfl⟩ := fl_mem hx
  by_cases e : i < k
  · rw [if_pos e] at hg
    simp only [AV.men] at hg
    subst hg
    exact look_row (h i e)
  · rw [if_neg e] at hg; exact hg.elim
theorem halq_in {P : Hp} {p c n k q : Nat} (h : ∀ i, i < k → i < plenAt P p) (hq : look P (.t q) ≠ .free) : ∀ x ∈ halq p c n k q, ∀ h, x.men h → look P h ≠ .free := by
  intro x hx g hg
  obtain ⟨i, hi, rfl⟩ := fl_mem hx
  by_cases e : i < k
  · rw [if_pos e] at hg
    simp only [AV.men] at hg
    subst hg
    exact look_row (h i e)
  · rw [if_neg e] at hg
    by_cases e2 : i = k
    · rw [if_pos e2] at hg
      simp only [AV.men] at hg
      subst hg; exact hq
    · rw [if_neg e2] at hg; exact hg.elim
theorem half_ren0 {ρ : Hd → Hd} {p c n : Nat} : AV.renL ρ (half p c n 0) = List.replicate n .emp := by
  rw [renL_fl, replicate_fl]
  refine fl_congr fun i _ => ?_
  rw [if_neg (Nat.not_lt_zero i)]; simp only [AV.ren]
end Go.Proofs.YtjfcphohgicolaaGreat

namespace Go.Proofs.YtjfcphohgicolaaGreat
open Go
set_option linter.unusedVariables false
set_option linter.unusedSimpArgs false
set_option maxRecDepth 10000
theorem row_step {n j : Nat} {f : Nat → Rat} (h : j < n) : (fl n fun k => if k < j then ratP (f k) else rat0).set (j + 0) (ratP (f j)) = fl n fun k => if k < j + 1 then ratP (f k) else rat0 := by
  rw [fl_set]
  refine fl_congr fun k hk => ?_
  simp only [upd, Nat.add_zero]
  by_cases e : k = j
  · rw [if_pos e, if_pos (by omega), e]
  · rw [if_neg e]
    by_cases e2 : k < j
    · rw [if_pos e2, if_pos (by omega)]
    · rw [if_neg e2, if_neg (by omega)]
theorem row_full {n : Nat} {f : Nat → Rat} : rats (lst n f) = fl n fun k => if k < n then ratP (f k) else rat0 := by
  rw [rats, lst_fl, fl_map]; exact fl_congr fun k hk => (if_pos hk).symm
end Go.Proofs.YtjfcphohgicolaaGreat

namespace Go.Proofs.YtjfcphohgicolaaGreat
open Go
set_option linter.unusedVariables false
set_option linter.unusedSimpArgs false
set_option maxRecDepth 10000
theorem szero_ok : CallP Tryz.prog 93 [] (.p (ratP 0)) [] := by
  refine callG_of_vc (wr := wr0) Γok mixed Tryz.func93 (by kernel_rfl) rfl (by kernel_rfl) (le_of_ble rfl) (by simp) ?_
  refine SRet.pure ?_
  rw [ratP_zero]
  exact conv3 ⟨rfl, rfl, rfl⟩ (.p _ (.bool _)) (.p _ (.sl _ _ (fun e he => by simp at he))) (frz1 rfl)
end Go.Proofs.YtjfcphohgicolaaGreat

namespace Go.Proofs.YtjfcphohgicolaaGreat
open Go
set_option linter.unusedVariables false
set_option linter.unusedSimpArgs false
set_option maxRecDepth 10000
theorem bb_mono {b j k : Nat} (h : j ≤ k) : bb b j ≤ bb b k := Rmono (fun k => bb_step k) h
theorem nlen0 {q : Rat} (h : q = 0) : nlen q.num.natAbs = 0 := by rw [h]; exact nlen_zero_iff.2 rfl
theorem nlen1 {q : Rat} (h : q ≠ 0) : nlen q.num.natAbs ≠ 0 := fun e => h (Rat.num_eq_zero.1 (by have := nlen_zero_iff.1 e; omega))
end Go.Proofs.YtjfcphohgicolaaGreat

namespace Go.Proofs.YtjfcphohgicolaaGreat
set_option linter.unusedVariables false
theorem gabs_pos {c : Rat} (h : c ≠ 0) : 0 < c.abs := by
  have h1 := Rat.abs_nonneg (x := c)
  have h2 : c.abs ≠ 0 := fun e => h (Rat.abs_eq_zero_iff.1 e)
  grind
def patG (B : Nat → Nat → Rat) (k : Nat) : Nat → Nat
  | 0 => k
  | d + 1 => if (B (patG B k d) k).abs < (B (k + 1 + d) k).abs then k + 1 + d else patG B k d
def pvt (B : Nat → Nat → Rat) (n k : Nat) : Nat := patG B k (n - 1 - k)
theorem patG_spec {B : Nat → Nat → Rat} {k : Nat} : ∀ d, k ≤ patG B k d ∧ patG B k d ≤ k + d ∧ ∀ i, k ≤ i → i ≤ k + d → (B i k).abs ≤ (B (patG B k d) k).abs := by
  intro d
  induction d with
  | zero =>
    simp only [patG]
    refine ⟨Nat.le_refl _, by omega, fun i h1 h2 => ?_⟩
    obtain rfl : i = k := by omega
    exact Rat.le_refl
  | succ d ih =>
    obtain ⟨h1, h2, h3⟩ := ih
    simp only [patG]
    by_cases c : (B (patG B k d) k).abs < (B (k + 1 + d) k).abs
    · rw [if_pos c]
      refine ⟨by omega, by omega, fun i q1 q2 => ?_⟩
      by_cases e : i = k + 1 + d
      · rw [e]; exact Rat.le_refl
      · have := h3 i q1 (by omega); grind
    · rw [if_neg c]
      refine ⟨h1, by omega, fun i q1 q2 => ?_⟩
      by_cases e : i = k + 1 + d
      · rw [e]; grind
      · exact h3 i q1 (by omega)
theorem pvt_spec {B : Nat → Nat → Rat} {n k : Nat} (h : k < n) : k ≤ pvt B n k ∧ pvt B n k < n ∧ ∀ i, k ≤ i → i < n → (B i k).abs ≤ (B (pvt B n k) k).abs := by
  obtain ⟨h1, h2, h3⟩ := patG_spec (B := B) (k := k) (n - 1 - k)
  exact ⟨h1, by unfold pvt; omega, fun i q1 q2 => h3 i q1 (by omega)⟩
/-- Column k is cleared below row k; all of a row. -/
def redA (B : Nat → Nat → Rat) (k : Nat) : Nat → Nat → Rat := fun i j => if k < i then B i j - B i k / B k k * B k j else B i j
def swS (s : Nat → Nat) (p k : Nat) : Nat → Nat := fun i => s (if i = p then k else if i = k then p else i)
/-- A step's multiples, kept by rows. -/
def mulS (M P : Nat → Nat → Rat) (k : Nat) : Nat → Nat → Rat := fun i j => if j = k then (if k < i then P i k / P k k else if i = k then 1 else M i j) else M i j
structure GkS where
  B : Nat → Nat → Rat
  s : Nat → Nat
  M : Nat → Nat → Rat
def gkS (n k : Nat) (S : GkS) : GkS :=
  ⟨redA (swpM S.B (pvt S.B n k) k) k, swS S.s (pvt S.B n k) k, mulS (swpM S.M (pvt S.B n k) k) (swpM S.B (pvt S.B n k) k) k⟩
def gk (n : Nat) (A : Nat → Nat → Rat) (k : Nat) : GkS := iter (gkS n) k ⟨A, id, fun _ _ => 0⟩
/-- What the step k begins with, its rows exchanged. -/
def gkP (n : Nat) (A : Nat → Nat → Rat) (k : Nat) : Nat → Nat → Rat := swpM (gk n A k).B (pvt (gk n A k).B n k) k
def gpiv (n : Nat) (A : Nat → Nat → Rat) (k : Nat) : Rat := gkP n A k k k
theorem gk_succ {n : Nat} {A : Nat → Nat → Rat} {k : Nat} : gk n A (k + 1) = ⟨redA (gkP n A k) k, swS (gk n A k).s (pvt (gk n A k).B n k) k, mulS (swpM (gk n A k).M (pvt (gk n A k).B n k) k) (gkP n A k) k⟩ := rfl
theorem gpiv_eq {n : Nat} {A : Nat → Nat → Rat} {k : Nat} : gpiv n A k = (gk n A k).B (pvt (gk n A k).B n k) k := by unfold gpiv gkP; rw [swpM_r]
theorem swp_lt {p k n i : Nat} (hp : p < n) (hk : k < n) (hi : i < n) : (if i = p then k else if i = k then p else i) < n := by
  split
  · exact hk
  · split
    · exact hp
    · exact hi
theorem swp_ge' {p k i : Nat} (hp : k ≤ p) (hi : k ≤ i) : k ≤ (if i = p then k else if i = k then p else i) := by
  split
  · exact Nat.le_refl _
  · split
    · exact hp
    · exact hi
theorem swp_low {p k i : Nat} (hp : k ≤ p) (hi : i < k) : (if i = p then k else if i = k then p else i) = i := by
  rw [if_neg (by omega), if_neg (by omega)]
theorem swp_swp {p k i : Nat} : (if (if i = p then k else if i = k then p else i) = p then k else if (if i = p then k else if i = k then p else i) = k then p else (if i = p then k else if i = k then p else i)) = i := by
  by_cases e1 : i = p
  · rw [if_pos e1]
    by_cases e2 : k = p
    · rw [if_pos e2]; omega
    · rw [if_neg e2, if_pos rfl]; omega
  · rw [if_neg e1]
    by_cases e2 : i = k
    · rw [if_pos e2, if_pos rfl]; omega
    · rw [if_neg e2, if_neg e1, if_neg e2]
theorem swpM_low {A : Nat → Nat → Rat} {p k i : Nat} (hp : k ≤ p) (hi : i < k) : swpM A p k i = A i := by unfold swpM; rw [swp_low hp hi]
/-- The rows' order is one. -/
theorem gk_perm {n : Nat} {A : Nat → Nat → Rat} : ∀ k, k ≤ n → (∀ i, i < n → (gk n A k).s i < n) ∧ (∀ i j, i < n → j < n → (gk n A k).s i = (gk n A k).s j → i = j) ∧ ∀ r, r < n → ∃ i, i < n ∧ (gk n A k).s i = r := by
  intro k
  induction k with
  | zero => intro _; exact ⟨fun i hi => hi, fun i j _ _ e => e, fun r hr => ⟨r, hr, rfl⟩⟩
  | succ k ih =>
    intro hk
    obtain ⟨h1, h2, h3⟩ := ih (by omega)
    obtain ⟨p1, p2, _⟩ := pvt_spec (B := (gk n A k).B) (n := n) (k := k) (by omega)
    rw [gk_succ]
    refine ⟨fun i hi => h1 _ (swp_lt p2 (by omega) hi), fun i j hi hj e => ?_, fun r hr => ?_⟩
    · have := h2 _ _ (swp_lt p2 (by omega) hi) (swp_lt p2 (by omega) hj) e
      rw [← swp_swp (p := pvt (gk n A k).B n k) (k := k) (i := i), this, swp_swp]
    · obtain ⟨i, hi, e⟩ := h3 r hr
      exact ⟨_, swp_lt p2 (show k < n by omega) hi, by show (gk n A k).s _ = r; rw [swp_swp]; exact e⟩
theorem gk_gt {n : Nat} {A : Nat → Nat → Rat} {k i j : Nat} (h : k < i) : (gk n A (k + 1)).B i j = gkP n A k i j - gkP n A k i k / gkP n A k k k * gkP n A k k j := by rw [gk_succ]; exact if_pos h
theorem gk_le {n : Nat} {A : Nat → Nat → Rat} {k i j : Nat} (h : i ≤ k) : (gk n A (k + 1)).B i j = gkP n A k i j := by rw [gk_succ]; exact if_neg (by omega)
theorem gkP_low {n : Nat} {A : Nat → Nat → Rat} {k i : Nat} (hk : k < n) (h : i < k) : gkP n A k i = (gk n A k).B i := swpM_low (pvt_spec hk).1 h
/-- A row stays behind its own step. -/
theorem gk_row {n : Nat} {A : Nat → Nat → Rat} {i j : Nat} : ∀ d, i + 1 + d ≤ n → (gk n A (i + 1 + d)).B i j = gkP n A i i j := by
  intro d
  induction d with
  | zero => intro _; exact gk_le (Nat.le_refl _)
  | succ d ih =>
    intro h
    rw [← ih (by omega)]
    show (gk n A (i + 1 + d + 1)).B i j = _
    rw [gk_le (by omega), gkP_low (by omega) (by omega)]
theorem gk_row' {n : Nat} {A : Nat → Nat → Rat} {i j k : Nat} (h : i < k) (hk : k ≤ n) : (gk n A k).B i j = gkP n A i i j := by
  obtain ⟨d, rfl⟩ : ∃ d, k = i + 1 + d := ⟨k - (i + 1), by omega⟩
  exact gk_row d hk
theorem swpM_ge {A : Nat → Nat → Rat} {p k n : Nat} (hp : k ≤ p) (hpn : p < n) (hk : k < n) {P : (Nat → Rat) → Prop} (h : ∀ i, k ≤ i → i < n → P (A i)) {i : Nat} (h1 : k ≤ i) (h2 : i < n) : P (swpM A p k i) :=
  h _ (swp_ge' hp h1) (swp_lt hpn hk h2)
/-- Below the corner there are noughts. -/
theorem gk_zero {n : Nat} {A : Nat → Nat → Rat} {K : Nat} (hp : ∀ t, t < K → gpiv n A t ≠ 0) : ∀ k, k ≤ K → k ≤ n → ∀ i t, i < n → t < k → t < i → (gk n A k).B i t = 0 := by
  intro k
  induction k with
  | zero => intro _ _ i t _ h; exact absurd h (Nat.not_lt_zero _)
  | succ k ih =>
    intro hk hkn i t hi ht hti
    have ih := ih (by omega) (by omega)
    obtain ⟨p1, p2, _⟩ := pvt_spec (B := (gk n A k).B) (n := n) (k := k) (by omega)
    have low : ∀ i t, i < n → t < k → t < i → gkP n A k i t = 0 := fun i t hi h1 h2 => by
      by_cases c : i < k
      · rw [gkP_low (by omega) c]; exact ih i t hi h1 h2
      · exact swpM_ge (P := fun f => f t = 0) p1 p2 (by omega) (fun q q1 q2 => ih q t q2 h1 (by omega)) (by omega) hi
    by_cases c : k < i
    · rw [gk_gt c]
      by_cases e : t = k
      · subst e
        have : gkP n A t t t ≠ 0 := hp t (by omega)
        generalize gkP n A t i t = x
        generalize gkP n A t t t = y at this
        grind
      · rw [low i t hi (by omega) hti, low k t (by omega) (by omega) (by omega)]; grind
    · rw [gk_le (by omega)]; exact low i t hi (by omega) hti
/-- The triangles. -/
def gL (n : Nat) (A : Nat → Nat → Rat) : Nat → Nat → Rat := (gk n A n).M
def gU (n : Nat) (A : Nat → Nat → Rat) : Nat → Nat → Rat := (gk n A n).B
def gO (n : Nat) (A : Nat → Nat → Rat) : Nat → Nat := (gk n A n).s
theorem gU_low {n : Nat} {A : Nat → Nat → Rat} (hp : ∀ t, t < n → gpiv n A t ≠ 0) {i j : Nat} (hi : i < n) (hj : j < i) : gU n A i j = 0 := gk_zero hp n (Nat.le_refl _) (Nat.le_refl _) i j hi (by omega) hj
theorem gU_diag {n : Nat} {A : Nat → Nat → Rat} {i : Nat} (hi : i < n) : gU n A i i = gpiv n A i := gk_row' hi (Nat.le_refl _)
/-- The multiples so far: none above the corner or ahead of its step; ones at the corner. -/
theorem gM_spec {n : Nat} {A : Nat → Nat → Rat} : ∀ k, k ≤ n → ∀ i j, i < n → (k ≤ j → (gk n A k).M i j = 0) ∧ (i < j → (gk n A k).M i j = 0) ∧ (i = j → j < k → (gk n A k).M i j = 1) := by
  intro k
  induction k with
  | zero => intro _ i j _; exact ⟨fun _ => rfl, fun _ => rfl, fun _ h => absurd h (Nat.not_lt_zero _)⟩
  | succ k ih =>
    intro hk i j hi
    have ih := ih (by omega)
    obtain ⟨p1, p2, _⟩ := pvt_spec (B := (gk n A k).B) (n := n) (k := k) (by omega)
    rw [gk_succ]
    have sw : k ≤ j → swpM (gk n A k).M (pvt (gk n A k).B n k) k i j = 0 := fun h => (ih _ j (swp_lt p2 (by omega) hi)).1 h
    show (_ → mulS _ _ k i j = 0) ∧ (_ → mulS _ _ k i j = 0) ∧ (_ → _ → mulS _ _ k i j = 1)
    unfold mulS
    refine ⟨fun h => ?_, fun h => ?_, fun h1 h2 => ?_⟩
    · rw [if_neg (by omega)]; exact sw (by omega)
    · by_cases e : j = k
      · rw [if_pos e, if_neg (by omega), if_neg (by omega)]; exact sw (by omega)
      · rw [if_neg e]
        by_cases c : k ≤ j
        · exact sw c
        · rw [swpM_low p1 (by omega)]; exact (ih i j hi).2.1 h
    · by_cases e : j = k
      · rw [if_pos e, if_neg (by omega), if_pos (by omega)]
      · rw [if_neg e, swpM_low p1 (by omega)]; exact (ih i j hi).2.2 h1 (by omega)
theorem gL_diag {n : Nat} {A : Nat → Nat → Rat} {i : Nat} (hi : i < n) : gL n A i i = 1 := (gM_spec n (Nat.le_refl _) i i hi).2.2 rfl hi
theorem gL_up {n : Nat} {A : Nat → Nat → Rat} {i j : Nat} (hi : i < n) (h : i < j) : gL n A i j = 0 := (gM_spec n (Nat.le_refl _) i j hi).2.1 h
/-- What has been taken away, and what is left. -/
theorem gk_lu {n : Nat} {A : Nat → Nat → Rat} : ∀ k, k ≤ n → ∀ i j, i < n → sm (min i k) (fun t => (gk n A k).B t j * (gk n A k).M i t) + (gk n A k).B i j = A ((gk n A k).s i) j := by
  intro k
  induction k with
  | zero => intro _ i j _; rw [Nat.min_zero]; show (0 : Rat) + A i j = A i j; grind
  | succ k ih =>
    intro hk i j hi
    have ih := ih (by omega)
    obtain ⟨p1, p2, _⟩ := pvt_spec (B := (gk n A k).B) (n := n) (k := k) (by omega)
    -- ahead of the clearing
    have sw : ∀ i, i < n → sm (min i k) (fun t => gkP n A k t j * swpM (gk n A k).M (pvt (gk n A k).B n k) k i t) + gkP n A k i j = A ((gk n A (k + 1)).s i) j := fun i hi => by
      have hi' := swp_lt p2 (show k < n by omega) hi
      have := ih _ j hi'
      rw [gk_succ]
      show _ = A ((gk n A k).s _) j
      rw [← this]
      have em : min (if i = pvt (gk n A k).B n k then k else if i = k then pvt (gk n A k).B n k else i) k = min i k := by
        by_cases c : i < k
        · rw [swp_low p1 c]
        · have := swp_ge' p1 (show k ≤ i by omega)
          omega
      rw [em]
      congr 1
      refine sm_congr fun t ht => ?_
      rw [gkP_low (by omega) (by omega)]; rfl
    rw [← sw i hi]
    have mk : ∀ t, t < k → (gk n A (k + 1)).M i t = swpM (gk n A k).M (pvt (gk n A k).B n k) k i t := fun t ht => by
      rw [gk_succ]; exact if_neg (by omega)
    by_cases c : k < i
    · rw [show min i (k + 1) = k + 1 by omega, show min i k = k by omega]
      show sm k _ + (gk n A (k + 1)).B k j * (gk n A (k + 1)).M i k + _ = _
      rw [gk_gt c, gk_le (Nat.le_refl k)]
      have e : (gk n A (k + 1)).M i k = gkP n A k i k / gkP n A k k k := by
        rw [gk_succ]; show mulS _ _ k i k = _; unfold mulS; rw [if_pos rfl, if_pos c]
      rw [e, sm_congr (g := fun t => gkP n A k t j * swpM (gk n A k).M (pvt (gk n A k).B n k) k i t) fun t ht => by rw [gk_le (show t ≤ k by omega), mk t ht]]
      grind
    · rw [show min i (k + 1) = i by omega, show min i k = i by omega, gk_le (by omega)]
      congr 1
      exact sm_congr fun t ht => by rw [gk_le (show t ≤ k by omega), mk t (by omega)]
theorem g_mul {n : Nat} {A : Nat → Nat → Rat} {i j : Nat} (hi : i < n) : mulM n (gL n A) (gU n A) i j = A (gO n A i) j := by
  have h := gk_lu (A := A) n (Nat.le_refl _) i j hi
  rw [show min i n = i by omega] at h
  show sm n (fun t => gU n A t j * gL n A i t) = _
  obtain ⟨d, hd⟩ : ∃ d, n = (i + 1) + d := ⟨n - (i + 1), by omega⟩
  have e : sm n (fun t => gU n A t j * gL n A i t) = sm (i + 1) (fun t => gU n A t j * gL n A i t) := by
    conv => lhs; arg 1; rw [hd]
    rw [sm_split, sm_zero (n := d) fun e he => by rw [gL_up hi (by omega)]; exact Rat.mul_zero _]
    exact Rat.add_zero _
  rw [e]
  show sm i _ + gU n A i j * gL n A i i = _
  rw [gL_diag hi, Rat.mul_one]; exact h
end Go.Proofs.YtjfcphohgicolaaGreat

namespace Go.Proofs.YtjfcphohgicolaaGreat
set_option linter.unusedVariables false
theorem Ker.clr {n w k : Nat} {B : Nat → Nat → Rat} {v : Nat → Rat} (hk : k < n) : Ker n w (redA B k) v ↔ Ker n w B v := by
  have row : ∀ i, k < i → sm w (fun c => redA B k i c * v c) = sm w (fun c => B i c * v c) - B i k / B k k * sm w (fun c => B k c * v c) := by
    intro i hi
    rw [← sm_smul, ← sm_sub]
    refine sm_congr fun c _ => ?_
    have : redA B k i c = B i c - B i k / B k k * B k c := if_pos hi
    rw [this]; grind
  have low : ∀ i, ¬ k < i → (fun c => redA B k i c * v c) = fun c => B i c * v c := by
    intro i hi
    funext c
    have : redA B k i c = B i c := if_neg hi
    rw [this]
  constructor
  · intro h i hi
    have h0 : sm w (fun c => B k c * v c) = 0 := by have := h k hk; rw [low k (Nat.lt_irrefl k)] at this; exact this
    have := h i hi
    by_cases e : k < i
    · rw [row i e, h0] at this; grind
    · rw [low i e] at this; exact this
  · intro h i hi
    by_cases e : k < i
    · rw [row i e, h i hi, h k hk]; grind
    · rw [low i e]; exact h i hi
theorem gk_ker {n w : Nat} {A : Nat → Nat → Rat} {v : Nat → Rat} : ∀ k, k ≤ n → (Ker n w (gk n A k).B v ↔ Ker n w A v) := by
  intro k
  induction k with
  | zero => exact fun _ => Iff.rfl
  | succ k ih =>
    intro hk
    obtain ⟨p1, p2, _⟩ := pvt_spec (B := (gk n A k).B) (n := n) (k := k) (by omega)
    rw [gk_succ]
    exact (Ker.clr (by omega)).trans ((Ker.swp p2 (by omega)).trans (ih (by omega)))
/-- What is a triangle so far stays as it is. -/
theorem elim_tri {n K : Nat} {B : Nat → Nat → Rat} (hz : ∀ i t, i < n → t < K → t < i → B i t = 0) (hd : ∀ t, t < K → B t t ≠ 0) : ∀ j, j ≤ K → j ≤ n → (∀ i k, i < n → (elim n B j).A i k = B i k) ∧ (elim n B j).det = pm j (fun t => B t t) ∧ (elim n B j).r = j := by
  intro j
  induction j with
  | zero => intro _ _; exact ⟨fun _ _ _ => rfl, rfl, rfl⟩
  | succ j ih =>
    intro hj hn
    obtain ⟨h1, h2, h3⟩ := ih (by omega) (by omega)
    have hpv : pv (elim n B j).A j n j = j := pv_eq (Nat.le_refl _) (by omega) (fun i h1 h2 => by omega) (.inr (by rw [h1 j j (by omega)]; exact hd j (by omega)))
    rw [elim_next h3 (by rw [hpv]; omega), hpv, if_pos rfl, swpM_self]
    refine ⟨fun i k hi => ?_, ?_, rfl⟩
    · show redM _ j j i k = _
      by_cases c : j < i
      · rw [redM_zero (by rw [h1 i j hi]; exact hz i j hi (by omega) c)]; exact h1 i k hi
      · rw [redM_le (.inl (by omega))]; exact h1 i k hi
    · show (elim n B j).det * (elim n B j).A j j = _
      rw [h2, h1 j j (by omega)]; rfl
theorem gk_reg {n : Nat} {A : Nat → Nat → Rat} (hp : ∀ t, t < n → gpiv n A t ≠ 0) : (elim n A n).det ≠ 0 := by
  intro hd
  obtain ⟨v, ⟨k, hk, hv⟩, hker⟩ := ker0 hd
  have hker : Ker n n (gU n A) v := (gk_ker n (Nat.le_refl _)).2 hker
  have dg : ∀ t, t < n → gU n A t t ≠ 0 := fun t ht => by rw [gU_diag ht]; exact hp t ht
  have h := elim_tri (n := n) (K := n) (B := gU n A) (fun i t hi ht hti => gU_low hp hi hti) dg n (Nat.le_refl _) (Nat.le_refl _)
  have hdet : (elim n (gU n A) n).det ≠ 0 := by rw [h.2.1]; exact pm_ne dg
  exact hv (ker1 hdet hker k hk)
end Go.Proofs.YtjfcphohgicolaaGreat

namespace Go.Proofs.YtjfcphohgicolaaGreat
set_option linter.unusedVariables false
def mxN (f : Nat → Rat) : Nat → Rat → Rat
  | 0, g => g
  | c + 1, g => if mxN f c g < (f c).abs then (f c).abs else mxN f c g
/-- The greatest size, of so many rows from one on. -/
def mxR (B : Nat → Nat → Rat) (n k : Nat) : Nat → Rat → Rat
  | 0, g => g
  | d + 1, g => mxN (B (k + d)) n (mxR B n k d g)
theorem mxN_ge {f : Nat → Rat} {g : Rat} : ∀ c, g ≤ mxN f c g ∧ ∀ j, j < c → (f j).abs ≤ mxN f c g := by
  intro c
  induction c with
  | zero => exact ⟨Rat.le_refl, fun j h => absurd h (Nat.not_lt_zero _)⟩
  | succ c ih =>
    obtain ⟨h1, h2⟩ := ih
    simp only [mxN]
    by_cases e : mxN f c g < (f c).abs
    · rw [if_pos e]
      refine ⟨by grind, fun j hj => ?_⟩
      by_cases ej : j = c
      · rw [ej]; exact Rat.le_refl
      · have := h2 j (by omega); grind
    · rw [if_neg e]
      refine ⟨h1, fun j hj => ?_⟩
      by_cases ej : j = c
      · rw [ej]; grind
      · exact h2 j (by omega)
theorem mxR_ge {B : Nat → Nat → Rat} {n k : Nat} {g : Rat} : ∀ d, g ≤ mxR B n k d g ∧ ∀ i j, k ≤ i → i < k + d → j < n → (B i j).abs ≤ mxR B n k d g := by
  intro d
  induction d with
  | zero => exact ⟨Rat.le_refl, fun i j h1 h2 => by omega⟩
  | succ d ih =>
    obtain ⟨h1, h2⟩ := ih
    obtain ⟨q1, q2⟩ := mxN_ge (f := B (k + d)) (g := mxR B n k d g) n
    simp only [mxR]
    refine ⟨by grind, fun i j e1 e2 e3 => ?_⟩
    by_cases e : i = k + d
    · rw [e]; exact q2 j e3
    · have := h2 i j e1 (by omega) e3; grind
/-- The greatest size so far, as the steps come. -/
def ggr (n : Nat) (A : Nat → Nat → Rat) : Nat → Rat
  | 0 => mxR A n 0 n 0
  | k + 1 => mxR (gk n A k).B n k (n - k) (ggr n A k)
theorem ggr_pos {n : Nat} {A : Nat → Nat → Rat} (hn : 0 < n) (hp : gpiv n A 0 ≠ 0) : 0 < ggr n A 0 := by
  obtain ⟨p1, p2, _⟩ := pvt_spec (B := (gk n A 0).B) (n := n) (k := 0) hn
  have h := (mxR_ge (B := A) (n := n) (k := 0) (g := 0) n).2 (pvt (gk n A 0).B n 0) 0 (Nat.zero_le _) (by omega) hn
  rw [gpiv_eq] at hp
  have := gabs_pos hp
  show 0 < mxR A n 0 n 0
  have e : (gk n A 0).B (pvt (gk n A 0).B n 0) 0 = A (pvt (gk n A 0).B n 0) 0 := rfl
  rw [e] at this
  grind
end Go.Proofs.YtjfcphohgicolaaGreat

namespace Go.Proofs.YtjfcphohgicolaaGreat
open Go
set_option linter.unusedVariables false
set_option linter.unusedSimpArgs false
set_option maxRecDepth 10000
theorem vabs_ok (q : Rat) {k : Nat} (h : Bz q k) (hk : k ≤ 1099511627776) : CallP Tryz.prog 75 [ratP q] (.p (ratP q.abs)) [] := by
  have := abs_ok q (h.nn hk) (h.nd hk)
  rwa [absP] at this
theorem cmpQ_pos {p q : Rat} : (0 < cmpQ p q) ↔ q < p := by
  unfold cmpQ
  split
  · rename_i h; constructor
    · intro h; omega
    · intro h2; grind
  · rename_i h
    split
    · rename_i e; constructor
      · intro h; omega
      · intro h2; grind
    · rename_i e
      constructor
      · intro _; grind
      · intro _; omega
end Go.Proofs.YtjfcphohgicolaaGreat

