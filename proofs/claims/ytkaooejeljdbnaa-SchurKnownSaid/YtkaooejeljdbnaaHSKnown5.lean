/- FSKnown: what its proof needs, part 5. -/
import Derived.Test.YtkaooejeljdbnaaHSKnown4
set_option linter.unusedVariables false
set_option linter.unusedSimpArgs false
namespace Go.Proofs.Ytkaooejeljdbnaa
def Ker (n w : Nat) (A : Nat → Nat → Rat) (v : Nat → Rat) : Prop := ∀ i, i < n → sm w (fun k => A i k * v k) = 0
theorem Ker.swp {n w p r : Nat} {A : Nat → Nat → Rat} {v : Nat → Rat} (hp : p < n) (hr : r < n) : Ker n w (swpM A p r) v ↔ Ker n w A v := by
  constructor
  · intro h i hi
    by_cases e1 : i = p
    · have := h r hr
      unfold swpM at this
      by_cases e2 : r = p
      · rw [if_pos e2] at this; rw [e1, ← e2]; exact this
      · rw [if_neg e2, if_pos rfl] at this; rw [e1]; exact this
    · by_cases e2 : i = r
      · have := h p hp
        unfold swpM at this
        rw [if_pos rfl] at this; rw [e2]; exact this
      · have := h i hi
        unfold swpM at this
        rw [if_neg e1, if_neg e2] at this; exact this
  · intro h i hi
    unfold swpM
    split
    · exact h r hr
    · split
      · exact h p hp
      · exact h i hi
theorem red_row {B : Nat → Nat → Rat} {r j i : Nat} (hz : ∀ k, k < j → B r k = 0) (hi : r < i) (k : Nat) : redM B r j i k = B i k - B i j / B r j * B r k := by
  by_cases e : j ≤ k
  · exact redM_gt hi e
  · rw [redM_le (.inr (by omega)), hz k (by omega)]; grind
theorem Ker.red {n w r j : Nat} {B : Nat → Nat → Rat} {v : Nat → Rat} (hz : ∀ k, k < j → B r k = 0) (hr : r < n) : Ker n w (redM B r j) v ↔ Ker n w B v := by
  have row : ∀ i, r < i → sm w (fun k => redM B r j i k * v k) = sm w (fun k => B i k * v k) - B i j / B r j * sm w (fun k => B r k * v k) := by
    intro i hi
    rw [← sm_smul, ← sm_sub]
    refine sm_congr fun k _ => ?_
    rw [red_row hz hi]; grind
  have low : ∀ i, ¬ r < i → (fun k => redM B r j i k * v k) = fun k => B i k * v k := by
    intro i hi
    funext k
    rw [redM_le (.inl (by omega))]
  constructor
  · intro h i hi
    have h0 : sm w (fun k => B r k * v k) = 0 := by have := h r hr; rw [low r (Nat.lt_irrefl r)] at this; exact this
    have := h i hi
    by_cases e : r < i
    · rw [row i e, h0] at this; grind
    · rw [low i e] at this; exact this
  · intro h i hi
    by_cases e : r < i
    · rw [row i e, h i hi, h r hr]; grind
    · rw [low i e]; exact h i hi
end Go.Proofs.Ytkaooejeljdbnaa

namespace Go.Proofs.Ytkaooejeljdbnaa
def pm : Nat → (Nat → Rat) → Rat
  | 0, _ => 1
  | n + 1, f => pm n f * f n
def pmx (n k : Nat) (f : Nat → Rat) : Rat := pm n fun t => if t = k then 1 else f t
theorem pm_congr {f g : Nat → Rat} : ∀ {n : Nat}, (∀ i, i < n → f i = g i) → pm n f = pm n g := by
  intro n
  induction n with
  | zero => exact fun _ => rfl
  | succ n ih => intro h; simp only [pm]; rw [ih fun i hi => h i (by omega), h n (by omega)]
theorem pm_ne {f : Nat → Rat} : ∀ {n : Nat}, (∀ i, i < n → f i ≠ 0) → pm n f ≠ 0 := by
  intro n
  induction n with
  | zero => intro _; simp only [pm]; decide
  | succ n ih =>
    intro h e
    rcases Rat.mul_eq_zero.1 e with e | e
    · exact ih (fun i hi => h i (by omega)) e
    · exact h n (by omega) e
theorem pm_zero {f : Nat → Rat} {k : Nat} : ∀ {n : Nat}, k < n → f k = 0 → pm n f = 0 := by
  intro n
  induction n with
  | zero => intro h; exact absurd h (Nat.not_lt_zero _)
  | succ n ih =>
    intro h e
    simp only [pm]
    by_cases c : k = n
    · rw [← c, e]; exact Rat.mul_zero _
    · rw [ih (by omega) e]; exact Rat.zero_mul _
theorem pmx_ne {f : Nat → Rat} {n k : Nat} (h : ∀ i, i < n → i ≠ k → f i ≠ 0) : pmx n k f ≠ 0 :=
  pm_ne fun i hi => by
    by_cases e : i = k
    · rw [if_pos e]; decide
    · rw [if_neg e]; exact h i hi e
theorem pmx_zero {f : Nat → Rat} {n k l : Nat} (hl : l < n) (hk : l ≠ k) (h : f l = 0) : pmx n k f = 0 := pm_zero hl (by rw [if_neg hk]; exact h)
theorem pmx_ge {f : Nat → Rat} {n k : Nat} (h : n ≤ k) : pmx n k f = pm n f := pm_congr fun i hi => if_neg (by omega)
theorem pmx_succ {f : Nat → Rat} {n k : Nat} (h : n ≠ k) : pmx (n + 1) k f = pmx n k f * f n := by
  show pm n _ * (if n = k then 1 else f n) = _
  rw [if_neg h]; rfl
theorem pmx_self {f : Nat → Rat} {n : Nat} : pmx (n + 1) n f = pm n f := by
  show pm n _ * (if n = n then 1 else f n) = _
  rw [if_pos rfl, Rat.mul_one]; exact pmx_ge (Nat.le_refl n)
theorem pm_split {f : Nat → Rat} {k : Nat} : ∀ {n : Nat}, k < n → pm n f = f k * pmx n k f := by
  intro n
  induction n with
  | zero => intro h; exact absurd h (Nat.not_lt_zero _)
  | succ n ih =>
    intro h
    by_cases c : k = n
    · subst c; rw [pmx_self]; simp only [pm]; exact Rat.mul_comm _ _
    · rw [pmx_succ (by omega)]; simp only [pm]; rw [ih (by omega)]; grind
def PolE (k : Nat) (g : Rat → Rat) : Prop := ∃ c : Nat → Rat, ∀ X, pev k c X = g X
theorem PolE.zero (k : Nat) : PolE k fun _ => 0 := ⟨fun i => 0 * (0 : Rat), fun X => by rw [pev_smul k 0 (fun _ => 0) X]; exact Rat.zero_mul _⟩
theorem PolE.add {k : Nat} {g h : Rat → Rat} (hg : PolE k g) (hh : PolE k h) : PolE k fun X => g X + h X := by
  obtain ⟨c, hc⟩ := hg
  obtain ⟨d, hd⟩ := hh
  exact ⟨fun i => c i + d i, fun X => by rw [pev_add, hc, hd]⟩
theorem PolE.smul {k : Nat} {g : Rat → Rat} (b : Rat) (hg : PolE k g) : PolE k fun X => b * g X := by
  obtain ⟨c, hc⟩ := hg
  exact ⟨fun i => b * c i, fun X => by rw [pev_smul, hc]⟩
theorem PolE.mulX {k : Nat} {g : Rat → Rat} (hg : PolE k g) (r : Rat) : PolE (k + 1) fun X => g X * (r - X) := by
  obtain ⟨c, hc⟩ := hg
  obtain ⟨d, _, hd⟩ := (Pol.mulX (g := g) ⟨c, rfl, hc⟩ r).smul (-1)
  exact ⟨d, fun X => by rw [hd]; grind⟩
theorem PolE.pm (a : Nat → Rat) : ∀ n, PolE n fun X => pm n fun t => a t - X := by
  intro n
  induction n with
  | zero => exact ⟨fun _ => 1, fun X => rfl⟩
  | succ n ih => exact ih.mulX (a n)
theorem PolE.pmx (a : Nat → Rat) (j : Nat) : ∀ n, j < n + 1 → PolE n fun X => pmx (n + 1) j fun t => a t - X := by
  intro n
  induction n with
  | zero =>
    intro h
    obtain rfl : j = 0 := by omega
    have : (fun X : Rat => Go.Proofs.Ytkaooejeljdbnaa.pmx (0 + 1) 0 fun t => a t - X) = fun X => Go.Proofs.Ytkaooejeljdbnaa.pm 0 fun t => a t - X := by funext X; exact pmx_self
    rw [this]; exact PolE.pm a 0
  | succ n ih =>
    intro h
    by_cases e : j = n + 1
    · subst e
      have : (fun X : Rat => Go.Proofs.Ytkaooejeljdbnaa.pmx (n + 1 + 1) (n + 1) fun t => a t - X) = fun X => Go.Proofs.Ytkaooejeljdbnaa.pm (n + 1) fun t => a t - X := by funext X; exact pmx_self
      rw [this]; exact PolE.pm a (n + 1)
    · have : (fun X : Rat => Go.Proofs.Ytkaooejeljdbnaa.pmx (n + 1 + 1) j fun t => a t - X) = fun X => (Go.Proofs.Ytkaooejeljdbnaa.pmx (n + 1) j fun t => a t - X) * (a (n + 1) - X) := by funext X; exact pmx_succ (by omega)
      rw [this]; exact (ih (by omega)).mulX _
theorem PolE.sum {k : Nat} {G : Nat → Rat → Rat} : ∀ m, (∀ t, t < m → PolE k (G t)) → PolE k fun X => sm m fun t => G t X := by
  intro m
  induction m with
  | zero => exact fun _ => PolE.zero k
  | succ m ih => intro h; exact (ih fun t ht => h t (by omega)).add (h m (by omega))
theorem PolE.eq {k : Nat} {g h : Rat → Rat} {r : Nat → Rat} (hg : PolE k g) (hh : PolE k h) (hi : Inj r (k + 1)) (he : ∀ l, l < k + 1 → g (r l) = h (r l)) (X : Rat) : g X = h X := by
  obtain ⟨c, hc⟩ := hg
  obtain ⟨d, hd⟩ := hh
  rw [← hc, ← hd]
  exact pev_congr k X (pev_eq hi fun l hl => by rw [hc, hd]; exact he l hl)
structure CauH (n : Nat) (a b : Nat → Rat) : Prop where
  ia : Inj a n
  ib : Inj b n
  ne : ∀ i k, i < n → k < n → a i ≠ b k
theorem rsub_ne {a b : Rat} (h : a ≠ b) : a - b ≠ 0 := fun e => h (by grind)
/-- Parts of a quotient of polynomials. -/
theorem parts {n : Nat} {b : Nat → Rat} (hb : Inj b n) {g : Rat → Rat} (hn : 1 ≤ n) (hg : PolE (n - 1) g) {x : Rat} (hx : ∀ k, k < n → x ≠ b k) :
    sm n (fun k => 1 / (x - b k) * (g (b k) / pmx n k fun t => b t - b k)) = -(g x / pm n fun t => b t - x) := by
  obtain ⟨m, rfl⟩ : ∃ m, n = m + 1 := ⟨n - 1, by omega⟩
  have hnz : ∀ k, k < m + 1 → (pmx (m + 1) k fun t => b t - b k) ≠ 0 := fun k hk => pmx_ne fun t ht e => rsub_ne fun c => e (hb t k ht hk c)
  have key := PolE.eq (g := fun X => sm (m + 1) fun k => g (b k) / (pmx (m + 1) k fun t => b t - b k) * pmx (m + 1) k fun t => b t - X) (PolE.sum (m + 1) fun k hk => (PolE.pmx b k m hk).smul _) hg hb (fun l hl => by
    show (sm (m + 1) fun k => g (b k) / (pmx (m + 1) k fun t => b t - b k) * pmx (m + 1) k fun t => b t - b l) = g (b l)
    have : (sm (m + 1) fun k => g (b k) / (pmx (m + 1) k fun t => b t - b k) * pmx (m + 1) k fun t => b t - b l) = sm (m + 1) fun k => g (b k) * (if k = l then 1 else 0) := sm_congr fun k hk => by
      by_cases e : k = l
      · subst e; rw [if_pos rfl]; have := hnz k hk; grind
      · rw [if_neg e, pmx_zero (f := fun t => b t - b l) (l := l) hl (Ne.symm e) (by grind)]; grind
    rw [this]; exact sm_one hl _) x
  have hp : pm (m + 1) (fun t => b t - x) ≠ 0 := pm_ne fun t ht => rsub_ne fun c => hx t ht c.symm
  have key : (sm (m + 1) fun k => g (b k) / (pmx (m + 1) k fun t => b t - b k) * pmx (m + 1) k fun t => b t - x) = g x := key
  rw [← key]
  have : (sm (m + 1) fun k => g (b k) / (pmx (m + 1) k fun t => b t - b k) * pmx (m + 1) k fun t => b t - x) = -(pm (m + 1) fun t => b t - x) * sm (m + 1) (fun k => 1 / (x - b k) * (g (b k) / pmx (m + 1) k fun t => b t - b k)) := by
    rw [← sm_smul]
    refine sm_congr fun k hk => ?_
    rw [pm_split hk]
    have h1 := hnz k hk
    have h2 : x - b k ≠ 0 := rsub_ne (hx k hk)
    generalize (pmx (m + 1) k fun t => b t - x) = u
    generalize (pmx (m + 1) k fun t => b t - b k) = v at h1
    generalize g (b k) = y
    generalize b k = z at h2
    grind
  rw [this]
  generalize (sm (m + 1) fun k => 1 / (x - b k) * (g (b k) / pmx (m + 1) k fun t => b t - b k)) = S
  generalize pm (m + 1) (fun t => b t - x) = p at hp
  grind
end Go.Proofs.Ytkaooejeljdbnaa

namespace Go.Proofs.Ytkaooejeljdbnaa
set_option linter.unusedVariables false
/-- What is left behind so many steps without pivots. -/
def gs (A : Nat → Nat → Rat) : Nat → Nat → Nat → Rat
  | 0 => A
  | k + 1 => redM (gs A k) k k
def piv (A : Nat → Nat → Rat) (k : Nat) : Rat := gs A k k k
theorem gs_gt {A : Nat → Nat → Rat} {k i j : Nat} (h1 : k < i) (h2 : k ≤ j) : gs A (k + 1) i j = gs A k i j - gs A k i k / gs A k k k * gs A k k j := redM_gt h1 h2
theorem gs_le {A : Nat → Nat → Rat} {k i j : Nat} (h : i ≤ k ∨ j < k) : gs A (k + 1) i j = gs A k i j := redM_le h
/-- A row stays from its own step on. -/
theorem gs_row {A : Nat → Nat → Rat} {i j : Nat} : ∀ d, gs A (i + d) i j = gs A i i j := by
  intro d
  induction d with
  | zero => rfl
  | succ d ih => rw [← ih, ← Nat.add_assoc]; exact gs_le (.inl (by omega))
theorem gs_row' {A : Nat → Nat → Rat} {i j k : Nat} (h : i ≤ k) : gs A k i j = gs A i i j := by
  obtain ⟨d, rfl⟩ : ∃ d, k = i + d := ⟨k - i, by omega⟩
  exact gs_row d
def lowM (A : Nat → Nat → Rat) (i j : Nat) : Rat := if i = j then 1 else if j < i then gs A j i j / gs A j j j else 0
def uppM (A : Nat → Nat → Rat) (i j : Nat) : Rat := if j < i then 0 else gs A i i j
/-- The first step at which there is nought: behind all of n, n. -/
def brk (A : Nat → Nat → Rat) (n : Nat) : Nat → Nat
  | 0 => n
  | d + 1 => if piv A (n - (d + 1)) = 0 then n - (d + 1) else brk A n d
def brkN (A : Nat → Nat → Rat) (n : Nat) : Nat := brk A n n
theorem brk_spec {A : Nat → Nat → Rat} {n : Nat} : ∀ d, d ≤ n → n - d ≤ brk A n d ∧ brk A n d ≤ n ∧ (∀ t, n - d ≤ t → t < brk A n d → piv A t ≠ 0) ∧ (brk A n d < n → piv A (brk A n d) = 0) := by
  intro d
  induction d with
  | zero => intro _; simp only [brk]; exact ⟨by omega, Nat.le_refl _, fun t h1 h2 => by omega, fun h => absurd h (Nat.lt_irrefl _)⟩
  | succ d ih =>
    intro hd
    obtain ⟨h1, h2, h3, h4⟩ := ih (by omega)
    simp only [brk]
    by_cases e : piv A (n - (d + 1)) = 0
    · rw [if_pos e]; exact ⟨Nat.le_refl _, by omega, fun t h1 h2 => by omega, fun _ => e⟩
    · rw [if_neg e]
      refine ⟨by omega, h2, fun t h5 h6 => ?_, h4⟩
      by_cases et : t = n - (d + 1)
      · rw [et]; exact e
      · exact h3 t (by omega) h6
theorem brkN_spec (A : Nat → Nat → Rat) (n : Nat) : brkN A n ≤ n ∧ (∀ t, t < brkN A n → piv A t ≠ 0) ∧ (brkN A n < n → piv A (brkN A n) = 0) := by
  obtain ⟨h1, h2, h3, h4⟩ := brk_spec (A := A) (n := n) n (Nat.le_refl _)
  exact ⟨h2, fun t ht => h3 t (by omega) ht, h4⟩
end Go.Proofs.Ytkaooejeljdbnaa

namespace Go.Proofs.Ytkaooejeljdbnaa
open Go
set_option linter.unusedVariables false
set_option linter.unusedSimpArgs false
set_option maxRecDepth 10000
theorem Wf.dif {g : GV} {b c : Nat} (h : Wf g b c) {i j : Nat} (hi : i < g.la) (hj : j < g.lb) : Bz (g.A i - g.B j) (b + c + 1) ∧ g.A i - g.B j ≠ 0 :=
  ⟨(h.bA i hi).sub (h.bB j hj), fun e => h.ne i j hi hj (by grind)⟩
/-- How many digits an entry has. -/
def eb (b c : Nat) : Nat := 24 * b + c + 30
theorem Wf.la12 {g : GV} {b c : Nat} (h : Wf g b c) (hk : g.k = 1 ∨ g.k = 2) : g.la = 2 * g.n - 1 := by unfold GV.la cntA; rw [if_pos hk]
theorem Wf.la3 {g : GV} {b c : Nat} (h : Wf g b c) (hk : g.k = 3 ∨ g.k = 4 ∨ g.k = 5 ∨ g.k = 7) : g.la = g.n := by unfold GV.la cntA; rw [if_neg (by omega), if_neg (by omega)]
theorem Wf.lb5 {g : GV} {b c : Nat} (h : Wf g b c) (hk : g.k = 5 ∨ g.k = 7) : g.lb = g.n := by unfold GV.lb cntB; rw [if_pos hk]
theorem Wf.bSum {g : GV} {b c : Nat} (h : Wf g b c) (hk : g.k = 6 ∨ g.k = 7) {i j : Nat} (hi : i < g.n) (hj : j < g.n) : ∀ k, k ≤ min i j + 1 → Bz (sm k fun m => rowS g (i - m) (j - m)) (k * (2 * (2 * b + 1) + 1 + 1) + 1) :=
  sm_bz' (F := fun m => rowS g (i - m) (j - m)) (n := min i j + 1) fun m hm => h.bRow hk (by omega) (by omega)
theorem Wf.bEnt {g : GV} {b c : Nat} (h : Wf g b c) {i j : Nat} (hi : i < g.n) (hj : j < g.n) : Bz (ent g i j) (eb b c) := by
  have h8 := h.n6
  unfold ent eb
  rcases k_cases h.k1 h.k7 with e | e | e | e | e | e | e
  · rw [if_pos e]
    exact (h.bA _ (by rw [h.la12 (by omega)]; omega)).mono (by omega)
  · rw [if_neg (by omega), if_pos e]
    exact (h.bA _ (by rw [h.la12 (by omega)]; omega)).mono (by omega)
  · rw [if_neg (by omega), if_neg (by omega), if_pos e]
    exact (h.bA _ (by rw [h.la3 (by omega)]; exact Nat.mod_lt _ (by omega))).mono (by omega)
  · rw [if_neg (by omega), if_neg (by omega), if_neg (by omega), if_pos e]
    have hj7 : b * j ≤ b * 5 := Nat.mul_le_mul_left _ (by omega)
    exact (bz_pow (h.bA i (by rw [h.la3 (by omega)]; exact hi)) j).mono (by omega)
  · rw [if_neg (by omega), if_neg (by omega), if_neg (by omega), if_neg (by omega), if_pos e]
    have := h.dif (i := i) (j := j) (by rw [h.la3 (by omega)]; exact hi) (by rw [h.lb5 (by omega)]; exact hj)
    exact (bz_one.div this.1).mono (by omega)
  · rw [if_neg (by omega), if_neg (by omega), if_neg (by omega), if_neg (by omega), if_neg (by omega), if_pos e]
    have z := h.bSum (.inl e) hi hj (min i j + 1) (Nat.le_refl _)
    have := Nat.mul_le_mul_right (2 * (2 * b + 1) + 1 + 1) (show min i j + 1 ≤ 6 by omega)
    exact z.mono (by omega)
  · rw [if_neg (by omega), if_neg (by omega), if_neg (by omega), if_neg (by omega), if_neg (by omega), if_neg (by omega)]
    have := h.dif (i := i) (j := j) (by rw [h.la3 (by omega)]; exact hi) (by rw [h.lb5 (by omega)]; exact hj)
    exact ((h.bRow (.inr e) hi hj).div this.1).mono (by omega)
end Go.Proofs.Ytkaooejeljdbnaa

namespace Go.Proofs.Ytkaooejeljdbnaa
open Go
set_option linter.unusedVariables false
set_option linter.unusedSimpArgs false
set_option maxRecDepth 10000
theorem gcheck1_ok (m : Nat → Bool) (n r : Nat) (A B G H : Nat → Rat) {b c : Nat} (h : Wf ⟨1, n, r, A, B, G, H⟩ b c) : CallP Try.prog 150 [genP m ⟨1, n, r, A, B, G, H⟩] (.p (.int .i64 0)) [] := by
  have n6 : n ≤ 6 := h.n6
  have n1 : 1 ≤ n := h.n1
  have r2 : r ≤ 2 := h.r2
  have hnr : n * r ≤ 12 := Nat.mul_le_mul n6 r2
  have hc4 := h.c4
  have hbc := h.bc
  have cc := cnt_le (k := 1) (r := r) n1 (show n ≤ 8 by omega) (show r ≤ 3 by omega)
  have cb : ∀ i : Nat, (if i = 0 then cntA 1 n else if i = 1 then cntB 1 n else cntH 1 n r) ≤ 24 := fun i => by split <;> (try split) <;> omega
  show CallP Try.prog 150 [.agg [.int .i64 ((1 : Nat) : Int), .int .i64 (n : Int), .int .i64 (r : Int), ratsM (m 0) (lst (cntA 1 n) A), ratsM (m 1) (lst (cntB 1 n) B), ratsM (m 2) (lst (cntH 1 n r) G), ratsM (m 3) (lst (cntH 1 n r) H)]] (.p (.int .i64 0)) []
  refine callG_of_vc (wr := wr0) Γok mixed Try.func150 (by kernel_rfl) rfl (by kernel_rfl) (le_of_ble rfl) (by simp) ?_
  refine SCmp.no (decide_eq_false (by omega)) ?_
  refine SCmp.no (decide_eq_false (by omega)) ?_
  refine SCall.pure (sized_ok m ⟨1, n, r, A, B, G, H⟩ h) ?_
  refine SCmp.no (rfl) ?_
  refine SCall.lent [genP m ⟨1, n, r, A, B, G, H⟩] _ rfl (genrows_ok m ⟨1, n, r, A, B, G, H⟩) ?_
  refine SCall.pure (counts_ok) ?_
  refine SLoop.mk Nat (fun i => ([(1, .bptr 0 0), (3, .bptr 1 0), (4, .p (.mp false cntM)), (28, .p (.agg [ratsM (m 0) (lst (cntA 1 n) A), ratsM (m 1) (lst (cntB 1 n) B), ratsM (m 2) (lst (cntH 1 n r) G), ratsM (m 3) (lst (cntH 1 n r) H)])), (29, .p (.int .i64 i))], [.box 59 [.p (.int .i64 ((1 : Nat) : Int)), .p (.int .i64 (n : Int)), .p (.int .i64 (r : Int)), .p (ratsM (m 0) (lst (cntA 1 n) A)), .p (ratsM (m 1) (lst (cntB 1 n) B)), .p (ratsM (m 2) (lst (cntH 1 n r) G)), .p (ratsM (m 3) (lst (cntH 1 n r) H))], .box 189 [.p (ratsM (m 0) (lst (cntA 1 n) A)), .p (ratsM (m 1) (lst (cntB 1 n) B)), .p (ratsM (m 2) (lst (cntH 1 n r) G)), .p (ratsM (m 3) (lst (cntH 1 n r) H))]]))
    (fun i => i ≤ 4) (fun i => 4 - i) 0 [0, 1] (Nat.zero_le _) ⟨rfl, by simp, rfl, rfl, rfl, ⟨rfl, rfl, rfl, rfl, rfl, trivial⟩, ⟨rfl, rfl, trivial⟩⟩ ?_
  intro i hi
  have hi : i ≤ 4 := hi
  rcases (show i = 0 ∨ i = 1 ∨ i = 2 ∨ i = 3 ∨ i = 4 by omega) with rfl | rfl | rfl | rfl | rfl
  · refine SCmp.yes (rfl) ?_
    refine SIdx.mk 0 _ rfl rfl ?_
    refine SKeys.all rfl <| SGet.at 0 _ rfl rfl rfl ?_
    refine SZ.mk ((cntA 1 n : Nat) : Int) (by simp [lst]) ?_
    refine SPos.mk 0 rfl (by decide) ?_
    refine SWrap.i64z ((2 * n : Nat) : Int) (by omega) (by omega) ?_
    refine SPos.mk 1 rfl (by decide) ?_
    refine SWrap.i64z ((0 * n : Nat) : Int) (by omega) (by omega) ?_
    refine SWrap.i64z ((0 : Nat) : Int) (by simp) (by omega) ?_
    refine SWrap.i64z ((2 * n + 0 : Nat) : Int) (by omega) (by omega) ?_
    refine SPos.mk 2 rfl (by decide) ?_
    refine SWrap.i64z ((cntA 1 n : Nat) : Int) (by simp [cntA, cntB, cntH] <;> omega) (by have := cnt_le (k := 1) (r := r) n1 (show n ≤ 8 by omega) (show r ≤ 3 by omega); omega) ?_
    refine SCmp.no (neF rfl) ?_
    refine SWrap.i64z ((0 + 1 : Nat) : Int) (by omega) (by omega) ?_
    exact ⟨0 + 1, [0, 1], by decide, by decide, ⟨rfl, by simp, rfl, rfl, rfl, ⟨rfl, rfl, rfl, rfl, rfl, trivial⟩, ⟨rfl, rfl, trivial⟩⟩⟩
  · refine SCmp.yes (rfl) ?_
    refine SIdx.mk 1 _ rfl rfl ?_
    refine SKeys.all rfl <| SGet.none rfl ?_
    refine SZ.mk ((cntB 1 n : Nat) : Int) (by simp [lst]) ?_
    refine SPos.mk 0 rfl (by decide) ?_
    refine SWrap.i64z ((0 * n : Nat) : Int) (by omega) (by omega) ?_
    refine SPos.mk 1 rfl (by decide) ?_
    refine SWrap.i64z ((0 * n : Nat) : Int) (by omega) (by omega) ?_
    refine SWrap.i64z ((0 : Nat) : Int) (by simp) (by omega) ?_
    refine SWrap.i64z ((0 * n + 0 : Nat) : Int) (by omega) (by omega) ?_
    refine SPos.mk 2 rfl (by decide) ?_
    refine SWrap.i64z ((cntB 1 n : Nat) : Int) (by simp [cntA, cntB, cntH] <;> omega) (by have := cnt_le (k := 1) (r := r) n1 (show n ≤ 8 by omega) (show r ≤ 3 by omega); omega) ?_
    refine SCmp.no (neF rfl) ?_
    refine SWrap.i64z ((1 + 1 : Nat) : Int) (by omega) (by omega) ?_
    exact ⟨1 + 1, [0, 1], by decide, by decide, ⟨rfl, by simp, rfl, rfl, rfl, ⟨rfl, rfl, rfl, rfl, rfl, trivial⟩, ⟨rfl, rfl, trivial⟩⟩⟩
  · refine SCmp.yes (rfl) ?_
    refine SIdx.mk 2 _ rfl rfl ?_
    refine SKeys.all rfl <| SGet.none rfl ?_
    refine SZ.mk ((cntH 1 n r : Nat) : Int) (by simp [lst]) ?_
    refine SPos.mk 0 rfl (by decide) ?_
    refine SWrap.i64z ((0 * n : Nat) : Int) (by omega) (by omega) ?_
    refine SPos.mk 1 rfl (by decide) ?_
    refine SWrap.i64z ((0 * n : Nat) : Int) (by omega) (by omega) ?_
    refine SWrap.i64z ((0 : Nat) : Int) (by simp) (by omega) ?_
    refine SWrap.i64z ((0 * n + 0 : Nat) : Int) (by omega) (by omega) ?_
    refine SPos.mk 2 rfl (by decide) ?_
    refine SWrap.i64z ((cntH 1 n r : Nat) : Int) (by simp [cntA, cntB, cntH] <;> omega) (by have := cnt_le (k := 1) (r := r) n1 (show n ≤ 8 by omega) (show r ≤ 3 by omega); omega) ?_
    refine SCmp.no (neF rfl) ?_
    refine SWrap.i64z ((2 + 1 : Nat) : Int) (by omega) (by omega) ?_
    exact ⟨2 + 1, [0, 1], by decide, by decide, ⟨rfl, by simp, rfl, rfl, rfl, ⟨rfl, rfl, rfl, rfl, rfl, trivial⟩, ⟨rfl, rfl, trivial⟩⟩⟩
  · refine SCmp.yes (rfl) ?_
    refine SIdx.mk 3 _ rfl rfl ?_
    refine SKeys.all rfl <| SGet.none rfl ?_
    refine SZ.mk ((cntH 1 n r : Nat) : Int) (by simp [lst]) ?_
    refine SPos.mk 0 rfl (by decide) ?_
    refine SWrap.i64z ((0 * n : Nat) : Int) (by omega) (by omega) ?_
    refine SPos.mk 1 rfl (by decide) ?_
    refine SWrap.i64z ((0 * n : Nat) : Int) (by omega) (by omega) ?_
    refine SWrap.i64z ((0 : Nat) : Int) (by simp) (by omega) ?_
    refine SWrap.i64z ((0 * n + 0 : Nat) : Int) (by omega) (by omega) ?_
    refine SPos.mk 2 rfl (by decide) ?_
    refine SWrap.i64z ((cntH 1 n r : Nat) : Int) (by simp [cntA, cntB, cntH] <;> omega) (by have := cnt_le (k := 1) (r := r) n1 (show n ≤ 8 by omega) (show r ≤ 3 by omega); omega) ?_
    refine SCmp.no (neF rfl) ?_
    refine SWrap.i64z ((3 + 1 : Nat) : Int) (by omega) (by omega) ?_
    exact ⟨3 + 1, [0, 1], by decide, by decide, ⟨rfl, by simp, rfl, rfl, rfl, ⟨rfl, rfl, rfl, rfl, rfl, trivial⟩, ⟨rfl, rfl, trivial⟩⟩⟩
  · refine SCmp.no (rfl) ?_
    refine SLoop.mk Nat (fun i => ([(1, .bptr 0 0), (60, .p (.agg [ratsM (m 0) (lst (cntA 1 n) A), ratsM (m 1) (lst (cntB 1 n) B), ratsM (m 2) (lst (cntH 1 n r) G), ratsM (m 3) (lst (cntH 1 n r) H)])), (61, .p (.int .i64 i))], [.box 59 [.p (.int .i64 ((1 : Nat) : Int)), .p (.int .i64 (n : Int)), .p (.int .i64 (r : Int)), .p (ratsM (m 0) (lst (cntA 1 n) A)), .p (ratsM (m 1) (lst (cntB 1 n) B)), .p (ratsM (m 2) (lst (cntH 1 n r) G)), .p (ratsM (m 3) (lst (cntH 1 n r) H))], .box 189 [.p (ratsM (m 0) (lst (cntA 1 n) A)), .p (ratsM (m 1) (lst (cntB 1 n) B)), .p (ratsM (m 2) (lst (cntH 1 n r) G)), .p (ratsM (m 3) (lst (cntH 1 n r) H))]]))
      (fun i => i ≤ 4) (fun i => 4 - i) 0 [0, 1] (Nat.zero_le _) ⟨rfl, by simp, rfl, rfl, rfl, ⟨rfl, rfl, rfl, trivial⟩, ⟨rfl, rfl, trivial⟩⟩ ?_
    intro i hi
    have hi : i ≤ 4 := hi
    rcases (show i = 0 ∨ i = 1 ∨ i = 2 ∨ i = 3 ∨ i = 4 by omega) with rfl | rfl | rfl | rfl | rfl
    · refine SCmp.yes (rfl) ?_
      refine SIdx.mk 0 _ rfl rfl ?_
      refine SCall.pure (none1_ok (m 0) (lst (cntA 1 n) A) (fun i hi => by rw [lst_length] at hi; rw [lst_getD hi]; exact check1_ok _ ((h.bA i hi).mono (by omega))) (by rw [lst_length]; exact Nat.le_trans (cb 0) (by decide))) ?_
      refine SCond.mk (fun h => by cases h) (fun _ => ?_)
      refine SWrap.i64z ((0 + 1 : Nat) : Int) (by omega) (by omega) ?_
      exact ⟨0 + 1, [0, 1], by decide, by decide, ⟨rfl, by simp, rfl, rfl, rfl, ⟨rfl, rfl, rfl, trivial⟩, ⟨rfl, rfl, trivial⟩⟩⟩
    · refine SCmp.yes (rfl) ?_
      refine SIdx.mk 1 _ rfl rfl ?_
      refine SCall.pure (none1_ok (m 1) (lst (cntB 1 n) B) (fun i hi => by rw [lst_length] at hi; rw [lst_getD hi]; exact check1_ok _ ((h.bB i hi).mono (by omega))) (by rw [lst_length]; exact Nat.le_trans (cb 1) (by decide))) ?_
      refine SCond.mk (fun h => by cases h) (fun _ => ?_)
      refine SWrap.i64z ((1 + 1 : Nat) : Int) (by omega) (by omega) ?_
      exact ⟨1 + 1, [0, 1], by decide, by decide, ⟨rfl, by simp, rfl, rfl, rfl, ⟨rfl, rfl, rfl, trivial⟩, ⟨rfl, rfl, trivial⟩⟩⟩
    · refine SCmp.yes (rfl) ?_
      refine SIdx.mk 2 _ rfl rfl ?_
      refine SCall.pure (none1_ok (m 2) (lst (cntH 1 n r) G) (fun i hi => by rw [lst_length] at hi; rw [lst_getD hi]; exact check1_ok _ ((h.bG i hi).mono (by omega))) (by rw [lst_length]; exact Nat.le_trans (cb 2) (by decide))) ?_
      refine SCond.mk (fun h => by cases h) (fun _ => ?_)
      refine SWrap.i64z ((2 + 1 : Nat) : Int) (by omega) (by omega) ?_
      exact ⟨2 + 1, [0, 1], by decide, by decide, ⟨rfl, by simp, rfl, rfl, rfl, ⟨rfl, rfl, rfl, trivial⟩, ⟨rfl, rfl, trivial⟩⟩⟩
    · refine SCmp.yes (rfl) ?_
      refine SIdx.mk 3 _ rfl rfl ?_
      refine SCall.pure (none1_ok (m 3) (lst (cntH 1 n r) H) (fun i hi => by rw [lst_length] at hi; rw [lst_getD hi]; exact check1_ok _ ((h.bH i hi).mono (by omega))) (by rw [lst_length]; exact Nat.le_trans (cb 3) (by decide))) ?_
      refine SCond.mk (fun h => by cases h) (fun _ => ?_)
      refine SWrap.i64z ((3 + 1 : Nat) : Int) (by omega) (by omega) ?_
      exact ⟨3 + 1, [0, 1], by decide, by decide, ⟨rfl, by simp, rfl, rfl, rfl, ⟨rfl, rfl, rfl, trivial⟩, ⟨rfl, rfl, trivial⟩⟩⟩
    · refine SCmp.no (rfl) ?_
      refine SZ.mk ((cntA 1 n : Nat) : Int) (by simp [lst]) ?_
      refine SLoop.mk Nat (fun i => ([(1, .bptr 0 0), (68, .p (ratsM (m 0) (lst (cntA 1 n) A))), (69, .p (.int .i64 ((cntA 1 n : Nat) : Int))), (70, .p (.int .i64 i))], [.box 59 [.p (.int .i64 ((1 : Nat) : Int)), .p (.int .i64 (n : Int)), .p (.int .i64 (r : Int)), .p (ratsM (m 0) (lst (cntA 1 n) A)), .p (ratsM (m 1) (lst (cntB 1 n) B)), .p (ratsM (m 2) (lst (cntH 1 n r) G)), .p (ratsM (m 3) (lst (cntH 1 n r) H))], .box 189 [.p (ratsM (m 0) (lst (cntA 1 n) A)), .p (ratsM (m 1) (lst (cntB 1 n) B)), .p (ratsM (m 2) (lst (cntH 1 n r) G)), .p (ratsM (m 3) (lst (cntH 1 n r) H))]]))
        (fun i => i ≤ cntA 1 n) (fun i => cntA 1 n - i) 0 [0, 1] (Nat.zero_le _) ⟨rfl, by simp, rfl, rfl, rfl, ⟨rfl, rfl, rfl, rfl, trivial⟩, ⟨rfl, rfl, trivial⟩⟩ ?_
      intro i hi
      have hi : i ≤ cntA 1 n := hi
      have cA := cb 0
      by_cases hia : i < cntA 1 n
      · refine SCmp.yes (decide_eq_true (by omega)) ?_
        refine SIdx.rf i rfl hia ?_
        have hz := (h.bA i hia).mono (show b ≤ c by omega)
        have hc2 := none2_ok (m 1) true (A i) (lst (cntB 1 n) B) (fun j hj => by
          rw [lst_length] at hj; rw [lst_getD hj]
          have := check2_ok true (A i) (B j) hz (h.bB j hj) (by omega)
          rw [decide_eq_false (h.ne i j hia hj)] at this
          exact this) (by rw [lst_length]; exact Nat.le_trans (cb 1) (by decide))
        refine SCall.pure (pvs := [ratsM (m 1) (lst (cntB 1 n) B), .fn 189 [.pel true (ratP (A i))]]) hc2 ?_
        refine SCond.mk (fun h => by cases h) (fun _ => ?_)
        refine SWrap.i64z ((i + 1 : Nat) : Int) (by omega) (by omega) ?_
        exact ⟨i + 1, [0, 1], hia, by show cntA 1 n - (i + 1) < cntA 1 n - i; omega, ⟨rfl, by simp, rfl, rfl, rfl, ⟨rfl, rfl, rfl, rfl, trivial⟩, ⟨rfl, rfl, trivial⟩⟩⟩
      · refine SCmp.no (decide_eq_false (by omega)) ?_
        exact SRet.pure (.p _ (.int _ _))
theorem gcheck2_ok (m : Nat → Bool) (n r : Nat) (A B G H : Nat → Rat) {b c : Nat} (h : Wf ⟨2, n, r, A, B, G, H⟩ b c) : CallP Try.prog 150 [genP m ⟨2, n, r, A, B, G, H⟩] (.p (.int .i64 0)) [] := by
  have n6 : n ≤ 6 := h.n6
  have n1 : 1 ≤ n := h.n1
  have r2 : r ≤ 2 := h.r2
  have hnr : n * r ≤ 12 := Nat.mul_le_mul n6 r2
  have hc4 := h.c4
  have hbc := h.bc
  have cc := cnt_le (k := 2) (r := r) n1 (show n ≤ 8 by omega) (show r ≤ 3 by omega)
  have cb : ∀ i : Nat, (if i = 0 then cntA 2 n else if i = 1 then cntB 2 n else cntH 2 n r) ≤ 24 := fun i => by split <;> (try split) <;> omega
  show CallP Try.prog 150 [.agg [.int .i64 ((2 : Nat) : Int), .int .i64 (n : Int), .int .i64 (r : Int), ratsM (m 0) (lst (cntA 2 n) A), ratsM (m 1) (lst (cntB 2 n) B), ratsM (m 2) (lst (cntH 2 n r) G), ratsM (m 3) (lst (cntH 2 n r) H)]] (.p (.int .i64 0)) []
  refine callG_of_vc (wr := wr0) Γok mixed Try.func150 (by kernel_rfl) rfl (by kernel_rfl) (le_of_ble rfl) (by simp) ?_
  refine SCmp.no (decide_eq_false (by omega)) ?_
  refine SCmp.no (decide_eq_false (by omega)) ?_
  refine SCall.pure (sized_ok m ⟨2, n, r, A, B, G, H⟩ h) ?_
  refine SCmp.no (rfl) ?_
  refine SCall.lent [genP m ⟨2, n, r, A, B, G, H⟩] _ rfl (genrows_ok m ⟨2, n, r, A, B, G, H⟩) ?_
  refine SCall.pure (counts_ok) ?_
  refine SLoop.mk Nat (fun i => ([(1, .bptr 0 0), (3, .bptr 1 0), (4, .p (.mp false cntM)), (28, .p (.agg [ratsM (m 0) (lst (cntA 2 n) A), ratsM (m 1) (lst (cntB 2 n) B), ratsM (m 2) (lst (cntH 2 n r) G), ratsM (m 3) (lst (cntH 2 n r) H)])), (29, .p (.int .i64 i))], [.box 59 [.p (.int .i64 ((2 : Nat) : Int)), .p (.int .i64 (n : Int)), .p (.int .i64 (r : Int)), .p (ratsM (m 0) (lst (cntA 2 n) A)), .p (ratsM (m 1) (lst (cntB 2 n) B)), .p (ratsM (m 2) (lst (cntH 2 n r) G)), .p (ratsM (m 3) (lst (cntH 2 n r) H))], .box 189 [.p (ratsM (m 0) (lst (cntA 2 n) A)), .p (ratsM (m 1) (lst (cntB 2 n) B)), .p (ratsM (m 2) (lst (cntH 2 n r) G)), .p (ratsM (m 3) (lst (cntH 2 n r) H))]]))
    (fun i => i ≤ 4) (fun i => 4 - i) 0 [0, 1] (Nat.zero_le _) ⟨rfl, by simp, rfl, rfl, rfl, ⟨rfl, rfl, rfl, rfl, rfl, trivial⟩, ⟨rfl, rfl, trivial⟩⟩ ?_
  intro i hi
  have hi : i ≤ 4 := hi
  rcases (show i = 0 ∨ i = 1 ∨ i = 2 ∨ i = 3 ∨ i = 4 by omega) with rfl | rfl | rfl | rfl | rfl
  · refine SCmp.yes (rfl) ?_
    refine SIdx.mk 0 _ rfl rfl ?_
    refine SKeys.all rfl <| SGet.at 1 _ rfl rfl rfl ?_
    refine SZ.mk ((cntA 2 n : Nat) : Int) (by simp [lst]) ?_
    refine SPos.mk 0 rfl (by decide) ?_
    refine SWrap.i64z ((2 * n : Nat) : Int) (by omega) (by omega) ?_
    refine SPos.mk 1 rfl (by decide) ?_
    refine SWrap.i64z ((0 * n : Nat) : Int) (by omega) (by omega) ?_
    refine SWrap.i64z ((0 : Nat) : Int) (by simp) (by omega) ?_
    refine SWrap.i64z ((2 * n + 0 : Nat) : Int) (by omega) (by omega) ?_
    refine SPos.mk 2 rfl (by decide) ?_
    refine SWrap.i64z ((cntA 2 n : Nat) : Int) (by simp [cntA, cntB, cntH] <;> omega) (by have := cnt_le (k := 2) (r := r) n1 (show n ≤ 8 by omega) (show r ≤ 3 by omega); omega) ?_
    refine SCmp.no (neF rfl) ?_
    refine SWrap.i64z ((0 + 1 : Nat) : Int) (by omega) (by omega) ?_
    exact ⟨0 + 1, [0, 1], by decide, by decide, ⟨rfl, by simp, rfl, rfl, rfl, ⟨rfl, rfl, rfl, rfl, rfl, trivial⟩, ⟨rfl, rfl, trivial⟩⟩⟩
  · refine SCmp.yes (rfl) ?_
    refine SIdx.mk 1 _ rfl rfl ?_
    refine SKeys.all rfl <| SGet.none rfl ?_
    refine SZ.mk ((cntB 2 n : Nat) : Int) (by simp [lst]) ?_
    refine SPos.mk 0 rfl (by decide) ?_
    refine SWrap.i64z ((0 * n : Nat) : Int) (by omega) (by omega) ?_
    refine SPos.mk 1 rfl (by decide) ?_
    refine SWrap.i64z ((0 * n : Nat) : Int) (by omega) (by omega) ?_
    refine SWrap.i64z ((0 : Nat) : Int) (by simp) (by omega) ?_
    refine SWrap.i64z ((0 * n + 0 : Nat) : Int) (by omega) (by omega) ?_
    refine SPos.mk 2 rfl (by decide) ?_
    refine SWrap.i64z ((cntB 2 n : Nat) : Int) (by simp [cntA, cntB, cntH] <;> omega) (by have := cnt_le (k := 2) (r := r) n1 (show n ≤ 8 by omega) (show r ≤ 3 by omega); omega) ?_
    refine SCmp.no (neF rfl) ?_
    refine SWrap.i64z ((1 + 1 : Nat) : Int) (by omega) (by omega) ?_
    exact ⟨1 + 1, [0, 1], by decide, by decide, ⟨rfl, by simp, rfl, rfl, rfl, ⟨rfl, rfl, rfl, rfl, rfl, trivial⟩, ⟨rfl, rfl, trivial⟩⟩⟩
  · refine SCmp.yes (rfl) ?_
    refine SIdx.mk 2 _ rfl rfl ?_
    refine SKeys.all rfl <| SGet.none rfl ?_
    refine SZ.mk ((cntH 2 n r : Nat) : Int) (by simp [lst]) ?_
    refine SPos.mk 0 rfl (by decide) ?_
    refine SWrap.i64z ((0 * n : Nat) : Int) (by omega) (by omega) ?_
    refine SPos.mk 1 rfl (by decide) ?_
    refine SWrap.i64z ((0 * n : Nat) : Int) (by omega) (by omega) ?_
    refine SWrap.i64z ((0 : Nat) : Int) (by simp) (by omega) ?_
    refine SWrap.i64z ((0 * n + 0 : Nat) : Int) (by omega) (by omega) ?_
    refine SPos.mk 2 rfl (by decide) ?_
    refine SWrap.i64z ((cntH 2 n r : Nat) : Int) (by simp [cntA, cntB, cntH] <;> omega) (by have := cnt_le (k := 2) (r := r) n1 (show n ≤ 8 by omega) (show r ≤ 3 by omega); omega) ?_
    refine SCmp.no (neF rfl) ?_
    refine SWrap.i64z ((2 + 1 : Nat) : Int) (by omega) (by omega) ?_
    exact ⟨2 + 1, [0, 1], by decide, by decide, ⟨rfl, by simp, rfl, rfl, rfl, ⟨rfl, rfl, rfl, rfl, rfl, trivial⟩, ⟨rfl, rfl, trivial⟩⟩⟩
  · refine SCmp.yes (rfl) ?_
    refine SIdx.mk 3 _ rfl rfl ?_
    refine SKeys.all rfl <| SGet.none rfl ?_
    refine SZ.mk ((cntH 2 n r : Nat) : Int) (by simp [lst]) ?_
    refine SPos.mk 0 rfl (by decide) ?_
    refine SWrap.i64z ((0 * n : Nat) : Int) (by omega) (by omega) ?_
    refine SPos.mk 1 rfl (by decide) ?_
    refine SWrap.i64z ((0 * n : Nat) : Int) (by omega) (by omega) ?_
    refine SWrap.i64z ((0 : Nat) : Int) (by simp) (by omega) ?_
    refine SWrap.i64z ((0 * n + 0 : Nat) : Int) (by omega) (by omega) ?_
    refine SPos.mk 2 rfl (by decide) ?_
    refine SWrap.i64z ((cntH 2 n r : Nat) : Int) (by simp [cntA, cntB, cntH] <;> omega) (by have := cnt_le (k := 2) (r := r) n1 (show n ≤ 8 by omega) (show r ≤ 3 by omega); omega) ?_
    refine SCmp.no (neF rfl) ?_
    refine SWrap.i64z ((3 + 1 : Nat) : Int) (by omega) (by omega) ?_
    exact ⟨3 + 1, [0, 1], by decide, by decide, ⟨rfl, by simp, rfl, rfl, rfl, ⟨rfl, rfl, rfl, rfl, rfl, trivial⟩, ⟨rfl, rfl, trivial⟩⟩⟩
  · refine SCmp.no (rfl) ?_
    refine SLoop.mk Nat (fun i => ([(1, .bptr 0 0), (60, .p (.agg [ratsM (m 0) (lst (cntA 2 n) A), ratsM (m 1) (lst (cntB 2 n) B), ratsM (m 2) (lst (cntH 2 n r) G), ratsM (m 3) (lst (cntH 2 n r) H)])), (61, .p (.int .i64 i))], [.box 59 [.p (.int .i64 ((2 : Nat) : Int)), .p (.int .i64 (n : Int)), .p (.int .i64 (r : Int)), .p (ratsM (m 0) (lst (cntA 2 n) A)), .p (ratsM (m 1) (lst (cntB 2 n) B)), .p (ratsM (m 2) (lst (cntH 2 n r) G)), .p (ratsM (m 3) (lst (cntH 2 n r) H))], .box 189 [.p (ratsM (m 0) (lst (cntA 2 n) A)), .p (ratsM (m 1) (lst (cntB 2 n) B)), .p (ratsM (m 2) (lst (cntH 2 n r) G)), .p (ratsM (m 3) (lst (cntH 2 n r) H))]]))
      (fun i => i ≤ 4) (fun i => 4 - i) 0 [0, 1] (Nat.zero_le _) ⟨rfl, by simp, rfl, rfl, rfl, ⟨rfl, rfl, rfl, trivial⟩, ⟨rfl, rfl, trivial⟩⟩ ?_
    intro i hi
    have hi : i ≤ 4 := hi
    rcases (show i = 0 ∨ i = 1 ∨ i = 2 ∨ i = 3 ∨ i = 4 by omega) with rfl | rfl | rfl | rfl | rfl
    · refine SCmp.yes (rfl) ?_
      refine SIdx.mk 0 _ rfl rfl ?_
      refine SCall.pure (none1_ok (m 0) (lst (cntA 2 n) A) (fun i hi => by rw [lst_length] at hi; rw [lst_getD hi]; exact check1_ok _ ((h.bA i hi).mono (by omega))) (by rw [lst_length]; exact Nat.le_trans (cb 0) (by decide))) ?_
      refine SCond.mk (fun h => by cases h) (fun _ => ?_)
      refine SWrap.i64z ((0 + 1 : Nat) : Int) (by omega) (by omega) ?_
      exact ⟨0 + 1, [0, 1], by decide, by decide, ⟨rfl, by simp, rfl, rfl, rfl, ⟨rfl, rfl, rfl, trivial⟩, ⟨rfl, rfl, trivial⟩⟩⟩
    · refine SCmp.yes (rfl) ?_
      refine SIdx.mk 1 _ rfl rfl ?_
      refine SCall.pure (none1_ok (m 1) (lst (cntB 2 n) B) (fun i hi => by rw [lst_length] at hi; rw [lst_getD hi]; exact check1_ok _ ((h.bB i hi).mono (by omega))) (by rw [lst_length]; exact Nat.le_trans (cb 1) (by decide))) ?_
      refine SCond.mk (fun h => by cases h) (fun _ => ?_)
      refine SWrap.i64z ((1 + 1 : Nat) : Int) (by omega) (by omega) ?_
      exact ⟨1 + 1, [0, 1], by decide, by decide, ⟨rfl, by simp, rfl, rfl, rfl, ⟨rfl, rfl, rfl, trivial⟩, ⟨rfl, rfl, trivial⟩⟩⟩
    · refine SCmp.yes (rfl) ?_
      refine SIdx.mk 2 _ rfl rfl ?_
      refine SCall.pure (none1_ok (m 2) (lst (cntH 2 n r) G) (fun i hi => by rw [lst_length] at hi; rw [lst_getD hi]; exact check1_ok _ ((h.bG i hi).mono (by omega))) (by rw [lst_length]; exact Nat.le_trans (cb 2) (by decide))) ?_
      refine SCond.mk (fun h => by cases h) (fun _ => ?_)
      refine SWrap.i64z ((2 + 1 : Nat) : Int) (by omega) (by omega) ?_
      exact ⟨2 + 1, [0, 1], by decide, by decide, ⟨rfl, by simp, rfl, rfl, rfl, ⟨rfl, rfl, rfl, trivial⟩, ⟨rfl, rfl, trivial⟩⟩⟩
    · refine SCmp.yes (rfl) ?_
      refine SIdx.mk 3 _ rfl rfl ?_
      refine SCall.pure (none1_ok (m 3) (lst (cntH 2 n r) H) (fun i hi => by rw [lst_length] at hi; rw [lst_getD hi]; exact check1_ok _ ((h.bH i hi).mono (by omega))) (by rw [lst_length]; exact Nat.le_trans (cb 3) (by decide))) ?_
      refine SCond.mk (fun h => by cases h) (fun _ => ?_)
      refine SWrap.i64z ((3 + 1 : Nat) : Int) (by omega) (by omega) ?_
      exact ⟨3 + 1, [0, 1], by decide, by decide, ⟨rfl, by simp, rfl, rfl, rfl, ⟨rfl, rfl, rfl, trivial⟩, ⟨rfl, rfl, trivial⟩⟩⟩
    · refine SCmp.no (rfl) ?_
      refine SZ.mk ((cntA 2 n : Nat) : Int) (by simp [lst]) ?_
      refine SLoop.mk Nat (fun i => ([(1, .bptr 0 0), (68, .p (ratsM (m 0) (lst (cntA 2 n) A))), (69, .p (.int .i64 ((cntA 2 n : Nat) : Int))), (70, .p (.int .i64 i))], [.box 59 [.p (.int .i64 ((2 : Nat) : Int)), .p (.int .i64 (n : Int)), .p (.int .i64 (r : Int)), .p (ratsM (m 0) (lst (cntA 2 n) A)), .p (ratsM (m 1) (lst (cntB 2 n) B)), .p (ratsM (m 2) (lst (cntH 2 n r) G)), .p (ratsM (m 3) (lst (cntH 2 n r) H))], .box 189 [.p (ratsM (m 0) (lst (cntA 2 n) A)), .p (ratsM (m 1) (lst (cntB 2 n) B)), .p (ratsM (m 2) (lst (cntH 2 n r) G)), .p (ratsM (m 3) (lst (cntH 2 n r) H))]]))
        (fun i => i ≤ cntA 2 n) (fun i => cntA 2 n - i) 0 [0, 1] (Nat.zero_le _) ⟨rfl, by simp, rfl, rfl, rfl, ⟨rfl, rfl, rfl, rfl, trivial⟩, ⟨rfl, rfl, trivial⟩⟩ ?_
      intro i hi
      have hi : i ≤ cntA 2 n := hi
      have cA := cb 0
      by_cases hia : i < cntA 2 n
      · refine SCmp.yes (decide_eq_true (by omega)) ?_
        refine SIdx.rf i rfl hia ?_
        have hz := (h.bA i hia).mono (show b ≤ c by omega)
        have hc2 := none2_ok (m 1) true (A i) (lst (cntB 2 n) B) (fun j hj => by
          rw [lst_length] at hj; rw [lst_getD hj]
          have := check2_ok true (A i) (B j) hz (h.bB j hj) (by omega)
          rw [decide_eq_false (h.ne i j hia hj)] at this
          exact this) (by rw [lst_length]; exact Nat.le_trans (cb 1) (by decide))
        refine SCall.pure (pvs := [ratsM (m 1) (lst (cntB 2 n) B), .fn 189 [.pel true (ratP (A i))]]) hc2 ?_
        refine SCond.mk (fun h => by cases h) (fun _ => ?_)
        refine SWrap.i64z ((i + 1 : Nat) : Int) (by omega) (by omega) ?_
        exact ⟨i + 1, [0, 1], hia, by show cntA 2 n - (i + 1) < cntA 2 n - i; omega, ⟨rfl, by simp, rfl, rfl, rfl, ⟨rfl, rfl, rfl, rfl, trivial⟩, ⟨rfl, rfl, trivial⟩⟩⟩
      · refine SCmp.no (decide_eq_false (by omega)) ?_
        exact SRet.pure (.p _ (.int _ _))
theorem gcheck3_ok (m : Nat → Bool) (n r : Nat) (A B G H : Nat → Rat) {b c : Nat} (h : Wf ⟨3, n, r, A, B, G, H⟩ b c) : CallP Try.prog 150 [genP m ⟨3, n, r, A, B, G, H⟩] (.p (.int .i64 0)) [] := by
  have n6 : n ≤ 6 := h.n6
  have n1 : 1 ≤ n := h.n1
  have r2 : r ≤ 2 := h.r2
  have hnr : n * r ≤ 12 := Nat.mul_le_mul n6 r2
  have hc4 := h.c4
  have hbc := h.bc
  have cc := cnt_le (k := 3) (r := r) n1 (show n ≤ 8 by omega) (show r ≤ 3 by omega)
  have cb : ∀ i : Nat, (if i = 0 then cntA 3 n else if i = 1 then cntB 3 n else cntH 3 n r) ≤ 24 := fun i => by split <;> (try split) <;> omega
  show CallP Try.prog 150 [.agg [.int .i64 ((3 : Nat) : Int), .int .i64 (n : Int), .int .i64 (r : Int), ratsM (m 0) (lst (cntA 3 n) A), ratsM (m 1) (lst (cntB 3 n) B), ratsM (m 2) (lst (cntH 3 n r) G), ratsM (m 3) (lst (cntH 3 n r) H)]] (.p (.int .i64 0)) []
  refine callG_of_vc (wr := wr0) Γok mixed Try.func150 (by kernel_rfl) rfl (by kernel_rfl) (le_of_ble rfl) (by simp) ?_
  refine SCmp.no (decide_eq_false (by omega)) ?_
  refine SCmp.no (decide_eq_false (by omega)) ?_
  refine SCall.pure (sized_ok m ⟨3, n, r, A, B, G, H⟩ h) ?_
  refine SCmp.no (rfl) ?_
  refine SCall.lent [genP m ⟨3, n, r, A, B, G, H⟩] _ rfl (genrows_ok m ⟨3, n, r, A, B, G, H⟩) ?_
  refine SCall.pure (counts_ok) ?_
  refine SLoop.mk Nat (fun i => ([(1, .bptr 0 0), (3, .bptr 1 0), (4, .p (.mp false cntM)), (28, .p (.agg [ratsM (m 0) (lst (cntA 3 n) A), ratsM (m 1) (lst (cntB 3 n) B), ratsM (m 2) (lst (cntH 3 n r) G), ratsM (m 3) (lst (cntH 3 n r) H)])), (29, .p (.int .i64 i))], [.box 59 [.p (.int .i64 ((3 : Nat) : Int)), .p (.int .i64 (n : Int)), .p (.int .i64 (r : Int)), .p (ratsM (m 0) (lst (cntA 3 n) A)), .p (ratsM (m 1) (lst (cntB 3 n) B)), .p (ratsM (m 2) (lst (cntH 3 n r) G)), .p (ratsM (m 3) (lst (cntH 3 n r) H))], .box 189 [.p (ratsM (m 0) (lst (cntA 3 n) A)), .p (ratsM (m 1) (lst (cntB 3 n) B)), .p (ratsM (m 2) (lst (cntH 3 n r) G)), .p (ratsM (m 3) (lst (cntH 3 n r) H))]]))
    (fun i => i ≤ 4) (fun i => 4 - i) 0 [0, 1] (Nat.zero_le _) ⟨rfl, by simp, rfl, rfl, rfl, ⟨rfl, rfl, rfl, rfl, rfl, trivial⟩, ⟨rfl, rfl, trivial⟩⟩ ?_
  intro i hi
  have hi : i ≤ 4 := hi
  rcases (show i = 0 ∨ i = 1 ∨ i = 2 ∨ i = 3 ∨ i = 4 by omega) with rfl | rfl | rfl | rfl | rfl
  · refine SCmp.yes (rfl) ?_
    refine SIdx.mk 0 _ rfl rfl ?_
    refine SKeys.all rfl <| SGet.at 2 _ rfl rfl rfl ?_
    refine SZ.mk ((cntA 3 n : Nat) : Int) (by simp [lst]) ?_
    refine SPos.mk 0 rfl (by decide) ?_
    refine SWrap.i64z ((1 * n : Nat) : Int) (by omega) (by omega) ?_
    refine SPos.mk 1 rfl (by decide) ?_
    refine SWrap.i64z ((0 * n : Nat) : Int) (by omega) (by omega) ?_
    refine SWrap.i64z ((0 : Nat) : Int) (by simp) (by omega) ?_
    refine SWrap.i64z ((1 * n + 0 : Nat) : Int) (by omega) (by omega) ?_
    refine SPos.mk 2 rfl (by decide) ?_
    refine SWrap.i64z ((cntA 3 n : Nat) : Int) (by simp [cntA, cntB, cntH] <;> omega) (by have := cnt_le (k := 3) (r := r) n1 (show n ≤ 8 by omega) (show r ≤ 3 by omega); omega) ?_
    refine SCmp.no (neF rfl) ?_
    refine SWrap.i64z ((0 + 1 : Nat) : Int) (by omega) (by omega) ?_
    exact ⟨0 + 1, [0, 1], by decide, by decide, ⟨rfl, by simp, rfl, rfl, rfl, ⟨rfl, rfl, rfl, rfl, rfl, trivial⟩, ⟨rfl, rfl, trivial⟩⟩⟩
  · refine SCmp.yes (rfl) ?_
    refine SIdx.mk 1 _ rfl rfl ?_
    refine SKeys.all rfl <| SGet.none rfl ?_
    refine SZ.mk ((cntB 3 n : Nat) : Int) (by simp [lst]) ?_
    refine SPos.mk 0 rfl (by decide) ?_
    refine SWrap.i64z ((0 * n : Nat) : Int) (by omega) (by omega) ?_
    refine SPos.mk 1 rfl (by decide) ?_
    refine SWrap.i64z ((0 * n : Nat) : Int) (by omega) (by omega) ?_
    refine SWrap.i64z ((0 : Nat) : Int) (by simp) (by omega) ?_
    refine SWrap.i64z ((0 * n + 0 : Nat) : Int) (by omega) (by omega) ?_
    refine SPos.mk 2 rfl (by decide) ?_
    refine SWrap.i64z ((cntB 3 n : Nat) : Int) (by simp [cntA, cntB, cntH] <;> omega) (by have := cnt_le (k := 3) (r := r) n1 (show n ≤ 8 by omega) (show r ≤ 3 by omega); omega) ?_
    refine SCmp.no (neF rfl) ?_
    refine SWrap.i64z ((1 + 1 : Nat) : Int) (by omega) (by omega) ?_
    exact ⟨1 + 1, [0, 1], by decide, by decide, ⟨rfl, by simp, rfl, rfl, rfl, ⟨rfl, rfl, rfl, rfl, rfl, trivial⟩, ⟨rfl, rfl, trivial⟩⟩⟩
  · refine SCmp.yes (rfl) ?_
    refine SIdx.mk 2 _ rfl rfl ?_
    refine SKeys.all rfl <| SGet.none rfl ?_
    refine SZ.mk ((cntH 3 n r : Nat) : Int) (by simp [lst]) ?_
    refine SPos.mk 0 rfl (by decide) ?_
    refine SWrap.i64z ((0 * n : Nat) : Int) (by omega) (by omega) ?_
    refine SPos.mk 1 rfl (by decide) ?_
    refine SWrap.i64z ((0 * n : Nat) : Int) (by omega) (by omega) ?_
    refine SWrap.i64z ((0 : Nat) : Int) (by simp) (by omega) ?_
    refine SWrap.i64z ((0 * n + 0 : Nat) : Int) (by omega) (by omega) ?_
    refine SPos.mk 2 rfl (by decide) ?_
    refine SWrap.i64z ((cntH 3 n r : Nat) : Int) (by simp [cntA, cntB, cntH] <;> omega) (by have := cnt_le (k := 3) (r := r) n1 (show n ≤ 8 by omega) (show r ≤ 3 by omega); omega) ?_
    refine SCmp.no (neF rfl) ?_
    refine SWrap.i64z ((2 + 1 : Nat) : Int) (by omega) (by omega) ?_
    exact ⟨2 + 1, [0, 1], by decide, by decide, ⟨rfl, by simp, rfl, rfl, rfl, ⟨rfl, rfl, rfl, rfl, rfl, trivial⟩, ⟨rfl, rfl, trivial⟩⟩⟩
  · refine SCmp.yes (rfl) ?_
    refine SIdx.mk 3 _ rfl rfl ?_
    refine SKeys.all rfl <| SGet.none rfl ?_
    refine SZ.mk ((cntH 3 n r : Nat) : Int) (by simp [lst]) ?_
    refine SPos.mk 0 rfl (by decide) ?_
    refine SWrap.i64z ((0 * n : Nat) : Int) (by omega) (by omega) ?_
    refine SPos.mk 1 rfl (by decide) ?_
    refine SWrap.i64z ((0 * n : Nat) : Int) (by omega) (by omega) ?_
    refine SWrap.i64z ((0 : Nat) : Int) (by simp) (by omega) ?_
    refine SWrap.i64z ((0 * n + 0 : Nat) : Int) (by omega) (by omega) ?_
    refine SPos.mk 2 rfl (by decide) ?_
    refine SWrap.i64z ((cntH 3 n r : Nat) : Int) (by simp [cntA, cntB, cntH] <;> omega) (by have := cnt_le (k := 3) (r := r) n1 (show n ≤ 8 by omega) (show r ≤ 3 by omega); omega) ?_
    refine SCmp.no (neF rfl) ?_
    refine SWrap.i64z ((3 + 1 : Nat) : Int) (by omega) (by omega) ?_
    exact ⟨3 + 1, [0, 1], by decide, by decide, ⟨rfl, by simp, rfl, rfl, rfl, ⟨rfl, rfl, rfl, rfl, rfl, trivial⟩, ⟨rfl, rfl, trivial⟩⟩⟩
  · refine SCmp.no (rfl) ?_
    refine SLoop.mk Nat (fun i => ([(1, .bptr 0 0), (60, .p (.agg [ratsM (m 0) (lst (cntA 3 n) A), ratsM (m 1) (lst (cntB 3 n) B), ratsM (m 2) (lst (cntH 3 n r) G), ratsM (m 3) (lst (cntH 3 n r) H)])), (61, .p (.int .i64 i))], [.box 59 [.p (.int .i64 ((3 : Nat) : Int)), .p (.int .i64 (n : Int)), .p (.int .i64 (r : Int)), .p (ratsM (m 0) (lst (cntA 3 n) A)), .p (ratsM (m 1) (lst (cntB 3 n) B)), .p (ratsM (m 2) (lst (cntH 3 n r) G)), .p (ratsM (m 3) (lst (cntH 3 n r) H))], .box 189 [.p (ratsM (m 0) (lst (cntA 3 n) A)), .p (ratsM (m 1) (lst (cntB 3 n) B)), .p (ratsM (m 2) (lst (cntH 3 n r) G)), .p (ratsM (m 3) (lst (cntH 3 n r) H))]]))
      (fun i => i ≤ 4) (fun i => 4 - i) 0 [0, 1] (Nat.zero_le _) ⟨rfl, by simp, rfl, rfl, rfl, ⟨rfl, rfl, rfl, trivial⟩, ⟨rfl, rfl, trivial⟩⟩ ?_
    intro i hi
    have hi : i ≤ 4 := hi
    rcases (show i = 0 ∨ i = 1 ∨ i = 2 ∨ i = 3 ∨ i = 4 by omega) with rfl | rfl | rfl | rfl | rfl
    · refine SCmp.yes (rfl) ?_
      refine SIdx.mk 0 _ rfl rfl ?_
      refine SCall.pure (none1_ok (m 0) (lst (cntA 3 n) A) (fun i hi => by rw [lst_length] at hi; rw [lst_getD hi]; exact check1_ok _ ((h.bA i hi).mono (by omega))) (by rw [lst_length]; exact Nat.le_trans (cb 0) (by decide))) ?_
      refine SCond.mk (fun h => by cases h) (fun _ => ?_)
      refine SWrap.i64z ((0 + 1 : Nat) : Int) (by omega) (by omega) ?_
      exact ⟨0 + 1, [0, 1], by decide, by decide, ⟨rfl, by simp, rfl, rfl, rfl, ⟨rfl, rfl, rfl, trivial⟩, ⟨rfl, rfl, trivial⟩⟩⟩
    · refine SCmp.yes (rfl) ?_
      refine SIdx.mk 1 _ rfl rfl ?_
      refine SCall.pure (none1_ok (m 1) (lst (cntB 3 n) B) (fun i hi => by rw [lst_length] at hi; rw [lst_getD hi]; exact check1_ok _ ((h.bB i hi).mono (by omega))) (by rw [lst_length]; exact Nat.le_trans (cb 1) (by decide))) ?_
      refine SCond.mk (fun h => by cases h) (fun _ => ?_)
      refine SWrap.i64z ((1 + 1 : Nat) : Int) (by omega) (by omega) ?_
      exact ⟨1 + 1, [0, 1], by decide, by decide, ⟨rfl, by simp, rfl, rfl, rfl, ⟨rfl, rfl, rfl, trivial⟩, ⟨rfl, rfl, trivial⟩⟩⟩
    · refine SCmp.yes (rfl) ?_
      refine SIdx.mk 2 _ rfl rfl ?_
      refine SCall.pure (none1_ok (m 2) (lst (cntH 3 n r) G) (fun i hi => by rw [lst_length] at hi; rw [lst_getD hi]; exact check1_ok _ ((h.bG i hi).mono (by omega))) (by rw [lst_length]; exact Nat.le_trans (cb 2) (by decide))) ?_
      refine SCond.mk (fun h => by cases h) (fun _ => ?_)
      refine SWrap.i64z ((2 + 1 : Nat) : Int) (by omega) (by omega) ?_
      exact ⟨2 + 1, [0, 1], by decide, by decide, ⟨rfl, by simp, rfl, rfl, rfl, ⟨rfl, rfl, rfl, trivial⟩, ⟨rfl, rfl, trivial⟩⟩⟩
    · refine SCmp.yes (rfl) ?_
      refine SIdx.mk 3 _ rfl rfl ?_
      refine SCall.pure (none1_ok (m 3) (lst (cntH 3 n r) H) (fun i hi => by rw [lst_length] at hi; rw [lst_getD hi]; exact check1_ok _ ((h.bH i hi).mono (by omega))) (by rw [lst_length]; exact Nat.le_trans (cb 3) (by decide))) ?_
      refine SCond.mk (fun h => by cases h) (fun _ => ?_)
      refine SWrap.i64z ((3 + 1 : Nat) : Int) (by omega) (by omega) ?_
      exact ⟨3 + 1, [0, 1], by decide, by decide, ⟨rfl, by simp, rfl, rfl, rfl, ⟨rfl, rfl, rfl, trivial⟩, ⟨rfl, rfl, trivial⟩⟩⟩
    · refine SCmp.no (rfl) ?_
      refine SZ.mk ((cntA 3 n : Nat) : Int) (by simp [lst]) ?_
      refine SLoop.mk Nat (fun i => ([(1, .bptr 0 0), (68, .p (ratsM (m 0) (lst (cntA 3 n) A))), (69, .p (.int .i64 ((cntA 3 n : Nat) : Int))), (70, .p (.int .i64 i))], [.box 59 [.p (.int .i64 ((3 : Nat) : Int)), .p (.int .i64 (n : Int)), .p (.int .i64 (r : Int)), .p (ratsM (m 0) (lst (cntA 3 n) A)), .p (ratsM (m 1) (lst (cntB 3 n) B)), .p (ratsM (m 2) (lst (cntH 3 n r) G)), .p (ratsM (m 3) (lst (cntH 3 n r) H))], .box 189 [.p (ratsM (m 0) (lst (cntA 3 n) A)), .p (ratsM (m 1) (lst (cntB 3 n) B)), .p (ratsM (m 2) (lst (cntH 3 n r) G)), .p (ratsM (m 3) (lst (cntH 3 n r) H))]]))
        (fun i => i ≤ cntA 3 n) (fun i => cntA 3 n - i) 0 [0, 1] (Nat.zero_le _) ⟨rfl, by simp, rfl, rfl, rfl, ⟨rfl, rfl, rfl, rfl, trivial⟩, ⟨rfl, rfl, trivial⟩⟩ ?_
      intro i hi
      have hi : i ≤ cntA 3 n := hi
      have cA := cb 0
      by_cases hia : i < cntA 3 n
      · refine SCmp.yes (decide_eq_true (by omega)) ?_
        refine SIdx.rf i rfl hia ?_
        have hz := (h.bA i hia).mono (show b ≤ c by omega)
        have hc2 := none2_ok (m 1) true (A i) (lst (cntB 3 n) B) (fun j hj => by
          rw [lst_length] at hj; rw [lst_getD hj]
          have := check2_ok true (A i) (B j) hz (h.bB j hj) (by omega)
          rw [decide_eq_false (h.ne i j hia hj)] at this
          exact this) (by rw [lst_length]; exact Nat.le_trans (cb 1) (by decide))
        refine SCall.pure (pvs := [ratsM (m 1) (lst (cntB 3 n) B), .fn 189 [.pel true (ratP (A i))]]) hc2 ?_
        refine SCond.mk (fun h => by cases h) (fun _ => ?_)
        refine SWrap.i64z ((i + 1 : Nat) : Int) (by omega) (by omega) ?_
        exact ⟨i + 1, [0, 1], hia, by show cntA 3 n - (i + 1) < cntA 3 n - i; omega, ⟨rfl, by simp, rfl, rfl, rfl, ⟨rfl, rfl, rfl, rfl, trivial⟩, ⟨rfl, rfl, trivial⟩⟩⟩
      · refine SCmp.no (decide_eq_false (by omega)) ?_
        exact SRet.pure (.p _ (.int _ _))
theorem gcheck4_ok (m : Nat → Bool) (n r : Nat) (A B G H : Nat → Rat) {b c : Nat} (h : Wf ⟨4, n, r, A, B, G, H⟩ b c) : CallP Try.prog 150 [genP m ⟨4, n, r, A, B, G, H⟩] (.p (.int .i64 0)) [] := by
  have n6 : n ≤ 6 := h.n6
  have n1 : 1 ≤ n := h.n1
  have r2 : r ≤ 2 := h.r2
  have hnr : n * r ≤ 12 := Nat.mul_le_mul n6 r2
  have hc4 := h.c4
  have hbc := h.bc
  have cc := cnt_le (k := 4) (r := r) n1 (show n ≤ 8 by omega) (show r ≤ 3 by omega)
  have cb : ∀ i : Nat, (if i = 0 then cntA 4 n else if i = 1 then cntB 4 n else cntH 4 n r) ≤ 24 := fun i => by split <;> (try split) <;> omega
  show CallP Try.prog 150 [.agg [.int .i64 ((4 : Nat) : Int), .int .i64 (n : Int), .int .i64 (r : Int), ratsM (m 0) (lst (cntA 4 n) A), ratsM (m 1) (lst (cntB 4 n) B), ratsM (m 2) (lst (cntH 4 n r) G), ratsM (m 3) (lst (cntH 4 n r) H)]] (.p (.int .i64 0)) []
  refine callG_of_vc (wr := wr0) Γok mixed Try.func150 (by kernel_rfl) rfl (by kernel_rfl) (le_of_ble rfl) (by simp) ?_
  refine SCmp.no (decide_eq_false (by omega)) ?_
  refine SCmp.no (decide_eq_false (by omega)) ?_
  refine SCall.pure (sized_ok m ⟨4, n, r, A, B, G, H⟩ h) ?_
  refine SCmp.no (rfl) ?_
  refine SCall.lent [genP m ⟨4, n, r, A, B, G, H⟩] _ rfl (genrows_ok m ⟨4, n, r, A, B, G, H⟩) ?_
  refine SCall.pure (counts_ok) ?_
  refine SLoop.mk Nat (fun i => ([(1, .bptr 0 0), (3, .bptr 1 0), (4, .p (.mp false cntM)), (28, .p (.agg [ratsM (m 0) (lst (cntA 4 n) A), ratsM (m 1) (lst (cntB 4 n) B), ratsM (m 2) (lst (cntH 4 n r) G), ratsM (m 3) (lst (cntH 4 n r) H)])), (29, .p (.int .i64 i))], [.box 59 [.p (.int .i64 ((4 : Nat) : Int)), .p (.int .i64 (n : Int)), .p (.int .i64 (r : Int)), .p (ratsM (m 0) (lst (cntA 4 n) A)), .p (ratsM (m 1) (lst (cntB 4 n) B)), .p (ratsM (m 2) (lst (cntH 4 n r) G)), .p (ratsM (m 3) (lst (cntH 4 n r) H))], .box 189 [.p (ratsM (m 0) (lst (cntA 4 n) A)), .p (ratsM (m 1) (lst (cntB 4 n) B)), .p (ratsM (m 2) (lst (cntH 4 n r) G)), .p (ratsM (m 3) (lst (cntH 4 n r) H))]]))
    (fun i => i ≤ 4) (fun i => 4 - i) 0 [0, 1] (Nat.zero_le _) ⟨rfl, by simp, rfl, rfl, rfl, ⟨rfl, rfl, rfl, rfl, rfl, trivial⟩, ⟨rfl, rfl, trivial⟩⟩ ?_
  intro i hi
  have hi : i ≤ 4 := hi
  rcases (show i = 0 ∨ i = 1 ∨ i = 2 ∨ i = 3 ∨ i = 4 by omega) with rfl | rfl | rfl | rfl | rfl
  · refine SCmp.yes (rfl) ?_
    refine SIdx.mk 0 _ rfl rfl ?_
    refine SKeys.all rfl <| SGet.at 3 _ rfl rfl rfl ?_
    refine SZ.mk ((cntA 4 n : Nat) : Int) (by simp [lst]) ?_
    refine SPos.mk 0 rfl (by decide) ?_
    refine SWrap.i64z ((1 * n : Nat) : Int) (by omega) (by omega) ?_
    refine SPos.mk 1 rfl (by decide) ?_
    refine SWrap.i64z ((0 * n : Nat) : Int) (by omega) (by omega) ?_
    refine SWrap.i64z ((0 : Nat) : Int) (by simp) (by omega) ?_
    refine SWrap.i64z ((1 * n + 0 : Nat) : Int) (by omega) (by omega) ?_
    refine SPos.mk 2 rfl (by decide) ?_
    refine SWrap.i64z ((cntA 4 n : Nat) : Int) (by simp [cntA, cntB, cntH] <;> omega) (by have := cnt_le (k := 4) (r := r) n1 (show n ≤ 8 by omega) (show r ≤ 3 by omega); omega) ?_
    refine SCmp.no (neF rfl) ?_
    refine SWrap.i64z ((0 + 1 : Nat) : Int) (by omega) (by omega) ?_
    exact ⟨0 + 1, [0, 1], by decide, by decide, ⟨rfl, by simp, rfl, rfl, rfl, ⟨rfl, rfl, rfl, rfl, rfl, trivial⟩, ⟨rfl, rfl, trivial⟩⟩⟩
  · refine SCmp.yes (rfl) ?_
    refine SIdx.mk 1 _ rfl rfl ?_
    refine SKeys.all rfl <| SGet.none rfl ?_
    refine SZ.mk ((cntB 4 n : Nat) : Int) (by simp [lst]) ?_
    refine SPos.mk 0 rfl (by decide) ?_
    refine SWrap.i64z ((0 * n : Nat) : Int) (by omega) (by omega) ?_
    refine SPos.mk 1 rfl (by decide) ?_
    refine SWrap.i64z ((0 * n : Nat) : Int) (by omega) (by omega) ?_
    refine SWrap.i64z ((0 : Nat) : Int) (by simp) (by omega) ?_
    refine SWrap.i64z ((0 * n + 0 : Nat) : Int) (by omega) (by omega) ?_
    refine SPos.mk 2 rfl (by decide) ?_
    refine SWrap.i64z ((cntB 4 n : Nat) : Int) (by simp [cntA, cntB, cntH] <;> omega) (by have := cnt_le (k := 4) (r := r) n1 (show n ≤ 8 by omega) (show r ≤ 3 by omega); omega) ?_
    refine SCmp.no (neF rfl) ?_
    refine SWrap.i64z ((1 + 1 : Nat) : Int) (by omega) (by omega) ?_
    exact ⟨1 + 1, [0, 1], by decide, by decide, ⟨rfl, by simp, rfl, rfl, rfl, ⟨rfl, rfl, rfl, rfl, rfl, trivial⟩, ⟨rfl, rfl, trivial⟩⟩⟩
  · refine SCmp.yes (rfl) ?_
    refine SIdx.mk 2 _ rfl rfl ?_
    refine SKeys.all rfl <| SGet.none rfl ?_
    refine SZ.mk ((cntH 4 n r : Nat) : Int) (by simp [lst]) ?_
    refine SPos.mk 0 rfl (by decide) ?_
    refine SWrap.i64z ((0 * n : Nat) : Int) (by omega) (by omega) ?_
    refine SPos.mk 1 rfl (by decide) ?_
    refine SWrap.i64z ((0 * n : Nat) : Int) (by omega) (by omega) ?_
    refine SWrap.i64z ((0 : Nat) : Int) (by simp) (by omega) ?_
    refine SWrap.i64z ((0 * n + 0 : Nat) : Int) (by omega) (by omega) ?_
    refine SPos.mk 2 rfl (by decide) ?_
    refine SWrap.i64z ((cntH 4 n r : Nat) : Int) (by simp [cntA, cntB, cntH] <;> omega) (by have := cnt_le (k := 4) (r := r) n1 (show n ≤ 8 by omega) (show r ≤ 3 by omega); omega) ?_
    refine SCmp.no (neF rfl) ?_
    refine SWrap.i64z ((2 + 1 : Nat) : Int) (by omega) (by omega) ?_
    exact ⟨2 + 1, [0, 1], by decide, by decide, ⟨rfl, by simp, rfl, rfl, rfl, ⟨rfl, rfl, rfl, rfl, rfl, trivial⟩, ⟨rfl, rfl, trivial⟩⟩⟩
  · refine SCmp.yes (rfl) ?_
    refine SIdx.mk 3 _ rfl rfl ?_
    refine SKeys.all rfl <| SGet.none rfl ?_
    refine SZ.mk ((cntH 4 n r : Nat) : Int) (by simp [lst]) ?_
    refine SPos.mk 0 rfl (by decide) ?_
    refine SWrap.i64z ((0 * n : Nat) : Int) (by omega) (by omega) ?_
    refine SPos.mk 1 rfl (by decide) ?_
    refine SWrap.i64z ((0 * n : Nat) : Int) (by omega) (by omega) ?_
    refine SWrap.i64z ((0 : Nat) : Int) (by simp) (by omega) ?_
    refine SWrap.i64z ((0 * n + 0 : Nat) : Int) (by omega) (by omega) ?_
    refine SPos.mk 2 rfl (by decide) ?_
    refine SWrap.i64z ((cntH 4 n r : Nat) : Int) (by simp [cntA, cntB, cntH] <;> omega) (by have := cnt_le (k := 4) (r := r) n1 (show n ≤ 8 by omega) (show r ≤ 3 by omega); omega) ?_
    refine SCmp.no (neF rfl) ?_
    refine SWrap.i64z ((3 + 1 : Nat) : Int) (by omega) (by omega) ?_
    exact ⟨3 + 1, [0, 1], by decide, by decide, ⟨rfl, by simp, rfl, rfl, rfl, ⟨rfl, rfl, rfl, rfl, rfl, trivial⟩, ⟨rfl, rfl, trivial⟩⟩⟩
  · refine SCmp.no (rfl) ?_
    refine SLoop.mk Nat (fun i => ([(1, .bptr 0 0), (60, .p (.agg [ratsM (m 0) (lst (cntA 4 n) A), ratsM (m 1) (lst (cntB 4 n) B), ratsM (m 2) (lst (cntH 4 n r) G), ratsM (m 3) (lst (cntH 4 n r) H)])), (61, .p (.int .i64 i))], [.box 59 [.p (.int .i64 ((4 : Nat) : Int)), .p (.int .i64 (n : Int)), .p (.int .i64 (r : Int)), .p (ratsM (m 0) (lst (cntA 4 n) A)), .p (ratsM (m 1) (lst (cntB 4 n) B)), .p (ratsM (m 2) (lst (cntH 4 n r) G)), .p (ratsM (m 3) (lst (cntH 4 n r) H))], .box 189 [.p (ratsM (m 0) (lst (cntA 4 n) A)), .p (ratsM (m 1) (lst (cntB 4 n) B)), .p (ratsM (m 2) (lst (cntH 4 n r) G)), .p (ratsM (m 3) (lst (cntH 4 n r) H))]]))
      (fun i => i ≤ 4) (fun i => 4 - i) 0 [0, 1] (Nat.zero_le _) ⟨rfl, by simp, rfl, rfl, rfl, ⟨rfl, rfl, rfl, trivial⟩, ⟨rfl, rfl, trivial⟩⟩ ?_
    intro i hi
    have hi : i ≤ 4 := hi
    rcases (show i = 0 ∨ i = 1 ∨ i = 2 ∨ i = 3 ∨ i = 4 by omega) with rfl | rfl | rfl | rfl | rfl
    · refine SCmp.yes (rfl) ?_
      refine SIdx.mk 0 _ rfl rfl ?_
      refine SCall.pure (none1_ok (m 0) (lst (cntA 4 n) A) (fun i hi => by rw [lst_length] at hi; rw [lst_getD hi]; exact check1_ok _ ((h.bA i hi).mono (by omega))) (by rw [lst_length]; exact Nat.le_trans (cb 0) (by decide))) ?_
      refine SCond.mk (fun h => by cases h) (fun _ => ?_)
      refine SWrap.i64z ((0 + 1 : Nat) : Int) (by omega) (by omega) ?_
      exact ⟨0 + 1, [0, 1], by decide, by decide, ⟨rfl, by simp, rfl, rfl, rfl, ⟨rfl, rfl, rfl, trivial⟩, ⟨rfl, rfl, trivial⟩⟩⟩
    · refine SCmp.yes (rfl) ?_
      refine SIdx.mk 1 _ rfl rfl ?_
      refine SCall.pure (none1_ok (m 1) (lst (cntB 4 n) B) (fun i hi => by rw [lst_length] at hi; rw [lst_getD hi]; exact check1_ok _ ((h.bB i hi).mono (by omega))) (by rw [lst_length]; exact Nat.le_trans (cb 1) (by decide))) ?_
      refine SCond.mk (fun h => by cases h) (fun _ => ?_)
      refine SWrap.i64z ((1 + 1 : Nat) : Int) (by omega) (by omega) ?_
      exact ⟨1 + 1, [0, 1], by decide, by decide, ⟨rfl, by simp, rfl, rfl, rfl, ⟨rfl, rfl, rfl, trivial⟩, ⟨rfl, rfl, trivial⟩⟩⟩
    · refine SCmp.yes (rfl) ?_
      refine SIdx.mk 2 _ rfl rfl ?_
      refine SCall.pure (none1_ok (m 2) (lst (cntH 4 n r) G) (fun i hi => by rw [lst_length] at hi; rw [lst_getD hi]; exact check1_ok _ ((h.bG i hi).mono (by omega))) (by rw [lst_length]; exact Nat.le_trans (cb 2) (by decide))) ?_
      refine SCond.mk (fun h => by cases h) (fun _ => ?_)
      refine SWrap.i64z ((2 + 1 : Nat) : Int) (by omega) (by omega) ?_
      exact ⟨2 + 1, [0, 1], by decide, by decide, ⟨rfl, by simp, rfl, rfl, rfl, ⟨rfl, rfl, rfl, trivial⟩, ⟨rfl, rfl, trivial⟩⟩⟩
    · refine SCmp.yes (rfl) ?_
      refine SIdx.mk 3 _ rfl rfl ?_
      refine SCall.pure (none1_ok (m 3) (lst (cntH 4 n r) H) (fun i hi => by rw [lst_length] at hi; rw [lst_getD hi]; exact check1_ok _ ((h.bH i hi).mono (by omega))) (by rw [lst_length]; exact Nat.le_trans (cb 3) (by decide))) ?_
      refine SCond.mk (fun h => by cases h) (fun _ => ?_)
      refine SWrap.i64z ((3 + 1 : Nat) : Int) (by omega) (by omega) ?_
      exact ⟨3 + 1, [0, 1], by decide, by decide, ⟨rfl, by simp, rfl, rfl, rfl, ⟨rfl, rfl, rfl, trivial⟩, ⟨rfl, rfl, trivial⟩⟩⟩
    · refine SCmp.no (rfl) ?_
      refine SZ.mk ((cntA 4 n : Nat) : Int) (by simp [lst]) ?_
      refine SLoop.mk Nat (fun i => ([(1, .bptr 0 0), (68, .p (ratsM (m 0) (lst (cntA 4 n) A))), (69, .p (.int .i64 ((cntA 4 n : Nat) : Int))), (70, .p (.int .i64 i))], [.box 59 [.p (.int .i64 ((4 : Nat) : Int)), .p (.int .i64 (n : Int)), .p (.int .i64 (r : Int)), .p (ratsM (m 0) (lst (cntA 4 n) A)), .p (ratsM (m 1) (lst (cntB 4 n) B)), .p (ratsM (m 2) (lst (cntH 4 n r) G)), .p (ratsM (m 3) (lst (cntH 4 n r) H))], .box 189 [.p (ratsM (m 0) (lst (cntA 4 n) A)), .p (ratsM (m 1) (lst (cntB 4 n) B)), .p (ratsM (m 2) (lst (cntH 4 n r) G)), .p (ratsM (m 3) (lst (cntH 4 n r) H))]]))
        (fun i => i ≤ cntA 4 n) (fun i => cntA 4 n - i) 0 [0, 1] (Nat.zero_le _) ⟨rfl, by simp, rfl, rfl, rfl, ⟨rfl, rfl, rfl, rfl, trivial⟩, ⟨rfl, rfl, trivial⟩⟩ ?_
      intro i hi
      have hi : i ≤ cntA 4 n := hi
      have cA := cb 0
      by_cases hia : i < cntA 4 n
      · refine SCmp.yes (decide_eq_true (by omega)) ?_
        refine SIdx.rf i rfl hia ?_
        have hz := (h.bA i hia).mono (show b ≤ c by omega)
        have hc2 := none2_ok (m 1) true (A i) (lst (cntB 4 n) B) (fun j hj => by
          rw [lst_length] at hj; rw [lst_getD hj]
          have := check2_ok true (A i) (B j) hz (h.bB j hj) (by omega)
          rw [decide_eq_false (h.ne i j hia hj)] at this
          exact this) (by rw [lst_length]; exact Nat.le_trans (cb 1) (by decide))
        refine SCall.pure (pvs := [ratsM (m 1) (lst (cntB 4 n) B), .fn 189 [.pel true (ratP (A i))]]) hc2 ?_
        refine SCond.mk (fun h => by cases h) (fun _ => ?_)
        refine SWrap.i64z ((i + 1 : Nat) : Int) (by omega) (by omega) ?_
        exact ⟨i + 1, [0, 1], hia, by show cntA 4 n - (i + 1) < cntA 4 n - i; omega, ⟨rfl, by simp, rfl, rfl, rfl, ⟨rfl, rfl, rfl, rfl, trivial⟩, ⟨rfl, rfl, trivial⟩⟩⟩
      · refine SCmp.no (decide_eq_false (by omega)) ?_
        exact SRet.pure (.p _ (.int _ _))
theorem gcheck5_ok (m : Nat → Bool) (n r : Nat) (A B G H : Nat → Rat) {b c : Nat} (h : Wf ⟨5, n, r, A, B, G, H⟩ b c) : CallP Try.prog 150 [genP m ⟨5, n, r, A, B, G, H⟩] (.p (.int .i64 0)) [] := by
  have n6 : n ≤ 6 := h.n6
  have n1 : 1 ≤ n := h.n1
  have r2 : r ≤ 2 := h.r2
  have hnr : n * r ≤ 12 := Nat.mul_le_mul n6 r2
  have hc4 := h.c4
  have hbc := h.bc
  have cc := cnt_le (k := 5) (r := r) n1 (show n ≤ 8 by omega) (show r ≤ 3 by omega)
  have cb : ∀ i : Nat, (if i = 0 then cntA 5 n else if i = 1 then cntB 5 n else cntH 5 n r) ≤ 24 := fun i => by split <;> (try split) <;> omega
  show CallP Try.prog 150 [.agg [.int .i64 ((5 : Nat) : Int), .int .i64 (n : Int), .int .i64 (r : Int), ratsM (m 0) (lst (cntA 5 n) A), ratsM (m 1) (lst (cntB 5 n) B), ratsM (m 2) (lst (cntH 5 n r) G), ratsM (m 3) (lst (cntH 5 n r) H)]] (.p (.int .i64 0)) []
  refine callG_of_vc (wr := wr0) Γok mixed Try.func150 (by kernel_rfl) rfl (by kernel_rfl) (le_of_ble rfl) (by simp) ?_
  refine SCmp.no (decide_eq_false (by omega)) ?_
  refine SCmp.no (decide_eq_false (by omega)) ?_
  refine SCall.pure (sized_ok m ⟨5, n, r, A, B, G, H⟩ h) ?_
  refine SCmp.no (rfl) ?_
  refine SCall.lent [genP m ⟨5, n, r, A, B, G, H⟩] _ rfl (genrows_ok m ⟨5, n, r, A, B, G, H⟩) ?_
  refine SCall.pure (counts_ok) ?_
  refine SLoop.mk Nat (fun i => ([(1, .bptr 0 0), (3, .bptr 1 0), (4, .p (.mp false cntM)), (28, .p (.agg [ratsM (m 0) (lst (cntA 5 n) A), ratsM (m 1) (lst (cntB 5 n) B), ratsM (m 2) (lst (cntH 5 n r) G), ratsM (m 3) (lst (cntH 5 n r) H)])), (29, .p (.int .i64 i))], [.box 59 [.p (.int .i64 ((5 : Nat) : Int)), .p (.int .i64 (n : Int)), .p (.int .i64 (r : Int)), .p (ratsM (m 0) (lst (cntA 5 n) A)), .p (ratsM (m 1) (lst (cntB 5 n) B)), .p (ratsM (m 2) (lst (cntH 5 n r) G)), .p (ratsM (m 3) (lst (cntH 5 n r) H))], .box 189 [.p (ratsM (m 0) (lst (cntA 5 n) A)), .p (ratsM (m 1) (lst (cntB 5 n) B)), .p (ratsM (m 2) (lst (cntH 5 n r) G)), .p (ratsM (m 3) (lst (cntH 5 n r) H))]]))
    (fun i => i ≤ 4) (fun i => 4 - i) 0 [0, 1] (Nat.zero_le _) ⟨rfl, by simp, rfl, rfl, rfl, ⟨rfl, rfl, rfl, rfl, rfl, trivial⟩, ⟨rfl, rfl, trivial⟩⟩ ?_
  intro i hi
  have hi : i ≤ 4 := hi
  rcases (show i = 0 ∨ i = 1 ∨ i = 2 ∨ i = 3 ∨ i = 4 by omega) with rfl | rfl | rfl | rfl | rfl
  · refine SCmp.yes (rfl) ?_
    refine SIdx.mk 0 _ rfl rfl ?_
    refine SKeys.all rfl <| SGet.at 4 _ rfl rfl rfl ?_
    refine SZ.mk ((cntA 5 n : Nat) : Int) (by simp [lst]) ?_
    refine SPos.mk 0 rfl (by decide) ?_
    refine SWrap.i64z ((1 * n : Nat) : Int) (by omega) (by omega) ?_
    refine SPos.mk 1 rfl (by decide) ?_
    refine SWrap.i64z ((0 * n : Nat) : Int) (by omega) (by omega) ?_
    refine SWrap.i64z ((0 : Nat) : Int) (by simp) (by omega) ?_
    refine SWrap.i64z ((1 * n + 0 : Nat) : Int) (by omega) (by omega) ?_
    refine SPos.mk 2 rfl (by decide) ?_
    refine SWrap.i64z ((cntA 5 n : Nat) : Int) (by simp [cntA, cntB, cntH] <;> omega) (by have := cnt_le (k := 5) (r := r) n1 (show n ≤ 8 by omega) (show r ≤ 3 by omega); omega) ?_
    refine SCmp.no (neF rfl) ?_
    refine SWrap.i64z ((0 + 1 : Nat) : Int) (by omega) (by omega) ?_
    exact ⟨0 + 1, [0, 1], by decide, by decide, ⟨rfl, by simp, rfl, rfl, rfl, ⟨rfl, rfl, rfl, rfl, rfl, trivial⟩, ⟨rfl, rfl, trivial⟩⟩⟩
  · refine SCmp.yes (rfl) ?_
    refine SIdx.mk 1 _ rfl rfl ?_
    refine SKeys.all rfl <| SGet.at 5 _ rfl rfl rfl ?_
    refine SZ.mk ((cntB 5 n : Nat) : Int) (by simp [lst]) ?_
    refine SPos.mk 0 rfl (by decide) ?_
    refine SWrap.i64z ((1 * n : Nat) : Int) (by omega) (by omega) ?_
    refine SPos.mk 1 rfl (by decide) ?_
    refine SWrap.i64z ((0 * n : Nat) : Int) (by omega) (by omega) ?_
    refine SWrap.i64z ((0 : Nat) : Int) (by simp) (by omega) ?_
    refine SWrap.i64z ((1 * n + 0 : Nat) : Int) (by omega) (by omega) ?_
    refine SPos.mk 2 rfl (by decide) ?_
    refine SWrap.i64z ((cntB 5 n : Nat) : Int) (by simp [cntA, cntB, cntH] <;> omega) (by have := cnt_le (k := 5) (r := r) n1 (show n ≤ 8 by omega) (show r ≤ 3 by omega); omega) ?_
    refine SCmp.no (neF rfl) ?_
    refine SWrap.i64z ((1 + 1 : Nat) : Int) (by omega) (by omega) ?_
    exact ⟨1 + 1, [0, 1], by decide, by decide, ⟨rfl, by simp, rfl, rfl, rfl, ⟨rfl, rfl, rfl, rfl, rfl, trivial⟩, ⟨rfl, rfl, trivial⟩⟩⟩
  · refine SCmp.yes (rfl) ?_
    refine SIdx.mk 2 _ rfl rfl ?_
    refine SKeys.all rfl <| SGet.none rfl ?_
    refine SZ.mk ((cntH 5 n r : Nat) : Int) (by simp [lst]) ?_
    refine SPos.mk 0 rfl (by decide) ?_
    refine SWrap.i64z ((0 * n : Nat) : Int) (by omega) (by omega) ?_
    refine SPos.mk 1 rfl (by decide) ?_
    refine SWrap.i64z ((0 * n : Nat) : Int) (by omega) (by omega) ?_
    refine SWrap.i64z ((0 : Nat) : Int) (by simp) (by omega) ?_
    refine SWrap.i64z ((0 * n + 0 : Nat) : Int) (by omega) (by omega) ?_
    refine SPos.mk 2 rfl (by decide) ?_
    refine SWrap.i64z ((cntH 5 n r : Nat) : Int) (by simp [cntA, cntB, cntH] <;> omega) (by have := cnt_le (k := 5) (r := r) n1 (show n ≤ 8 by omega) (show r ≤ 3 by omega); omega) ?_
    refine SCmp.no (neF rfl) ?_
    refine SWrap.i64z ((2 + 1 : Nat) : Int) (by omega) (by omega) ?_
    exact ⟨2 + 1, [0, 1], by decide, by decide, ⟨rfl, by simp, rfl, rfl, rfl, ⟨rfl, rfl, rfl, rfl, rfl, trivial⟩, ⟨rfl, rfl, trivial⟩⟩⟩
  · refine SCmp.yes (rfl) ?_
    refine SIdx.mk 3 _ rfl rfl ?_
    refine SKeys.all rfl <| SGet.none rfl ?_
    refine SZ.mk ((cntH 5 n r : Nat) : Int) (by simp [lst]) ?_
    refine SPos.mk 0 rfl (by decide) ?_
    refine SWrap.i64z ((0 * n : Nat) : Int) (by omega) (by omega) ?_
    refine SPos.mk 1 rfl (by decide) ?_
    refine SWrap.i64z ((0 * n : Nat) : Int) (by omega) (by omega) ?_
    refine SWrap.i64z ((0 : Nat) : Int) (by simp) (by omega) ?_
    refine SWrap.i64z ((0 * n + 0 : Nat) : Int) (by omega) (by omega) ?_
    refine SPos.mk 2 rfl (by decide) ?_
    refine SWrap.i64z ((cntH 5 n r : Nat) : Int) (by simp [cntA, cntB, cntH] <;> omega) (by have := cnt_le (k := 5) (r := r) n1 (show n ≤ 8 by omega) (show r ≤ 3 by omega); omega) ?_
    refine SCmp.no (neF rfl) ?_
    refine SWrap.i64z ((3 + 1 : Nat) : Int) (by omega) (by omega) ?_
    exact ⟨3 + 1, [0, 1], by decide, by decide, ⟨rfl, by simp, rfl, rfl, rfl, ⟨rfl, rfl, rfl, rfl, rfl, trivial⟩, ⟨rfl, rfl, trivial⟩⟩⟩
  · refine SCmp.no (rfl) ?_
    refine SLoop.mk Nat (fun i => ([(1, .bptr 0 0), (60, .p (.agg [ratsM (m 0) (lst (cntA 5 n) A), ratsM (m 1) (lst (cntB 5 n) B), ratsM (m 2) (lst (cntH 5 n r) G), ratsM (m 3) (lst (cntH 5 n r) H)])), (61, .p (.int .i64 i))], [.box 59 [.p (.int .i64 ((5 : Nat) : Int)), .p (.int .i64 (n : Int)), .p (.int .i64 (r : Int)), .p (ratsM (m 0) (lst (cntA 5 n) A)), .p (ratsM (m 1) (lst (cntB 5 n) B)), .p (ratsM (m 2) (lst (cntH 5 n r) G)), .p (ratsM (m 3) (lst (cntH 5 n r) H))], .box 189 [.p (ratsM (m 0) (lst (cntA 5 n) A)), .p (ratsM (m 1) (lst (cntB 5 n) B)), .p (ratsM (m 2) (lst (cntH 5 n r) G)), .p (ratsM (m 3) (lst (cntH 5 n r) H))]]))
      (fun i => i ≤ 4) (fun i => 4 - i) 0 [0, 1] (Nat.zero_le _) ⟨rfl, by simp, rfl, rfl, rfl, ⟨rfl, rfl, rfl, trivial⟩, ⟨rfl, rfl, trivial⟩⟩ ?_
    intro i hi
    have hi : i ≤ 4 := hi
    rcases (show i = 0 ∨ i = 1 ∨ i = 2 ∨ i = 3 ∨ i = 4 by omega) with rfl | rfl | rfl | rfl | rfl
    · refine SCmp.yes (rfl) ?_
      refine SIdx.mk 0 _ rfl rfl ?_
      refine SCall.pure (none1_ok (m 0) (lst (cntA 5 n) A) (fun i hi => by rw [lst_length] at hi; rw [lst_getD hi]; exact check1_ok _ ((h.bA i hi).mono (by omega))) (by rw [lst_length]; exact Nat.le_trans (cb 0) (by decide))) ?_
      refine SCond.mk (fun h => by cases h) (fun _ => ?_)
      refine SWrap.i64z ((0 + 1 : Nat) : Int) (by omega) (by omega) ?_
      exact ⟨0 + 1, [0, 1], by decide, by decide, ⟨rfl, by simp, rfl, rfl, rfl, ⟨rfl, rfl, rfl, trivial⟩, ⟨rfl, rfl, trivial⟩⟩⟩
    · refine SCmp.yes (rfl) ?_
      refine SIdx.mk 1 _ rfl rfl ?_
      refine SCall.pure (none1_ok (m 1) (lst (cntB 5 n) B) (fun i hi => by rw [lst_length] at hi; rw [lst_getD hi]; exact check1_ok _ ((h.bB i hi).mono (by omega))) (by rw [lst_length]; exact Nat.le_trans (cb 1) (by decide))) ?_
      refine SCond.mk (fun h => by cases h) (fun _ => ?_)
      refine SWrap.i64z ((1 + 1 : Nat) : Int) (by omega) (by omega) ?_
      exact ⟨1 + 1, [0, 1], by decide, by decide, ⟨rfl, by simp, rfl, rfl, rfl, ⟨rfl, rfl, rfl, trivial⟩, ⟨rfl, rfl, trivial⟩⟩⟩
    · refine SCmp.yes (rfl) ?_
      refine SIdx.mk 2 _ rfl rfl ?_
      refine SCall.pure (none1_ok (m 2) (lst (cntH 5 n r) G) (fun i hi => by rw [lst_length] at hi; rw [lst_getD hi]; exact check1_ok _ ((h.bG i hi).mono (by omega))) (by rw [lst_length]; exact Nat.le_trans (cb 2) (by decide))) ?_
      refine SCond.mk (fun h => by cases h) (fun _ => ?_)
      refine SWrap.i64z ((2 + 1 : Nat) : Int) (by omega) (by omega) ?_
      exact ⟨2 + 1, [0, 1], by decide, by decide, ⟨rfl, by simp, rfl, rfl, rfl, ⟨rfl, rfl, rfl, trivial⟩, ⟨rfl, rfl, trivial⟩⟩⟩
    · refine SCmp.yes (rfl) ?_
      refine SIdx.mk 3 _ rfl rfl ?_
      refine SCall.pure (none1_ok (m 3) (lst (cntH 5 n r) H) (fun i hi => by rw [lst_length] at hi; rw [lst_getD hi]; exact check1_ok _ ((h.bH i hi).mono (by omega))) (by rw [lst_length]; exact Nat.le_trans (cb 3) (by decide))) ?_
      refine SCond.mk (fun h => by cases h) (fun _ => ?_)
      refine SWrap.i64z ((3 + 1 : Nat) : Int) (by omega) (by omega) ?_
      exact ⟨3 + 1, [0, 1], by decide, by decide, ⟨rfl, by simp, rfl, rfl, rfl, ⟨rfl, rfl, rfl, trivial⟩, ⟨rfl, rfl, trivial⟩⟩⟩
    · refine SCmp.no (rfl) ?_
      refine SZ.mk ((cntA 5 n : Nat) : Int) (by simp [lst]) ?_
      refine SLoop.mk Nat (fun i => ([(1, .bptr 0 0), (68, .p (ratsM (m 0) (lst (cntA 5 n) A))), (69, .p (.int .i64 ((cntA 5 n : Nat) : Int))), (70, .p (.int .i64 i))], [.box 59 [.p (.int .i64 ((5 : Nat) : Int)), .p (.int .i64 (n : Int)), .p (.int .i64 (r : Int)), .p (ratsM (m 0) (lst (cntA 5 n) A)), .p (ratsM (m 1) (lst (cntB 5 n) B)), .p (ratsM (m 2) (lst (cntH 5 n r) G)), .p (ratsM (m 3) (lst (cntH 5 n r) H))], .box 189 [.p (ratsM (m 0) (lst (cntA 5 n) A)), .p (ratsM (m 1) (lst (cntB 5 n) B)), .p (ratsM (m 2) (lst (cntH 5 n r) G)), .p (ratsM (m 3) (lst (cntH 5 n r) H))]]))
        (fun i => i ≤ cntA 5 n) (fun i => cntA 5 n - i) 0 [0, 1] (Nat.zero_le _) ⟨rfl, by simp, rfl, rfl, rfl, ⟨rfl, rfl, rfl, rfl, trivial⟩, ⟨rfl, rfl, trivial⟩⟩ ?_
      intro i hi
      have hi : i ≤ cntA 5 n := hi
      have cA := cb 0
      by_cases hia : i < cntA 5 n
      · refine SCmp.yes (decide_eq_true (by omega)) ?_
        refine SIdx.rf i rfl hia ?_
        have hz := (h.bA i hia).mono (show b ≤ c by omega)
        have hc2 := none2_ok (m 1) true (A i) (lst (cntB 5 n) B) (fun j hj => by
          rw [lst_length] at hj; rw [lst_getD hj]
          have := check2_ok true (A i) (B j) hz (h.bB j hj) (by omega)
          rw [decide_eq_false (h.ne i j hia hj)] at this
          exact this) (by rw [lst_length]; exact Nat.le_trans (cb 1) (by decide))
        refine SCall.pure (pvs := [ratsM (m 1) (lst (cntB 5 n) B), .fn 189 [.pel true (ratP (A i))]]) hc2 ?_
        refine SCond.mk (fun h => by cases h) (fun _ => ?_)
        refine SWrap.i64z ((i + 1 : Nat) : Int) (by omega) (by omega) ?_
        exact ⟨i + 1, [0, 1], hia, by show cntA 5 n - (i + 1) < cntA 5 n - i; omega, ⟨rfl, by simp, rfl, rfl, rfl, ⟨rfl, rfl, rfl, rfl, trivial⟩, ⟨rfl, rfl, trivial⟩⟩⟩
      · refine SCmp.no (decide_eq_false (by omega)) ?_
        exact SRet.pure (.p _ (.int _ _))
theorem gcheck6_ok (m : Nat → Bool) (n r : Nat) (A B G H : Nat → Rat) {b c : Nat} (h : Wf ⟨6, n, r, A, B, G, H⟩ b c) : CallP Try.prog 150 [genP m ⟨6, n, r, A, B, G, H⟩] (.p (.int .i64 0)) [] := by
  have n6 : n ≤ 6 := h.n6
  have n1 : 1 ≤ n := h.n1
  have r2 : r ≤ 2 := h.r2
  have hnr : n * r ≤ 12 := Nat.mul_le_mul n6 r2
  have hc4 := h.c4
  have hbc := h.bc
  have cc := cnt_le (k := 6) (r := r) n1 (show n ≤ 8 by omega) (show r ≤ 3 by omega)
  have cb : ∀ i : Nat, (if i = 0 then cntA 6 n else if i = 1 then cntB 6 n else cntH 6 n r) ≤ 24 := fun i => by split <;> (try split) <;> omega
  show CallP Try.prog 150 [.agg [.int .i64 ((6 : Nat) : Int), .int .i64 (n : Int), .int .i64 (r : Int), ratsM (m 0) (lst (cntA 6 n) A), ratsM (m 1) (lst (cntB 6 n) B), ratsM (m 2) (lst (cntH 6 n r) G), ratsM (m 3) (lst (cntH 6 n r) H)]] (.p (.int .i64 0)) []
  refine callG_of_vc (wr := wr0) Γok mixed Try.func150 (by kernel_rfl) rfl (by kernel_rfl) (le_of_ble rfl) (by simp) ?_
  refine SCmp.no (decide_eq_false (by omega)) ?_
  refine SCmp.no (decide_eq_false (by omega)) ?_
  refine SCall.pure (sized_ok m ⟨6, n, r, A, B, G, H⟩ h) ?_
  refine SCmp.no (rfl) ?_
  refine SCall.lent [genP m ⟨6, n, r, A, B, G, H⟩] _ rfl (genrows_ok m ⟨6, n, r, A, B, G, H⟩) ?_
  refine SCall.pure (counts_ok) ?_
  refine SLoop.mk Nat (fun i => ([(1, .bptr 0 0), (3, .bptr 1 0), (4, .p (.mp false cntM)), (28, .p (.agg [ratsM (m 0) (lst (cntA 6 n) A), ratsM (m 1) (lst (cntB 6 n) B), ratsM (m 2) (lst (cntH 6 n r) G), ratsM (m 3) (lst (cntH 6 n r) H)])), (29, .p (.int .i64 i))], [.box 59 [.p (.int .i64 ((6 : Nat) : Int)), .p (.int .i64 (n : Int)), .p (.int .i64 (r : Int)), .p (ratsM (m 0) (lst (cntA 6 n) A)), .p (ratsM (m 1) (lst (cntB 6 n) B)), .p (ratsM (m 2) (lst (cntH 6 n r) G)), .p (ratsM (m 3) (lst (cntH 6 n r) H))], .box 189 [.p (ratsM (m 0) (lst (cntA 6 n) A)), .p (ratsM (m 1) (lst (cntB 6 n) B)), .p (ratsM (m 2) (lst (cntH 6 n r) G)), .p (ratsM (m 3) (lst (cntH 6 n r) H))]]))
    (fun i => i ≤ 4) (fun i => 4 - i) 0 [0, 1] (Nat.zero_le _) ⟨rfl, by simp, rfl, rfl, rfl, ⟨rfl, rfl, rfl, rfl, rfl, trivial⟩, ⟨rfl, rfl, trivial⟩⟩ ?_
  intro i hi
  have hi : i ≤ 4 := hi
  rcases (show i = 0 ∨ i = 1 ∨ i = 2 ∨ i = 3 ∨ i = 4 by omega) with rfl | rfl | rfl | rfl | rfl
  · refine SCmp.yes (rfl) ?_
    refine SIdx.mk 0 _ rfl rfl ?_
    refine SKeys.all rfl <| SGet.none rfl ?_
    refine SZ.mk ((cntA 6 n : Nat) : Int) (by simp [lst]) ?_
    refine SPos.mk 0 rfl (by decide) ?_
    refine SWrap.i64z ((0 * n : Nat) : Int) (by omega) (by omega) ?_
    refine SPos.mk 1 rfl (by decide) ?_
    refine SWrap.i64z ((0 * n : Nat) : Int) (by omega) (by omega) ?_
    refine SWrap.i64z ((0 : Nat) : Int) (by simp) (by omega) ?_
    refine SWrap.i64z ((0 * n + 0 : Nat) : Int) (by omega) (by omega) ?_
    refine SPos.mk 2 rfl (by decide) ?_
    refine SWrap.i64z ((cntA 6 n : Nat) : Int) (by simp [cntA, cntB, cntH] <;> omega) (by have := cnt_le (k := 6) (r := r) n1 (show n ≤ 8 by omega) (show r ≤ 3 by omega); omega) ?_
    refine SCmp.no (neF rfl) ?_
    refine SWrap.i64z ((0 + 1 : Nat) : Int) (by omega) (by omega) ?_
    exact ⟨0 + 1, [0, 1], by decide, by decide, ⟨rfl, by simp, rfl, rfl, rfl, ⟨rfl, rfl, rfl, rfl, rfl, trivial⟩, ⟨rfl, rfl, trivial⟩⟩⟩
  · refine SCmp.yes (rfl) ?_
    refine SIdx.mk 1 _ rfl rfl ?_
    refine SKeys.all rfl <| SGet.none rfl ?_
    refine SZ.mk ((cntB 6 n : Nat) : Int) (by simp [lst]) ?_
    refine SPos.mk 0 rfl (by decide) ?_
    refine SWrap.i64z ((0 * n : Nat) : Int) (by omega) (by omega) ?_
    refine SPos.mk 1 rfl (by decide) ?_
    refine SWrap.i64z ((0 * n : Nat) : Int) (by omega) (by omega) ?_
    refine SWrap.i64z ((0 : Nat) : Int) (by simp) (by omega) ?_
    refine SWrap.i64z ((0 * n + 0 : Nat) : Int) (by omega) (by omega) ?_
    refine SPos.mk 2 rfl (by decide) ?_
    refine SWrap.i64z ((cntB 6 n : Nat) : Int) (by simp [cntA, cntB, cntH] <;> omega) (by have := cnt_le (k := 6) (r := r) n1 (show n ≤ 8 by omega) (show r ≤ 3 by omega); omega) ?_
    refine SCmp.no (neF rfl) ?_
    refine SWrap.i64z ((1 + 1 : Nat) : Int) (by omega) (by omega) ?_
    exact ⟨1 + 1, [0, 1], by decide, by decide, ⟨rfl, by simp, rfl, rfl, rfl, ⟨rfl, rfl, rfl, rfl, rfl, trivial⟩, ⟨rfl, rfl, trivial⟩⟩⟩
  · refine SCmp.yes (rfl) ?_
    refine SIdx.mk 2 _ rfl rfl ?_
    refine SKeys.all rfl <| SGet.at 6 _ rfl rfl rfl ?_
    refine SZ.mk ((cntH 6 n r : Nat) : Int) (by simp [lst]) ?_
    refine SPos.mk 0 rfl (by decide) ?_
    refine SWrap.i64z ((0 * n : Nat) : Int) (by omega) (by omega) ?_
    refine SPos.mk 1 rfl (by decide) ?_
    refine SWrap.i64z ((1 * n : Nat) : Int) (by omega) (by omega) ?_
    refine SWrap.i64z ((n * r : Nat) : Int) (by rw [Int.natCast_mul]; simp) (by omega) ?_
    refine SWrap.i64z ((0 * n + n * r : Nat) : Int) (by omega) (by omega) ?_
    refine SPos.mk 2 rfl (by decide) ?_
    refine SWrap.i64z ((cntH 6 n r : Nat) : Int) (by simp [cntA, cntB, cntH] <;> omega) (by have := cnt_le (k := 6) (r := r) n1 (show n ≤ 8 by omega) (show r ≤ 3 by omega); omega) ?_
    refine SCmp.no (neF rfl) ?_
    refine SWrap.i64z ((2 + 1 : Nat) : Int) (by omega) (by omega) ?_
    exact ⟨2 + 1, [0, 1], by decide, by decide, ⟨rfl, by simp, rfl, rfl, rfl, ⟨rfl, rfl, rfl, rfl, rfl, trivial⟩, ⟨rfl, rfl, trivial⟩⟩⟩
  · refine SCmp.yes (rfl) ?_
    refine SIdx.mk 3 _ rfl rfl ?_
    refine SKeys.all rfl <| SGet.at 7 _ rfl rfl rfl ?_
    refine SZ.mk ((cntH 6 n r : Nat) : Int) (by simp [lst]) ?_
    refine SPos.mk 0 rfl (by decide) ?_
    refine SWrap.i64z ((0 * n : Nat) : Int) (by omega) (by omega) ?_
    refine SPos.mk 1 rfl (by decide) ?_
    refine SWrap.i64z ((1 * n : Nat) : Int) (by omega) (by omega) ?_
    refine SWrap.i64z ((n * r : Nat) : Int) (by rw [Int.natCast_mul]; simp) (by omega) ?_
    refine SWrap.i64z ((0 * n + n * r : Nat) : Int) (by omega) (by omega) ?_
    refine SPos.mk 2 rfl (by decide) ?_
    refine SWrap.i64z ((cntH 6 n r : Nat) : Int) (by simp [cntA, cntB, cntH] <;> omega) (by have := cnt_le (k := 6) (r := r) n1 (show n ≤ 8 by omega) (show r ≤ 3 by omega); omega) ?_
    refine SCmp.no (neF rfl) ?_
    refine SWrap.i64z ((3 + 1 : Nat) : Int) (by omega) (by omega) ?_
    exact ⟨3 + 1, [0, 1], by decide, by decide, ⟨rfl, by simp, rfl, rfl, rfl, ⟨rfl, rfl, rfl, rfl, rfl, trivial⟩, ⟨rfl, rfl, trivial⟩⟩⟩
  · refine SCmp.no (rfl) ?_
    refine SLoop.mk Nat (fun i => ([(1, .bptr 0 0), (60, .p (.agg [ratsM (m 0) (lst (cntA 6 n) A), ratsM (m 1) (lst (cntB 6 n) B), ratsM (m 2) (lst (cntH 6 n r) G), ratsM (m 3) (lst (cntH 6 n r) H)])), (61, .p (.int .i64 i))], [.box 59 [.p (.int .i64 ((6 : Nat) : Int)), .p (.int .i64 (n : Int)), .p (.int .i64 (r : Int)), .p (ratsM (m 0) (lst (cntA 6 n) A)), .p (ratsM (m 1) (lst (cntB 6 n) B)), .p (ratsM (m 2) (lst (cntH 6 n r) G)), .p (ratsM (m 3) (lst (cntH 6 n r) H))], .box 189 [.p (ratsM (m 0) (lst (cntA 6 n) A)), .p (ratsM (m 1) (lst (cntB 6 n) B)), .p (ratsM (m 2) (lst (cntH 6 n r) G)), .p (ratsM (m 3) (lst (cntH 6 n r) H))]]))
      (fun i => i ≤ 4) (fun i => 4 - i) 0 [0, 1] (Nat.zero_le _) ⟨rfl, by simp, rfl, rfl, rfl, ⟨rfl, rfl, rfl, trivial⟩, ⟨rfl, rfl, trivial⟩⟩ ?_
    intro i hi
    have hi : i ≤ 4 := hi
    rcases (show i = 0 ∨ i = 1 ∨ i = 2 ∨ i = 3 ∨ i = 4 by omega) with rfl | rfl | rfl | rfl | rfl
    · refine SCmp.yes (rfl) ?_
      refine SIdx.mk 0 _ rfl rfl ?_
      refine SCall.pure (none1_ok (m 0) (lst (cntA 6 n) A) (fun i hi => by rw [lst_length] at hi; rw [lst_getD hi]; exact check1_ok _ ((h.bA i hi).mono (by omega))) (by rw [lst_length]; exact Nat.le_trans (cb 0) (by decide))) ?_
      refine SCond.mk (fun h => by cases h) (fun _ => ?_)
      refine SWrap.i64z ((0 + 1 : Nat) : Int) (by omega) (by omega) ?_
      exact ⟨0 + 1, [0, 1], by decide, by decide, ⟨rfl, by simp, rfl, rfl, rfl, ⟨rfl, rfl, rfl, trivial⟩, ⟨rfl, rfl, trivial⟩⟩⟩
    · refine SCmp.yes (rfl) ?_
      refine SIdx.mk 1 _ rfl rfl ?_
      refine SCall.pure (none1_ok (m 1) (lst (cntB 6 n) B) (fun i hi => by rw [lst_length] at hi; rw [lst_getD hi]; exact check1_ok _ ((h.bB i hi).mono (by omega))) (by rw [lst_length]; exact Nat.le_trans (cb 1) (by decide))) ?_
      refine SCond.mk (fun h => by cases h) (fun _ => ?_)
      refine SWrap.i64z ((1 + 1 : Nat) : Int) (by omega) (by omega) ?_
      exact ⟨1 + 1, [0, 1], by decide, by decide, ⟨rfl, by simp, rfl, rfl, rfl, ⟨rfl, rfl, rfl, trivial⟩, ⟨rfl, rfl, trivial⟩⟩⟩
    · refine SCmp.yes (rfl) ?_
      refine SIdx.mk 2 _ rfl rfl ?_
      refine SCall.pure (none1_ok (m 2) (lst (cntH 6 n r) G) (fun i hi => by rw [lst_length] at hi; rw [lst_getD hi]; exact check1_ok _ ((h.bG i hi).mono (by omega))) (by rw [lst_length]; exact Nat.le_trans (cb 2) (by decide))) ?_
      refine SCond.mk (fun h => by cases h) (fun _ => ?_)
      refine SWrap.i64z ((2 + 1 : Nat) : Int) (by omega) (by omega) ?_
      exact ⟨2 + 1, [0, 1], by decide, by decide, ⟨rfl, by simp, rfl, rfl, rfl, ⟨rfl, rfl, rfl, trivial⟩, ⟨rfl, rfl, trivial⟩⟩⟩
    · refine SCmp.yes (rfl) ?_
      refine SIdx.mk 3 _ rfl rfl ?_
      refine SCall.pure (none1_ok (m 3) (lst (cntH 6 n r) H) (fun i hi => by rw [lst_length] at hi; rw [lst_getD hi]; exact check1_ok _ ((h.bH i hi).mono (by omega))) (by rw [lst_length]; exact Nat.le_trans (cb 3) (by decide))) ?_
      refine SCond.mk (fun h => by cases h) (fun _ => ?_)
      refine SWrap.i64z ((3 + 1 : Nat) : Int) (by omega) (by omega) ?_
      exact ⟨3 + 1, [0, 1], by decide, by decide, ⟨rfl, by simp, rfl, rfl, rfl, ⟨rfl, rfl, rfl, trivial⟩, ⟨rfl, rfl, trivial⟩⟩⟩
    · refine SCmp.no (rfl) ?_
      refine SZ.mk ((cntA 6 n : Nat) : Int) (by simp [lst]) ?_
      refine SLoop.mk Nat (fun i => ([(1, .bptr 0 0), (68, .p (ratsM (m 0) (lst (cntA 6 n) A))), (69, .p (.int .i64 ((cntA 6 n : Nat) : Int))), (70, .p (.int .i64 i))], [.box 59 [.p (.int .i64 ((6 : Nat) : Int)), .p (.int .i64 (n : Int)), .p (.int .i64 (r : Int)), .p (ratsM (m 0) (lst (cntA 6 n) A)), .p (ratsM (m 1) (lst (cntB 6 n) B)), .p (ratsM (m 2) (lst (cntH 6 n r) G)), .p (ratsM (m 3) (lst (cntH 6 n r) H))], .box 189 [.p (ratsM (m 0) (lst (cntA 6 n) A)), .p (ratsM (m 1) (lst (cntB 6 n) B)), .p (ratsM (m 2) (lst (cntH 6 n r) G)), .p (ratsM (m 3) (lst (cntH 6 n r) H))]]))
        (fun i => i ≤ cntA 6 n) (fun i => cntA 6 n - i) 0 [0, 1] (Nat.zero_le _) ⟨rfl, by simp, rfl, rfl, rfl, ⟨rfl, rfl, rfl, rfl, trivial⟩, ⟨rfl, rfl, trivial⟩⟩ ?_
      intro i hi
      have hi : i ≤ cntA 6 n := hi
      have cA := cb 0
      by_cases hia : i < cntA 6 n
      · refine SCmp.yes (decide_eq_true (by omega)) ?_
        refine SIdx.rf i rfl hia ?_
        have hz := (h.bA i hia).mono (show b ≤ c by omega)
        have hc2 := none2_ok (m 1) true (A i) (lst (cntB 6 n) B) (fun j hj => by
          rw [lst_length] at hj; rw [lst_getD hj]
          have := check2_ok true (A i) (B j) hz (h.bB j hj) (by omega)
          rw [decide_eq_false (h.ne i j hia hj)] at this
          exact this) (by rw [lst_length]; exact Nat.le_trans (cb 1) (by decide))
        refine SCall.pure (pvs := [ratsM (m 1) (lst (cntB 6 n) B), .fn 189 [.pel true (ratP (A i))]]) hc2 ?_
        refine SCond.mk (fun h => by cases h) (fun _ => ?_)
        refine SWrap.i64z ((i + 1 : Nat) : Int) (by omega) (by omega) ?_
        exact ⟨i + 1, [0, 1], hia, by show cntA 6 n - (i + 1) < cntA 6 n - i; omega, ⟨rfl, by simp, rfl, rfl, rfl, ⟨rfl, rfl, rfl, rfl, trivial⟩, ⟨rfl, rfl, trivial⟩⟩⟩
      · refine SCmp.no (decide_eq_false (by omega)) ?_
        exact SRet.pure (.p _ (.int _ _))
theorem gcheck7_ok (m : Nat → Bool) (n r : Nat) (A B G H : Nat → Rat) {b c : Nat} (h : Wf ⟨7, n, r, A, B, G, H⟩ b c) : CallP Try.prog 150 [genP m ⟨7, n, r, A, B, G, H⟩] (.p (.int .i64 0)) [] := by
  have n6 : n ≤ 6 := h.n6
  have n1 : 1 ≤ n := h.n1
  have r2 : r ≤ 2 := h.r2
  have hnr : n * r ≤ 12 := Nat.mul_le_mul n6 r2
  have hc4 := h.c4
  have hbc := h.bc
  have cc := cnt_le (k := 7) (r := r) n1 (show n ≤ 8 by omega) (show r ≤ 3 by omega)
  have cb : ∀ i : Nat, (if i = 0 then cntA 7 n else if i = 1 then cntB 7 n else cntH 7 n r) ≤ 24 := fun i => by split <;> (try split) <;> omega
  show CallP Try.prog 150 [.agg [.int .i64 ((7 : Nat) : Int), .int .i64 (n : Int), .int .i64 (r : Int), ratsM (m 0) (lst (cntA 7 n) A), ratsM (m 1) (lst (cntB 7 n) B), ratsM (m 2) (lst (cntH 7 n r) G), ratsM (m 3) (lst (cntH 7 n r) H)]] (.p (.int .i64 0)) []
  refine callG_of_vc (wr := wr0) Γok mixed Try.func150 (by kernel_rfl) rfl (by kernel_rfl) (le_of_ble rfl) (by simp) ?_
  refine SCmp.no (decide_eq_false (by omega)) ?_
  refine SCmp.no (decide_eq_false (by omega)) ?_
  refine SCall.pure (sized_ok m ⟨7, n, r, A, B, G, H⟩ h) ?_
  refine SCmp.no (rfl) ?_
  refine SCall.lent [genP m ⟨7, n, r, A, B, G, H⟩] _ rfl (genrows_ok m ⟨7, n, r, A, B, G, H⟩) ?_
  refine SCall.pure (counts_ok) ?_
  refine SLoop.mk Nat (fun i => ([(1, .bptr 0 0), (3, .bptr 1 0), (4, .p (.mp false cntM)), (28, .p (.agg [ratsM (m 0) (lst (cntA 7 n) A), ratsM (m 1) (lst (cntB 7 n) B), ratsM (m 2) (lst (cntH 7 n r) G), ratsM (m 3) (lst (cntH 7 n r) H)])), (29, .p (.int .i64 i))], [.box 59 [.p (.int .i64 ((7 : Nat) : Int)), .p (.int .i64 (n : Int)), .p (.int .i64 (r : Int)), .p (ratsM (m 0) (lst (cntA 7 n) A)), .p (ratsM (m 1) (lst (cntB 7 n) B)), .p (ratsM (m 2) (lst (cntH 7 n r) G)), .p (ratsM (m 3) (lst (cntH 7 n r) H))], .box 189 [.p (ratsM (m 0) (lst (cntA 7 n) A)), .p (ratsM (m 1) (lst (cntB 7 n) B)), .p (ratsM (m 2) (lst (cntH 7 n r) G)), .p (ratsM (m 3) (lst (cntH 7 n r) H))]]))
    (fun i => i ≤ 4) (fun i => 4 - i) 0 [0, 1] (Nat.zero_le _) ⟨rfl, by simp, rfl, rfl, rfl, ⟨rfl, rfl, rfl, rfl, rfl, trivial⟩, ⟨rfl, rfl, trivial⟩⟩ ?_
  intro i hi
  have hi : i ≤ 4 := hi
  rcases (show i = 0 ∨ i = 1 ∨ i = 2 ∨ i = 3 ∨ i = 4 by omega) with rfl | rfl | rfl | rfl | rfl
  · refine SCmp.yes (rfl) ?_
    refine SIdx.mk 0 _ rfl rfl ?_
    refine SKeys.all rfl <| SGet.at 8 _ rfl rfl rfl ?_
    refine SZ.mk ((cntA 7 n : Nat) : Int) (by simp [lst]) ?_
    refine SPos.mk 0 rfl (by decide) ?_
    refine SWrap.i64z ((1 * n : Nat) : Int) (by omega) (by omega) ?_
    refine SPos.mk 1 rfl (by decide) ?_
    refine SWrap.i64z ((0 * n : Nat) : Int) (by omega) (by omega) ?_
    refine SWrap.i64z ((0 : Nat) : Int) (by simp) (by omega) ?_
    refine SWrap.i64z ((1 * n + 0 : Nat) : Int) (by omega) (by omega) ?_
    refine SPos.mk 2 rfl (by decide) ?_
    refine SWrap.i64z ((cntA 7 n : Nat) : Int) (by simp [cntA, cntB, cntH] <;> omega) (by have := cnt_le (k := 7) (r := r) n1 (show n ≤ 8 by omega) (show r ≤ 3 by omega); omega) ?_
    refine SCmp.no (neF rfl) ?_
    refine SWrap.i64z ((0 + 1 : Nat) : Int) (by omega) (by omega) ?_
    exact ⟨0 + 1, [0, 1], by decide, by decide, ⟨rfl, by simp, rfl, rfl, rfl, ⟨rfl, rfl, rfl, rfl, rfl, trivial⟩, ⟨rfl, rfl, trivial⟩⟩⟩
  · refine SCmp.yes (rfl) ?_
    refine SIdx.mk 1 _ rfl rfl ?_
    refine SKeys.all rfl <| SGet.at 9 _ rfl rfl rfl ?_
    refine SZ.mk ((cntB 7 n : Nat) : Int) (by simp [lst]) ?_
    refine SPos.mk 0 rfl (by decide) ?_
    refine SWrap.i64z ((1 * n : Nat) : Int) (by omega) (by omega) ?_
    refine SPos.mk 1 rfl (by decide) ?_
    refine SWrap.i64z ((0 * n : Nat) : Int) (by omega) (by omega) ?_
    refine SWrap.i64z ((0 : Nat) : Int) (by simp) (by omega) ?_
    refine SWrap.i64z ((1 * n + 0 : Nat) : Int) (by omega) (by omega) ?_
    refine SPos.mk 2 rfl (by decide) ?_
    refine SWrap.i64z ((cntB 7 n : Nat) : Int) (by simp [cntA, cntB, cntH] <;> omega) (by have := cnt_le (k := 7) (r := r) n1 (show n ≤ 8 by omega) (show r ≤ 3 by omega); omega) ?_
    refine SCmp.no (neF rfl) ?_
    refine SWrap.i64z ((1 + 1 : Nat) : Int) (by omega) (by omega) ?_
    exact ⟨1 + 1, [0, 1], by decide, by decide, ⟨rfl, by simp, rfl, rfl, rfl, ⟨rfl, rfl, rfl, rfl, rfl, trivial⟩, ⟨rfl, rfl, trivial⟩⟩⟩
  · refine SCmp.yes (rfl) ?_
    refine SIdx.mk 2 _ rfl rfl ?_
    refine SKeys.all rfl <| SGet.at 10 _ rfl rfl rfl ?_
    refine SZ.mk ((cntH 7 n r : Nat) : Int) (by simp [lst]) ?_
    refine SPos.mk 0 rfl (by decide) ?_
    refine SWrap.i64z ((0 * n : Nat) : Int) (by omega) (by omega) ?_
    refine SPos.mk 1 rfl (by decide) ?_
    refine SWrap.i64z ((1 * n : Nat) : Int) (by omega) (by omega) ?_
    refine SWrap.i64z ((n * r : Nat) : Int) (by rw [Int.natCast_mul]; simp) (by omega) ?_
    refine SWrap.i64z ((0 * n + n * r : Nat) : Int) (by omega) (by omega) ?_
    refine SPos.mk 2 rfl (by decide) ?_
    refine SWrap.i64z ((cntH 7 n r : Nat) : Int) (by simp [cntA, cntB, cntH] <;> omega) (by have := cnt_le (k := 7) (r := r) n1 (show n ≤ 8 by omega) (show r ≤ 3 by omega); omega) ?_
    refine SCmp.no (neF rfl) ?_
    refine SWrap.i64z ((2 + 1 : Nat) : Int) (by omega) (by omega) ?_
    exact ⟨2 + 1, [0, 1], by decide, by decide, ⟨rfl, by simp, rfl, rfl, rfl, ⟨rfl, rfl, rfl, rfl, rfl, trivial⟩, ⟨rfl, rfl, trivial⟩⟩⟩
  · refine SCmp.yes (rfl) ?_
    refine SIdx.mk 3 _ rfl rfl ?_
    refine SKeys.all rfl <| SGet.at 11 _ rfl rfl rfl ?_
    refine SZ.mk ((cntH 7 n r : Nat) : Int) (by simp [lst]) ?_
    refine SPos.mk 0 rfl (by decide) ?_
    refine SWrap.i64z ((0 * n : Nat) : Int) (by omega) (by omega) ?_
    refine SPos.mk 1 rfl (by decide) ?_
    refine SWrap.i64z ((1 * n : Nat) : Int) (by omega) (by omega) ?_
    refine SWrap.i64z ((n * r : Nat) : Int) (by rw [Int.natCast_mul]; simp) (by omega) ?_
    refine SWrap.i64z ((0 * n + n * r : Nat) : Int) (by omega) (by omega) ?_
    refine SPos.mk 2 rfl (by decide) ?_
    refine SWrap.i64z ((cntH 7 n r : Nat) : Int) (by simp [cntA, cntB, cntH] <;> omega) (by have := cnt_le (k := 7) (r := r) n1 (show n ≤ 8 by omega) (show r ≤ 3 by omega); omega) ?_
    refine SCmp.no (neF rfl) ?_
    refine SWrap.i64z ((3 + 1 : Nat) : Int) (by omega) (by omega) ?_
    exact ⟨3 + 1, [0, 1], by decide, by decide, ⟨rfl, by simp, rfl, rfl, rfl, ⟨rfl, rfl, rfl, rfl, rfl, trivial⟩, ⟨rfl, rfl, trivial⟩⟩⟩
  · refine SCmp.no (rfl) ?_
    refine SLoop.mk Nat (fun i => ([(1, .bptr 0 0), (60, .p (.agg [ratsM (m 0) (lst (cntA 7 n) A), ratsM (m 1) (lst (cntB 7 n) B), ratsM (m 2) (lst (cntH 7 n r) G), ratsM (m 3) (lst (cntH 7 n r) H)])), (61, .p (.int .i64 i))], [.box 59 [.p (.int .i64 ((7 : Nat) : Int)), .p (.int .i64 (n : Int)), .p (.int .i64 (r : Int)), .p (ratsM (m 0) (lst (cntA 7 n) A)), .p (ratsM (m 1) (lst (cntB 7 n) B)), .p (ratsM (m 2) (lst (cntH 7 n r) G)), .p (ratsM (m 3) (lst (cntH 7 n r) H))], .box 189 [.p (ratsM (m 0) (lst (cntA 7 n) A)), .p (ratsM (m 1) (lst (cntB 7 n) B)), .p (ratsM (m 2) (lst (cntH 7 n r) G)), .p (ratsM (m 3) (lst (cntH 7 n r) H))]]))
      (fun i => i ≤ 4) (fun i => 4 - i) 0 [0, 1] (Nat.zero_le _) ⟨rfl, by simp, rfl, rfl, rfl, ⟨rfl, rfl, rfl, trivial⟩, ⟨rfl, rfl, trivial⟩⟩ ?_
    intro i hi
    have hi : i ≤ 4 := hi
    rcases (show i = 0 ∨ i = 1 ∨ i = 2 ∨ i = 3 ∨ i = 4 by omega) with rfl | rfl | rfl | rfl | rfl
    · refine SCmp.yes (rfl) ?_
      refine SIdx.mk 0 _ rfl rfl ?_
      refine SCall.pure (none1_ok (m 0) (lst (cntA 7 n) A) (fun i hi => by rw [lst_length] at hi; rw [lst_getD hi]; exact check1_ok _ ((h.bA i hi).mono (by omega))) (by rw [lst_length]; exact Nat.le_trans (cb 0) (by decide))) ?_
      refine SCond.mk (fun h => by cases h) (fun _ => ?_)
      refine SWrap.i64z ((0 + 1 : Nat) : Int) (by omega) (by omega) ?_
      exact ⟨0 + 1, [0, 1], by decide, by decide, ⟨rfl, by simp, rfl, rfl, rfl, ⟨rfl, rfl, rfl, trivial⟩, ⟨rfl, rfl, trivial⟩⟩⟩
    · refine SCmp.yes (rfl) ?_
      refine SIdx.mk 1 _ rfl rfl ?_
      refine SCall.pure (none1_ok (m 1) (lst (cntB 7 n) B) (fun i hi => by rw [lst_length] at hi; rw [lst_getD hi]; exact check1_ok _ ((h.bB i hi).mono (by omega))) (by rw [lst_length]; exact Nat.le_trans (cb 1) (by decide))) ?_
      refine SCond.mk (fun h => by cases h) (fun _ => ?_)
      refine SWrap.i64z ((1 + 1 : Nat) : Int) (by omega) (by omega) ?_
      exact ⟨1 + 1, [0, 1], by decide, by decide, ⟨rfl, by simp, rfl, rfl, rfl, ⟨rfl, rfl, rfl, trivial⟩, ⟨rfl, rfl, trivial⟩⟩⟩
    · refine SCmp.yes (rfl) ?_
      refine SIdx.mk 2 _ rfl rfl ?_
      refine SCall.pure (none1_ok (m 2) (lst (cntH 7 n r) G) (fun i hi => by rw [lst_length] at hi; rw [lst_getD hi]; exact check1_ok _ ((h.bG i hi).mono (by omega))) (by rw [lst_length]; exact Nat.le_trans (cb 2) (by decide))) ?_
      refine SCond.mk (fun h => by cases h) (fun _ => ?_)
      refine SWrap.i64z ((2 + 1 : Nat) : Int) (by omega) (by omega) ?_
      exact ⟨2 + 1, [0, 1], by decide, by decide, ⟨rfl, by simp, rfl, rfl, rfl, ⟨rfl, rfl, rfl, trivial⟩, ⟨rfl, rfl, trivial⟩⟩⟩
    · refine SCmp.yes (rfl) ?_
      refine SIdx.mk 3 _ rfl rfl ?_
      refine SCall.pure (none1_ok (m 3) (lst (cntH 7 n r) H) (fun i hi => by rw [lst_length] at hi; rw [lst_getD hi]; exact check1_ok _ ((h.bH i hi).mono (by omega))) (by rw [lst_length]; exact Nat.le_trans (cb 3) (by decide))) ?_
      refine SCond.mk (fun h => by cases h) (fun _ => ?_)
      refine SWrap.i64z ((3 + 1 : Nat) : Int) (by omega) (by omega) ?_
      exact ⟨3 + 1, [0, 1], by decide, by decide, ⟨rfl, by simp, rfl, rfl, rfl, ⟨rfl, rfl, rfl, trivial⟩, ⟨rfl, rfl, trivial⟩⟩⟩
    · refine SCmp.no (rfl) ?_
      refine SZ.mk ((cntA 7 n : Nat) : Int) (by simp [lst]) ?_
      refine SLoop.mk Nat (fun i => ([(1, .bptr 0 0), (68, .p (ratsM (m 0) (lst (cntA 7 n) A))), (69, .p (.int .i64 ((cntA 7 n : Nat) : Int))), (70, .p (.int .i64 i))], [.box 59 [.p (.int .i64 ((7 : Nat) : Int)), .p (.int .i64 (n : Int)), .p (.int .i64 (r : Int)), .p (ratsM (m 0) (lst (cntA 7 n) A)), .p (ratsM (m 1) (lst (cntB 7 n) B)), .p (ratsM (m 2) (lst (cntH 7 n r) G)), .p (ratsM (m 3) (lst (cntH 7 n r) H))], .box 189 [.p (ratsM (m 0) (lst (cntA 7 n) A)), .p (ratsM (m 1) (lst (cntB 7 n) B)), .p (ratsM (m 2) (lst (cntH 7 n r) G)), .p (ratsM (m 3) (lst (cntH 7 n r) H))]]))
        (fun i => i ≤ cntA 7 n) (fun i => cntA 7 n - i) 0 [0, 1] (Nat.zero_le _) ⟨rfl, by simp, rfl, rfl, rfl, ⟨rfl, rfl, rfl, rfl, trivial⟩, ⟨rfl, rfl, trivial⟩⟩ ?_
      intro i hi
      have hi : i ≤ cntA 7 n := hi
      have cA := cb 0
      by_cases hia : i < cntA 7 n
      · refine SCmp.yes (decide_eq_true (by omega)) ?_
        refine SIdx.rf i rfl hia ?_
        have hz := (h.bA i hia).mono (show b ≤ c by omega)
        have hc2 := none2_ok (m 1) true (A i) (lst (cntB 7 n) B) (fun j hj => by
          rw [lst_length] at hj; rw [lst_getD hj]
          have := check2_ok true (A i) (B j) hz (h.bB j hj) (by omega)
          rw [decide_eq_false (h.ne i j hia hj)] at this
          exact this) (by rw [lst_length]; exact Nat.le_trans (cb 1) (by decide))
        refine SCall.pure (pvs := [ratsM (m 1) (lst (cntB 7 n) B), .fn 189 [.pel true (ratP (A i))]]) hc2 ?_
        refine SCond.mk (fun h => by cases h) (fun _ => ?_)
        refine SWrap.i64z ((i + 1 : Nat) : Int) (by omega) (by omega) ?_
        exact ⟨i + 1, [0, 1], hia, by show cntA 7 n - (i + 1) < cntA 7 n - i; omega, ⟨rfl, by simp, rfl, rfl, rfl, ⟨rfl, rfl, rfl, rfl, trivial⟩, ⟨rfl, rfl, trivial⟩⟩⟩
      · refine SCmp.no (decide_eq_false (by omega)) ?_
        exact SRet.pure (.p _ (.int _ _))
theorem gcheck_ok (m : Nat → Bool) (g : GV) {b c : Nat} (h : Wf g b c) : CallP Try.prog 150 [genP m g] (.p (.int .i64 0)) [] := by
  obtain ⟨k, n, r, A, B, G, H⟩ := g
  rcases k_cases h.k1 h.k7 with e | e | e | e | e | e | e <;> (have e : k = _ := e; subst e)
  · exact gcheck1_ok m n r A B G H h
  · exact gcheck2_ok m n r A B G H h
  · exact gcheck3_ok m n r A B G H h
  · exact gcheck4_ok m n r A B G H h
  · exact gcheck5_ok m n r A B G H h
  · exact gcheck6_ok m n r A B G H h
  · exact gcheck7_ok m n r A B G H h
end Go.Proofs.Ytkaooejeljdbnaa

namespace Go.Proofs.Ytkaooejeljdbnaa
open Go
set_option linter.unusedVariables false
set_option linter.unusedSimpArgs false
set_option maxRecDepth 10000
theorem ratP_one' : ratP 1 = .agg [.bool false, natP 1, natP 1] := rfl
theorem gzero_ok : CallP Try.prog 191 [] (.p (ratP 0)) [] := by
  refine callG_of_vc (wr := wr0) Γok mixed Try.func191 (by kernel_rfl) rfl (by kernel_rfl) (le_of_ble rfl) (by simp) ?_
  refine SRet.pure ?_
  rw [ratP_zero]
  exact conv3 ⟨rfl, rfl, rfl⟩ (.p _ (.bool _)) (.p _ (.sl _ _ (fun e he => by simp at he))) (frz1 rfl)
theorem gone_ok : CallP Try.prog 194 [] (.p (ratP 1)) [] := by
  refine callG_of_vc (wr := wr0) Γok mixed Try.func194 (by kernel_rfl) rfl (by kernel_rfl) (le_of_ble rfl) (by simp) ?_
  refine SRet.pure ?_
  rw [ratP_one']
  exact conv3 ⟨rfl, rfl, rfl⟩ (.p _ (.bool _)) (frz1 rfl) (frz1 rfl)
theorem gdot_ok (m : Nat → Bool) (g : GV) {b c : Nat} (h : Wf g b c) (hk : g.k = 6 ∨ g.k = 7) (i j : Nat) (hi : i < g.n) (hj : j < g.n) :
    CallP Try.prog 195 [genP m g, .int .i64 i, .int .i64 j] (.p (ratP (rowS g i j))) [] := by
  have h8 := h.n6
  have h2 := h.r2
  have h4 := h.c4
  have h5 := h.bc
  have hlh := h.lh hk
  have zP := h.prod hk hi hj
  have zS := sm_bz' zP
  have i0 : i * g.r ≤ 16 := Nat.mul_le_mul (show i ≤ 8 by omega) h2
  have j0 : j * g.r ≤ 16 := Nat.mul_le_mul (show j ≤ 8 by omega) h2
  have ic : ((i * g.r : Nat) : Int) = (i : Int) * (g.r : Int) := Int.natCast_mul i g.r
  have jc : ((j * g.r : Nat) : Int) = (j : Int) * (g.r : Int) := Int.natCast_mul j g.r
  refine callG_of_vc (wr := wr0) Γok mixed Try.func195 (by kernel_rfl) rfl (by kernel_rfl) (le_of_ble rfl) (by simp) ?_
  refine SCall.pure (gzero_ok) ?_
  refine SLoop.mk Nat (fun t => ([(1, .p (.int .i64 i)), (2, .p (.int .i64 j)), (3, .bptr 0 0), (6, .bptr 1 0), (7, .bptr 2 0), (11, .p (.int .i64 g.r)), (12, .p (.int .i64 t))], [.box 59 (genA m g), .box 37 zratA, .box 37 (bxQ (sm t fun t => g.G (i * g.r + t) * g.H (j * g.r + t)))]))
    (fun t => t ≤ g.r) (fun t => g.r - t) 0 [0, 1, 2] (Nat.zero_le _) ⟨rfl, by simp, rfl, rfl, rfl, ⟨rfl, rfl, rfl, rfl, rfl, rfl, rfl, trivial⟩, ⟨rfl, rfl, rfl, trivial⟩⟩ ?_
  intro t ht
  have ht : t ≤ g.r := ht
  by_cases htr : t < g.r
  · refine SCmp.yes (decide_eq_true (by omega)) ?_
    have l1 := row_lt hi htr
    have l2 := row_lt hj htr
    have lt : t * (2 * b + 1) ≤ 2 * (2 * b + 1) := Nat.mul_le_mul_right _ (by omega)
    refine SDraw.mkX (by kernel_rfl) ?_
    repeat refine SOp.mk _ _ (And.intro rfl rfl) rfl ?_
    refine SOp.mk _ _ (SWrap.i64z ((i * g.r : Nat) : Int) (by omega) (by omega) (And.intro rfl rfl)) rfl ?_
    repeat refine SOp.mk _ _ (And.intro rfl rfl) rfl ?_
    refine SOp.mk _ _ (SWrap.i64z ((i * g.r + t : Nat) : Int) (by omega) (by omega) (And.intro rfl rfl)) rfl ?_
    refine SOp.mk _ _ (SIdx.rf (i * g.r + t) rfl (by omega) (And.intro rfl rfl)) rfl ?_
    repeat refine SOp.mk _ _ (And.intro rfl rfl) rfl ?_
    refine SOp.mk _ _ (SWrap.i64z ((j * g.r : Nat) : Int) (by omega) (by omega) (And.intro rfl rfl)) rfl ?_
    repeat refine SOp.mk _ _ (And.intro rfl rfl) rfl ?_
    refine SOp.mk _ _ (SWrap.i64z ((j * g.r + t : Nat) : Int) (by omega) (by omega) (And.intro rfl rfl)) rfl ?_
    refine SOp.mk _ _ (SIdx.rf (j * g.r + t) rfl (by omega) (And.intro rfl rfl)) rfl ?_
    repeat refine SOp.mk _ _ (And.intro rfl rfl) rfl ?_
    refine SOp.mk _ _ (SCall.pure (ratmul_ok _ _ (h.bG _ (by omega)).sz (h.bH _ (by omega)).sz (by omega)) (And.intro rfl rfl)) rfl ?_
    refine SOp.mk _ _ (SCall.pure (ratadd_ok _ _ (zS t ht).sz (zP t htr).sz (by omega)) (And.intro rfl rfl)) rfl ?_
    repeat refine SOp.mk _ _ (And.intro rfl rfl) rfl ?_
    refine SFin.mk (by kernel_rfl) ?_
    refine SWrap.i64z ((t + 1 : Nat) : Int) (by omega) (by omega) ?_
    exact ⟨t + 1, [0, 1, 2], htr, by show g.r - (t + 1) < g.r - t; omega, ⟨rfl, by simp, rfl, rfl, rfl, ⟨rfl, rfl, rfl, rfl, rfl, rfl, rfl, trivial⟩, ⟨rfl, rfl, rfl, trivial⟩⟩⟩
  · refine SCmp.no (decide_eq_false (by omega)) ?_
    obtain rfl : t = g.r := by omega
    exact SRet.pure (.p _ (pers_rat _ _ _))
theorem gover_ok (m : Nat → Bool) (g : GV) {b c : Nat} (h : Wf g b c) (a : Rat) {d : Nat} (ha : Bz a d) (hd : d ≤ 1000) (hk : g.k = 5 ∨ g.k = 7) (i j : Nat) (hi : i < g.n) (hj : j < g.n) :
    CallP Try.prog 193 [genP m g, ratP a, .int .i64 i, .int .i64 j] (.p (ratP (a / (g.A i - g.B j)))) [] := by
  have h4 := h.c4
  have h5 := h.bc
  have hl := h.la3 (by omega)
  have hl2 := h.lb5 hk
  have hdf := h.dif (i := i) (j := j) (by omega) (by omega)
  refine callG_of_vc (wr := wr0) Γok mixed Try.func193 (by kernel_rfl) rfl (by kernel_rfl) (le_of_ble rfl) (by simp) ?_
  refine SDraw.mkX (by kernel_rfl) ?_
  repeat refine SOp.mk _ _ (And.intro rfl rfl) rfl ?_
  refine SOp.mk _ _ (SIdx.rf i rfl (by omega) (And.intro rfl rfl)) rfl ?_
  repeat refine SOp.mk _ _ (And.intro rfl rfl) rfl ?_
  refine SOp.mk _ _ (SIdx.rf j rfl (by omega) (And.intro rfl rfl)) rfl ?_
  repeat refine SOp.mk _ _ (And.intro rfl rfl) rfl ?_
  refine SOp.mk _ _ (SCall.pure (ratsub_ok _ _ (h.bA i (by omega)).sz (h.bB j (by omega)).sz (by omega)) (And.intro rfl rfl)) rfl ?_
  refine SOp.mk _ _ (SCall.pureT (quo_ok a _ hdf.2 ha.sz hdf.1.sz (by omega)) (fun _ => rfl) (And.intro rfl rfl)) rfl ?_
  repeat refine SOp.mk _ _ (And.intro rfl rfl) rfl ?_
  refine SFin.mk (by kernel_rfl) ?_
  exact SRet.pure (.p _ (pers_rat _ _ _))
theorem gpower_ok (a : Rat) {b : Nat} (ha : Bz a b) (hb : b ≤ 100) (j : Nat) (hj : j ≤ 8) : CallP Try.prog 192 [ratP a, .int .i64 j] (.p (ratP (a ^ j))) [] := by
  refine callG_of_vc (wr := wr0) Γok mixed Try.func192 (by kernel_rfl) rfl (by kernel_rfl) (le_of_ble rfl) (by simp) ?_
  refine SCall.pure (gone_ok) ?_
  refine SLoop.mk (Nat × Rat) (fun (t, q) => ([(2, .bptr 0 0), (4, .bptr 1 0), (5, .bptr 2 0), (7, .p (.int .i64 j)), (8, .p (.int .i64 t))], [.box 37 (bxQ a), .box 37 zratA, .box 37 (bxQ q)]))
    (fun (t, q) => t ≤ j ∧ q = a ^ t) (fun x => j - x.1) (0, 1) [0, 1, 2] ⟨Nat.zero_le _, (Rat.pow_zero _).symm⟩ ⟨rfl, by simp, rfl, rfl, rfl, ⟨rfl, rfl, rfl, rfl, rfl, trivial⟩, ⟨rfl, rfl, rfl, trivial⟩⟩ ?_
  intro ⟨t, q⟩ ⟨ht, hq⟩
  by_cases htj : t < j
  · refine SCmp.yes (decide_eq_true (by omega)) ?_
    have zq : Bz q (b * t + 1) := by rw [hq]; exact bz_pow ha t
    have hbt : b * t ≤ b * 8 := Nat.mul_le_mul_left _ (by omega)
    refine SCall.pure (ratmul_ok _ _ zq.sz ha.sz (by omega)) ?_
    refine SWrap.i64z ((t + 1 : Nat) : Int) (by omega) (by omega) ?_
    exact ⟨(t + 1, q * a), [0, 1, 2], ⟨htj, by rw [hq, Rat.pow_succ]⟩, by show j - (t + 1) < j - t; omega, ⟨rfl, by simp, rfl, rfl, rfl, ⟨rfl, rfl, rfl, rfl, rfl, trivial⟩, ⟨rfl, rfl, rfl, trivial⟩⟩⟩
  · refine SCmp.no (decide_eq_false (by omega)) ?_
    obtain rfl : t = j := by omega
    rw [← hq]
    exact SRet.pure (.p _ (pers_rat _ _ _))
end Go.Proofs.Ytkaooejeljdbnaa

namespace Go.Proofs.Ytkaooejeljdbnaa
open Go
set_option linter.unusedVariables false
set_option linter.unusedSimpArgs false
set_option maxRecDepth 10000
theorem gcopy_ok {q : Rat} {k : Nat} (h : Bz q k) (hk : k ≤ 1000000) : CallP Try.prog 75 [ratP q, ratP 0] (.p (ratP q)) [] := by
  have := ratadd_ok q 0 h.sz bz_zero.sz (by omega)
  rw [Rat.add_zero] at this; exact this
theorem gentry_ok (m : Nat → Bool) (g : GV) {b c : Nat} (h : Wf g b c) (i j : Nat) (hi : i < g.n) (hj : j < g.n) :
    CallP Try.prog 154 [genP m g, .int .i64 i, .int .i64 j] (.p (ratP (ent g i j))) [] := by
  have h8 := h.n6
  have h2 := h.r2
  have h4 := h.c4
  have h5 := h.bc
  rcases k_cases h.k1 h.k7 with e | e | e | e | e | e | e
  · have hl := h.la12 (.inl e)
    have hE : ent g i j = g.A (i + g.n - 1 - j) := by unfold ent; rw [if_pos e]
    rw [hE]
    refine callG_of_vc (wr := wr0) Γok mixed Try.func154 (by kernel_rfl) rfl (by kernel_rfl) (le_of_ble rfl) (by simp) ?_
    refine SCmp.yes (decide_eq_true (by omega)) ?_
    refine SDraw.mkX (by kernel_rfl) ?_
    repeat refine SOp.mk _ _ (And.intro rfl rfl) rfl ?_
    refine SOp.mk _ _ (SWrap.i64z ((i : Int) - j) rfl (by omega) (And.intro rfl rfl)) rfl ?_
    repeat refine SOp.mk _ _ (And.intro rfl rfl) rfl ?_
    refine SOp.mk _ _ (SWrap.i64z ((i + g.n - j : Nat) : Int) (by omega) (by omega) (And.intro rfl rfl)) rfl ?_
    refine SOp.mk _ _ (SWrap.i64z ((i + g.n - 1 - j : Nat) : Int) (by omega) (by omega) (And.intro rfl rfl)) rfl ?_
    refine SOp.mk _ _ (SIdx.rf (i + g.n - 1 - j) rfl (by omega) (And.intro rfl rfl)) rfl ?_
    repeat refine SOp.mk _ _ (And.intro rfl rfl) rfl ?_
    refine SOp.mk _ _ (SCall.pure (gzero_ok) (And.intro rfl rfl)) rfl ?_
    refine SOp.mk _ _ (SCall.pure (gcopy_ok (h.bA (i + g.n - 1 - j) (by omega)) (by omega)) (And.intro rfl rfl)) rfl ?_
    repeat refine SOp.mk _ _ (And.intro rfl rfl) rfl ?_
    refine SFin.mk (by kernel_rfl) ?_
    exact SRet.pure (.p _ (pers_rat _ _ _))
  · have hl := h.la12 (.inr e)
    have hE : ent g i j = g.A (i + j) := by unfold ent; rw [if_neg (by omega), if_pos e]
    rw [hE]
    refine callG_of_vc (wr := wr0) Γok mixed Try.func154 (by kernel_rfl) rfl (by kernel_rfl) (le_of_ble rfl) (by simp) ?_
    refine SCmp.no (decide_eq_false (by omega)) ?_
    refine SCmp.yes (decide_eq_true (by omega)) ?_
    refine SDraw.mkX (by kernel_rfl) ?_
    repeat refine SOp.mk _ _ (And.intro rfl rfl) rfl ?_
    refine SOp.mk _ _ (SWrap.i64z ((i + j : Nat) : Int) (by omega) (by omega) (And.intro rfl rfl)) rfl ?_
    refine SOp.mk _ _ (SIdx.rf (i + j) rfl (by omega) (And.intro rfl rfl)) rfl ?_
    repeat refine SOp.mk _ _ (And.intro rfl rfl) rfl ?_
    refine SOp.mk _ _ (SCall.pure (gzero_ok) (And.intro rfl rfl)) rfl ?_
    refine SOp.mk _ _ (SCall.pure (gcopy_ok (h.bA (i + j) (by omega)) (by omega)) (And.intro rfl rfl)) rfl ?_
    repeat refine SOp.mk _ _ (And.intro rfl rfl) rfl ?_
    refine SFin.mk (by kernel_rfl) ?_
    exact SRet.pure (.p _ (pers_rat _ _ _))
  · have hl := h.la3 (by omega)
    have hE : ent g i j = g.A ((i + g.n - j) % g.n) := by unfold ent; rw [if_neg (by omega), if_neg (by omega), if_pos e]
    have hm : (i + g.n - j) % g.n < g.n := Nat.mod_lt _ (by omega)
    rw [hE]
    refine callG_of_vc (wr := wr0) Γok mixed Try.func154 (by kernel_rfl) rfl (by kernel_rfl) (le_of_ble rfl) (by simp) ?_
    refine SCmp.no (decide_eq_false (by omega)) ?_
    refine SCmp.no (decide_eq_false (by omega)) ?_
    refine SCmp.yes (decide_eq_true (by omega)) ?_
    refine SDraw.mkX (by kernel_rfl) ?_
    repeat refine SOp.mk _ _ (And.intro rfl rfl) rfl ?_
    refine SOp.mk _ _ (SWrap.i64z ((i : Int) - j) rfl (by omega) (And.intro rfl rfl)) rfl ?_
    repeat refine SOp.mk _ _ (And.intro rfl rfl) rfl ?_
    refine SOp.mk _ _ (SWrap.i64z ((i + g.n - j : Nat) : Int) (by omega) (by omega) (And.intro rfl rfl)) rfl ?_
    repeat refine SOp.mk _ _ (And.intro rfl rfl) rfl ?_
    refine SOp.mk _ _ (SRem (b := g.n) (by omega) rfl (And.intro rfl rfl)) rfl ?_
    refine SOp.mk _ _ (SIdx.rf ((i + g.n - j) % g.n) rfl (by omega) (And.intro rfl rfl)) rfl ?_
    repeat refine SOp.mk _ _ (And.intro rfl rfl) rfl ?_
    refine SOp.mk _ _ (SCall.pure (gzero_ok) (And.intro rfl rfl)) rfl ?_
    refine SOp.mk _ _ (SCall.pure (gcopy_ok (h.bA ((i + g.n - j) % g.n) (by omega)) (by omega)) (And.intro rfl rfl)) rfl ?_
    repeat refine SOp.mk _ _ (And.intro rfl rfl) rfl ?_
    refine SFin.mk (by kernel_rfl) ?_
    exact SRet.pure (.p _ (pers_rat _ _ _))
  · have hl := h.la3 (by omega)
    have hE : ent g i j = g.A i ^ j := by unfold ent; rw [if_neg (by omega), if_neg (by omega), if_neg (by omega), if_pos e]
    rw [hE]
    refine callG_of_vc (wr := wr0) Γok mixed Try.func154 (by kernel_rfl) rfl (by kernel_rfl) (le_of_ble rfl) (by simp) ?_
    refine SCmp.no (decide_eq_false (by omega)) ?_
    refine SCmp.no (decide_eq_false (by omega)) ?_
    refine SCmp.no (decide_eq_false (by omega)) ?_
    refine SCmp.yes (decide_eq_true (by omega)) ?_
    refine SIdx.rf i rfl (by omega) ?_
    refine SCall.pure (gpower_ok _ (h.bA i (by omega)) (by omega) j (by omega)) ?_
    exact SRet.pure (.p _ (pers_rat _ _ _))
  · have hE : ent g i j = 1 / (g.A i - g.B j) := by unfold ent; rw [if_neg (by omega), if_neg (by omega), if_neg (by omega), if_neg (by omega), if_pos e]
    rw [hE]
    refine callG_of_vc (wr := wr0) Γok mixed Try.func154 (by kernel_rfl) rfl (by kernel_rfl) (le_of_ble rfl) (by simp) ?_
    refine SCmp.no (decide_eq_false (by omega)) ?_
    refine SCmp.no (decide_eq_false (by omega)) ?_
    refine SCmp.no (decide_eq_false (by omega)) ?_
    refine SCmp.no (decide_eq_false (by omega)) ?_
    refine SCmp.yes (decide_eq_true (by omega)) ?_
    refine SDraw.mkX (by kernel_rfl) ?_
    repeat refine SOp.mk _ _ (And.intro rfl rfl) rfl ?_
    refine SOp.mk _ _ (SCall.pure (gone_ok) (And.intro rfl rfl)) rfl ?_
    repeat refine SOp.mk _ _ (And.intro rfl rfl) rfl ?_
    refine SOp.mk _ _ (SCall.pure (gover_ok m g h 1 bz_one (by omega) (.inl e) i j hi hj) (And.intro rfl rfl)) rfl ?_
    repeat refine SOp.mk _ _ (And.intro rfl rfl) rfl ?_
    refine SFin.mk (by kernel_rfl) ?_
    exact SRet.pure (.p _ (pers_rat _ _ _))
  · have hE : ent g i j = sm (min i j + 1) fun m => rowS g (i - m) (j - m) := by unfold ent; rw [if_neg (by omega), if_neg (by omega), if_neg (by omega), if_neg (by omega), if_neg (by omega), if_pos e]
    rw [hE]
    have zS := h.bSum (.inl e) hi hj
    refine callG_of_vc (wr := wr0) Γok mixed Try.func154 (by kernel_rfl) rfl (by kernel_rfl) (le_of_ble rfl) (by simp) ?_
    refine SCmp.no (decide_eq_false (by omega)) ?_
    refine SCmp.no (decide_eq_false (by omega)) ?_
    refine SCmp.no (decide_eq_false (by omega)) ?_
    refine SCmp.no (decide_eq_false (by omega)) ?_
    refine SCmp.no (decide_eq_false (by omega)) ?_
    refine SCmp.no (decide_eq_false (by omega)) ?_
    refine SCall.pure (gzero_ok) ?_
    refine SLoop.mk Nat (fun t => ([(1, .p (.int .i64 i)), (2, .p (.int .i64 j)), (3, .bptr 0 0), (6, .bptr 1 0), (7, .bptr 2 0), (8, .p (.int .i64 t))], [.box 59 (genA m g), .box 37 zratA, .box 37 (bxQ (sm t fun m => rowS g (i - m) (j - m)))]))
      (fun t => t ≤ min i j + 1) (fun t => min i j + 1 - t) 0 [0, 1, 2] (Nat.zero_le _) ⟨rfl, by simp, rfl, rfl, rfl, ⟨rfl, rfl, rfl, rfl, rfl, rfl, trivial⟩, ⟨rfl, rfl, rfl, trivial⟩⟩ ?_
    intro t ht
    have ht : t ≤ min i j + 1 := ht
    refine SZ.mk ((min i j : Nat) : Int) (by show (if (j : Int) < (i : Int) then (j : Int) else (i : Int)) = _; split <;> omega) ?_
    by_cases htj : t < min i j + 1
    · refine SCmp.yes (decide_eq_true (by omega)) ?_
      have lt : t * (2 * (2 * b + 1) + 1 + 1) ≤ 6 * (2 * (2 * b + 1) + 1 + 1) := Nat.mul_le_mul_right _ (by omega)
      refine SDraw.mkX (by kernel_rfl) ?_
      repeat refine SOp.mk _ _ (And.intro rfl rfl) rfl ?_
      refine SOp.mk _ _ (SWrap.i64z ((i - t : Nat) : Int) (by omega) (by omega) (And.intro rfl rfl)) rfl ?_
      repeat refine SOp.mk _ _ (And.intro rfl rfl) rfl ?_
      refine SOp.mk _ _ (SWrap.i64z ((j - t : Nat) : Int) (by omega) (by omega) (And.intro rfl rfl)) rfl ?_
      refine SOp.mk _ _ (SCall.pure (gdot_ok m g h (.inl e) (i - t) (j - t) (by omega) (by omega)) (And.intro rfl rfl)) rfl ?_
      refine SOp.mk _ _ (SCall.pure (ratadd_ok _ _ (zS t ht).sz (h.bRow (.inl e) (i := i - t) (j := j - t) (by omega) (by omega)).sz (by omega)) (And.intro rfl rfl)) rfl ?_
      repeat refine SOp.mk _ _ (And.intro rfl rfl) rfl ?_
      refine SFin.mk (by kernel_rfl) ?_
      refine SWrap.i64z ((t + 1 : Nat) : Int) (by omega) (by omega) ?_
      exact ⟨t + 1, [0, 1, 2], htj, by show min i j + 1 - (t + 1) < min i j + 1 - t; omega, ⟨rfl, by simp, rfl, rfl, rfl, ⟨rfl, rfl, rfl, rfl, rfl, rfl, trivial⟩, ⟨rfl, rfl, rfl, trivial⟩⟩⟩
    · refine SCmp.no (decide_eq_false (by omega)) ?_
      obtain rfl : t = min i j + 1 := by omega
      exact SRet.pure (.p _ (pers_rat _ _ _))
  · have hE : ent g i j = rowS g i j / (g.A i - g.B j) := by unfold ent; rw [if_neg (by omega), if_neg (by omega), if_neg (by omega), if_neg (by omega), if_neg (by omega), if_neg (by omega)]
    rw [hE]
    refine callG_of_vc (wr := wr0) Γok mixed Try.func154 (by kernel_rfl) rfl (by kernel_rfl) (le_of_ble rfl) (by simp) ?_
    refine SCmp.no (decide_eq_false (by omega)) ?_
    refine SCmp.no (decide_eq_false (by omega)) ?_
    refine SCmp.no (decide_eq_false (by omega)) ?_
    refine SCmp.no (decide_eq_false (by omega)) ?_
    refine SCmp.no (decide_eq_false (by omega)) ?_
    refine SCmp.yes (decide_eq_true (by omega)) ?_
    refine SDraw.mkX (by kernel_rfl) ?_
    repeat refine SOp.mk _ _ (And.intro rfl rfl) rfl ?_
    refine SOp.mk _ _ (SCall.pure (gdot_ok m g h (.inr e) i j hi hj) (And.intro rfl rfl)) rfl ?_
    repeat refine SOp.mk _ _ (And.intro rfl rfl) rfl ?_
    refine SOp.mk _ _ (SCall.pure (gover_ok m g h (rowS g i j) (h.bRow (.inr e) hi hj) (by omega) (.inr e) i j hi hj) (And.intro rfl rfl)) rfl ?_
    repeat refine SOp.mk _ _ (And.intro rfl rfl) rfl ?_
    refine SFin.mk (by kernel_rfl) ?_
    exact SRet.pure (.p _ (pers_rat _ _ _))
end Go.Proofs.Ytkaooejeljdbnaa

namespace Go.Proofs.Ytkaooejeljdbnaa
open Go
set_option linter.unusedVariables false
set_option linter.unusedSimpArgs false
abbrev half (p c n k : Nat) : List AV := fl n fun i => if i < k then .vec (.r p i) 3 0 c else .emp
abbrev halq (p c n k q : Nat) : List AV := fl n fun i => if i < k then .vec (.r p i) 3 0 c else if i = k then .vec (.t q) 3 0 c else .emp
theorem half_full {p c n : Nat} : half p c n n = plc p c n id := fl_congr fun i hi => if_pos hi
theorem half_set {p c n k q : Nat} : (half p c n k).set k (.vec (.t q) 3 0 c) = halq p c n k q := by
  rw [fl_set]
  refine fl_congr fun i _ => ?_
  unfold upd
  by_cases e : i = k
  · rw [if_pos e, if_neg (by omega), if_pos e]
  · rw [if_neg e]
    show (if i < k then AV.vec (.r p i) 3 0 c else .emp) = _
    by_cases e2 : i < k
    · rw [if_pos e2, if_pos e2]
    · rw [if_neg e2, if_neg e2, if_neg e]
theorem halq_get {p c n k q : Nat} (h : k < n) : (halq p c n k q)[k]? = some (.vec (.t q) 3 0 c) := by
  rw [fl_get h, if_neg (Nat.lt_irrefl k), if_pos rfl]
theorem halq_ren {hs : List Nat} {P : Hp} {p c n k q : Nat} (p' q' : Nat) (hp : hs.getD p 0 = p') (hp' : p' < 1000) (hq : hs.getD q 0 = q') (hq' : q' < 1000) : AV.renL (renW hs P) (halq p c n k q) = halq p' c n k q' := by
  rw [renL_fl]
  refine fl_congr fun i hi => ?_
  have eb : Nat.blt p' 1000 = true := blt_iff.2 hp'
  have ec : Nat.blt q' 1000 = true := blt_iff.2 hq'
  by_cases e : i < k
  · rw [if_pos e, if_pos e]; simp only [AV.ren, renW, hp, eb, cond_true]
  · rw [if_neg e, if_neg e]
    by_cases e2 : i = k
    · rw [if_pos e2, if_pos e2]; simp only [AV.ren, renW, hq, ec, cond_true]; rw [show ptop q' = q' from Nat.mod_eq_of_lt hq']
    · rw [if_neg e2, if_neg e2]; simp only [AV.ren]
/-- The pool takes in the row that is filled. -/
theorem half_absorb {hs : List Nat} {P : Hp} {p p' q c n k : Nat} (hp : hs.getD p 0 = p' + 1000 * (q + 1)) (hp' : p' < 1000) (hl : plenAt P p = k + 1) : AV.renL (renW hs P) (half p c n (k + 1)) = halq p' c n k q := by
  rw [renL_fl]
  have eb : Nat.blt (hs.getD p 0) 1000 = false := by
    cases hb : Nat.blt (hs.getD p 0) 1000 with
    | false => rfl
    | true => have := blt_iff.1 hb; omega
  have e1 : hs.getD p 0 % 1000 = p' := by omega
  have e2 : hs.getD p 0 / 1000 - 1 = q := by omega
  refine fl_congr fun i hi => ?_
  by_cases h1 : i < k
  · have e4 : Nat.blt (i + 1) (k + 1) = true := blt_iff.2 (by omega)
    rw [if_pos (by omega), if_pos h1]
    simp only [AV.ren, renW, eb, hl, e4, cond_false, cond_true, e1]
  · by_cases h2 : i = k
    · have e4 : Nat.blt (i + 1) (k + 1) = false := by
        cases hb : Nat.blt (i + 1) (k + 1) with
        | false => rfl
        | true => have := blt_iff.1 hb; omega
      rw [if_pos (by omega), if_neg h1, if_pos h2]
      simp only [AV.ren, renW, eb, hl, e4, cond_false, e2]
    · rw [if_neg (by omega), if_neg h1, if_neg h2]; simp only [AV.ren]
theorem half_in {P : Hp} {p c n k : Nat} (h : ∀ i, i < k → i < plenAt P p) : ∀ x ∈ half p c n k, ∀ h, x.men h → look P h ≠ .free := by
  intro x hx g hg
  obtain ⟨i, hi, rfl⟩ := fl_mem hx
  by_cases e : i < k
  · rw [if_pos e] at hg
    simp only [AV.men] at hg
    subst hg
    exact look_row (h i e)
  · rw [if_neg e] at hg; exact hg.elim
theorem halq_in {P : Hp} {p c n k q : Nat} (h : ∀ i, i < k → i < plenAt P p) (hq : look P (.t q) ≠ .free) : ∀ x ∈ halq p c n k q, ∀ h, x.men h → look P h ≠ .free := by
  intro x hx g hg
  obtain ⟨i, hi, rfl⟩ := fl_mem hx
  by_cases e : i < k
  · rw [if_pos e] at hg
    simp only [AV.men] at hg
    subst hg
    exact look_row (h i e)
  · rw [if_neg e] at hg
    by_cases e2 : i = k
    · rw [if_pos e2] at hg
      simp only [AV.men] at hg
      subst hg; exact hq
    · rw [if_neg e2] at hg; exact hg.elim
theorem half_ren0 {ρ : Hd → Hd} {p c n : Nat} : AV.renL ρ (half p c n 0) = List.replicate n .emp := by
  rw [renL_fl, replicate_fl]
  refine fl_congr fun i _ => ?_
  rw [if_neg (Nat.not_lt_zero i)]; simp only [AV.ren]
end Go.Proofs.Ytkaooejeljdbnaa

namespace Go.Proofs.Ytkaooejeljdbnaa
open Go
set_option linter.unusedVariables false
set_option linter.unusedSimpArgs false
set_option maxRecDepth 10000
theorem row_step {n j : Nat} {f : Nat → Rat} (h : j < n) : (fl n fun k => if k < j then ratP (f k) else rat0).set (j + 0) (ratP (f j)) = fl n fun k => if k < j + 1 then ratP (f k) else rat0 := by
  rw [fl_set]
  refine fl_congr fun k hk => ?_
  simp only [upd, Nat.add_zero]
  by_cases e : k = j
  · rw [if_pos e, if_pos (by omega), e]
  · rw [if_neg e]
    by_cases e2 : k < j
    · rw [if_pos e2, if_pos (by omega)]
    · rw [if_neg e2, if_neg (by omega)]
theorem row_full {n : Nat} {f : Nat → Rat} : rats (lst n f) = fl n fun k => if k < n then ratP (f k) else rat0 := by
  rw [rats, lst_fl, fl_map]; exact fl_congr fun k hk => (if_pos hk).symm
theorem gexpand_ok (m : Nat → Bool) (g : GV) {b c : Nat} (h : Wf g b c) : CallP Try.prog 105 [genP m g] (.p (matP false false g.n g.n (ent g))) [] := by
  have h6 := h.n6
  have n1 := h.n1
  refine callG_of_vc (wr := wr0) Γok mixed Try.func105 (by kernel_rfl) rfl (by kernel_rfl) (le_of_ble rfl) (by simp) ?_
  refine SCall.pure (gcheck_ok m g h) ?_
  refine SCmp.no (rfl) ?_
  refine SZ.mk (g.n : Int) rfl ?_
  refine SLt.mk (by simp) ?_
  refine SMake.mk g.n rfl (by simp; omega) (by omega) ?_
  refine SMk.rows ?_
  refine SZ.mk (g.n : Int) rfl ?_
  refine SLoop.mkT Nat (fun i => ([(1, .bptr 0 0), (3, .vec 1 1 0 g.n), (13, .p (.int .i64 g.n)), (14, .p (.int .i64 i))], [.box 59 (genA m g), .rows 25 (half 2 g.n g.n i), .pool 37 3 (plr i g.n (ent g))]))
    (fun i => i ≤ g.n) (fun i => g.n - i) 0 [0, 1, 2] _ _ (.pool 37 3 (.done _ _)) (Nat.zero_le _) ⟨rfl, by simp, rfl, rfl, rfl, ⟨rfl, rfl, rfl, rfl, trivial⟩, ⟨rfl, congrArg _ half_ren0, rfl, half_in fun i hi => absurd hi (Nat.not_lt_zero _), trivial⟩⟩ ?_
  intro i hi
  have hi : i ≤ g.n := hi
  by_cases hin : i < g.n
  · refine SCmp.yes (decide_eq_true (by omega)) ?_
    refine SZ.mk (g.n : Int) rfl ?_
    refine SLt.mk (by simp) ?_
    refine SMake.rat g.n rfl (by omega) ?_
    refine SPos.mk i rfl hin ?_
    refine SLt.mk (by simp; omega) ?_
    refine SAs.mk (halq 2 g.n g.n i 3) half_set ?_
    refine SPos.mk i rfl hin ?_
    refine SIdxA.mk i _ rfl (halq_get hin) ?_
    refine SZ.mk (g.n : Int) rfl ?_
    refine SLoop.mk (Nat × (Nat → Rat)) (fun (j, F) => ([(1, .bptr 0 0), (3, .vec 1 1 0 g.n), (4, .p (.int .i64 i)), (13, .p (.int .i64 g.n)), (14, .p (.int .i64 i)), (27, .p (.int .i64 g.n)), (28, .p (.int .i64 j))], [.box 59 (genA m g), .rows 25 (halq 2 g.n g.n i 3), .pool 37 3 (plr i g.n (ent g)), .vec 37 3 (fl g.n fun k => if k < j then ratP (ent g i k) else rat0)]))
      (fun (j, F) => j ≤ g.n) (fun x => g.n - x.1) (0, ent g i) [0, 1, 2, 3] (Nat.zero_le _) ⟨rfl, by simp, rfl, rfl, rfl, ⟨rfl, rfl, rfl, rfl, rfl, rfl, rfl, trivial⟩, ⟨rfl, congrArg _ (halq_ren 2 3 rfl (by decide) rfl (by decide)), rfl, congrArg _ ((fl_congr fun k hk => if_neg (by omega)).trans (replicate_fl g.n rat0).symm), halq_in (fun i hi => by simpa [plenAt] using hi) (fun e => by cases e), trivial⟩⟩ ?_
    intro ⟨j, F⟩ hj
    have hj : j ≤ g.n := hj
    by_cases hjn : j < g.n
    · refine SCmp.yes (decide_eq_true (by omega)) ?_
      refine SDraw.mkX (by kernel_rfl) ?_
      repeat refine SOp.mk _ _ (And.intro rfl rfl) rfl ?_
      refine SOp.mk _ _ (SPos.mk i rfl hin (And.intro rfl rfl)) rfl ?_
      refine SOp.mk _ _ (SIdxA.mk i _ rfl (halq_get hin) (And.intro rfl rfl)) rfl ?_
      repeat refine SOp.mk _ _ (And.intro rfl rfl) rfl ?_
      refine SOp.mk _ _ (SCall.pure (gentry_ok m g h i j hin hjn) (And.intro rfl rfl)) rfl ?_
      refine SOp.mk _ _ (SPos.mk j rfl hjn (And.intro rfl rfl)) rfl ?_
      refine SOp.mk _ _ (SLt.mk (by simp; omega) <| SEs.mk _ (row_step hjn) (And.intro rfl rfl)) rfl ?_
      repeat refine SOp.mk _ _ (And.intro rfl rfl) rfl ?_
      refine SFin.mk (by kernel_rfl) ?_
      refine SWrap.i64z ((j + 1 : Nat) : Int) (by omega) (by omega) ?_
      exact ⟨(j + 1, F), [0, 1, 2, 3], hjn, by show g.n - (j + 1) < g.n - j; omega, ⟨rfl, by simp, rfl, rfl, rfl, ⟨rfl, rfl, rfl, rfl, rfl, rfl, rfl, trivial⟩, ⟨rfl, congrArg _ (halq_ren 2 3 rfl (by decide) rfl (by decide)), rfl, rfl, halq_in (fun i hi => by simpa [plenAt] using hi) (fun e => by cases e), trivial⟩⟩⟩
    · refine SCmp.no (decide_eq_false (by omega)) ?_
      obtain rfl : j = g.n := by omega
      refine SWrap.i64z ((i + 1 : Nat) : Int) (by omega) (by omega) ?_
      exact ⟨i + 1, [0, 1, 4002], hin, by show g.n - (i + 1) < g.n - i; omega, ⟨rfl, by simp, rfl, rfl, rfl, ⟨rfl, rfl, rfl, rfl, trivial⟩, ⟨rfl, congrArg _ (half_absorb rfl (by decide) (by simp [plenAt])), ⟨_, _, _, _, rfl, rfl, congrArg _ (plr_snoc.trans (congrArg (fun r => plr i g.n (ent g) ++ [some r]) row_full))⟩, half_in fun i hi => by simpa [plenAt] using hi, trivial⟩⟩⟩
  · refine SCmp.no (decide_eq_false (by omega)) ?_
    obtain rfl : i = g.n := by omega
    exact SRet.pure (frzM (H := [_, _, _]) (h := 1) (p := 2) (congrArg (Blk.rows _) half_full) rfl fun i hi => hi)
end Go.Proofs.Ytkaooejeljdbnaa

namespace Go.Proofs.Ytkaooejeljdbnaa
open Go
set_option linter.unusedVariables false
set_option linter.unusedSimpArgs false
set_option maxRecDepth 10000
theorem szero_ok : CallP Try.prog 155 [] (.p (ratP 0)) [] := by
  refine callG_of_vc (wr := wr0) Γok mixed Try.func155 (by kernel_rfl) rfl (by kernel_rfl) (le_of_ble rfl) (by simp) ?_
  refine SRet.pure ?_
  rw [ratP_zero]
  exact conv3 ⟨rfl, rfl, rfl⟩ (.p _ (.bool _)) (.p _ (.sl _ _ (fun e he => by simp at he))) (frz1 rfl)
theorem sone_ok : CallP Try.prog 157 [] (.p (ratP 1)) [] := by
  refine callG_of_vc (wr := wr0) Γok mixed Try.func157 (by kernel_rfl) rfl (by kernel_rfl) (le_of_ble rfl) (by simp) ?_
  refine SRet.pure ?_
  rw [ratP_one']
  exact conv3 ⟨rfl, rfl, rfl⟩ (.p _ (.bool _)) (frz1 rfl) (frz1 rfl)
theorem corner_ok (i k : Nat) : CallP Try.prog 156 [pairP i k] (.p (.bool (decide (i = k)))) [] := by
  refine callG_of_vc (wr := wr0) Γok mixed Try.func156 (by kernel_rfl) rfl (by kernel_rfl) (le_of_ble rfl) (by simp) ?_
  refine SPos.mk 0 rfl (by decide) ?_
  refine SPos.mk 0 rfl (by decide) ?_
  refine SCmp.sym ?_
  have : (((i : Int) == (i : Int)) && (((k : Int) == (i : Int)) && true)) = decide (i = k) := by
    by_cases e : i = k
    · subst e; simp
    · rw [decide_eq_false e, beq_eq_false_iff_ne.2 (show (k : Int) ≠ i by omega)]; simp
  rw [this]
  exact SRet.pure (.p _ (.bool _))
def tkV (A : Nat → Nat → Rat) (i j : Nat) : Rat := gs A j i j / gs A j j j
abbrev tkE (A : Nat → Nat → Rat) (k d : Nat) : PV × PV := (pairP (k + 1 + d) k, ratP (tkV A (k + 1 + d) k))
def tkL (A : Nat → Nat → Rat) (n : Nat) : Nat → List (PV × PV)
  | 0 => []
  | k + 1 => tkL A n k ++ fl (n - 1 - k) (tkE A k)
theorem tk_mem {A : Nat → Nat → Rat} {n : Nat} : ∀ k, k ≤ n → ∀ e ∈ tkL A n k, ∃ i j, e = (pairP i j, ratP (tkV A i j)) ∧ j < k ∧ j < i ∧ i < n := by
  intro k
  induction k with
  | zero => intro _ e he; simp [tkL] at he
  | succ k ih =>
    intro hk e he
    rcases List.mem_append.1 he with he | he
    · obtain ⟨i, j, h1, h2, h3, h4⟩ := ih (by omega) e he
      exact ⟨i, j, h1, by omega, h3, h4⟩
    · obtain ⟨d, hd, rfl⟩ := fl_mem he
      exact ⟨k + 1 + d, k, rfl, by omega, by omega, by omega⟩
theorem tk_get {A : Nat → Nat → Rat} {n i j : Nat} (hji : j < i) (hin : i < n) : ∀ k, k ≤ n → j < k → ∃ a : Nat, (tkL A n k)[a]? = some (pairP i j, ratP (tkV A i j)) ∧ ∀ (b : Nat) e', b ≠ a → (tkL A n k)[b]? = some e' → PV.keq (pairP i j) e'.1 = false := by
  intro k
  induction k with
  | zero => intro _ h; exact absurd h (Nat.not_lt_zero _)
  | succ k ih =>
    intro hk hj
    simp only [tkL]
    by_cases e : j = k
    · subst e
      refine ⟨(tkL A n j).length + (i - (j + 1)), ?_, fun b e' hb he => ?_⟩
      · rw [List.getElem?_append_right (by omega), show (tkL A n j).length + (i - (j + 1)) - (tkL A n j).length = i - (j + 1) by omega, fl_get (by omega)]
        simp only [tkE]
        rw [show j + 1 + (i - (j + 1)) = i by omega]
      · by_cases hl : b < (tkL A n j).length
        · rw [List.getElem?_append_left hl] at he
          obtain ⟨i', j', rfl, h2, _, _⟩ := tk_mem j (by omega) e' (List.mem_of_getElem? he)
          rw [keq_pair]; exact decide_eq_false fun h => by omega
        · rw [List.getElem?_append_right (by omega)] at he
          obtain ⟨hd, rfl⟩ := fl_get_iff.1 he
          rw [keq_pair]; exact decide_eq_false fun h => by omega
    · obtain ⟨a, h1, h2⟩ := ih (by omega) (by omega)
      have hl := (List.getElem?_eq_some_iff.1 h1).1
      refine ⟨a, by rw [List.getElem?_append_left hl]; exact h1, fun b e' hb he => ?_⟩
      by_cases hl : b < (tkL A n k).length
      · rw [List.getElem?_append_left hl] at he; exact h2 b e' hb he
      · rw [List.getElem?_append_right (by omega)] at he
        obtain ⟨hd, rfl⟩ := fl_get_iff.1 he
        rw [keq_pair]; exact decide_eq_false fun h => by omega
theorem SKeys.tk {b : PV → Bool} {A : Nat → Nat → Rat} {n k d : Nat} {K : Prop} (hk : k ≤ n) (hb : ∀ i k : Nat, b (pairP i k) = true) (hK : K) : SKeys b (tkL A n k ++ fl d (tkE A k)) K :=
  .mk (fun e he => by
    rcases List.mem_append.1 he with he | he
    · obtain ⟨i, j, rfl, _⟩ := tk_mem k hk e he; exact hb _ _
    · obtain ⟨d, hd, rfl⟩ := fl_mem he; exact hb _ _) hK
theorem SPut.tk {A : Nat → Nat → Rat} {n k d : Nat} {v : PV} {K : List (PV × PV) → Prop} (hk : k ≤ n) (hv : v = ratP (tkV A (k + 1 + d) k)) (hK : K (tkL A n k ++ fl (d + 1) (tkE A k))) : SPut (tkL A n k ++ fl d (tkE A k)) (pairP (k + 1 + d) k) v K := by
  subst hv
  refine .new _ (fun e he => ?_) (by rw [List.append_assoc, fl_snoc]) hK
  rcases List.mem_append.1 he with he | he
  · obtain ⟨i, j, rfl, h2, _, _⟩ := tk_mem k hk e he
    rw [keq_pair]; exact decide_eq_false fun h => by omega
  · obtain ⟨d', hd, rfl⟩ := fl_mem he
    rw [keq_pair]; exact decide_eq_false fun h => by omega
theorem pers_tk {A : Nat → Nat → Rat} {n k : Nat} (hk : k ≤ n) : ∀ e ∈ tkL A n k, Pers e.1 ∧ Pers e.2 := fun e he => by
  obtain ⟨i, j, rfl, _⟩ := tk_mem k hk e he
  exact ⟨pers_pair _ _, pers_rat _ _ _⟩
theorem tabF_congr {n : Nat} {f g : Nat → Nat → Rat} (h : ∀ i k, i < n → k < n → f i k = g i k) : tabF n f (n * n) = tabF n g (n * n) := fl_congr fun t ht => by
  have n0 : 0 < n := by rcases Nat.eq_zero_or_pos n with h | h; rw [h] at ht; simp at ht; exact h
  rw [h _ _ (Nat.div_lt_of_lt_mul ht) (Nat.mod_lt _ n0)]
abbrev wkA (n : Nat) (l t : Nat) : List AV := [.p (.int .i64 (n : Int)), .map (.t l), .map (.t t)]
abbrev wkB (n : Nat) (left took : List (PV × PV)) : List Blk := [.box 130 (wkA n 1 2), .map left, .map took]
theorem sof_ok (m m' : Bool) (n : Nat) (A : Nat → Nat → Rat) (hn : n ≤ 1000) : CallP Try.prog 106 [matP m m' n n A] (.bptr 0 0) (wkB n (tabF n A (n * n)) []) := by
  refine callG_of_vc (wr := wr0) Γok mixed Try.func106 (by kernel_rfl) rfl (by kernel_rfl) (le_of_ble rfl) (by simp) ?_
  refine SZ.mk (n : Int) (by simp) ?_
  refine SZ.mk (n : Int) (by simp) ?_
  refine SLoop.mk Nat (fun i => ([(3, .bptr 2 0), (14, .p (matP m m' n n A)), (15, .p (.int .i64 n)), (16, .p (.int .i64 i))], [.map (tabF n A (i * n)), .map [], .box 130 (wkA n 0 1)]))
    (fun i => i ≤ n) (fun i => n - i) 0 [0, 1, 2] (Nat.zero_le _) ⟨rfl, by simp, rfl, rfl, rfl, ⟨rfl, rfl, rfl, rfl, trivial⟩, ⟨by rw [Nat.zero_mul]; rfl, rfl, rfl, trivial⟩⟩ ?_
  intro i hi
  have hi : i ≤ n := hi
  by_cases hin : i < n
  · refine SCmp.yes (decide_eq_true (by omega)) ?_
    refine SIdx.mf i rfl hin ?_
    refine SZ.mk (n : Int) (by simp [lst]) ?_
    refine SLoop.mk Nat (fun k => ([(3, .bptr 2 0), (4, .p (.int .i64 i)), (14, .p (matP m m' n n A)), (15, .p (.int .i64 n)), (16, .p (.int .i64 i)), (21, .p (ratsM m' (lst n (A i)))), (22, .p (.int .i64 n)), (23, .p (.int .i64 k))], [.map (tabF n A (i * n + k)), .map [], .box 130 (wkA n 0 1)]))
      (fun k => k ≤ n) (fun k => n - k) 0 [0, 1, 2] (Nat.zero_le _) ⟨rfl, by simp, rfl, rfl, rfl, ⟨rfl, rfl, rfl, rfl, rfl, rfl, rfl, rfl, trivial⟩, ⟨rfl, rfl, rfl, trivial⟩⟩ ?_
    intro k hk
    have hk : k ≤ n := hk
    by_cases hkn : k < n
    · refine SCmp.yes (decide_eq_true (by omega)) ?_
      refine SIdx.rf k rfl hkn ?_
      refine SDraw.mkX (by kernel_rfl) ?_
      repeat refine SOp.mk _ _ (And.intro rfl rfl) rfl ?_
      refine SOp.mk _ _ (SKeys.tab (fun _ _ => rfl) <| SPut.tab hkn rfl (And.intro rfl rfl)) rfl ?_
      refine SFin.mk (by kernel_rfl) ?_
      refine SWrap.i64z ((k + 1 : Nat) : Int) (by omega) (by omega) ?_
      exact ⟨k + 1, [0, 1, 2], hkn, by show n - (k + 1) < n - k; omega, ⟨rfl, by simp, rfl, rfl, rfl, ⟨rfl, rfl, rfl, rfl, rfl, rfl, rfl, rfl, trivial⟩, ⟨rfl, rfl, rfl, trivial⟩⟩⟩
    · refine SCmp.no (decide_eq_false (by omega)) ?_
      obtain rfl : k = n := by omega
      refine SWrap.i64z ((i + 1 : Nat) : Int) (by omega) (by omega) ?_
      exact ⟨i + 1, [0, 1, 2], hin, by show k - (i + 1) < k - i; omega, ⟨rfl, by simp, rfl, rfl, rfl, ⟨rfl, rfl, rfl, rfl, trivial⟩, ⟨congrArg (fun q => Blk.map (tabF k A q)) (Nat.succ_mul i k), rfl, rfl, trivial⟩⟩⟩
  · refine SCmp.no (decide_eq_false (by omega)) ?_
    obtain rfl : i = n := by omega
    refine SRet.mk [2, 0, 1] rfl (by decide) rfl (Nat.zero_le _) (fun h hl => by rw [look_nil] at hl; exact hl.elim) (fun h hl => absurd (look_nil h) hl) (fun a h B e1 e2 => ?_) (.bptr rfl)
    match a, e1, e2 with
    | 0, e1, e2 =>
      cases e1; cases e2
      refine .box (cs := wkA i 0 1) (fun d hd => by simp only [wkA, List.mem_cons, List.not_mem_nil, or_false] at hd; rcases hd with rfl | rfl | rfl <;> rfl) rfl fun b c d e1 e2 => ?_
      match b, e1, e2 with
      | 0, e1, e2 => cases e1; cases e2; exact .p _ (.int _ _)
      | 1, e1, e2 => cases e1; cases e2; exact .map rfl
      | 2, e1, e2 => cases e1; cases e2; exact .map rfl
    | 1, e1, e2 => cases e1; cases e2; exact .map pers_tab
    | 2, e1, e2 => cases e1; cases e2; exact .map (fun e he => by simp at he)
end Go.Proofs.Ytkaooejeljdbnaa

namespace Go.Proofs.Ytkaooejeljdbnaa
open Go
set_option linter.unusedVariables false
set_option linter.unusedSimpArgs false
set_option maxRecDepth 10000
theorem gs_bz {A : Nat → Nat → Rat} {n b : Nat} (hA : ∀ i j, i < n → j < n → Bz (A i j) b) : ∀ k, k ≤ n → ∀ i j, i < n → j < n → Bz (gs A k i j) (bb b k) := by
  intro k
  induction k with
  | zero => intro _ i j hi hj; exact hA i j hi hj
  | succ k ih =>
    intro hk i j hi hj
    have ih := ih (by omega)
    by_cases c : k < i ∧ k ≤ j
    · rw [gs_gt c.1 c.2]
      exact ((ih i j hi hj).sub (((ih i k hi (by omega)).div (ih k k (by omega) (by omega))).mul (ih k j (by omega) hj))).mono (by simp only [bb]; omega)
    · rw [gs_le (by omega)]; exact (ih i j hi hj).mono (by simp only [bb]; omega)
theorem bb_mono {b j k : Nat} (h : j ≤ k) : bb b j ≤ bb b k := Rmono (fun k => bb_step k) h
/-- All that is left at any step has so many digits. -/
def GsB (A : Nat → Nat → Rat) (n D : Nat) : Prop := ∀ k, k ≤ n → ∀ i j, i < n → j < n → Bz (gs A k i j) D
theorem GsB.of {A : Nat → Nat → Rat} {n b : Nat} (hA : ∀ i j, i < n → j < n → Bz (A i j) b) : GsB A n (bb b n) := fun k hk i j hi hj => (gs_bz hA k hk i j hi hj).mono (bb_mono hk)
theorem nlen0 {q : Rat} (h : q = 0) : nlen q.num.natAbs = 0 := by rw [h]; exact nlen_zero_iff.2 rfl
theorem nlen1 {q : Rat} (h : q ≠ 0) : nlen q.num.natAbs ≠ 0 := fun e => h (Rat.num_eq_zero.1 (by have := nlen_zero_iff.1 e; omega))
theorem stepZ_ok (A : Nat → Nat → Rat) (n k : Nat) (hk : k < n) (hn : n ≤ 1000) (hp : piv A k = 0) :
    CallG Try.prog 107 [.bptr 0 0, .p (.int .i64 k)] (wkB n (tabF n (gs A k) (n * n)) (tkL A n k)) (.p (.bool false)) (wkB n (tabF n (gs A k) (n * n)) (tkL A n k)) := by
  refine callG_of_vc (wr := wr0) Γok mixed Try.func107 (by kernel_rfl) rfl (by kernel_rfl) (le_of_ble rfl) (by simp) ?_
  refine SKeys.tab (fun _ _ => rfl) <| SGet.tab hk hk ?_
  refine SZ.mk (nlen (gs A k k k).num.natAbs : Int) (by simp) ?_
  refine SCmp.yes (eqT (by rw [nlen0 (show gs A k k k = 0 from hp)]; rfl)) ?_
  refine SRet.keep rfl
    (fun B hB k => by simp only [wkB, List.mem_cons, List.not_mem_nil, or_false] at hB; rcases hB with rfl | rfl | rfl <;> rfl) (fun i hi => by
      match i, hi with
      | 0, _ => exact trivial
      | 1, _ => exact trivial
      | 2, _ => exact trivial)
    (fun a B e1 => by
      match a, e1 with
      | 0, e1 =>
        cases e1
        refine .box (cs := wkA n 1 2) (fun d hd => by simp only [wkA, List.mem_cons, List.not_mem_nil, or_false] at hd; rcases hd with rfl | rfl | rfl <;> rfl) rfl fun b c d e1 e2 => ?_
        match b, e1, e2 with
        | 0, e1, e2 => cases e1; cases e2; exact .p _ (.int _ _)
        | 1, e1, e2 => cases e1; cases e2; exact .map rfl
        | 2, e1, e2 => cases e1; cases e2; exact .map rfl
      | 1, e1 => cases e1; exact .map pers_tab
      | 2, e1 => cases e1; exact .map (pers_tk (by omega))) (.tf _)
theorem step_ok (A : Nat → Nat → Rat) (n k : Nat) {D : Nat} (hk : k < n) (hn : n ≤ 1000) (hp : piv A k ≠ 0) (hB : GsB A n D) (hD : 4 * D ≤ 1048576) :
    CallG Try.prog 107 [.bptr 0 0, .p (.int .i64 k)] (wkB n (tabF n (gs A k) (n * n)) (tkL A n k)) (.p (.bool true)) (wkB n (tabF n (gs A (k + 1)) (n * n)) (tkL A n (k + 1))) := by
  have nz := nlen1 hp
  refine callG_of_vc (wr := wr0) Γok mixed Try.func107 (by kernel_rfl) rfl (by kernel_rfl) (le_of_ble rfl) (by simp) ?_
  refine SKeys.tab (fun _ _ => rfl) <| SGet.tab hk hk ?_
  refine SZ.mk (nlen (gs A k k k).num.natAbs : Int) (by simp) ?_
  refine SCmp.no (eqF (by have : nlen (gs A k k k).num.natAbs ≠ 0 := nz; omega)) ?_
  refine SWrap.i64z ((k + 1 + 0 : Nat) : Int) (by omega) (by omega) ?_
  refine SLoop.mk (Nat × (Nat → Nat → Rat)) (fun (d, F) => ([(0, .bptr 0 0), (1, .p (.int .i64 k)), (5, .bptr 3 0), (6, .p (.int .i64 ((k + 1 + d : Nat) : Int)))], [.box 130 (wkA n 1 2), .map (tabF n F (n * n)), .map (tkL A n k ++ fl d (tkE A k)), .box 37 (bxQ (gs A k k k))]))
    (fun (d, F) => k + 1 + d ≤ n ∧ ∀ a b, a < n → b < n → F a b = if a < k + 1 + d then gs A (k + 1) a b else gs A k a b) (fun x => n - x.1) (0, gs A k) [0, 1, 2, 3]
    ⟨by omega, fun a b _ _ => by
      split
      · exact (gs_le (.inl (by omega))).symm
      · rfl⟩ ⟨rfl, by simp, rfl, rfl, rfl, ⟨rfl, rfl, rfl, rfl, trivial⟩, ⟨rfl, rfl, congrArg Blk.map (List.append_nil _), rfl, trivial⟩⟩ ?_
  intro ⟨d, F⟩ ⟨hd, hF⟩
  by_cases hin : k + 1 + d < n
  · refine SCmp.yes (decide_eq_true (by omega)) ?_
    obtain ⟨i, hi⟩ : ∃ i, i = k + 1 + d := ⟨_, rfl⟩
    have hFi : ∀ b, b < n → F (k + 1 + d) b = gs A k (k + 1 + d) b := fun b hb => by rw [hF _ b hin hb, if_neg (Nat.lt_irrefl _)]
    have hFk : ∀ b, b < n → F k b = gs A k k b := fun b hb => by rw [hF k b hk hb, if_pos (by omega)]; exact gs_le (.inl (Nat.le_refl _))
    have zi : ∀ b, b < n → Bz (F (k + 1 + d) b) D := fun b hb => by rw [hFi b hb]; exact hB k (by omega) _ b hin hb
    have zk : ∀ b, b < n → Bz (F k b) D := fun b hb => by rw [hFk b hb]; exact hB k (by omega) _ b hk hb
    have zp : Bz (gs A k k k) D := hB k (by omega) k k hk hk
    obtain ⟨Q, hQ⟩ : ∃ Q, Q = F (k + 1 + d) k / gs A k k k := ⟨_, rfl⟩
    have zQ : Bz Q (D + D) := by rw [hQ]; exact (zi k hk).div zp
    have hq := quo_ok (F (k + 1 + d) k) (gs A k k k) hp (zi k hk).sz zp.sz (by omega)
    rw [← hQ] at hq
    have hQv : Q = tkV A (k + 1 + d) k := by rw [hQ, hFi k hk]; rfl
    refine SDraw.mkX (by kernel_rfl) ?_
    repeat refine SOp.mk _ _ (And.intro rfl rfl) rfl ?_
    refine SOp.mk _ _ (SKeys.tab (fun _ _ => rfl) <| SGet.tab hin hk (And.intro rfl rfl)) rfl ?_
    repeat refine SOp.mk _ _ (And.intro rfl rfl) rfl ?_
    refine SOp.mk _ _ (SCall.pureT (hq) (fun _ => rfl) (And.intro rfl rfl)) rfl ?_
    repeat refine SOp.mk _ _ (And.intro rfl rfl) rfl ?_
    refine SFin.mk (by kernel_rfl) ?_
    refine SDraw.mkX (by kernel_rfl) ?_
    repeat refine SOp.mk _ _ (And.intro rfl rfl) rfl ?_
    refine SOp.mk _ _ (SKeys.tk (by omega) (fun _ _ => rfl) <| SPut.tk (by omega) (congrArg ratP hQv) (And.intro rfl rfl)) rfl ?_
    refine SFin.mk (by kernel_rfl) ?_
    refine SLoop.mk (Nat × (Nat → Nat → Rat)) (fun (j, G) => ([(0, .bptr 0 0), (1, .p (.int .i64 k)), (5, .bptr 3 0), (6, .p (.int .i64 ((k + 1 + d : Nat) : Int))), (7, .bptr 4 0), (9, .p (.int .i64 j))], [.box 130 (wkA n 1 2), .map (tabF n G (n * n)), .map (tkL A n k ++ fl (d + 1) (tkE A k)), .box 37 (bxQ (gs A k k k)), .box 37 (bxQ Q)]))
      (fun (j, G) => k ≤ j ∧ j ≤ n ∧ ∀ a b, a < n → b < n → G a b = if a = k + 1 + d ∧ k ≤ b ∧ b < j then F (k + 1 + d) b - Q * F k b else F a b) (fun x => n - x.1) (k, F) [0, 1, 2, 3, 4]
      ⟨Nat.le_refl _, by omega, fun a b _ _ => by rw [if_neg (by omega)]⟩ ⟨rfl, by simp, rfl, rfl, rfl, ⟨rfl, rfl, rfl, rfl, rfl, rfl, trivial⟩, ⟨rfl, rfl, rfl, rfl, rfl, trivial⟩⟩ ?_
    intro ⟨j, G⟩ ⟨hkj, hj, hG⟩
    by_cases hjn : j < n
    · refine SCmp.yes (decide_eq_true (by omega)) ?_
      have gi : G (k + 1 + d) j = F (k + 1 + d) j := by rw [hG _ j hin hjn, if_neg (by omega)]
      have gk : G k j = F k j := by rw [hG k j hk hjn, if_neg (by omega)]
      have z1 : Bz (G (k + 1 + d) j) D := by rw [gi]; exact zi j hjn
      have z2 : Bz (G k j) D := by rw [gk]; exact zk j hjn
      refine SDraw.mkX (by kernel_rfl) ?_
      repeat refine SOp.mk _ _ (And.intro rfl rfl) rfl ?_
      refine SOp.mk _ _ (SKeys.tab (fun _ _ => rfl) <| SGet.tab hin hjn (And.intro rfl rfl)) rfl ?_
      repeat refine SOp.mk _ _ (And.intro rfl rfl) rfl ?_
      refine SOp.mk _ _ (SKeys.tab (fun _ _ => rfl) <| SGet.tab hk hjn (And.intro rfl rfl)) rfl ?_
      repeat refine SOp.mk _ _ (And.intro rfl rfl) rfl ?_
      refine SOp.mk _ _ (SCall.pure (ratmul_ok _ _ zQ.sz z2.sz (by omega)) (And.intro rfl rfl)) rfl ?_
      refine SOp.mk _ _ (SCall.pure (ratsub_ok _ _ z1.sz (zQ.mul z2).sz (by omega)) (And.intro rfl rfl)) rfl ?_
      refine SOp.mk _ _ (SKeys.tab (fun _ _ => rfl) <| SPut.tabset hin hjn (And.intro rfl rfl)) rfl ?_
      refine SFin.mk (by kernel_rfl) ?_
      refine SWrap.i64z ((j + 1 : Nat) : Int) (by omega) (by omega) ?_
      refine ⟨(j + 1, _), [0, 1, 2, 3, 4], ⟨by omega, hjn, fun a b ha hb => ?_⟩, by show n - (j + 1) < n - j; omega, ⟨rfl, by simp, rfl, rfl, rfl, ⟨rfl, rfl, rfl, rfl, rfl, rfl, trivial⟩, ⟨rfl, rfl, rfl, rfl, rfl, trivial⟩⟩⟩
      by_cases e : a = k + 1 + d ∧ b = j
      · rw [if_pos e, if_pos ⟨e.1, by omega, by omega⟩, gi, gk, e.2]
      · rw [if_neg e, hG a b ha hb]
        by_cases c : a = k + 1 + d ∧ k ≤ b ∧ b < j
        · rw [if_pos c, if_pos ⟨c.1, c.2.1, by omega⟩]
        · rw [if_neg c, if_neg (by omega)]
    · refine SCmp.no (decide_eq_false (by omega)) ?_
      obtain rfl : j = n := by omega
      refine SWrap.i64z ((k + 1 + (d + 1) : Nat) : Int) (by omega) (by omega) ?_
      refine ⟨(d + 1, G), [0, 1, 2, 3], ⟨by omega, fun a b ha hb => ?_⟩, by show j - (d + 1) < j - d; omega, ⟨rfl, by simp, rfl, rfl, rfl, ⟨rfl, rfl, rfl, rfl, trivial⟩, ⟨rfl, rfl, rfl, rfl, trivial⟩⟩⟩
      rw [hG a b ha hb]
      by_cases c : a = k + 1 + d ∧ k ≤ b ∧ b < j
      · rw [if_pos c, if_pos (by omega), c.1, gs_gt (by omega) c.2.1, hQ, hFi b hb, hFk b hb, hFi k hk]
      · rw [if_neg c, hF a b ha hb]
        by_cases c2 : a = k + 1 + d
        · rw [if_neg (by omega), if_pos (by omega), gs_le (.inr (by omega))]
        · by_cases c3 : a < k + 1 + d
          · rw [if_pos c3, if_pos (by omega)]
          · rw [if_neg c3, if_neg (by omega)]
  · refine SCmp.no (decide_eq_false (by omega)) ?_
    have e1 : tabF n F (n * n) = tabF n (gs A (k + 1)) (n * n) := tabF_congr fun a b ha hb => by rw [hF a b ha hb, if_pos (by omega)]
    have e2 : tkL A n k ++ fl d (tkE A k) = tkL A n (k + 1) := by simp only [tkL]; rw [show d = n - 1 - k by omega]
    rw [← e1, ← e2]
    refine SRet.keep rfl
      (fun B hB k => by simp only [wkB, List.mem_cons, List.not_mem_nil, or_false] at hB; rcases hB with rfl | rfl | rfl <;> rfl) (fun i hi => by
        match i, hi with
        | 0, _ => exact trivial
        | 1, _ => exact trivial
        | 2, _ => exact trivial)
      (fun a B e1 => by
        match a, e1 with
        | 0, e1 =>
          cases e1
          refine .box (cs := wkA n 1 2) (fun d hd => by simp only [wkA, List.mem_cons, List.not_mem_nil, or_false] at hd; rcases hd with rfl | rfl | rfl <;> rfl) rfl fun b c d e1 e2 => ?_
          match b, e1, e2 with
          | 0, e1, e2 => cases e1; cases e2; exact .p _ (.int _ _)
          | 1, e1, e2 => cases e1; cases e2; exact .map rfl
          | 2, e1, e2 => cases e1; cases e2; exact .map rfl
        | 1, e1 => cases e1; exact .map pers_tab
        | 2, e1 => cases e1; exact .map (by rw [e2]; exact pers_tk (by omega))) (.tf _)
end Go.Proofs.Ytkaooejeljdbnaa

namespace Go.Proofs.Ytkaooejeljdbnaa
open Go
set_option linter.unusedVariables false
set_option linter.unusedSimpArgs false
set_option maxRecDepth 10000
theorem SKeys.tkn {b : PV → Bool} {A : Nat → Nat → Rat} {n k : Nat} {K : Prop} (hk : k ≤ n) (hb : ∀ i k : Nat, b (pairP i k) = true) (hK : K) : SKeys b (tkL A n k) K :=
  .mk (fun e he => by obtain ⟨i, j, rfl, _⟩ := tk_mem k hk e he; exact hb _ _) hK
theorem SGet.tk {A : Nat → Nat → Rat} {n i j : Nat} {K : Option PV → Prop} (hji : j < i) (hin : i < n) (hK : K (some (ratP (tkV A i j)))) : SGet (tkL A n n) (pairP i j) K := by
  obtain ⟨a, h1, h2⟩ := tk_get hji hin n (Nat.le_refl _) (show j < n by omega)
  exact .yes a _ h1 (by rw [keq_pair]; exact decide_eq_true ⟨rfl, rfl⟩) h2 hK
theorem SGet.tkno {A : Nat → Nat → Rat} {n i j : Nat} {K : Option PV → Prop} (hij : i ≤ j) (hK : K Option.none) : SGet (tkL A n n) (pairP i j) K :=
  .no (fun e he => by
    obtain ⟨i', j', rfl, _, h3, _⟩ := tk_mem n (Nat.le_refl _) e he
    rw [keq_pair]; exact decide_eq_false fun h => by omega) hK
/-- A matrix that was gone through, lent. -/
abbrev wkP (n : Nat) (A : Nat → Nat → Rat) : PV := .pel true (.agg [.int .i64 (n : Int), .mp true (tabF n (gs A n) (n * n)), .mp true (tkL A n n)])
theorem slower_ok (A : Nat → Nat → Rat) (n i j : Nat) (hi : i < n) (hj : j < n) : CallP Try.prog 109 [wkP n A, pairP i j] (.p (ratP (lowM A i j))) [] := by
  have hc := corner_ok i j
  by_cases e : i = j
  · rw [decide_eq_true e] at hc
    have : lowM A i j = 1 := if_pos e
    rw [this]
    refine callG_of_vc (wr := wr0) Γok mixed Try.func109 (by kernel_rfl) rfl (by kernel_rfl) (le_of_ble rfl) (by simp) ?_
    refine SCall.pure (hc) ?_
    refine SCond.mk (fun _ => ?_) (fun h => by cases h)
    refine SCall.pure (sone_ok) ?_
    exact SRet.pure (.p _ (pers_rat _ _ _))
  · rw [decide_eq_false e] at hc
    by_cases c : j < i
    · have : lowM A i j = tkV A i j := by unfold lowM; rw [if_neg e, if_pos c]; rfl
      rw [this]
      refine callG_of_vc (wr := wr0) Γok mixed Try.func109 (by kernel_rfl) rfl (by kernel_rfl) (le_of_ble rfl) (by simp) ?_
      refine SCall.pure (hc) ?_
      refine SCond.mk (fun h => by cases h) (fun _ => ?_)
      refine SDraw.mkX (by kernel_rfl) ?_
      repeat refine SOp.mk _ _ (And.intro rfl rfl) rfl ?_
      refine SOp.mk _ _ (SKeys.tkn (Nat.le_refl _) (fun _ _ => rfl) <| SGet.tk c hi (And.intro rfl rfl)) rfl ?_
      repeat refine SOp.mk _ _ (And.intro rfl rfl) rfl ?_
      refine SFin.mk (by kernel_rfl) ?_
      exact SRet.pure (.p _ (pers_rat _ _ _))
    · have : lowM A i j = 0 := by unfold lowM; rw [if_neg e, if_neg c]
      rw [this]
      refine callG_of_vc (wr := wr0) Γok mixed Try.func109 (by kernel_rfl) rfl (by kernel_rfl) (le_of_ble rfl) (by simp) ?_
      refine SCall.pure (hc) ?_
      refine SCond.mk (fun h => by cases h) (fun _ => ?_)
      refine SDraw.mkX (by kernel_rfl) ?_
      repeat refine SOp.mk _ _ (And.intro rfl rfl) rfl ?_
      refine SOp.mk _ _ (SKeys.tkn (Nat.le_refl _) (fun _ _ => rfl) <| SGet.tkno (by omega) (And.intro rfl rfl)) rfl ?_
      repeat refine SOp.mk _ _ (And.intro rfl rfl) rfl ?_
      refine SFin.mk (by kernel_rfl) ?_
      refine SCall.pure (szero_ok) ?_
      exact SRet.pure (.p _ (pers_rat _ _ _))
theorem supper_ok (A : Nat → Nat → Rat) (n i j : Nat) (hi : i < n) (hj : j < n) : CallP Try.prog 110 [wkP n A, pairP i j] (.p (ratP (uppM A i j))) [] := by
  by_cases c : j < i
  · have : uppM A i j = 0 := if_pos c
    rw [this]
    refine callG_of_vc (wr := wr0) Γok mixed Try.func110 (by kernel_rfl) rfl (by kernel_rfl) (le_of_ble rfl) (by simp) ?_
    refine SPos.mk 0 rfl (by decide) ?_
    refine SPos.mk 1 rfl (by decide) ?_
    refine SCmp.yes (decide_eq_true (by omega)) ?_
    refine SCall.pure (szero_ok) ?_
    exact SRet.pure (.p _ (pers_rat _ _ _))
  · have : uppM A i j = gs A n i j := by unfold uppM; rw [if_neg c]; exact (gs_row' (by omega)).symm
    rw [this]
    refine callG_of_vc (wr := wr0) Γok mixed Try.func110 (by kernel_rfl) rfl (by kernel_rfl) (le_of_ble rfl) (by simp) ?_
    refine SPos.mk 0 rfl (by decide) ?_
    refine SPos.mk 1 rfl (by decide) ?_
    refine SCmp.no (decide_eq_false (by omega)) ?_
    refine SDraw.mkX (by kernel_rfl) ?_
    repeat refine SOp.mk _ _ (And.intro rfl rfl) rfl ?_
    refine SOp.mk _ _ (SKeys.tab (fun _ _ => rfl) <| SGet.tab hi hj (And.intro rfl rfl)) rfl ?_
    repeat refine SOp.mk _ _ (And.intro rfl rfl) rfl ?_
    refine SFin.mk (by kernel_rfl) ?_
    exact SRet.pure (.p _ (pers_rat _ _ _))
theorem smade_ok (f : FuncId) (p : PV) (n : Nat) (F : Nat → Nat → Rat) {b : Nat} (hF : ∀ i j, i < n → j < n → CallP Try.prog f [p, pairP i j] (.p (ratP (F i j))) []) (hB : ∀ i j, i < n → j < n → Bz (F i j) b) (hb : b ≤ 1000000) (hn : n ≤ 1000) :
    CallP Try.prog 108 [.int .i64 n, .mfn f [p]] (.p (matP false false n n F)) [] := by
  refine callG_of_vc (wr := wr0) Γok mixed Try.func108 (by kernel_rfl) rfl (by kernel_rfl) (le_of_ble rfl) (by simp) ?_
  refine SZ.mk (n : Int) rfl ?_
  refine SLt.mk (by simp) ?_
  refine SMake.mk n rfl (by simp; omega) (by omega) ?_
  refine SMk.rows ?_
  refine SZ.mk (n : Int) rfl ?_
  refine SLoop.mkT Nat (fun i => ([(0, .p (.int .i64 n)), (1, .p (.mfn f [p])), (5, .vec 0 1 0 n), (11, .p (.int .i64 n)), (12, .p (.int .i64 i))], [.rows 25 (half 1 n n i), .pool 37 3 (plr i n F)]))
    (fun i => i ≤ n) (fun i => n - i) 0 [0, 1] _ _ (.pool 37 3 (.done _ _)) (Nat.zero_le _) ⟨rfl, by simp, rfl, rfl, rfl, ⟨rfl, rfl, rfl, rfl, rfl, trivial⟩, ⟨congrArg _ half_ren0, rfl, half_in fun i hi => absurd hi (Nat.not_lt_zero _), trivial⟩⟩ ?_
  intro i hi
  have hi : i ≤ n := hi
  by_cases hin : i < n
  · refine SCmp.yes (decide_eq_true (by omega)) ?_
    refine SZ.mk (n : Int) rfl ?_
    refine SLt.mk (by simp) ?_
    refine SMake.rat n rfl (by omega) ?_
    refine SPos.mk i rfl hin ?_
    refine SLt.mk (by simp; omega) ?_
    refine SAs.mk (halq 1 n n i 2) half_set ?_
    refine SPos.mk i rfl hin ?_
    refine SIdxA.mk i _ rfl (halq_get hin) ?_
    refine SZ.mk (n : Int) rfl ?_
    refine SLoop.mk Nat (fun j => ([(0, .p (.int .i64 n)), (1, .p (.mfn f [p])), (5, .vec 0 1 0 n), (6, .p (.int .i64 i)), (11, .p (.int .i64 n)), (12, .p (.int .i64 i)), (24, .p (.int .i64 n)), (25, .p (.int .i64 j))], [.rows 25 (halq 1 n n i 2), .pool 37 3 (plr i n F), .vec 37 3 (fl n fun k => if k < j then ratP (F i k) else rat0)]))
      (fun j => j ≤ n) (fun j => n - j) 0 [0, 1, 2] (Nat.zero_le _) ⟨rfl, by simp, rfl, rfl, rfl, ⟨rfl, rfl, rfl, rfl, rfl, rfl, rfl, rfl, trivial⟩, ⟨congrArg _ (halq_ren 1 2 rfl (by decide) rfl (by decide)), rfl, congrArg _ ((fl_congr fun k hk => if_neg (by omega)).trans (replicate_fl n rat0).symm), halq_in (fun i hi => by simpa [plenAt] using hi) (fun e => by cases e), trivial⟩⟩ ?_
    intro j hj
    have hj : j ≤ n := hj
    by_cases hjn : j < n
    · refine SCmp.yes (decide_eq_true (by omega)) ?_
      have hFij := hF i j hin hjn
      refine SDraw.mkX (by kernel_rfl) ?_
      repeat refine SOp.mk _ _ (And.intro rfl rfl) rfl ?_
      refine SOp.mk _ _ (SPos.mk i rfl hin (And.intro rfl rfl)) rfl ?_
      refine SOp.mk _ _ (SIdxA.mk i _ rfl (halq_get hin) (And.intro rfl rfl)) rfl ?_
      repeat refine SOp.mk _ _ (And.intro rfl rfl) rfl ?_
      refine SOp.mk _ _ (SCall.pure (pvs := [p, pairP i j]) hFij (And.intro rfl rfl)) rfl ?_
      refine SOp.mk _ _ (SCall.pure (szero_ok) (And.intro rfl rfl)) rfl ?_
      refine SOp.mk _ _ (SCall.pure (gcopy_ok (hB i j hin hjn) hb) (And.intro rfl rfl)) rfl ?_
      refine SOp.mk _ _ (SPos.mk j rfl hjn (And.intro rfl rfl)) rfl ?_
      refine SOp.mk _ _ (SLt.mk (by simp; omega) <| SEs.mk _ (row_step hjn) (And.intro rfl rfl)) rfl ?_
      repeat refine SOp.mk _ _ (And.intro rfl rfl) rfl ?_
      refine SFin.mk (by kernel_rfl) ?_
      refine SWrap.i64z ((j + 1 : Nat) : Int) (by omega) (by omega) ?_
      exact ⟨j + 1, [0, 1, 2], hjn, by show n - (j + 1) < n - j; omega, ⟨rfl, by simp, rfl, rfl, rfl, ⟨rfl, rfl, rfl, rfl, rfl, rfl, rfl, rfl, trivial⟩, ⟨congrArg _ (halq_ren 1 2 rfl (by decide) rfl (by decide)), rfl, rfl, halq_in (fun i hi => by simpa [plenAt] using hi) (fun e => by cases e), trivial⟩⟩⟩
    · refine SCmp.no (decide_eq_false (by omega)) ?_
      obtain rfl : j = n := by omega
      refine SWrap.i64z ((i + 1 : Nat) : Int) (by omega) (by omega) ?_
      exact ⟨i + 1, [0, 3001], hin, by show j - (i + 1) < j - i; omega, ⟨rfl, by simp, rfl, rfl, rfl, ⟨rfl, rfl, rfl, rfl, rfl, trivial⟩, ⟨congrArg _ (half_absorb rfl (by decide) (by simp [plenAt])), ⟨_, _, _, _, rfl, rfl, congrArg _ (plr_snoc.trans (congrArg (fun r => plr i j F ++ [some r]) row_full))⟩, half_in fun i hi => by simpa [plenAt] using hi, trivial⟩⟩⟩
  · refine SCmp.no (decide_eq_false (by omega)) ?_
    obtain rfl : i = n := by omega
    exact SRet.pure (frzM (H := [_, _]) (h := 0) (p := 1) (congrArg (Blk.rows _) half_full) rfl fun i hi => hi)
abbrev wrS : FuncId → Bool := fun f => Nat.beq f 107
theorem sfactorZ_ok (m : Nat → Bool) (g : GV) {b c D : Nat} (h : Wf g b c) (hB : GsB (ent g) g.n D) (hD : 4 * D ≤ 1048576) (hz : brkN (ent g) g.n < g.n) :
    CallP Try.prog 57 [genP m g] (.tup [.p (.sl false 1 []), .p (.sl false 1 []), .p (.int .i64 ((brkN (ent g) g.n + 1 : Nat) : Int)), .p (.int .i64 8)]) [] := by
  have h6 := h.n6
  have n1 := h.n1
  obtain ⟨b1, b2, b3⟩ := brkN_spec (ent g) g.n
  obtain ⟨K, hK⟩ : ∃ K, K = brkN (ent g) g.n := ⟨_, rfl⟩
  rw [← hK] at b1 b2 b3 hz ⊢
  have b3 := b3 hz
  refine callG_of_vc (wr := wrS) Γok mixed Try.func57 (by kernel_rfl) rfl (by kernel_rfl) (le_of_ble rfl) (by simp) ?_
  refine SCall.pure (gexpand_ok m g h) ?_
  refine SNil.mk (fun _ => ?_) (fun h => absurd h (by simp; omega))
  refine SCall.news (sof_ok false false g.n (ent g) (by omega)) (fun B hB => by simp only [wkB, List.mem_cons, List.not_mem_nil, or_false] at hB; rcases hB with rfl | rfl | rfl <;> exact fun e => by cases e) ?_
  refine SLoop.mk Nat (fun k => ([(7, .bptr 0 0), (18, .p (.int .i64 g.n)), (19, .p (.int .i64 k))], wkB g.n (tabF g.n (gs (ent g) k) (g.n * g.n)) (tkL (ent g) g.n k)))
    (fun k => k ≤ K) (fun k => g.n - k) 0 [1, 2, 3] (Nat.zero_le _) ⟨rfl, by simp, rfl, rfl, rfl, ⟨rfl, rfl, rfl, trivial⟩, ⟨rfl, rfl, rfl, trivial⟩⟩ ?_
  intro k hk
  have hk : k ≤ K := hk
  refine SCmp.yes (decide_eq_true (by omega)) ?_
  by_cases e : k < K
  · refine SCall.three 0 1 2 (step_ok (ent g) g.n k (by omega) (by omega) (b2 k e) hB hD)
      (by decide) (by decide) (by decide) (by decide) rfl ⟨rfl, fun _ => rfl⟩ ⟨rfl, fun _ => rfl⟩ ⟨rfl, fun _ => rfl⟩
        (fun B hB => by simp only [List.mem_cons, List.not_mem_nil, or_false] at hB; rcases hB with rfl | rfl | rfl <;> exact ⟨fun e => by (cases e), fun e => by (cases e)⟩)
        (fun B hB k hk => by
          simp only [List.mem_cons, List.not_mem_nil, or_false] at hB
          rcases hB with rfl | rfl | rfl
          · simp only [Blk.men, AV.menL, AV.men, or_false, false_or] at hk
            rcases hk with rfl | rfl <;> decide
          · exact hk.elim
          · exact hk.elim)
        (fun B hB => by simp only [List.mem_cons, List.not_mem_nil, or_false] at hB; rcases hB with rfl | rfl | rfl <;> exact fun e => by (cases e))
        (fun a ha k hk => by
          simp only [List.mem_cons, List.not_mem_nil, or_false] at ha
          rcases ha with rfl | rfl
          · simp only [AV.men] at hk; subst hk; decide
          · simp only [AV.men] at hk) ?_
    refine SCmp.no (rfl) ?_
    refine SWrap.i64z ((k + 1 : Nat) : Int) (by omega) (by omega) ?_
    exact ⟨k + 1, [0, 1, 2], e, by show g.n - (k + 1) < g.n - k; omega, ⟨rfl, by simp, rfl, rfl, rfl, ⟨rfl, rfl, rfl, trivial⟩, ⟨rfl, rfl, rfl, trivial⟩⟩⟩
  · obtain rfl : k = K := by omega
    refine SCall.three 0 1 2 (stepZ_ok (ent g) g.n k (by omega) (by omega) b3)
      (by decide) (by decide) (by decide) (by decide) rfl ⟨rfl, fun _ => rfl⟩ ⟨rfl, fun _ => rfl⟩ ⟨rfl, fun _ => rfl⟩
        (fun B hB => by simp only [List.mem_cons, List.not_mem_nil, or_false] at hB; rcases hB with rfl | rfl | rfl <;> exact ⟨fun e => by (cases e), fun e => by (cases e)⟩)
        (fun B hB k hk => by
          simp only [List.mem_cons, List.not_mem_nil, or_false] at hB
          rcases hB with rfl | rfl | rfl
          · simp only [Blk.men, AV.menL, AV.men, or_false, false_or] at hk
            rcases hk with rfl | rfl <;> decide
          · exact hk.elim
          · exact hk.elim)
        (fun B hB => by simp only [List.mem_cons, List.not_mem_nil, or_false] at hB; rcases hB with rfl | rfl | rfl <;> exact fun e => by (cases e))
        (fun a ha k hk => by
          simp only [List.mem_cons, List.not_mem_nil, or_false] at ha
          rcases ha with rfl | rfl
          · simp only [AV.men] at hk; subst hk; decide
          · simp only [AV.men] at hk) ?_
    refine SCmp.yes (rfl) ?_
    refine SWrap.i64z ((k + 1 : Nat) : Int) (by omega) (by omega) ?_
    exact SRet.pure (.tup rfl fun i c d e1 e2 => by
      match i, e1, e2 with
      | 0, e1, e2 => cases e1; cases e2; exact .emp 1
      | 1, e1, e2 => cases e1; cases e2; exact .emp 1
      | 2, e1, e2 => cases e1; cases e2; exact .p _ (.int _ _)
      | 3, e1, e2 => cases e1; cases e2; exact .p _ (.int _ _))
theorem sfactor_ok (m : Nat → Bool) (g : GV) {b c D : Nat} (h : Wf g b c) (hB : GsB (ent g) g.n D) (hD : 4 * D ≤ 1000000) (hp : ∀ t, t < g.n → piv (ent g) t ≠ 0) :
    CallP Try.prog 57 [genP m g] (.tup [.p (matP false false g.n g.n (lowM (ent g))), .p (matP false false g.n g.n (uppM (ent g))), .p (.int .i64 0), .p (.int .i64 0)]) [] := by
  have h6 := h.n6
  have n1 := h.n1
  have zL : ∀ i j, i < g.n → j < g.n → Bz (lowM (ent g) i j) (D + D + 1) := fun i j hi hj => by
    unfold lowM
    split
    · exact bz_one.mono (by omega)
    · split
      · exact ((hB j (by omega) i j hi hj).div (hB j (by omega) j j hj hj)).mono (by omega)
      · exact bz_zero.mono (by omega)
  have zU : ∀ i j, i < g.n → j < g.n → Bz (uppM (ent g) i j) (D + D + 1) := fun i j hi hj => by
    unfold uppM
    split
    · exact bz_zero.mono (by omega)
    · exact (hB i (by omega) i j hi hj).mono (by omega)
  refine callG_of_vc (wr := wrS) Γok mixed Try.func57 (by kernel_rfl) rfl (by kernel_rfl) (le_of_ble rfl) (by simp) ?_
  refine SCall.pure (gexpand_ok m g h) ?_
  refine SNil.mk (fun _ => ?_) (fun h => absurd h (by simp; omega))
  refine SCall.news (sof_ok false false g.n (ent g) (by omega)) (fun B hB => by simp only [wkB, List.mem_cons, List.not_mem_nil, or_false] at hB; rcases hB with rfl | rfl | rfl <;> exact fun e => by cases e) ?_
  refine SLoop.mk Nat (fun k => ([(7, .bptr 0 0), (18, .p (.int .i64 g.n)), (19, .p (.int .i64 k))], wkB g.n (tabF g.n (gs (ent g) k) (g.n * g.n)) (tkL (ent g) g.n k)))
    (fun k => k ≤ g.n) (fun k => g.n - k) 0 [1, 2, 3] (Nat.zero_le _) ⟨rfl, by simp, rfl, rfl, rfl, ⟨rfl, rfl, rfl, trivial⟩, ⟨rfl, rfl, rfl, trivial⟩⟩ ?_
  intro k hk
  have hk : k ≤ g.n := hk
  by_cases hkn : k < g.n
  · refine SCmp.yes (decide_eq_true (by omega)) ?_
    refine SCall.three 0 1 2 (step_ok (ent g) g.n k hkn (by omega) (hp k hkn) hB (by omega))
      (by decide) (by decide) (by decide) (by decide) rfl ⟨rfl, fun _ => rfl⟩ ⟨rfl, fun _ => rfl⟩ ⟨rfl, fun _ => rfl⟩
        (fun B hB => by simp only [List.mem_cons, List.not_mem_nil, or_false] at hB; rcases hB with rfl | rfl | rfl <;> exact ⟨fun e => by (cases e), fun e => by (cases e)⟩)
        (fun B hB k hk => by
          simp only [List.mem_cons, List.not_mem_nil, or_false] at hB
          rcases hB with rfl | rfl | rfl
          · simp only [Blk.men, AV.menL, AV.men, or_false, false_or] at hk
            rcases hk with rfl | rfl <;> decide
          · exact hk.elim
          · exact hk.elim)
        (fun B hB => by simp only [List.mem_cons, List.not_mem_nil, or_false] at hB; rcases hB with rfl | rfl | rfl <;> exact fun e => by (cases e))
        (fun a ha k hk => by
          simp only [List.mem_cons, List.not_mem_nil, or_false] at ha
          rcases ha with rfl | rfl
          · simp only [AV.men] at hk; subst hk; decide
          · simp only [AV.men] at hk) ?_
    refine SCmp.no (rfl) ?_
    refine SWrap.i64z ((k + 1 : Nat) : Int) (by omega) (by omega) ?_
    exact ⟨k + 1, [0, 1, 2], hkn, by show g.n - (k + 1) < g.n - k; omega, ⟨rfl, by simp, rfl, rfl, rfl, ⟨rfl, rfl, rfl, trivial⟩, ⟨rfl, rfl, rfl, trivial⟩⟩⟩
  · refine SCmp.no (decide_eq_false (by omega)) ?_
    obtain rfl : k = g.n := by omega
    have c1 := smade_ok 109 (wkP g.n (ent g)) g.n (lowM (ent g)) (fun i j hi hj => slower_ok (ent g) g.n i j hi hj) zL (by omega) (by omega)
    have c2 := smade_ok 110 (wkP g.n (ent g)) g.n (uppM (ent g)) (fun i j hi hj => supper_ok (ent g) g.n i j hi hj) zU (by omega) (by omega)
    refine SDraw.mkX (by kernel_rfl) ?_
    repeat refine SOp.mk _ _ (And.intro rfl rfl) rfl ?_
    refine SOp.mk _ _ (SCall.pure (c1) (And.intro rfl rfl)) rfl ?_
    repeat refine SOp.mk _ _ (And.intro rfl rfl) rfl ?_
    refine SOp.mk _ _ (SCall.pure (c2) (And.intro rfl rfl)) rfl ?_
    repeat refine SOp.mk _ _ (And.intro rfl rfl) rfl ?_
    refine SFin.mk (by kernel_rfl) ?_
    exact SRet.pure (.tup rfl fun i c d e1 e2 => by
      match i, e1, e2 with
      | 0, e1, e2 => cases e1; cases e2; exact .p _ pers_matP
      | 1, e1, e2 => cases e1; cases e2; exact .p _ pers_matP
      | 2, e1, e2 => cases e1; cases e2; exact .p _ (.int _ _)
      | 3, e1, e2 => cases e1; cases e2; exact .p _ (.int _ _))
end Go.Proofs.Ytkaooejeljdbnaa

namespace Go.Proofs.Ytkaooejeljdbnaa
open Go
set_option linter.unusedVariables false
set_option linter.unusedSimpArgs false
set_option maxRecDepth 10000
theorem within11_ok (a n : Int) (hn : 0 < n) (hn' : n < 4611686018427387904) : CallP Try.prog 60 [.int .i64 a, .int .i64 n] (.p (.int .i64 (a % n))) [] := by
  refine callG_of_vc (wr := wr0) Γok mixed Try.func60 (by kernel_rfl) rfl (by kernel_rfl) (le_of_ble rfl) (by simp) ?_
  have hw := within_aux (a := a) hn
  have hb := tmod_bd a hn
  obtain ⟨r, hr⟩ : ∃ r, r = a.tmod n := ⟨_, rfl⟩
  rw [← hr] at hw hb
  refine SNe.mk (by omega) ?_
  refine SZ.mk r hr.symm ?_
  by_cases h : r < 0
  · refine SCmp.yes (decide_eq_true (by omega)) ?_
    refine SWrap.i64z (r + n) rfl (by omega) ?_
    rw [if_pos h] at hw
    rw [← hw]
    exact SRet.pure (.p _ (.int _ _))
  · refine SCmp.no (decide_eq_false (by omega)) ?_
    rw [if_neg h] at hw
    rw [← hw]
    exact SRet.pure (.p _ (.int _ _))
end Go.Proofs.Ytkaooejeljdbnaa

namespace Go.Proofs.Ytkaooejeljdbnaa
open Go
set_option linter.unusedVariables false
set_option linter.unusedSimpArgs false
set_option maxRecDepth 10000
theorem rall_ok (m m' q q' : Bool) (n w : Nat) (A : Nat → Nat → Rat) {a : Nat} (hA : ∀ i k, i < n → k < w → Bz (A i k) a) (ha : a + a ≤ 1048576) (hn : n ≤ 1000) (hw : w ≤ 1000) :
    CallP Try.prog 59 [matP m m' n w A, matP q q' n w A] (.p (.bool true)) [] := by
  refine callG_of_vc (wr := wr0) Γok mixed Try.func59 (by kernel_rfl) rfl (by kernel_rfl) (le_of_ble rfl) (by simp) ?_
  refine SZ.mk (n : Int) (by simp) ?_
  refine SZ.mk (n : Int) (by simp) ?_
  refine SCmp.no (neF rfl) ?_
  refine SLoop.mk Nat (fun i => ([(0, .p (matP m m' n w A)), (1, .p (matP q q' n w A)), (5, .p (.int .i64 i))], []))
    (fun i => i ≤ n) (fun i => n - i) 0 [] (Nat.zero_le _) ⟨rfl, .nil, rfl, rfl, rfl, ⟨rfl, rfl, rfl, trivial⟩, trivial⟩ ?_
  intro i hi
  have hi : i ≤ n := hi
  refine SZ.mk (n : Int) (by simp) ?_
  by_cases hin : i < n
  · refine SCmp.yes (decide_eq_true (by omega)) ?_
    have hl : Bl (lst w (A i)) a := Bl.lst fun k hk => hA i k hin hk
    have hR := rrows_ok m' q' (lst w (A i)) (lst w (A i)) hl hl ha (by rw [lst_length]; omega)
    rw [decide_eq_true rfl] at hR
    refine SDraw.mk (by kernel_rfl) ?_
    repeat refine SOp.mk _ _ (And.intro rfl rfl) rfl ?_
    refine SOp.mk _ _ (SIdx.mf i rfl hin (And.intro rfl rfl)) rfl ?_
    repeat refine SOp.mk _ _ (And.intro rfl rfl) rfl ?_
    refine SOp.mk _ _ (SIdx.mf i rfl hin (And.intro rfl rfl)) rfl ?_
    repeat refine SOp.mk _ _ (And.intro rfl rfl) rfl ?_
    refine SOp.mk _ _ (SCall.pure (hR) (And.intro rfl rfl)) rfl ?_
    refine SOp.mk _ _ (SCmp.no rfl (And.intro rfl rfl)) rfl ?_
    refine SWrap.i64z ((i + 1 : Nat) : Int) (by omega) (by omega) ?_
    exact ⟨i + 1, [], hin, by show n - (i + 1) < n - i; omega, ⟨rfl, .nil, rfl, rfl, rfl, ⟨rfl, rfl, rfl, trivial⟩, trivial⟩⟩
  · refine SCmp.no (decide_eq_false (by omega)) ?_
    exact SRet.pure (.tf _)
/-- What is told of a tree is told of another one. -/
def PRle (p' p : PV) : Prop := ∀ w FB v, PR w FB p' v → PR w FB p v
theorem PRle.refl (p : PV) : PRle p p := fun _ _ _ h => h
theorem PRle.nil (m : Bool) (W : Nat) : PRle (.raw (.slice none 0 0)) (.sl m W []) := fun w FB v h => by cases h; exact .nil _ _ _
theorem PRle.agg {cs' cs : List PV} (hl : cs'.length = cs.length) (ho : ∀ c ∈ cs, c.one = true) (h : ∀ (i : Nat) c' c, cs'[i]? = some c' → cs[i]? = some c → PRle c' c) : PRle (.agg cs') (.agg cs) := fun w FB v hv => by
  cases hv with
  | agg _ vs hone hl' h' =>
    refine .agg cs vs ho (by rw [hl', hl]) fun i c v e1 e2 => ?_
    have hi : i < cs'.length := by rw [hl]; exact (List.getElem?_eq_some_iff.1 e1).1
    exact h i cs'[i] c (List.getElem?_eq_getElem hi) e1 _ _ _ (h' i _ v (List.getElem?_eq_getElem hi) e2)
theorem CallG.weak {P : Program} {f : FuncId} {pvs pvs' : List PV} {r : AV} {nb : List Blk} (hc : CallP P f pvs r nb) (hl : pvs'.length = pvs.length) (h : ∀ (i : Nat) p' p, pvs'[i]? = some p' → pvs[i]? = some p → PRle p' p) : CallP P f pvs' r nb :=
  ⟨hc.fn, fun w F Bor β vs ha => hc.run w F Bor β vs { ha with
    len := by rw [ha.len, List.length_map, List.length_map, hl]
    rel := fun i a v e1 e2 => by
      rw [List.getElem?_map] at e1
      cases e : pvs[i]? with
      | none => rw [e] at e1; cases e1
      | some p =>
        rw [e] at e1; cases e1
        have hi : i < pvs'.length := by rw [hl]; exact (List.getElem?_eq_some_iff.1 e).1
        have e' : pvs'[i]? = some pvs'[i] := List.getElem?_eq_getElem hi
        have := ha.rel i (.p pvs'[i]) v (by rw [List.getElem?_map, e']; rfl) e2
        exact .p (h i _ p e' e _ _ _ this.pOf)
    ma := fun a ha k hk => by obtain ⟨v, _, rfl⟩ := List.mem_map.1 ha; simp only [AV.men] at hk }⟩
end Go.Proofs.Ytkaooejeljdbnaa

namespace Go.Proofs.Ytkaooejeljdbnaa
open Go
set_option linter.unusedVariables false
set_option linter.unusedSimpArgs false
set_option maxRecDepth 10000
structure CauG (g : GV) (b c : Nat) : Prop extends Wf g b c where
  k5 : g.k = 5
theorem CauG.la {g : GV} {b c : Nat} (h : CauG g b c) : g.la = g.n := h.toWf.la3 (by have := h.k5; omega)
theorem CauG.lb {g : GV} {b c : Nat} (h : CauG g b c) : g.lb = g.n := h.toWf.lb5 (by have := h.k5; omega)
end Go.Proofs.Ytkaooejeljdbnaa

namespace Go.Proofs.Ytkaooejeljdbnaa
open Go
set_option linter.unusedVariables false
set_option linter.unusedSimpArgs false
set_option maxRecDepth 10000
theorem PRle.gen {m : Nat → Bool} {g : GV} {k n r : Int} {a b c d : PV} (hk : k = g.k) (hn : n = g.n) (hr : r = g.r) (ha : PRle a (ratsM (m 0) (lst g.la g.A))) (hb : PRle b (ratsM (m 1) (lst g.lb g.B))) (hc : PRle c (ratsM (m 2) (lst g.lh g.G))) (hd : PRle d (ratsM (m 3) (lst g.lh g.H))) :
    PRle (.agg [.int .i64 k, .int .i64 n, .int .i64 r, a, b, c, d]) (genP m g) := by
  subst hk; subst hn; subst hr
  refine PRle.agg rfl (fun c hc => ?_) fun i c' c e1 e2 => ?_
  · simp only [genC, List.mem_cons, List.not_mem_nil, or_false] at hc
    rcases hc with rfl | rfl | rfl | rfl | rfl | rfl | rfl <;> rfl
  · match i, e1, e2 with
    | 0, e1, e2 => cases e1; cases e2; exact .refl _
    | 1, e1, e2 => cases e1; cases e2; exact .refl _
    | 2, e1, e2 => cases e1; cases e2; exact .refl _
    | 3, e1, e2 => cases e1; cases e2; exact ha
    | 4, e1, e2 => cases e1; cases e2; exact hb
    | 5, e1, e2 => cases e1; cases e2; exact hc
    | 6, e1, e2 => cases e1; cases e2; exact hd
theorem CallG.weak1 {P : Program} {f : FuncId} {p p' : PV} {r : AV} {nb : List Blk} (hc : CallP P f [p] r nb) (h : PRle p' p) : CallP P f [p'] r nb :=
  CallG.weak hc rfl fun i p1 p2 e1 e2 => by
    match i, e1, e2 with
    | 0, e1, e2 => cases e1; cases e2; exact h
theorem half15_ok : CallP Try.prog 58 [.int .i64 1, .int .i64 2] (.tup [.p (ratP (1 / 2)), .p (.int .i64 0)]) [] := by
  have h := rof2_ok 1 2 (by omega) (by omega) (by omega)
  have e : mkQ (decide ((1 : Int) < 0) != decide ((2 : Int) < 0)) (1 : Int).natAbs (2 : Int).natAbs = 1 / 2 := by decide +kernel
  rwa [e] at h
end Go.Proofs.Ytkaooejeljdbnaa

namespace Go.Proofs.Ytkaooejeljdbnaa
open Go
set_option linter.unusedVariables false
set_option linter.unusedSimpArgs false
set_option maxRecDepth 10000
def m11 : Nat → Bool
  | 0 => true
  | _ => false
def g11 : GV := ⟨1, 1, 0, fun _ => ((4 : Int) : Rat), fun _ => 0, fun _ => 0, fun _ => 0⟩
theorem wf_g11 : Wf g11 5 13 where
  k1 := by decide
  k7 := by decide
  n1 := by decide
  n6 := by decide
  r2 := by decide
  r1 := fun h => by rcases h with h | h <;> cases h
  r0 := fun _ => rfl
  bA := fun i _ => int_bz (by decide) (by decide)
  bB := fun i _ => bz_zero.mono (by decide)
  bG := fun i _ => bz_zero.mono (by decide)
  bH := fun i _ => bz_zero.mono (by decide)
  ne := fun i j _ hj => absurd hj (Nat.not_lt_zero _)
  bc := by decide
  c4 := by decide
/-- The last step changes no row. -/
theorem GsB.of' {A : Nat → Nat → Rat} {n b : Nat} (n1 : 1 ≤ n) (hA : ∀ i j, i < n → j < n → Bz (A i j) b) : GsB A n (bb b (n - 1)) := fun k hk i j hi hj => by
  by_cases e : k = n
  · obtain ⟨d, rfl⟩ : ∃ d, n = d + 1 := ⟨n - 1, by omega⟩
    rw [e, gs_le (.inl (by omega))]
    exact (gs_bz hA d (by omega) i j hi hj)
  · exact (gs_bz hA k hk i j hi hj).mono (bb_mono (by omega))
/-- Digits of what is left behind any step, of a Gen of the statements. -/
theorem gsB_wf {g : GV} (h : Wf g 5 13) (h5 : g.n ≤ 5) : GsB (ent g) g.n 42100 := fun k hk i j hi hj =>
  (GsB.of' (b := 163) h.n1 (fun i j hi hj => h.bEnt hi hj) k hk i j hi hj).mono (Nat.le_trans (bb_mono (show g.n - 1 ≤ 4 by omega)) (by decide +kernel))
/-- One row, of one number, made anew. -/
theorem all1_ok (A : Nat → Nat → Rat) {a : Nat} (hA : Bz (A 0 0) a) (ha : a + a ≤ 1048576) : CallP Try.prog 59 [matP false false 1 1 A, .sl true 1 [ratsM true (lst 1 fun _ => A 0 0)]] (.p (.bool true)) [] := by
  have h := rall_ok false false true true 1 1 A (a := a) (fun i k hi hk => by
    obtain rfl : i = 0 := by omega
    obtain rfl : k = 0 := by omega
    exact hA) ha (by decide) (by decide)
  exact h
theorem known11_ok : CallP Try.prog 55 [] (.p (.bool true)) [] := by
  have hf := sfactor_ok m11 g11 wf_g11 (gsB_wf wf_g11 (by decide)) (by decide) (fun t ht => by
    obtain rfl : t = 0 := by have : t < 1 := ht; omega
    show ent g11 0 0 ≠ 0
    decide +kernel)
  have e1 : lowM (ent g11) 0 0 = ((1 : Int) : Rat) := by decide +kernel
  have e2 : uppM (ent g11) 0 0 = ((4 : Int) : Rat) := by decide +kernel
  have a1 := all1_ok (lowM (ent g11)) (a := 5) (by rw [e1]; exact int_bz (by decide) (by decide)) (by decide)
  have a2 := all1_ok (uppM (ent g11)) (a := 5) (by rw [e2]; exact int_bz (by decide) (by decide)) (by decide)
  rw [e1] at a1
  rw [e2] at a2
  refine callG_of_vc (wr := wr0) Γok mixed Try.func55 (by kernel_rfl) rfl (by kernel_rfl) (le_of_ble rfl) (by simp) ?_
  refine SCall.pure (rint_ok 4 (by decide)) ?_
  refine SView.all rfl <| SCall.pureT (pvs := [.agg [.int .i64 1, .int .i64 1, .int .i64 0, ratsM true (lst 1 g11.A), znil, znil, znil]]) (CallG.weak1 hf (.gen rfl rfl rfl (.refl _) (.nil _ _) (.nil _ _) (.nil _ _))) (fun _ => rfl) ?_
  refine SCmp.yes (rfl) ?_
  refine SCmp.yes (rfl) ?_
  refine SCall.pure (rint_ok 1 (by decide)) ?_
  refine SLendR.mk [ratsM true (lst 1 fun _ => ((1 : Int) : Rat))] rfl rfl (fun i c p e1 e2 => ?_) ?_
  · match i, e1, e2 with
    | 0, e1, e2 => cases e1; cases e2; exact .vec (es := rats (lst 1 fun _ => ((1 : Int) : Rat))) rfl (by decide)
  refine SCall.pure (a1) ?_
  refine SCond.mk (fun _ => ?_) (fun h => by cases h)
  refine SCall.pure (rint_ok 4 (by decide)) ?_
  refine SLendR.mk [ratsM true (lst 1 fun _ => ((4 : Int) : Rat))] rfl rfl (fun i c p e1 e2 => ?_) ?_
  · match i, e1, e2 with
    | 0, e1, e2 => cases e1; cases e2; exact .vec (es := rats (lst 1 fun _ => ((4 : Int) : Rat))) rfl (by decide)
  refine SCall.pure (a2) ?_
  exact SRet.pure (.p _ (.bool _))
end Go.Proofs.Ytkaooejeljdbnaa

namespace Go.Proofs.Ytkaooejeljdbnaa
open Go
set_option linter.unusedVariables false
set_option linter.unusedSimpArgs false
set_option maxRecDepth 10000
theorem LendR2 {L : Hd → Blk} {h1 h2 : Hd} {T : TypeId} {e1 e2 : List PV} {K : List PV → Prop} (a : L h1 = .vec T 3 e1) (b : L h2 = .vec T 3 e2) (la : e1.length = 2) (lb : e2.length = 2) (hk : K [.sl true 3 e1, .sl true 3 e2]) : SLendR L [.vec h1 3 0 2, .vec h2 3 0 2] 2 K := by
  refine .mk _ rfl rfl (fun i c p g1 g2 => ?_) hk
  match i, g1, g2 with
  | 0, g1, g2 =>
    cases g1; cases g2
    have := LendR.vec (off := 0) (len := 2) a (by omega)
    rwa [List.drop_zero, List.take_of_length_le (by omega)] at this
  | 1, g1, g2 =>
    cases g1; cases g2
    have := LendR.vec (off := 0) (len := 2) b (by omega)
    rwa [List.drop_zero, List.take_of_length_le (by omega)] at this
  | i + 2, g1, g2 => simp at g1
/-- The row of a matrix of two. -/
def pA (a b c : Int) (i : Nat) : Rat := if i = 0 then (a : Rat) else if i = 1 then (b : Rat) else (c : Rat)
def gp (a b c : Int) : GV := ⟨1, 2, 0, pA a b c, fun _ => 0, fun _ => 0, fun _ => 0⟩
abbrev gpP (a b c : Int) : PV := .agg [.int .i64 1, .int .i64 2, .int .i64 0, ratsM false (lst 3 (pA a b c)), znil, znil, znil]
theorem wf_gp {a b c : Int} (ha : a.natAbs < 32) (hb : b.natAbs < 32) (hc : c.natAbs < 32) : Wf (gp a b c) 5 13 where
  k1 := by show 1 ≤ 1; decide
  k7 := by show 1 ≤ 7; decide
  n1 := by show 1 ≤ 2; decide
  n6 := by show 2 ≤ 6; decide
  r2 := by show 0 ≤ 2; decide
  r1 := fun h => by rcases h with h | h <;> cases h
  r0 := fun _ => rfl
  bA := fun i _ => by
    show Bz (pA a b c i) 5
    unfold pA
    split
    · exact int_bz (bitLen_le (by omega)) (by decide)
    · split
      · exact int_bz (bitLen_le (by omega)) (by decide)
      · exact int_bz (bitLen_le (by omega)) (by decide)
  bB := fun i _ => bz_zero.mono (by decide)
  bG := fun i _ => bz_zero.mono (by decide)
  bH := fun i _ => bz_zero.mono (by decide)
  ne := fun i j _ hj => absurd hj (Nat.not_lt_zero _)
  bc := by decide
  c4 := by decide
theorem le_gp (a b c : Int) : PRle (gpP a b c) (genP noF (gp a b c)) := .gen rfl rfl rfl (.refl _) (.nil _ _) (.nil _ _) (.nil _ _)
theorem pair_ok (a b c : Int) (ha : a.natAbs < 32) (hb : b.natAbs < 32) (hc : c.natAbs < 32) : CallP Try.prog 56 [.int .i64 a, .int .i64 b, .int .i64 c] (.p (gpP a b c)) [] := by
  refine callG_of_vc (wr := wr0) Γok mixed Try.func56 (by kernel_rfl) rfl (by kernel_rfl) (le_of_ble rfl) (by simp) ?_
  refine SCall.pure (rint_ok a (by omega)) ?_
  refine SCall.pure (rint_ok b (by omega)) ?_
  refine SCall.pure (rint_ok c (by omega)) ?_
  refine SRet.pure (.aggp (ps := [.int .i64 1, .int .i64 2, .int .i64 0, ratsM false (lst 3 (pA a b c)), znil, znil, znil]) (fun d hd => by simp at hd; rcases hd with rfl | rfl | rfl | rfl | rfl | rfl | rfl <;> rfl) rfl fun i c d e1 e2 => ?_)
  match i, e1, e2 with
  | 0, e1, e2 => cases e1; cases e2; exact .p _ (.int _ _)
  | 1, e1, e2 => cases e1; cases e2; exact .p _ (.int _ _)
  | 2, e1, e2 => cases e1; cases e2; exact .p _ (.int _ _)
  | 3, e1, e2 => cases e1; cases e2; exact frzR (l := lst 3 (pA a b _)) rfl (by simp [lst])
  | 4, e1, e2 => cases e1; cases e2; exact .p _ (.raw _)
  | 5, e1, e2 => cases e1; cases e2; exact .p _ (.raw _)
  | 6, e1, e2 => cases e1; cases e2; exact .p _ (.raw _)
def f2 (a b c d : Rat) (i j : Nat) : Rat := if i = 0 then (if j = 0 then a else b) else if j = 0 then c else d
theorem f2_congr {A : Nat → Nat → Rat} {a b c d : Rat} (ha : A 0 0 = a) (hb : A 0 1 = b) (hc : A 1 0 = c) (hd : A 1 1 = d) {i j : Nat} (hi : i < 2) (hj : j < 2) : A i j = f2 a b c d i j := by
  unfold f2
  rcases (show i = 0 ∨ i = 1 by omega) with rfl | rfl <;> rcases (show j = 0 ∨ j = 1 by omega) with rfl | rfl <;> simp_all
theorem all2_ok {a b c d : Rat} {k : Nat} (ha : Bz a k) (hb : Bz b k) (hc : Bz c k) (hd : Bz d k) (hk : k + k ≤ 1048576) :
    CallP Try.prog 59 [matP false false 2 2 (f2 a b c d), .sl true 1 [.sl true 3 [ratP a, ratP b], .sl true 3 [ratP c, ratP d]]] (.p (.bool true)) [] :=
  rall_ok false false true true 2 2 (f2 a b c d) (a := k) (fun i j _ _ => by
    unfold f2
    split <;> split <;> assumption) hk (by decide) (by decide)
theorem of32_ok : CallP Try.prog 58 [.int .i64 3, .int .i64 2] (.tup [.p (ratP (3 / 2)), .p (.int .i64 0)]) [] := by
  have h := rof2_ok 3 2 (by omega) (by omega) (by omega)
  have e : mkQ (decide ((3 : Int) < 0) != decide ((2 : Int) < 0)) (3 : Int).natAbs (2 : Int).natAbs = 3 / 2 := by decide +kernel
  rwa [e] at h
theorem schurKnown_ok (n : Int) (hn : I64 n) : CallP Try.prog 12 [.int .i64 n] (.p (.bool true)) [] := by
  have p1 : ∀ t, t < 2 → piv (ent (gp 1 2 3)) t ≠ 0 := fun t ht => by
    rcases (show t = 0 ∨ t = 1 by omega) with rfl | rfl <;> decide +kernel
  have c1 := CallG.weak1 (sfactor_ok noF (gp 1 2 3) (wf_gp (by decide) (by decide) (by decide)) (gsB_wf (wf_gp (by decide) (by decide) (by decide)) (by show 2 ≤ 5; decide)) (by decide) p1) (le_gp 1 2 3)
  have k2 : brkN (ent (gp 1 0 1)) 2 = 0 := by decide +kernel
  have k3 : brkN (ent (gp 2 2 2)) 2 = 1 := by decide +kernel
  have c2 := CallG.weak1 (sfactorZ_ok noF (gp 1 0 1) (wf_gp (by decide) (by decide) (by decide)) (gsB_wf (wf_gp (by decide) (by decide) (by decide)) (by show 2 ≤ 5; decide)) (by decide) (by show brkN _ 2 < 2; rw [k2]; decide)) (le_gp 1 0 1)
  have c3 := CallG.weak1 (sfactorZ_ok noF (gp 2 2 2) (wf_gp (by decide) (by decide) (by decide)) (gsB_wf (wf_gp (by decide) (by decide) (by decide)) (by show 2 ≤ 5; decide)) (by decide) (by show brkN _ 2 < 2; rw [k3]; decide)) (le_gp 2 2 2)
  rw [show brkN (ent (gp 1 0 1)) (gp 1 0 1).n = 0 from k2] at c2
  rw [show brkN (ent (gp 2 2 2)) (gp 2 2 2).n = 1 from k3] at c3
  have eL : matP false false 2 2 (lowM (ent (gp 1 2 3))) = matP false false 2 2 (f2 ((1 : Int) : Rat) 0 (3 / 2) ((1 : Int) : Rat)) := matP_congr fun i j hi hj => f2_congr (by decide +kernel) (by decide +kernel) (by decide +kernel) (by decide +kernel) hi hj
  have eU : matP false false 2 2 (uppM (ent (gp 1 2 3))) = matP false false 2 2 (f2 ((2 : Int) : Rat) ((1 : Int) : Rat) 0 (1 / 2)) := matP_congr fun i j hi hj => f2_congr (by decide +kernel) (by decide +kernel) (by decide +kernel) (by decide +kernel) hi hj
  have c1 : CallP Try.prog 57 [gpP 1 2 3] (.tup [.p (matP false false 2 2 (f2 ((1 : Int) : Rat) 0 (3 / 2) ((1 : Int) : Rat))), .p (matP false false 2 2 (f2 ((2 : Int) : Rat) ((1 : Int) : Rat) 0 (1 / 2))), .p (.int .i64 0), .p (.int .i64 0)]) [] := by
    rw [← eL, ← eU]; exact c1
  have z1 : Bz ((1 : Int) : Rat) 5 := int_bz (by decide) (by decide)
  have z2 : Bz ((2 : Int) : Rat) 5 := int_bz (by decide) (by decide)
  have zh : Bz (1 / 2 : Rat) 5 := ⟨by decide +kernel, by decide +kernel⟩
  have zt : Bz (3 / 2 : Rat) 5 := ⟨by decide +kernel, by decide +kernel⟩
  have z0 : Bz (0 : Rat) 5 := bz_zero.mono (by decide)
  have a1 := all2_ok z1 z0 zt z1 (by decide)
  have a2 := all2_ok z2 z1 z0 zh (by decide)
  have w := within11_ok n 3 (by omega) (by omega)
  obtain ⟨j, hj, hj3⟩ : ∃ j : Nat, n % 3 = j ∧ j < 3 := ⟨(n % 3).toNat, by omega, by omega⟩
  rw [hj] at w
  refine callG_of_vc (wr := wr0) Γok mixed Try.func12 (by kernel_rfl) rfl (by kernel_rfl) (le_of_ble rfl) (by simp) ?_
  refine SCall.pure (known11_ok) ?_
  refine SCmp.no (rfl) ?_
  refine SCall.pure (pair_ok 1 2 3 (by decide) (by decide) (by decide)) ?_
  refine SCall.pure (pair_ok 1 0 1 (by decide) (by decide) (by decide)) ?_
  refine SCall.pure (pair_ok 2 2 2 (by decide) (by decide) (by decide)) ?_
  refine SCall.pureT (c1) (fun _ => rfl) ?_
  refine SCall.pureT (c2) (fun _ => rfl) ?_
  refine SCall.pureT (c3) (fun _ => rfl) ?_
  refine SCall.pureT (of32_ok) (fun _ => rfl) ?_
  refine SCall.pureT (half15_ok) (fun _ => rfl) ?_
  refine SDraw.mkX (by kernel_rfl) ?_
  repeat refine SOp.mk _ _ (And.intro rfl rfl) rfl ?_
  refine SOp.mk _ _ (SCmp.yes rfl (And.intro rfl rfl)) rfl ?_
  repeat refine SOp.mk _ _ (And.intro rfl rfl) rfl ?_
  refine SOp.mk _ _ (SCmp.yes rfl (And.intro rfl rfl)) rfl ?_
  repeat refine SOp.mk _ _ (And.intro rfl rfl) rfl ?_
  refine SOp.mk _ _ (SCall.pure (rint_ok 1 (by decide)) (And.intro rfl rfl)) rfl ?_
  refine SOp.mk _ _ (SCall.pure (rzero_ok) (And.intro rfl rfl)) rfl ?_
  repeat refine SOp.mk _ _ (And.intro rfl rfl) rfl ?_
  refine SOp.mk _ _ (SCall.pure (rint_ok 1 (by decide)) (And.intro rfl rfl)) rfl ?_
  repeat refine SOp.mk _ _ (And.intro rfl rfl) rfl ?_
  refine SOp.mk _ _ (LendR2 rfl rfl rfl rfl <| SCall.pure a1 (And.intro rfl rfl)) rfl ?_
  repeat refine SOp.mk _ _ (And.intro rfl rfl) rfl ?_
  refine SOp.mk _ _ (SCall.pure (rint_ok 2 (by decide)) (And.intro rfl rfl)) rfl ?_
  refine SOp.mk _ _ (SCall.pure (rint_ok 1 (by decide)) (And.intro rfl rfl)) rfl ?_
  repeat refine SOp.mk _ _ (And.intro rfl rfl) rfl ?_
  refine SOp.mk _ _ (SCall.pure (rzero_ok) (And.intro rfl rfl)) rfl ?_
  repeat refine SOp.mk _ _ (And.intro rfl rfl) rfl ?_
  refine SOp.mk _ _ (LendR2 rfl rfl rfl rfl <| SCall.pure a2 (And.intro rfl rfl)) rfl ?_
  repeat refine SOp.mk _ _ (And.intro rfl rfl) rfl ?_
  refine SOp.mk _ _ (SCmp.yes rfl (And.intro rfl rfl)) rfl ?_
  repeat refine SOp.mk _ _ (And.intro rfl rfl) rfl ?_
  refine SOp.mk _ _ (SCmp.yes rfl (And.intro rfl rfl)) rfl ?_
  repeat refine SOp.mk _ _ (And.intro rfl rfl) rfl ?_
  refine SOp.mk _ _ (SCmp.yes rfl (And.intro rfl rfl)) rfl ?_
  repeat refine SOp.mk _ _ (And.intro rfl rfl) rfl ?_
  refine SOp.mk _ _ (SCmp.yes rfl (And.intro rfl rfl)) rfl ?_
  repeat refine SOp.mk _ _ (And.intro rfl rfl) rfl ?_
  refine SFin.mk (by kernel_rfl) ?_
  refine SCall.pure (w) ?_
  refine SPos.mk j rfl hj3 ?_
  refine SIdx.mk (j + 0) (.bool true) rfl ?_ ?_
  · match j, hj3 with
    | 0, _ => rfl
    | 1, _ => rfl
    | 2, _ => rfl
  exact SRet.pure (.p _ (.bool _))
end Go.Proofs.Ytkaooejeljdbnaa

namespace Go.Proofs.Ytkaooejeljdbnaa
open Go Go.ChangeShapes Go.WideShapes Go.ChangeAt Go.RowKit Go.WideElems
set_option linter.unusedVariables false
set_option linter.unusedSimpArgs false
theorem Try.own : ownKnob Try.prog.godebug = none := by kernel_rfl
theorem Try.laidOut : laidOutB Try.prog = true := by kernel_rfl
abbrev oldF (W : World) : Nat → Prop := fun b => b < W.heap.size
theorem law_call {P : Program} {f : FuncId} {pvs : List PV} (hc : CallP P f pvs (.p (.bool true)) []) {W : World} {vs : List Value} (hl : vs.length = pvs.length) (hv : ∀ (i : Nat) p v, pvs[i]? = some p → vs[i]? = some v → PR W (FBof noBor (oldF W)) p v) :
    Calls P f vs.toArray W fun e W' => e = .returned (.bool true) ∧ Below W.heap.size W W' := by
  refine (hc.run W (oldF W) noBor (fun _ => (none, 0)) vs ⟨by simp [hl], fun i a v e1 e2 => ?_, fun h => by rw [look_nil]; trivial, fun b h => h, fun b h => h.elim, fun h b hl => ?_, fun h h' b hl => ?_, fun a ha k hk => ?_, fun h k hk => ?_⟩).mono ?_
  · rw [List.getElem?_map] at e1
    cases hp : pvs[i]? with
    | none => rw [hp] at e1; cases e1
    | some p => rw [hp] at e1; cases e1; exact .p (hv i p v hp e2)
  · rw [look_nil] at hl; exact hl.elim
  · rw [look_nil] at hl; exact hl.elim
  · obtain ⟨p, _, rfl⟩ := List.mem_map.1 ha; simp only [AV.men] at hk
  · rw [look_nil] at hk; exact hk.elim
  · intro e W' ⟨v, F', β', he, hr⟩
    subst he
    refine ⟨?_, hr.os, hr.tape, hr.output, hr.size, fun b hb => hr.same b hb fun h hl => ?_⟩
    · have := hr.rel
      cases this with | p h => cases h; rfl
    · rw [look_nil] at hl; exact hl.elim
section
variable {H : Type} {enc : TypeId × Value → H} {P : Program} {W : World} {base : Nat} {sp : Nat → Bool} {held : Bool}
theorem openInt {t : TypeId} {r : Go.Reach} {b0 : Nat} {v : Value} {d : DataW H} {ps : List MemPlace} (ht : P.underlying t = some (.int .i64)) (hval : Value.okWide P W r b0 t v) (hd : DataW.Trod enc P W base sp held t v d ps) :
    ∃ n, v = .int .i64 n ∧ I64 n := by
  obtain ⟨n, h1, h2, h3, h4⟩ := open_int ht hval hd
  refine ⟨n, h1, ?_⟩
  simp [Lit.wf, IntKind.min, IntKind.max, IntKind.signed, IntKind.bits] at h4
  exact ⟨by omega, by omega⟩
end
end Go.Proofs.Ytkaooejeljdbnaa

