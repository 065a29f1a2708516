/- FCAll: what its proof needs, part 6. -/
import Derived.Test.YtkaooejeljdbnaaGreatHAll5
set_option linter.unusedVariables false
set_option linter.unusedSimpArgs false
namespace Go.Proofs.YtkaooejeljdbnaaGreat
theorem swp_ge {A : Nat → Nat → Rat} {p r n : Nat} (hp : r ≤ p) (hpn : p < n) {P : (Nat → Rat) → Prop} (h : ∀ i, i < n → r ≤ i → P (A i)) {i : Nat} (hi : i < n) (hr : r ≤ i) : P (swpM A p r i) := by
  unfold swpM
  split
  · exact h r (by omega) (Nat.le_refl _)
  · split
    · exact h p hpn hp
    · exact h i hi hr
theorem elim_ech {n : Nat} {A : Nat → Nat → Rat} : ∀ j i k, i < n → (elim n A j).r ≤ i → k < j → (elim n A j).A i k = 0 := by
  intro j
  induction j with
  | zero => intro i k _ _ h; exact absurd h (Nat.not_lt_zero _)
  | succ j ih =>
    have hr := elim_r_n (n := n) (A := A) j
    obtain ⟨p1, p2, p3, p4⟩ := pv_spec (A := (elim n A j).A) (j := j) hr
    intro i k hi
    rw [elim_succ]
    unfold elS
    split
    · rename_i hp
      intro hri hk
      by_cases e : k = j
      · subst e; exact p3 i hri (by omega)
      · exact ih i k hi hri (by omega)
    · rename_i hp
      intro hri hk
      have hri : (elim n A j).r + 1 ≤ i := hri
      show redM _ _ _ i k = 0
      by_cases e : k = j
      · subst e
        rw [redM_gt (by omega) (Nat.le_refl _)]
        have h0 : swpM (elim n A k).A (pv (elim n A k).A k n (elim n A k).r) (elim n A k).r (elim n A k).r k ≠ 0 := by
          rw [swpM_r]; exact p4.resolve_left (by omega)
        grind
      · rw [redM_le (.inr (by omega))]
        exact swp_ge (P := fun f => f k = 0) p1 (by omega) (fun q hq hrq => ih q k hq hrq (by omega)) hi (by omega)
def Ker (n w : Nat) (A : Nat → Nat → Rat) (v : Nat → Rat) : Prop := ∀ i, i < n → sm w (fun k => A i k * v k) = 0
theorem Ker.swp {n w p r : Nat} {A : Nat → Nat → Rat} {v : Nat → Rat} (hp : p < n) (hr : r < n) : Ker n w (swpM A p r) v ↔ Ker n w A v := by
  constructor
  · intro h i hi
    by_cases e1 : i = p
    · have := h r hr
      unfold swpM at this
      by_cases e2 : r = p
      · rw [if_pos e2] at this; rw [e1, ← e2]; exact this
      · rw [if_neg e2, if_pos rfl] at this; rw [e1]; exact this
    · by_cases e2 : i = r
      · have := h p hp
        unfold swpM at this
        rw [if_pos rfl] at this; rw [e2]; exact this
      · have := h i hi
        unfold swpM at this
        rw [if_neg e1, if_neg e2] at this; exact this
  · intro h i hi
    unfold swpM
    split
    · exact h r hr
    · split
      · exact h p hp
      · exact h i hi
theorem red_row {B : Nat → Nat → Rat} {r j i : Nat} (hz : ∀ k, k < j → B r k = 0) (hi : r < i) (k : Nat) : redM B r j i k = B i k - B i j / B r j * B r k := by
  by_cases e : j ≤ k
  · exact redM_gt hi e
  · rw [redM_le (.inr (by omega)), hz k (by omega)]; grind
theorem Ker.red {n w r j : Nat} {B : Nat → Nat → Rat} {v : Nat → Rat} (hz : ∀ k, k < j → B r k = 0) (hr : r < n) : Ker n w (redM B r j) v ↔ Ker n w B v := by
  have row : ∀ i, r < i → sm w (fun k => redM B r j i k * v k) = sm w (fun k => B i k * v k) - B i j / B r j * sm w (fun k => B r k * v k) := by
    intro i hi
    rw [← sm_smul, ← sm_sub]
    refine sm_congr fun k _ => ?_
    rw [red_row hz hi]; grind
  have low : ∀ i, ¬ r < i → (fun k => redM B r j i k * v k) = fun k => B i k * v k := by
    intro i hi
    funext k
    rw [redM_le (.inl (by omega))]
  constructor
  · intro h i hi
    have h0 : sm w (fun k => B r k * v k) = 0 := by have := h r hr; rw [low r (Nat.lt_irrefl r)] at this; exact this
    have := h i hi
    by_cases e : r < i
    · rw [row i e, h0] at this; grind
    · rw [low i e] at this; exact this
  · intro h i hi
    by_cases e : r < i
    · rw [row i e, h i hi, h r hr]; grind
    · rw [low i e]; exact h i hi
theorem elim_ker {n w : Nat} {A : Nat → Nat → Rat} {v : Nat → Rat} : ∀ j, Ker n w (elim n A j).A v ↔ Ker n w A v := by
  intro j
  induction j with
  | zero => exact Iff.rfl
  | succ j ih =>
    have hr := elim_r_n (n := n) (A := A) j
    obtain ⟨p1, p2, p3, p4⟩ := pv_spec (A := (elim n A j).A) (j := j) hr
    rw [elim_succ]
    unfold elS
    split
    · exact ih
    · rename_i hp
      have hpn : pv (elim n A j).A j n (elim n A j).r < n := by omega
      refine (Ker.red (fun k hk => ?_) (by omega)).trans ((Ker.swp hpn (by omega)).trans ih)
      rw [swpM_r]; exact elim_ech j _ k hpn p1 hk
theorem elim_step {n : Nat} {A : Nat → Nat → Rat} {j : Nat} (h : (elim n A (j + 1)).r = j + 1) : (elim n A j).r = j ∧ pv (elim n A j).A j n j < n := by
  have hr := elim_r_le (n := n) (A := A) j
  rw [elim_succ] at h
  unfold elS at h
  split at h
  · have : (elim n A j).r = j + 1 := h; omega
  · rename_i hp
    have : (elim n A j).r + 1 = j + 1 := h
    have e : (elim n A j).r = j := by omega
    rw [e] at hp
    exact ⟨e, by omega⟩
theorem elim_next {n : Nat} {A : Nat → Nat → Rat} {j : Nat} (h : (elim n A j).r = j) (hp : pv (elim n A j).A j n j < n) :
    elim n A (j + 1) = ⟨redM (swpM (elim n A j).A (pv (elim n A j).A j n j) j) j j, (if pv (elim n A j).A j n j = j then (elim n A j).det else -(elim n A j).det) * (elim n A j).A (pv (elim n A j).A j n j) j, j + 1⟩ := by
  rw [elim_succ]; unfold elS; rw [h, if_neg (by omega), swpM_r]
theorem elim_diag {n : Nat} {A : Nat → Nat → Rat} : ∀ j, (elim n A j).r = j → ∀ i, i < j → (elim n A j).A i i ≠ 0 := by
  intro j
  induction j with
  | zero => intro _ i hi; exact absurd hi (Nat.not_lt_zero _)
  | succ j ih =>
    intro h i hi
    obtain ⟨h1, h2⟩ := elim_step h
    have hr := elim_r_n (n := n) (A := A) j
    rw [h1] at hr
    obtain ⟨p1, p2, p3, p4⟩ := pv_spec (A := (elim n A j).A) (j := j) hr
    rw [elim_next h1 h2]
    show redM _ j j i i ≠ 0
    rw [redM_le (.inl (by omega))]
    by_cases e : i = j
    · subst e; rw [swpM_r]; exact p4.resolve_left (by omega)
    · unfold swpM; rw [if_neg (by omega), if_neg e]; exact ih h1 i (by omega)
theorem elim_det {n : Nat} {A : Nat → Nat → Rat} : ∀ j, j ≤ n → ((elim n A j).det ≠ 0 ↔ (elim n A j).r = j) := by
  intro j
  induction j with
  | zero => intro _; exact ⟨fun _ => rfl, fun _ => by show (1 : Rat) ≠ 0; decide⟩
  | succ j ih =>
    intro hj
    have ih := ih (by omega)
    have hr := elim_r_n (n := n) (A := A) j
    obtain ⟨p1, p2, p3, p4⟩ := pv_spec (A := (elim n A j).A) (j := j) hr
    constructor
    · intro h
      rw [elim_succ] at h ⊢
      unfold elS at h ⊢
      split at h
      · exact absurd rfl h
      · rename_i hp
        rw [if_neg hp]
        show (elim n A j).r + 1 = j + 1
        have : (elim n A j).det ≠ 0 := fun e => h (by
          show (if _ then (elim n A j).det else -(elim n A j).det) * _ = 0
          rw [e]; split <;> grind)
        rw [ih.1 this]
    · intro h
      obtain ⟨h1, h2⟩ := elim_step h
      rw [h1] at p4
      rw [elim_next h1 h2]
      have d := ih.2 h1
      have e := p4.resolve_left (by omega)
      show (if _ then (elim n A j).det else -(elim n A j).det) * _ ≠ 0
      intro e0
      rcases Rat.mul_eq_zero.1 e0 with e0 | e0
      · split at e0
        · exact d e0
        · exact d (by grind)
      · exact e e0
theorem elim_fail {n : Nat} {A : Nat → Nat → Rat} : ∀ m, m ≤ n → (elim n A m).r ≠ m → ∃ j, j < m ∧ (elim n A j).r = j ∧ pv (elim n A j).A j n j = n := by
  intro m
  induction m with
  | zero => intro _ h; exact absurd rfl h
  | succ m ih =>
    intro hm h
    by_cases e : (elim n A m).r = m
    · refine ⟨m, Nat.lt_succ_self _, e, ?_⟩
      have hr := elim_r_n (n := n) (A := A) m
      rw [e] at hr
      obtain ⟨p1, p2, p3, p4⟩ := pv_spec (A := (elim n A m).A) (j := m) hr
      rcases Nat.lt_or_ge (pv (elim n A m).A m n m) n with c | c
      · exact absurd (by rw [elim_next e c]) h
      · omega
    · obtain ⟨j, h1, h2⟩ := ih (by omega) e
      exact ⟨j, by omega, h2⟩
theorem sm_split (f : Nat → Rat) (m : Nat) : ∀ d, sm (m + d) f = sm m f + sm d (fun e => f (m + e)) := by
  intro d
  induction d with
  | zero => show sm m f = sm m f + 0; grind
  | succ d ih => show sm (m + d) f + f (m + d) = sm m f + (sm d (fun e => f (m + e)) + f (m + d)); rw [ih]; grind
theorem sb_eq (a x : Nat → Rat) (s0 : Rat) (m : Nat) : ∀ d, sb a x s0 m d = s0 - sm d (fun e => a (m + e) * x (m + e)) := by
  intro d
  induction d with
  | zero => show s0 = s0 - 0; grind
  | succ d ih => show sb a x s0 m d - _ = s0 - (sm d (fun e => a (m + e) * x (m + e)) + _); rw [ih]; grind
theorem bk_ok {A : Nat → Nat → Rat} {n : Nat} (up : ∀ i k, i < n → k < i → A i k = 0) (dg : ∀ i, i < n → A i i ≠ 0) :
    ∀ t, t ≤ n → ∀ i, n ≤ i + t → i < n → sm n (fun k => A i k * bk A n t k) = A i n := by
  intro t
  induction t with
  | zero => intro _ i h1 h2; omega
  | succ t ih =>
    intro ht i h1 h2
    by_cases e : i = n - 1 - t
    · have hv : bk A n (t + 1) i = sb (A i) (bk A n t) (A i n) (n - t) t / A i i := by simp only [bk]; rw [← e]; exact upd_same _ _ _
      have en : n = i + 1 + t := by omega
      have hs : sm n (fun k => A i k * bk A n (t + 1) k) = 0 + A i i * bk A n (t + 1) i + sm t (fun e => A i (i + 1 + e) * bk A n t (i + 1 + e)) := by
        conv => lhs; rw [en]
        rw [sm_split]
        congr 1
        · show sm i _ + _ = _
          rw [sm_zero fun k hk => by rw [up i k h2 hk]; exact Rat.zero_mul _, ← en]
        · refine sm_congr fun k hk => ?_
          rw [← en, bk_keep (by omega) (by omega)]
      rw [hs, hv, sb_eq, show n - t = i + 1 by omega]
      have := dg i h2
      grind
    · rw [← ih (by omega) i (by omega) h2]
      refine sm_congr fun k hk => ?_
      by_cases ek : k = n - 1 - t
      · rw [up i k h2 (by omega)]; grind
      · have : bk A n (t + 1) k = bk A n t k := by simp only [bk]; exact upd_other _ _ ek
        rw [this]
theorem elim_up {n : Nat} {A : Nat → Nat → Rat} : ∀ j, j ≤ n → (elim n A j).r = j → ∀ i k, i < n → k < i → k < j → (elim n A j).A i k = 0 := by
  intro j
  induction j with
  | zero => intro _ _ i k _ _ h; exact absurd h (Nat.not_lt_zero _)
  | succ j ih =>
    intro hj h i k hi hki hkj
    by_cases e : j + 1 ≤ i
    · exact elim_ech (j + 1) i k hi (by rw [h]; exact e) hkj
    · obtain ⟨h1, h2⟩ := elim_step h
      rw [elim_next h1 h2]
      show redM _ j j i k = 0
      rw [redM_le (.inl (by omega))]
      have hrn := elim_r_n (n := n) (A := A) j
      rw [h1] at hrn
      have hp := (pv_spec (A := (elim n A j).A) (j := j) hrn).1
      by_cases e2 : i = j
      · subst e2; rw [swpM_r]
        exact elim_ech i _ k h2 (by rw [h1]; exact hp) hki
      · unfold swpM; rw [if_neg (by omega), if_neg e2]
        exact ih (by omega) h1 i k hi hki (by omega)
theorem ker1 {n : Nat} {A : Nat → Nat → Rat} {v : Nat → Rat} (hd : (elim n A n).det ≠ 0) (h : Ker n n A v) : ∀ k, k < n → v k = 0 := by
  have hr := (elim_det n (Nat.le_refl _)).1 hd
  have hk := (elim_ker n).2 h
  have up : ∀ i k, i < n → k < i → (elim n A n).A i k = 0 := fun i k hi hk => elim_up n (Nat.le_refl _) hr i k hi hk (by omega)
  have dg := elim_diag n hr
  have : ∀ t, t ≤ n → ∀ i, n ≤ i + t → i < n → v i = 0 := by
    intro t
    induction t with
    | zero => intro _ i h1 h2; omega
    | succ t ih =>
      intro ht i h1 h2
      by_cases e : n ≤ i + t
      · exact ih (by omega) i e h2
      · have en : n = i + 1 + t := by omega
        have h0 := hk i h2
        have hs : sm n (fun k => (elim n A n).A i k * v k) = 0 + (elim n A n).A i i * v i + 0 := by
          conv => lhs; arg 1; rw [en]
          rw [sm_split]
          congr 1
          · show sm i _ + _ = _
            rw [sm_zero fun k hk => by rw [up i k h2 hk]; exact Rat.zero_mul _]
          · exact sm_zero fun k hk => by rw [ih (by omega) (i + 1 + k) (by omega) (by omega)]; exact Rat.mul_zero _
        rw [hs] at h0
        have := dg i h2
        rcases Rat.mul_eq_zero.1 (show (elim n A n).A i i * v i = 0 by grind) with c | c
        · exact absurd c this
        · exact c
  exact fun k hk => this n (Nat.le_refl _) k (by omega) hk
theorem ker0 {n : Nat} {A : Nat → Nat → Rat} (hd : (elim n A n).det = 0) : ∃ v : Nat → Rat, (∃ k, k < n ∧ v k ≠ 0) ∧ Ker n n A v := by
  obtain ⟨j, hj, h1, h2⟩ := elim_fail (A := A) n (Nat.le_refl n) fun e => (elim_det n (Nat.le_refl _)).2 e hd
  have hrn := elim_r_n (n := n) (A := A) j
  rw [h1] at hrn
  obtain ⟨p1, p2, p3, p4⟩ := pv_spec (A := (elim n A j).A) (j := j) hrn
  let A' : Nat → Nat → Rat := fun i k => if k = j then -(elim n A j).A i j else (elim n A j).A i k
  have hb := bk_ok (A := A') (n := j) (fun i k hi hk => by
      show (if k = j then _ else _) = (0 : Rat)
      rw [if_neg (by omega)]; exact elim_up j (by omega) h1 i k (by omega) hk (by omega))
    (fun i hi => by
      show (if i = j then _ else _) ≠ (0 : Rat)
      rw [if_neg (by omega)]; exact elim_diag j h1 i hi) j (Nat.le_refl _)
  refine ⟨fun k => if k < j then bk A' j j k else if k = j then 1 else 0, ⟨j, hj, by simp⟩, (elim_ker j).1 fun i hi => ?_⟩
  have en : n = j + 1 + (n - j - 1) := by omega
  rw [en, sm_split]
  have z : sm (n - j - 1) (fun e => (elim n A j).A i (j + 1 + e) * (fun k => if k < j then bk A' j j k else if k = j then 1 else 0) (j + 1 + e)) = 0 :=
    sm_zero fun e he => by show _ * (if j + 1 + e < j then _ else if j + 1 + e = j then _ else _) = (0 : Rat); rw [if_neg (by omega), if_neg (by omega)]; exact Rat.mul_zero _
  rw [← en, z]
  show sm j _ + (elim n A j).A i j * (if j < j then _ else if j = j then 1 else 0) + 0 = 0
  rw [if_neg (Nat.lt_irrefl j), if_pos rfl]
  by_cases e : i < j
  · have := hb i (by omega) e
    have e2 : sm j (fun k => (elim n A j).A i k * (if k < j then bk A' j j k else if k = j then 1 else 0)) = sm j (fun k => A' i k * bk A' j j k) :=
      sm_congr fun k hk => by
        show _ = (if k = j then _ else (elim n A j).A i k) * _
        rw [if_pos hk, if_neg (by omega)]
    have e3 : A' i j = -(elim n A j).A i j := if_pos rfl
    rw [e2, this, e3]; grind
  · rw [sm_zero fun k hk => by rw [elim_ech j i k hi (by omega) hk]; exact Rat.zero_mul _, p3 i (by omega) (by omega)]; grind
theorem pv_congr {n j r : Nat} {A B : Nat → Nat → Rat} (h : ∀ i, i < n → A i j = B i j) (hr : r ≤ n) : pv A j n r = pv B j n r := by
  obtain ⟨p1, p2, p3, p4⟩ := pv_spec (A := B) (j := j) hr
  refine pv_eq p1 p2 (fun i h1 h2 => by rw [h i (by omega)]; exact p3 i h1 h2) ?_
  by_cases e : pv B j n r = n
  · exact .inl e
  · exact .inr (by rw [h _ (by omega)]; exact p4.resolve_left e)
theorem elim_congr {n : Nat} {A B : Nat → Nat → Rat} (h : ∀ i k, i < n → k < n → A i k = B i k) : ∀ j, j ≤ n →
    (elim n A j).det = (elim n B j).det ∧ (elim n A j).r = (elim n B j).r ∧ ∀ i k, i < n → k < n → (elim n A j).A i k = (elim n B j).A i k := by
  intro j
  induction j with
  | zero => exact fun _ => ⟨rfl, rfl, h⟩
  | succ j ih =>
    intro hj
    obtain ⟨h1, h2, h3⟩ := ih (by omega)
    have hr := elim_r_n (n := n) (A := B) j
    have hp := pv_congr (r := (elim n B j).r) (fun i hi => h3 i j hi (by omega)) hr
    rw [elim_succ, elim_succ]
    unfold elS
    rw [h2, hp, h1]
    obtain ⟨p1, p2, p3, p4⟩ := pv_spec (A := (elim n B j).A) (j := j) hr
    split
    · exact ⟨rfl, rfl, h3⟩
    · rename_i c
      have hs : ∀ i k, i < n → k < n → swpM (elim n A j).A (pv (elim n B j).A j n (elim n B j).r) (elim n B j).r i k = swpM (elim n B j).A (pv (elim n B j).A j n (elim n B j).r) (elim n B j).r i k := by
        intro i k hi hk
        unfold swpM
        split
        · exact h3 _ k (by omega) hk
        · split
          · exact h3 _ k (by omega) hk
          · exact h3 _ k hi hk
      refine ⟨?_, rfl, fun i k hi hk => ?_⟩
      · show _ * _ = _ * _; rw [hs _ j (by omega) (by omega)]
      · show redM _ _ _ i k = redM _ _ _ i k
        unfold redM
        rw [hs i k hi hk, hs i j hi (by omega), hs _ j (by omega) (by omega), hs _ k (by omega) hk]
theorem aug_det {n : Nat} {A : Nat → Nat → Rat} {y : Nat → Rat} : (elim n (augM n A y) n).det = (elim n A n).det :=
  (elim_congr (fun i k _ hk => if_pos hk) n (Nat.le_refl _)).1
theorem slv_ok {n : Nat} {A : Nat → Nat → Rat} {y : Nat → Rat} (hd : (elim n A n).det ≠ 0) : ∀ i, i < n → sm n (fun k => A i k * bk (elim n (augM n A y) n).A n n k) = y i := by
  have hd' : (elim n (augM n A y) n).det ≠ 0 := by rw [aug_det]; exact hd
  have hr := (elim_det n (Nat.le_refl _)).1 hd'
  have hb := bk_ok (A := (elim n (augM n A y) n).A) (n := n) (fun i k hi hk => elim_up n (Nat.le_refl _) hr i k hi hk (by omega)) (elim_diag n hr) n (Nat.le_refl _)
  have hk : Ker n (n + 1) (elim n (augM n A y) n).A fun k => if k < n then bk (elim n (augM n A y) n).A n n k else -1 := fun i hi => by
    show sm n _ + _ * (if n < n then _ else (-1 : Rat)) = 0
    rw [if_neg (Nat.lt_irrefl n), sm_congr (g := fun k => (elim n (augM n A y) n).A i k * bk (elim n (augM n A y) n).A n n k) fun k hk => by show _ * (if k < n then _ else _) = _; rw [if_pos hk], hb i (by omega) hi]
    grind
  intro i hi
  have := (elim_ker n).1 hk i hi
  have h2 : sm n (fun k => A i k * bk (elim n (augM n A y) n).A n n k) + augM n A y i n * (if n < n then bk (elim n (augM n A y) n).A n n n else -1) = 0 := by
    rw [← this]
    show _ = sm n _ + _
    congr 1
    exact sm_congr fun k hk => by show _ = augM n A y i k * _; rw [if_pos hk]; unfold augM; rw [if_pos hk]
  rw [if_neg (Nat.lt_irrefl n), show augM n A y i n = y i from if_neg (Nat.lt_irrefl n)] at h2
  grind
/-- The one answer. -/
theorem slv_one {n : Nat} {A : Nat → Nat → Rat} {u v : Nat → Rat} (hd : (elim n A n).det ≠ 0) (h : ∀ i, i < n → sm n (fun k => A i k * u k) = sm n (fun k => A i k * v k)) : ∀ k, k < n → u k = v k := by
  intro k hk
  have : Ker n n A fun k => u k - v k := fun i hi => by
    have e : (fun k => A i k * (u k - v k)) = fun k => A i k * u k - A i k * v k := by funext k; grind
    rw [e, sm_sub, h i hi]; grind
  have := ker1 hd this k hk
  grind
end Go.Proofs.YtkaooejeljdbnaaGreat

namespace Go.Proofs.YtkaooejeljdbnaaGreat
def pm : Nat → (Nat → Rat) → Rat
  | 0, _ => 1
  | n + 1, f => pm n f * f n
def pmx (n k : Nat) (f : Nat → Rat) : Rat := pm n fun t => if t = k then 1 else f t
theorem pm_congr {f g : Nat → Rat} : ∀ {n : Nat}, (∀ i, i < n → f i = g i) → pm n f = pm n g := by
  intro n
  induction n with
  | zero => exact fun _ => rfl
  | succ n ih => intro h; simp only [pm]; rw [ih fun i hi => h i (by omega), h n (by omega)]
theorem pm_ne {f : Nat → Rat} : ∀ {n : Nat}, (∀ i, i < n → f i ≠ 0) → pm n f ≠ 0 := by
  intro n
  induction n with
  | zero => intro _; simp only [pm]; decide
  | succ n ih =>
    intro h e
    rcases Rat.mul_eq_zero.1 e with e | e
    · exact ih (fun i hi => h i (by omega)) e
    · exact h n (by omega) e
theorem pm_zero {f : Nat → Rat} {k : Nat} : ∀ {n : Nat}, k < n → f k = 0 → pm n f = 0 := by
  intro n
  induction n with
  | zero => intro h; exact absurd h (Nat.not_lt_zero _)
  | succ n ih =>
    intro h e
    simp only [pm]
    by_cases c : k = n
    · rw [← c, e]; exact Rat.mul_zero _
    · rw [ih (by omega) e]; exact Rat.zero_mul _
theorem pmx_ne {f : Nat → Rat} {n k : Nat} (h : ∀ i, i < n → i ≠ k → f i ≠ 0) : pmx n k f ≠ 0 :=
  pm_ne fun i hi => by
    by_cases e : i = k
    · rw [if_pos e]; decide
    · rw [if_neg e]; exact h i hi e
theorem pmx_zero {f : Nat → Rat} {n k l : Nat} (hl : l < n) (hk : l ≠ k) (h : f l = 0) : pmx n k f = 0 := pm_zero hl (by rw [if_neg hk]; exact h)
theorem pmx_ge {f : Nat → Rat} {n k : Nat} (h : n ≤ k) : pmx n k f = pm n f := pm_congr fun i hi => if_neg (by omega)
theorem pmx_succ {f : Nat → Rat} {n k : Nat} (h : n ≠ k) : pmx (n + 1) k f = pmx n k f * f n := by
  show pm n _ * (if n = k then 1 else f n) = _
  rw [if_neg h]; rfl
theorem pmx_self {f : Nat → Rat} {n : Nat} : pmx (n + 1) n f = pm n f := by
  show pm n _ * (if n = n then 1 else f n) = _
  rw [if_pos rfl, Rat.mul_one]; exact pmx_ge (Nat.le_refl n)
theorem pm_split {f : Nat → Rat} {k : Nat} : ∀ {n : Nat}, k < n → pm n f = f k * pmx n k f := by
  intro n
  induction n with
  | zero => intro h; exact absurd h (Nat.not_lt_zero _)
  | succ n ih =>
    intro h
    by_cases c : k = n
    · subst c; rw [pmx_self]; simp only [pm]; exact Rat.mul_comm _ _
    · rw [pmx_succ (by omega)]; simp only [pm]; rw [ih (by omega)]; grind
theorem pm_neg {f : Nat → Rat} : ∀ n, pm n (fun t => -(f t)) = pm n (fun _ => -1) * pm n f := by
  intro n
  induction n with
  | zero => simp only [pm]; grind
  | succ n ih => simp only [pm]; rw [ih]; grind
theorem pm_sgn : ∀ n, pm n (fun _ => -1) * pm n (fun _ => -1) = 1 := by
  intro n
  induction n with
  | zero => simp only [pm]; grind
  | succ n ih => simp only [pm]; grind
theorem pmx_neg {f : Nat → Rat} {n k : Nat} (h : k < n) : pmx n k (fun t => -(f t)) = -(pm n (fun _ => -1)) * pmx n k f := by
  have e : pmx n k (fun t => -(f t)) = pm n (fun t => -(if t = k then -1 else f t)) := by
    refine pm_congr fun i _ => ?_
    by_cases c : i = k
    · rw [if_pos c, if_pos c]; decide
    · rw [if_neg c, if_neg c]
  rw [e, pm_neg]
  have e2 : pm n (fun t => if t = k then -1 else f t) = -(pmx n k f) := by
    rw [pm_split h, if_pos rfl]
    have : pmx n k (fun t => if t = k then -1 else f t) = pmx n k f := pm_congr fun i _ => by
      by_cases c : i = k
      · rw [if_pos c, if_pos c]
      · rw [if_neg c, if_neg c]; exact if_neg c
    rw [this]; grind
  rw [e2]; grind
def PolE (k : Nat) (g : Rat → Rat) : Prop := ∃ c : Nat → Rat, ∀ X, pev k c X = g X
theorem PolE.zero (k : Nat) : PolE k fun _ => 0 := ⟨fun i => 0 * (0 : Rat), fun X => by rw [pev_smul k 0 (fun _ => 0) X]; exact Rat.zero_mul _⟩
theorem PolE.add {k : Nat} {g h : Rat → Rat} (hg : PolE k g) (hh : PolE k h) : PolE k fun X => g X + h X := by
  obtain ⟨c, hc⟩ := hg
  obtain ⟨d, hd⟩ := hh
  exact ⟨fun i => c i + d i, fun X => by rw [pev_add, hc, hd]⟩
theorem PolE.smul {k : Nat} {g : Rat → Rat} (b : Rat) (hg : PolE k g) : PolE k fun X => b * g X := by
  obtain ⟨c, hc⟩ := hg
  exact ⟨fun i => b * c i, fun X => by rw [pev_smul, hc]⟩
theorem PolE.mulX {k : Nat} {g : Rat → Rat} (hg : PolE k g) (r : Rat) : PolE (k + 1) fun X => g X * (r - X) := by
  obtain ⟨c, hc⟩ := hg
  obtain ⟨d, _, hd⟩ := (Pol.mulX (g := g) ⟨c, rfl, hc⟩ r).smul (-1)
  exact ⟨d, fun X => by rw [hd]; grind⟩
theorem PolE.pm (a : Nat → Rat) : ∀ n, PolE n fun X => pm n fun t => a t - X := by
  intro n
  induction n with
  | zero => exact ⟨fun _ => 1, fun X => rfl⟩
  | succ n ih => exact ih.mulX (a n)
theorem PolE.pmx (a : Nat → Rat) (j : Nat) : ∀ n, j < n + 1 → PolE n fun X => pmx (n + 1) j fun t => a t - X := by
  intro n
  induction n with
  | zero =>
    intro h
    obtain rfl : j = 0 := by omega
    have : (fun X : Rat => Go.Proofs.YtkaooejeljdbnaaGreat.pmx (0 + 1) 0 fun t => a t - X) = fun X => Go.Proofs.YtkaooejeljdbnaaGreat.pm 0 fun t => a t - X := by funext X; exact pmx_self
    rw [this]; exact PolE.pm a 0
  | succ n ih =>
    intro h
    by_cases e : j = n + 1
    · subst e
      have : (fun X : Rat => Go.Proofs.YtkaooejeljdbnaaGreat.pmx (n + 1 + 1) (n + 1) fun t => a t - X) = fun X => Go.Proofs.YtkaooejeljdbnaaGreat.pm (n + 1) fun t => a t - X := by funext X; exact pmx_self
      rw [this]; exact PolE.pm a (n + 1)
    · have : (fun X : Rat => Go.Proofs.YtkaooejeljdbnaaGreat.pmx (n + 1 + 1) j fun t => a t - X) = fun X => (Go.Proofs.YtkaooejeljdbnaaGreat.pmx (n + 1) j fun t => a t - X) * (a (n + 1) - X) := by funext X; exact pmx_succ (by omega)
      rw [this]; exact (ih (by omega)).mulX _
theorem PolE.sum {k : Nat} {G : Nat → Rat → Rat} : ∀ m, (∀ t, t < m → PolE k (G t)) → PolE k fun X => sm m fun t => G t X := by
  intro m
  induction m with
  | zero => exact fun _ => PolE.zero k
  | succ m ih => intro h; exact (ih fun t ht => h t (by omega)).add (h m (by omega))
theorem PolE.eq {k : Nat} {g h : Rat → Rat} {r : Nat → Rat} (hg : PolE k g) (hh : PolE k h) (hi : Inj r (k + 1)) (he : ∀ l, l < k + 1 → g (r l) = h (r l)) (X : Rat) : g X = h X := by
  obtain ⟨c, hc⟩ := hg
  obtain ⟨d, hd⟩ := hh
  rw [← hc, ← hd]
  exact pev_congr k X (pev_eq hi fun l hl => by rw [hc, hd]; exact he l hl)
/-- An entry of what undoes it, as the program comes to it: i of the second row of nodes, k of the first. -/
def cuF (a b : Nat → Rat) (i k : Nat) : Nat → Rat
  | 0 => 1 / (a k - b i)
  | m + 1 => if m = i then (if m = k then cuF a b i k m * ((a k - b m) * (a m - b i)) else cuF a b i k m * ((a k - b m) * (a m - b i)) / (a k - a m))
    else (if m = k then cuF a b i k m * ((a k - b m) * (a m - b i)) else cuF a b i k m * ((a k - b m) * (a m - b i)) / (a k - a m)) / (b m - b i)
structure CauH (n : Nat) (a b : Nat → Rat) : Prop where
  ia : Inj a n
  ib : Inj b n
  ne : ∀ i k, i < n → k < n → a i ≠ b k
theorem rsub_ne {a b : Rat} (h : a ≠ b) : a - b ≠ 0 := fun e => h (by grind)
theorem CauH.da {n : Nat} {a b : Nat → Rat} (h : CauH n a b) {i k : Nat} (hi : i < n) (hk : k < n) (e : i ≠ k) : a i - a k ≠ 0 := rsub_ne fun c => e (h.ia i k hi hk c)
theorem CauH.dx {n : Nat} {a b : Nat → Rat} (h : CauH n a b) {i k : Nat} (hi : i < n) (hk : k < n) : a i - b k ≠ 0 := rsub_ne (h.ne i k hi hk)
theorem CauH.db {n : Nat} {a b : Nat → Rat} (h : CauH n a b) {i k : Nat} (hi : i < n) (hk : k < n) (e : i ≠ k) : b i - b k ≠ 0 := rsub_ne fun c => e (h.ib i k hi hk c)
theorem rmul_ne {a b : Rat} (ha : a ≠ 0) (hb : b ≠ 0) : a * b ≠ 0 := fun e => (Rat.mul_eq_zero.1 e).elim ha hb
theorem frac4 (x u u' q q' s t z w : Rat) (hq : q ≠ 0) (hq' : q' ≠ 0) (hz : z ≠ 0) (hw : w ≠ 0) : x * (u * u' / (q * q')) * (s * t) / z / w = x * (u * s * (u' * t) / (q * z * (q' * w))) := by
  have h1 := rmul_ne hq hq'
  have h2 := rmul_ne (rmul_ne hq hz) (rmul_ne hq' hw)
  have h3 := rmul_ne hz hw
  have e1 : x * (u * u' / (q * q')) * (s * t) / z / w = x * (u * u') * (s * t) / (q * q' * (z * w)) := by
    have := rmul_ne h1 h3
    grind
  have e2 : x * (u * s * (u' * t) / (q * z * (q' * w))) = x * (u * u') * (s * t) / (q * z * (q' * w)) := by grind
  rw [e1, e2]
  congr 1
  grind
theorem cuF_eq {n : Nat} {a b : Nat → Rat} (h : CauH n a b) {i k : Nat} (hi : i < n) (hk : k < n) : ∀ m, m ≤ n →
    cuF a b i k m = 1 / (a k - b i) * (pm m (fun t => a k - b t) * pm m (fun t => a t - b i) / (pmx m k (fun t => a k - a t) * pmx m i (fun t => b t - b i))) := by
  intro m
  induction m with
  | zero => intro _; simp only [cuF, pm, pmx]; grind
  | succ m ih =>
    intro hm
    have ih := ih (by omega)
    have x0 := h.dx hk hi
    have q1 : pmx m k (fun t => a k - a t) ≠ 0 := pmx_ne fun t ht e => h.da hk (by omega) (Ne.symm e)
    have q2 : pmx m i (fun t => b t - b i) ≠ 0 := pmx_ne fun t ht e => h.db (by omega) hi e
    simp only [cuF]
    by_cases e1 : m = i
    · rw [if_pos e1]
      have s2 : pmx (m + 1) i (fun t => b t - b i) = pmx m i (fun t => b t - b i) := by subst e1; rw [pmx_self, pmx_ge (Nat.le_refl _)]
      rw [s2]
      by_cases e2 : m = k
      · have s1 : pmx (m + 1) k (fun t => a k - a t) = pmx m k (fun t => a k - a t) := by subst e2; rw [pmx_self, pmx_ge (Nat.le_refl _)]
        rw [if_pos e2, s1, ih]; simp only [pm]
        generalize pmx m k (fun t => a k - a t) = q at q1
        generalize pmx m i (fun t => b t - b i) = q' at q2
        grind
      · have z := h.da hk (show m < n by omega) (Ne.symm e2)
        rw [if_neg e2, pmx_succ (n := m) (k := k) e2, ih]; simp only [pm]
        generalize pmx m k (fun t => a k - a t) = q at q1
        generalize pmx m i (fun t => b t - b i) = q' at q2
        generalize pm m (fun t => a k - b t) = u
        generalize pm m (fun t => a t - b i) = u'
        generalize a k - a m = z' at z
        generalize 1 / (a k - b i) = x0
        grind
    · have w := h.db (show m < n by omega) hi e1
      rw [if_neg e1, pmx_succ (n := m) (k := i) e1]
      by_cases e2 : m = k
      · have s1 : pmx (m + 1) k (fun t => a k - a t) = pmx m k (fun t => a k - a t) := by subst e2; rw [pmx_self, pmx_ge (Nat.le_refl _)]
        rw [if_pos e2, s1, ih]; simp only [pm]
        generalize pmx m k (fun t => a k - a t) = q at q1
        generalize pmx m i (fun t => b t - b i) = q' at q2
        grind
      · have z := h.da hk (show m < n by omega) (Ne.symm e2)
        rw [if_neg e2, pmx_succ (n := m) (k := k) e2, ih]; simp only [pm]
        generalize pmx m k (fun t => a k - a t) = q at q1
        generalize pmx m i (fun t => b t - b i) = q' at q2
        generalize pm m (fun t => a k - b t) = u
        generalize pm m (fun t => a t - b i) = u'
        exact frac4 _ _ _ _ _ _ _ _ _ q1 q2 z w
/-- Parts of a quotient of polynomials. -/
theorem parts {n : Nat} {b : Nat → Rat} (hb : Inj b n) {g : Rat → Rat} (hn : 1 ≤ n) (hg : PolE (n - 1) g) {x : Rat} (hx : ∀ k, k < n → x ≠ b k) :
    sm n (fun k => 1 / (x - b k) * (g (b k) / pmx n k fun t => b t - b k)) = -(g x / pm n fun t => b t - x) := by
  obtain ⟨m, rfl⟩ : ∃ m, n = m + 1 := ⟨n - 1, by omega⟩
  have hnz : ∀ k, k < m + 1 → (pmx (m + 1) k fun t => b t - b k) ≠ 0 := fun k hk => pmx_ne fun t ht e => rsub_ne fun c => e (hb t k ht hk c)
  have key := PolE.eq (g := fun X => sm (m + 1) fun k => g (b k) / (pmx (m + 1) k fun t => b t - b k) * pmx (m + 1) k fun t => b t - X) (PolE.sum (m + 1) fun k hk => (PolE.pmx b k m hk).smul _) hg hb (fun l hl => by
    show (sm (m + 1) fun k => g (b k) / (pmx (m + 1) k fun t => b t - b k) * pmx (m + 1) k fun t => b t - b l) = g (b l)
    have : (sm (m + 1) fun k => g (b k) / (pmx (m + 1) k fun t => b t - b k) * pmx (m + 1) k fun t => b t - b l) = sm (m + 1) fun k => g (b k) * (if k = l then 1 else 0) := sm_congr fun k hk => by
      by_cases e : k = l
      · subst e; rw [if_pos rfl]; have := hnz k hk; grind
      · rw [if_neg e, pmx_zero (f := fun t => b t - b l) (l := l) hl (Ne.symm e) (by grind)]; grind
    rw [this]; exact sm_one hl _) x
  have hp : pm (m + 1) (fun t => b t - x) ≠ 0 := pm_ne fun t ht => rsub_ne fun c => hx t ht c.symm
  have key : (sm (m + 1) fun k => g (b k) / (pmx (m + 1) k fun t => b t - b k) * pmx (m + 1) k fun t => b t - x) = g x := key
  rw [← key]
  have : (sm (m + 1) fun k => g (b k) / (pmx (m + 1) k fun t => b t - b k) * pmx (m + 1) k fun t => b t - x) = -(pm (m + 1) fun t => b t - x) * sm (m + 1) (fun k => 1 / (x - b k) * (g (b k) / pmx (m + 1) k fun t => b t - b k)) := by
    rw [← sm_smul]
    refine sm_congr fun k hk => ?_
    rw [pm_split hk]
    have h1 := hnz k hk
    have h2 : x - b k ≠ 0 := rsub_ne (hx k hk)
    generalize (pmx (m + 1) k fun t => b t - x) = u
    generalize (pmx (m + 1) k fun t => b t - b k) = v at h1
    generalize g (b k) = y
    generalize b k = z at h2
    grind
  rw [this]
  generalize (sm (m + 1) fun k => 1 / (x - b k) * (g (b k) / pmx (m + 1) k fun t => b t - b k)) = S
  generalize pm (m + 1) (fun t => b t - x) = p at hp
  grind
theorem cau_undo {n : Nat} {a b : Nat → Rat} (h : CauH n a b) {i j : Nat} (hi : i < n) (hj : j < n) : sm n (fun k => 1 / (a i - b k) * cuF a b k j n) = if i = j then 1 else 0 := by
  have d1 : pmx n j (fun t => a j - a t) ≠ 0 := pmx_ne fun t ht e => h.da hj ht (Ne.symm e)
  have q := parts h.ib (show 1 ≤ n by omega) (g := fun X => pmx n j fun t => a t - X) (by
    obtain ⟨m, rfl⟩ : ∃ m, n = m + 1 := ⟨n - 1, by omega⟩
    exact PolE.pmx a j m hj) (x := a i) fun k hk => h.ne i k hi hk
  have e : sm n (fun k => 1 / (a i - b k) * cuF a b k j n) = (pm n (fun t => a j - b t) / pmx n j fun t => a j - a t) * sm n (fun k => 1 / (a i - b k) * ((pmx n j fun t => a t - b k) / pmx n k fun t => b t - b k)) := by
    rw [← sm_smul]
    refine sm_congr fun k hk => ?_
    rw [cuF_eq h hk hj n (Nat.le_refl _), pm_split (f := fun t => a t - b k) hj]
    have d2 : pmx n k (fun t => b t - b k) ≠ 0 := pmx_ne fun t ht e => h.db ht hk e
    have x1 := h.dx hj hk
    have x2 := h.dx hi hk
    generalize pmx n k (fun t => b t - b k) = u at d2
    generalize pmx n j (fun t => a j - a t) = v at d1
    generalize pmx n j (fun t => a t - b k) = w
    generalize pm n (fun t => a j - b t) = p
    generalize a j - b k = s at x1
    generalize a i - b k = r at x2
    grind
  rw [e, q]
  by_cases c : i = j
  · subst c
    rw [if_pos rfl]
    have hp : pm n (fun t => a i - b t) ≠ 0 := pm_ne fun t ht => h.dx hi ht
    have n1 : pm n (fun t => b t - a i) = pm n (fun _ => -1) * pm n (fun t => a i - b t) := by rw [← pm_neg]; exact pm_congr fun t _ => by grind
    have n2 : (pmx n i fun t => a t - a i) = -(pm n (fun _ => -1)) * pmx n i (fun t => a i - a t) := by
      rw [← pmx_neg hi]; exact pm_congr fun t _ => by
        by_cases c : t = i
        · rw [if_pos c, if_pos c]
        · rw [if_neg c, if_neg c]; grind
    show _ * -((pmx n i fun t => a t - a i) / _) = _
    rw [n1, n2]
    have s := pm_sgn n
    generalize pm n (fun _ => -1) = s0 at s
    generalize pm n (fun t => a i - b t) = p at hp
    generalize pmx n i (fun t => a i - a t) = v at d1
    have : s0 ≠ 0 := fun e => by rw [e] at s; grind
    grind
  · rw [if_neg c]
    show _ * -((pmx n j fun t => a t - a i) / _) = _
    rw [pmx_zero (f := fun t => a t - a i) (l := i) hi c (by grind)]; grind
end Go.Proofs.YtkaooejeljdbnaaGreat

namespace Go.Proofs.YtkaooejeljdbnaaGreat
/-- The product of all differences of two of either row. -/
def cUp (a b : Nat → Rat) (n : Nat) : Rat := pm n fun i => pm i fun k => (a i - a k) * (b k - b i)
/-- The product of all differences of one of each. -/
def cDn (a b : Nat → Rat) (m n : Nat) : Rat := pm m fun i => pm n fun k => a i - b k
def cDet (a b : Nat → Rat) (n : Nat) : Rat := cUp a b n / cDn a b n n
theorem cDn_ne {a b : Nat → Rat} {m n : Nat} (h : ∀ i k, i < m → k < n → a i ≠ b k) : cDn a b m n ≠ 0 := pm_ne fun i hi => pm_ne fun k hk => rsub_ne (h i k hi hk)
theorem pm_mul {f g : Nat → Rat} : ∀ n, pm n (fun i => f i * g i) = pm n f * pm n g := by
  intro n
  induction n with
  | zero => simp only [pm]; grind
  | succ n ih => simp only [pm]; rw [ih]; grind
theorem cDn_succ {a b : Nat → Rat} {m n : Nat} : cDn a b m (n + 1) = cDn a b m n * pm m fun i => a i - b n := by
  unfold cDn; simp only [pm]; exact pm_mul m
theorem cUp_zero {a b : Nat → Rat} {n : Nat} : cUp a b n = 0 ↔ ¬ (Inj a n ∧ Inj b n) := by
  constructor
  · intro h ⟨ha, hb⟩
    refine pm_ne (fun i hi => pm_ne fun k hk => ?_) h
    intro e
    rcases Rat.mul_eq_zero.1 e with e | e
    · have := ha i k hi (by omega) (by grind); omega
    · have := hb k i (by omega) hi (by grind); omega
  · intro h
    have tw : ∀ (i k : Nat), i < n → k < i → (a i = a k ∨ b i = b k) → cUp a b n = 0 := fun i k hi hk e =>
      pm_zero hi (pm_zero hk (by rcases e with e | e <;> (rw [e]; grind)))
    apply Classical.byContradiction
    intro hc
    refine h ⟨fun i k hi hk e => ?_, fun i k hi hk e => ?_⟩
    · rcases Nat.lt_trichotomy i k with c | c | c
      · exact absurd (tw k i hk c (.inl e.symm)) hc
      · exact c
      · exact absurd (tw i k hi c (.inl e)) hc
    · rcases Nat.lt_trichotomy i k with c | c | c
      · exact absurd (tw k i hk c (.inr e.symm)) hc
      · exact c
      · exact absurd (tw i k hi c (.inr e)) hc
theorem cDet_zero {a b : Nat → Rat} {n : Nat} (h : ∀ i k, i < n → k < n → a i ≠ b k) : cDet a b n = 0 ↔ ¬ (Inj a n ∧ Inj b n) := by
  rw [← cUp_zero]
  have := cDn_ne h
  unfold cDet
  constructor
  · intro e; generalize cUp a b n = u at e; generalize cDn a b n n = d at e this; grind
  · intro e; rw [e]; grind
abbrev cauM (a b : Nat → Rat) : Nat → Nat → Rat := fun i k => 1 / (a i - b k)
def cU (a b : Nat → Rat) (k i : Nat) : Rat := pm k fun t => (a i - a t) / (a i - b t)
def cV (a b : Nat → Rat) (k j : Nat) : Rat := pm k fun t => (b t - b j) / (a t - b j)
def cS (a b : Nat → Rat) (k i j : Nat) : Rat := 1 / (a i - b j) * (cU a b k i * cV a b k j)
theorem div_ne {a b : Rat} (ha : a ≠ 0) (hb : b ≠ 0) : a / b ≠ 0 := fun e => ha (by have : a = a / b * b := by grind
                                                                                    rw [this, e]; grind)
theorem cS_ne {n : Nat} {a b : Nat → Rat} (h : CauH n a b) {k : Nat} (hk : k < n) : cS a b k k k ≠ 0 := by
  have h1 : cU a b k k ≠ 0 := pm_ne fun t ht => div_ne (h.da hk (by omega) (by omega)) (h.dx hk (by omega))
  have h2 : cV a b k k ≠ 0 := pm_ne fun t ht => div_ne (h.db (by omega) hk (by omega)) (h.dx (by omega) hk)
  have h3 := h.dx hk hk
  intro e
  rcases Rat.mul_eq_zero.1 e with e | e
  · exact div_ne (by decide) h3 e
  · rcases Rat.mul_eq_zero.1 e with e | e
    · exact h1 e
    · exact h2 e
theorem frac_mul {a b c d : Rat} (hb : b ≠ 0) (hd : d ≠ 0) : a / b * (c / d) = a * c / (b * d) := by
  have := rmul_ne hb hd
  grind
theorem frac1 {x y z w : Rat} (hx : x ≠ 0) (hz : z ≠ 0) (hw : w ≠ 0) (e : x = z + w - y) : 1 / x - y / (z * w) = 1 / x * ((z - y) / z) * ((w - y) / w) := by
  have hzw := rmul_ne hz hw
  have hxz := rmul_ne hx hzw
  have e1 : 1 / x = z * w / (x * (z * w)) := by generalize z * w = v at hzw hxz; grind
  have e2 : y / (z * w) = y * x / (x * (z * w)) := by generalize z * w = v at hzw hxz; grind
  have e3 : 1 / x * ((z - y) / z) * ((w - y) / w) = (z - y) * (w - y) / (x * (z * w)) := by
    generalize z - y = p
    generalize w - y = q
    grind
  rw [e3, e2]
  conv => lhs; rw [e1]
  have e4 : (z - y) * (w - y) = z * w - y * x := by rw [e]; grind
  rw [e4]
  generalize z * w = v
  generalize y * x = t
  generalize x * v = r
  grind
theorem frac2 {x2 x1 x3 p q u v : Rat} (h2 : x2 ≠ 0) (h1 : x1 ≠ 0) (h3 : x3 ≠ 0) (hu : u ≠ 0) (hv : v ≠ 0) : 1 / x2 * (p * v) / (1 / x1 * (u * v)) * (1 / x3 * (u * q)) = x1 / (x2 * x3) * (p * q) := by
  have h23 := rmul_ne h2 h3
  have huv := rmul_ne hu hv
  have e1 : 1 / x1 * (u * v) = u * v / x1 := by grind
  have e2 : 1 / x2 * (p * v) / (u * v / x1) = p * x1 / (x2 * u) := by
    have := rmul_ne h2 hu
    have : u * v / x1 ≠ 0 := div_ne huv h1
    grind
  rw [e1, e2]
  have := rmul_ne h2 hu
  grind
theorem cS_step {n : Nat} {a b : Nat → Rat} (h : CauH n a b) {k i j : Nat} (hk : k < n) (hi : i < n) (hj : j < n) : cS a b k i j - cS a b k i k / cS a b k k k * cS a b k k j = cS a b (k + 1) i j := by
  have h1 : cU a b k k ≠ 0 := pm_ne fun t ht => div_ne (h.da hk (by omega) (by omega)) (h.dx hk (by omega))
  have h2 : cV a b k k ≠ 0 := pm_ne fun t ht => div_ne (h.db (by omega) hk (by omega)) (h.dx (by omega) hk)
  have x1 := h.dx hk hk
  have x2 := h.dx hi hk
  have x3 := h.dx hk hj
  have x4 := h.dx hi hj
  show _ = 1 / (a i - b j) * (cU a b k i * ((a i - a k) / (a i - b k)) * (cV a b k j * ((b k - b j) / (a k - b j))))
  unfold cS
  generalize cU a b k k = u at h1
  generalize cV a b k k = v at h2
  generalize cU a b k i = p
  generalize cV a b k j = q
  rw [frac2 x2 x1 x3 h1 h2]
  have e2 := frac1 (x := a i - b j) (y := a k - b k) x4 x2 x3 (by grind)
  have f1 : a i - b k - (a k - b k) = a i - a k := by grind
  have f2 : a k - b j - (a k - b k) = b k - b j := by grind
  rw [f1, f2] at e2
  generalize (a i - a k) / (a i - b k) = s at e2
  generalize (b k - b j) / (a k - b j) = t at e2
  generalize (a k - b k) / ((a i - b k) * (a k - b j)) = d at e2
  generalize 1 / (a i - b j) = c at e2
  have : c * (p * q) - d * (p * q) = (c - d) * (p * q) := by grind
  rw [this, e2]
  grind
theorem cau_elim {n : Nat} {a b : Nat → Rat} (h : CauH n a b) : ∀ j, j ≤ n → (elim n (cauM a b) j).r = j ∧ (elim n (cauM a b) j).det = pm j (fun t => cS a b t t t) ∧ ∀ i k, i < n → k < n → j ≤ i → j ≤ k → (elim n (cauM a b) j).A i k = cS a b j i k := by
  intro j
  induction j with
  | zero =>
    refine fun _ => ⟨rfl, rfl, fun i k _ _ _ _ => ?_⟩
    show 1 / (a i - b k) = 1 / (a i - b k) * (1 * 1)
    grind
  | succ j ih =>
    intro hj
    obtain ⟨h1, h2, h3⟩ := ih (by omega)
    have d := h3 j j (by omega) (by omega) (Nat.le_refl _) (Nat.le_refl _)
    have nz := cS_ne h (show j < n by omega)
    have hp : pv (elim n (cauM a b) j).A j n j = j := pv_eq (Nat.le_refl _) (by omega) (fun i h1 h2 => by omega) (.inr (by rw [d]; exact nz))
    rw [elim_next h1 (by rw [hp]; omega), hp]
    refine ⟨rfl, ?_, fun i k hi hk hji hjk => ?_⟩
    · show (if j = j then _ else _) * _ = _
      rw [if_pos rfl, d, h2]; rfl
    · show redM (swpM _ j j) j j i k = _
      rw [swpM_self, redM_gt (by omega) (by omega), h3 i k hi hk (by omega) (by omega), h3 i j hi (by omega) (by omega) (Nat.le_refl _), d, h3 j k (by omega) hk (Nat.le_refl _) (by omega)]
      exact cS_step h (by omega) hi hk
theorem cS_det {n : Nat} {a b : Nat → Rat} (h : CauH n a b) : ∀ m, m ≤ n → pm m (fun t => cS a b t t t) = cDet a b m := by
  intro m
  induction m with
  | zero => intro _; unfold cDet cUp cDn; simp only [pm]; grind
  | succ m ih =>
    intro hm
    have e1 : cUp a b (m + 1) = cUp a b m * pm m fun k => (a m - a k) * (b k - b m) := rfl
    have e2 : cDn a b (m + 1) (m + 1) = cDn a b m m * (pm m fun i => a i - b m) * ((pm m fun k => a m - b k) * (a m - b m)) := by
      show cDn a b m (m + 1) * _ = _
      rw [cDn_succ]; rfl
    have n0 : cDn a b m m ≠ 0 := cDn_ne fun i k hi hk => h.ne i k (by omega) (by omega)
    have n1 : pm m (fun i => a i - b m) ≠ 0 := pm_ne fun i hi => h.dx (by omega) (by omega)
    have n2 : pm m (fun k => a m - b k) ≠ 0 := pm_ne fun i hi => h.dx (by omega) (by omega)
    have n3 := h.dx (show m < n by omega) (show m < n by omega)
    have dv : ∀ (f g : Nat → Rat) (q : Nat), (∀ i, i < q → g i ≠ 0) → pm q (fun t => f t / g t) = pm q f / pm q g := by
      intro f g q
      induction q with
      | zero => intro _; simp only [pm]; grind
      | succ q ih =>
        intro hq
        have z := hq q (by omega)
        have z2 : pm q g ≠ 0 := pm_ne fun i hi => hq i (by omega)
        simp only [pm]; rw [ih fun i hi => hq i (by omega)]
        grind
    simp only [pm]
    rw [ih (by omega)]
    unfold cDet
    rw [e1, e2, pm_mul]
    unfold cS cU cV
    rw [dv _ _ m fun t ht => h.dx (by omega) (by omega), dv _ _ m fun t ht => h.dx (by omega) (by omega)]
    generalize cDn a b m m = d at n0
    generalize pm m (fun i => a i - b m) = x at n1
    generalize pm m (fun k => a m - b k) = y at n2
    generalize pm m (fun t => a m - a t) = u
    generalize pm m (fun t => b t - b m) = v
    generalize a m - b m = z at n3
    generalize cUp a b m = p
    rw [frac_mul n2 n1, frac_mul n3 (rmul_ne n2 n1), frac_mul n0 (rmul_ne n3 (rmul_ne n2 n1))]
    congr 1
    · grind
    · grind
/-- The determinant is the product of differences. -/
theorem cau_det {n : Nat} {a b : Nat → Rat} (h : ∀ i k, i < n → k < n → a i ≠ b k) : (elim n (cauM a b) n).det = cDet a b n := by
  by_cases c : Inj a n ∧ Inj b n
  · have H : CauH n a b := ⟨c.1, c.2, h⟩
    rw [(cau_elim H n (Nat.le_refl _)).2.1, cS_det H n (Nat.le_refl _)]
  · rw [(cDet_zero h).2 c]
    apply Classical.byContradiction
    intro hd
    refine c ⟨fun i k hi hk e => ?_, fun i k hi hk e => ?_⟩
    · apply Classical.byContradiction
      intro hne
      have s1 := slv_ok (y := fun t => if t = i then 1 else 0) hd i hi
      have s2 := slv_ok (y := fun t => if t = i then 1 else 0) hd k hk
      have : (fun t => cauM a b i t * bk (elim n (augM n (cauM a b) fun t => if t = i then 1 else 0) n).A n n t) = fun t => cauM a b k t * bk (elim n (augM n (cauM a b) fun t => if t = i then 1 else 0) n).A n n t := by
        funext t; show 1 / (a i - b t) * _ = 1 / (a k - b t) * _; rw [e]
      rw [this, s2, if_pos rfl, if_neg (Ne.symm hne)] at s1
      exact absurd s1 (by decide)
    · apply Classical.byContradiction
      intro hne
      have hK : Ker n n (cauM a b) fun t => (if t = i then 1 else 0) - (if t = k then 1 else 0) := fun r hr => by
        have : (fun t => cauM a b r t * ((if t = i then 1 else 0) - (if t = k then 1 else 0))) = fun t => cauM a b r t * (if t = i then 1 else 0) - cauM a b r t * (if t = k then 1 else 0) := by funext t; grind
        rw [this, sm_sub, sm_one hi, sm_one hk]
        show 1 / (a r - b i) - 1 / (a r - b k) = 0
        rw [e]; grind
      have := ker1 hd hK i hi
      rw [if_pos rfl, if_neg hne] at this
      grind
end Go.Proofs.YtkaooejeljdbnaaGreat

namespace Go.Proofs.YtkaooejeljdbnaaGreat
open Go
set_option linter.unusedVariables false
set_option linter.unusedSimpArgs false
set_option maxRecDepth 10000
theorem czero_ok : CallP Tryz.prog 71 [] (.p (ratP 0)) [] := by
  refine callG_of_vc (wr := wr0) Γok mixed Tryz.func71 (by kernel_rfl) rfl (by kernel_rfl) (le_of_ble rfl) (by simp) ?_
  refine SRet.pure ?_
  rw [ratP_zero]
  exact conv3 ⟨rfl, rfl, rfl⟩ (.p _ (.bool _)) (.p _ (.sl _ _ (fun e he => by simp at he))) (frz1 rfl)
theorem cone_ok : CallP Tryz.prog 66 [] (.p (ratP 1)) [] := by
  refine callG_of_vc (wr := wr0) Γok mixed Tryz.func66 (by kernel_rfl) rfl (by kernel_rfl) (le_of_ble rfl) (by simp) ?_
  refine SRet.pure ?_
  rw [ratP_one']
  exact conv3 ⟨rfl, rfl, rfl⟩ (.p _ (.bool _)) (frz1 rfl) (frz1 rfl)
theorem cover_ok (p q : Rat) (hq0 : q ≠ 0) {j k : Nat} (hp : Bz p j) (hq : Bz q k) (h : j + k ≤ 137438953472) : CallP Tryz.prog 68 [ratP p, ratP q] (.p (ratP (p / q))) [] := by
  refine callG_of_vc (wr := wr0) Γok mixed Tryz.func68 (by kernel_rfl) rfl (by kernel_rfl) (le_of_ble rfl) (by simp) ?_
  refine SCall.pureT (quo_ok p q hq0 hp.sz hq.sz h) (fun _ => rfl) ?_
  exact SRet.pure (.p _ (pers_rat _ _ _))
theorem twins_ok (i k : Nat) : CallP Tryz.prog 141 [pairP i k] (.p (.bool (decide (i = k)))) [] := by
  refine callG_of_vc (wr := wr0) Γok mixed Tryz.func141 (by kernel_rfl) rfl (by kernel_rfl) (le_of_ble rfl) (by simp) ?_
  refine SCmp.sym ?_
  have : (((i : Int) == (k : Int)) && (((k : Int) == (i : Int)) && true)) = decide (i = k) := by
    by_cases e : i = k
    · subst e; simp
    · rw [decide_eq_false e, beq_eq_false_iff_ne.2 (show (i : Int) ≠ k by omega)]; rfl
  rw [this]
  exact SRet.pure (.p _ (.bool _))
abbrev mapP (n : Nat) (f : Nat → Nat → Rat) : PV := .mp false (tabF n f (n * n))
theorem cof_ok (m m' : Bool) (n : Nat) (x y : Nat → Rat) {b c : Nat} (hx : ∀ i, i < n → Bz (x i) b) (hy : ∀ i, i < n → Bz (y i) c) (hb : b + c ≤ 1048576) (hn : n ≤ 1000) :
    CallP Tryz.prog 107 [ratsM m (lst n x), ratsM m' (lst n y)] (.p (mapP n fun i k => x i - y k)) [] := by
  refine callG_of_vc (wr := wr0) Γok mixed Tryz.func107 (by kernel_rfl) rfl (by kernel_rfl) (le_of_ble rfl) (by simp) ?_
  refine SZ.mk (n : Int) (by simp [lst]) ?_
  refine SLoop.mk Nat (fun i => ([(1, .p (ratsM m' (lst n y))), (5, .map 0), (11, .p (ratsM m (lst n x))), (12, .p (.int .i64 n)), (13, .p (.int .i64 i))], [.map (tabF n (fun i k => x i - y k) (i * n))]))
    (fun i => i ≤ n) (fun i => n - i) 0 [0] (Nat.zero_le _) ⟨rfl, by simp, rfl, rfl, rfl, ⟨rfl, rfl, rfl, rfl, rfl, trivial⟩, ⟨by rw [Nat.zero_mul]; rfl, trivial⟩⟩ ?_
  intro i hi
  have hi : i ≤ n := hi
  by_cases hin : i < n
  · refine SCmp.yes (decide_eq_true (by omega)) ?_
    refine SIdx.rf i rfl hin ?_
    refine SZ.mk (n : Int) (by simp [lst]) ?_
    refine SLoop.mk Nat (fun k => ([(1, .p (ratsM m' (lst n y))), (5, .map 0), (6, .p (.int .i64 i)), (7, .bptr 1 0), (11, .p (ratsM m (lst n x))), (12, .p (.int .i64 n)), (13, .p (.int .i64 i)), (18, .p (ratsM m' (lst n y))), (19, .p (.int .i64 n)), (20, .p (.int .i64 k))], [.map (tabF n (fun i k => x i - y k) (i * n + k)), .box 33 (bxQ (x i))]))
      (fun k => k ≤ n) (fun k => n - k) 0 [0, 1] (Nat.zero_le _) ⟨rfl, by simp, rfl, rfl, rfl, ⟨rfl, rfl, rfl, rfl, rfl, rfl, rfl, rfl, rfl, rfl, trivial⟩, ⟨rfl, rfl, trivial⟩⟩ ?_
    intro k hk
    have hk : k ≤ n := hk
    by_cases hkn : k < n
    · refine SCmp.yes (decide_eq_true (by omega)) ?_
      refine SIdx.rf k rfl hkn ?_
      refine SCall.pure (ratsub_ok _ _ (hx i hin).sz (hy k hkn).sz (by omega)) ?_
      refine SKeys.tab (fun _ _ => rfl) <| SPut.tab hkn rfl ?_
      refine SWrap.i64z ((k + 1 : Nat) : Int) (by omega) (by omega) ?_
      exact ⟨k + 1, [0, 1], hkn, by show n - (k + 1) < n - k; omega, ⟨rfl, by simp, rfl, rfl, rfl, ⟨rfl, rfl, rfl, rfl, rfl, rfl, rfl, rfl, rfl, rfl, trivial⟩, ⟨rfl, rfl, trivial⟩⟩⟩
    · refine SCmp.no (decide_eq_false (by omega)) ?_
      obtain rfl : k = n := by omega
      refine SWrap.i64z ((i + 1 : Nat) : Int) (by omega) (by omega) ?_
      exact ⟨i + 1, [0], hin, by show k - (i + 1) < k - i; omega, ⟨rfl, by simp, rfl, rfl, rfl, ⟨rfl, rfl, rfl, rfl, rfl, trivial⟩, ⟨congrArg (fun q => Blk.map (tabF k (fun i k => x i - y k) q)) (Nat.succ_mul i k), trivial⟩⟩⟩
  · refine SCmp.no (decide_eq_false (by omega)) ?_
    obtain rfl : i = n := by omega
    exact SRet.pure (.frzmap (es := tabF i (fun a k => x a - y k) (i * i)) rfl (by simp) (List.Perm.refl _) pers_tab)
/-- Is there a nought that isn't beside itself? -/
def twinT (n : Nat) (f : Nat → Nat → Rat) : Prop := ∃ i k, i < n ∧ k < n ∧ i ≠ k ∧ f i k = 0
theorem pairP_inj {a c a' c' : Nat} {u v : PV} (h : (pairP a c, u) = (pairP a' c', v)) : a = a' ∧ c = c' := by
  simp only [Prod.mk.injEq, PV.agg.injEq, List.cons.injEq, PV.int.injEq, and_true, true_and] at h
  omega
theorem same_ok (n : Nat) (f : Nat → Nat → Rat) {b : Nat} (hf : ∀ i k, i < n → k < n → Bz (f i k) b) (hb : b ≤ 1048576) (hn : n ≤ 1000) (r : Bool) (hr : r = true ↔ twinT n f) : CallP Tryz.prog 108 [mapP n f] (.p (.bool r)) [] := by
  refine callG_of_vc (wr := wr0) Γok mixed Tryz.func108 (by kernel_rfl) rfl (by kernel_rfl) (le_of_ble rfl) (by simp) ?_
  intro es0 hp
  have hent : ∀ (i : Nat) (e : PV × PV), es0[i]? = some e → ∃ a c, a < n ∧ c < n ∧ e = (pairP a c, ratP (f a c)) := fun i e he => by
    obtain ⟨t, ht, rfl⟩ := tabF_key (hp.mem_iff.1 (List.mem_of_getElem? he))
    have n0 : 0 < n := by rcases Nat.eq_zero_or_pos n with h | h; rw [h] at ht; simp at ht; exact h
    exact ⟨t / n, t % n, Nat.div_lt_of_lt_mul ht, Nat.mod_lt _ n0, rfl⟩
  have hlen : es0.length = n * n := by rw [hp.length_eq]; simp
  refine SLoop.mk (List Nat) (fun s => ([(6, .bptr 0 0)], [.iter false es0 s]))
    (fun s => ∀ j ∈ s, ∀ a c, es0[j]? = some (pairP a c, ratP (f a c)) → a = c ∨ f a c ≠ 0) (fun s => unseen s (n * n)) [] [0] (fun j hj => by simp at hj) ⟨rfl, by simp, rfl, rfl, rfl, ⟨rfl, trivial⟩, ⟨rfl, trivial⟩⟩ ?_
  intro s hs
  refine SNext.mk (fun j e hj hjs => ?_) (fun hend => ?_)
  · obtain ⟨a, c, ha, hc, rfl⟩ := hent j e hj
    have hz := hf a c ha hc
    have go : (a = c ∨ f a c ≠ 0) → ∀ i ∈ s ++ [j], ∀ a c, es0[i]? = some (pairP a c, ratP (f a c)) → a = c ∨ f a c ≠ 0 := fun h i hi a' c' he => by
      rcases List.mem_append.1 hi with hi | hi
      · exact hs i hi a' c' he
      · rw [List.mem_singleton.1 hi, hj] at he
        obtain ⟨rfl, rfl⟩ := pairP_inj (Option.some.inj he)
        exact h
    have hlt : unseen (s ++ [j]) (n * n) < unseen s (n * n) := unseen_lt hjs (by rw [← hlen]; exact (List.getElem?_eq_some_iff.1 hj).1)
    refine SEntry.mk j _ (by simp) hj ?_
    have ht := twins_ok a c
    by_cases e1 : a = c
    · rw [decide_eq_true e1] at ht
      refine SCall.pure (ht) ?_
      refine SCmp.no (rfl) ?_
      exact ⟨s ++ [j], [0], go (.inl e1), hlt, ⟨rfl, by simp, rfl, rfl, rfl, ⟨rfl, trivial⟩, ⟨rfl, trivial⟩⟩⟩
    · rw [decide_eq_false e1] at ht
      refine SCall.pure (ht) ?_
      refine SCmp.yes (rfl) ?_
      refine SZ.mk (nlen (f a c).num.natAbs : Int) (by simp) ?_
      by_cases e2 : f a c = 0
      · refine SCmp.yes (eqT (by rw [e2, show (0 : Rat).num.natAbs = 0 from rfl, nlen_zero_iff.2 rfl]; rfl)) ?_
        obtain rfl : r = true := hr.2 ⟨a, c, ha, hc, e1, e2⟩
        exact SRet.pure (.tf _)
      · have : nlen (f a c).num.natAbs ≠ 0 := fun h => e2 (Rat.num_eq_zero.1 (by have := nlen_zero_iff.1 h; omega))
        refine SCmp.no (eqF (by omega)) ?_
        exact ⟨s ++ [j], [0], go (.inr e2), hlt, ⟨rfl, by simp, rfl, rfl, rfl, ⟨rfl, trivial⟩, ⟨rfl, trivial⟩⟩⟩
  · obtain rfl : r = false := by
      cases r with
      | false => rfl
      | true =>
        obtain ⟨a, c, ha, hc, e1, e2⟩ := hr.1 rfl
        have hm : (pairP a c, ratP (f a c)) ∈ es0 := hp.mem_iff.2 (List.mem_of_getElem? (i := a * n + c) (by rw [fl_get (at_lt ha hc), at_div hc, at_mod hc]))
        obtain ⟨i, hi⟩ := List.getElem?_of_mem hm
        rcases hs i (hend i (List.getElem?_eq_some_iff.1 hi).1) a c hi with h | h
        · exact absurd h e1
        · exact absurd e2 h
    exact SRet.pure (.tf _)
end Go.Proofs.YtkaooejeljdbnaaGreat

namespace Go.Proofs.YtkaooejeljdbnaaGreat
open Go
set_option linter.unusedVariables false
set_option linter.unusedSimpArgs false
set_option maxRecDepth 10000
theorem twin_inj {n : Nat} {x : Nat → Rat} : twinT n (fun i k => x i - x k) ↔ ¬ Inj x n := by
  constructor
  · rintro ⟨i, k, hi, hk, e, h⟩ hI
    exact e (hI i k hi hk (by grind))
  · intro h
    apply Classical.byContradiction
    intro hc
    refine h fun i k hi hk e => ?_
    apply Classical.byContradiction
    intro hne
    exact hc ⟨i, k, hi, hk, hne, by show x i - x k = 0; rw [e]; grind⟩
/-- Are two of a row's nodes the same? -/
noncomputable def notInj (x : Nat → Rat) (n : Nat) : Bool := @decide (¬ Inj x n) (Classical.propDecidable _)
theorem notInj_iff {x : Nat → Rat} {n : Nat} : notInj x n = true ↔ ¬ Inj x n := by unfold notInj; simp
theorem notInj_tt {x : Nat → Rat} {n : Nat} (h : ¬ Inj x n) : notInj x n = true := notInj_iff.2 h
theorem notInj_ff {x : Nat → Rat} {n : Nat} (h : Inj x n) : notInj x n = false := by
  cases e : notInj x n with
  | false => rfl
  | true => exact absurd h (notInj_iff.1 e)
abbrev sidesL (n : Nat) (a b : Nat → Rat) (tA tB : Bool) : List PV := [.int .i64 (n : Int), mapP n fun i k => a i - a k, mapP n fun i k => b i - b k, mapP n fun i k => a i - b k, .bool tA, .bool tB]
abbrev sidesA (n : Nat) (a b : Nat → Rat) (tA tB : Bool) : List AV := [.p (.int .i64 (n : Int)), .p (mapP n fun i k => a i - a k), .p (mapP n fun i k => b i - b k), .p (mapP n fun i k => a i - b k), .p (.bool tA), .p (.bool tB)]
noncomputable abbrev sidesP (g : GV) : PV := .agg (sidesL g.n g.A g.B (notInj g.A g.n) (notInj g.B g.n))
theorem pers_map {n : Nat} {f : Nat → Nat → Rat} : Pers (mapP n f) := .mp _ (fun e he => (pers_tab e he).1) fun e he => (pers_tab e he).2
theorem pers_sides {n : Nat} {a b : Nat → Rat} {tA tB : Bool} : Pers (.agg (sidesL n a b tA tB)) := .agg _ fun c hc => by
  simp only [sidesL, List.mem_cons, List.not_mem_nil, or_false] at hc
  rcases hc with rfl | rfl | rfl | rfl | rfl | rfl <;> first | exact .int _ _ | exact .bool _ | exact pers_map
structure CauG (g : GV) (b c : Nat) : Prop extends Wf g b c where
  k5 : g.k = 5
theorem CauG.la {g : GV} {b c : Nat} (h : CauG g b c) : g.la = g.n := h.toWf.la3 (by have := h.k5; omega)
theorem CauG.lb {g : GV} {b c : Nat} (h : CauG g b c) : g.lb = g.n := h.toWf.lb5 (by have := h.k5; omega)
theorem CauG.za {g : GV} {b c : Nat} (h : CauG g b c) {i : Nat} (hi : i < g.n) : Bz (g.A i) 100 := (h.bA i (by rw [h.la]; exact hi)).mono (Nat.le_trans h.bc h.c4)
theorem CauG.zb {g : GV} {b c : Nat} (h : CauG g b c) {i : Nat} (hi : i < g.n) : Bz (g.B i) 100 := (h.bB i (by rw [h.lb]; exact hi)).mono h.c4
theorem CauG.daa {g : GV} {b c : Nat} (h : CauG g b c) {i k : Nat} (hi : i < g.n) (hk : k < g.n) : Bz (g.A i - g.A k) 201 := (h.za hi).sub (h.za hk)
theorem CauG.dbb {g : GV} {b c : Nat} (h : CauG g b c) {i k : Nat} (hi : i < g.n) (hk : k < g.n) : Bz (g.B i - g.B k) 201 := (h.zb hi).sub (h.zb hk)
theorem CauG.dab {g : GV} {b c : Nat} (h : CauG g b c) {i k : Nat} (hi : i < g.n) (hk : k < g.n) : Bz (g.A i - g.B k) 201 := (h.za hi).sub (h.zb hk)
theorem CauG.nab {g : GV} {b c : Nat} (h : CauG g b c) {i k : Nat} (hi : i < g.n) (hk : k < g.n) : g.A i ≠ g.B k := h.ne i k (by rw [h.la]; exact hi) (by rw [h.lb]; exact hk)
theorem begun_ok (m : Nat → Bool) (g : GV) {b c : Nat} (h : CauG g b c) : CallP Tryz.prog 65 [genP m g] (.tup [.p (sidesP g), .p (.int .i64 0)]) [] := by
  have h6 := h.n6
  have hk := h.k5
  have eA : lst g.la g.A = lst g.n g.A := by rw [h.la]
  have eB : lst g.lb g.B = lst g.n g.B := by rw [h.lb]
  have c1 := cof_ok (m 0) (m 0) g.n g.A g.A (fun i hi => h.za hi) (fun i hi => h.za hi) (by decide) (by omega)
  have c2 := cof_ok (m 1) (m 1) g.n g.B g.B (fun i hi => h.zb hi) (fun i hi => h.zb hi) (by decide) (by omega)
  have c3 := cof_ok (m 0) (m 1) g.n g.A g.B (fun i hi => h.za hi) (fun i hi => h.zb hi) (by decide) (by omega)
  rw [← eA] at c1 c3
  rw [← eB] at c2 c3
  have s1 := same_ok g.n (fun i k => g.A i - g.A k) (b := 201) (fun i k hi hk => h.daa hi hk) (by omega) (by omega) (notInj g.A g.n) (notInj_iff.trans twin_inj.symm)
  have s2 := same_ok g.n (fun i k => g.B i - g.B k) (b := 201) (fun i k hi hk => h.dbb hi hk) (by omega) (by omega) (notInj g.B g.n) (notInj_iff.trans twin_inj.symm)
  refine callG_of_vc (wr := wr0) Γok mixed Tryz.func65 (by kernel_rfl) rfl (by kernel_rfl) (le_of_ble rfl) (by simp) ?_
  refine SCmp.no (neF (by omega)) ?_
  refine SCall.pure (gcheck_ok m g h.toWf) ?_
  refine SCmp.no (rfl) ?_
  refine SDraw.mkX (by kernel_rfl) ?_
  repeat refine SOp.mk _ _ (And.intro rfl rfl) rfl ?_
  refine SOp.mk _ _ (SCall.pure (c1) (And.intro rfl rfl)) rfl ?_
  repeat refine SOp.mk _ _ (And.intro rfl rfl) rfl ?_
  refine SOp.mk _ _ (SCall.pure (c2) (And.intro rfl rfl)) rfl ?_
  repeat refine SOp.mk _ _ (And.intro rfl rfl) rfl ?_
  refine SOp.mk _ _ (SCall.pure (c3) (And.intro rfl rfl)) rfl ?_
  repeat refine SOp.mk _ _ (And.intro rfl rfl) rfl ?_
  refine SFin.mk (by kernel_rfl) ?_
  refine SDraw.mkX (by kernel_rfl) ?_
  repeat refine SOp.mk _ _ (And.intro rfl rfl) rfl ?_
  refine SOp.mk _ _ (SCall.pure (s1) (And.intro rfl rfl)) rfl ?_
  repeat refine SOp.mk _ _ (And.intro rfl rfl) rfl ?_
  refine SOp.mk _ _ (SCall.pure (s2) (And.intro rfl rfl)) rfl ?_
  repeat refine SOp.mk _ _ (And.intro rfl rfl) rfl ?_
  refine SFin.mk (by kernel_rfl) ?_
  exact SRet.pure (.tup rfl fun i c d e1 e2 => by
    match i, e1, e2 with
    | 0, e1, e2 => cases e1; cases e2; exact .p _ pers_sides
    | 1, e1, e2 => cases e1; cases e2; exact .p _ (.int _ _))
theorem div_div {a x y : Rat} : a / x / y = a / (x * y) := by
  rw [Rat.div_def, Rat.div_def, Rat.div_def, Rat.inv_mul_rev]; grind
theorem cdet_ok (m : Nat → Bool) (g : GV) {b c : Nat} (h : CauG g b c) : CallP Tryz.prog 19 [genP m g] (.tup [.p (ratP (cDet g.A g.B g.n)), .p (.int .i64 0)]) [] := by
  have h6 := h.n6
  refine callG_of_vc (wr := wr0) Γok mixed Tryz.func19 (by kernel_rfl) rfl (by kernel_rfl) (le_of_ble rfl) (by simp) ?_
  refine SCall.pureT (begun_ok m g h) (fun _ => rfl) ?_
  refine SCmp.no (rfl) ?_
  refine SCall.pure (cone_ok) ?_
  refine SLoop.mk (Nat × Rat) (fun (i, q) => ([(2, .bptr 0 0), (4, .bptr 1 0), (6, .bptr 2 0), (22, .p (.int .i64 g.n)), (23, .p (.int .i64 i))], [.box 33 zratA, .box 98 (sidesA g.n g.A g.B (notInj g.A g.n) (notInj g.B g.n)), .box 33 (bxQ q)]))
    (fun (i, q) => i ≤ g.n ∧ q = cUp g.A g.B i ∧ Bz q (1 + i * 6 * 403)) (fun x => g.n - x.1) (0, 1) [1, 2, 3] ⟨Nat.zero_le _, rfl, bz_one⟩ ⟨rfl, by simp, rfl, rfl, rfl, ⟨rfl, rfl, rfl, rfl, rfl, trivial⟩, ⟨rfl, rfl, rfl, trivial⟩⟩ ?_
  intro ⟨i, q⟩ ⟨hi, hq, hz⟩
  by_cases hin : i < g.n
  · refine SCmp.yes (decide_eq_true (by omega)) ?_
    refine SLoop.mk (Nat × Rat) (fun (k, q) => ([(2, .bptr 0 0), (4, .bptr 1 0), (6, .bptr 2 0), (7, .p (.int .i64 i)), (22, .p (.int .i64 g.n)), (23, .p (.int .i64 i)), (26, .p (.int .i64 i)), (27, .p (.int .i64 k))], [.box 33 zratA, .box 98 (sidesA g.n g.A g.B (notInj g.A g.n) (notInj g.B g.n)), .box 33 (bxQ q)]))
      (fun (k, q) => k ≤ i ∧ q = cUp g.A g.B i * pm k (fun k => (g.A i - g.A k) * (g.B k - g.B i)) ∧ Bz q (1 + i * 6 * 403 + k * 403)) (fun x => i - x.1) (0, q) [0, 1, 2] ⟨Nat.zero_le _, by rw [hq]; exact (Rat.mul_one _).symm, hz.mono (by omega)⟩ ⟨rfl, by simp, rfl, rfl, rfl, ⟨rfl, rfl, rfl, rfl, rfl, rfl, rfl, rfl, trivial⟩, ⟨rfl, rfl, rfl, trivial⟩⟩ ?_
    intro ⟨k, q⟩ ⟨hk, hq, hz⟩
    by_cases hki : k < i
    · refine SCmp.yes (decide_eq_true (by omega)) ?_
      have hkn : k < g.n := by omega
      have z1 := (h.daa hin hkn).mul (h.dbb hkn hin)
      refine SDraw.mkX (by kernel_rfl) ?_
      repeat refine SOp.mk _ _ (And.intro rfl rfl) rfl ?_
      refine SOp.mk _ _ (SKeys.tab (fun _ _ => rfl) <| SGet.tab hin hkn (And.intro rfl rfl)) rfl ?_
      repeat refine SOp.mk _ _ (And.intro rfl rfl) rfl ?_
      refine SOp.mk _ _ (SKeys.tab (fun _ _ => rfl) <| SGet.tab hkn hin (And.intro rfl rfl)) rfl ?_
      repeat refine SOp.mk _ _ (And.intro rfl rfl) rfl ?_
      refine SOp.mk _ _ (SCall.pure (ratmul_ok _ _ (h.daa hin hkn).sz (h.dbb hkn hin).sz (by omega)) (And.intro rfl rfl)) rfl ?_
      refine SOp.mk _ _ (SCall.pure (ratmul_ok _ _ hz.sz z1.sz (by omega)) (And.intro rfl rfl)) rfl ?_
      repeat refine SOp.mk _ _ (And.intro rfl rfl) rfl ?_
      refine SFin.mk (by kernel_rfl) ?_
      refine SWrap.i64z ((k + 1 : Nat) : Int) (by omega) (by omega) ?_
      exact ⟨(k + 1, _), [0, 1, 2], ⟨hki, by rw [hq, Rat.mul_assoc]; rfl, (hz.mul z1).mono (by omega)⟩, by show i - (k + 1) < i - k; omega, ⟨rfl, by simp, rfl, rfl, rfl, ⟨rfl, rfl, rfl, rfl, rfl, rfl, rfl, rfl, trivial⟩, ⟨rfl, rfl, rfl, trivial⟩⟩⟩
    · refine SCmp.no (decide_eq_false (by omega)) ?_
      obtain rfl : k = i := by omega
      refine SWrap.i64z ((k + 1 : Nat) : Int) (by omega) (by omega) ?_
      exact ⟨(k + 1, q), [0, 1, 2], ⟨hin, hq, hz.mono (by omega)⟩, by show g.n - (k + 1) < g.n - k; omega, ⟨rfl, by simp, rfl, rfl, rfl, ⟨rfl, rfl, rfl, rfl, rfl, trivial⟩, ⟨rfl, rfl, rfl, trivial⟩⟩⟩
  · refine SCmp.no (decide_eq_false (by omega)) ?_
    obtain rfl : i = g.n := by omega
    have hz0 : Bz q 15000 := hz.mono (by omega)
    refine SLoop.mk (Nat × Rat) (fun (i, q) => ([(2, .bptr 0 0), (4, .bptr 1 0), (6, .bptr 2 0), (48, .p (.int .i64 g.n)), (49, .p (.int .i64 i))], [.box 33 zratA, .box 98 (sidesA g.n g.A g.B (notInj g.A g.n) (notInj g.B g.n)), .box 33 (bxQ q)]))
      (fun (i, q) => i ≤ g.n ∧ q = cUp g.A g.B g.n / cDn g.A g.B i g.n ∧ Bz q (15000 + i * 6 * 201)) (fun x => g.n - x.1) (0, q) [0, 1, 2] ⟨Nat.zero_le _, by rw [hq]; show _ = _ / 1; grind, hz0.mono (by omega)⟩ ⟨rfl, by simp, rfl, rfl, rfl, ⟨rfl, rfl, rfl, rfl, rfl, trivial⟩, ⟨rfl, rfl, rfl, trivial⟩⟩ ?_
    intro ⟨i, q⟩ ⟨hi, hq, hz⟩
    by_cases hin : i < g.n
    · refine SCmp.yes (decide_eq_true (by omega)) ?_
      refine SLoop.mk (Nat × Rat) (fun (k, q) => ([(2, .bptr 0 0), (4, .bptr 1 0), (6, .bptr 2 0), (9, .p (.int .i64 i)), (48, .p (.int .i64 g.n)), (49, .p (.int .i64 i)), (53, .p (.int .i64 g.n)), (54, .p (.int .i64 k))], [.box 33 zratA, .box 98 (sidesA g.n g.A g.B (notInj g.A g.n) (notInj g.B g.n)), .box 33 (bxQ q)]))
        (fun (k, q) => k ≤ g.n ∧ q = cUp g.A g.B g.n / (cDn g.A g.B i g.n * pm k (fun k => g.A i - g.B k)) ∧ Bz q (15000 + i * 6 * 201 + k * 201)) (fun x => g.n - x.1) (0, q) [0, 1, 2] ⟨Nat.zero_le _, by rw [hq]; show _ = _ / (_ * 1); rw [Rat.mul_one], hz.mono (by omega)⟩ ⟨rfl, by simp, rfl, rfl, rfl, ⟨rfl, rfl, rfl, rfl, rfl, rfl, rfl, rfl, trivial⟩, ⟨rfl, rfl, rfl, trivial⟩⟩ ?_
      intro ⟨k, q⟩ ⟨hk, hq, hz⟩
      by_cases hkn : k < g.n
      · refine SCmp.yes (decide_eq_true (by omega)) ?_
        refine SDraw.mkX (by kernel_rfl) ?_
        repeat refine SOp.mk _ _ (And.intro rfl rfl) rfl ?_
        refine SOp.mk _ _ (SKeys.tab (fun _ _ => rfl) <| SGet.tab hin hkn (And.intro rfl rfl)) rfl ?_
        repeat refine SOp.mk _ _ (And.intro rfl rfl) rfl ?_
        refine SOp.mk _ _ (SCall.pure (cover_ok _ _ (rsub_ne (h.nab hin hkn)) hz (h.dab hin hkn) (by omega)) (And.intro rfl rfl)) rfl ?_
        repeat refine SOp.mk _ _ (And.intro rfl rfl) rfl ?_
        refine SFin.mk (by kernel_rfl) ?_
        refine SWrap.i64z ((k + 1 : Nat) : Int) (by omega) (by omega) ?_
        exact ⟨(k + 1, _), [0, 1, 2], ⟨hkn, by rw [hq, div_div, Rat.mul_assoc]; rfl, (hz.div (h.dab hin hkn)).mono (by omega)⟩, by show g.n - (k + 1) < g.n - k; omega, ⟨rfl, by simp, rfl, rfl, rfl, ⟨rfl, rfl, rfl, rfl, rfl, rfl, rfl, rfl, trivial⟩, ⟨rfl, rfl, rfl, trivial⟩⟩⟩
      · refine SCmp.no (decide_eq_false (by omega)) ?_
        obtain rfl : k = g.n := by omega
        refine SWrap.i64z ((i + 1 : Nat) : Int) (by omega) (by omega) ?_
        exact ⟨(i + 1, q), [0, 1, 2], ⟨hin, hq, hz.mono (by omega)⟩, by show g.n - (i + 1) < g.n - i; omega, ⟨rfl, by simp, rfl, rfl, rfl, ⟨rfl, rfl, rfl, rfl, rfl, trivial⟩, ⟨rfl, rfl, rfl, trivial⟩⟩⟩
    · refine SCmp.no (decide_eq_false (by omega)) ?_
      obtain rfl : i = g.n := by omega
      have hq : q = cDet g.A g.B g.n := hq
      rw [← hq]
      exact SRet.pure (.tup rfl fun i c d e1 e2 => by
        match i, e1, e2 with
        | 0, e1, e2 => cases e1; cases e2; exact .p _ (pers_rat _ _ _)
        | 1, e1, e2 => cases e1; cases e2; exact .p _ (.int _ _))
end Go.Proofs.YtkaooejeljdbnaaGreat

namespace Go.Proofs.YtkaooejeljdbnaaGreat
open Go
set_option linter.unusedVariables false
set_option linter.unusedSimpArgs false
theorem wf_mkG {k n r : Nat} {ns : List Int} (k1 : 1 ≤ k) (k7 : k ≤ 7) (n1 : 1 ≤ n) (n6 : n ≤ 6) (r1 : k = 6 ∨ k = 7 → 1 ≤ r) (r2 : r ≤ 2) (r0 : k ≤ 5 → r = 0) : Wf (mkG k n r (rowG ns)) 5 13 := by
  have hf : ∀ i, -20 ≤ rowG ns i ∧ rowG ns i ≤ 20 := fun i => smallQ_range _
  have hc := cnt_le (k := k) (r := r) n1 (show n ≤ 8 by omega) (show r ≤ 3 by omega)
  exact {
    k1 := k1, k7 := k7, n1 := n1, n6 := n6, r2 := r2, r1 := r1, r0 := r0
    bA := fun i _ => rowG_bz ns i
    bB := fun i hi => bfix_bz hf (by have hi : i < cntB k n := hi; omega) (hf _) (rowG_bz ns _) _
    bG := fun i _ => rowG_bz ns _
    bH := fun i _ => rowG_bz ns _
    ne := fun i j hi hj => bfix_ne hf (hf _) (show i < cntA k n from hi)
    bc := by omega
    c4 := by omega }
theorem gmR_ok {k : Nat} (n : Int) : (k = 6 ∨ k = 7 → 1 ≤ gmR k n) ∧ gmR k n ≤ 2 ∧ (k ≤ 5 → gmR k n = 0) := by
  unfold gmR
  refine ⟨fun h => by rw [if_pos h]; omega, by split <;> omega, fun h => if_neg (by omega)⟩
theorem gmN_ok (n most : Int) (h1 : 1 ≤ most) : 1 ≤ gmN n most ∧ (gmN n most : Int) ≤ most := by
  have := Int.emod_nonneg n (show most ≠ 0 by omega)
  have := Int.emod_lt_of_pos n (show (0 : Int) < most by omega)
  unfold gmN
  omega
theorem gmK_ok (kind : Int) : 1 ≤ gmK kind ∧ gmK kind ≤ 7 := by unfold gmK; omega
theorem wf_make (kind n most : Int) (ns : List Int) (h1 : 1 ≤ most) (h6 : most ≤ 6) : Wf (mkG (gmK kind) (gmN n most) (gmR (gmK kind) n) (rowG ns)) 5 13 := by
  obtain ⟨r1, r2, r0⟩ := gmR_ok (k := gmK kind) n
  have hn := gmN_ok n most h1
  exact wf_mkG (gmK_ok kind).1 (gmK_ok kind).2 hn.1 (by omega) r1 r2 r0
theorem wf_g13 {g : GV} {ns : List Int} {b c : Nat} (h : Wf g b c) (hk : g.k = 5 ∨ g.k = 7) : Wf (g13 g ns) b c := by
  unfold g13
  split
  · rename_i ht
    have hla : g.la = g.n := h.la3 (by omega)
    have n1 := h.n1
    have ha : ∀ i, i < g.n → ∃ j, j < g.n ∧ upd g.A (g.n - 1) (g.A 0) i = g.A j := fun i hi => by
      by_cases e : i = g.n - 1
      · exact ⟨0, by omega, by rw [e, upd_same]⟩
      · exact ⟨i, hi, upd_other _ _ e⟩
    exact { h with
      bA := fun i hi => by
        obtain ⟨j, hj, e⟩ := ha i (by rw [← hla]; exact hi)
        show Bz (upd g.A (g.n - 1) (g.A 0) i) b
        rw [e]; exact h.bA j (by rw [hla]; exact hj)
      ne := fun i k hi hk => by
        obtain ⟨j, hj, e⟩ := ha i (by rw [← hla]; exact hi)
        show upd g.A (g.n - 1) (g.A 0) i ≠ g.B k
        rw [e]; exact h.ne j k (by rw [hla]; exact hj) hk }
  · exact h
theorem g13_k {g : GV} {ns : List Int} : (g13 g ns).k = g.k := by unfold g13; split <;> rfl
theorem g13_n {g : GV} {ns : List Int} : (g13 g ns).n = g.n := by unfold g13; split <;> rfl
end Go.Proofs.YtkaooejeljdbnaaGreat

namespace Go.Proofs.YtkaooejeljdbnaaGreat
open Go
set_option linter.unusedVariables false
set_option linter.unusedSimpArgs false
set_option maxRecDepth 10000
theorem rall_ok (m m' q q' : Bool) (n w : Nat) (A : Nat → Nat → Rat) {a : Nat} (hA : ∀ i k, i < n → k < w → Bz (A i k) a) (ha : a + a ≤ 1048576) (hn : n ≤ 1000) (hw : w ≤ 1000) :
    CallP Tryz.prog 26 [matP m m' n w A, matP q q' n w A] (.p (.bool true)) [] := by
  refine callG_of_vc (wr := wr0) Γok mixed Tryz.func26 (by kernel_rfl) rfl (by kernel_rfl) (le_of_ble rfl) (by simp) ?_
  refine SZ.mk (n : Int) (by simp) ?_
  refine SZ.mk (n : Int) (by simp) ?_
  refine SCmp.no (neF rfl) ?_
  refine SLoop.mk Nat (fun i => ([(0, .p (matP m m' n w A)), (1, .p (matP q q' n w A)), (5, .p (.int .i64 i))], []))
    (fun i => i ≤ n) (fun i => n - i) 0 [] (Nat.zero_le _) ⟨rfl, .nil, rfl, rfl, rfl, ⟨rfl, rfl, rfl, trivial⟩, trivial⟩ ?_
  intro i hi
  have hi : i ≤ n := hi
  refine SZ.mk (n : Int) (by simp) ?_
  by_cases hin : i < n
  · refine SCmp.yes (decide_eq_true (by omega)) ?_
    have hl : Bl (lst w (A i)) a := Bl.lst fun k hk => hA i k hin hk
    have hR := rrows_ok m' q' (lst w (A i)) (lst w (A i)) hl hl ha (by rw [lst_length]; omega)
    rw [decide_eq_true rfl] at hR
    refine SDraw.mk (by kernel_rfl) ?_
    repeat refine SOp.mk _ _ (And.intro rfl rfl) rfl ?_
    refine SOp.mk _ _ (SIdx.mf i rfl hin (And.intro rfl rfl)) rfl ?_
    repeat refine SOp.mk _ _ (And.intro rfl rfl) rfl ?_
    refine SOp.mk _ _ (SIdx.mf i rfl hin (And.intro rfl rfl)) rfl ?_
    repeat refine SOp.mk _ _ (And.intro rfl rfl) rfl ?_
    refine SOp.mk _ _ (SCall.pure (hR) (And.intro rfl rfl)) rfl ?_
    refine SOp.mk _ _ (SCmp.no rfl (And.intro rfl rfl)) rfl ?_
    refine SWrap.i64z ((i + 1 : Nat) : Int) (by omega) (by omega) ?_
    exact ⟨i + 1, [], hin, by show n - (i + 1) < n - i; omega, ⟨rfl, .nil, rfl, rfl, rfl, ⟨rfl, rfl, rfl, trivial⟩, trivial⟩⟩
  · refine SCmp.no (decide_eq_false (by omega)) ?_
    exact SRet.pure (.tf _)
/-- The zero values of numbers are the same. -/
theorem rsameZ_ok : CallP Tryz.prog 25 [rat0, rat0] (.p (.bool true)) [] := by
  refine callG_of_vc (wr := wr0) Γok mixed Tryz.func25 (by kernel_rfl) rfl (by kernel_rfl) (le_of_ble rfl) (by simp) ?_
  have h := rcmp_ok false false 0 0 (by rw [nlen_zero_iff.2 rfl]; omega) (by rw [nlen_zero_iff.2 rfl]; omega)
  rw [show natM false 0 = .sl false 1 [] by show PV.sl false 1 (limbs (nl 0)) = _; rw [nl_zero]; rfl, show cmpZ 0 0 = 0 by decide] at h
  refine SCmp.yes (beq_self_eq_true _) ?_
  refine SCall.pure (h) ?_
  refine SCmp.yes (rfl) ?_
  refine SCall.pure (h) ?_
  refine SCmp.yes (rfl) ?_
  exact SRet.pure (.tf _)
/-- What is told of a tree is told of another one. -/
def PRle (p' p : PV) : Prop := ∀ w FB v, PR w FB p' v → PR w FB p v
theorem PRle.refl (p : PV) : PRle p p := fun _ _ _ h => h
theorem PRle.nil (m : Bool) (W : Nat) : PRle (.raw (.slice none 0 0)) (.sl m W []) := fun w FB v h => by cases h; exact .nil _ _ _
theorem PRle.agg {cs' cs : List PV} (hl : cs'.length = cs.length) (ho : ∀ c ∈ cs, c.one = true) (h : ∀ (i : Nat) c' c, cs'[i]? = some c' → cs[i]? = some c → PRle c' c) : PRle (.agg cs') (.agg cs) := fun w FB v hv => by
  cases hv with
  | agg _ vs hone hl' h' =>
    refine .agg cs vs ho (by rw [hl', hl]) fun i c v e1 e2 => ?_
    have hi : i < cs'.length := by rw [hl]; exact (List.getElem?_eq_some_iff.1 e1).1
    exact h i cs'[i] c (List.getElem?_eq_getElem hi) e1 _ _ _ (h' i _ v (List.getElem?_eq_getElem hi) e2)
theorem CallG.weak {P : Program} {f : FuncId} {pvs pvs' : List PV} {r : AV} {nb : List Blk} (hc : CallP P f pvs r nb) (hl : pvs'.length = pvs.length) (h : ∀ (i : Nat) p' p, pvs'[i]? = some p' → pvs[i]? = some p → PRle p' p) : CallP P f pvs' r nb :=
  ⟨hc.fn, fun w F Bor β vs ha => hc.run w F Bor β vs { ha with
    len := by rw [ha.len, List.length_map, List.length_map, hl]
    rel := fun i a v e1 e2 => by
      rw [List.getElem?_map] at e1
      cases e : pvs[i]? with
      | none => rw [e] at e1; cases e1
      | some p =>
        rw [e] at e1; cases e1
        have hi : i < pvs'.length := by rw [hl]; exact (List.getElem?_eq_some_iff.1 e).1
        have e' : pvs'[i]? = some pvs'[i] := List.getElem?_eq_getElem hi
        have := ha.rel i (.p pvs'[i]) v (by rw [List.getElem?_map, e']; rfl) e2
        exact .p (h i _ p e' e _ _ _ this.pOf)
    ma := fun a ha k hk => by obtain ⟨v, _, rfl⟩ := List.mem_map.1 ha; simp only [AV.men] at hk }⟩
end Go.Proofs.YtkaooejeljdbnaaGreat

namespace Go.Proofs.YtkaooejeljdbnaaGreat
open Go
set_option linter.unusedVariables false
set_option linter.unusedSimpArgs false
set_option maxRecDepth 10000
/-- Both rows of nodes are lent. -/
def m15 : Nat → Bool
  | 0 => true
  | 1 => true
  | _ => false
def g15 : GV := ⟨5, 1, 0, fun _ => ((3 : Int) : Rat), fun _ => ((1 : Int) : Rat), fun _ => 0, fun _ => 0⟩
theorem cau15 : CauG g15 5 5 where
  k1 := by decide
  k7 := by decide
  n1 := by decide
  n6 := by decide
  r2 := by decide
  r1 := fun h => by rcases h with h | h <;> cases h
  r0 := fun _ => rfl
  bA := fun i _ => int_bz (by decide) (by decide)
  bB := fun i _ => int_bz (by decide) (by decide)
  bG := fun i _ => bz_zero.mono (by decide)
  bH := fun i _ => bz_zero.mono (by decide)
  ne := fun i j _ _ => by show ((3 : Int) : Rat) ≠ ((1 : Int) : Rat); decide
  bc := by decide
  c4 := by decide
  k5 := rfl
theorem PRle.gen {m : Nat → Bool} {g : GV} {k n r : Int} {a b c d : PV} (hk : k = g.k) (hn : n = g.n) (hr : r = g.r) (ha : PRle a (ratsM (m 0) (lst g.la g.A))) (hb : PRle b (ratsM (m 1) (lst g.lb g.B))) (hc : PRle c (ratsM (m 2) (lst g.lh g.G))) (hd : PRle d (ratsM (m 3) (lst g.lh g.H))) :
    PRle (.agg [.int .i64 k, .int .i64 n, .int .i64 r, a, b, c, d]) (genP m g) := by
  subst hk; subst hn; subst hr
  refine PRle.agg rfl (fun c hc => ?_) fun i c' c e1 e2 => ?_
  · simp only [genC, List.mem_cons, List.not_mem_nil, or_false] at hc
    rcases hc with rfl | rfl | rfl | rfl | rfl | rfl | rfl <;> rfl
  · match i, e1, e2 with
    | 0, e1, e2 => cases e1; cases e2; exact .refl _
    | 1, e1, e2 => cases e1; cases e2; exact .refl _
    | 2, e1, e2 => cases e1; cases e2; exact .refl _
    | 3, e1, e2 => cases e1; cases e2; exact ha
    | 4, e1, e2 => cases e1; cases e2; exact hb
    | 5, e1, e2 => cases e1; cases e2; exact hc
    | 6, e1, e2 => cases e1; cases e2; exact hd
theorem CallG.weak1 {P : Program} {f : FuncId} {p p' : PV} {r : AV} {nb : List Blk} (hc : CallP P f [p] r nb) (h : PRle p' p) : CallP P f [p'] r nb :=
  CallG.weak hc rfl fun i p1 p2 e1 e2 => by
    match i, e1, e2 with
    | 0, e1, e2 => cases e1; cases e2; exact h
theorem half15_ok : CallP Tryz.prog 59 [.int .i64 1, .int .i64 2] (.tup [.p (ratP (1 / 2)), .p (.int .i64 0)]) [] := by
  have h := rof2_ok 1 2 (by omega) (by omega) (by omega)
  have e : mkQ (decide ((1 : Int) < 0) != decide ((2 : Int) < 0)) (1 : Int).natAbs (2 : Int).natAbs = 1 / 2 := by decide +kernel
  rwa [e] at h
theorem known15_ok : CallP Tryz.prog 14 [] (.p (.bool true)) [] := by
  have hd := cdet_ok m15 g15 cau15
  have e : cDet g15.A g15.B g15.n = 1 / 2 := by decide +kernel
  rw [e] at hd
  have hb : Bz (1 / 2 : Rat) 2 := ⟨by decide +kernel, by decide +kernel⟩
  have hs := rsame_ok (1 / 2) (1 / 2) hb hb (by decide)
  rw [decide_eq_true rfl] at hs
  refine callG_of_vc (wr := wr0) Γok mixed Tryz.func14 (by kernel_rfl) rfl (by kernel_rfl) (le_of_ble rfl) (by simp) ?_
  refine SCall.pure (rint_ok 3 (by decide)) ?_
  refine SCall.pure (rint_ok 1 (by decide)) ?_
  refine SView.all rfl <| SView.all rfl <| SCall.pureT (pvs := [.agg [.int .i64 5, .int .i64 1, .int .i64 0, ratsM true (lst 1 g15.A), ratsM true (lst 1 g15.B), znil, znil]]) (CallG.weak1 hd (.gen rfl rfl rfl (.refl _) (.refl _) (.nil _ _) (.nil _ _))) (fun _ => rfl) ?_
  refine SCall.pureT (half15_ok) (fun _ => rfl) ?_
  refine SCmp.yes (rfl) ?_
  refine SCall.pure (hs) ?_
  exact SRet.pure (.p _ (.bool _))
theorem cauG13 (n most : Int) (ns : List Int) (h1 : 1 ≤ most) (h6 : most ≤ 6) : CauG (g13 (mkG 5 (gmN n most) (gmR 5 n) (rowG ns)) ns) 5 13 where
  toWf := wf_g13 (by
    obtain ⟨r1, r2, r0⟩ := gmR_ok (k := 5) n
    have hn := gmN_ok n most h1
    exact wf_mkG (by decide) (by decide) hn.1 (by omega) r1 r2 r0) (.inl rfl)
  k5 := g13_k
end Go.Proofs.YtkaooejeljdbnaaGreat

namespace Go.Proofs.YtkaooejeljdbnaaGreat
open Go
set_option linter.unusedVariables false
set_option linter.unusedSimpArgs false
set_option maxRecDepth 10000
theorem CauG.cauH {g : GV} {b c : Nat} (h : CauG g b c) (ha : Inj g.A g.n) (hb : Inj g.B g.n) : CauH g.n g.A g.B := ⟨ha, hb, fun i k hi hk => h.nab hi hk⟩
theorem cuF_bz {g : GV} {b c : Nat} (h : CauG g b c) {i k : Nat} (hi : i < g.n) (hk : k < g.n) : ∀ m, m ≤ g.n → Bz (cuF g.A g.B i k m) (300 + m * 850) := by
  intro m
  induction m with
  | zero => intro _; simp only [cuF]; exact (bz_one.div (h.dab hk hi)).mono (by omega)
  | succ m ih =>
    intro hm
    have zm := (ih (by omega)).mul ((h.dab hk (show m < g.n by omega)).mul (h.dab (show m < g.n by omega) hi))
    simp only [cuF]
    have z1 := zm.div (h.daa hk (show m < g.n by omega))
    have z2 := z1.div (h.dbb (show m < g.n by omega) hi)
    have z3 := zm.div (h.dbb (show m < g.n by omega) hi)
    split <;> split
    · exact zm.mono (by omega)
    · exact z1.mono (by omega)
    · exact z3.mono (by omega)
    · exact z2.mono (by omega)
theorem undone_ok (g : GV) {b c : Nat} (h : CauG g b c) (ha : Inj g.A g.n) (hb : Inj g.B g.n) (i k : Nat) (hi : i < g.n) (hk : k < g.n) :
    CallP Tryz.prog 69 [.agg (sidesL g.n g.A g.B false false), .int .i64 i, .int .i64 k] (.p (ratP (cuF g.A g.B i k g.n))) [] := by
  have h6 := h.n6
  have H := h.cauH ha hb
  refine callG_of_vc (wr := wr0) Γok mixed Tryz.func69 (by kernel_rfl) rfl (by kernel_rfl) (le_of_ble rfl) (by simp) ?_
  refine SDraw.mkX (by kernel_rfl) ?_
  repeat refine SOp.mk _ _ (And.intro rfl rfl) rfl ?_
  refine SOp.mk _ _ (SCall.pure (cone_ok) (And.intro rfl rfl)) rfl ?_
  repeat refine SOp.mk _ _ (And.intro rfl rfl) rfl ?_
  refine SOp.mk _ _ (SKeys.tab (fun _ _ => rfl) <| SGet.tab hk hi (And.intro rfl rfl)) rfl ?_
  repeat refine SOp.mk _ _ (And.intro rfl rfl) rfl ?_
  refine SOp.mk _ _ (SCall.pure (cover_ok _ _ (H.dx hk hi) bz_one (h.dab hk hi) (by omega)) (And.intro rfl rfl)) rfl ?_
  repeat refine SOp.mk _ _ (And.intro rfl rfl) rfl ?_
  refine SFin.mk (by kernel_rfl) ?_
  refine SLoop.mk (Nat × Rat) (fun (m, q) => ([(1, .p (.int .i64 i)), (2, .p (.int .i64 k)), (3, .bptr 0 0), (6, .bptr 1 0), (7, .bptr 2 0), (18, .p (.int .i64 g.n)), (19, .p (.int .i64 m))], [.box 98 (sidesA g.n g.A g.B false false), .box 33 zratA, .box 33 (bxQ q)]))
    (fun (m, q) => m ≤ g.n ∧ q = cuF g.A g.B i k m) (fun x => g.n - x.1) (0, _) [0, 1, 2] ⟨Nat.zero_le _, rfl⟩ ⟨rfl, by simp, rfl, rfl, rfl, ⟨rfl, rfl, rfl, rfl, rfl, rfl, rfl, trivial⟩, ⟨rfl, rfl, rfl, trivial⟩⟩ ?_
  intro ⟨m, q⟩ ⟨hm, hq⟩
  by_cases hmn : m < g.n
  · refine SCmp.yes (decide_eq_true (by omega)) ?_
    have zq : Bz q (300 + m * 850) := by rw [hq]; exact cuF_bz h hi hk m hm
    have z1 := (h.dab hk hmn).mul (h.dab hmn hi)
    have z2 := zq.mul z1
    refine SDraw.mkX (by kernel_rfl) ?_
    repeat refine SOp.mk _ _ (And.intro rfl rfl) rfl ?_
    refine SOp.mk _ _ (SKeys.tab (fun _ _ => rfl) <| SGet.tab hk hmn (And.intro rfl rfl)) rfl ?_
    repeat refine SOp.mk _ _ (And.intro rfl rfl) rfl ?_
    refine SOp.mk _ _ (SKeys.tab (fun _ _ => rfl) <| SGet.tab hmn hi (And.intro rfl rfl)) rfl ?_
    repeat refine SOp.mk _ _ (And.intro rfl rfl) rfl ?_
    refine SOp.mk _ _ (SCall.pure (ratmul_ok _ _ (h.dab hk hmn).sz (h.dab hmn hi).sz (by omega)) (And.intro rfl rfl)) rfl ?_
    refine SOp.mk _ _ (SCall.pure (ratmul_ok _ _ zq.sz z1.sz (by omega)) (And.intro rfl rfl)) rfl ?_
    repeat refine SOp.mk _ _ (And.intro rfl rfl) rfl ?_
    refine SFin.mk (by kernel_rfl) ?_
    by_cases e2 : m = k
    · refine SCmp.no (neF (by omega)) ?_
      by_cases e1 : m = i
      · refine SCmp.no (neF (by omega)) ?_
        refine SWrap.i64z ((m + 1 : Nat) : Int) (by omega) (by omega) ?_
        exact ⟨(m + 1, _), [0, 1, 2], ⟨hmn, by rw [hq]; simp only [cuF]; rw [if_pos e1, if_pos e2]⟩, by show g.n - (m + 1) < g.n - m; omega, ⟨rfl, by simp, rfl, rfl, rfl, ⟨rfl, rfl, rfl, rfl, rfl, rfl, rfl, trivial⟩, ⟨rfl, rfl, rfl, trivial⟩⟩⟩
      · refine SCmp.yes (neT (by omega)) ?_
        refine SDraw.mkX (by kernel_rfl) ?_
        repeat refine SOp.mk _ _ (And.intro rfl rfl) rfl ?_
        refine SOp.mk _ _ (SKeys.tab (fun _ _ => rfl) <| SGet.tab hmn hi (And.intro rfl rfl)) rfl ?_
        repeat refine SOp.mk _ _ (And.intro rfl rfl) rfl ?_
        refine SOp.mk _ _ (SCall.pure (cover_ok _ _ (H.db hmn hi e1) z2 (h.dbb hmn hi) (by omega)) (And.intro rfl rfl)) rfl ?_
        repeat refine SOp.mk _ _ (And.intro rfl rfl) rfl ?_
        refine SFin.mk (by kernel_rfl) ?_
        refine SWrap.i64z ((m + 1 : Nat) : Int) (by omega) (by omega) ?_
        exact ⟨(m + 1, _), [0, 1, 2], ⟨hmn, by rw [hq]; simp only [cuF]; rw [if_neg e1, if_pos e2]⟩, by show g.n - (m + 1) < g.n - m; omega, ⟨rfl, by simp, rfl, rfl, rfl, ⟨rfl, rfl, rfl, rfl, rfl, rfl, rfl, trivial⟩, ⟨rfl, rfl, rfl, trivial⟩⟩⟩
    · refine SCmp.yes (neT (by omega)) ?_
      refine SDraw.mkX (by kernel_rfl) ?_
      repeat refine SOp.mk _ _ (And.intro rfl rfl) rfl ?_
      refine SOp.mk _ _ (SKeys.tab (fun _ _ => rfl) <| SGet.tab hk hmn (And.intro rfl rfl)) rfl ?_
      repeat refine SOp.mk _ _ (And.intro rfl rfl) rfl ?_
      refine SOp.mk _ _ (SCall.pure (cover_ok _ _ (H.da hk hmn (Ne.symm e2)) z2 (h.daa hk hmn) (by omega)) (And.intro rfl rfl)) rfl ?_
      repeat refine SOp.mk _ _ (And.intro rfl rfl) rfl ?_
      refine SFin.mk (by kernel_rfl) ?_
      by_cases e1 : m = i
      · refine SCmp.no (neF (by omega)) ?_
        refine SWrap.i64z ((m + 1 : Nat) : Int) (by omega) (by omega) ?_
        exact ⟨(m + 1, _), [0, 1, 2], ⟨hmn, by rw [hq]; simp only [cuF]; rw [if_pos e1, if_neg e2]⟩, by show g.n - (m + 1) < g.n - m; omega, ⟨rfl, by simp, rfl, rfl, rfl, ⟨rfl, rfl, rfl, rfl, rfl, rfl, rfl, trivial⟩, ⟨rfl, rfl, rfl, trivial⟩⟩⟩
      · refine SCmp.yes (neT (by omega)) ?_
        have z3 := z2.div (h.daa hk hmn)
        refine SDraw.mkX (by kernel_rfl) ?_
        repeat refine SOp.mk _ _ (And.intro rfl rfl) rfl ?_
        refine SOp.mk _ _ (SKeys.tab (fun _ _ => rfl) <| SGet.tab hmn hi (And.intro rfl rfl)) rfl ?_
        repeat refine SOp.mk _ _ (And.intro rfl rfl) rfl ?_
        refine SOp.mk _ _ (SCall.pure (cover_ok _ _ (H.db hmn hi e1) z3 (h.dbb hmn hi) (by omega)) (And.intro rfl rfl)) rfl ?_
        repeat refine SOp.mk _ _ (And.intro rfl rfl) rfl ?_
        refine SFin.mk (by kernel_rfl) ?_
        refine SWrap.i64z ((m + 1 : Nat) : Int) (by omega) (by omega) ?_
        exact ⟨(m + 1, _), [0, 1, 2], ⟨hmn, by rw [hq]; simp only [cuF]; rw [if_neg e1, if_neg e2]⟩, by show g.n - (m + 1) < g.n - m; omega, ⟨rfl, by simp, rfl, rfl, rfl, ⟨rfl, rfl, rfl, rfl, rfl, rfl, rfl, trivial⟩, ⟨rfl, rfl, rfl, trivial⟩⟩⟩
  · refine SCmp.no (decide_eq_false (by omega)) ?_
    obtain rfl : m = g.n := by omega
    rw [← hq]
    exact SRet.pure (.p _ (pers_rat _ _ _))
/-- What is asked of an answer of so many rows of so many cells, or none. -/
theorem cinvOne_ok (m : Nat → Bool) (g : GV) {b c : Nat} (h : CauG g b c) (ht : ¬ (Inj g.A g.n ∧ Inj g.B g.n)) : CallP Tryz.prog 21 [genP m g] (.tup [.p (.sl false 1 []), .p (.int .i64 9)]) [] := by
  have hb := begun_ok m g h
  refine callG_of_vc (wr := wr0) Γok mixed Tryz.func21 (by kernel_rfl) rfl (by kernel_rfl) (le_of_ble rfl) (by simp) ?_
  by_cases hA : Inj g.A g.n
  · rw [show sidesP g = .agg (sidesL g.n g.A g.B false true) by rw [sidesP, notInj_ff hA, notInj_tt fun hB => ht ⟨hA, hB⟩]] at hb
    refine SCall.pureT (hb) (fun _ => rfl) ?_
    refine SCmp.yes (rfl) ?_
    refine SCond.mk (fun h => by cases h) (fun _ => ?_)
    refine SCond.mk (fun _ => ?_) (fun h => by cases h)
    refine SCmp.yes (rfl) ?_
    exact SRet.pure (.tup rfl fun i c d e1 e2 => by
      match i, e1, e2 with
      | 0, e1, e2 => cases e1; cases e2; exact .emp 1
      | 1, e1, e2 => cases e1; cases e2; exact .p _ (.int _ _))
  · rw [show sidesP g = .agg (sidesL g.n g.A g.B true (notInj g.B g.n)) by rw [sidesP, notInj_tt hA]] at hb
    refine SCall.pureT (hb) (fun _ => rfl) ?_
    refine SCmp.yes (rfl) ?_
    refine SCond.mk (fun _ => ?_) (fun h => by cases h)
    refine SCmp.yes (rfl) ?_
    exact SRet.pure (.tup rfl fun i c d e1 e2 => by
      match i, e1, e2 with
      | 0, e1, e2 => cases e1; cases e2; exact .emp 1
      | 1, e1, e2 => cases e1; cases e2; exact .p _ (.int _ _))
end Go.Proofs.YtkaooejeljdbnaaGreat

namespace Go.Proofs.YtkaooejeljdbnaaGreat
open Go
set_option linter.unusedVariables false
set_option linter.unusedSimpArgs false
set_option maxRecDepth 10000
/-- Rows that are full, one that is being filled, and empty ones. -/
abbrev halr (p c n k q l : Nat) : List AV := fl n fun i => if i < k then .vec (.r p i) 3 0 c else if i = k then .vec (.t q) 3 0 l else .emp
theorem halr_set0 {p c n k q l : Nat} : (half p c n k).set k (.vec (.t q) 3 0 l) = halr p c n k q l := by
  rw [fl_set]
  refine fl_congr fun i _ => ?_
  unfold upd
  by_cases e : i = k
  · rw [if_pos e, if_neg (by omega), if_pos e]
  · rw [if_neg e]
    show (if i < k then AV.vec (.r p i) 3 0 c else .emp) = _
    by_cases e2 : i < k
    · rw [if_pos e2, if_pos e2]
    · rw [if_neg e2, if_neg e2, if_neg e]
theorem halr_set {p c n k q l q' l' : Nat} : (halr p c n k q l).set k (.vec (.t q') 3 0 l') = halr p c n k q' l' := by
  rw [fl_set]
  refine fl_congr fun i _ => ?_
  unfold upd
  by_cases e : i = k
  · rw [if_pos e, if_neg (by omega), if_pos e]
  · rw [if_neg e]
    show (if i < k then AV.vec (.r p i) 3 0 c else if i = k then _ else .emp) = _
    by_cases e2 : i < k
    · rw [if_pos e2, if_pos e2]
    · rw [if_neg e2, if_neg e2, if_neg e, if_neg e]
theorem halr_get {p c n k q l : Nat} (h : k < n) : (halr p c n k q l)[k]? = some (.vec (.t q) 3 0 l) := by
  rw [fl_get h, if_neg (Nat.lt_irrefl k), if_pos rfl]
theorem half_get {p c n k : Nat} (h : k < n) : (half p c n k)[k]? = some .emp := by
  rw [fl_get h, if_neg (Nat.lt_irrefl k)]
theorem half_ren {hs : List Nat} {P : Hp} {p c n k : Nat} (p' : Nat) (hp : hs.getD p 0 = p') (hp' : p' < 1000) : AV.renL (renW hs P) (half p c n k) = half p' c n k := by
  rw [renL_fl]
  refine fl_congr fun i hi => ?_
  have eb : Nat.blt p' 1000 = true := blt_iff.2 hp'
  by_cases e : i < k
  · rw [if_pos e, if_pos e]; simp only [AV.ren, renW, hp, eb, cond_true]
  · rw [if_neg e, if_neg e]; simp only [AV.ren]
theorem halr_ren {hs : List Nat} {P : Hp} {p c n k q l : Nat} (p' q' : Nat) (hp : hs.getD p 0 = p') (hp' : p' < 1000) (hq : hs.getD q 0 = q') (hq' : q' < 1000) : AV.renL (renW hs P) (halr p c n k q l) = halr p' c n k q' l := by
  rw [renL_fl]
  refine fl_congr fun i hi => ?_
  have eb : Nat.blt p' 1000 = true := blt_iff.2 hp'
  have ec : Nat.blt q' 1000 = true := blt_iff.2 hq'
  by_cases e : i < k
  · rw [if_pos e, if_pos e]; simp only [AV.ren, renW, hp, eb, cond_true]
  · rw [if_neg e, if_neg e]
    by_cases e2 : i = k
    · rw [if_pos e2, if_pos e2]; simp only [AV.ren, renW, hq, ec, cond_true]; rw [show ptop q' = q' from Nat.mod_eq_of_lt hq']
    · rw [if_neg e2, if_neg e2]; simp only [AV.ren]
theorem halr_in {P : Hp} {p c n k q l : Nat} (h : ∀ i, i < k → i < plenAt P p) (hq : look P (.t q) ≠ .free) : ∀ x ∈ halr p c n k q l, ∀ h, x.men h → look P h ≠ .free := by
  intro x hx g hg
  obtain ⟨i, hi, rfl⟩ := fl_mem hx
  by_cases e : i < k
  · rw [if_pos e] at hg
    simp only [AV.men] at hg
    subst hg
    exact look_row (h i e)
  · rw [if_neg e] at hg
    by_cases e2 : i = k
    · rw [if_pos e2] at hg
      simp only [AV.men] at hg
      subst hg; exact hq
    · rw [if_neg e2] at hg; exact hg.elim
abbrev cuM (g : GV) : Nat → Nat → Rat := fun i k => cuF g.A g.B i k g.n
theorem cinv_ok (m : Nat → Bool) (g : GV) {b c : Nat} (h : CauG g b c) (ha : Inj g.A g.n) (hb : Inj g.B g.n) : CallP Tryz.prog 21 [genP m g] (.tup [.p (matP false false g.n g.n (cuM g)), .p (.int .i64 0)]) [] := by
  have h6 := h.n6
  have n1 := h.n1
  have hbg := begun_ok m g h
  rw [show sidesP g = .agg (sidesL g.n g.A g.B false false) by rw [sidesP, notInj_ff ha, notInj_ff hb]] at hbg
  refine callG_of_vc (wr := wr0) Γok mixed Tryz.func21 (by kernel_rfl) rfl (by kernel_rfl) (le_of_ble rfl) (by simp) ?_
  refine SCall.pureT (hbg) (fun _ => rfl) ?_
  refine SCmp.yes (rfl) ?_
  refine SCond.mk (fun h => by cases h) (fun _ => ?_)
  refine SCond.mk (fun h => by cases h) (fun _ => ?_)
  refine SCmp.no (rfl) ?_
  refine SZ.mk (g.n : Int) rfl ?_
  refine SLt.mk (by simp) ?_
  refine SMake.mk g.n rfl (by simp; omega) (by omega) ?_
  refine SMk.rows ?_
  refine SZ.mk (g.n : Int) rfl ?_
  refine SLoop.mkT Nat (fun i => ([(4, .bptr 0 0), (6, .vec 1 1 0 g.n), (31, .p (.int .i64 g.n)), (32, .p (.int .i64 i))], [.box 98 (sidesA g.n g.A g.B false false), .rows 24 (half 2 g.n g.n i), .pool 33 3 (plr i g.n (cuM g))]))
    (fun i => i ≤ g.n) (fun i => g.n - i) 0 [1, 2, 3] _ _ (.pool 33 3 (.done _ _)) (Nat.zero_le _) ⟨rfl, by simp, rfl, rfl, rfl, ⟨rfl, rfl, rfl, rfl, trivial⟩, ⟨rfl, congrArg _ half_ren0, rfl, half_in fun i hi => absurd hi (Nat.not_lt_zero _), trivial⟩⟩ ?_
  intro i hi
  have hi : i ≤ g.n := hi
  by_cases hin : i < g.n
  · refine SCmp.yes (decide_eq_true (by omega)) ?_
    refine SLoop.mk Nat (fun k => match k with
      | 0 => ([(4, .bptr 0 0), (6, .vec 1 1 0 g.n), (7, .p (.int .i64 i)), (31, .p (.int .i64 g.n)), (32, .p (.int .i64 i)), (36, .p (.int .i64 g.n)), (37, .p (.int .i64 (0 : Nat)))], [.box 98 (sidesA g.n g.A g.B false false), .rows 24 (half 2 g.n g.n i), .pool 33 3 (plr i g.n (cuM g))])
      | k + 1 => ([(4, .bptr 0 0), (6, .vec 1 1 0 g.n), (7, .p (.int .i64 i)), (31, .p (.int .i64 g.n)), (32, .p (.int .i64 i)), (36, .p (.int .i64 g.n)), (37, .p (.int .i64 ((k + 1 : Nat) : Int)))], [.box 98 (sidesA g.n g.A g.B false false), .rows 24 (halr 2 g.n g.n i 3 (k + 1)), .pool 33 3 (plr i g.n (cuM g)), .vec 33 3 (rats (lst (k + 1) (cuM g i)))]))
      (fun k => k ≤ g.n) (fun k => g.n - k) 0 [0, 1, 2] (Nat.zero_le _) ⟨rfl, by simp, rfl, rfl, rfl, ⟨rfl, rfl, rfl, rfl, rfl, rfl, rfl, trivial⟩, ⟨rfl, congrArg _ (half_ren 2 rfl (by decide)), rfl, half_in fun i hi => by simpa [plenAt] using hi, trivial⟩⟩ ?_
    intro k hk
    have hk : k ≤ g.n := hk
    cases k with
    | zero =>
      have hkn : 0 < g.n := n1
      refine SCmp.yes (decide_eq_true (by omega)) ?_
      refine SDraw.mkX (by kernel_rfl) ?_
      repeat refine SOp.mk _ _ (And.intro rfl rfl) rfl ?_
      refine SOp.mk _ _ (SPos.mk i rfl hin (And.intro rfl rfl)) rfl ?_
      refine SOp.mk _ _ (SIdxA.mk i _ rfl (half_get hin) (And.intro rfl rfl)) rfl ?_
      repeat refine SOp.mk _ _ (And.intro rfl rfl) rfl ?_
      refine SOp.mk _ _ (SCall.pure (undone_ok g h ha hb i 0 hin hkn) (And.intro rfl rfl)) rfl ?_
      repeat refine SOp.mk _ _ (And.intro rfl rfl) rfl ?_
      refine SOp.mk _ _ (SView.all rfl <| SRoom.mk (by simp) (by simp) (And.intro rfl rfl)) rfl ?_
      refine SOp.mk _ _ (SPos.mk i rfl hin (And.intro rfl rfl)) rfl ?_
      refine SOp.mk _ _ (SLt.mk (by simp; omega) <| SAs.mk (halr 2 g.n g.n i 4 1) halr_set0 (And.intro rfl rfl)) rfl ?_
      repeat refine SOp.mk _ _ (And.intro rfl rfl) rfl ?_
      refine SFin.mk (by kernel_rfl) ?_
      refine SWrap.i64z ((0 + 1 : Nat) : Int) (by omega) (by omega) ?_
      exact ⟨0 + 1, [0, 1, 2, 4], hkn, by show g.n - (0 + 1) < g.n - 0; omega, ⟨rfl, by simp, rfl, rfl, rfl, ⟨rfl, rfl, rfl, rfl, rfl, rfl, rfl, trivial⟩, ⟨rfl, congrArg _ (halr_ren 2 4 rfl (by decide) rfl (by decide)), rfl, rfl, halr_in (fun i hi => by simpa [plenAt] using hi) (fun e => by cases e), trivial⟩⟩⟩
    | succ k =>
      by_cases hkn : k + 1 < g.n
      · refine SCmp.yes (decide_eq_true (by omega)) ?_
        refine SDraw.mkX (by kernel_rfl) ?_
        repeat refine SOp.mk _ _ (And.intro rfl rfl) rfl ?_
        refine SOp.mk _ _ (SPos.mk i rfl hin (And.intro rfl rfl)) rfl ?_
        refine SOp.mk _ _ (SIdxA.mk i _ rfl (halr_get hin) (And.intro rfl rfl)) rfl ?_
        repeat refine SOp.mk _ _ (And.intro rfl rfl) rfl ?_
        refine SOp.mk _ _ (SCall.pure (undone_ok g h ha hb i (k + 1) hin hkn) (And.intro rfl rfl)) rfl ?_
        repeat refine SOp.mk _ _ (And.intro rfl rfl) rfl ?_
        refine SOp.mk _ _ (SEqN.mk (by simp [lst]) <| SView.all rfl <| SRoom.mk (by simp [lst]; omega) (by simp [lst]; omega) <| SEs.mk (rats (lst (k + 1 + 1) (cuM g i))) (app_lst _ _ _ (rfl)) <| SZN.mk (k + 1 + 1) (by simp [lst]) (And.intro rfl rfl)) rfl ?_
        refine SOp.mk _ _ (SPos.mk i rfl hin (And.intro rfl rfl)) rfl ?_
        refine SOp.mk _ _ (SLt.mk (by simp; omega) <| SAs.mk (halr 2 g.n g.n i 5 (k + 1 + 1)) halr_set (And.intro rfl rfl)) rfl ?_
        repeat refine SOp.mk _ _ (And.intro rfl rfl) rfl ?_
        refine SFin.mk (by kernel_rfl) ?_
        refine SWrap.i64z ((k + 1 + 1 : Nat) : Int) (by omega) (by omega) ?_
        exact ⟨k + 1 + 1, [0, 1, 2, 5], hkn, by show g.n - (k + 1 + 1) < g.n - (k + 1); omega, ⟨rfl, by simp, rfl, rfl, rfl, ⟨rfl, rfl, rfl, rfl, rfl, rfl, rfl, trivial⟩, ⟨rfl, congrArg _ (halr_ren 2 5 rfl (by decide) rfl (by decide)), rfl, rfl, halr_in (fun i hi => by simpa [plenAt] using hi) (fun e => by cases e), trivial⟩⟩⟩
      · refine SCmp.no (decide_eq_false (by omega)) ?_
        have hkn : k + 1 = g.n := by omega
        have e1 : halr 2 g.n g.n i 3 (k + 1) = halq 2 g.n g.n i 3 := by rw [hkn]
        have e2 : rats (lst (k + 1) (cuM g i)) = rats (lst g.n (cuM g i)) := by rw [hkn]
        refine SWrap.i64z ((i + 1 : Nat) : Int) (by omega) (by omega) ?_
        exact ⟨i + 1, [0, 1, 4002], hin, by show g.n - (i + 1) < g.n - i; omega, ⟨rfl, by simp, rfl, rfl, rfl, ⟨rfl, rfl, rfl, rfl, trivial⟩, ⟨rfl, congrArg _ ((half_absorb rfl (by decide) (by simp [plenAt])).trans e1.symm), ⟨_, _, _, _, rfl, rfl, congrArg _ (plr_snoc.trans (congrArg (fun r => plr i g.n (cuM g) ++ [some r]) e2.symm))⟩, half_in fun i hi => by simpa [plenAt] using hi, trivial⟩⟩⟩
  · refine SCmp.no (decide_eq_false (by omega)) ?_
    obtain rfl : i = g.n := by omega
    exact SRet.pure (.tup rfl fun i c d e1 e2 => by
      match i, e1, e2 with
      | 0, e1, e2 => cases e1; cases e2; exact frzM (H := [_, _, _]) (h := 1) (p := 2) (congrArg (Blk.rows _) half_full) rfl fun i hi => hi
      | 1, e1, e2 => cases e1; cases e2; exact .p _ (.int _ _))
end Go.Proofs.YtkaooejeljdbnaaGreat

namespace Go.Proofs.YtkaooejeljdbnaaGreat
open Go
set_option linter.unusedVariables false
set_option linter.unusedSimpArgs false
set_option maxRecDepth 10000
/-- Numbers that are known, one that grows, and none. -/
abbrev xsF (n : Nat) (F : Nat → Rat) (i : Nat) (s : Rat) : List PV := fl n fun j => if j < i then ratP (F j) else if j = i then ratP s else rat0
theorem xsF_set0 {n i : Nat} {F : Nat → Rat} {s : Rat} : (fl n fun j => if j < i then ratP (F j) else rat0).set (i + 0) (ratP s) = xsF n F i s := by
  rw [fl_set]
  refine fl_congr fun j _ => ?_
  simp only [upd, Nat.add_zero]
  by_cases e : j = i
  · rw [if_pos e, if_neg (by omega), if_pos e]
  · rw [if_neg e]
    by_cases e2 : j < i
    · rw [if_pos e2, if_pos e2]
    · rw [if_neg e2, if_neg e2, if_neg e]
theorem xsF_set {n i : Nat} {F : Nat → Rat} {s s' : Rat} : (xsF n F i s).set (i + 0) (ratP s') = xsF n F i s' := by
  rw [fl_set]
  refine fl_congr fun j _ => ?_
  simp only [upd, Nat.add_zero]
  by_cases e : j = i
  · rw [if_pos e, if_neg (by omega), if_pos e]
  · rw [if_neg e]
    by_cases e2 : j < i
    · rw [if_pos e2, if_pos e2]
    · rw [if_neg e2, if_neg e2, if_neg e, if_neg e]
theorem xsF_next {n i : Nat} {F : Nat → Rat} : xsF n F i (F i) = fl n fun j => if j < i + 1 then ratP (F j) else rat0 := fl_congr fun j _ => by
  by_cases e : j = i
  · rw [if_neg (by omega), if_pos e, if_pos (by omega), e]
  · by_cases e2 : j < i
    · rw [if_pos e2, if_pos (by omega)]
    · rw [if_neg e2, if_neg e, if_neg (by omega)]
theorem xsF_get {n i : Nat} {F : Nat → Rat} {s : Rat} (h : i < n) : (xsF n F i s)[i + 0]? = some (ratP s) := by
  rw [Nat.add_zero, fl_get h, if_neg (Nat.lt_irrefl i), if_pos rfl]
theorem xsF_full {n : Nat} {F : Nat → Rat} : (fl n fun j => if j < n then ratP (F j) else rat0) = rats (lst n F) := by
  rw [rats, lst_fl, fl_map]; exact fl_congr fun j hj => if_pos hj
def cuX (g : GV) (y : Nat → Rat) (i : Nat) : Rat := sm g.n fun k => cuM g i k * y k
theorem csolveLong_ok (m : Nat → Bool) (m' : Bool) (g : GV) {b c : Nat} (h : CauG g b c) (l : List Rat) (hl : l.length ≠ g.n) (hl2 : l.length ≤ 1000) : CallP Tryz.prog 23 [genP m g, ratsM m' l] (.tup [.p (ratsM false []), .p (.int .i64 3)]) [] := by
  have hk := h.k5
  have h6 := h.n6
  refine callG_of_vc (wr := wr0) Γok mixed Tryz.func23 (by kernel_rfl) rfl (by kernel_rfl) (le_of_ble rfl) (by simp) ?_
  refine SCmp.yes (eqT (by omega)) ?_
  refine SZ.mk (l.length : Int) (by simp) ?_
  refine SCmp.yes (neT (by omega)) ?_
  exact SRet.pure (.tup rfl fun i c d e1 e2 => by
    match i, e1, e2 with
    | 0, e1, e2 => cases e1; cases e2; exact .emp 3
    | 1, e1, e2 => cases e1; cases e2; exact .p _ (.int _ _))
theorem csolveOne_ok (m : Nat → Bool) (m' : Bool) (g : GV) {b c : Nat} (h : CauG g b c) (y : Nat → Rat) (ht : ¬ (Inj g.A g.n ∧ Inj g.B g.n)) : CallP Tryz.prog 23 [genP m g, ratsM m' (lst g.n y)] (.tup [.p (ratsM false []), .p (.int .i64 9)]) [] := by
  have hk := h.k5
  have h6 := h.n6
  refine callG_of_vc (wr := wr0) Γok mixed Tryz.func23 (by kernel_rfl) rfl (by kernel_rfl) (le_of_ble rfl) (by simp) ?_
  refine SCmp.yes (eqT (by omega)) ?_
  refine SZ.mk (g.n : Int) (by simp [lst]) ?_
  refine SCmp.no (neF rfl) ?_
  refine SCall.pureT (cinvOne_ok m g h ht) (fun _ => rfl) ?_
  refine SCmp.yes (rfl) ?_
  exact SRet.pure (.tup rfl fun i c d e1 e2 => by
    match i, e1, e2 with
    | 0, e1, e2 => cases e1; cases e2; exact .emp 3
    | 1, e1, e2 => cases e1; cases e2; exact .p _ (.int _ _))
theorem cuM_bz {g : GV} {b c : Nat} (h : CauG g b c) {i k : Nat} (hi : i < g.n) (hk : k < g.n) : Bz (cuM g i k) 5400 := (cuF_bz h hi hk g.n (Nat.le_refl _)).mono (by have := h.n6; omega)
theorem csolve_ok (m : Nat → Bool) (m' : Bool) (g : GV) {b c : Nat} (h : CauG g b c) (ha : Inj g.A g.n) (hb : Inj g.B g.n) (y : Nat → Rat) (hy : ∀ i, i < g.n → Bz (y i) 100) :
    CallP Tryz.prog 23 [genP m g, ratsM m' (lst g.n y)] (.tup [.p (ratsM false (lst g.n (cuX g y))), .p (.int .i64 0)]) [] := by
  have hk := h.k5
  have h6 := h.n6
  have n1 := h.n1
  refine callG_of_vc (wr := wr0) Γok mixed Tryz.func23 (by kernel_rfl) rfl (by kernel_rfl) (le_of_ble rfl) (by simp) ?_
  refine SCmp.yes (eqT (by omega)) ?_
  refine SZ.mk (g.n : Int) (by simp [lst]) ?_
  refine SCmp.no (neF rfl) ?_
  refine SCall.pureT (cinv_ok m g h ha hb) (fun _ => rfl) ?_
  refine SCmp.no (rfl) ?_
  refine SZ.mk (g.n : Int) (by simp) ?_
  refine SZ.mk (g.n : Int) rfl ?_
  refine SLt.mk (by simp) ?_
  refine SMake.rat g.n rfl (by omega) ?_
  refine SZ.mk (g.n : Int) (by simp) ?_
  refine SLoop.mk Nat (fun i => ([(1, .p (ratsM m' (lst g.n y))), (6, .p (matP false false g.n g.n (cuM g))), (8, .vec 0 3 0 g.n), (34, .p (.int .i64 g.n)), (35, .p (.int .i64 i))], [.vec 33 3 (fl g.n fun j => if j < i then ratP (cuX g y j) else rat0)]))
    (fun i => i ≤ g.n) (fun i => g.n - i) 0 [1] (Nat.zero_le _) ⟨rfl, by simp, rfl, rfl, rfl, ⟨rfl, rfl, rfl, rfl, rfl, trivial⟩, ⟨congrArg _ ((fl_congr fun k hk => if_neg (by omega)).trans (replicate_fl g.n rat0).symm), trivial⟩⟩ ?_
  intro i hi
  have hi : i ≤ g.n := hi
  by_cases hin : i < g.n
  · refine SCmp.yes (decide_eq_true (by omega)) ?_
    refine SCall.pure (czero_ok) ?_
    refine SPos.mk i rfl hin ?_
    refine SLt.mk (by simp; omega) <| SEs.mk _ xsF_set0 ?_
    refine SIdx.mf i rfl hin ?_
    refine SZ.mk (g.n : Int) (by simp [lst]) ?_
    refine SLoop.mk (Nat × Rat) (fun (k, s) => ([(1, .p (ratsM m' (lst g.n y))), (6, .p (matP false false g.n g.n (cuM g))), (8, .vec 0 3 0 g.n), (9, .p (.int .i64 i)), (34, .p (.int .i64 g.n)), (35, .p (.int .i64 i)), (45, .p (ratsM false (lst g.n (cuM g i)))), (46, .p (.int .i64 g.n)), (47, .p (.int .i64 k))], [.vec 33 3 (xsF g.n (cuX g y) i s)]))
      (fun (k, s) => k ≤ g.n ∧ s = sm k (fun k => cuM g i k * y k) ∧ Bz s (1 + k * 5600)) (fun x => g.n - x.1) (0, 0) [0] ⟨Nat.zero_le _, rfl, bz_zero⟩ ⟨rfl, by simp, rfl, rfl, rfl, ⟨rfl, rfl, rfl, rfl, rfl, rfl, rfl, rfl, rfl, trivial⟩, ⟨rfl, trivial⟩⟩ ?_
    intro ⟨k, s⟩ ⟨hk, hs, zs⟩
    by_cases hkn : k < g.n
    · refine SCmp.yes (decide_eq_true (by omega)) ?_
      refine SIdx.rf k rfl hkn ?_
      have z1 := (cuM_bz h hin hkn).mul (hy k hkn)
      refine SDraw.mkX (by kernel_rfl) ?_
      repeat refine SOp.mk _ _ (And.intro rfl rfl) rfl ?_
      refine SOp.mk _ _ (SPos.mk i rfl hin (And.intro rfl rfl)) rfl ?_
      refine SOp.mk _ _ (SIdx.mk (i + 0) _ rfl (xsF_get hin) (And.intro rfl rfl)) rfl ?_
      repeat refine SOp.mk _ _ (And.intro rfl rfl) rfl ?_
      refine SOp.mk _ _ (SIdx.rf k rfl hkn (And.intro rfl rfl)) rfl ?_
      repeat refine SOp.mk _ _ (And.intro rfl rfl) rfl ?_
      refine SOp.mk _ _ (SCall.pure (ratmul_ok _ _ (cuM_bz h hin hkn).sz (hy k hkn).sz (by omega)) (And.intro rfl rfl)) rfl ?_
      refine SOp.mk _ _ (SCall.pure (ratadd_ok _ _ zs.sz z1.sz (by omega)) (And.intro rfl rfl)) rfl ?_
      refine SOp.mk _ _ (SPos.mk i rfl hin (And.intro rfl rfl)) rfl ?_
      refine SOp.mk _ _ (SLt.mk (by simp; omega) <| SEs.mk _ xsF_set (And.intro rfl rfl)) rfl ?_
      repeat refine SOp.mk _ _ (And.intro rfl rfl) rfl ?_
      refine SFin.mk (by kernel_rfl) ?_
      refine SWrap.i64z ((k + 1 : Nat) : Int) (by omega) (by omega) ?_
      exact ⟨(k + 1, _), [0], ⟨hkn, by rw [hs]; rfl, (zs.add z1).mono (by omega)⟩, by show g.n - (k + 1) < g.n - k; omega, ⟨rfl, by simp, rfl, rfl, rfl, ⟨rfl, rfl, rfl, rfl, rfl, rfl, rfl, rfl, rfl, trivial⟩, ⟨rfl, trivial⟩⟩⟩
    · refine SCmp.no (decide_eq_false (by omega)) ?_
      obtain rfl : k = g.n := by omega
      have hs : s = cuX g y i := hs
      subst hs
      refine SWrap.i64z ((i + 1 : Nat) : Int) (by omega) (by omega) ?_
      exact ⟨i + 1, [0], hin, by show g.n - (i + 1) < g.n - i; omega, ⟨rfl, by simp, rfl, rfl, rfl, ⟨rfl, rfl, rfl, rfl, rfl, trivial⟩, ⟨congrArg _ xsF_next.symm, trivial⟩⟩⟩
  · refine SCmp.no (decide_eq_false (by omega)) ?_
    obtain rfl : i = g.n := by omega
    exact SRet.pure (.tup rfl fun i c d e1 e2 => by
      match i, e1, e2 with
      | 0, e1, e2 => cases e1; cases e2; exact frzR (h := 0) (l := lst g.n (cuX g y)) (congrArg (Blk.vec 33 3) xsF_full) (by simp [lst])
      | 1, e1, e2 => cases e1; cases e2; exact .p _ (.int _ _))
end Go.Proofs.YtkaooejeljdbnaaGreat

namespace Go.Proofs.YtkaooejeljdbnaaGreat
open Go
set_option linter.unusedVariables false
set_option linter.unusedSimpArgs false
set_option maxRecDepth 10000
theorem apl_bz {w : Nat} {A : Nat → Nat → Rat} {y : Nat → Rat} {a b i : Nat} (hA : ∀ k, k < w → Bz (A i k) a) (hy : ∀ k, k < w → Bz (y k) b) : ∀ k, k ≤ w → Bz (sm k fun k => A i k * y k) (k * (a + b + 1) + 1) := by
  intro k
  induction k with
  | zero => exact fun _ => bz_zero.mono (by omega)
  | succ k ih =>
    intro hk
    exact ((ih (by omega)).add ((hA k (by omega)).mul (hy k (by omega)))).mono (by rw [Nat.succ_mul]; omega)
theorem sm_comm {F : Nat → Nat → Rat} {m : Nat} : ∀ n, sm n (fun i => sm m fun j => F i j) = sm m fun j => sm n fun i => F i j := by
  intro n
  induction n with
  | zero => show (0 : Rat) = sm m fun _ => 0; exact (sm_zero fun _ _ => rfl).symm
  | succ n ih =>
    show sm n _ + sm m _ = sm m fun j => sm n (fun i => F i j) + F n j
    rw [ih, sm_add (fun j => sm n fun i => F i j) (fun j => F n j)]
end Go.Proofs.YtkaooejeljdbnaaGreat

namespace Go.Proofs.YtkaooejeljdbnaaGreat
open Go
set_option linter.unusedVariables false
set_option linter.unusedSimpArgs false
set_option maxRecDepth 10000
theorem rdet_ok (m m' : Bool) (n : Nat) (A : Nat → Nat → Rat) {R : Nat → Nat} (hRB : RB R n n A) (hn : n ≤ 900) :
    CallP Tryz.prog 46 [matP m m' n n A] (.p (ratP (elim n A n).det)) [] := by
  refine callG_of_vc (wr := wr0) Γok mixed Tryz.func46 (by kernel_rfl) rfl (by kernel_rfl) (le_of_ble rfl) (by simp) ?_
  refine SZ.mk (n : Int) (by simp) ?_
  refine SCall.pureT (rtriangle_ok m m' n n A hRB (Nat.le_refl n) (by omega)) (fun _ => rfl) ?_
  exact SRet.pure (.p _ (pers_rat _ _ _))
end Go.Proofs.YtkaooejeljdbnaaGreat

namespace Go.Proofs.YtkaooejeljdbnaaGreat
open Go
set_option linter.unusedVariables false
set_option linter.unusedSimpArgs false
set_option maxRecDepth 10000
theorem rexpand5_ok (m : Nat → Bool) (g : GV) {b c : Nat} (h : Wf g b c) : CallP Tryz.prog 33 [genP m g] (.p (matP false false g.n g.n (ent g))) [] := by
  have h8 := h.n6
  refine callG_of_vc (wr := wr0) Γok mixed Tryz.func33 (by kernel_rfl) rfl (by kernel_rfl) (le_of_ble rfl) (by simp) ?_
  refine SLoop.mkT Nat (fun i => ([(1, .bptr 0 0), (3, .vec 1 1 0 i), (4, .p (.int .i64 i))], [.box 26 (genA m g), .rows 24 (plc 2 g.n i id), .pool 33 3 (plr i g.n (ent g))]))
    (fun i => i ≤ g.n) (fun i => g.n - i) 0 [0, 1, 2] _ _ (.rows 3 24 rfl (.pool 33 3 (.done _ _))) (Nat.zero_le _) ⟨rfl, by simp, rfl, rfl, rfl, ⟨rfl, rfl, rfl, trivial⟩, ⟨rfl, rfl, rfl, rows_in fun i hi => absurd hi (Nat.not_lt_zero _), trivial⟩⟩ ?_
  intro i hi
  have hi : i ≤ g.n := hi
  by_cases hin : i < g.n
  · refine SCmp.yes (decide_eq_true (by omega)) ?_
    refine SLoop.mkT Nat (fun j => ([(1, .bptr 0 0), (3, .vec 1 1 0 i), (4, .p (.int .i64 i)), (5, .vec 3 3 0 j), (6, .p (.int .i64 j))], [.box 26 (genA m g), .rows 24 (plc 2 g.n i id), .pool 33 3 (plr i g.n (ent g)), .vec 33 3 (rats (lst j (ent g i)))]))
      (fun j => j ≤ g.n) (fun j => g.n - j) 0 [0, 1, 2, 3] _ _ (.step 5 33 3 rfl (.done _ _)) (Nat.zero_le _) ⟨rfl, by simp, rfl, rfl, rfl, ⟨rfl, rfl, rfl, rfl, rfl, trivial⟩, ⟨rfl, congrArg _ (plc_ren 2 rfl (by decide)), rfl, rfl, rows_in fun i hi => by simpa [plenAt] using hi, trivial⟩⟩ ?_
    intro j hj
    have hj : j ≤ g.n := hj
    by_cases hjn : j < g.n
    · refine SCmp.yes (decide_eq_true (by omega)) ?_
      refine SCall.pure (rentry5_ok m g h i j hin hjn) ?_
      refine SEqN.mk (by simp [lst]) <| SView.all rfl <| SRoom.mk (by simp [lst]; omega) (by simp [lst]; omega) <| SEs.mk (rats (lst (j + 1) (ent g i))) (app_lst _ _ _ (rfl)) <| SZN.mk (j + 1) (by simp [lst]) ?_
      refine SWrap.i64z ((j + 1 : Nat) : Int) (by omega) (by omega) ?_
      exact ⟨j + 1, [0, 1, 2, 5], hjn, by show g.n - (j + 1) < g.n - j; omega, ⟨rfl, by simp, rfl, rfl, rfl, ⟨rfl, rfl, rfl, rfl, rfl, trivial⟩, ⟨rfl, congrArg _ (plc_ren 2 rfl (by decide)), rfl, rfl, rows_in fun i hi => by simpa [plenAt] using hi, trivial⟩⟩⟩
    · refine SCmp.no (decide_eq_false (by omega)) ?_
      obtain rfl : j = g.n := by omega
      refine SEqN.mk (by simp) ?_
      refine SRoom.mk (by simp; omega) (by simp; omega) ?_
      refine SAs.mk _ rfl ?_
      refine SZN.mk (i + 1) (by simp) ?_
      refine SWrap.i64z ((i + 1 : Nat) : Int) (by omega) (by omega) ?_
      exact ⟨i + 1, [0, 5, 4002], hin, by show g.n - (i + 1) < g.n - i; omega, ⟨rfl, by simp, rfl, rfl, rfl, ⟨rfl, rfl, rfl, trivial⟩, ⟨rfl, congrArg _ (plc_absorb rfl (by decide) (by simp [plenAt])), ⟨_, _, _, _, rfl, rfl, congrArg _ plr_snoc⟩, rows_in fun i hi => by simpa [plenAt] using hi, trivial⟩⟩⟩
  · refine SCmp.no (decide_eq_false (by omega)) ?_
    obtain rfl : i = g.n := by omega
    exact SRet.pure (frzM (H := [_, _, _]) (h := 1) (p := 2) rfl rfl fun i hi => hi)
end Go.Proofs.YtkaooejeljdbnaaGreat

namespace Go.Proofs.YtkaooejeljdbnaaGreat
open Go
set_option linter.unusedVariables false
set_option linter.unusedSimpArgs false
set_option maxRecDepth 10000
theorem ent5 {g : GV} (h : g.k = 5) (i k : Nat) : ent g i k = cauM g.A g.B i k := by
  unfold ent; rw [if_neg (by omega), if_neg (by omega), if_neg (by omega), if_neg (by omega), if_pos h]
theorem CauG.bEnt5 {g : GV} {b c : Nat} (h : CauG g b c) {i k : Nat} (hi : i < g.n) (hk : k < g.n) : Bz (ent g i k) 203 := by
  rw [ent5 h.k5]; exact (bz_one.div (h.dab hi hk)).mono (by omega)
theorem rb203 {g : GV} {b c : Nat} (h : CauG g b c) : RB (bb 203) g.n g.n (ent g) :=
  RB.std (fun i k hi hk => h.bEnt5 hi hk) (Nat.le_refl _) (by
    have := h.n6
    exact Nat.le_trans (dR_mono (j := 6) this) (by decide))
theorem CauG.det {g : GV} {b c : Nat} (h : CauG g b c) : (elim g.n (ent g) g.n).det = cDet g.A g.B g.n := by
  rw [(elim_congr (fun i k _ _ => ent5 h.k5 i k) g.n (Nat.le_refl _)).1, cau_det fun i k hi hk => h.nab hi hk]
end Go.Proofs.YtkaooejeljdbnaaGreat

namespace Go.Proofs.YtkaooejeljdbnaaGreat
set_option linter.unusedVariables false
theorem pev_sm : ∀ (n : Nat) (c : Nat → Rat) (X : Rat), sm (n + 1) (fun k => X ^ k * c k) = pev n c X := by
  intro n
  induction n with
  | zero => intro c X; show (0 : Rat) + X ^ 0 * c 0 = c 0; rw [Rat.pow_zero]; grind
  | succ n ih =>
    intro c X
    rw [sm_first, pev, ← ih, ← sm_smul, Rat.pow_zero, Rat.one_mul]
    congr 1
    exact sm_congr fun k _ => by rw [Rat.pow_succ]; grind
theorem pw_eq (X : Rat) : ∀ j, pw X j = X ^ j
  | 0 => (Rat.pow_zero ..).symm
  | j + 1 => by rw [pw, pw_eq X j, Rat.pow_succ]; grind
theorem mom_ker {n : Nat} {x w : Nat → Rat} (h : Inj x (n + 1)) (hK : ∀ j, j < n + 1 → sm (n + 1) (fun i => x i ^ j * w i) = 0) : ∀ i, i < n + 1 → w i = 0 := by
  intro l hl
  -- every polynomial's values, weighed, come to nought
  have h2 : ∀ c : Nat → Rat, sm (n + 1) (fun i => w i * pev n c (x i)) = 0 := by
    intro c
    have : ∀ m, m ≤ n + 1 → sm (n + 1) (fun i => w i * sm m (fun k => x i ^ k * c k)) = 0 := by
      intro m
      induction m with
      | zero => intro _; exact sm_zero fun i _ => Rat.mul_zero _
      | succ m ih =>
        intro hm
        have e : (fun i => w i * sm (m + 1) (fun k => x i ^ k * c k)) = fun i => w i * sm m (fun k => x i ^ k * c k) + c m * (x i ^ m * w i) := by
          funext i; show w i * (sm m _ + x i ^ m * c m) = _; grind
        rw [e, sm_add, ih (by omega), sm_smul, hK m (by omega)]; grind
    rw [← this (n + 1) (Nat.le_refl _)]
    exact sm_congr fun i _ => by rw [pev_sm]
  have h3 := h2 (thrC x n fun i => if i = l then 1 else 0)
  rw [sm_congr (g := fun i => w i * (if i = l then 1 else 0)) fun i hi => by rw [thr_interp x _ h (by omega)], sm_one hl] at h3
  exact h3
theorem mom_det {n : Nat} {x : Nat → Rat} : (elim (n + 1) (fun i k => x k ^ i) (n + 1)).det ≠ 0 ↔ Inj x (n + 1) := by
  constructor
  · intro h i j hi hj e
    by_cases e2 : i = j
    · exact e2
    · have := ker1 (v := fun k => if k = i then 1 else if k = j then -1 else 0) h (fun q hq => by
        have e3 : (fun k => x k ^ q * (if k = i then (1 : Rat) else if k = j then -1 else 0)) = fun k => x k ^ q * (if k = i then 1 else 0) - x k ^ q * (if k = j then 1 else 0) := by
          funext k
          by_cases c : k = i
          · rw [if_pos c, if_pos c, if_neg (by omega)]; grind
          · rw [if_neg c, if_neg c]
            split <;> grind
        show sm (n + 1) (fun k => x k ^ q * (if k = i then (1 : Rat) else if k = j then -1 else 0)) = 0
        rw [e3, sm_sub, sm_one hi (fun k => x k ^ q), sm_one hj (fun k => x k ^ q), e]; grind) i hi
      rw [if_pos rfl] at this
      exact absurd this (by decide)
  · intro h e
    obtain ⟨v, ⟨k, hk, hv⟩, hK⟩ := ker0 e
    exact hv (mom_ker h hK k hk)
theorem both {n : Nat} {x f b c w : Nat → Rat} (h : Inj x (n + 1)) (hc : ∀ l, l ≤ n → pev n c (x l) = f l) (hw : ∀ j, j < n + 1 → sm (n + 1) (fun i => x i ^ j * w i) = b j) :
    sm (n + 1) (fun i => w i * f i) = sm (n + 1) (fun i => b i * c i) := by
  have h1 : ∀ i, i < n + 1 → thrC x n f i = c i := fun i hi => thr_unique h hc i (by omega)
  have h2 : ∀ i, i < n + 1 → momC x n b i = w i := fun i hi => slv_one (A := fun i k => x k ^ i) (mom_det.2 h) (fun j hj => by
    rw [hw j hj, ← mom_ok b h (show j ≤ n by omega)]
    exact sm_congr fun i hi => by rw [pw_eq]; grind) i hi
  have := dual x n b f
  rw [sm_congr (g := fun i => b i * c i) fun i hi => by rw [h1 i hi], sm_congr (f := fun i => momC x n b i * f i) (g := fun i => w i * f i) fun i hi => by rw [h2 i hi]] at this
  exact this.symm
/-- What stands on the diagonal. -/
theorem slv_diag {n : Nat} {A : Nat → Nat → Rat} (h : (elim n A n).det ≠ 0) : ∀ i, i < n → (elim n A n).A i i ≠ 0 :=
  elim_diag n ((elim_det n (Nat.le_refl _)).1 h)
end Go.Proofs.YtkaooejeljdbnaaGreat

namespace Go.Proofs.YtkaooejeljdbnaaGreat
open Go
set_option linter.unusedVariables false
set_option linter.unusedSimpArgs false
set_option maxRecDepth 10000
theorem slv_val {n : Nat} {A : Nat → Nat → Rat} {y x : Nat → Rat} (hd : (elim n A n).det ≠ 0) (hx : ∀ i, i < n → sm n (fun k => A i k * x k) = y i) : slvP n A y = ratsM false (lst n x) ∧ slvE n A y = 0 := by
  unfold slvP slvE
  rw [if_neg (by rw [aug_det]; exact hd), if_neg (by rw [aug_det]; exact hd)]
  refine ⟨?_, rfl⟩
  rw [lst_congr (slv_one hd fun i hi => (slv_ok hd i hi).trans (hx i hi).symm)]
theorem slv_none {n : Nat} {A : Nat → Nat → Rat} {y : Nat → Rat} (hd : (elim n A n).det = 0) : slvP n A y = ratsM false [] ∧ slvE n A y = 9 := by
  unfold slvP slvE
  rw [if_pos (by rw [aug_det]; exact hd), if_pos (by rw [aug_det]; exact hd)]
  exact ⟨rfl, rfl⟩
theorem xs203 {n : Nat} (hn : n ≤ 5) : ∀ t, t < n → 2 * bb 203 (n - 1 - t) + t * (bb 203 (n - 1 - t) + 1) + xs (bb 203) n t ≤ 1048576 := by
  have : ∀ n, n < 6 → ∀ t, t < n → 2 * bb 203 (n - 1 - t) + t * (bb 203 (n - 1 - t) + 1) + xs (bb 203) n t ≤ 1048576 := by decide +kernel
  exact this n (by omega)
theorem rb203a {n : Nat} {A : Nat → Nat → Rat} {y : Nat → Rat} (hn : n ≤ 5) (hA : ∀ i k, i < n → k < n → Bz (A i k) 203) (hy : ∀ i, i < n → Bz (y i) 203) : RB (bb 203) n (n + 1) (augM n A y) :=
  RB.std (fun i k hi hk => by
    unfold augM
    split
    · rename_i h; exact hA i k hi h
    · exact hy i hi) (by omega) (Nat.le_trans (dR_mono (j := 6) (by omega)) (by decide +kernel))
/-- A system, solved by the document's way. -/
theorem rsolve203 (m m' m'' : Bool) {n : Nat} {A : Nat → Nat → Rat} {y : Nat → Rat} (hn : n ≤ 5) (hA : ∀ i k, i < n → k < n → Bz (A i k) 203) (hy : ∀ i, i < n → Bz (y i) 203) :
    CallP Tryz.prog 57 [matP m m' n n A, ratsM m'' (lst n y)] (.tup [.p (slvP n A y), .p (.int .i64 (slvE n A y))]) [] :=
  rsolve_ok m m' m'' n A y (rb203a hn hA hy) (by omega) slv_diag (xs203 hn)
theorem CauG.undo {g : GV} {b c : Nat} (H : CauG g b c) (ha : Inj g.A g.n) (hb : Inj g.B g.n) (y : Nat → Rat) : ∀ i, i < g.n → sm g.n (fun k => ent g i k * cuX g y k) = y i := by
  intro i hi
  show sm g.n (fun k => ent g i k * sm g.n fun j => cuM g k j * y j) = y i
  have : (fun k => ent g i k * sm g.n fun j => cuM g k j * y j) = fun k => sm g.n fun j => ent g i k * (cuM g k j * y j) := by
    funext k; exact (sm_smul _ _ _).symm
  rw [this, sm_comm]
  have : sm g.n (fun j => sm g.n fun k => ent g i k * (cuM g k j * y j)) = sm g.n fun j => y j * (if j = i then 1 else 0) := sm_congr fun j hj => by
    have e : (fun k => ent g i k * (cuM g k j * y j)) = fun k => y j * (1 / (g.A i - g.B k) * cuF g.A g.B k j g.n) := by
      funext k; rw [ent5 H.k5]; show cauM g.A g.B i k * (cuF g.A g.B k j g.n * y j) = _
      generalize cuF g.A g.B k j g.n = u
      show 1 / (g.A i - g.B k) * _ = _
      generalize 1 / (g.A i - g.B k) = v
      grind
    rw [e, sm_smul, cau_undo (H.cauH ha hb) hi hj]
    by_cases c : i = j
    · rw [if_pos c, if_pos c.symm]
    · rw [if_neg c, if_neg (Ne.symm c)]
  rw [this, sm_one hi]
theorem CauG.det0 {g : GV} {b c : Nat} (H : CauG g b c) : (elim g.n (ent g) g.n).det = 0 ↔ ¬ (Inj g.A g.n ∧ Inj g.B g.n) := by
  rw [H.det]; exact cDet_zero fun i k hi hk => H.nab hi hk
theorem r15det_ok (m : Nat → Bool) (g : GV) {b c : Nat} (h : CauG g b c) : CallP Tryz.prog 20 [genP m g] (.tup [.p (ratP (cDet g.A g.B g.n)), .p (.int .i64 0)]) [] := by
  have h6 := h.n6
  have hk := h.k5
  have hD := rdet_ok false false g.n (ent g) (rb203 h) (by omega)
  rw [h.det] at hD
  refine callG_of_vc (wr := wr0) Γok mixed Tryz.func20 (by kernel_rfl) rfl (by kernel_rfl) (le_of_ble rfl) (by simp) ?_
  refine SCmp.no (neF (by omega)) ?_
  refine SCall.pure (rexpand5_ok m g h.toWf) ?_
  refine SCall.pure (hD) ?_
  exact SRet.pure (.tup rfl fun i c d e1 e2 => by
    match i, e1, e2 with
    | 0, e1, e2 => cases e1; cases e2; exact .p _ (pers_rat _ _ _)
    | 1, e1, e2 => cases e1; cases e2; exact .p _ (.int _ _))
theorem r15solve_ok (m : Nat → Bool) (m' : Bool) (g : GV) {b c : Nat} (h : CauG g b c) (h5 : g.n ≤ 5) (y : Nat → Rat) (hy : ∀ i, i < g.n → Bz (y i) 203) :
    CallP Tryz.prog 24 [genP m g, ratsM m' (lst g.n y)] (.tup [.p (slvP g.n (ent g) y), .p (.int .i64 (slvE g.n (ent g) y))]) [] := by
  have hk := h.k5
  have hS := rsolve203 false false m' h5 (fun i k hi hk => h.bEnt5 hi hk) hy
  refine callG_of_vc (wr := wr0) Γok mixed Tryz.func24 (by kernel_rfl) rfl (by kernel_rfl) (le_of_ble rfl) (by simp) ?_
  refine SCmp.no (neF (by omega)) ?_
  refine SZ.mk (g.n : Int) (by simp [lst]) ?_
  refine SCmp.no (neF rfl) ?_
  refine SCall.pure (rexpand5_ok m g h.toWf) ?_
  refine SCall.pureT (hS) (fun _ => rfl) ?_
  exact SRet.pure (.tup rfl fun i c d e1 e2 => by
    match i, e1, e2 with
    | 0, e1, e2 => cases e1; cases e2; exact .p _ (show Pers (slvP _ _ _) from .sl _ _ (pers_rats _))
    | 1, e1, e2 => cases e1; cases e2; exact .p _ (.int _ _))
theorem r15solveLong_ok (m : Nat → Bool) (m' : Bool) (g : GV) {b c : Nat} (h : CauG g b c) (l : List Rat) (hl : l.length ≠ g.n) (hl2 : l.length ≤ 1000) : CallP Tryz.prog 24 [genP m g, ratsM m' l] (.tup [.p (ratsM false []), .p (.int .i64 3)]) [] := by
  have hk := h.k5
  have h6 := h.n6
  refine callG_of_vc (wr := wr0) Γok mixed Tryz.func24 (by kernel_rfl) rfl (by kernel_rfl) (le_of_ble rfl) (by simp) ?_
  refine SCmp.no (neF (by omega)) ?_
  refine SZ.mk (l.length : Int) (by simp) ?_
  refine SCmp.yes (neT (by omega)) ?_
  exact SRet.pure (.tup rfl fun i c d e1 e2 => by
    match i, e1, e2 with
    | 0, e1, e2 => cases e1; cases e2; exact .emp 3
    | 1, e1, e2 => cases e1; cases e2; exact .p _ (.int _ _))
theorem unit_set {n k : Nat} : (fl n fun j => if j < n then ratP 0 else rat0).set (k + 0) (ratP ((1 : Int) : Rat)) = rats (lst n fun i => if i = k then 1 else 0) := by
  rw [rats, lst_fl, fl_map, fl_set]
  refine fl_congr fun i hi => ?_
  unfold upd
  by_cases e : i = k
  · rw [if_pos e, if_pos (by omega)]; rfl
  · rw [if_neg (by omega), if_neg e]; exact if_pos hi
theorem zero_step {n j : Nat} (h : j < n) : (fl n fun k => if k < j then ratP 0 else rat0).set (j + 0) (ratP 0) = fl n fun k => if k < j + 1 then ratP 0 else rat0 := row_step (f := fun _ => 0) h
theorem r15invOne_ok (m : Nat → Bool) (g : GV) {b c : Nat} (h : CauG g b c) (h5 : g.n ≤ 5) (ht : ¬ (Inj g.A g.n ∧ Inj g.B g.n)) : CallP Tryz.prog 22 [genP m g] (.tup [.p (.sl false 1 []), .p (.int .i64 9)]) [] := by
  have hk := h.k5
  have n1 := h.n1
  have hd := h.det0.2 ht
  refine callG_of_vc (wr := wr0) Γok mixed Tryz.func22 (by kernel_rfl) rfl (by kernel_rfl) (le_of_ble rfl) (by simp) ?_
  refine SCmp.no (neF (by omega)) ?_
  refine SCall.pure (rexpand5_ok m g h.toWf) ?_
  refine SLoop.mkT Nat (fun k => ([(1, .bptr 0 0), (4, .p (matP false false g.n g.n (ent g))), (5, .vec 1 1 0 k), (6, .p (.int .i64 k))], [.box 26 (genA m g), .vec 24 1 (fl k fun k => ratsM false (lst g.n fun i => cuM g i k))]))
    (fun k => k = 0) (fun k => g.n - k) 0 [0, 1] _ _ (.step 5 24 1 rfl (.done _ _)) rfl ⟨rfl, by simp, rfl, rfl, rfl, ⟨rfl, rfl, rfl, rfl, trivial⟩, ⟨rfl, rfl, trivial⟩⟩ ?_
  intro k hk'
  have hk' : k = 0 := hk'
  by_cases hkn : k < g.n
  · refine SCmp.yes (decide_eq_true (by omega)) ?_
    refine SZ.mk (g.n : Int) rfl ?_
    refine SLt.mk (by simp) ?_
    refine SMake.rat g.n rfl (by omega) ?_
    refine SLoop.mk Nat (fun i => ([(1, .bptr 0 0), (4, .p (matP false false g.n g.n (ent g))), (5, .vec 1 1 0 k), (6, .p (.int .i64 k)), (7, .vec 2 3 0 g.n), (8, .p (.int .i64 i))], [.box 26 (genA m g), .vec 24 1 (fl k fun k => ratsM false (lst g.n fun i => cuM g i k)), .vec 33 3 (fl g.n fun j => if j < i then ratP 0 else rat0)]))
      (fun i => i ≤ g.n) (fun i => g.n - i) 0 [0, 1, 2] (Nat.zero_le _) ⟨rfl, by simp, rfl, rfl, rfl, ⟨rfl, rfl, rfl, rfl, rfl, rfl, trivial⟩, ⟨rfl, rfl, congrArg _ ((fl_congr fun k hk => if_neg (by omega)).trans (replicate_fl g.n rat0).symm), trivial⟩⟩ ?_
    intro i hi
    have hi : i ≤ g.n := hi
    by_cases hin : i < g.n
    · refine SCmp.yes (decide_eq_true (by omega)) ?_
      refine SCall.pure (rzero_ok) ?_
      refine SPos.mk i rfl hin ?_
      refine SLt.mk (by simp; omega) <| SEs.mk _ (zero_step hin) ?_
      refine SWrap.i64z ((i + 1 : Nat) : Int) (by omega) (by omega) ?_
      exact ⟨i + 1, [0, 1, 2], hin, by show g.n - (i + 1) < g.n - i; omega, ⟨rfl, by simp, rfl, rfl, rfl, ⟨rfl, rfl, rfl, rfl, rfl, rfl, trivial⟩, ⟨rfl, rfl, rfl, trivial⟩⟩⟩
    · refine SCmp.no (decide_eq_false (by omega)) ?_
      obtain rfl : i = g.n := by omega
      have hy : ∀ i, i < g.n → Bz ((fun i => if i = k then (1 : Rat) else 0) i) 203 := fun i _ => by
        show Bz (if i = k then 1 else 0) 203
        split
        · exact bz_one.mono (by omega)
        · exact bz_zero.mono (by omega)
      have hS := rsolve203 false false true h5 (fun i k hi hk => h.bEnt5 hi hk) hy
      rw [(slv_none (y := fun i => if i = k then (1 : Rat) else 0) hd).1, (slv_none (y := fun i => if i = k then (1 : Rat) else 0) hd).2] at hS
      refine SCall.pure (rint_ok 1 (by decide)) ?_
      refine SPos.mk k rfl hkn ?_
      refine SLt.mk (by simp; omega) <| SEs.mk _ unit_set ?_
      refine SView.all (by simp [lst]) <| SCall.pureT (pvs := [matP false false g.n g.n (ent g), ratsM true (lst g.n fun i => if i = k then 1 else 0)]) hS (fun _ => rfl) ?_
      refine SCmp.yes (rfl) ?_
      exact SRet.pure (.tup rfl fun i c d e1 e2 => by
        match i, e1, e2 with
        | 0, e1, e2 => cases e1; cases e2; exact .emp 1
        | 1, e1, e2 => cases e1; cases e2; exact .p _ (.int _ _))
  · exact absurd n1 (by omega)
theorem r15inv_ok (m : Nat → Bool) (g : GV) {b c : Nat} (h : CauG g b c) (h5 : g.n ≤ 5) (ha : Inj g.A g.n) (hb : Inj g.B g.n) : CallP Tryz.prog 22 [genP m g] (.tup [.p (matP false false g.n g.n (cuM g)), .p (.int .i64 0)]) [] := by
  have hk := h.k5
  have n1 := h.n1
  have hd : (elim g.n (ent g) g.n).det ≠ 0 := fun e => h.det0.1 e ⟨ha, hb⟩
  have hcol : ∀ k, k < g.n → ∀ i, i < g.n → sm g.n (fun t => ent g i t * cuM g t k) = if i = k then 1 else 0 := fun k hk i hi => by
    rw [← cau_undo (h.cauH ha hb) hi hk]
    exact sm_congr fun t ht => by rw [ent5 h.k5]
  refine callG_of_vc (wr := wr0) Γok mixed Tryz.func22 (by kernel_rfl) rfl (by kernel_rfl) (le_of_ble rfl) (by simp) ?_
  refine SCmp.no (neF (by omega)) ?_
  refine SCall.pure (rexpand5_ok m g h.toWf) ?_
  refine SLoop.mkT Nat (fun k => ([(1, .bptr 0 0), (4, .p (matP false false g.n g.n (ent g))), (5, .vec 1 1 0 k), (6, .p (.int .i64 k))], [.box 26 (genA m g), .vec 24 1 (fl k fun k => ratsM false (lst g.n fun i => cuM g i k))]))
    (fun k => k ≤ g.n) (fun k => g.n - k) 0 [0, 1] _ _ (.step 5 24 1 rfl (.done _ _)) (Nat.zero_le _) ⟨rfl, by simp, rfl, rfl, rfl, ⟨rfl, rfl, rfl, rfl, trivial⟩, ⟨rfl, rfl, trivial⟩⟩ ?_
  intro k hk'
  have hk' : k ≤ g.n := hk'
  by_cases hkn : k < g.n
  · refine SCmp.yes (decide_eq_true (by omega)) ?_
    refine SZ.mk (g.n : Int) rfl ?_
    refine SLt.mk (by simp) ?_
    refine SMake.rat g.n rfl (by omega) ?_
    refine SLoop.mk Nat (fun i => ([(1, .bptr 0 0), (4, .p (matP false false g.n g.n (ent g))), (5, .vec 1 1 0 k), (6, .p (.int .i64 k)), (7, .vec 2 3 0 g.n), (8, .p (.int .i64 i))], [.box 26 (genA m g), .vec 24 1 (fl k fun k => ratsM false (lst g.n fun i => cuM g i k)), .vec 33 3 (fl g.n fun j => if j < i then ratP 0 else rat0)]))
      (fun i => i ≤ g.n) (fun i => g.n - i) 0 [0, 1, 2] (Nat.zero_le _) ⟨rfl, by simp, rfl, rfl, rfl, ⟨rfl, rfl, rfl, rfl, rfl, rfl, trivial⟩, ⟨rfl, rfl, congrArg _ ((fl_congr fun k hk => if_neg (by omega)).trans (replicate_fl g.n rat0).symm), trivial⟩⟩ ?_
    intro i hi
    have hi : i ≤ g.n := hi
    by_cases hin : i < g.n
    · refine SCmp.yes (decide_eq_true (by omega)) ?_
      refine SCall.pure (rzero_ok) ?_
      refine SPos.mk i rfl hin ?_
      refine SLt.mk (by simp; omega) <| SEs.mk _ (zero_step hin) ?_
      refine SWrap.i64z ((i + 1 : Nat) : Int) (by omega) (by omega) ?_
      exact ⟨i + 1, [0, 1, 2], hin, by show g.n - (i + 1) < g.n - i; omega, ⟨rfl, by simp, rfl, rfl, rfl, ⟨rfl, rfl, rfl, rfl, rfl, rfl, trivial⟩, ⟨rfl, rfl, rfl, trivial⟩⟩⟩
    · refine SCmp.no (decide_eq_false (by omega)) ?_
      obtain rfl : i = g.n := by omega
      have hy : ∀ i, i < g.n → Bz ((fun i => if i = k then (1 : Rat) else 0) i) 203 := fun i _ => by
        show Bz (if i = k then 1 else 0) 203
        split
        · exact bz_one.mono (by omega)
        · exact bz_zero.mono (by omega)
      have hS := rsolve203 false false true h5 (fun i k hi hk => h.bEnt5 hi hk) hy
      rw [(slv_val (x := fun i => cuM g i k) hd (hcol k hkn)).1, (slv_val (x := fun i => cuM g i k) hd (hcol k hkn)).2] at hS
      refine SCall.pure (rint_ok 1 (by decide)) ?_
      refine SPos.mk k rfl hkn ?_
      refine SLt.mk (by simp; omega) <| SEs.mk _ unit_set ?_
      refine SView.all (by simp [lst]) <| SCall.pureT (pvs := [matP false false g.n g.n (ent g), ratsM true (lst g.n fun i => if i = k then 1 else 0)]) hS (fun _ => rfl) ?_
      refine SCmp.no (rfl) ?_
      refine SEqN.mk (by simp) ?_
      refine SView.all rfl ?_
      refine SRoom.mk (by simp; omega) (by simp; omega) ?_
      refine SEs.mk (fl (k + 1) fun k => ratsM false (lst g.n fun i => cuM g i k)) (fl_snoc (f := fun k => ratsM false (lst g.n fun i => cuM g i k))).symm ?_
      refine SZN.mk (k + 1) (by simp) ?_
      refine SWrap.i64z ((k + 1 : Nat) : Int) (by omega) (by omega) ?_
      exact ⟨k + 1, [0, 4], hkn, by show g.n - (k + 1) < g.n - k; omega, ⟨rfl, by simp, rfl, rfl, rfl, ⟨rfl, rfl, rfl, rfl, trivial⟩, ⟨rfl, rfl, trivial⟩⟩⟩
  · refine SCmp.no (decide_eq_false (by omega)) ?_
    obtain rfl : k = g.n := by omega
    have hT := rturn_ok true false g.n (fun k i => cuM g i k) (b := 5400) (fun i k hi hk => cuM_bz h hk hi) (by omega) (by omega)
    refine SView.all (by simp) <| SCall.pure (pvs := [matP true false g.n g.n fun k i => cuM g i k]) hT ?_
    exact SRet.pure (.tup rfl fun i c d e1 e2 => by
      match i, e1, e2 with
      | 0, e1, e2 => cases e1; cases e2; exact .p _ pers_matP
      | 1, e1, e2 => cases e1; cases e2; exact .p _ (.int _ _))
end Go.Proofs.YtkaooejeljdbnaaGreat

namespace Go.Proofs.YtkaooejeljdbnaaGreat
open Go
set_option linter.unusedVariables false
set_option linter.unusedSimpArgs false
set_option maxRecDepth 10000
theorem within15_ok (a n : Int) (hn : 0 < n) (hn' : n < 4611686018427387904) : CallP Tryz.prog 16 [.int .i64 a, .int .i64 n] (.p (.int .i64 (a % n))) [] := by
  refine callG_of_vc (wr := wr0) Γok mixed Tryz.func16 (by kernel_rfl) rfl (by kernel_rfl) (le_of_ble rfl) (by simp) ?_
  have hw := within_aux (a := a) hn
  have hb := tmod_bd a hn
  obtain ⟨r, hr⟩ : ∃ r, r = a.tmod n := ⟨_, rfl⟩
  rw [← hr] at hw hb
  refine SNe.mk (by omega) ?_
  refine SZ.mk r hr.symm ?_
  by_cases h : r < 0
  · refine SCmp.yes (decide_eq_true (by omega)) ?_
    refine SWrap.i64z (r + n) rfl (by omega) ?_
    rw [if_pos h] at hw
    rw [← hw]
    exact SRet.pure (.p _ (.int _ _))
  · refine SCmp.no (decide_eq_false (by omega)) ?_
    rw [if_neg h] at hw
    rw [← hw]
    exact SRet.pure (.p _ (.int _ _))
/-- Are two nodes the same? -/
def tw (g : GV) (i j : Nat) : Prop := g.A i = g.A j ∨ g.B i = g.B j
theorem cDet_bz {g : GV} {b c : Nat} (h : CauG g b c) : Bz (cDet g.A g.B g.n) 30000 := by
  have h6 := h.n6
  have pmb : ∀ {f : Nat → Rat} {D : Nat} (m : Nat), (∀ i, i < m → Bz (f i) D) → Bz (pm m f) (1 + m * D) := fun {f D} m => by
    induction m with
    | zero => exact fun _ => bz_one.mono (by omega)
    | succ m ih => intro hf; exact ((ih fun i hi => hf i (by omega)).mul (hf m (by omega))).mono (by rw [Nat.succ_mul]; omega)
  have u : Bz (cUp g.A g.B g.n) (1 + g.n * 2413) := pmb g.n fun i hi => by
    have : Bz (pm i fun k => (g.A i - g.A k) * (g.B k - g.B i)) (1 + i * 402) := pmb i fun k hk => (h.daa hi (by omega)).mul (h.dbb (by omega) hi)
    exact this.mono (by omega)
  have d : Bz (cDn g.A g.B g.n g.n) (1 + g.n * 1207) := pmb g.n fun i hi => by
    have : Bz (pm g.n fun k => g.A i - g.B k) (1 + g.n * 201) := pmb g.n fun k hk => h.dab hi hk
    exact this.mono (by omega)
  exact (u.div d).mono (by omega)
end Go.Proofs.YtkaooejeljdbnaaGreat

namespace Go.Proofs.YtkaooejeljdbnaaGreat
open Go
set_option linter.unusedVariables false
set_option linter.unusedSimpArgs false
set_option maxRecDepth 10000
theorem rnil_ok : CallP Tryz.prog 27 [ratsM false [], ratsM false []] (.p (.bool true)) [] := by
  have hb0 : Bl [] 0 := fun i hi => absurd hi (Nat.not_lt_zero _)
  have hR := rrows_ok false false [] [] hb0 hb0 (by decide) (by simp)
  rw [decide_eq_true rfl] at hR
  exact hR
end Go.Proofs.YtkaooejeljdbnaaGreat

namespace Go.Proofs.YtkaooejeljdbnaaGreat
open Go
set_option linter.unusedVariables false
set_option linter.unusedSimpArgs false
set_option maxRecDepth 10000
abbrev mnil : PV := .raw (.map none)
abbrev zsides : PV := .agg [.int .i64 0, mnil, mnil, mnil, .bool false, .bool false]
theorem pers_zsides : Pers zsides := .agg _ fun c hc => by
  simp only [List.mem_cons, List.not_mem_nil, or_false] at hc
  rcases hc with rfl | rfl | rfl | rfl | rfl | rfl <;> first | exact .int _ _ | exact .bool _ | exact .raw _
theorem pers_rat0 : Pers rat0 := .agg _ fun c hc => by
  simp only [List.mem_cons, List.not_mem_nil, or_false] at hc
  rcases hc with rfl | rfl | rfl <;> first | exact .bool _ | exact .sl _ _ (fun e he => by simp at he)
theorem begunK_ok (m : Nat → Bool) (g : GV) (hk : g.k ≠ 5) : CallP Tryz.prog 65 [genP m g] (.tup [.p zsides, .p (.int .i64 2)]) [] := by
  refine callG_of_vc (wr := wr0) Γok mixed Tryz.func65 (by kernel_rfl) rfl (by kernel_rfl) (le_of_ble rfl) (by simp) ?_
  refine SCmp.yes (neT (by omega)) ?_
  exact SRet.pure (.tup rfl fun i c d e1 e2 => by
    match i, e1, e2 with
    | 0, e1, e2 => cases e1; cases e2; exact .p _ pers_zsides
    | 1, e1, e2 => cases e1; cases e2; exact .p _ (.int _ _))
theorem cdetK_ok (m : Nat → Bool) (g : GV) (hk : g.k ≠ 5) : CallP Tryz.prog 19 [genP m g] (.tup [.p rat0, .p (.int .i64 2)]) [] := by
  refine callG_of_vc (wr := wr0) Γok mixed Tryz.func19 (by kernel_rfl) rfl (by kernel_rfl) (le_of_ble rfl) (by simp) ?_
  refine SCall.pureT (begunK_ok m g hk) (fun _ => rfl) ?_
  refine SCmp.yes (rfl) ?_
  exact SRet.pure (.tup rfl fun i c d e1 e2 => by
    match i, e1, e2 with
    | 0, e1, e2 => cases e1; cases e2; exact .p _ pers_rat0
    | 1, e1, e2 => cases e1; cases e2; exact .p _ (.int _ _))
theorem cinvK_ok (m : Nat → Bool) (g : GV) (hk : g.k ≠ 5) : CallP Tryz.prog 21 [genP m g] (.tup [.p (.sl false 1 []), .p (.int .i64 2)]) [] := by
  refine callG_of_vc (wr := wr0) Γok mixed Tryz.func21 (by kernel_rfl) rfl (by kernel_rfl) (le_of_ble rfl) (by simp) ?_
  refine SCall.pureT (begunK_ok m g hk) (fun _ => rfl) ?_
  refine SCmp.no (rfl) ?_
  refine SCmp.yes (rfl) ?_
  exact SRet.pure (.tup rfl fun i c d e1 e2 => by
    match i, e1, e2 with
    | 0, e1, e2 => cases e1; cases e2; exact .emp 1
    | 1, e1, e2 => cases e1; cases e2; exact .p _ (.int _ _))
theorem csolveK_ok (m : Nat → Bool) (m' : Bool) (g : GV) (hk : g.k ≠ 5) (l : List Rat) : CallP Tryz.prog 23 [genP m g, ratsM m' l] (.tup [.p (ratsM false []), .p (.int .i64 2)]) [] := by
  refine callG_of_vc (wr := wr0) Γok mixed Tryz.func23 (by kernel_rfl) rfl (by kernel_rfl) (le_of_ble rfl) (by simp) ?_
  refine SCmp.no (eqF (by omega)) ?_
  refine SCall.pureT (cinvK_ok m g hk) (fun _ => rfl) ?_
  refine SCmp.yes (rfl) ?_
  exact SRet.pure (.tup rfl fun i c d e1 e2 => by
    match i, e1, e2 with
    | 0, e1, e2 => cases e1; cases e2; exact .emp 3
    | 1, e1, e2 => cases e1; cases e2; exact .p _ (.int _ _))
theorem r15detK_ok (m : Nat → Bool) (g : GV) (hk : g.k ≠ 5) : CallP Tryz.prog 20 [genP m g] (.tup [.p rat0, .p (.int .i64 2)]) [] := by
  refine callG_of_vc (wr := wr0) Γok mixed Tryz.func20 (by kernel_rfl) rfl (by kernel_rfl) (le_of_ble rfl) (by simp) ?_
  refine SCmp.yes (neT (by omega)) ?_
  exact SRet.pure (.tup rfl fun i c d e1 e2 => by
    match i, e1, e2 with
    | 0, e1, e2 => cases e1; cases e2; exact .p _ pers_rat0
    | 1, e1, e2 => cases e1; cases e2; exact .p _ (.int _ _))
theorem r15invK_ok (m : Nat → Bool) (g : GV) (hk : g.k ≠ 5) : CallP Tryz.prog 22 [genP m g] (.tup [.p (.sl false 1 []), .p (.int .i64 2)]) [] := by
  refine callG_of_vc (wr := wr0) Γok mixed Tryz.func22 (by kernel_rfl) rfl (by kernel_rfl) (le_of_ble rfl) (by simp) ?_
  refine SCmp.yes (neT (by omega)) ?_
  exact SRet.pure (.tup rfl fun i c d e1 e2 => by
    match i, e1, e2 with
    | 0, e1, e2 => cases e1; cases e2; exact .emp 1
    | 1, e1, e2 => cases e1; cases e2; exact .p _ (.int _ _))
theorem r15solveK_ok (m : Nat → Bool) (m' : Bool) (g : GV) (hk : g.k ≠ 5) (l : List Rat) : CallP Tryz.prog 24 [genP m g, ratsM m' l] (.tup [.p (ratsM false []), .p (.int .i64 2)]) [] := by
  refine callG_of_vc (wr := wr0) Γok mixed Tryz.func24 (by kernel_rfl) rfl (by kernel_rfl) (le_of_ble rfl) (by simp) ?_
  refine SCmp.yes (neT (by omega)) ?_
  exact SRet.pure (.tup rfl fun i c d e1 e2 => by
    match i, e1, e2 with
    | 0, e1, e2 => cases e1; cases e2; exact .emp 3
    | 1, e1, e2 => cases e1; cases e2; exact .p _ (.int _ _))
def kinds15 : List Int := [0, 1, 2, 3, 5, 6]
theorem kinds15_ne (j : Nat) (hj : j < 6) : gmK (kinds15.getD j 0) ≠ 5 ∧ I64 (kinds15.getD j 0) := by
  have : ∀ j, j < 6 → gmK (kinds15.getD j 0) ≠ 5 ∧ (-9223372036854775808 ≤ kinds15.getD j 0 ∧ kinds15.getD j 0 < 9223372036854775808) := by decide
  exact this j hj
theorem cauAll_ok (m m' : Bool) (n kind : Int) (ns bs : List Int) (hn : I64 n) (hkind : I64 kind) (hns : I64s ns) (hbs : I64s bs) :
    CallP Tryz.prog 3 [.int .i64 n, .sl m 1 (intsP ns), .sl m' 1 (intsP bs), .int .i64 kind] (.p (.bool true)) [] := by
  have hm := lmake13_ok m n 5 ns false hn hns (by omega) (by omega)
  have H := cauG13 n 5 ns (by omega) (by omega)
  have h5 : (g13 (mkG 5 (gmN n 5) (gmR 5 n) (rowG ns)) ns).n ≤ 5 := by
    rw [g13_n]; have := gmN_ok n 5 (by omega); show gmN n 5 ≤ 5; omega
  rw [if_neg (by decide)] at hm
  generalize g13 (mkG 5 (gmN n 5) (gmR 5 n) (rowG ns)) ns = g at hm H h5
  have h6 := H.n6
  have w4 := within15_ok kind 4 (by omega) (by omega)
  refine callG_of_vc (wr := wr0) Γok mixed Tryz.func3 (by kernel_rfl) rfl (by kernel_rfl) (le_of_ble rfl) (by simp) ?_
  refine SCall.pure (known15_ok) ?_
  refine SCmp.no (rfl) ?_
  refine SCall.pure (hm) ?_
  refine SCall.pure (w4) ?_
  by_cases c0 : kind % 4 = 0
  · refine SCmp.yes (eqT c0) ?_
    have hq : -9223372036854775808 ≤ kind.tdiv 4 ∧ kind.tdiv 4 < 9223372036854775808 := by
      unfold I64 at hkind
      rw [Int.tdiv_eq_ediv, show Int.sign 4 = 1 from rfl]; split <;> omega
    have w6 := within15_ok (kind.tdiv 4) 6 (by omega) (by omega)
    obtain ⟨j, hj, hj6⟩ : ∃ j : Nat, kind.tdiv 4 % 6 = j ∧ j < 6 := ⟨(kind.tdiv 4 % 6).toNat, by omega, by omega⟩
    rw [hj] at w6
    obtain ⟨k5, kI⟩ := kinds15_ne j hj6
    obtain ⟨z, hz⟩ : ∃ z, z = kinds15.getD j 0 := ⟨_, rfl⟩
    rw [← hz] at k5 kI
    have hM := lmake5_ok m z n 4 ns kI hn hns (by omega) (by omega)
    have hW := wf_make z n 4 ns (by omega) (by omega)
    obtain ⟨G, hG⟩ : ∃ G, G = mkG (gmK z) (gmN n 4) (gmR (gmK z) n) (rowG ns) := ⟨_, rfl⟩
    have gk : G.k ≠ 5 := by rw [hG]; exact k5
    rw [← hG] at hM hW
    have n6 := hW.n6
    refine SNe.mk (by omega) ?_
    refine SWrap.i64z (kind.tdiv 4) rfl hq ?_
    refine SCall.pure (w6) ?_
    refine SPos.mk j rfl hj6 ?_
    refine SIdx.mk (j + 0) (.int .i64 z) rfl ?_ ?_
    · rw [hz]
      have : ∀ j, j < 6 → (intsP kinds15)[j + 0]? = some (.int .i64 (kinds15.getD j 0)) := by
        intro j hj
        rcases (show j = 0 ∨ j = 1 ∨ j = 2 ∨ j = 3 ∨ j = 4 ∨ j = 5 by omega) with rfl | rfl | rfl | rfl | rfl | rfl <;> rfl
      exact this j hj6
    refine SCall.pure (hM) ?_
    refine SCall.pure (row2_ok m' bs hbs G.n (by omega)) ?_
    refine SCall.pure (w4) ?_
    refine SCmp.no (eqF (by omega)) ?_
    refine SCall.pureT (cdetK_ok noF G gk) (fun _ => rfl) ?_
    refine SCall.pureT (r15detK_ok noF G gk) (fun _ => rfl) ?_
    refine SCall.pureT (cinvK_ok noF G gk) (fun _ => rfl) ?_
    refine SCall.pureT (r15invK_ok noF G gk) (fun _ => rfl) ?_
    refine SCall.pureT (csolveK_ok noF false G gk (lst G.n (rowG bs))) (fun _ => rfl) ?_
    refine SCall.pureT (r15solveK_ok noF false G gk (lst G.n (rowG bs))) (fun _ => rfl) ?_
    refine SCmp.yes (eqT rfl) ?_
    refine SCall.pure (rsameZ_ok) ?_
    refine SCond.mk (fun _ => ?_) (fun h => by cases h)
    refine SCmp.yes (eqT rfl) ?_
    refine SCall.pure (rall_ok false false false false 0 0 (fun _ _ => 0) (a := 1) (fun i k hi => absurd hi (Nat.not_lt_zero _)) (by decide) (by decide) (by decide)) ?_
    refine SCond.mk (fun _ => ?_) (fun h => by cases h)
    refine SCmp.yes (eqT rfl) ?_
    refine SCall.pure (rnil_ok) ?_
    exact SRet.pure (.p _ (.bool _))
  · refine SCmp.no (eqF c0) ?_
    refine SCall.pure (row2_ok m' bs hbs g.n (by omega)) ?_
    refine SCall.pure (w4) ?_
    have hd := rsame_ok (cDet g.A g.B g.n) (cDet g.A g.B g.n) (cDet_bz H) (cDet_bz H) (by omega)
    rw [decide_eq_true rfl] at hd
    have yb : ∀ i, Bz (rowG bs i) 5 := rowG_bz bs
    by_cases c1 : kind % 4 = 1
    · refine SCmp.yes (eqT c1) ?_
      refine SWrap.i64z ((g.n + 1 : Nat) : Int) (by omega) (by omega) ?_
      refine SCall.pure (row2_ok m' bs hbs (g.n + 1) (by omega)) ?_
      have s1 := csolveLong_ok noF false g H (lst (g.n + 1) (rowG bs)) (by rw [lst_length]; omega) (by rw [lst_length]; omega)
      have s2 := r15solveLong_ok noF false g H (lst (g.n + 1) (rowG bs)) (by rw [lst_length]; omega) (by rw [lst_length]; omega)
      by_cases ht : Inj g.A g.n ∧ Inj g.B g.n
      · refine SCall.pureT (cdet_ok noF g H) (fun _ => rfl) ?_
        refine SCall.pureT (r15det_ok noF g H) (fun _ => rfl) ?_
        refine SCall.pureT (cinv_ok noF g H ht.1 ht.2) (fun _ => rfl) ?_
        refine SCall.pureT (r15inv_ok noF g H h5 ht.1 ht.2) (fun _ => rfl) ?_
        refine SCall.pureT (s1) (fun _ => rfl) ?_
        refine SCall.pureT (s2) (fun _ => rfl) ?_
        refine SCmp.yes (eqT rfl) ?_
        refine SCall.pure (hd) ?_
        refine SCond.mk (fun _ => ?_) (fun h => by cases h)
        refine SCmp.yes (eqT rfl) ?_
        refine SCall.pure (rall_ok false false false false g.n g.n (cuM g) (a := 5400) (fun i k hi hk => cuM_bz H hi hk) (by decide) (by omega) (by omega)) ?_
        refine SCond.mk (fun _ => ?_) (fun h => by cases h)
        refine SCmp.yes (eqT rfl) ?_
        refine SCall.pure (rnil_ok) ?_
        exact SRet.pure (.p _ (.bool _))
      · refine SCall.pureT (cdet_ok noF g H) (fun _ => rfl) ?_
        refine SCall.pureT (r15det_ok noF g H) (fun _ => rfl) ?_
        refine SCall.pureT (cinvOne_ok noF g H ht) (fun _ => rfl) ?_
        refine SCall.pureT (r15invOne_ok noF g H h5 ht) (fun _ => rfl) ?_
        refine SCall.pureT (s1) (fun _ => rfl) ?_
        refine SCall.pureT (s2) (fun _ => rfl) ?_
        refine SCmp.yes (eqT rfl) ?_
        refine SCall.pure (hd) ?_
        refine SCond.mk (fun _ => ?_) (fun h => by cases h)
        refine SCmp.yes (eqT rfl) ?_
        refine SCall.pure (rall_ok false false false false 0 0 (fun _ _ => 0) (a := 1) (fun i k hi => absurd hi (Nat.not_lt_zero _)) (by decide) (by decide) (by decide)) ?_
        refine SCond.mk (fun _ => ?_) (fun h => by cases h)
        refine SCmp.yes (eqT rfl) ?_
        refine SCall.pure (rnil_ok) ?_
        exact SRet.pure (.p _ (.bool _))
    · refine SCmp.no (eqF c1) ?_
      have s2 := r15solve_ok noF false g H h5 (rowG bs) (fun i _ => (yb i).mono (by omega))
      by_cases ht : Inj g.A g.n ∧ Inj g.B g.n
      · have hdet : (elim g.n (ent g) g.n).det ≠ 0 := fun e => H.det0.1 e ht
        have sv := slv_val hdet (H.undo ht.1 ht.2 (rowG bs))
        rw [sv.1, sv.2] at s2
        have z3 : ∀ i, i < g.n → Bz (cuX g (rowG bs) i) 33000 := fun i hi => (apl_bz (A := cuM g) (fun k hk => cuM_bz H hi hk) (fun k _ => yb k) g.n (Nat.le_refl _)).mono (by omega)
        have hR := rrows_ok false false (lst g.n (cuX g (rowG bs))) (lst g.n (cuX g (rowG bs))) (Bl.lst z3) (Bl.lst z3) (by decide) (by rw [lst_length]; omega)
        rw [decide_eq_true rfl] at hR
        refine SCall.pureT (cdet_ok noF g H) (fun _ => rfl) ?_
        refine SCall.pureT (r15det_ok noF g H) (fun _ => rfl) ?_
        refine SCall.pureT (cinv_ok noF g H ht.1 ht.2) (fun _ => rfl) ?_
        refine SCall.pureT (r15inv_ok noF g H h5 ht.1 ht.2) (fun _ => rfl) ?_
        refine SCall.pureT (csolve_ok noF false g H ht.1 ht.2 (rowG bs) (fun i _ => (yb i).mono (by omega))) (fun _ => rfl) ?_
        refine SCall.pureT (s2) (fun _ => rfl) ?_
        refine SCmp.yes (eqT rfl) ?_
        refine SCall.pure (hd) ?_
        refine SCond.mk (fun _ => ?_) (fun h => by cases h)
        refine SCmp.yes (eqT rfl) ?_
        refine SCall.pure (rall_ok false false false false g.n g.n (cuM g) (a := 5400) (fun i k hi hk => cuM_bz H hi hk) (by decide) (by omega) (by omega)) ?_
        refine SCond.mk (fun _ => ?_) (fun h => by cases h)
        refine SCmp.yes (eqT rfl) ?_
        refine SCall.pure (hR) ?_
        exact SRet.pure (.p _ (.bool _))
      · have sv := slv_none (y := rowG bs) (H.det0.2 ht)
        rw [sv.1, sv.2] at s2
        refine SCall.pureT (cdet_ok noF g H) (fun _ => rfl) ?_
        refine SCall.pureT (r15det_ok noF g H) (fun _ => rfl) ?_
        refine SCall.pureT (cinvOne_ok noF g H ht) (fun _ => rfl) ?_
        refine SCall.pureT (r15invOne_ok noF g H h5 ht) (fun _ => rfl) ?_
        refine SCall.pureT (csolveOne_ok noF false g H (rowG bs) ht) (fun _ => rfl) ?_
        refine SCall.pureT (s2) (fun _ => rfl) ?_
        refine SCmp.yes (eqT rfl) ?_
        refine SCall.pure (hd) ?_
        refine SCond.mk (fun _ => ?_) (fun h => by cases h)
        refine SCmp.yes (eqT rfl) ?_
        refine SCall.pure (rall_ok false false false false 0 0 (fun _ _ => 0) (a := 1) (fun i k hi => absurd hi (Nat.not_lt_zero _)) (by decide) (by decide) (by decide)) ?_
        refine SCond.mk (fun _ => ?_) (fun h => by cases h)
        refine SCmp.yes (eqT rfl) ?_
        refine SCall.pure (rnil_ok) ?_
        exact SRet.pure (.p _ (.bool _))
end Go.Proofs.YtkaooejeljdbnaaGreat

namespace Go.Proofs.YtkaooejeljdbnaaGreat
open Go Go.ChangeShapes Go.WideShapes Go.ChangeAt Go.RowKit Go.WideElems
set_option linter.unusedVariables false
set_option linter.unusedSimpArgs false
theorem Tryz.own : ownKnob Tryz.prog.godebug = none := by kernel_rfl
theorem Tryz.laidOut : laidOutB Tryz.prog = true := by kernel_rfl
theorem Tryz.cells3 : Tryz.prog.cellsOf 3 = 1 := by kernel_rfl
abbrev oldF (W : World) : Nat → Prop := fun b => b < W.heap.size
theorem law_call {P : Program} {f : FuncId} {pvs : List PV} (hc : CallP P f pvs (.p (.bool true)) []) {W : World} {vs : List Value} (hl : vs.length = pvs.length) (hv : ∀ (i : Nat) p v, pvs[i]? = some p → vs[i]? = some v → PR W (FBof noBor (oldF W)) p v) :
    Calls P f vs.toArray W fun e W' => e = .returned (.bool true) ∧ Below W.heap.size W W' := by
  refine (hc.run W (oldF W) noBor (fun _ => (none, 0)) vs ⟨by simp [hl], fun i a v e1 e2 => ?_, fun h => by rw [look_nil]; trivial, fun b h => h, fun b h => h.elim, fun h b hl => ?_, fun h h' b hl => ?_, fun a ha k hk => ?_, fun h k hk => ?_⟩).mono ?_
  · rw [List.getElem?_map] at e1
    cases hp : pvs[i]? with
    | none => rw [hp] at e1; cases e1
    | some p => rw [hp] at e1; cases e1; exact .p (hv i p v hp e2)
  · rw [look_nil] at hl; exact hl.elim
  · rw [look_nil] at hl; exact hl.elim
  · obtain ⟨p, _, rfl⟩ := List.mem_map.1 ha; simp only [AV.men] at hk
  · rw [look_nil] at hk; exact hk.elim
  · intro e W' ⟨v, F', β', he, hr⟩
    subst he
    refine ⟨?_, hr.os, hr.tape, hr.output, hr.size, fun b hb => hr.same b hb fun h hl => ?_⟩
    · have := hr.rel
      cases this with | p h => cases h; rfl
    · rw [look_nil] at hl; exact hl.elim
section
variable {H : Type} {enc : TypeId × Value → H} {P : Program} {W : World} {base : Nat} {sp : Nat → Bool} {held : Bool}
theorem openInt {t : TypeId} {r : Go.Reach} {b0 : Nat} {v : Value} {d : DataW H} {ps : List MemPlace} (ht : P.underlying t = some (.int .i64)) (hval : Value.okWide P W r b0 t v) (hd : DataW.Trod enc P W base sp held t v d ps) :
    ∃ n, v = .int .i64 n ∧ I64 n := by
  obtain ⟨n, h1, h2, h3, h4⟩ := open_int ht hval hd
  refine ⟨n, h1, ?_⟩
  simp [Lit.wf, IntKind.min, IntKind.max, IntKind.signed, IntKind.bits] at h4
  exact ⟨by omega, by omega⟩
theorem openInts {t e : TypeId} {r : Go.Reach} {b0 : Nat} {v : Value} {d : DataW H} {ps : List MemPlace} (ht : P.underlying t = some (.slice e)) (he : P.underlying e = some (.int .i64)) (hc : P.cellsOf e = 1) (hval : Value.okWide P W r b0 t v)
    (hd : DataW.Trod enc P W base sp held t v d ps) (hlt : ∀ x ∈ ps, x.block < W.heap.size) : ∃ zs : List Int, I64s zs ∧ PR W (FBof noBor (oldF W)) (.sl false 1 (intsP zs)) v := by
  obtain ⟨a0, len, cap, rfl⟩ := okWide_slice ht hval
  obtain ⟨fuel, hf⟩ := hd
  rcases open_ints ht he hc hf with ⟨hcs, hx⟩ | ⟨a, len', cap', zs, hcs, _, hl, hm, hz, hx, hcell, hwz⟩
  · simp [Value.cells] at hcs
    obtain ⟨rfl, rfl, rfl⟩ := hcs
    exact ⟨[], fun i => by simp [I64], .nil _ _ _⟩
  · simp [Value.cells] at hcs
    obtain ⟨rfl, rfl, rfl⟩ := hcs
    simp only [Prod.mk.injEq] at hx
    obtain ⟨_, rfl⟩ := hx
    have hlen : len ≤ zs.length := by rw [hz]; split <;> omega
    have hspot : a.spot = none := by
      simp only [Value.okWide, ht, Cell.okWide] at hval
      simp [Cell.ok, World.has] at hval
      first | exact hval.1.2.1 | exact hval.2.1 | (have := hval; simp_all)
    obtain ⟨b, off, spot⟩ := a
    simp only at hspot
    subst hspot
    refine ⟨zs.take len, fun i => ?_, ?_⟩
    · by_cases hi : i < (zs.take len).length
      · have hm : (zs.take len).getD i 0 ∈ zs := by
          have : (zs.take len).getD i 0 = (zs.take len)[i] := by simp only [List.getD, List.getElem?_eq_getElem hi, Option.getD_some]
          rw [this]
          exact List.mem_of_mem_take (List.getElem_mem hi)
        have h4 := hwz _ hm
        generalize (zs.take len).getD i 0 = q at h4 ⊢
        simp [Lit.wf, IntKind.min, IntKind.max, IntKind.signed, IntKind.bits] at h4
        exact ⟨by omega, by omega⟩
      · rw [getD_ge _ 0 (by omega)]; simp [I64]
    · have hll : (intsP (zs.take len)).length = len := by simp; omega
      have h := PR.sl (w := W) (FB := FBof noBor (oldF W)) false 1 (intsP (zs.take len)) b off cap (fun i _ => .int .i64 (zs.getD i 0)) (by rw [hll]; exact hl) (fun hne => ?_) (fun e he => ?_) (fun e he c hc => ?_) (fun i e j c e1 e2 => ?_) (fun i e j c e1 e2 => ?_)
      · rw [hll] at h; exact h
      · have hpos : 0 < zs.length := by
          rcases Nat.eq_zero_or_pos zs.length with h0 | h0
          · exact (hne (by rw [List.length_eq_zero_iff.1 h0]; simp)).elim
          · exact h0
        exact hlt (.cell b off) (MemPlace.mem_row.2 ⟨0, hpos, by simp⟩)
      · obtain ⟨z, _, rfl⟩ := List.mem_map.1 he; rfl
      · obtain ⟨z, _, rfl⟩ := List.mem_map.1 he
        have hc : c ∈ [PV.int .i64 z] := hc
        simp at hc; subst hc; rfl
      all_goals
        have hi : i < len := by have := (List.getElem?_eq_some_iff.1 e1).1; rwa [hll] at this
        have he : e = .int .i64 (zs.getD i 0) := by
          rw [List.getElem?_map, List.getElem?_take_of_lt hi, List.getElem?_eq_getElem (show i < zs.length by omega)] at e1
          simp at e1
          simp [List.getD, show i < zs.length by omega, ← e1]
        subst he
        have hj : j = 0 := by
          have := (List.getElem?_eq_some_iff.1 e2).1
          simpa [PV.cells] using this
        subst hj
        first
          | (have := hcell i (by omega)
             rw [show off + i * 1 + 0 = off + i by omega]
             rwa [Addr.add_lit] at this)
          | (have hcv : c = .int .i64 (zs.getD i 0) := by simpa [PV.cells] using e2.symm
             subst hcv
             exact .int _ _)
end
end Go.Proofs.YtkaooejeljdbnaaGreat

