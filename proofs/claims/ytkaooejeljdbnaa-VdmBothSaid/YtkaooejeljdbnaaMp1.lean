/- Linear systems, plainly: what the rounds keep, what solves. -/
import Derived.Test.YtkaooejeljdbnaaMs1
import Derived.Test.YtkaooejeljdbnaaPm2
namespace Go.Proofs.Ytkaooejeljdbnaa

theorem swp_ge {A : Nat → Nat → Rat} {p r n : Nat} (hp : r ≤ p) (hpn : p < n) {P : (Nat → Rat) → Prop} (h : ∀ i, i < n → r ≤ i → P (A i)) {i : Nat} (hi : i < n) (hr : r ≤ i) : P (swpM A p r i) := by
  unfold swpM
  split
  · exact h r (by omega) (Nat.le_refl _)
  · split
    · exact h p hpn hp
    · exact h i hi hr
theorem elim_ech {n : Nat} {A : Nat → Nat → Rat} : ∀ j i k, i < n → (elim n A j).r ≤ i → k < j → (elim n A j).A i k = 0 := by
  intro j
  induction j with
  | zero => intro i k _ _ h; exact absurd h (Nat.not_lt_zero _)
  | succ j ih =>
    have hr := elim_r_n (n := n) (A := A) j
    obtain ⟨p1, p2, p3, p4⟩ := pv_spec (A := (elim n A j).A) (j := j) hr
    intro i k hi
    rw [elim_succ]
    unfold elS
    split
    · rename_i hp
      intro hri hk
      by_cases e : k = j
      · subst e; exact p3 i hri (by omega)
      · exact ih i k hi hri (by omega)
    · rename_i hp
      intro hri hk
      have hri : (elim n A j).r + 1 ≤ i := hri
      show redM _ _ _ i k = 0
      by_cases e : k = j
      · subst e
        rw [redM_gt (by omega) (Nat.le_refl _)]
        have h0 : swpM (elim n A k).A (pv (elim n A k).A k n (elim n A k).r) (elim n A k).r (elim n A k).r k ≠ 0 := by
          rw [swpM_r]; exact p4.resolve_left (by omega)
        grind
      · rw [redM_le (.inr (by omega))]
        exact swp_ge (P := fun f => f k = 0) p1 (by omega) (fun q hq hrq => ih q k hq hrq (by omega)) hi (by omega)

def Ker (n w : Nat) (A : Nat → Nat → Rat) (v : Nat → Rat) : Prop := ∀ i, i < n → sm w (fun k => A i k * v k) = 0
theorem Ker.swp {n w p r : Nat} {A : Nat → Nat → Rat} {v : Nat → Rat} (hp : p < n) (hr : r < n) : Ker n w (swpM A p r) v ↔ Ker n w A v := by
  constructor
  · intro h i hi
    by_cases e1 : i = p
    · have := h r hr
      unfold swpM at this
      by_cases e2 : r = p
      · rw [if_pos e2] at this; rw [e1, ← e2]; exact this
      · rw [if_neg e2, if_pos rfl] at this; rw [e1]; exact this
    · by_cases e2 : i = r
      · have := h p hp
        unfold swpM at this
        rw [if_pos rfl] at this; rw [e2]; exact this
      · have := h i hi
        unfold swpM at this
        rw [if_neg e1, if_neg e2] at this; exact this
  · intro h i hi
    unfold swpM
    split
    · exact h r hr
    · split
      · exact h p hp
      · exact h i hi
theorem red_row {B : Nat → Nat → Rat} {r j i : Nat} (hz : ∀ k, k < j → B r k = 0) (hi : r < i) (k : Nat) : redM B r j i k = B i k - B i j / B r j * B r k := by
  by_cases e : j ≤ k
  · exact redM_gt hi e
  · rw [redM_le (.inr (by omega)), hz k (by omega)]; grind
theorem Ker.red {n w r j : Nat} {B : Nat → Nat → Rat} {v : Nat → Rat} (hz : ∀ k, k < j → B r k = 0) (hr : r < n) : Ker n w (redM B r j) v ↔ Ker n w B v := by
  have row : ∀ i, r < i → sm w (fun k => redM B r j i k * v k) = sm w (fun k => B i k * v k) - B i j / B r j * sm w (fun k => B r k * v k) := by
    intro i hi
    rw [← sm_smul, ← sm_sub]
    refine sm_congr fun k _ => ?_
    rw [red_row hz hi]; grind
  have low : ∀ i, ¬ r < i → (fun k => redM B r j i k * v k) = fun k => B i k * v k := by
    intro i hi
    funext k
    rw [redM_le (.inl (by omega))]
  constructor
  · intro h i hi
    have h0 : sm w (fun k => B r k * v k) = 0 := by have := h r hr; rw [low r (Nat.lt_irrefl r)] at this; exact this
    have := h i hi
    by_cases e : r < i
    · rw [row i e, h0] at this; grind
    · rw [low i e] at this; exact this
  · intro h i hi
    by_cases e : r < i
    · rw [row i e, h i hi, h r hr]; grind
    · rw [low i e]; exact h i hi
theorem elim_ker {n w : Nat} {A : Nat → Nat → Rat} {v : Nat → Rat} : ∀ j, Ker n w (elim n A j).A v ↔ Ker n w A v := by
  intro j
  induction j with
  | zero => exact Iff.rfl
  | succ j ih =>
    have hr := elim_r_n (n := n) (A := A) j
    obtain ⟨p1, p2, p3, p4⟩ := pv_spec (A := (elim n A j).A) (j := j) hr
    rw [elim_succ]
    unfold elS
    split
    · exact ih
    · rename_i hp
      have hpn : pv (elim n A j).A j n (elim n A j).r < n := by omega
      refine (Ker.red (fun k hk => ?_) (by omega)).trans ((Ker.swp hpn (by omega)).trans ih)
      rw [swpM_r]; exact elim_ech j _ k hpn p1 hk

theorem elim_step {n : Nat} {A : Nat → Nat → Rat} {j : Nat} (h : (elim n A (j + 1)).r = j + 1) : (elim n A j).r = j ∧ pv (elim n A j).A j n j < n := by
  have hr := elim_r_le (n := n) (A := A) j
  rw [elim_succ] at h
  unfold elS at h
  split at h
  · have : (elim n A j).r = j + 1 := h; omega
  · rename_i hp
    have : (elim n A j).r + 1 = j + 1 := h
    have e : (elim n A j).r = j := by omega
    rw [e] at hp
    exact ⟨e, by omega⟩
theorem elim_next {n : Nat} {A : Nat → Nat → Rat} {j : Nat} (h : (elim n A j).r = j) (hp : pv (elim n A j).A j n j < n) :
    elim n A (j + 1) = ⟨redM (swpM (elim n A j).A (pv (elim n A j).A j n j) j) j j, (if pv (elim n A j).A j n j = j then (elim n A j).det else -(elim n A j).det) * (elim n A j).A (pv (elim n A j).A j n j) j, j + 1⟩ := by
  rw [elim_succ]; unfold elS; rw [h, if_neg (by omega), swpM_r]
theorem elim_diag {n : Nat} {A : Nat → Nat → Rat} : ∀ j, (elim n A j).r = j → ∀ i, i < j → (elim n A j).A i i ≠ 0 := by
  intro j
  induction j with
  | zero => intro _ i hi; exact absurd hi (Nat.not_lt_zero _)
  | succ j ih =>
    intro h i hi
    obtain ⟨h1, h2⟩ := elim_step h
    have hr := elim_r_n (n := n) (A := A) j
    rw [h1] at hr
    obtain ⟨p1, p2, p3, p4⟩ := pv_spec (A := (elim n A j).A) (j := j) hr
    rw [elim_next h1 h2]
    show redM _ j j i i ≠ 0
    rw [redM_le (.inl (by omega))]
    by_cases e : i = j
    · subst e; rw [swpM_r]; exact p4.resolve_left (by omega)
    · unfold swpM; rw [if_neg (by omega), if_neg e]; exact ih h1 i (by omega)
theorem elim_det {n : Nat} {A : Nat → Nat → Rat} : ∀ j, j ≤ n → ((elim n A j).det ≠ 0 ↔ (elim n A j).r = j) := by
  intro j
  induction j with
  | zero => intro _; exact ⟨fun _ => rfl, fun _ => by show (1 : Rat) ≠ 0; decide⟩
  | succ j ih =>
    intro hj
    have ih := ih (by omega)
    have hr := elim_r_n (n := n) (A := A) j
    obtain ⟨p1, p2, p3, p4⟩ := pv_spec (A := (elim n A j).A) (j := j) hr
    constructor
    · intro h
      rw [elim_succ] at h ⊢
      unfold elS at h ⊢
      split at h
      · exact absurd rfl h
      · rename_i hp
        rw [if_neg hp]
        show (elim n A j).r + 1 = j + 1
        have : (elim n A j).det ≠ 0 := fun e => h (by
          show (if _ then (elim n A j).det else -(elim n A j).det) * _ = 0
          rw [e]; split <;> grind)
        rw [ih.1 this]
    · intro h
      obtain ⟨h1, h2⟩ := elim_step h
      rw [h1] at p4
      rw [elim_next h1 h2]
      have d := ih.2 h1
      have e := p4.resolve_left (by omega)
      show (if _ then (elim n A j).det else -(elim n A j).det) * _ ≠ 0
      intro e0
      rcases Rat.mul_eq_zero.1 e0 with e0 | e0
      · split at e0
        · exact d e0
        · exact d (by grind)
      · exact e e0
theorem elim_fail {n : Nat} {A : Nat → Nat → Rat} : ∀ m, m ≤ n → (elim n A m).r ≠ m → ∃ j, j < m ∧ (elim n A j).r = j ∧ pv (elim n A j).A j n j = n := by
  intro m
  induction m with
  | zero => intro _ h; exact absurd rfl h
  | succ m ih =>
    intro hm h
    by_cases e : (elim n A m).r = m
    · refine ⟨m, Nat.lt_succ_self _, e, ?_⟩
      have hr := elim_r_n (n := n) (A := A) m
      rw [e] at hr
      obtain ⟨p1, p2, p3, p4⟩ := pv_spec (A := (elim n A m).A) (j := m) hr
      rcases Nat.lt_or_ge (pv (elim n A m).A m n m) n with c | c
      · exact absurd (by rw [elim_next e c]) h
      · omega
    · obtain ⟨j, h1, h2⟩ := ih (by omega) e
      exact ⟨j, by omega, h2⟩

theorem sm_split (f : Nat → Rat) (m : Nat) : ∀ d, sm (m + d) f = sm m f + sm d (fun e => f (m + e)) := by
  intro d
  induction d with
  | zero => show sm m f = sm m f + 0; grind
  | succ d ih => show sm (m + d) f + f (m + d) = sm m f + (sm d (fun e => f (m + e)) + f (m + d)); rw [ih]; grind
theorem sb_eq (a x : Nat → Rat) (s0 : Rat) (m : Nat) : ∀ d, sb a x s0 m d = s0 - sm d (fun e => a (m + e) * x (m + e)) := by
  intro d
  induction d with
  | zero => show s0 = s0 - 0; grind
  | succ d ih => show sb a x s0 m d - _ = s0 - (sm d (fun e => a (m + e) * x (m + e)) + _); rw [ih]; grind
theorem bk_ok {A : Nat → Nat → Rat} {n : Nat} (up : ∀ i k, i < n → k < i → A i k = 0) (dg : ∀ i, i < n → A i i ≠ 0) :
    ∀ t, t ≤ n → ∀ i, n ≤ i + t → i < n → sm n (fun k => A i k * bk A n t k) = A i n := by
  intro t
  induction t with
  | zero => intro _ i h1 h2; omega
  | succ t ih =>
    intro ht i h1 h2
    by_cases e : i = n - 1 - t
    · have hv : bk A n (t + 1) i = sb (A i) (bk A n t) (A i n) (n - t) t / A i i := by simp only [bk]; rw [← e]; exact upd_same _ _ _
      have en : n = i + 1 + t := by omega
      have hs : sm n (fun k => A i k * bk A n (t + 1) k) = 0 + A i i * bk A n (t + 1) i + sm t (fun e => A i (i + 1 + e) * bk A n t (i + 1 + e)) := by
        conv => lhs; rw [en]
        rw [sm_split]
        congr 1
        · show sm i _ + _ = _
          rw [sm_zero fun k hk => by rw [up i k h2 hk]; exact Rat.zero_mul _, ← en]
        · refine sm_congr fun k hk => ?_
          rw [← en, bk_keep (by omega) (by omega)]
      rw [hs, hv, sb_eq, show n - t = i + 1 by omega]
      have := dg i h2
      grind
    · rw [← ih (by omega) i (by omega) h2]
      refine sm_congr fun k hk => ?_
      by_cases ek : k = n - 1 - t
      · rw [up i k h2 (by omega)]; grind
      · have : bk A n (t + 1) k = bk A n t k := by simp only [bk]; exact upd_other _ _ ek
        rw [this]

theorem elim_up {n : Nat} {A : Nat → Nat → Rat} : ∀ j, j ≤ n → (elim n A j).r = j → ∀ i k, i < n → k < i → k < j → (elim n A j).A i k = 0 := by
  intro j
  induction j with
  | zero => intro _ _ i k _ _ h; exact absurd h (Nat.not_lt_zero _)
  | succ j ih =>
    intro hj h i k hi hki hkj
    by_cases e : j + 1 ≤ i
    · exact elim_ech (j + 1) i k hi (by rw [h]; exact e) hkj
    · obtain ⟨h1, h2⟩ := elim_step h
      rw [elim_next h1 h2]
      show redM _ j j i k = 0
      rw [redM_le (.inl (by omega))]
      have hrn := elim_r_n (n := n) (A := A) j
      rw [h1] at hrn
      have hp := (pv_spec (A := (elim n A j).A) (j := j) hrn).1
      by_cases e2 : i = j
      · subst e2; rw [swpM_r]
        exact elim_ech i _ k h2 (by rw [h1]; exact hp) hki
      · unfold swpM; rw [if_neg (by omega), if_neg e2]
        exact ih (by omega) h1 i k hi hki (by omega)
theorem ker1 {n : Nat} {A : Nat → Nat → Rat} {v : Nat → Rat} (hd : (elim n A n).det ≠ 0) (h : Ker n n A v) : ∀ k, k < n → v k = 0 := by
  have hr := (elim_det n (Nat.le_refl _)).1 hd
  have hk := (elim_ker n).2 h
  have up : ∀ i k, i < n → k < i → (elim n A n).A i k = 0 := fun i k hi hk => elim_up n (Nat.le_refl _) hr i k hi hk (by omega)
  have dg := elim_diag n hr
  have : ∀ t, t ≤ n → ∀ i, n ≤ i + t → i < n → v i = 0 := by
    intro t
    induction t with
    | zero => intro _ i h1 h2; omega
    | succ t ih =>
      intro ht i h1 h2
      by_cases e : n ≤ i + t
      · exact ih (by omega) i e h2
      · have en : n = i + 1 + t := by omega
        have h0 := hk i h2
        have hs : sm n (fun k => (elim n A n).A i k * v k) = 0 + (elim n A n).A i i * v i + 0 := by
          conv => lhs; arg 1; rw [en]
          rw [sm_split]
          congr 1
          · show sm i _ + _ = _
            rw [sm_zero fun k hk => by rw [up i k h2 hk]; exact Rat.zero_mul _]
          · exact sm_zero fun k hk => by rw [ih (by omega) (i + 1 + k) (by omega) (by omega)]; exact Rat.mul_zero _
        rw [hs] at h0
        have := dg i h2
        rcases Rat.mul_eq_zero.1 (show (elim n A n).A i i * v i = 0 by grind) with c | c
        · exact absurd c this
        · exact c
  exact fun k hk => this n (Nat.le_refl _) k (by omega) hk
theorem ker0 {n : Nat} {A : Nat → Nat → Rat} (hd : (elim n A n).det = 0) : ∃ v : Nat → Rat, (∃ k, k < n ∧ v k ≠ 0) ∧ Ker n n A v := by
  obtain ⟨j, hj, h1, h2⟩ := elim_fail (A := A) n (Nat.le_refl n) fun e => (elim_det n (Nat.le_refl _)).2 e hd
  have hrn := elim_r_n (n := n) (A := A) j
  rw [h1] at hrn
  obtain ⟨p1, p2, p3, p4⟩ := pv_spec (A := (elim n A j).A) (j := j) hrn
  let A' : Nat → Nat → Rat := fun i k => if k = j then -(elim n A j).A i j else (elim n A j).A i k
  have hb := bk_ok (A := A') (n := j) (fun i k hi hk => by
      show (if k = j then _ else _) = (0 : Rat)
      rw [if_neg (by omega)]; exact elim_up j (by omega) h1 i k (by omega) hk (by omega))
    (fun i hi => by
      show (if i = j then _ else _) ≠ (0 : Rat)
      rw [if_neg (by omega)]; exact elim_diag j h1 i hi) j (Nat.le_refl _)
  refine ⟨fun k => if k < j then bk A' j j k else if k = j then 1 else 0, ⟨j, hj, by simp⟩, (elim_ker j).1 fun i hi => ?_⟩
  have en : n = j + 1 + (n - j - 1) := by omega
  rw [en, sm_split]
  have z : sm (n - j - 1) (fun e => (elim n A j).A i (j + 1 + e) * (fun k => if k < j then bk A' j j k else if k = j then 1 else 0) (j + 1 + e)) = 0 :=
    sm_zero fun e he => by show _ * (if j + 1 + e < j then _ else if j + 1 + e = j then _ else _) = (0 : Rat); rw [if_neg (by omega), if_neg (by omega)]; exact Rat.mul_zero _
  rw [← en, z]
  show sm j _ + (elim n A j).A i j * (if j < j then _ else if j = j then 1 else 0) + 0 = 0
  rw [if_neg (Nat.lt_irrefl j), if_pos rfl]
  by_cases e : i < j
  · have := hb i (by omega) e
    have e2 : sm j (fun k => (elim n A j).A i k * (if k < j then bk A' j j k else if k = j then 1 else 0)) = sm j (fun k => A' i k * bk A' j j k) :=
      sm_congr fun k hk => by
        show _ = (if k = j then _ else (elim n A j).A i k) * _
        rw [if_pos hk, if_neg (by omega)]
    have e3 : A' i j = -(elim n A j).A i j := if_pos rfl
    rw [e2, this, e3]; grind
  · rw [sm_zero fun k hk => by rw [elim_ech j i k hi (by omega) hk]; exact Rat.zero_mul _, p3 i (by omega) (by omega)]; grind

theorem pv_congr {n j r : Nat} {A B : Nat → Nat → Rat} (h : ∀ i, i < n → A i j = B i j) (hr : r ≤ n) : pv A j n r = pv B j n r := by
  obtain ⟨p1, p2, p3, p4⟩ := pv_spec (A := B) (j := j) hr
  refine pv_eq p1 p2 (fun i h1 h2 => by rw [h i (by omega)]; exact p3 i h1 h2) ?_
  by_cases e : pv B j n r = n
  · exact .inl e
  · exact .inr (by rw [h _ (by omega)]; exact p4.resolve_left e)
theorem elim_congr {n : Nat} {A B : Nat → Nat → Rat} (h : ∀ i k, i < n → k < n → A i k = B i k) : ∀ j, j ≤ n →
    (elim n A j).det = (elim n B j).det ∧ (elim n A j).r = (elim n B j).r ∧ ∀ i k, i < n → k < n → (elim n A j).A i k = (elim n B j).A i k := by
  intro j
  induction j with
  | zero => exact fun _ => ⟨rfl, rfl, h⟩
  | succ j ih =>
    intro hj
    obtain ⟨h1, h2, h3⟩ := ih (by omega)
    have hr := elim_r_n (n := n) (A := B) j
    have hp := pv_congr (r := (elim n B j).r) (fun i hi => h3 i j hi (by omega)) hr
    rw [elim_succ, elim_succ]
    unfold elS
    rw [h2, hp, h1]
    obtain ⟨p1, p2, p3, p4⟩ := pv_spec (A := (elim n B j).A) (j := j) hr
    split
    · exact ⟨rfl, rfl, h3⟩
    · rename_i c
      have hs : ∀ i k, i < n → k < n → swpM (elim n A j).A (pv (elim n B j).A j n (elim n B j).r) (elim n B j).r i k = swpM (elim n B j).A (pv (elim n B j).A j n (elim n B j).r) (elim n B j).r i k := by
        intro i k hi hk
        unfold swpM
        split
        · exact h3 _ k (by omega) hk
        · split
          · exact h3 _ k (by omega) hk
          · exact h3 _ k hi hk
      refine ⟨?_, rfl, fun i k hi hk => ?_⟩
      · show _ * _ = _ * _; rw [hs _ j (by omega) (by omega)]
      · show redM _ _ _ i k = redM _ _ _ i k
        unfold redM
        rw [hs i k hi hk, hs i j hi (by omega), hs _ j (by omega) (by omega), hs _ k (by omega) hk]
theorem aug_det {n : Nat} {A : Nat → Nat → Rat} {y : Nat → Rat} : (elim n (augM n A y) n).det = (elim n A n).det :=
  (elim_congr (fun i k _ hk => if_pos hk) n (Nat.le_refl _)).1
theorem slv_ok {n : Nat} {A : Nat → Nat → Rat} {y : Nat → Rat} (hd : (elim n A n).det ≠ 0) : ∀ i, i < n → sm n (fun k => A i k * bk (elim n (augM n A y) n).A n n k) = y i := by
  have hd' : (elim n (augM n A y) n).det ≠ 0 := by rw [aug_det]; exact hd
  have hr := (elim_det n (Nat.le_refl _)).1 hd'
  have hb := bk_ok (A := (elim n (augM n A y) n).A) (n := n) (fun i k hi hk => elim_up n (Nat.le_refl _) hr i k hi hk (by omega)) (elim_diag n hr) n (Nat.le_refl _)
  have hk : Ker n (n + 1) (elim n (augM n A y) n).A fun k => if k < n then bk (elim n (augM n A y) n).A n n k else -1 := fun i hi => by
    show sm n _ + _ * (if n < n then _ else (-1 : Rat)) = 0
    rw [if_neg (Nat.lt_irrefl n), sm_congr (g := fun k => (elim n (augM n A y) n).A i k * bk (elim n (augM n A y) n).A n n k) fun k hk => by show _ * (if k < n then _ else _) = _; rw [if_pos hk], hb i (by omega) hi]
    grind
  intro i hi
  have := (elim_ker n).1 hk i hi
  have h2 : sm n (fun k => A i k * bk (elim n (augM n A y) n).A n n k) + augM n A y i n * (if n < n then bk (elim n (augM n A y) n).A n n n else -1) = 0 := by
    rw [← this]
    show _ = sm n _ + _
    congr 1
    exact sm_congr fun k hk => by show _ = augM n A y i k * _; rw [if_pos hk]; unfold augM; rw [if_pos hk]
  rw [if_neg (Nat.lt_irrefl n), show augM n A y i n = y i from if_neg (Nat.lt_irrefl n)] at h2
  grind
/-- The one answer. -/
theorem slv_one {n : Nat} {A : Nat → Nat → Rat} {u v : Nat → Rat} (hd : (elim n A n).det ≠ 0) (h : ∀ i, i < n → sm n (fun k => A i k * u k) = sm n (fun k => A i k * v k)) : ∀ k, k < n → u k = v k := by
  intro k hk
  have : Ker n n A fun k => u k - v k := fun i hi => by
    have e : (fun k => A i k * (u k - v k)) = fun k => A i k * u k - A i k * v k := by funext k; grind
    rw [e, sm_sub, h i hi]; grind
  have := ker1 hd this k hk
  grind
end Go.Proofs.Ytkaooejeljdbnaa
