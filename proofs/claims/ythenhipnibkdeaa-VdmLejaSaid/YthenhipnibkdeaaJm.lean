/- The order of nodes. Plain mathematics. -/
import Derived.Test.YthenhipnibkdeaaLw2
namespace Go.Proofs.Ythenhipnibkdeaa
set_option linter.unusedVariables false

def scoreL (x : Nat → Rat) (i : Nat) (out : List Nat) : Rat := out.foldl (fun p k => p * (x i - x k).abs) 1
/-- A node's product: against all that are chosen; at first its own size. -/
def score (x : Nat → Rat) (out : List Nat) (i : Nat) : Rat := if out = [] then (x i).abs else scoreL x i out
/-- The first of those below i that has the greatest product. -/
def scan (x : Nat → Rat) (out : List Nat) : Nat → Option Nat
  | 0 => none
  | i + 1 => if i ∈ out then scan x out i else match scan x out i with
    | none => some i
    | some j => if score x out j < score x out i then some i else some j
def leja (x : Nat → Rat) (n : Nat) : Nat → List Nat
  | 0 => []
  | k + 1 => leja x n k ++ [(scan x (leja x n k) n).getD 0]
theorem leja_length (x : Nat → Rat) (n : Nat) : ∀ k, (leja x n k).length = k := by
  intro k
  induction k with
  | zero => rfl
  | succ k ih => rw [leja, List.length_append, ih]; rfl
theorem leja_take (x : Nat → Rat) (n : Nat) : ∀ {k j : Nat}, j ≤ k → (leja x n k).take j = leja x n j := by
  intro k
  induction k with
  | zero => intro j h; rw [Nat.le_zero.1 h]; rfl
  | succ k ih =>
    intro j h
    by_cases e : j = k + 1
    · rw [e]; exact List.take_of_length_le (by rw [leja_length]; omega)
    · rw [leja, List.take_append_of_le_length (by rw [leja_length]; omega), ih (by omega)]
theorem scan_none {x : Nat → Rat} {out : List Nat} : ∀ {i : Nat}, scan x out i = none → ∀ q, q < i → q ∈ out := by
  intro i
  induction i with
  | zero => intro _ q h; omega
  | succ i ih =>
    intro h q hq
    rw [scan] at h
    split at h
    · rename_i hi
      by_cases e : q = i
      · rw [e]; exact hi
      · exact ih h q (by omega)
    · split at h
      · cases h
      · split at h <;> cases h
theorem scan_some {x : Nat → Rat} {out : List Nat} : ∀ {i j : Nat}, scan x out i = some j → j < i ∧ j ∉ out ∧ ∀ q, q < i → q ∉ out → score x out q ≤ score x out j ∧ (score x out q = score x out j → j ≤ q) := by
  intro i
  induction i with
  | zero => intro j h; cases h
  | succ i ih =>
    intro j h
    rw [scan] at h
    split at h
    · rename_i hi
      obtain ⟨h1, h2, h3⟩ := ih h
      refine ⟨by omega, h2, fun q hq hqo => ?_⟩
      by_cases e : q = i
      · rw [e] at hqo; exact (hqo hi).elim
      · exact h3 q (by omega) hqo
    · rename_i hi
      split at h
      · rename_i hs
        cases h
        refine ⟨by omega, hi, fun q hq hqo => ?_⟩
        by_cases e : q = i
        · rw [e]; exact ⟨Rat.le_refl, fun _ => Nat.le_refl _⟩
        · exact (hqo (scan_none hs q (by omega))).elim
      · rename_i j' hs
        obtain ⟨h1, h2, h3⟩ := ih hs
        split at h
        · rename_i hlt
          cases h
          refine ⟨by omega, hi, fun q hq hqo => ?_⟩
          by_cases e : q = i
          · rw [e]; exact ⟨Rat.le_refl, fun _ => Nat.le_refl _⟩
          · have := (h3 q (by omega) hqo).1
            have h5 : score x out q < score x out i := by grind
            exact ⟨Rat.le_of_lt h5, fun e => by rw [e] at h5; exact (Rat.lt_irrefl h5).elim⟩
        · rename_i hlt
          cases h
          refine ⟨by omega, h2, fun q hq hqo => ?_⟩
          by_cases e : q = i
          · rw [e]; exact ⟨Rat.not_lt.1 hlt, fun _ => by omega⟩
          · exact h3 q (by omega) hqo
theorem pigeon : ∀ (n : Nat) (o : List Nat), (∀ i, i < n → i ∈ o) → n ≤ o.length := by
  intro n
  induction n with
  | zero => intro o _; omega
  | succ n ih =>
    intro o h
    have hn := h n (by omega)
    have := ih (o.erase n) fun i hi => (List.mem_erase_of_ne (by omega)).2 (h i (by omega))
    rw [List.length_erase_of_mem hn] at this
    have : 0 < o.length := List.length_pos_of_mem hn
    omega
theorem leja_scan (x : Nat → Rat) {n k : Nat} (h : k < n) : ∃ j, scan x (leja x n k) n = some j ∧ leja x n (k + 1) = leja x n k ++ [j] := by
  cases hs : scan x (leja x n k) n with
  | none =>
    have := pigeon n _ (scan_none hs)
    rw [leja_length] at this; omega
  | some j => exact ⟨j, rfl, by rw [leja, hs]; rfl⟩
theorem leja_lt (x : Nat → Rat) (n : Nat) : ∀ k, k ≤ n → ∀ q ∈ leja x n k, q < n := by
  intro k
  induction k with
  | zero => intro _ q h; cases h
  | succ k ih =>
    intro hk q hq
    obtain ⟨j, hj, e⟩ := leja_scan x (n := n) (k := k) (by omega)
    rw [e, List.mem_append] at hq
    rcases hq with hq | hq
    · exact ih (by omega) q hq
    · rw [List.mem_singleton.1 hq]; exact (scan_some hj).1
/-- The node chosen k-th has the greatest product of all that are left. -/
theorem leja_best (x : Nat → Rat) {n i k : Nat} (hik : i < k) (hk : k < n) : score x (leja x n i) ((leja x n n).getD k 0) ≤ score x (leja x n i) ((leja x n n).getD i 0) ∧
    (score x (leja x n i) ((leja x n n).getD k 0) = score x (leja x n i) ((leja x n n).getD i 0) → (leja x n n).getD i 0 ≤ (leja x n n).getD k 0) := by
  have get : ∀ {i : Nat}, i < n → ∀ {j}, scan x (leja x n i) n = some j → (leja x n n).getD i 0 = j := fun {i} hi {j} hj => by
    have h1 := leja_take x n (k := n) (j := i + 1) (by omega)
    have h2 : ((leja x n n).take (i + 1)).getD i 0 = (leja x n n).getD i 0 := by simp [List.getD]
    rw [← h2, h1, leja, hj]
    simp [List.getD, leja_length]
  obtain ⟨j, hj, _⟩ := leja_scan x (n := n) (k := i) (by omega)
  obtain ⟨q, hq, _⟩ := leja_scan x (n := n) (k := k) hk
  rw [get (by omega) hj, get hk hq]
  obtain ⟨_, _, h3⟩ := scan_some hj
  obtain ⟨g1, g2, _⟩ := scan_some hq
  refine h3 q g1 fun hm => g2 ?_
  rw [← leja_take x n (k := k) (j := i) (by omega)] at hm
  exact List.mem_of_mem_take hm
theorem scoreL_snoc (x : Nat → Rat) (i j : Nat) (o : List Nat) : scoreL x i (o ++ [j]) = scoreL x i o * (x i - x j).abs := by
  rw [scoreL, List.foldl_append]; rfl
theorem score_nil (x : Nat → Rat) (i : Nat) : score x [] i = (x i).abs := if_pos rfl
theorem score_ne (x : Nat → Rat) (i : Nat) {o : List Nat} (h : o ≠ []) : score x o i = scoreL x i o := if_neg h
theorem score_snoc (x : Nat → Rat) (i j : Nat) (o : List Nat) : score x (o ++ [j]) i = (if o = [] then 1 else score x o i) * (x i - x j).abs := by
  rw [score_ne x i (by simp), scoreL_snoc]
  split
  · rename_i h; rw [h]; rfl
  · rename_i h; rw [score_ne x i h]
theorem scoreL_bz {x : Nat → Rat} {n s i : Nat} (hx : ∀ i, i < n → Bz (x i) s) (hi : i < n) : ∀ (o : List Nat) (q : Rat) (b : Nat), (∀ k ∈ o, k < n) → Bz q b → Bz (o.foldl (fun p k => p * (x i - x k).abs) q) (b + o.length * (s + s + 1)) := by
  intro o
  induction o with
  | nil => intro q b _ hq; simpa using hq
  | cons k o ih =>
    intro q b ho hq
    have := ih (q * (x i - x k).abs) (b + (s + s + 1)) (fun k hk => ho k (List.mem_cons_of_mem _ hk)) (hq.mul ((hx i hi).sub (hx k (ho k List.mem_cons_self))).abs)
    refine this.mono ?_
    rw [List.length_cons, Nat.add_mul, Nat.one_mul]; omega
theorem score_bz {x : Nat → Rat} {n s i : Nat} (hx : ∀ i, i < n → Bz (x i) s) (hi : i < n) {o : List Nat} (ho : ∀ k ∈ o, k < n) (hl : o.length ≤ n) : Bz (score x o i) (n * (s + s + 1) + s + 1) := by
  unfold score
  split
  · exact (hx i hi).abs.mono (by omega)
  · refine (scoreL_bz hx hi o 1 1 ho bz_one).mono ?_
    have := Nat.mul_le_mul_right (s + s + 1) hl
    omega
end Go.Proofs.Ythenhipnibkdeaa
