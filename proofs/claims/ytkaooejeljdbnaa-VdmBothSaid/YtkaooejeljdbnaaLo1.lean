/- VdmOrder: nodes and points in another order. -/
import Derived.Test.YtkaooejeljdbnaaLw2
namespace Go.Proofs.Ytkaooejeljdbnaa
open Go
set_option linter.unusedVariables false
set_option linter.unusedSimpArgs false
set_option maxRecDepth 10000

theorem nodup_lst {N : Nat} {g : Nat → Rat} : (lst N g).Nodup ↔ Inj g N := by
  constructor
  · intro h i j hi hj e
    exact nodup_inj h (by rw [lst_length]; exact hi) (by rw [lst_length]; exact hj) (by rw [lst_getD hi, lst_getD hj, e])
  · intro h
    refine List.pairwise_iff_getElem.2 fun i j hi hj hij e => ?_
    rw [lst_length] at hi hj
    have := h i j hi hj (by simpa [lst] using e)
    omega
theorem Inj.congr {r q : Nat → Rat} {k : Nat} (h : Inj r k) (e : ∀ i, i < k → r i = q i) : Inj q k := fun i j hi hj hq => h i j hi hj (by rw [e i hi, e j hj, hq])
theorem rightZ_lst {n : Nat} {x f : Nat → Rat} : (Inj x (n + 1) → rightZ (lst (n + 1) x) (lst (n + 1) f) = 0) ∧ (¬ Inj x (n + 1) → rightZ (lst (n + 1) x) (lst (n + 1) f) = 9) := by
  have h0 : ¬ ((lst (n + 1) x).length = 0 ∨ (lst (n + 1) x).length ≠ (lst (n + 1) f).length) := by rw [lst_length, lst_length]; omega
  constructor
  · intro h
    rw [rightZ, if_neg h0, if_pos (nodup_lst.2 h)]
  · intro h
    rw [rightZ, if_neg h0, if_neg (mt nodup_lst.1 h)]
theorem thrL_spec {n s b : Nat} {x f : Nat → Rat} (hd : Inj x (n + 1)) (hx : ∀ i, i < n + 1 → Bz (x i) s) (hf : ∀ i, i < n + 1 → Bz (f i) b) :
    ∃ c, thrL (lst (n + 1) x) (lst (n + 1) f) = lst (n + 1) c ∧ (∀ l, l ≤ n → pev n c (x l) = f l) ∧ ∀ i, i < n + 1 → Bz (c i) (bs (2 * s + 2) b (n + n)) := by
  have ex : ∀ i, i < n + 1 → x i = (lst (n + 1) x).getD i 0 := fun i hi => (lst_getD hi).symm
  have ef : ∀ i, i < n + 1 → f i = (lst (n + 1) f).getD i 0 := fun i hi => (lst_getD hi).symm
  refine ⟨thrC (fun i => (lst (n + 1) x).getD i 0) n (fun i => (lst (n + 1) f).getD i 0), by rw [thrL, lst_length]; rfl, fun l hl => ?_, fun i hi => ?_⟩
  · have := thr_interp (fun i => (lst (n + 1) x).getD i 0) (fun i => (lst (n + 1) f).getD i 0) (hd.congr ex) hl
    rw [lst_getD (show l < n + 1 by omega), lst_getD (show l < n + 1 by omega)] at this
    exact this
  · exact thr_bz (s := s) (b := b) (fun i hi => by rw [lst_getD hi]; exact hx i hi) (fun i hi => by rw [lst_getD hi]; exact hf i hi) i hi
theorem thrL_eq {n : Nat} {x f c : Nat → Rat} (hd : Inj x (n + 1)) (h : ∀ l, l ≤ n → pev n c (x l) = f l) : thrL (lst (n + 1) x) (lst (n + 1) f) = lst (n + 1) c := by
  have ex : ∀ i, i < n + 1 → x i = (lst (n + 1) x).getD i 0 := fun i hi => (lst_getD hi).symm
  rw [thrL, lst_length]
  refine lst_congr fun i hi => ?_
  exact thr_unique (n := n) (hd.congr ex) (fun l hl => by rw [lst_getD (show l < n + 1 by omega), lst_getD (show l < n + 1 by omega)]; exact h l hl) i (by omega)

theorem rot_lt {i k N : Nat} (hi : i < N) (hk : k < N) : (i + k) % N = if i + k < N then i + k else i + k - N := by
  split
  · rename_i h; exact Nat.mod_eq_of_lt h
  · rename_i h; rw [Nat.mod_eq_sub_mod (by omega), Nat.mod_eq_of_lt (by omega)]
theorem rot_inj {x : Nat → Rat} {k N : Nat} (hk : k < N) : Inj (fun i => x ((i + k) % N)) N ↔ Inj x N := by
  constructor
  · intro h a b ha hb e
    have ea : (if k ≤ a then a - k else a + N - k) < N := by split <;> omega
    have eb : (if k ≤ b then b - k else b + N - k) < N := by split <;> omega
    have ra : ((if k ≤ a then a - k else a + N - k) + k) % N = a := by rw [rot_lt ea hk]; split <;> split <;> omega
    have rb : ((if k ≤ b then b - k else b + N - k) + k) % N = b := by rw [rot_lt eb hk]; split <;> split <;> omega
    have := h _ _ ea eb (by show x (_ % N) = x (_ % N); rw [ra, rb, e])
    split at this <;> split at this <;> omega
  · intro h a b ha hb e
    have := h _ _ (Nat.mod_lt _ (by omega)) (Nat.mod_lt _ (by omega)) e
    rw [rot_lt ha hk, rot_lt hb hk] at this
    split at this <;> split at this <;> omega

end Go.Proofs.Ytkaooejeljdbnaa
