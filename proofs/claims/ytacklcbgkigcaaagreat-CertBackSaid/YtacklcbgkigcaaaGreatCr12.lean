/- CertScale: the plain law. -/
import Derived.Test.YtacklcbgkigcaaaGreatCqn
namespace Go.Proofs.YtacklcbgkigcaaaGreat
open Go
set_option linter.unusedVariables false
set_option linter.unusedSimpArgs false
set_option maxRecDepth 10000

def scl (c : Rat) (l : List Rat) : List Rat := l.map (c * ·)
theorem scl_length (c : Rat) (l : List Rat) : (scl c l).length = l.length := by simp [scl]
theorem scl_getD (c : Rat) (l : List Rat) (i : Nat) : (scl c l).getD i 0 = c * l.getD i 0 := by
  rcases Nat.lt_or_ge i l.length with h | h
  · simp [scl, List.getD, List.getElem?_eq_getElem h]
  · simp [scl, List.getD, List.getElem?_eq_none h, Rat.mul_zero]
theorem abs_pos {c : Rat} (h : c ≠ 0) : 0 < c.abs := by
  have h1 := Rat.abs_nonneg (x := c)
  have h2 : c.abs ≠ 0 := fun e => h (Rat.abs_eq_zero_iff.1 e)
  grind
theorem abs_mul' (c x : Rat) : (c * x).abs = c.abs * x.abs := by
  by_cases hc : 0 ≤ c <;> by_cases hx : 0 ≤ x
  · rw [Rat.abs_of_nonneg hc, Rat.abs_of_nonneg hx, Rat.abs_of_nonneg (Rat.mul_nonneg hc hx)]
  · have hx' : 0 ≤ -x := by grind
    have h := Rat.mul_nonneg hc hx'
    have e1 : x.abs = -x := by rw [← Rat.abs_neg, Rat.abs_of_nonneg hx']
    have e2 : (c * x).abs = -(c * x) := by rw [← Rat.abs_neg, Rat.abs_of_nonneg (by grind)]
    rw [Rat.abs_of_nonneg hc, e1, e2]; grind
  · have hc' : 0 ≤ -c := by grind
    have h := Rat.mul_nonneg hc' hx
    have e1 : c.abs = -c := by rw [← Rat.abs_neg, Rat.abs_of_nonneg hc']
    have e2 : (c * x).abs = -(c * x) := by rw [← Rat.abs_neg, Rat.abs_of_nonneg (by grind)]
    rw [Rat.abs_of_nonneg hx, e1, e2]; grind
  · have hc' : 0 ≤ -c := by grind
    have hx' : 0 ≤ -x := by grind
    have h := Rat.mul_nonneg hc' hx'
    have e1 : c.abs = -c := by rw [← Rat.abs_neg, Rat.abs_of_nonneg hc']
    have e3 : x.abs = -x := by rw [← Rat.abs_neg, Rat.abs_of_nonneg hx']
    have e2 : (c * x).abs = c * x := Rat.abs_of_nonneg (by grind)
    rw [e1, e2, e3]; grind
theorem mul_lt {a x y : Rat} (ha : 0 < a) : a * x < a * y ↔ x < y := by
  have h := Rat.mul_lt_mul_left (a := x) (b := y) (c := a) ha
  exact h
theorem size_scl {c : Rat} (hc : c ≠ 0) (l : List Rat) : sizeQ (scl c l) = c.abs * sizeQ l := by
  have ha := abs_pos hc
  have key : ∀ (l : List Rat) (m : Rat), (scl c l).foldl (fun m x => if m < x.abs then x.abs else m) (c.abs * m) = c.abs * l.foldl (fun m x => if m < x.abs then x.abs else m) m := by
    intro l
    induction l with
    | nil => intro m; rfl
    | cons x l ih =>
      intro m
      show (scl c l).foldl _ (if c.abs * m < (c * x).abs then (c * x).abs else c.abs * m) = c.abs * l.foldl _ (if m < x.abs then x.abs else m)
      rw [abs_mul']
      by_cases h : m < x.abs
      · rw [if_pos h, if_pos ((mul_lt ha).2 h)]; exact ih _
      · rw [if_neg h, if_neg (mt (mul_lt ha).1 h)]; exact ih _
  have := key l 0
  rw [Rat.mul_zero] at this
  exact this
theorem sum_scl (c : Rat) (l : List Rat) : sumQ (scl c l) = c.abs * sumQ l := by
  have key : ∀ (l : List Rat) (m : Rat), (scl c l).foldl (fun s a => s + a.abs) (c.abs * m) = c.abs * l.foldl (fun s a => s + a.abs) m := by
    intro l
    induction l with
    | nil => intro m; rfl
    | cons x l ih =>
      intro m
      show (scl c l).foldl _ (c.abs * m + (c * x).abs) = c.abs * l.foldl _ (m + x.abs)
      rw [abs_mul', ← Rat.mul_add]; exact ih _
  have := key l 0
  rw [Rat.mul_zero] at this
  exact this
def sclM (c : Rat) (M : List (List Rat)) : List (List Rat) := M.map (scl c)
theorem sclM_length (c : Rat) (M : List (List Rat)) : (sclM c M).length = M.length := by simp [sclM]
theorem sclM_getD (c : Rat) {M : List (List Rat)} {i : Nat} (h : i < M.length) : (sclM c M).getD i [] = scl c (M.getD i []) := by simp [sclM, List.getD, List.getElem?_eq_getElem h]
theorem norm_scl {c : Rat} (hc : c ≠ 0) (M : List (List Rat)) : normQ (sclM c M) = c.abs * normQ M := by
  have ha := abs_pos hc
  have e : (sclM c M).map sumQ = scl c.abs (M.map sumQ) := by
    rw [sclM, scl, List.map_map, List.map_map]
    exact List.map_congr_left fun l _ => sum_scl c l
  rw [normQ, e, size_scl (by grind), Rat.abs_of_nonneg (by grind)]
  rfl
theorem dot_scl (c : Rat) (l v : List Rat) : ∀ j, dotN (scl c l) v j = c * dotN l v j := by
  intro j
  induction j with
  | zero => exact (Rat.mul_zero c).symm
  | succ j ih => show dotN (scl c l) v j + (scl c l).getD j 0 * v.getD j 0 = c * (dotN l v j + l.getD j 0 * v.getD j 0); rw [ih, scl_getD]; grind
theorem left_scl (c : Rat) (M : List (List Rat)) (b v : List Rat) : leftQ (sclM c M) (scl c b) v = scl c (leftQ M b v) := by
  rw [leftQ, leftQ, sclM_length, lst, lst]
  show _ = List.map _ (List.map _ _)
  rw [List.map_map]
  refine List.map_congr_left fun i hi => ?_
  have hi : i < M.length := List.mem_range.1 hi
  show leftG (sclM c M) (scl c b) v i = c * leftG M b v i
  rw [leftG, leftG, appM_getD (by rw [sclM_length]; exact hi), appM_getD hi, sclM_getD c hi, dot_scl, scl_getD]
  grind
theorem eta_scl {c : Rat} (hc : c ≠ 0) (M : List (List Rat)) (b : List Rat) (xs : List Nat) : etaA (sclM c M) (scl c b) xs = etaA M b xs := by
  have ha := abs_pos hc
  unfold etaA
  rw [sclM_length, left_scl, size_scl hc]
  have hw : wholeQ (sclM c M) (scl c b) (vals xs) = c.abs * wholeQ M b (vals xs) := by
    rw [wholeQ, wholeQ, norm_scl hc, size_scl hc]; grind
  rw [hw]
  by_cases h1 : xs.length ≠ M.length
  · rw [if_pos h1, if_pos h1]
  · rw [if_neg h1, if_neg h1]
    cases xs.all fineF with
    | false => rfl
    | true =>
      simp only []
      by_cases h : sizeQ (leftQ M b (vals xs)) = 0
      · rw [if_pos (by rw [h, Rat.mul_zero]), if_pos h]
      · have hn : c.abs * sizeQ (leftQ M b (vals xs)) ≠ 0 := fun e => by
          rcases Rat.mul_eq_zero.1 e with e | e
          · grind
          · exact h e
        have hw0 : wholeQ M b (vals xs) ≠ 0 := fun e => h (whole_left e)
        rw [if_neg hn, if_neg h]
        have : c.abs * sizeQ (leftQ M b (vals xs)) / (c.abs * wholeQ M b (vals xs)) = sizeQ (leftQ M b (vals xs)) / wholeQ M b (vals xs) := by
          have h3 : c.abs * wholeQ M b (vals xs) ≠ 0 := fun e => by
            rcases Rat.mul_eq_zero.1 e with e | e
            · grind
            · exact hw0 e
          have h4 := Rat.div_mul_cancel (a := sizeQ (leftQ M b (vals xs))) hw0
          obtain ⟨r, hr⟩ : ∃ r, r = sizeQ (leftQ M b (vals xs)) / wholeQ M b (vals xs) := ⟨_, rfl⟩
          rw [← hr] at h4 ⊢
          rw [← h4, show c.abs * (r * wholeQ M b (vals xs)) = r * (c.abs * wholeQ M b (vals xs)) by grind, Rat.mul_div_cancel h3]
        rw [this]
/-- It is not below nought. -/
theorem eta_nn {M : List (List Rat)} {b : List Rat} {xs : List Nat} (h1 : xs.length = M.length) (h2 : xs.all fineF = true) : ∃ q, etaA M b xs = etaR (ratP q) 0 ∧ 0 ≤ q := by
  unfold etaA
  rw [if_neg (by omega), h2]
  simp only []
  by_cases h : sizeQ (leftQ M b (vals xs)) = 0
  · rw [if_pos h]; exact ⟨0, rfl, Rat.le_refl⟩
  · rw [if_neg h]
    refine ⟨_, rfl, ?_⟩
    have h3 : 0 ≤ wholeQ M b (vals xs) := Rat.add_nonneg (Rat.mul_nonneg (sizeQ_pos _) (sizeQ_pos _)) (sizeQ_pos _)
    have hw0 : wholeQ M b (vals xs) ≠ 0 := fun e => h (whole_left e)
    have h4 := Rat.div_mul_cancel (a := sizeQ (leftQ M b (vals xs))) hw0
    have h5 := sizeQ_pos (leftQ M b (vals xs))
    obtain ⟨r, hr⟩ : ∃ r, r = sizeQ (leftQ M b (vals xs)) / wholeQ M b (vals xs) := ⟨_, rfl⟩
    rw [← hr] at h4 ⊢
    by_cases h6 : 0 ≤ r
    · exact h6
    · have h7 := Rat.mul_nonneg (show 0 ≤ -r by grind) h3
      have h8 : sizeQ (leftQ M b (vals xs)) = 0 := by grind
      exact absurd h8 h
end Go.Proofs.YtacklcbgkigcaaaGreat
