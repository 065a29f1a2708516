/- Enclosures: sums, products, quotients have what they must have. -/
import Derived.Test.YtacklcbgkigcaaaGreatIm1
namespace Go.Proofs.YtacklcbgkigcaaaGreat
open Go
set_option linter.unusedVariables false
set_option linter.unusedSimpArgs false
set_option maxRecDepth 10000

/-! #### the least, the greatest of some floats -/
def bestF (o : Int) (f : Nat) : List Nat → Nat
  | [] => f
  | x :: l => bestF o (if (cmpF x f).2 = true ∧ (cmpF x f).1 = o then x else f) l
theorem cmpF_num {x y : Nat} (hx : Num x) (hy : Num y) : cmpF x y = (cmpI (pl x) (pl y), true) := by
  rw [cmpF, hx.nan, hy.nan, if_neg (by simp)]
theorem cmpI_le0 {a b : Int} (h : a ≤ b) : cmpI a b ≤ 0 := by unfold cmpI; split; omega; split <;> omega
theorem cmpI_m1 {a b : Int} : cmpI a b = -1 ↔ a < b := by unfold cmpI; split; simp [*]; split <;> omega
theorem cmpI_p1 {a b : Int} : cmpI a b = 1 ↔ b < a := by unfold cmpI; split; omega; split <;> simp [*]
theorem best_lo : ∀ {l : List Nat} {f : Nat}, Num f → (∀ x ∈ l, Num x) → Num (bestF (-1) f l) ∧ (bestF (-1) f l ∈ f :: l) ∧ ∀ x ∈ f :: l, pl (bestF (-1) f l) ≤ pl x := by
  intro l
  induction l with
  | nil => intro f hf _; exact ⟨hf, by simp [bestF], fun x hx => by simp at hx; subst hx; exact Int.le_refl _⟩
  | cons y l ih =>
    intro f hf hl
    have hy : Num y := hl y List.mem_cons_self
    rw [bestF, cmpF_num hy hf]
    by_cases h : cmpI (pl y) (pl f) = -1
    · rw [if_pos ⟨rfl, h⟩]
      obtain ⟨i1, i2, i3⟩ := ih hy fun x hx => hl x (List.mem_cons_of_mem _ hx)
      refine ⟨i1, List.mem_cons_of_mem _ i2, fun x hx => ?_⟩
      rcases List.mem_cons.1 hx with e | e
      · subst e
        have := i3 y List.mem_cons_self
        have := cmpI_m1.1 h
        omega
      · exact i3 x e
    · rw [if_neg (fun e => h e.2)]
      obtain ⟨i1, i2, i3⟩ := ih hf fun x hx => hl x (List.mem_cons_of_mem _ hx)
      refine ⟨i1, ?_, fun x hx => ?_⟩
      · rcases List.mem_cons.1 i2 with e | e
        · rw [e]; exact List.mem_cons_self
        · exact List.mem_cons_of_mem _ (List.mem_cons_of_mem _ e)
      · rcases List.mem_cons.1 hx with e | e
        · subst e; exact i3 _ List.mem_cons_self
        · rcases List.mem_cons.1 e with e | e
          · subst e
            have := i3 f List.mem_cons_self
            have := mt cmpI_m1.2 h
            omega
          · exact i3 x (List.mem_cons_of_mem _ e)
theorem best_hi : ∀ {l : List Nat} {f : Nat}, Num f → (∀ x ∈ l, Num x) → Num (bestF 1 f l) ∧ (bestF 1 f l ∈ f :: l) ∧ ∀ x ∈ f :: l, pl x ≤ pl (bestF 1 f l) := by
  intro l
  induction l with
  | nil => intro f hf _; exact ⟨hf, by simp [bestF], fun x hx => by simp at hx; subst hx; exact Int.le_refl _⟩
  | cons y l ih =>
    intro f hf hl
    have hy : Num y := hl y List.mem_cons_self
    rw [bestF, cmpF_num hy hf]
    by_cases h : cmpI (pl y) (pl f) = 1
    · rw [if_pos ⟨rfl, h⟩]
      obtain ⟨i1, i2, i3⟩ := ih hy fun x hx => hl x (List.mem_cons_of_mem _ hx)
      refine ⟨i1, List.mem_cons_of_mem _ i2, fun x hx => ?_⟩
      rcases List.mem_cons.1 hx with e | e
      · subst e
        have := i3 y List.mem_cons_self
        have := cmpI_p1.1 h
        omega
      · exact i3 x e
    · rw [if_neg (fun e => h e.2)]
      obtain ⟨i1, i2, i3⟩ := ih hf fun x hx => hl x (List.mem_cons_of_mem _ hx)
      refine ⟨i1, ?_, fun x hx => ?_⟩
      · rcases List.mem_cons.1 i2 with e | e
        · rw [e]; exact List.mem_cons_self
        · exact List.mem_cons_of_mem _ (List.mem_cons_of_mem _ e)
      · rcases List.mem_cons.1 hx with e | e
        · subst e; exact i3 _ List.mem_cons_self
        · rcases List.mem_cons.1 e with e | e
          · subst e
            have := i3 f List.mem_cons_self
            have := mt cmpI_p1.2 h
            omega
          · exact i3 x (List.mem_cons_of_mem _ e)

/-! #### enclosures -/
abbrev IvT := Nat × Nat
abbrev FOp := Nat → Nat → Int → Nat × Int
noncomputable def endsF (op : FOp) (i j : IvT) : IvT :=
  (bestF (-1) (op i.1 j.1 2).1 [(op i.1 j.2 2).1, (op i.2 j.1 2).1, (op i.2 j.2 2).1], bestF 1 (op i.1 j.1 3).1 [(op i.1 j.2 3).1, (op i.2 j.1 3).1, (op i.2 j.2 3).1])
noncomputable def mulI (i j : IvT) : IvT := endsF mulF i j
noncomputable def divI (i j : IvT) : IvT := endsF divF i j
noncomputable def addI (i j : IvT) : IvT := ((addF i.1 j.1 2).1, (addF i.2 j.2 3).1)
def negI (i : IvT) : IvT := (flip i.2, flip i.1)
noncomputable def subI (i j : IvT) : IvT := addI i (negI j)
noncomputable def ofI (q : Rat) : IvT := ((ofF q 2).1, (ofF q 3).1)
def rightI (i : IvT) : Bool := (cmpF i.1 i.2).2 && decide ((cmpF i.1 i.2).1 ≤ 0)
def hasI (i : IvT) (a : Rat) : Bool := decide (LeQ i.1 a) && decide (GeQ i.2 a)
/-- Both ends are floats that tell numbers. -/
structure FinI (i : IvT) (A B : Rat) : Prop where
  lo : FinF i.1 A
  hi : FinF i.2 B
  le : A ≤ B
/-- A number lies in it. -/
structure InI (i : IvT) (a : Rat) : Prop where
  n1 : Num i.1
  n2 : Num i.2
  le : LeQ i.1 a
  ge : GeQ i.2 a
theorem InI.right {i : IvT} {a : Rat} (h : InI i a) : rightI i = true := by
  rw [rightI, cmpF_num h.n1 h.n2, Bool.true_and]
  exact decide_eq_true (cmpI_le0 (pl_le_of h.n1 h.n2 h.le h.ge))
theorem InI.has {i : IvT} {a : Rat} (h : InI i a) : hasI i a = true := by
  rw [hasI, decide_eq_true h.le, decide_eq_true h.ge]; rfl
theorem FinI.inI {i : IvT} {A B a : Rat} (h : FinI i A B) (h1 : A ≤ a) (h2 : a ≤ B) : InI i a := ⟨h.lo.num, h.hi.num, h.lo.leQ.2 h1, h.hi.geQ.2 h2⟩
theorem FinI.hasI {i : IvT} {A B a : Rat} (h : FinI i A B) : hasI i a = (decide (A ≤ a) && decide (a ≤ B)) := by
  have e1 : decide (LeQ i.1 a) = decide (A ≤ a) := decide_eq_decide.2 h.lo.leQ
  have e2 : decide (GeQ i.2 a) = decide (a ≤ B) := decide_eq_decide.2 h.hi.geQ
  rw [Go.Proofs.YtacklcbgkigcaaaGreat.hasI, e1, e2]
theorem FinI.right {i : IvT} {A B : Rat} (h : FinI i A B) : rightI i = true := (h.inI Rat.le_refl h.le).right
theorem FinI.neg {i : IvT} {A B : Rat} (h : FinI i A B) : FinI (negI i) (-B) (-A) := ⟨h.hi.flip, h.lo.flip, by have := h.le; grind⟩
/-- The least of some numbers, rounded down. -/
structure LoOf (ps : List Rat) (z : Nat) : Prop where
  some : ∃ p ∈ ps, Rd p z
  all : ∀ p ∈ ps, ∀ d, Rd p d → pl z ≤ pl d
structure HiOf (ps : List Rat) (z : Nat) : Prop where
  some : ∃ p ∈ ps, Ru p z
  all : ∀ p ∈ ps, ∀ d, Ru p d → pl d ≤ pl z
theorem LoOf.num {ps : List Rat} {z : Nat} (h : LoOf ps z) : Num z := let ⟨_, _, r⟩ := h.some; r.num
theorem HiOf.num {ps : List Rat} {z : Nat} (h : HiOf ps z) : Num z := let ⟨_, _, r⟩ := h.some; r.num
theorem LoOf.le {ps : List Rat} {z : Nat} {a : Rat} (h : LoOf ps z) (hp : ∃ p ∈ ps, p ≤ a) : LeQ z a := by
  obtain ⟨p, hp, ha⟩ := hp
  have r := rd_of p
  exact (r.le.mono r.num h.num (h.all p hp _ r)).le ha
theorem HiOf.ge {ps : List Rat} {z : Nat} {a : Rat} (h : HiOf ps z) (hp : ∃ p ∈ ps, a ≤ p) : GeQ z a := by
  obtain ⟨p, hp, ha⟩ := hp
  have r := ru_of p
  exact (r.ge.mono r.num h.num (h.all p hp _ r)).ge ha
theorem LoOf.mono {ps qs : List Rat} {z w : Nat} (h : LoOf ps z) (h' : LoOf qs w) (hp : ∀ q ∈ qs, ∃ p ∈ ps, p ≤ q) : pl z ≤ pl w := by
  obtain ⟨q, hq, r⟩ := h'.some
  obtain ⟨p, hp, hpq⟩ := hp q hq
  have := h.all p hp _ (rd_of p)
  have := (rd_of p).mono r hpq
  omega
theorem HiOf.mono {ps qs : List Rat} {z w : Nat} (h : HiOf ps z) (h' : HiOf qs w) (hp : ∀ p ∈ ps, ∃ q ∈ qs, p ≤ q) : pl z ≤ pl w := by
  obtain ⟨p, hp1, r⟩ := h.some
  obtain ⟨q, hq, hpq⟩ := hp p hp1
  have := h'.all q hq _ (ru_of q)
  have := r.mono (ru_of q) hpq
  omega
theorem LoOf.best {p0 p1 p2 p3 : Rat} {d0 d1 d2 d3 : Nat} (h0 : Rd p0 d0) (h1 : Rd p1 d1) (h2 : Rd p2 d2) (h3 : Rd p3 d3) : LoOf [p0, p1, p2, p3] (bestF (-1) d0 [d1, d2, d3]) := by
  obtain ⟨b1, b2, b3⟩ := best_lo (f := d0) (l := [d1, d2, d3]) h0.num (fun x hx => by simp at hx; rcases hx with e | e | e <;> subst e; exact h1.num; exact h2.num; exact h3.num)
  generalize bestF (-1) d0 [d1, d2, d3] = z at *
  refine ⟨?_, fun p hp d hd => ?_⟩
  · simp only [List.mem_cons, List.not_mem_nil, or_false] at b2
    rcases b2 with e | e | e | e <;> subst e
    · exact ⟨p0, by simp, h0⟩
    · exact ⟨p1, by simp, h1⟩
    · exact ⟨p2, by simp, h2⟩
    · exact ⟨p3, by simp, h3⟩
  · simp only [List.mem_cons, List.not_mem_nil, or_false] at hp
    rcases hp with e | e | e | e <;> subst e
    · exact Int.le_trans (b3 d0 (by simp)) (h0.mono hd Rat.le_refl)
    · exact Int.le_trans (b3 d1 (by simp)) (h1.mono hd Rat.le_refl)
    · exact Int.le_trans (b3 d2 (by simp)) (h2.mono hd Rat.le_refl)
    · exact Int.le_trans (b3 d3 (by simp)) (h3.mono hd Rat.le_refl)
theorem HiOf.best {p0 p1 p2 p3 : Rat} {d0 d1 d2 d3 : Nat} (h0 : Ru p0 d0) (h1 : Ru p1 d1) (h2 : Ru p2 d2) (h3 : Ru p3 d3) : HiOf [p0, p1, p2, p3] (bestF 1 d0 [d1, d2, d3]) := by
  obtain ⟨b1, b2, b3⟩ := best_hi (f := d0) (l := [d1, d2, d3]) h0.num (fun x hx => by simp at hx; rcases hx with e | e | e <;> subst e; exact h1.num; exact h2.num; exact h3.num)
  generalize bestF 1 d0 [d1, d2, d3] = z at *
  refine ⟨?_, fun p hp d hd => ?_⟩
  · simp only [List.mem_cons, List.not_mem_nil, or_false] at b2
    rcases b2 with e | e | e | e <;> subst e
    · exact ⟨p0, by simp, h0⟩
    · exact ⟨p1, by simp, h1⟩
    · exact ⟨p2, by simp, h2⟩
    · exact ⟨p3, by simp, h3⟩
  · simp only [List.mem_cons, List.not_mem_nil, or_false] at hp
    rcases hp with e | e | e | e <;> subst e
    · exact Int.le_trans (hd.mono h0 Rat.le_refl) (b3 d0 (by simp))
    · exact Int.le_trans (hd.mono h1 Rat.le_refl) (b3 d1 (by simp))
    · exact Int.le_trans (hd.mono h2 Rat.le_refl) (b3 d2 (by simp))
    · exact Int.le_trans (hd.mono h3 Rat.le_refl) (b3 d3 (by simp))
theorem Rd.lo {p : Rat} {z : Nat} (h : Rd p z) : LoOf [p] z := ⟨⟨p, by simp, h⟩, fun q hq d hd => by simp at hq; subst hq; exact h.mono hd Rat.le_refl⟩
theorem Ru.hi {p : Rat} {z : Nat} (h : Ru p z) : HiOf [p] z := ⟨⟨p, by simp, h⟩, fun q hq d hd => by simp at hq; subst hq; exact hd.mono h Rat.le_refl⟩
theorem inI_of {ps qs : List Rat} {i : IvT} {a : Rat} (h : LoOf ps i.1) (h' : HiOf qs i.2) (hp : ∃ p ∈ ps, p ≤ a) (hq : ∃ q ∈ qs, a ≤ q) : InI i a := ⟨h.num, h'.num, h.le hp, h'.ge hq⟩
section
variable {x y : IvT} {A B C D : Rat}
theorem add_lo (hx : FinI x A B) (hy : FinI y C D) : LoOf [A + C] (addI x y).1 := (rd_add hx.lo hy.lo).lo
theorem add_hi (hx : FinI x A B) (hy : FinI y C D) : HiOf [B + D] (addI x y).2 := (ru_add hx.hi hy.hi).hi
theorem mul_lo (hx : FinI x A B) (hy : FinI y C D) : LoOf [A * C, A * D, B * C, B * D] (mulI x y).1 := .best (rd_mul hx.lo hy.lo) (rd_mul hx.lo hy.hi) (rd_mul hx.hi hy.lo) (rd_mul hx.hi hy.hi)
theorem mul_hi (hx : FinI x A B) (hy : FinI y C D) : HiOf [A * C, A * D, B * C, B * D] (mulI x y).2 := .best (ru_mul hx.lo hy.lo) (ru_mul hx.lo hy.hi) (ru_mul hx.hi hy.lo) (ru_mul hx.hi hy.hi)
theorem div_lo (hx : FinI x A B) (hy : FinI y C D) (hC : C ≠ 0) (hD : D ≠ 0) : LoOf [A / C, A / D, B / C, B / D] (divI x y).1 := .best (rd_div hx.lo hy.lo hC) (rd_div hx.lo hy.hi hD) (rd_div hx.hi hy.lo hC) (rd_div hx.hi hy.hi hD)
theorem div_hi (hx : FinI x A B) (hy : FinI y C D) (hC : C ≠ 0) (hD : D ≠ 0) : HiOf [A / C, A / D, B / C, B / D] (divI x y).2 := .best (ru_div hx.lo hy.lo hC) (ru_div hx.lo hy.hi hD) (ru_div hx.hi hy.lo hC) (ru_div hx.hi hy.hi hD)
end
theorem lin_lo {e b c d : Rat} (h1 : c ≤ b) (h2 : b ≤ d) : e * c ≤ e * b ∨ e * d ≤ e * b := by
  by_cases h : 0 ≤ e
  · left; have := Rat.mul_nonneg h (show 0 ≤ b - c by grind); grind
  · right; have := Rat.mul_nonneg (show 0 ≤ -e by grind) (show 0 ≤ d - b by grind); grind
theorem lin_hi {e b c d : Rat} (h1 : c ≤ b) (h2 : b ≤ d) : e * b ≤ e * c ∨ e * b ≤ e * d := by
  by_cases h : 0 ≤ e
  · right; have := Rat.mul_nonneg h (show 0 ≤ d - b by grind); grind
  · left; have := Rat.mul_nonneg (show 0 ≤ -e by grind) (show 0 ≤ b - c by grind); grind
theorem box_lo {a b A B C D : Rat} (h1 : A ≤ a) (h2 : a ≤ B) (h3 : C ≤ b) (h4 : b ≤ D) : ∃ p ∈ [A * C, A * D, B * C, B * D], p ≤ a * b := by
  rcases lin_lo (e := b) h1 h2 with h | h
  · rcases lin_lo (e := A) h3 h4 with g | g
    · exact ⟨A * C, by simp, by grind⟩
    · exact ⟨A * D, by simp, by grind⟩
  · rcases lin_lo (e := B) h3 h4 with g | g
    · exact ⟨B * C, by simp, by grind⟩
    · exact ⟨B * D, by simp, by grind⟩
theorem box_hi {a b A B C D : Rat} (h1 : A ≤ a) (h2 : a ≤ B) (h3 : C ≤ b) (h4 : b ≤ D) : ∃ p ∈ [A * C, A * D, B * C, B * D], a * b ≤ p := by
  rcases lin_hi (e := b) h1 h2 with h | h
  · rcases lin_hi (e := A) h3 h4 with g | g
    · exact ⟨A * C, by simp, by grind⟩
    · exact ⟨A * D, by simp, by grind⟩
  · rcases lin_hi (e := B) h3 h4 with g | g
    · exact ⟨B * C, by simp, by grind⟩
    · exact ⟨B * D, by simp, by grind⟩
theorem neg_in {x : IvT} {A B a : Rat} (hx : FinI x A B) (h1 : A ≤ a) (h2 : a ≤ B) : InI (negI x) (-a) := hx.neg.inI (by grind) (by grind)
section
variable {x y : IvT} {A B C D a b : Rat} (hx : FinI x A B) (hy : FinI y C D) (h1 : A ≤ a) (h2 : a ≤ B) (h3 : C ≤ b) (h4 : b ≤ D)
include hx hy h1 h2 h3 h4
theorem add_in : InI (addI x y) (a + b) := inI_of (add_lo hx hy) (add_hi hx hy) ⟨A + C, by simp, by grind⟩ ⟨B + D, by simp, by grind⟩
theorem mul_in : InI (mulI x y) (a * b) := inI_of (mul_lo hx hy) (mul_hi hx hy) (box_lo h1 h2 h3 h4) (box_hi h1 h2 h3 h4)
end
theorem sub_in {x y : IvT} {A B C D a b : Rat} (hx : FinI x A B) (hy : FinI y C D) (h1 : A ≤ a) (h2 : a ≤ B) (h3 : C ≤ b) (h4 : b ≤ D) : InI (subI x y) (a - b) := by
  rw [Rat.sub_eq_add_neg]
  exact add_in hx hy.neg h1 h2 (by grind) (by grind)
theorem inv_anti {b d : Rat} (h1 : 0 < b) (h2 : b ≤ d) : 1 / d ≤ 1 / b := by
  have e1 : 1 / b * b = 1 := Rat.div_mul_cancel (by grind)
  have e2 : 1 / d * d = 1 := Rat.div_mul_cancel (by grind)
  have p1 := one_div_posQ h1
  have p2' := one_div_posQ (show 0 < d by grind)
  obtain ⟨u, hu⟩ : ∃ u, u = 1 / b := ⟨_, rfl⟩
  obtain ⟨v, hv⟩ : ∃ v, v = 1 / d := ⟨_, rfl⟩
  rw [← hu] at e1 p1 ⊢
  rw [← hv] at e2 p2' ⊢
  have h3 := Rat.mul_nonneg (Rat.mul_nonneg (show 0 ≤ u by grind) (show 0 ≤ v by grind)) (show 0 ≤ d - b by grind)
  have e3 : u * v * (d - b) = u * (v * d) - v * (u * b) := by grind
  rw [e3, e1, e2] at h3
  grind
theorem div_as_mul (a b : Rat) : a / b = a * (1 / b) := by rw [Rat.div_def, Rat.div_def, Rat.one_mul]
theorem inv_between {b c d : Rat} (h1 : c ≤ b) (h2 : b ≤ d) (h0 : 0 < c ∨ d < 0) : 1 / d ≤ 1 / b ∧ 1 / b ≤ 1 / c := by
  rcases h0 with h | h
  · exact ⟨inv_anti (by grind) h2, inv_anti h h1⟩
  · have n : ∀ z : Rat, z < 0 → 1 / (-z) = -(1 / z) := fun z hz => by
      have e1 : 1 / z * z = 1 := Rat.div_mul_cancel (by grind)
      have e2 : 1 / (-z) * (-z) = 1 := Rat.div_mul_cancel (by grind)
      obtain ⟨u, hu⟩ : ∃ u, u = 1 / z := ⟨_, rfl⟩
      obtain ⟨w, hw⟩ : ∃ w, w = 1 / (-z) := ⟨_, rfl⟩
      rw [← hu] at e1 ⊢
      rw [← hw] at e2 ⊢
      have e3 : w * (u * z) = -(w * (-z)) * u := by grind
      rw [e1, e2] at e3
      grind
    have g1 := inv_anti (b := -d) (d := -b) (by grind) (by grind)
    have g2 := inv_anti (b := -b) (d := -c) (by grind) (by grind)
    rw [n _ (by grind), n _ (by grind)] at g1 g2
    exact ⟨by grind, by grind⟩
theorem quo_in {x y : IvT} {A B C D a b : Rat} (hx : FinI x A B) (hy : FinI y C D) (h1 : A ≤ a) (h2 : a ≤ B) (h3 : C ≤ b) (h4 : b ≤ D) (h0 : 0 < C ∨ D < 0) : InI (divI x y) (a / b) := by
  obtain ⟨g1, g2⟩ := inv_between h3 h4 h0
  have hC : C ≠ 0 := by rcases h0 with h | h <;> grind
  have hD : D ≠ 0 := by rcases h0 with h | h <;> grind
  have lo := box_lo h1 h2 g1 g2
  have hi := box_hi h1 h2 g1 g2
  rw [← div_as_mul, ← div_as_mul, ← div_as_mul, ← div_as_mul, ← div_as_mul] at lo hi
  refine inI_of (div_lo hx hy hC hD) (div_hi hx hy hC hD) ?_ ?_
  · obtain ⟨p, hp, h⟩ := lo
    exact ⟨p, by simp at hp ⊢; rcases hp with e | e | e | e <;> simp [e], h⟩
  · obtain ⟨p, hp, h⟩ := hi
    exact ⟨p, by simp at hp ⊢; rcases hp with e | e | e | e <;> simp [e], h⟩
abbrev ivP (i : IvT) : PV := .agg [.int .u64 (i.1 : Int), .int .u64 (i.2 : Int)]
abbrev ivsP (l : List IvT) : List PV := l.map ivP
structure IvOk (i : IvT) : Prop where
  lo : i.1 < 18446744073709551616
  hi : i.2 < 18446744073709551616
def IvOks (l : List IvT) : Prop := ∀ i ∈ l, IvOk i
theorem pers_iv (i : IvT) : Pers (ivP i) := .agg _ fun c hc => by
  simp at hc
  rcases hc with rfl | rfl <;> exact .int _ _
theorem NumI.ok {i : IvT} (h1 : Num i.1) (h2 : Num i.2) : IvOk i := ⟨h1.lt, h2.lt⟩
end Go.Proofs.YtacklcbgkigcaaaGreat
