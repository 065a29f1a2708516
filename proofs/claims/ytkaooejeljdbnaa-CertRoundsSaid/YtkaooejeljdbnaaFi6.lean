/- FloatKnown: answers and flags that are known, reckoned; the walk. -/
import Derived.Test.YtkaooejeljdbnaaLf1
namespace Go.Proofs.Ytkaooejeljdbnaa
open Go
set_option linter.unusedVariables false
set_option linter.unusedSimpArgs false
set_option maxRecDepth 100000

/-! #### answers that can be reckoned, once the whole below is told -/
def rSc (c : Nat) (q : Rat) (mode : Int) : Option (Nat × Int) :=
  if fval c ≤ q.abs ∧ q.abs < fval (c + 1) then some (out (decide (q.num < 0)) c (decide (fval c ≠ q.abs)) (cmpR (2 * q.abs) (fval c + fval (c + 1))) mode) else none
theorem rSc_ok {c : Nat} {q : Rat} {mode : Int} {r : Nat × Int} (h : rSc c q mode = some r) : rS q mode = r := by
  unfold rSc at h
  split at h
  · rename_i h1; rw [rS, rndQ, cd_eq h1]; exact Option.some.inj h
  · cases h
def sumFc (c : Nat) (p : Rat) (np : Bool) (q : Rat) (nq : Bool) (mode : Int) : Option (Nat × Int) :=
  if p + q = 0 then (if p = 0 ∧ np = nq then some (sg np 0, 0) else some (sg (decide (mode = 2)) 0, 0)) else rSc c (p + q) mode
theorem sumFc_ok {c : Nat} {p q : Rat} {np nq : Bool} {mode : Int} {r : Nat × Int} (h : sumFc c p np q nq mode = some r) : sumF p np q nq mode = r := by
  unfold sumFc at h; unfold sumF
  split at h
  · rename_i h1
    rw [if_pos h1]
    split at h
    · rename_i h2; rw [if_pos h2]; exact Option.some.inj h
    · rename_i h2; rw [if_neg h2]; exact Option.some.inj h
  · rename_i h1; rw [if_neg h1]; exact rSc_ok h
def addFc (c x y : Nat) (mode : Int) : Option (Nat × Int) :=
  if isNan x || isNan y then some (9221120237041090560, 0) else if isInf x && (isInf y && decide (x ≠ y)) then some (9221120237041090560, 16) else if isInf x then some (x, 0) else if isInf y then some (y, 0) else sumFc c (fvq x) (ngt x) (fvq y) (ngt y) mode
theorem addFc_ok {c x y : Nat} {mode : Int} {r : Nat × Int} (h : addFc c x y mode = some r) : addF x y mode = r := by
  unfold addFc at h; unfold addF
  split at h
  · rename_i h1; rw [if_pos h1]; exact Option.some.inj h
  rename_i h1
  rw [if_neg h1]
  split at h
  · rename_i h1; rw [if_pos h1]; exact Option.some.inj h
  rename_i h1
  rw [if_neg h1]
  split at h
  · rename_i h1; rw [if_pos h1]; exact Option.some.inj h
  rename_i h1
  rw [if_neg h1]
  split at h
  · rename_i h1; rw [if_pos h1]; exact Option.some.inj h
  rename_i h1
  rw [if_neg h1]
  exact sumFc_ok h
def mulFc (c x y : Nat) (mode : Int) : Option (Nat × Int) :=
  if isNan x || isNan y then some (9221120237041090560, 0) else if (isInf x || isInf y) && (isZ x || isZ y) then some (9221120237041090560, 16) else if isInf x || isInf y then some (sg (ngt x != ngt y) 9218868437227405312, 0)
  else if isZ x || isZ y then some (sg (ngt x != ngt y) 0, 0) else rSc c (fvq x * fvq y) mode
theorem mulFc_ok {c x y : Nat} {mode : Int} {r : Nat × Int} (h : mulFc c x y mode = some r) : mulF x y mode = r := by
  unfold mulFc at h; unfold mulF
  split at h
  · rename_i h1; rw [if_pos h1]; exact Option.some.inj h
  rename_i h1
  rw [if_neg h1]
  split at h
  · rename_i h1; rw [if_pos h1]; exact Option.some.inj h
  rename_i h1
  rw [if_neg h1]
  split at h
  · rename_i h1; rw [if_pos h1]; exact Option.some.inj h
  rename_i h1
  rw [if_neg h1]
  split at h
  · rename_i h1; rw [if_pos h1]; exact Option.some.inj h
  rename_i h1
  rw [if_neg h1]
  exact rSc_ok h
def divFc (c x y : Nat) (mode : Int) : Option (Nat × Int) :=
  if isNan x || isNan y then some (9221120237041090560, 0) else if (isInf x && isInf y) || (isZ x && isZ y) then some (9221120237041090560, 16) else if isInf x then some (sg (ngt x != ngt y) 9218868437227405312, 0)
  else if isZ y then some (sg (ngt x != ngt y) 9218868437227405312, 8) else if isInf y || isZ x then some (sg (ngt x != ngt y) 0, 0) else rSc c (fvq x / fvq y) mode
theorem divFc_ok {c x y : Nat} {mode : Int} {r : Nat × Int} (h : divFc c x y mode = some r) : divF x y mode = r := by
  unfold divFc at h; unfold divF
  split at h
  · rename_i h1; rw [if_pos h1]; exact Option.some.inj h
  rename_i h1
  rw [if_neg h1]
  split at h
  · rename_i h1; rw [if_pos h1]; exact Option.some.inj h
  rename_i h1
  rw [if_neg h1]
  split at h
  · rename_i h1; rw [if_pos h1]; exact Option.some.inj h
  rename_i h1
  rw [if_neg h1]
  split at h
  · rename_i h1; rw [if_pos h1]; exact Option.some.inj h
  rename_i h1
  rw [if_neg h1]
  split at h
  · rename_i h1; rw [if_pos h1]; exact Option.some.inj h
  rename_i h1
  rw [if_neg h1]
  exact rSc_ok h
def sqrtFc (c f : Nat) (mode : Int) : Option (Nat × Int) :=
  if isNan f then some (9221120237041090560, 0) else if isZ f then some (f, 0) else if ngt f then some (9221120237041090560, 16) else if isInf f then some (f, 0) else
  if fval c * fval c ≤ fvq f ∧ fvq f < fval (c + 1) * fval (c + 1) then some (out false c (decide (fval c * fval c ≠ fvq f)) (cmpR (4 * fvq f) ((fval c + fval (c + 1)) * (fval c + fval (c + 1)))) mode) else none
theorem sqrtFc_ok {c f : Nat} {mode : Int} {r : Nat × Int} (h : sqrtFc c f mode = some r) : sqrtF f mode = r := by
  unfold sqrtFc at h; unfold sqrtF
  split at h
  · rename_i h1; rw [if_pos h1]; exact Option.some.inj h
  rename_i h1
  rw [if_neg h1]
  split at h
  · rename_i h1; rw [if_pos h1]; exact Option.some.inj h
  rename_i h1
  rw [if_neg h1]
  split at h
  · rename_i h1; rw [if_pos h1]; exact Option.some.inj h
  rename_i h1
  rw [if_neg h1]
  split at h
  · rename_i h1; rw [if_pos h1]; exact Option.some.inj h
  rename_i h1
  rw [if_neg h1]
  split at h
  · rename_i h1
    rw [sqrtQ, cS_eq h1]; exact Option.some.inj h
  · cases h

/-! #### the table -/
structure KRow where
  op : Nat
  a : Nat
  b : Nat
  m : Nat
  r : Nat
  g : Nat
  c : Nat
def krow (l : Nat × Nat × Nat × Nat × Nat × Nat × Nat) : KRow := ⟨l.1, l.2.1, l.2.2.1, l.2.2.2.1, l.2.2.2.2.1, l.2.2.2.2.2.1, l.2.2.2.2.2.2⟩
def KRow.good (k : KRow) : Bool := decide (k.a < 18446744073709551616) && decide (k.b < 18446744073709551616) && decide (k.m < 5) && decide (k.g < 32) &&
  decide ((if k.op = 0 then addFc k.c k.a k.b k.m else if k.op = 1 then mulFc k.c k.a k.b k.m else if k.op = 2 then divFc k.c k.a k.b k.m else sqrtFc k.c k.a k.m) = some (k.r, (k.g : Int)))
def kRows : List KRow := ([(0, 4607182418800017408, 1, 0, 4607182418800017408, 1, 4607182418800017408),
  (0, 4607182418800017408, 1, 3, 4607182418800017409, 1, 4607182418800017408),
  (0, 4607182418800017408, 9223372036854775809, 1, 4607182418800017407, 1, 4607182418800017407),
  (0, 4607182418800017408, 13830554455654793216, 2, 9223372036854775808, 0, 0),
  (0, 4607182418800017408, 13830554455654793216, 0, 0, 0, 0),
  (0, 0, 9223372036854775808, 2, 9223372036854775808, 0, 0),
  (0, 9223372036854775808, 9223372036854775808, 3, 9223372036854775808, 0, 0),
  (0, 9218868437227405311, 9218868437227405311, 0, 9218868437227405312, 5, 9223372036854775807),
  (0, 9218868437227405311, 9218868437227405311, 1, 9218868437227405311, 5, 9223372036854775807),
  (0, 18442240474082181119, 18442240474082181119, 3, 18442240474082181119, 5, 9223372036854775807),
  (0, 9218868437227405312, 18442240474082181120, 0, 9221120237041090560, 16, 0),
  (0, 9218868437227405312, 9218868437227405312, 0, 9218868437227405312, 0, 0),
  (0, 9221120237041090565, 4607182418800017408, 0, 9221120237041090560, 0, 0),
  (1, 9218868437227405312, 0, 0, 9221120237041090560, 16, 0),
  (1, 1, 4602678819172646912, 0, 0, 3, 0),
  (1, 1, 4602678819172646912, 4, 1, 3, 0),
  (1, 9223372036854775809, 1, 2, 9223372036854775809, 3, 0),
  (1, 9223372036854775808, 4607182418800017408, 0, 9223372036854775808, 0, 0),
  (2, 4607182418800017408, 0, 0, 9218868437227405312, 8, 0),
  (2, 13830554455654793216, 0, 1, 18442240474082181120, 8, 0),
  (2, 0, 0, 0, 9221120237041090560, 16, 0),
  (2, 4607182418800017408, 9218868437227405312, 0, 0, 0, 0),
  (2, 9218868437227405312, 0, 0, 9218868437227405312, 0, 0),
  (2, 4607182418800017408, 4613937818241073152, 2, 4599676419421066581, 1, 4599676419421066581),
  (2, 4607182418800017408, 4613937818241073152, 3, 4599676419421066582, 1, 4599676419421066581),
  (3, 4616189618054758400, 0, 0, 4611686018427387904, 0, 4611686018427387904),
  (3, 9223372036854775808, 0, 0, 9223372036854775808, 0, 0),
  (3, 13830554455654793216, 0, 0, 9221120237041090560, 16, 0),
  (3, 4611686018427387904, 0, 1, 4609047870845172684, 1, 4609047870845172684),
  (3, 4611686018427387904, 0, 0, 4609047870845172685, 1, 4609047870845172684),
  (3, 9218868437227405312, 0, 0, 9218868437227405312, 0, 0)] : List (Nat × Nat × Nat × Nat × Nat × Nat × Nat)).map krow
theorem kRows_good : kRows.all KRow.good = true := by decide +kernel
abbrev rowP (k : KRow) : PV := .agg [.int .u64 (k.op : Int), .int .u64 (k.a : Int), .int .u64 (k.b : Int), .int .u64 (k.m : Int), .int .u64 (k.r : Int), .int .u64 (k.g : Int)]
noncomputable def KRow.res (k : KRow) : Nat × Int := if k.op = 0 then addF k.a k.b k.m else if k.op = 1 then mulF k.a k.b k.m else if k.op = 2 then divF k.a k.b k.m else sqrtF k.a k.m
theorem KRow.good_ok {k : KRow} (h : k.good = true) : k.a < 18446744073709551616 ∧ k.b < 18446744073709551616 ∧ k.m < 5 ∧ k.g < 32 ∧ k.res = (k.r, (k.g : Int)) := by
  unfold KRow.good at h
  simp only [Bool.and_eq_true, decide_eq_true_eq] at h
  obtain ⟨⟨⟨⟨h1, h2⟩, h3⟩, h4⟩, h5⟩ := h
  refine ⟨h1, h2, h3, h4, ?_⟩
  unfold KRow.res
  split at h5
  · rename_i h; rw [if_pos h]; exact addFc_ok h5
  rename_i n0; rw [if_neg n0]
  split at h5
  · rename_i h; rw [if_pos h]; exact mulFc_ok h5
  rename_i n1; rw [if_neg n1]
  split at h5
  · rename_i h; rw [if_pos h]; exact divFc_ok h5
  rename_i n2; rw [if_neg n2]
  exact sqrtFc_ok h5
theorem kRows_get {j : Nat} (hj : j < 31) : ∃ k, kRows[j]? = some k ∧ k.good = true := by
  have hl : j < kRows.length := hj
  exact ⟨kRows[j], List.getElem?_eq_getElem hl, List.all_eq_true.1 kRows_good _ (List.getElem_mem hl)⟩

end Go.Proofs.Ytkaooejeljdbnaa
