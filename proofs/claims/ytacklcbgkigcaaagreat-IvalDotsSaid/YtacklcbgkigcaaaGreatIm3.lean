/- Enclosures of raw ones, numbers in them, sums of products. -/
import Derived.Test.YtacklcbgkigcaaaGreatIm2
namespace Go.Proofs.YtacklcbgkigcaaaGreat
open Go
set_option linter.unusedVariables false
set_option linter.unusedSimpArgs false
set_option maxRecDepth 10000

def endF (f : Nat) (n : Int) : Nat := if isNan (mkF f n) || isInf (mkF f n) then f % 1152921504606846976 else mkF f n
theorem endF_fin {f : Nat} (hf : f < 18446744073709551616) (n : Int) : FinF (endF f n) (fvq (endF f n)) := by
  unfold endF
  split
  · have h : f % 1152921504606846976 < 1152921504606846976 := Nat.mod_lt _ (by decide)
    exact .self (by omega) (by unfold mag; omega)
  · rename_i h
    have h : ¬ (isNan (mkF f n) = true ∨ isInf (mkF f n) = true) := fun h2 => h (by simpa using h2)
    exact not_bad (mkF_lt hf n) h
def makeI (i : IvT) (n : Int) : IvT :=
  if pl (if n % 7 = 0 then endF i.1 n else endF i.2 (n.tdiv 12)) < pl (endF i.1 n) then (if n % 7 = 0 then endF i.1 n else endF i.2 (n.tdiv 12), endF i.1 n) else (endF i.1 n, if n % 7 = 0 then endF i.1 n else endF i.2 (n.tdiv 12))
theorem makeI_fin {i : IvT} (h1 : i.1 < 18446744073709551616) (h2 : i.2 < 18446744073709551616) (n : Int) : ∃ A B, FinI (makeI i n) A B := by
  have f1 := endF_fin h1 n
  have f2 : ∃ q, FinF (if n % 7 = 0 then endF i.1 n else endF i.2 (n.tdiv 12)) q := by
    split
    · exact ⟨_, f1⟩
    · exact ⟨_, endF_fin h2 _⟩
  obtain ⟨q, f2⟩ := f2
  unfold makeI
  generalize (if n % 7 = 0 then endF i.1 n else endF i.2 (n.tdiv 12)) = b at *
  split
  · rename_i h; exact ⟨_, _, f2, f1, (f2.pl_le f1).1 (by omega)⟩
  · rename_i h; exact ⟨_, _, f1, f2, (f1.pl_le f2).1 (by omega)⟩
/-- A part, in eighths. -/
def eighthQ (n : Int) : Rat := mkQ (decide (n % 9 < 0) != decide ((8 : Int) < 0)) (n % 9).natAbs (8 : Int).natAbs
theorem eighthQ_bd (n : Int) : 0 ≤ eighthQ n ∧ eighthQ n ≤ 1 := by
  unfold eighthQ
  have h0 : ¬ n % 9 < 0 := by omega
  obtain ⟨k, hk⟩ : ∃ k, k = (n % 9).natAbs := ⟨_, rfl⟩
  have hk8 : k ≤ 8 := by omega
  rw [decide_eq_false h0, mkQ_val, if_neg (by simp), ← hk]
  have e : ((k : Nat) : Rat) / (((8 : Int).natAbs : Nat) : Rat) * 8 = (k : Rat) := by
    show ((k : Nat) : Rat) / (8 : Rat) * 8 = _
    exact Rat.div_mul_cancel (by decide)
  have h1 : (0 : Rat) ≤ (k : Rat) := by exact_mod_cast Nat.zero_le k
  have h2 : (k : Rat) ≤ 8 := by exact_mod_cast hk8
  generalize ((k : Nat) : Rat) / (((8 : Int).natAbs : Nat) : Rat) = q at e
  constructor <;> grind
theorem eighthQ_bz (n : Int) : Bz (eighthQ n) 4 := by
  have h : (n % 9).natAbs < 16 := by omega
  exact Bz.mkQ (by decide) (bitLen_le (show _ < 2 ^ 4 by omega)) (bitLen_le (by decide))
def insideQ (A B : Rat) (n : Int) : Rat := A + eighthQ n * (B - A)
theorem insideQ_in {A B : Rat} (h : A ≤ B) (n : Int) : A ≤ insideQ A B n ∧ insideQ A B n ≤ B := by
  obtain ⟨h1, h2⟩ := eighthQ_bd n
  unfold insideQ
  have g1 := Rat.mul_nonneg h1 (show 0 ≤ B - A by grind)
  have g2 := Rat.mul_nonneg (show 0 ≤ 1 - eighthQ n by grind) (show 0 ≤ B - A by grind)
  constructor <;> grind
theorem insideQ_bz {A B : Rat} (hA : Bz A 1080) (hB : Bz B 1080) (n : Int) : Bz (insideQ A B n) 3300 := (hA.add ((eighthQ_bz n).mul (hB.sub hA))).mono (by omega)

/-! #### sums of products -/
def finI (i : IvT) : Bool := !isInf i.1 && !isInf i.2
theorem InI.fin {i : IvT} {a : Rat} (h : InI i a) (hf : finI i = true) : ∃ A B, FinI i A B ∧ A ≤ a ∧ a ≤ B := by
  rw [finI, Bool.and_eq_true, Bool.not_eq_true', Bool.not_eq_true'] at hf
  have f1 : FinF i.1 (fvq i.1) := ⟨h.n1.lt, h.n1.nan, hf.1, rfl⟩
  have f2 : FinF i.2 (fvq i.2) := ⟨h.n2.lt, h.n2.nan, hf.2, rfl⟩
  have l1 := f1.leQ.1 h.le
  have l2 := f2.geQ.1 h.ge
  exact ⟨_, _, ⟨f1, f2, Rat.le_trans l1 l2⟩, l1, l2⟩
theorem FinI.finI {i : IvT} {A B : Rat} (h : FinI i A B) : finI i = true := by rw [Go.Proofs.YtacklcbgkigcaaaGreat.finI, h.lo.inf, h.hi.inf]; rfl
/-- The sum of the first products, if all that is met is finite. -/
noncomputable def dotI (l m : Nat → IvT) : Nat → Option IvT
  | 0 => if finI (mulI (l 0) (m 0)) then some (mulI (l 0) (m 0)) else none
  | k + 1 => match dotI l m k with
    | none => none
    | some s => if finI (mulI (l (k + 1)) (m (k + 1))) then (if finI (addI s (mulI (l (k + 1)) (m (k + 1)))) then some (addI s (mulI (l (k + 1)) (m (k + 1)))) else none) else none
def sumP (a b : Nat → Rat) : Nat → Rat
  | 0 => 0
  | k + 1 => sumP a b k + a k * b k
theorem dotI_in {l m : Nat → IvT} {A B C D a b : Nat → Rat} {n : Nat} (hl : ∀ k, k ≤ n → FinI (l k) (A k) (B k)) (hm : ∀ k, k ≤ n → FinI (m k) (C k) (D k)) (ha : ∀ k, k ≤ n → A k ≤ a k ∧ a k ≤ B k) (hb : ∀ k, k ≤ n → C k ≤ b k ∧ b k ≤ D k) :
    ∀ k, k ≤ n → ∀ s, dotI l m k = some s → ∃ L H, FinI s L H ∧ L ≤ sumP a b (k + 1) ∧ sumP a b (k + 1) ≤ H := by
  intro k
  induction k with
  | zero =>
    intro hk s hs
    rw [dotI] at hs
    split at hs
    · rename_i hf
      cases hs
      have := (mul_in (hl 0 hk) (hm 0 hk) (ha 0 hk).1 (ha 0 hk).2 (hb 0 hk).1 (hb 0 hk).2).fin hf
      rw [sumP, sumP, Rat.zero_add]; exact this
    · cases hs
  | succ k ih =>
    intro hk s hs
    rw [dotI] at hs
    split at hs
    · cases hs
    · rename_i s0 h0
      obtain ⟨L, H, h1, h2, h3⟩ := ih (by omega) s0 h0
      split at hs
      · rename_i hp
        split at hs
        · rename_i hf
          cases hs
          obtain ⟨P, Q, g1, g2, g3⟩ := (mul_in (hl _ hk) (hm _ hk) (ha _ hk).1 (ha _ hk).2 (hb _ hk).1 (hb _ hk).2).fin hp
          have := (add_in h1 g1 h2 h3 g2 g3).fin hf
          rw [sumP]; exact this
        · cases hs
      · cases hs
end Go.Proofs.YtacklcbgkigcaaaGreat
