/- What the statements of floats hand to the program: floats of raw bits, the known ones. -/
import Derived.Test.YtkaooejeljdbnaaRg
namespace Go.Proofs.Ytkaooejeljdbnaa
open Go
set_option linter.unusedVariables false
set_option linter.unusedSimpArgs false
set_option maxRecDepth 10000

def I64 (n : Int) : Prop := -9223372036854775808 ≤ n ∧ n < 9223372036854775808
def I64s (l : List Int) : Prop := ∀ i, I64 (l.getD i 0)
theorem within_aux {a n : Int} (hn : 0 < n) : (if a.tmod n < 0 then a.tmod n + n else a.tmod n) = a % n := by
  rw [Int.tmod_eq_emod]
  have h1 := Int.emod_nonneg a (show n ≠ 0 by omega)
  have h2 := Int.emod_lt_of_pos a hn
  have h3 : ((n.natAbs : Nat) : Int) = n := Int.natAbs_of_nonneg (by omega)
  split
  · rw [show a % n - ((0 : Nat) : Int) = a % n by simp, if_neg (by omega)]
  · rw [h3, if_pos (by omega)]; omega
theorem tmod_bd (a : Int) {n : Int} (hn : 0 < n) : -n ≤ a.tmod n ∧ a.tmod n < n := by
  have := within_aux (a := a) hn
  have h1 := Int.emod_nonneg a (show n ≠ 0 by omega)
  have h2 := Int.emod_lt_of_pos a hn
  split at this
  · omega
  · omega
theorem within2_ok (a n : Int) (hn : 0 < n) (hn' : n < 4611686018427387904) : CallP Try.prog 116 [.int .i64 a, .int .i64 n] (.p (.int .i64 (a % n))) [] := by
  refine callG_of_vc (wr := wr0) Γok mixed Try.func116 (by kernel_rfl) rfl (by kernel_rfl) (le_of_ble rfl) (by simp) ?_
  have hw := within_aux (a := a) hn
  have hb := tmod_bd a hn
  obtain ⟨r, hr⟩ : ∃ r, r = a.tmod n := ⟨_, rfl⟩
  rw [← hr] at hw hb
  refine SNe.mk (by omega) ?_
  refine SZ.mk r hr.symm ?_
  by_cases h : r < 0
  · refine SCmp.yes (decide_eq_true (by omega)) ?_
    refine SWrap.i64z (r + n) rfl (by omega) ?_
    rw [if_pos h] at hw
    rw [← hw]
    exact SRet.pure (.p _ (.int _ _))
  · refine SCmp.no (decide_eq_false (by omega)) ?_
    rw [if_neg h] at hw
    rw [← hw]
    exact SRet.pure (.p _ (.int _ _))
theorem within16_ok (a n : Int) (hn : 0 < n) (hn' : n < 4611686018427387904) : CallP Try.prog 37 [.int .i64 a, .int .i64 n] (.p (.int .i64 (a % n))) [] := by
  refine callG_of_vc (wr := wr0) Γok mixed Try.func37 (by kernel_rfl) rfl (by kernel_rfl) (le_of_ble rfl) (by simp) ?_
  have hw := within_aux (a := a) hn
  have hb := tmod_bd a hn
  obtain ⟨r, hr⟩ : ∃ r, r = a.tmod n := ⟨_, rfl⟩
  rw [← hr] at hw hb
  refine SNe.mk (by omega) ?_
  refine SZ.mk r hr.symm ?_
  by_cases h : r < 0
  · refine SCmp.yes (decide_eq_true (by omega)) ?_
    refine SWrap.i64z (r + n) rfl (by omega) ?_
    rw [if_pos h] at hw
    rw [← hw]
    exact SRet.pure (.p _ (.int _ _))
  · refine SCmp.no (decide_eq_false (by omega)) ?_
    rw [if_neg h] at hw
    rw [← hw]
    exact SRet.pure (.p _ (.int _ _))

/-! #### floats of raw bits -/
abbrev sb (f : Nat) : Nat := f &&& 9223372036854775808
def mkF (f : Nat) (n : Int) : Nat :=
  if n % 12 = 0 then sb f else if n % 12 = 1 then sb f ||| 9218868437227405312 else if n % 12 = 2 then sb f ||| 9218868437227405312 ||| (f &&& 65535) ||| 1
  else if n % 12 = 3 then sb f ||| (f &&& 255) else if n % 12 = 4 then sb f ||| (4503599627370492 + (f &&& 7)) else if n % 12 = 5 then sb f ||| (9218868437227405311 - (f &&& 7))
  else if n % 12 = 6 ∨ n % 12 = 7 ∨ n % 12 = 8 then sb f ||| ((1023 + (f / 4294967296 &&& 31) - 16) * 4503599627370496) ||| ((f &&& 255) * 17592186044416)
  else if n % 12 = 9 then sb f ||| ((1023 + (f / 4294967296 &&& 127) - 64) * 4503599627370496) ||| (f &&& 4503599627370495) else f
theorem mkF_lt {f : Nat} (hf : f < 18446744073709551616) (n : Int) : mkF f n < 18446744073709551616 := by
  have h0 : sb f < 18446744073709551616 := Nat.lt_of_le_of_lt Nat.and_le_left hf
  have h1 : f &&& 7 ≤ 7 := Nat.and_le_right
  have h2 : f / 4294967296 &&& 31 ≤ 31 := Nat.and_le_right
  have h3 : f / 4294967296 &&& 127 ≤ 127 := Nat.and_le_right
  have h4 : f &&& 255 ≤ 255 := Nat.and_le_right
  have h5 : f &&& 65535 ≤ 65535 := Nat.and_le_right
  have h6 : f &&& 4503599627370495 ≤ 4503599627370495 := Nat.and_le_right
  unfold mkF
  split
  · exact h0
  split
  · exact or_lt64 h0 (by omega)
  split
  · exact or_lt64 (or_lt64 (or_lt64 h0 (by omega)) (by omega)) (by omega)
  split
  · exact or_lt64 h0 (by omega)
  split
  · exact or_lt64 h0 (by omega)
  split
  · exact or_lt64 h0 (by omega)
  split
  · exact or_lt64 (or_lt64 h0 (by omega)) (by omega)
  split
  · exact or_lt64 (or_lt64 h0 (by omega)) (by omega)
  · exact hf
theorem SShr32u {a : Nat} {K : Int → Prop} (hk : K ((a / 4294967296 : Nat) : Int)) : SGe 32 (SZ ((a : Int).fdiv (2 ^ (min (32 : Int).toNat (IntKind.bits .u64)))) K) :=
  .mk (by decide) (.mk _ (by
    show Int.fdiv (a : Int) 4294967296 = _
    rw [Int.fdiv_eq_ediv_of_nonneg _ (by decide)]; omega) hk)
/-! #### exact numbers -/
theorem half_exact (c : Nat) : cmpR (2 * fval c) (fval c + fval (c + 1)) = -1 := by
  have := fval_lt_succ c
  rw [cmpR, if_pos (by grind)]
theorem rnd_exact {c : Nat} (hc : c < 9218868437227405312) (neg : Bool) (mode : Int) : rndQ neg (fval c) mode = (sg neg c, 0) := by
  rw [rndQ, cd_fval, decide_eq_false (by simp), half_exact, out_fin (by rw [upc, goUp_no, if_neg Bool.false_ne_true]; exact hc), upc, goUp_no, if_neg Bool.false_ne_true, if_neg Bool.false_ne_true]
theorem fval_dbl {c : Nat} (h : 4503599627370496 ≤ c) : fval (c + 4503599627370496) = 2 * fval c := by
  unfold fval fsig fexp
  rw [if_neg (by omega), if_neg (by omega), if_neg (by omega), if_neg (by omega), Nat.add_mod_right, show ((c + 4503599627370496) / 4503599627370496 : Nat) = c / 4503599627370496 + 1 by omega,
    show ((c / 4503599627370496 + 1 : Nat) : Int) - 1075 = ((c / 4503599627370496 : Nat) : Int) - 1075 + 1 by omega, p2_succ]
  grind
theorem fval_scale {c : Nat} (h : 4503599627370496 ≤ c) : ∀ k : Nat, fval (c + k * 4503599627370496) = ((2 ^ k : Nat) : Rat) * fval c := by
  intro k
  induction k with
  | zero => simp
  | succ k ih =>
    rw [show c + (k + 1) * 4503599627370496 = c + k * 4503599627370496 + 4503599627370496 by omega, fval_dbl (by omega), ih, Nat.pow_succ, Rat.natCast_mul]
    show _ = ((2 ^ k : Nat) : Rat) * 2 * fval c
    grind
theorem fval_one : fval 4607182418800017408 = 1 := by
  have h1 : fsig 4607182418800017408 = 4503599627370496 := rfl
  have h2 : fexp 4607182418800017408 = -52 := rfl
  rw [fval, h1, h2]
  have h3 := p2_neg 52
  have h4 : p2 (-52) = 1 / ((4503599627370496 : Nat) : Rat) := h3
  rw [h4]
  have := pos_q (d := 4503599627370496) (by decide)
  generalize ((4503599627370496 : Nat) : Rat) = x at *
  grind
theorem fvq_pos {c : Nat} (h : c < 9223372036854775808) : fvq c = fval c := by
  have h1 : ngt c = false := decide_eq_false (by omega)
  rw [fvq, h1, if_neg Bool.false_ne_true, mag, Nat.mod_eq_of_lt h]
theorem one_one : addF 4607182418800017408 4607182418800017408 0 = (4611686018427387904, 0) := by
  rw [addF, show isNan 4607182418800017408 = false by decide, show isInf 4607182418800017408 = false by decide, if_neg (by simp), if_neg (by simp), if_neg (by simp), if_neg (by simp), sumF, fvq_pos (by decide)]
  have e : fval 4607182418800017408 + fval 4607182418800017408 = sval false (fval 4611686018427387904) := by
    have := fval_dbl (c := 4607182418800017408) (by decide)
    rw [show 4607182418800017408 + 4503599627370496 = 4611686018427387904 from rfl] at this
    rw [this, sval, if_neg Bool.false_ne_true]; grind
  have hp : 0 < fval 4611686018427387904 := fval_pos.2 (by decide)
  rw [e, if_neg (mt sval_zero.1 (by grind)), rS_sval hp, rnd_exact (by decide)]
  rfl
theorem one_nought : divF 4607182418800017408 0 0 = (9218868437227405312, 8) := by
  rw [divF, show isNan 4607182418800017408 = false by decide, show isInf 4607182418800017408 = false by decide, show isNan 0 = false by decide, show isInf 0 = false by decide, show isZ 4607182418800017408 = false by decide, show isZ 0 = true by decide]
  rfl
end Go.Proofs.Ytkaooejeljdbnaa
