/- What the statements of floats hand to the program: floats of raw bits, the known ones. -/
import Derived.Test.YtacklcbgkigcaaaGreatRg
namespace Go.Proofs.YtacklcbgkigcaaaGreat
open Go
set_option linter.unusedVariables false
set_option linter.unusedSimpArgs false
set_option maxRecDepth 10000

def I64 (n : Int) : Prop := -9223372036854775808 ≤ n ∧ n < 9223372036854775808
def I64s (l : List Int) : Prop := ∀ i, I64 (l.getD i 0)
theorem within_aux {a n : Int} (hn : 0 < n) : (if a.tmod n < 0 then a.tmod n + n else a.tmod n) = a % n := by
  rw [Int.tmod_eq_emod]
  have h1 := Int.emod_nonneg a (show n ≠ 0 by omega)
  have h2 := Int.emod_lt_of_pos a hn
  have h3 : ((n.natAbs : Nat) : Int) = n := Int.natAbs_of_nonneg (by omega)
  split
  · rw [show a % n - ((0 : Nat) : Int) = a % n by simp, if_neg (by omega)]
  · rw [h3, if_pos (by omega)]; omega
theorem tmod_bd (a : Int) {n : Int} (hn : 0 < n) : -n ≤ a.tmod n ∧ a.tmod n < n := by
  have := within_aux (a := a) hn
  have h1 := Int.emod_nonneg a (show n ≠ 0 by omega)
  have h2 := Int.emod_lt_of_pos a hn
  split at this
  · omega
  · omega
theorem within3_ok (a n : Int) (hn : 0 < n) (hn' : n < 4611686018427387904) : CallP Tryz.prog 91 [.int .i64 a, .int .i64 n] (.p (.int .i64 (a % n))) [] := by
  refine callG_of_vc (wr := wr0) Γok mixed Tryz.func91 (by kernel_rfl) rfl (by kernel_rfl) (le_of_ble rfl) (by simp) ?_
  have hw := within_aux (a := a) hn
  have hb := tmod_bd a hn
  obtain ⟨r, hr⟩ : ∃ r, r = a.tmod n := ⟨_, rfl⟩
  rw [← hr] at hw hb
  refine SNe.mk (by omega) ?_
  refine SZ.mk r hr.symm ?_
  by_cases h : r < 0
  · refine SCmp.yes (decide_eq_true (by omega)) ?_
    refine SWrap.i64z (r + n) rfl (by omega) ?_
    rw [if_pos h] at hw
    rw [← hw]
    exact SRet.pure (.p _ (.int _ _))
  · refine SCmp.no (decide_eq_false (by omega)) ?_
    rw [if_neg h] at hw
    rw [← hw]
    exact SRet.pure (.p _ (.int _ _))
theorem within2_ok (a n : Int) (hn : 0 < n) (hn' : n < 4611686018427387904) : CallP Tryz.prog 112 [.int .i64 a, .int .i64 n] (.p (.int .i64 (a % n))) [] := by
  refine callG_of_vc (wr := wr0) Γok mixed Tryz.func112 (by kernel_rfl) rfl (by kernel_rfl) (le_of_ble rfl) (by simp) ?_
  have hw := within_aux (a := a) hn
  have hb := tmod_bd a hn
  obtain ⟨r, hr⟩ : ∃ r, r = a.tmod n := ⟨_, rfl⟩
  rw [← hr] at hw hb
  refine SNe.mk (by omega) ?_
  refine SZ.mk r hr.symm ?_
  by_cases h : r < 0
  · refine SCmp.yes (decide_eq_true (by omega)) ?_
    refine SWrap.i64z (r + n) rfl (by omega) ?_
    rw [if_pos h] at hw
    rw [← hw]
    exact SRet.pure (.p _ (.int _ _))
  · refine SCmp.no (decide_eq_false (by omega)) ?_
    rw [if_neg h] at hw
    rw [← hw]
    exact SRet.pure (.p _ (.int _ _))
theorem within16_ok (a n : Int) (hn : 0 < n) (hn' : n < 4611686018427387904) : CallP Tryz.prog 44 [.int .i64 a, .int .i64 n] (.p (.int .i64 (a % n))) [] := by
  refine callG_of_vc (wr := wr0) Γok mixed Tryz.func44 (by kernel_rfl) rfl (by kernel_rfl) (le_of_ble rfl) (by simp) ?_
  have hw := within_aux (a := a) hn
  have hb := tmod_bd a hn
  obtain ⟨r, hr⟩ : ∃ r, r = a.tmod n := ⟨_, rfl⟩
  rw [← hr] at hw hb
  refine SNe.mk (by omega) ?_
  refine SZ.mk r hr.symm ?_
  by_cases h : r < 0
  · refine SCmp.yes (decide_eq_true (by omega)) ?_
    refine SWrap.i64z (r + n) rfl (by omega) ?_
    rw [if_pos h] at hw
    rw [← hw]
    exact SRet.pure (.p _ (.int _ _))
  · refine SCmp.no (decide_eq_false (by omega)) ?_
    rw [if_neg h] at hw
    rw [← hw]
    exact SRet.pure (.p _ (.int _ _))

/-! #### floats of raw bits -/
abbrev sb (f : Nat) : Nat := f &&& 9223372036854775808
def mkF (f : Nat) (n : Int) : Nat :=
  if n % 12 = 0 then sb f else if n % 12 = 1 then sb f ||| 9218868437227405312 else if n % 12 = 2 then sb f ||| 9218868437227405312 ||| (f &&& 65535) ||| 1
  else if n % 12 = 3 then sb f ||| (f &&& 255) else if n % 12 = 4 then sb f ||| (4503599627370492 + (f &&& 7)) else if n % 12 = 5 then sb f ||| (9218868437227405311 - (f &&& 7))
  else if n % 12 = 6 ∨ n % 12 = 7 ∨ n % 12 = 8 then sb f ||| ((1023 + (f / 4294967296 &&& 31) - 16) * 4503599627370496) ||| ((f &&& 255) * 17592186044416)
  else if n % 12 = 9 then sb f ||| ((1023 + (f / 4294967296 &&& 127) - 64) * 4503599627370496) ||| (f &&& 4503599627370495) else f
theorem mkF_lt {f : Nat} (hf : f < 18446744073709551616) (n : Int) : mkF f n < 18446744073709551616 := by
  have h0 : sb f < 18446744073709551616 := Nat.lt_of_le_of_lt Nat.and_le_left hf
  have h1 : f &&& 7 ≤ 7 := Nat.and_le_right
  have h2 : f / 4294967296 &&& 31 ≤ 31 := Nat.and_le_right
  have h3 : f / 4294967296 &&& 127 ≤ 127 := Nat.and_le_right
  have h4 : f &&& 255 ≤ 255 := Nat.and_le_right
  have h5 : f &&& 65535 ≤ 65535 := Nat.and_le_right
  have h6 : f &&& 4503599627370495 ≤ 4503599627370495 := Nat.and_le_right
  unfold mkF
  split
  · exact h0
  split
  · exact or_lt64 h0 (by omega)
  split
  · exact or_lt64 (or_lt64 (or_lt64 h0 (by omega)) (by omega)) (by omega)
  split
  · exact or_lt64 h0 (by omega)
  split
  · exact or_lt64 h0 (by omega)
  split
  · exact or_lt64 h0 (by omega)
  split
  · exact or_lt64 (or_lt64 h0 (by omega)) (by omega)
  split
  · exact or_lt64 (or_lt64 h0 (by omega)) (by omega)
  · exact hf
theorem SShr32u {a : Nat} {K : Int → Prop} (hk : K ((a / 4294967296 : Nat) : Int)) : SGe 32 (SZ ((a : Int).fdiv (2 ^ (min (32 : Int).toNat (IntKind.bits .u64)))) K) :=
  .mk (by decide) (.mk _ (by
    show Int.fdiv (a : Int) 4294967296 = _
    rw [Int.fdiv_eq_ediv_of_nonneg _ (by decide)]; omega) hk)
theorem make3_ok (f : Nat) (n : Int) (hf : f < 18446744073709551616) : CallP Tryz.prog 31 [.int .u64 f, .int .i64 n] (.p (.int .u64 (mkF f n))) [] := by
  have h0 : sb f < 18446744073709551616 := Nat.lt_of_le_of_lt Nat.and_le_left hf
  have h1 : f &&& 7 ≤ 7 := Nat.and_le_right
  have h2 : f / 4294967296 &&& 31 ≤ 31 := Nat.and_le_right
  have h3 : f / 4294967296 &&& 127 ≤ 127 := Nat.and_le_right
  have h4 : f &&& 255 ≤ 255 := Nat.and_le_right
  have h5 : f &&& 65535 ≤ 65535 := Nat.and_le_right
  have h6 : f &&& 4503599627370495 ≤ 4503599627370495 := Nat.and_le_right
  have hk := Int.emod_nonneg n (show (12 : Int) ≠ 0 by decide)
  refine callG_of_vc (wr := wr0) Γok mixed Tryz.func31 (by kernel_rfl) rfl (by kernel_rfl) (le_of_ble rfl) (by simp) ?_
  refine SCall.pure (within3_ok n 12 (by omega) (by omega)) ?_
  unfold mkF
  by_cases c0 : n % 12 = 0
  · rw [if_pos c0]
    refine SCmp.yes (eqT c0) ?_
    refine SWrap.and f 9223372036854775808 _ rfl rfl hf (by omega) rfl ?_
    exact SRet.pure (.p _ (.int _ _))
  rw [if_neg c0]
  refine SCmp.no (eqF c0) ?_
  by_cases c1 : n % 12 = 1
  · rw [if_pos c1]
    refine SCmp.yes (eqT c1) ?_
    refine SWrap.and f 9223372036854775808 _ rfl rfl hf (by omega) rfl ?_
    refine SWrap.or (sb f) 9218868437227405312 _ rfl rfl h0 (by omega) rfl ?_
    exact SRet.pure (.p _ (.int _ _))
  rw [if_neg c1]
  refine SCmp.no (eqF c1) ?_
  by_cases c2 : n % 12 = 2
  · rw [if_pos c2]
    refine SCmp.yes (eqT c2) ?_
    refine SWrap.and f 9223372036854775808 _ rfl rfl hf (by omega) rfl ?_
    refine SWrap.or (sb f) 9218868437227405312 _ rfl rfl h0 (by omega) rfl ?_
    refine SWrap.and f 65535 _ rfl rfl hf (by omega) rfl ?_
    refine SWrap.or (sb f ||| 9218868437227405312) (f &&& 65535) _ rfl rfl (or_lt64 h0 (by omega)) (by omega) rfl ?_
    refine SWrap.or (sb f ||| 9218868437227405312 ||| (f &&& 65535)) 1 _ rfl rfl (or_lt64 (or_lt64 h0 (by omega)) (by omega)) (by omega) rfl ?_
    exact SRet.pure (.p _ (.int _ _))
  rw [if_neg c2]
  refine SCmp.no (eqF c2) ?_
  by_cases c3 : n % 12 = 3
  · rw [if_pos c3]
    refine SCmp.yes (eqT c3) ?_
    refine SWrap.and f 9223372036854775808 _ rfl rfl hf (by omega) rfl ?_
    refine SWrap.and f 255 _ rfl rfl hf (by omega) rfl ?_
    refine SWrap.or (sb f) (f &&& 255) _ rfl rfl h0 (by omega) rfl ?_
    exact SRet.pure (.p _ (.int _ _))
  rw [if_neg c3]
  refine SCmp.no (eqF c3) ?_
  by_cases c4 : n % 12 = 4
  · rw [if_pos c4]
    refine SCmp.yes (eqT c4) ?_
    refine SWrap.and f 9223372036854775808 _ rfl rfl hf (by omega) rfl ?_
    refine SWrap.and f 7 _ rfl rfl hf (by omega) rfl ?_
    refine SWrap.u64z (4503599627370492 + (f &&& 7)) (by omega) (by omega) ?_
    refine SWrap.or (sb f) (4503599627370492 + (f &&& 7)) _ rfl rfl h0 (by omega) rfl ?_
    exact SRet.pure (.p _ (.int _ _))
  rw [if_neg c4]
  refine SCmp.no (eqF c4) ?_
  by_cases c5 : n % 12 = 5
  · rw [if_pos c5]
    refine SCmp.yes (eqT c5) ?_
    refine SWrap.and f 9223372036854775808 _ rfl rfl hf (by omega) rfl ?_
    refine SWrap.and f 7 _ rfl rfl hf (by omega) rfl ?_
    refine SWrap.u64z (9218868437227405311 - (f &&& 7)) (by omega) (by omega) ?_
    refine SWrap.or (sb f) (9218868437227405311 - (f &&& 7)) _ rfl rfl h0 (by omega) rfl ?_
    exact SRet.pure (.p _ (.int _ _))
  rw [if_neg c5]
  refine SCmp.no (eqF c5) ?_
  by_cases c6 : n % 12 = 6
  · rw [if_pos (.inl c6)]
    refine SCmp.yes (eqT c6) ?_
    refine SWrap.and f 9223372036854775808 _ rfl rfl hf (by omega) rfl ?_
    refine SShr32u ?_
    refine SWrap.and (f / 4294967296) 31 _ rfl rfl (by omega) (by omega) rfl ?_
    refine SWrap.u64z (1023 + (f / 4294967296 &&& 31)) (by omega) (by omega) ?_
    refine SWrap.u64z (1023 + (f / 4294967296 &&& 31) - 16) (by omega) (by omega) ?_
    refine SGe.mk (by decide) ?_
    refine SWrap.u64z ((1023 + (f / 4294967296 &&& 31) - 16) * 4503599627370496) (by show ((1023 + (f / 4294967296 &&& 31) - 16 : Nat) : Int) * 4503599627370496 = _; omega) (by omega) ?_
    refine SWrap.or (sb f) ((1023 + (f / 4294967296 &&& 31) - 16) * 4503599627370496) _ rfl rfl h0 (by omega) rfl ?_
    refine SWrap.and f 255 _ rfl rfl hf (by omega) rfl ?_
    refine SGe.mk (by decide) ?_
    refine SWrap.u64z ((f &&& 255) * 17592186044416) (by show ((f &&& 255 : Nat) : Int) * 17592186044416 = _; omega) (by omega) ?_
    refine SWrap.or (sb f ||| (1023 + (f / 4294967296 &&& 31) - 16) * 4503599627370496) ((f &&& 255) * 17592186044416) _ rfl rfl (or_lt64 h0 (by omega)) (by omega) rfl ?_
    exact SRet.pure (.p _ (.int _ _))
  refine SCmp.no (eqF c6) ?_
  by_cases c7 : n % 12 = 7
  · rw [if_pos (.inr (.inl c7))]
    refine SCmp.yes (eqT c7) ?_
    refine SWrap.and f 9223372036854775808 _ rfl rfl hf (by omega) rfl ?_
    refine SShr32u ?_
    refine SWrap.and (f / 4294967296) 31 _ rfl rfl (by omega) (by omega) rfl ?_
    refine SWrap.u64z (1023 + (f / 4294967296 &&& 31)) (by omega) (by omega) ?_
    refine SWrap.u64z (1023 + (f / 4294967296 &&& 31) - 16) (by omega) (by omega) ?_
    refine SGe.mk (by decide) ?_
    refine SWrap.u64z ((1023 + (f / 4294967296 &&& 31) - 16) * 4503599627370496) (by show ((1023 + (f / 4294967296 &&& 31) - 16 : Nat) : Int) * 4503599627370496 = _; omega) (by omega) ?_
    refine SWrap.or (sb f) ((1023 + (f / 4294967296 &&& 31) - 16) * 4503599627370496) _ rfl rfl h0 (by omega) rfl ?_
    refine SWrap.and f 255 _ rfl rfl hf (by omega) rfl ?_
    refine SGe.mk (by decide) ?_
    refine SWrap.u64z ((f &&& 255) * 17592186044416) (by show ((f &&& 255 : Nat) : Int) * 17592186044416 = _; omega) (by omega) ?_
    refine SWrap.or (sb f ||| (1023 + (f / 4294967296 &&& 31) - 16) * 4503599627370496) ((f &&& 255) * 17592186044416) _ rfl rfl (or_lt64 h0 (by omega)) (by omega) rfl ?_
    exact SRet.pure (.p _ (.int _ _))
  refine SCmp.no (eqF c7) ?_
  by_cases c8 : n % 12 = 8
  · rw [if_pos (.inr (.inr c8))]
    refine SCmp.yes (eqT c8) ?_
    refine SWrap.and f 9223372036854775808 _ rfl rfl hf (by omega) rfl ?_
    refine SShr32u ?_
    refine SWrap.and (f / 4294967296) 31 _ rfl rfl (by omega) (by omega) rfl ?_
    refine SWrap.u64z (1023 + (f / 4294967296 &&& 31)) (by omega) (by omega) ?_
    refine SWrap.u64z (1023 + (f / 4294967296 &&& 31) - 16) (by omega) (by omega) ?_
    refine SGe.mk (by decide) ?_
    refine SWrap.u64z ((1023 + (f / 4294967296 &&& 31) - 16) * 4503599627370496) (by show ((1023 + (f / 4294967296 &&& 31) - 16 : Nat) : Int) * 4503599627370496 = _; omega) (by omega) ?_
    refine SWrap.or (sb f) ((1023 + (f / 4294967296 &&& 31) - 16) * 4503599627370496) _ rfl rfl h0 (by omega) rfl ?_
    refine SWrap.and f 255 _ rfl rfl hf (by omega) rfl ?_
    refine SGe.mk (by decide) ?_
    refine SWrap.u64z ((f &&& 255) * 17592186044416) (by show ((f &&& 255 : Nat) : Int) * 17592186044416 = _; omega) (by omega) ?_
    refine SWrap.or (sb f ||| (1023 + (f / 4294967296 &&& 31) - 16) * 4503599627370496) ((f &&& 255) * 17592186044416) _ rfl rfl (or_lt64 h0 (by omega)) (by omega) rfl ?_
    exact SRet.pure (.p _ (.int _ _))
  refine SCmp.no (eqF c8) ?_
  rw [if_neg (by omega)]
  by_cases c9 : n % 12 = 9
  · rw [if_pos c9]
    refine SCmp.yes (eqT c9) ?_
    refine SWrap.and f 9223372036854775808 _ rfl rfl hf (by omega) rfl ?_
    refine SShr32u ?_
    refine SWrap.and (f / 4294967296) 127 _ rfl rfl (by omega) (by omega) rfl ?_
    refine SWrap.u64z (1023 + (f / 4294967296 &&& 127)) (by omega) (by omega) ?_
    refine SWrap.u64z (1023 + (f / 4294967296 &&& 127) - 64) (by omega) (by omega) ?_
    refine SGe.mk (by decide) ?_
    refine SWrap.u64z ((1023 + (f / 4294967296 &&& 127) - 64) * 4503599627370496) (by show ((1023 + (f / 4294967296 &&& 127) - 64 : Nat) : Int) * 4503599627370496 = _; omega) (by omega) ?_
    refine SWrap.or (sb f) ((1023 + (f / 4294967296 &&& 127) - 64) * 4503599627370496) _ rfl rfl h0 (by omega) rfl ?_
    refine SWrap.and f 4503599627370495 _ rfl rfl hf (by omega) rfl ?_
    refine SWrap.or (sb f ||| (1023 + (f / 4294967296 &&& 127) - 64) * 4503599627370496) (f &&& 4503599627370495) _ rfl rfl (or_lt64 h0 (by omega)) (by omega) rfl ?_
    exact SRet.pure (.p _ (.int _ _))
  rw [if_neg c9]
  refine SCmp.no (eqF c9) ?_
  exact SRet.pure (.p _ (.int _ _))

/-! #### exact numbers -/
theorem half_exact (c : Nat) : cmpR (2 * fval c) (fval c + fval (c + 1)) = -1 := by
  have := fval_lt_succ c
  rw [cmpR, if_pos (by grind)]
theorem rnd_exact {c : Nat} (hc : c < 9218868437227405312) (neg : Bool) (mode : Int) : rndQ neg (fval c) mode = (sg neg c, 0) := by
  rw [rndQ, cd_fval, decide_eq_false (by simp), half_exact, out_fin (by rw [upc, goUp_no, if_neg Bool.false_ne_true]; exact hc), upc, goUp_no, if_neg Bool.false_ne_true, if_neg Bool.false_ne_true]
theorem fval_dbl {c : Nat} (h : 4503599627370496 ≤ c) : fval (c + 4503599627370496) = 2 * fval c := by
  unfold fval fsig fexp
  rw [if_neg (by omega), if_neg (by omega), if_neg (by omega), if_neg (by omega), Nat.add_mod_right, show ((c + 4503599627370496) / 4503599627370496 : Nat) = c / 4503599627370496 + 1 by omega,
    show ((c / 4503599627370496 + 1 : Nat) : Int) - 1075 = ((c / 4503599627370496 : Nat) : Int) - 1075 + 1 by omega, p2_succ]
  grind
theorem fval_scale {c : Nat} (h : 4503599627370496 ≤ c) : ∀ k : Nat, fval (c + k * 4503599627370496) = ((2 ^ k : Nat) : Rat) * fval c := by
  intro k
  induction k with
  | zero => simp
  | succ k ih =>
    rw [show c + (k + 1) * 4503599627370496 = c + k * 4503599627370496 + 4503599627370496 by omega, fval_dbl (by omega), ih, Nat.pow_succ, Rat.natCast_mul]
    show _ = ((2 ^ k : Nat) : Rat) * 2 * fval c
    grind
theorem fval_one : fval 4607182418800017408 = 1 := by
  have h1 : fsig 4607182418800017408 = 4503599627370496 := rfl
  have h2 : fexp 4607182418800017408 = -52 := rfl
  rw [fval, h1, h2]
  have h3 := p2_neg 52
  have h4 : p2 (-52) = 1 / ((4503599627370496 : Nat) : Rat) := h3
  rw [h4]
  have := pos_q (d := 4503599627370496) (by decide)
  generalize ((4503599627370496 : Nat) : Rat) = x at *
  grind
theorem fvq_pos {c : Nat} (h : c < 9223372036854775808) : fvq c = fval c := by
  have h1 : ngt c = false := decide_eq_false (by omega)
  rw [fvq, h1, if_neg Bool.false_ne_true, mag, Nat.mod_eq_of_lt h]
theorem one_one : addF 4607182418800017408 4607182418800017408 0 = (4611686018427387904, 0) := by
  rw [addF, show isNan 4607182418800017408 = false by decide, show isInf 4607182418800017408 = false by decide, if_neg (by simp), if_neg (by simp), if_neg (by simp), if_neg (by simp), sumF, fvq_pos (by decide)]
  have e : fval 4607182418800017408 + fval 4607182418800017408 = sval false (fval 4611686018427387904) := by
    have := fval_dbl (c := 4607182418800017408) (by decide)
    rw [show 4607182418800017408 + 4503599627370496 = 4611686018427387904 from rfl] at this
    rw [this, sval, if_neg Bool.false_ne_true]; grind
  have hp : 0 < fval 4611686018427387904 := fval_pos.2 (by decide)
  rw [e, if_neg (mt sval_zero.1 (by grind)), rS_sval hp, rnd_exact (by decide)]
  rfl
theorem one_nought : divF 4607182418800017408 0 0 = (9218868437227405312, 8) := by
  rw [divF, show isNan 4607182418800017408 = false by decide, show isInf 4607182418800017408 = false by decide, show isNan 0 = false by decide, show isInf 0 = false by decide, show isZ 4607182418800017408 = false by decide, show isZ 0 = true by decide]
  rfl
end Go.Proofs.YtacklcbgkigcaaaGreat
