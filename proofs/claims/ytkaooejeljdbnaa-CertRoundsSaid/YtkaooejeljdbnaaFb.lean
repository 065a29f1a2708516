/- Bits of floats: masks, as remainders, quotients and sums. -/
import Derived.Test.YtkaooejeljdbnaaFm1
namespace Go.Proofs.Ytkaooejeljdbnaa
open Go
set_option linter.unusedVariables false
set_option linter.unusedSimpArgs false
set_option maxRecDepth 10000

theorem bv64 {x : Nat} (h : x < 18446744073709551616) : (BitVec.ofInt 64 (x : Int)).toNat = x := by
  rw [BitVec.toNat_ofInt]
  show ((x : Int) % (18446744073709551616 : Int)).toNat = x
  omega
theorem SWrap.and {a b : Int} {K : Int → Prop} (x y z : Nat) (ha : a = x) (hb : b = y) (hx : x < 18446744073709551616) (hy : y < 18446744073709551616) (hz : x &&& y = z) (hk : K z) :
    SWrap .u64 ((BitVec.ofInt (IntKind.bits .u64) a &&& BitVec.ofInt (IntKind.bits .u64) b).toNat : Int) K := by
  subst ha hb
  have e : (BitVec.ofInt 64 (x : Int) &&& BitVec.ofInt 64 (y : Int)).toNat = z := by rw [BitVec.toNat_and, bv64 hx, bv64 hy, hz]
  refine SWrap.u64z z (congrArg Int.ofNat e) ?_ hk
  rw [← hz]; exact Nat.lt_of_le_of_lt Nat.and_le_left hx
theorem or_lt64 {x y : Nat} (hx : x < 18446744073709551616) (hy : y < 18446744073709551616) : x ||| y < 18446744073709551616 := Nat.or_lt_two_pow (n := 64) hx hy
theorem xor_lt64 {x y : Nat} (hx : x < 18446744073709551616) (hy : y < 18446744073709551616) : x ^^^ y < 18446744073709551616 := Nat.xor_lt_two_pow (n := 64) hx hy
theorem SWrap.or {a b : Int} {K : Int → Prop} (x y z : Nat) (ha : a = x) (hb : b = y) (hx : x < 18446744073709551616) (hy : y < 18446744073709551616) (hz : x ||| y = z) (hk : K z) :
    SWrap .u64 ((BitVec.ofInt (IntKind.bits .u64) a ||| BitVec.ofInt (IntKind.bits .u64) b).toNat : Int) K := by
  subst ha hb
  have e : (BitVec.ofInt 64 (x : Int) ||| BitVec.ofInt 64 (y : Int)).toNat = z := by rw [BitVec.toNat_or, bv64 hx, bv64 hy, hz]
  refine SWrap.u64z z (congrArg Int.ofNat e) ?_ hk
  rw [← hz]; exact or_lt64 hx hy
theorem SWrap.xor {a b : Int} {K : Int → Prop} (x y z : Nat) (ha : a = x) (hb : b = y) (hx : x < 18446744073709551616) (hy : y < 18446744073709551616) (hz : x ^^^ y = z) (hk : K z) :
    SWrap .u64 ((BitVec.ofInt (IntKind.bits .u64) a ^^^ BitVec.ofInt (IntKind.bits .u64) b).toNat : Int) K := by
  subst ha hb
  have e : (BitVec.ofInt 64 (x : Int) ^^^ BitVec.ofInt 64 (y : Int)).toNat = z := by rw [BitVec.toNat_xor, bv64 hx, bv64 hy, hz]
  refine SWrap.u64z z (congrArg Int.ofNat e) ?_ hk
  rw [← hz]; exact xor_lt64 hx hy
/-- Not: what is left without some bits. -/
theorem SWrap.not {a b : Int} {K : Int → Prop} (x y z : Nat) (ha : a = x) (hb : b = y) (hx : x < 18446744073709551616) (hy : y < 18446744073709551616) (hz : x &&& (18446744073709551615 - y) = z) (hk : K z) :
    SWrap .u64 ((BitVec.ofInt (IntKind.bits .u64) a &&& ~~~ BitVec.ofInt (IntKind.bits .u64) b).toNat : Int) K := by
  subst ha hb
  have e : (BitVec.ofInt 64 (x : Int) &&& ~~~ BitVec.ofInt 64 (y : Int)).toNat = z := by
    rw [BitVec.toNat_and, BitVec.toNat_not, bv64 hx, bv64 hy, ← hz]
  refine SWrap.u64z z (congrArg Int.ofNat e) ?_ hk
  rw [← hz]; exact Nat.lt_of_le_of_lt Nat.and_le_left hx

theorem and_low (x k : Nat) : x &&& (2 ^ k - 1) = x % 2 ^ k := Nat.and_two_pow_sub_one_eq_mod x k
theorem low63 (x : Nat) : x &&& 9223372036854775807 = x % 9223372036854775808 := and_low x 63
theorem low52 (x : Nat) : x &&& 4503599627370495 = x % 4503599627370496 := and_low x 52
theorem low11 (x : Nat) : x &&& 2047 = x % 2048 := and_low x 11
theorem low1 (x : Nat) : x &&& 1 = x % 2 := and_low x 1
theorem low8 (x : Nat) : x &&& 255 = x % 256 := and_low x 8
theorem low16 (x : Nat) : x &&& 65535 = x % 65536 := and_low x 16
theorem low3 (x : Nat) : x &&& 7 = x % 8 := and_low x 3
theorem low5 (x : Nat) : x &&& 31 = x % 32 := and_low x 5
theorem low7 (x : Nat) : x &&& 127 = x % 128 := and_low x 7
theorem or_high {a b k : Nat} (h : b < 2 ^ k) : 2 ^ k * a ||| b = 2 ^ k * a + b := (Nat.two_pow_add_eq_or_of_lt h a).symm
theorem or_sum {x y a k : Nat} (h : y < 2 ^ k) (hx : x = 2 ^ k * a) : x ||| y = x + y := by rw [hx]; exact or_high h
theorem or_sign {x : Nat} (h : x < 9223372036854775808) : x ||| 9223372036854775808 = x + 9223372036854775808 := by
  rw [Nat.or_comm, or_sum (k := 63) (a := 1) h (by decide), Nat.add_comm]
theorem or_unit {x : Nat} (h : x < 4503599627370496) : x ||| 4503599627370496 = x + 4503599627370496 := by
  rw [Nat.or_comm, or_sum (k := 52) (a := 1) h (by decide), Nat.add_comm]
theorem and_sign {x : Nat} (hx : x < 18446744073709551616) : x &&& 9223372036854775808 = if 9223372036854775808 ≤ x then 9223372036854775808 else 0 := by
  have ne : ∀ i, i ≠ 63 → Nat.testBit 9223372036854775808 i = false := fun i hi => by
    have := Nat.testBit_two_pow_of_ne (n := 63) (m := i) (by omega)
    rwa [show (2 : Nat) ^ 63 = 9223372036854775808 by decide] at this
  apply Nat.eq_of_testBit_eq
  intro i
  rw [Nat.testBit_and]
  by_cases hi : i = 63
  · subst hi
    rw [Nat.testBit_eq_decide_div_mod_eq (x := x), show (2 : Nat) ^ 63 = 9223372036854775808 by decide]
    split
    · rw [decide_eq_true (show x / 9223372036854775808 % 2 = 1 by omega), Bool.true_and]
    · rw [decide_eq_false (show ¬ x / 9223372036854775808 % 2 = 1 by omega), Bool.false_and, Nat.zero_testBit]
  · rw [ne i hi, Bool.and_false]
    split
    · rw [ne i hi]
    · rw [Nat.zero_testBit]
/-- The other sign. -/
def flip (x : Nat) : Nat := if x < 9223372036854775808 then x + 9223372036854775808 else x - 9223372036854775808
theorem xor_sign {x : Nat} (hx : x < 18446744073709551616) : x ^^^ 9223372036854775808 = flip x := by
  have key : ∀ {y : Nat}, y < 9223372036854775808 → y ^^^ 9223372036854775808 = y + 9223372036854775808 := fun {y} h => by
    rw [← or_sign h]
    apply Nat.eq_of_testBit_eq
    intro i
    rw [Nat.testBit_xor, Nat.testBit_or]
    by_cases hi : i = 63
    · subst hi
      have : y.testBit 63 = false := Nat.testBit_lt_two_pow h
      rw [this]; rfl
    · have : Nat.testBit 9223372036854775808 i = false := by
        have := Nat.testBit_two_pow_of_ne (n := 63) (m := i) (by omega)
        rwa [show (2 : Nat) ^ 63 = 9223372036854775808 by decide] at this
      rw [this]; simp
  unfold flip
  split
  · rename_i h; exact key h
  · rename_i h
    obtain ⟨y, hy⟩ : ∃ y, x = y + 9223372036854775808 := ⟨x - 9223372036854775808, by omega⟩
    rw [hy, Nat.add_sub_cancel, ← key (show y < 9223372036854775808 by omega), Nat.xor_assoc, Nat.xor_self, Nat.xor_zero]
theorem SWrap.nosign {a b : Int} {K : Int → Prop} (x : Nat) (ha : a = x) (hb : b = 9223372036854775808) (hx : x < 18446744073709551616) (hk : K ((x % 9223372036854775808 : Nat) : Int)) :
    SWrap .u64 ((BitVec.ofInt (IntKind.bits .u64) a &&& ~~~ BitVec.ofInt (IntKind.bits .u64) b).toNat : Int) K := .not x 9223372036854775808 _ ha hb hx (by omega) (low63 x) hk
theorem SWrap.sign {a b : Int} {K : Int → Prop} (x : Nat) (ha : a = x) (hb : b = 9223372036854775808) (hx : x < 18446744073709551616) (hk : K ((if 9223372036854775808 ≤ x then 9223372036854775808 else 0 : Nat) : Int)) :
    SWrap .u64 ((BitVec.ofInt (IntKind.bits .u64) a &&& BitVec.ofInt (IntKind.bits .u64) b).toNat : Int) K := .and x 9223372036854775808 _ ha hb hx (by omega) (and_sign hx) hk
theorem SWrap.turn {a b : Int} {K : Int → Prop} (x : Nat) (ha : a = x) (hb : b = 9223372036854775808) (hx : x < 18446744073709551616) (hk : K ((flip x : Nat) : Int)) :
    SWrap .u64 ((BitVec.ofInt (IntKind.bits .u64) a ^^^ BitVec.ofInt (IntKind.bits .u64) b).toNat : Int) K := .xor x 9223372036854775808 _ ha hb hx (by omega) (xor_sign hx) hk
theorem flip_lt {x : Nat} (h : x < 18446744073709551616) : flip x < 18446744073709551616 := by unfold flip; split <;> omega
theorem SShr52 {a : Nat} {K : Int → Prop} (hk : K ((a / 4503599627370496 : Nat) : Int)) : SGe 52 (SZ ((a : Int).fdiv (2 ^ (min (52 : Int).toNat (IntKind.bits .u64)))) K) :=
  .mk (by decide) (.mk _ (by
    show Int.fdiv (a : Int) 4503599627370496 = _
    rw [Int.fdiv_eq_ediv_of_nonneg _ (by decide)]; omega) hk)

/-! #### kinds of floats -/
def mag (f : Nat) : Nat := f % 9223372036854775808
def ngt (f : Nat) : Bool := decide (9223372036854775808 ≤ f)
def isNan (f : Nat) : Bool := decide (9218868437227405312 < f % 9223372036854775808)
def isInf (f : Nat) : Bool := decide (f % 9223372036854775808 = 9218868437227405312)
def isZ (f : Nat) : Bool := decide (f % 9223372036854775808 = 0)
end Go.Proofs.Ytkaooejeljdbnaa
