/- Floats: kinds, signs, values, shifts; digits and small ones of natural numbers. -/
import Derived.Test.YtjcmiedpgabdbaaFb
namespace Go.Proofs.Ytjcmiedpgabdbaa
open Go
set_option linter.unusedVariables false
set_option linter.unusedSimpArgs false
set_option maxRecDepth 10000

theorem nbits_ok (m : Bool) (a : Nat) (ha : nlen a ≤ 549755813888) : CallP Try.prog 121 [natM m a] (.p (.int .i64 (bitLen a))) [] := by
  refine callG_of_vc (wr := wr0) Γok mixed Try.func121 (by kernel_rfl) rfl (by kernel_rfl) (le_of_ble rfl) (by simp) ?_
  refine SZ.mk (nlen a) (by simp) ?_
  by_cases h0 : a = 0
  · have := nlen_zero_iff.2 h0
    refine SCmp.yes (eqT (by omega)) ?_
    rw [bitLen_zero_iff.2 h0]
    exact SRet.pure (.p _ (.int _ _))
  · have hn := mt nlen_zero_iff.1 h0
    refine SCmp.no (eqF (by omega)) ?_
    obtain ⟨L, hL⟩ : ∃ L, nlen a = L + 1 := ⟨nlen a - 1, by omega⟩
    have hL' : (nl a).length = L + 1 := hL
    have l1 : (nl a).getD L 0 < 4294967296 := getD_lt (nl_ok a) L
    have e1 : a / 2 ^ (32 * L) = (nl a).getD L 0 := by
      rw [nl_getD, Nat.pow_mul]
      have := lt_nlen a
      rw [hL, Nat.pow_succ, Nat.mul_comm] at this
      have h2 : a / 4294967296 ^ L < 4294967296 := (Nat.div_lt_iff_lt_mul (pow_pos' L)).2 this
      exact (Nat.mod_eq_of_lt h2).symm
    have hz := nl_last h0
    rw [hL', Nat.add_sub_cancel] at hz
    have hb : bitLen a = 32 * L + bitLen ((nl a).getD L 0) := by rw [← e1] at hz ⊢; exact bitLen_shift a (32 * L) hz
    have hb32 : bitLen ((nl a).getD L 0) ≤ 32 := bitLen_le l1
    refine SZ.mk ((L + 1 : Nat) : Int) (by simp [hL']) ?_
    refine SWrap.i64z (L : Int) (by omega) (by omega) ?_
    refine SWrap.i64z ((32 * L : Nat) : Int) (by omega) (by omega) ?_
    refine SZ.mk ((L + 1 : Nat) : Int) (by simp [hL']) ?_
    refine SWrap.i64z (L : Int) (by omega) (by omega) ?_
    refine SIdx.lb L rfl (by omega) ?_
    refine SCall.pure (len32_ok _ l1) ?_
    refine SWrap.i64z (bitLen a : Int) (by omega) (by omega) ?_
    exact SRet.pure (.p _ (.int _ _))

theorem nsmall_ok (m : Bool) (a : Nat) (ha : a < 18446744073709551616) : CallP Try.prog 125 [natM m a] (.tup [.p (.int .u64 a), .p (.bool true)]) [] := by
  refine callG_of_vc (wr := wr0) Γok mixed Try.func125 (by kernel_rfl) rfl (by kernel_rfl) (le_of_ble rfl) (by simp) ?_
  have hb : bitLen a ≤ 64 := bitLen_le ha
  have hn : nlen a ≤ 2 := nlen_le (by omega)
  refine SCall.pure (nbits_ok m a (by omega)) ?_
  refine SCmp.no (decide_eq_false (by omega)) ?_
  refine SZ.mk (nlen a : Int) (by simp) ?_
  refine SLoop.mk Nat (fun i => ([(4, .p (.int .u64 ((a % 4294967296 ^ i : Nat) : Int))), (10, .p (natM m a)), (11, .p (.int .i64 (nlen a))), (12, .p (.int .i64 i))], [])) (fun i => i ≤ nlen a) (fun i => nlen a - i) 0 []
    (Nat.zero_le _) ⟨rfl, .nil, rfl, rfl, rfl, ⟨?_, rfl, rfl, rfl, trivial⟩, trivial⟩ ?_
  · rw [Nat.pow_zero, Nat.mod_one]; rfl
  intro i h1
  have h1 : i ≤ nlen a := h1
  by_cases hi : i < nlen a
  · refine SCmp.yes (decide_eq_true (by omega)) ?_
    have l1 : (nl a).getD i 0 < 4294967296 := getD_lt (nl_ok a) i
    have hlen : (nl a).length = nlen a := rfl
    refine SIdx.lb i rfl (by omega) ?_
    refine SWrap.u64z ((nl a).getD i 0) rfl (by omega) ?_
    refine SWrap.i64z ((32 * i : Nat) : Int) (by omega) (by omega) ?_
    refine SGe.mk (by omega) ?_
    have e0 : a % 4294967296 ^ (i + 1) = a % 4294967296 ^ i + 4294967296 ^ i * (nl a).getD i 0 := by rw [nl_getD]; exact Nat.mod_pow_succ
    have hlt : a % 4294967296 ^ i < 4294967296 ^ i := Nat.mod_lt _ (pow_pos' i)
    have e1 : (4294967296 : Nat) ^ i = 2 ^ (32 * i) := by rw [Nat.pow_mul]
    have hlt1 : 4294967296 ^ i * (nl a).getD i 0 < 18446744073709551616 := by
      rcases (show i = 0 ∨ i = 1 by omega) with h | h
      · rw [h] at l1 ⊢; omega
      · rw [h] at l1 ⊢; omega
    refine SWrap.u64z (4294967296 ^ i * (nl a).getD i 0) ?_ hlt1 ?_
    · have : (min ((32 * i : Nat) : Int).toNat (IntKind.bits .u64)) = 32 * i := by
        show min ((32 * i : Nat) : Int).toNat 64 = 32 * i
        omega
      rw [this, e1, Int.natCast_mul, Int.natCast_pow, Int.mul_comm]; rfl
    refine SWrap.or (a % 4294967296 ^ i) (4294967296 ^ i * (nl a).getD i 0) (a % 4294967296 ^ (i + 1)) rfl rfl (Nat.lt_of_le_of_lt (Nat.mod_le _ _) ha) hlt1 ?_ ?_
    · rw [Nat.or_comm, or_sum (k := 32 * i) (a := (nl a).getD i 0) (by rw [← e1]; exact hlt) (by rw [← e1]), e0, Nat.add_comm]
    refine SWrap.i64z ((i + 1 : Nat) : Int) (by omega) (by omega) ?_
    exact ⟨i + 1, [], hi, by show nlen a - (i + 1) < nlen a - i; omega, ⟨rfl, .nil, rfl, rfl, rfl, ⟨rfl, rfl, rfl, rfl, trivial⟩, trivial⟩⟩
  · refine SCmp.no (decide_eq_false (by omega)) ?_
    have : i = nlen a := by omega
    subst this
    rw [Nat.mod_eq_of_lt (lt_nlen a)]
    exact SRet.pure (.tup rfl fun i c d e1 e2 => by
      match i, e1, e2 with
      | 0, e1, e2 => cases e1; cases e2; exact .p _ (.int _ _)
      | 1, e1, e2 => cases e1; cases e2; exact .tf _)

theorem nan_ok (f : Nat) (hf : f < 18446744073709551616) (b : Bool) (hb : isNan f = b) : CallP Try.prog 84 [.int .u64 f] (.p (.bool b)) [] := by
  refine callG_of_vc (wr := wr0) Γok mixed Try.func84 (by kernel_rfl) rfl (by kernel_rfl) (le_of_ble rfl) (by simp) ?_
  refine SWrap.nosign f rfl rfl hf ?_
  unfold isNan at hb
  cases b with
  | true => refine SCmp.yes (decide_eq_true (by have := of_decide_eq_true hb; omega)) ?_; exact SRet.pure (.tf _)
  | false => refine SCmp.no (decide_eq_false (by have := of_decide_eq_false hb; omega)) ?_; exact SRet.pure (.tf _)
theorem infinite_ok (f : Nat) (hf : f < 18446744073709551616) (b : Bool) (hb : isInf f = b) : CallP Try.prog 87 [.int .u64 f] (.p (.bool b)) [] := by
  refine callG_of_vc (wr := wr0) Γok mixed Try.func87 (by kernel_rfl) rfl (by kernel_rfl) (le_of_ble rfl) (by simp) ?_
  refine SWrap.nosign f rfl rfl hf ?_
  unfold isInf at hb
  cases b with
  | true => refine SCmp.yes (eqT (by have := of_decide_eq_true hb; omega)) ?_; exact SRet.pure (.tf _)
  | false => refine SCmp.no (eqF (by have := of_decide_eq_false hb; omega)) ?_; exact SRet.pure (.tf _)
theorem nought_ok (f : Nat) (hf : f < 18446744073709551616) (b : Bool) (hb : isZ f = b) : CallP Try.prog 85 [.int .u64 f] (.p (.bool b)) [] := by
  refine callG_of_vc (wr := wr0) Γok mixed Try.func85 (by kernel_rfl) rfl (by kernel_rfl) (le_of_ble rfl) (by simp) ?_
  refine SWrap.nosign f rfl rfl hf ?_
  unfold isZ at hb
  cases b with
  | true => refine SCmp.yes (eqT (by have := of_decide_eq_true hb; omega)) ?_; exact SRet.pure (.tf _)
  | false => refine SCmp.no (eqF (by have := of_decide_eq_false hb; omega)) ?_; exact SRet.pure (.tf _)
theorem below_ok (f : Nat) (hf : f < 18446744073709551616) (b : Bool) (hb : ngt f = b) : CallP Try.prog 88 [.int .u64 f] (.p (.bool b)) [] := by
  refine callG_of_vc (wr := wr0) Γok mixed Try.func88 (by kernel_rfl) rfl (by kernel_rfl) (le_of_ble rfl) (by simp) ?_
  refine SWrap.sign f rfl rfl hf ?_
  unfold ngt at hb
  cases b with
  | true => refine SCmp.yes (neT (by have := of_decide_eq_true hb; rw [if_pos this]; decide)) ?_; exact SRet.pure (.tf _)
  | false => refine SCmp.no (neF (by have := of_decide_eq_false hb; rw [if_neg this]; rfl)) ?_; exact SRet.pure (.tf _)
theorem signed_ok (c : Nat) (hc : c < 9223372036854775808) (neg : Bool) : CallP Try.prog 86 [.int .u64 c, .bool neg] (.p (.int .u64 (sg neg c))) [] := by
  refine callG_of_vc (wr := wr0) Γok mixed Try.func86 (by kernel_rfl) rfl (by kernel_rfl) (le_of_ble rfl) (by simp) ?_
  cases neg with
  | true =>
    refine SCond.mk (fun _ => ?_) (fun h => by cases h)
    refine SWrap.or c 9223372036854775808 _ rfl rfl (by omega) (by omega) (or_sign hc) ?_
    exact SRet.pure (.p _ (.int _ _))
  | false =>
    refine SCond.mk (fun h => by cases h) (fun _ => ?_)
    exact SRet.pure (.p _ (.int _ _))
theorem wrong_ok : CallP Try.prog 97 [] (.tup [.p (.int .u64 9221120237041090560), .p (.int .i64 16)]) [] := by
  refine callG_of_vc (wr := wr0) Γok mixed Try.func97 (by kernel_rfl) rfl (by kernel_rfl) (le_of_ble rfl) (by simp) ?_
  exact SRet.pure (.tup rfl fun i c d e1 e2 => by
    match i, e1, e2 with
    | 0, e1, e2 => cases e1; cases e2; exact .p _ (.int _ _)
    | 1, e1, e2 => cases e1; cases e2; exact .p _ (.int _ _))

theorem fshl_ok (m : Bool) (a k : Nat) (ha : nlen a ≤ 274877906944) (hk : k ≤ 1048576) : CallP Try.prog 108 [natM m a, .int .i64 k] (.p (natP (a * 2 ^ k))) [] := by
  refine callG_of_vc (wr := wr0) Γok mixed Try.func108 (by kernel_rfl) rfl (by kernel_rfl) (le_of_ble rfl) (by simp) ?_
  refine SLoop.mk Unit (fun _ => ([(0, .p (natM m a)), (1, .p (.int .i64 k))], [])) (fun _ => True) (fun _ => 0) () [] trivial ⟨rfl, .nil, rfl, rfl, rfl, ⟨rfl, rfl, trivial⟩, trivial⟩ ?_
  intro _ _
  refine SCmp.no (decide_eq_false (by omega)) ?_
  refine SCall.pure (shl_ok m a k ha hk) ?_
  exact SRet.pure (.p _ (.sl _ _ (pers_limbs _)))
theorem fshr_ok (m : Bool) (a k : Nat) (ha : nlen a ≤ 274877906944) (hk : k ≤ 1048576) : CallP Try.prog 123 [natM m a, .int .i64 k] (.p (natP (a / 2 ^ k))) [] := by
  refine callG_of_vc (wr := wr0) Γok mixed Try.func123 (by kernel_rfl) rfl (by kernel_rfl) (le_of_ble rfl) (by simp) ?_
  refine SLoop.mk Unit (fun _ => ([(0, .p (natM m a)), (1, .p (.int .i64 k))], [])) (fun _ => True) (fun _ => 0) () [] trivial ⟨rfl, .nil, rfl, rfl, rfl, ⟨rfl, rfl, trivial⟩, trivial⟩ ?_
  intro _ _
  refine SCmp.no (decide_eq_false (by omega)) ?_
  refine SCall.pure (shr_ok m a k ha hk) ?_
  exact SRet.pure (.p _ (.sl _ _ (pers_limbs _)))

/-- A value: its sign, a whole number times a power of two, whether there is something behind. -/
abbrev numP (neg : Bool) (m : Nat) (e : Int) (more : Bool) : PV := .agg [.bool neg, natP m, .int .i64 e, .bool more]
theorem pers_num (neg : Bool) (m : Nat) (e : Int) (more : Bool) : Pers (numP neg m e more) := .agg _ fun c hc => by
  simp at hc
  rcases hc with rfl | rfl | rfl | rfl
  · exact .bool _
  · exact .sl _ _ (pers_limbs _)
  · exact .int _ _
  · exact .bool _

theorem ofnum_ok (f : Nat) (hf : f < 18446744073709551616) : CallP Try.prog 99 [.int .u64 f] (.p (numP (ngt f) (fsig (mag f)) (fexp (mag f)) false)) [] := by
  refine callG_of_vc (wr := wr0) Γok mixed Try.func99 (by kernel_rfl) rfl (by kernel_rfl) (le_of_ble rfl) (by simp) ?_
  refine SWrap.and f 4503599627370495 _ rfl rfl hf (by omega) (low52 f) ?_
  refine SShr52 ?_
  refine SWrap.and (f / 4503599627370496) 2047 _ rfl rfl (by omega) (by omega) (low11 _) ?_
  refine SWrap.i64z ((f / 4503599627370496 % 2048 : Nat) : Int) rfl (by omega) ?_
  by_cases h : 0 < f / 4503599627370496 % 2048
  · refine SCmp.yes (decide_eq_true (by omega)) ?_
    refine SCall.pure (below_ok f hf _ rfl) ?_
    refine SWrap.or (f % 4503599627370496) 4503599627370496 _ rfl rfl (by omega) (by omega) (or_unit (by omega)) ?_
    refine SCall.pure (of_ok (f % 4503599627370496 + 4503599627370496) (by omega)) ?_
    refine SWrap.i64z (fexp (mag f)) (by rw [fexp, mag, if_neg (by omega)]; omega) (by rw [fexp, mag, if_neg (by omega)]; omega) ?_
    rw [show f % 4503599627370496 + 4503599627370496 = fsig (mag f) by rw [fsig, mag, if_neg (by omega)]; omega]
    exact SRet.pure (.p _ (pers_num _ _ _ _))
  · refine SCmp.no (decide_eq_false (by omega)) ?_
    refine SCall.pure (below_ok f hf _ rfl) ?_
    refine SCall.pure (of_ok (f % 4503599627370496) (by omega)) ?_
    rw [show f % 4503599627370496 = fsig (mag f) by rw [fsig, mag, if_pos (by omega)]; omega, show (-1074 : Int) = fexp (mag f) by rw [fexp, mag, if_pos (by omega)]]
    exact SRet.pure (.p _ (pers_num _ _ _ _))
end Go.Proofs.Ytjcmiedpgabdbaa
