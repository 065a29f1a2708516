/- The program floats: what rounds, what tells a float, order, next. -/
import Derived.Test.YtkaooejeljdbnaaFb
/- Floats: kinds, signs, values, shifts; digits and small ones of natural numbers. -/
namespace Go.Proofs.Ytkaooejeljdbnaa
open Go
set_option linter.unusedVariables false
set_option linter.unusedSimpArgs false
set_option maxRecDepth 10000

theorem nbits_ok (m : Bool) (a : Nat) (ha : nlen a ≤ 549755813888) : CallP Try.prog 173 [natM m a] (.p (.int .i64 (bitLen a))) [] := by
  refine callG_of_vc (wr := wr0) Γok mixed Try.func173 (by kernel_rfl) rfl (by kernel_rfl) (le_of_ble rfl) (by simp) ?_
  refine SZ.mk (nlen a) (by simp) ?_
  by_cases h0 : a = 0
  · have := nlen_zero_iff.2 h0
    refine SCmp.yes (eqT (by omega)) ?_
    rw [bitLen_zero_iff.2 h0]
    exact SRet.pure (.p _ (.int _ _))
  · have hn := mt nlen_zero_iff.1 h0
    refine SCmp.no (eqF (by omega)) ?_
    obtain ⟨L, hL⟩ : ∃ L, nlen a = L + 1 := ⟨nlen a - 1, by omega⟩
    have hL' : (nl a).length = L + 1 := hL
    have l1 : (nl a).getD L 0 < 4294967296 := getD_lt (nl_ok a) L
    have e1 : a / 2 ^ (32 * L) = (nl a).getD L 0 := by
      rw [nl_getD, Nat.pow_mul]
      have := lt_nlen a
      rw [hL, Nat.pow_succ, Nat.mul_comm] at this
      have h2 : a / 4294967296 ^ L < 4294967296 := (Nat.div_lt_iff_lt_mul (pow_pos' L)).2 this
      exact (Nat.mod_eq_of_lt h2).symm
    have hz := nl_last h0
    rw [hL', Nat.add_sub_cancel] at hz
    have hb : bitLen a = 32 * L + bitLen ((nl a).getD L 0) := by rw [← e1] at hz ⊢; exact bitLen_shift a (32 * L) hz
    have hb32 : bitLen ((nl a).getD L 0) ≤ 32 := bitLen_le l1
    refine SZ.mk ((L + 1 : Nat) : Int) (by simp [hL']) ?_
    refine SWrap.i64z (L : Int) (by omega) (by omega) ?_
    refine SWrap.i64z ((32 * L : Nat) : Int) (by omega) (by omega) ?_
    refine SZ.mk ((L + 1 : Nat) : Int) (by simp [hL']) ?_
    refine SWrap.i64z (L : Int) (by omega) (by omega) ?_
    refine SIdx.lb L rfl (by omega) ?_
    refine SCall.pure (len32_ok _ l1) ?_
    refine SWrap.i64z (bitLen a : Int) (by omega) (by omega) ?_
    exact SRet.pure (.p _ (.int _ _))

theorem nsmall_ok (m : Bool) (a : Nat) (ha : a < 18446744073709551616) : CallP Try.prog 177 [natM m a] (.tup [.p (.int .u64 a), .p (.bool true)]) [] := by
  refine callG_of_vc (wr := wr0) Γok mixed Try.func177 (by kernel_rfl) rfl (by kernel_rfl) (le_of_ble rfl) (by simp) ?_
  have hb : bitLen a ≤ 64 := bitLen_le ha
  have hn : nlen a ≤ 2 := nlen_le (by omega)
  refine SCall.pure (nbits_ok m a (by omega)) ?_
  refine SCmp.no (decide_eq_false (by omega)) ?_
  refine SZ.mk (nlen a : Int) (by simp) ?_
  refine SLoop.mk Nat (fun i => ([(4, .p (.int .u64 ((a % 4294967296 ^ i : Nat) : Int))), (10, .p (natM m a)), (11, .p (.int .i64 (nlen a))), (12, .p (.int .i64 i))], [])) (fun i => i ≤ nlen a) (fun i => nlen a - i) 0 []
    (Nat.zero_le _) ⟨rfl, .nil, rfl, rfl, rfl, ⟨?_, rfl, rfl, rfl, trivial⟩, trivial⟩ ?_
  · rw [Nat.pow_zero, Nat.mod_one]; rfl
  intro i h1
  have h1 : i ≤ nlen a := h1
  by_cases hi : i < nlen a
  · refine SCmp.yes (decide_eq_true (by omega)) ?_
    have l1 : (nl a).getD i 0 < 4294967296 := getD_lt (nl_ok a) i
    have hlen : (nl a).length = nlen a := rfl
    refine SIdx.lb i rfl (by omega) ?_
    refine SWrap.u64z ((nl a).getD i 0) rfl (by omega) ?_
    refine SWrap.i64z ((32 * i : Nat) : Int) (by omega) (by omega) ?_
    refine SGe.mk (by omega) ?_
    have e0 : a % 4294967296 ^ (i + 1) = a % 4294967296 ^ i + 4294967296 ^ i * (nl a).getD i 0 := by rw [nl_getD]; exact Nat.mod_pow_succ
    have hlt : a % 4294967296 ^ i < 4294967296 ^ i := Nat.mod_lt _ (pow_pos' i)
    have e1 : (4294967296 : Nat) ^ i = 2 ^ (32 * i) := by rw [Nat.pow_mul]
    have hlt1 : 4294967296 ^ i * (nl a).getD i 0 < 18446744073709551616 := by
      rcases (show i = 0 ∨ i = 1 by omega) with h | h
      · rw [h] at l1 ⊢; omega
      · rw [h] at l1 ⊢; omega
    refine SWrap.u64z (4294967296 ^ i * (nl a).getD i 0) ?_ hlt1 ?_
    · have : (min ((32 * i : Nat) : Int).toNat (IntKind.bits .u64)) = 32 * i := by
        show min ((32 * i : Nat) : Int).toNat 64 = 32 * i
        omega
      rw [this, e1, Int.natCast_mul, Int.natCast_pow, Int.mul_comm]; rfl
    refine SWrap.or (a % 4294967296 ^ i) (4294967296 ^ i * (nl a).getD i 0) (a % 4294967296 ^ (i + 1)) rfl rfl (Nat.lt_of_le_of_lt (Nat.mod_le _ _) ha) hlt1 ?_ ?_
    · rw [Nat.or_comm, or_sum (k := 32 * i) (a := (nl a).getD i 0) (by rw [← e1]; exact hlt) (by rw [← e1]), e0, Nat.add_comm]
    refine SWrap.i64z ((i + 1 : Nat) : Int) (by omega) (by omega) ?_
    exact ⟨i + 1, [], hi, by show nlen a - (i + 1) < nlen a - i; omega, ⟨rfl, .nil, rfl, rfl, rfl, ⟨rfl, rfl, rfl, rfl, trivial⟩, trivial⟩⟩
  · refine SCmp.no (decide_eq_false (by omega)) ?_
    have : i = nlen a := by omega
    subst this
    rw [Nat.mod_eq_of_lt (lt_nlen a)]
    exact SRet.pure (.tup rfl fun i c d e1 e2 => by
      match i, e1, e2 with
      | 0, e1, e2 => cases e1; cases e2; exact .p _ (.int _ _)
      | 1, e1, e2 => cases e1; cases e2; exact .tf _)

theorem signed_ok (c : Nat) (hc : c < 9223372036854775808) (neg : Bool) : CallP Try.prog 180 [.int .u64 c, .bool neg] (.p (.int .u64 (sg neg c))) [] := by
  refine callG_of_vc (wr := wr0) Γok mixed Try.func180 (by kernel_rfl) rfl (by kernel_rfl) (le_of_ble rfl) (by simp) ?_
  cases neg with
  | true =>
    refine SCond.mk (fun _ => ?_) (fun h => by cases h)
    refine SWrap.or c 9223372036854775808 _ rfl rfl (by omega) (by omega) (or_sign hc) ?_
    exact SRet.pure (.p _ (.int _ _))
  | false =>
    refine SCond.mk (fun h => by cases h) (fun _ => ?_)
    exact SRet.pure (.p _ (.int _ _))
theorem fshl_ok (m : Bool) (a k : Nat) (ha : nlen a ≤ 274877906944) (hk : k ≤ 1048576) : CallP Try.prog 174 [natM m a, .int .i64 k] (.p (natP (a * 2 ^ k))) [] := by
  refine callG_of_vc (wr := wr0) Γok mixed Try.func174 (by kernel_rfl) rfl (by kernel_rfl) (le_of_ble rfl) (by simp) ?_
  refine SLoop.mk Unit (fun _ => ([(0, .p (natM m a)), (1, .p (.int .i64 k))], [])) (fun _ => True) (fun _ => 0) () [] trivial ⟨rfl, .nil, rfl, rfl, rfl, ⟨rfl, rfl, trivial⟩, trivial⟩ ?_
  intro _ _
  refine SCmp.no (decide_eq_false (by omega)) ?_
  refine SCall.pure (shl_ok m a k ha hk) ?_
  exact SRet.pure (.p _ (.sl _ _ (pers_limbs _)))
theorem fshr_ok (m : Bool) (a k : Nat) (ha : nlen a ≤ 274877906944) (hk : k ≤ 1048576) : CallP Try.prog 175 [natM m a, .int .i64 k] (.p (natP (a / 2 ^ k))) [] := by
  refine callG_of_vc (wr := wr0) Γok mixed Try.func175 (by kernel_rfl) rfl (by kernel_rfl) (le_of_ble rfl) (by simp) ?_
  refine SLoop.mk Unit (fun _ => ([(0, .p (natM m a)), (1, .p (.int .i64 k))], [])) (fun _ => True) (fun _ => 0) () [] trivial ⟨rfl, .nil, rfl, rfl, rfl, ⟨rfl, rfl, trivial⟩, trivial⟩ ?_
  intro _ _
  refine SCmp.no (decide_eq_false (by omega)) ?_
  refine SCall.pure (shr_ok m a k ha hk) ?_
  exact SRet.pure (.p _ (.sl _ _ (pers_limbs _)))

/-- A value: its sign, a whole number times a power of two, whether there is something behind. -/
abbrev numP (neg : Bool) (m : Nat) (e : Int) (more : Bool) : PV := .agg [.bool neg, natP m, .int .i64 e, .bool more]
theorem pers_num (neg : Bool) (m : Nat) (e : Int) (more : Bool) : Pers (numP neg m e more) := .agg _ fun c hc => by
  simp at hc
  rcases hc with rfl | rfl | rfl | rfl
  · exact .bool _
  · exact .sl _ _ (pers_limbs _)
  · exact .int _ _
  · exact .bool _

end Go.Proofs.Ytkaooejeljdbnaa

/- Floats: rounding. -/
namespace Go.Proofs.Ytkaooejeljdbnaa
open Go
set_option linter.unusedVariables false
set_option linter.unusedSimpArgs false
set_option maxRecDepth 10000

abbrev partP (sm : Bool) (half : Int) : PV := .agg [.bool sm, .int .i64 half]
theorem pers_part (sm : Bool) (half : Int) : Pers (partP sm half) := .agg _ fun c hc => by
  simp at hc
  rcases hc with rfl | rfl
  · exact .bool _
  · exact .int _ _

theorem goUp_d {mode half : Int} {neg sm odd : Bool} (h1 : mode ≠ 1) (h2 : mode ≠ 2) (h3 : mode ≠ 3) (h4 : mode ≠ 4) : goUp mode neg sm odd half = (decide (0 < half) || (decide (half = 0) && odd)) := by
  rw [goUp, if_neg h1, if_neg h2, if_neg h3, if_neg h4]
theorem up_ok (sm : Bool) (half mode : Int) (neg odd : Bool) : CallP Try.prog 178 [partP sm half, .int .i64 mode, .bool neg, .bool odd] (.p (.bool (goUp mode neg sm odd half))) [] := by
  refine callG_of_vc (wr := wr0) Γok mixed Try.func178 (by kernel_rfl) rfl (by kernel_rfl) (le_of_ble rfl) (by simp) ?_
  by_cases h1 : mode = 1
  · rw [show goUp mode neg sm odd half = false by rw [goUp, if_pos h1]]
    refine SCmp.yes (eqT h1) ?_
    first | exact SRet.pure (.tf _) | exact SRet.pure (.p _ (.bool _))
  refine SCmp.no (eqF h1) ?_
  by_cases h2 : mode = 2
  · refine SCmp.yes (eqT h2) ?_
    rw [show goUp mode neg sm odd half = (neg && sm) by rw [goUp, if_neg h1, if_pos h2]]
    cases neg <;> cases sm
    · refine SCond.mk (fun h => by cases h) (fun _ => ?_)
      first | exact SRet.pure (.tf _) | exact SRet.pure (.p _ (.bool _))
    · refine SCond.mk (fun h => by cases h) (fun _ => ?_)
      first | exact SRet.pure (.tf _) | exact SRet.pure (.p _ (.bool _))
    · refine SCond.mk (fun _ => ?_) (fun h => by cases h)
      first | exact SRet.pure (.tf _) | exact SRet.pure (.p _ (.bool _))
    · refine SCond.mk (fun _ => ?_) (fun h => by cases h)
      first | exact SRet.pure (.tf _) | exact SRet.pure (.p _ (.bool _))
  refine SCmp.no (eqF h2) ?_
  by_cases h3 : mode = 3
  · refine SCmp.yes (eqT h3) ?_
    rw [show goUp mode neg sm odd half = (!neg && sm) by rw [goUp, if_neg h1, if_neg h2, if_pos h3]]
    cases neg <;> cases sm
    · refine SCmp.yes (rfl) ?_
      first | exact SRet.pure (.tf _) | exact SRet.pure (.p _ (.bool _))
    · refine SCmp.yes (rfl) ?_
      first | exact SRet.pure (.tf _) | exact SRet.pure (.p _ (.bool _))
    · refine SCmp.no (rfl) ?_
      first | exact SRet.pure (.tf _) | exact SRet.pure (.p _ (.bool _))
    · refine SCmp.no (rfl) ?_
      first | exact SRet.pure (.tf _) | exact SRet.pure (.p _ (.bool _))
  refine SCmp.no (eqF h3) ?_
  by_cases h4 : mode = 4
  · refine SCmp.yes (eqT h4) ?_
    rw [show goUp mode neg sm odd half = decide (0 ≤ half) by rw [goUp, if_neg h1, if_neg h2, if_neg h3, if_pos h4]]
    by_cases h : 0 ≤ half
    · rw [decide_eq_true h]
      refine SCmp.yes (decide_eq_true (by omega)) ?_
      first | exact SRet.pure (.tf _) | exact SRet.pure (.p _ (.bool _))
    · rw [decide_eq_false h]
      refine SCmp.no (decide_eq_false (by omega)) ?_
      first | exact SRet.pure (.tf _) | exact SRet.pure (.p _ (.bool _))
  refine SCmp.no (eqF h4) ?_
  rw [goUp_d h1 h2 h3 h4]
  by_cases h : 0 < half
  · rw [decide_eq_true h]
    refine SCmp.yes (decide_eq_true (by omega)) ?_
    first | exact SRet.pure (.tf _) | exact SRet.pure (.p _ (.bool _))
  rw [decide_eq_false h]
  refine SCmp.no (decide_eq_false (by omega)) ?_
  by_cases h0 : half = 0
  · rw [decide_eq_true h0]
    refine SCmp.yes (eqT h0) ?_
    cases odd
    · first | exact SRet.pure (.tf _) | exact SRet.pure (.p _ (.bool _))
    · first | exact SRet.pure (.tf _) | exact SRet.pure (.p _ (.bool _))
  · rw [decide_eq_false h0]
    refine SCmp.no (eqF h0) ?_
    first | exact SRet.pure (.tf _) | exact SRet.pure (.p _ (.bool _))

theorem lim_lt (neg : Bool) (mode : Int) : lim neg mode < 9223372036854775808 := by unfold lim; split <;> omega
theorem beyond_ok (neg : Bool) (mode : Int) : CallP Try.prog 179 [.bool neg, .int .i64 mode] (.tup [.p (.int .u64 (sg neg (lim neg mode))), .p (.int .i64 5)]) [] := by
  refine callG_of_vc (wr := wr0) Γok mixed Try.func179 (by kernel_rfl) rfl (by kernel_rfl) (le_of_ble rfl) (by simp) ?_
  by_cases h0 : mode < 0
  · refine SCmp.yes (decide_eq_true (by omega)) ?_
    rw [show lim neg mode = 9218868437227405312 by rw [lim, if_neg (by omega)]]
    refine SPos.mk 0 rfl (by decide) ?_
    refine SCall.pure (signed_ok 9218868437227405312 (by decide) _) ?_
    exact SRet.pure (.tup rfl fun i c d e1 e2 => by
      match i, e1, e2 with
      | 0, e1, e2 => cases e1; cases e2; exact .p _ (.int _ _)
      | 1, e1, e2 => cases e1; cases e2; exact .p _ (.int _ _))
  refine SCmp.no (decide_eq_false (by omega)) ?_
  by_cases h5 : 5 ≤ mode
  · refine SCmp.yes (decide_eq_true (by omega)) ?_
    rw [show lim neg mode = 9218868437227405312 by rw [lim, if_neg (by omega)]]
    refine SPos.mk 0 rfl (by decide) ?_
    refine SCall.pure (signed_ok 9218868437227405312 (by decide) _) ?_
    exact SRet.pure (.tup rfl fun i c d e1 e2 => by
      match i, e1, e2 with
      | 0, e1, e2 => cases e1; cases e2; exact .p _ (.int _ _)
      | 1, e1, e2 => cases e1; cases e2; exact .p _ (.int _ _))
  refine SCmp.no (decide_eq_false (by omega)) ?_
  rcases (show mode = 0 ∨ mode = 1 ∨ mode = 2 ∨ mode = 3 ∨ mode = 4 by omega) with h | h | h | h | h
  · subst h
    cases neg
    · refine SCond.mk (fun h => by cases h) (fun _ => ?_)
      refine SCond.mk (fun h => by cases h) (fun _ => ?_)
      refine SPos.mk 0 rfl (by decide) ?_
      refine SCall.pure (signed_ok 9218868437227405312 (by decide) _) ?_
      exact SRet.pure (.tup rfl fun i c d e1 e2 => by
        match i, e1, e2 with
        | 0, e1, e2 => cases e1; cases e2; exact .p _ (.int _ _)
        | 1, e1, e2 => cases e1; cases e2; exact .p _ (.int _ _))
    · refine SCond.mk (fun _ => ?_) (fun h => by cases h)
      refine SCmp.no (rfl) ?_
      refine SCond.mk (fun _ => ?_) (fun h => by cases h)
      refine SCmp.no (rfl) ?_
      refine SPos.mk 0 rfl (by decide) ?_
      refine SCall.pure (signed_ok 9218868437227405312 (by decide) _) ?_
      exact SRet.pure (.tup rfl fun i c d e1 e2 => by
        match i, e1, e2 with
        | 0, e1, e2 => cases e1; cases e2; exact .p _ (.int _ _)
        | 1, e1, e2 => cases e1; cases e2; exact .p _ (.int _ _))
  · subst h
    cases neg
    · refine SCond.mk (fun h => by cases h) (fun _ => ?_)
      refine SCond.mk (fun h => by cases h) (fun _ => ?_)
      refine SPos.mk 1 rfl (by decide) ?_
      refine SCall.pure (signed_ok 9218868437227405311 (by decide) _) ?_
      exact SRet.pure (.tup rfl fun i c d e1 e2 => by
        match i, e1, e2 with
        | 0, e1, e2 => cases e1; cases e2; exact .p _ (.int _ _)
        | 1, e1, e2 => cases e1; cases e2; exact .p _ (.int _ _))
    · refine SCond.mk (fun _ => ?_) (fun h => by cases h)
      refine SCmp.no (rfl) ?_
      refine SCond.mk (fun _ => ?_) (fun h => by cases h)
      refine SCmp.no (rfl) ?_
      refine SPos.mk 1 rfl (by decide) ?_
      refine SCall.pure (signed_ok 9218868437227405311 (by decide) _) ?_
      exact SRet.pure (.tup rfl fun i c d e1 e2 => by
        match i, e1, e2 with
        | 0, e1, e2 => cases e1; cases e2; exact .p _ (.int _ _)
        | 1, e1, e2 => cases e1; cases e2; exact .p _ (.int _ _))
  · subst h
    cases neg
    · refine SCond.mk (fun h => by cases h) (fun _ => ?_)
      refine SCond.mk (fun h => by cases h) (fun _ => ?_)
      refine SPos.mk 2 rfl (by decide) ?_
      refine SCall.pure (signed_ok 9218868437227405311 (by decide) _) ?_
      exact SRet.pure (.tup rfl fun i c d e1 e2 => by
        match i, e1, e2 with
        | 0, e1, e2 => cases e1; cases e2; exact .p _ (.int _ _)
        | 1, e1, e2 => cases e1; cases e2; exact .p _ (.int _ _))
    · refine SCond.mk (fun _ => ?_) (fun h => by cases h)
      refine SCmp.yes (rfl) ?_
      refine SPos.mk 3 rfl (by decide) ?_
      refine SCall.pure (signed_ok 9218868437227405312 (by decide) _) ?_
      exact SRet.pure (.tup rfl fun i c d e1 e2 => by
        match i, e1, e2 with
        | 0, e1, e2 => cases e1; cases e2; exact .p _ (.int _ _)
        | 1, e1, e2 => cases e1; cases e2; exact .p _ (.int _ _))
  · subst h
    cases neg
    · refine SCond.mk (fun h => by cases h) (fun _ => ?_)
      refine SCond.mk (fun h => by cases h) (fun _ => ?_)
      refine SPos.mk 3 rfl (by decide) ?_
      refine SCall.pure (signed_ok 9218868437227405312 (by decide) _) ?_
      exact SRet.pure (.tup rfl fun i c d e1 e2 => by
        match i, e1, e2 with
        | 0, e1, e2 => cases e1; cases e2; exact .p _ (.int _ _)
        | 1, e1, e2 => cases e1; cases e2; exact .p _ (.int _ _))
    · refine SCond.mk (fun _ => ?_) (fun h => by cases h)
      refine SCmp.no (rfl) ?_
      refine SCond.mk (fun _ => ?_) (fun h => by cases h)
      refine SCmp.yes (rfl) ?_
      refine SPos.mk 2 rfl (by decide) ?_
      refine SCall.pure (signed_ok 9218868437227405311 (by decide) _) ?_
      exact SRet.pure (.tup rfl fun i c d e1 e2 => by
        match i, e1, e2 with
        | 0, e1, e2 => cases e1; cases e2; exact .p _ (.int _ _)
        | 1, e1, e2 => cases e1; cases e2; exact .p _ (.int _ _))
  · subst h
    cases neg
    · refine SCond.mk (fun h => by cases h) (fun _ => ?_)
      refine SCond.mk (fun h => by cases h) (fun _ => ?_)
      refine SPos.mk 4 rfl (by decide) ?_
      refine SCall.pure (signed_ok 9218868437227405312 (by decide) _) ?_
      exact SRet.pure (.tup rfl fun i c d e1 e2 => by
        match i, e1, e2 with
        | 0, e1, e2 => cases e1; cases e2; exact .p _ (.int _ _)
        | 1, e1, e2 => cases e1; cases e2; exact .p _ (.int _ _))
    · refine SCond.mk (fun _ => ?_) (fun h => by cases h)
      refine SCmp.no (rfl) ?_
      refine SCond.mk (fun _ => ?_) (fun h => by cases h)
      refine SCmp.no (rfl) ?_
      refine SPos.mk 4 rfl (by decide) ?_
      refine SCall.pure (signed_ok 9218868437227405312 (by decide) _) ?_
      exact SRet.pure (.tup rfl fun i c d e1 e2 => by
        match i, e1, e2 with
        | 0, e1, e2 => cases e1; cases e2; exact .p _ (.int _ _)
        | 1, e1, e2 => cases e1; cases e2; exact .p _ (.int _ _))

theorem rest0_ok (m' : Bool) (neg : Bool) (m q : Nat) (e k : Int) (more : Bool) (hk : k ≤ 0) : CallP Try.prog 176 [numP neg m e more, natM m' q, .int .i64 k] (.p (partP more (-1))) [] := by
  refine callG_of_vc (wr := wr0) Γok mixed Try.func176 (by kernel_rfl) rfl (by kernel_rfl) (le_of_ble rfl) (by simp) ?_
  refine SCmp.yes (decide_eq_true (by omega)) ?_
  exact SRet.pure (.p _ (pers_part _ _))
theorem rest_ok (m' : Bool) (neg : Bool) (m : Nat) (e : Int) (k : Nat) (more : Bool) (hk : 0 < k) (hm : nlen m ≤ 137438953472) (hk' : k ≤ 1048576) :
    CallP Try.prog 176 [numP neg m e more, natM m' (m / 2 ^ k), .int .i64 k] (.p (partP (decide (m % 2 ^ k ≠ 0) || more) (halfOf (m % 2 ^ k) k more))) [] := by
  refine callG_of_vc (wr := wr0) Γok mixed Try.func176 (by kernel_rfl) rfl (by kernel_rfl) (le_of_ble rfl) (by simp) ?_
  refine SCmp.no (decide_eq_false (by omega)) ?_
  have hq : nlen (m / 2 ^ k) ≤ nlen m := nlen_mono (Nat.div_le_self _ _)
  have hqm : m / 2 ^ k * 2 ^ k ≤ m := Nat.div_mul_le_self _ _
  have hr : m - m / 2 ^ k * 2 ^ k = m % 2 ^ k := by have := Nat.div_add_mod m (2 ^ k); rw [Nat.mul_comm] at this; omega
  have hrn : nlen (m % 2 ^ k) ≤ nlen m := nlen_mono (Nat.mod_le _ _)
  have hsub := sub_ok false false m (m / 2 ^ k * 2 ^ k) (by omega) (by have := nlen_mono hqm; omega)
  rw [if_pos hqm, hr] at hsub
  refine SDraw.mk (by kernel_rfl) ?_
  repeat refine SOp.mk _ _ (And.intro rfl rfl) rfl ?_
  refine SOp.mk _ _ (SCall.pure (fshl_ok m' (m / 2 ^ k) k (by omega) hk') (And.intro rfl rfl)) rfl ?_
  repeat refine SOp.mk _ _ (And.intro rfl rfl) rfl ?_
  refine SOp.mk _ _ (SCall.pureT (hsub) (fun _ => rfl) (And.intro rfl rfl)) rfl ?_
  repeat refine SOp.mk _ _ (And.intro rfl rfl) rfl ?_
  refine SCall.pure (of_ok 1 (by omega)) ?_
  refine SWrap.i64z ((k - 1 : Nat) : Int) (by omega) (by omega) ?_
  refine SCall.pure (fshl_ok false 1 (k - 1) (by have := nlen_le (n := 1) (k := 1) (by decide); omega) (by omega)) ?_
  rw [Nat.one_mul]
  have h2n : nlen (2 ^ (k - 1)) ≤ 549755813888 := by
    have : bitLen (2 ^ (k - 1)) ≤ k := bitLen_le (Nat.pow_lt_pow_right (by omega) (by omega))
    have := nlen_bitLen (2 ^ (k - 1))
    omega
  refine SCall.pure (cmp_ok false false (m % 2 ^ k) (2 ^ (k - 1)) (by omega) h2n) ?_
  obtain ⟨r, hr'⟩ : ∃ r, r = m % 2 ^ k := ⟨_, rfl⟩
  rw [← hr'] at hrn ⊢
  have hlr : (nl r).length = nlen r := rfl
  by_cases hc : cmpZ r (2 ^ (k - 1)) = 0
  · refine SCmp.yes (eqT hc) ?_
    refine SCond.mk (fun h => ?_) (fun h => ?_)
    · subst h
      rw [show halfOf r k true = 1 by rw [halfOf, if_pos ⟨hc, rfl⟩]]
      refine SZ.mk (nlen r : Int) (by simp [hlr]) ?_
      by_cases h0 : r = 0
      · rw [decide_eq_false (show ¬ r ≠ 0 from fun h => h h0), Bool.false_or]
        have := nlen_zero_iff.2 h0
        refine SCmp.no (decide_eq_false (by omega)) ?_
        exact SRet.pure (.p _ (pers_part _ _))
      · rw [decide_eq_true h0, Bool.true_or]
        have := mt nlen_zero_iff.1 h0
        refine SCmp.yes (decide_eq_true (by omega)) ?_
        exact SRet.pure (.p _ (pers_part _ _))
    · subst h
      rw [show halfOf r k false = cmpZ r (2 ^ (k - 1)) by rw [halfOf, if_neg (by simp)]]
      refine SZ.mk (nlen r : Int) (by simp [hlr]) ?_
      by_cases h0 : r = 0
      · rw [decide_eq_false (show ¬ r ≠ 0 from fun h => h h0), Bool.false_or]
        have := nlen_zero_iff.2 h0
        refine SCmp.no (decide_eq_false (by omega)) ?_
        exact SRet.pure (.p _ (pers_part _ _))
      · rw [decide_eq_true h0, Bool.true_or]
        have := mt nlen_zero_iff.1 h0
        refine SCmp.yes (decide_eq_true (by omega)) ?_
        exact SRet.pure (.p _ (pers_part _ _))
  · refine SCmp.no (eqF hc) ?_
    rw [show halfOf r k more = cmpZ r (2 ^ (k - 1)) by rw [halfOf, if_neg (fun h => hc h.1)]]
    refine SZ.mk (nlen r : Int) (by simp [hlr]) ?_
    by_cases h0 : r = 0
    · rw [decide_eq_false (show ¬ r ≠ 0 from fun h => h h0), Bool.false_or]
      have := nlen_zero_iff.2 h0
      refine SCmp.no (decide_eq_false (by omega)) ?_
      exact SRet.pure (.p _ (pers_part _ _))
    · rw [decide_eq_true h0, Bool.true_or]
      have := mt nlen_zero_iff.1 h0
      refine SCmp.yes (decide_eq_true (by omega)) ?_
      exact SRet.pure (.p _ (pers_part _ _))
end Go.Proofs.Ytkaooejeljdbnaa

/- Floats: a value is rounded as its code says. -/
namespace Go.Proofs.Ytkaooejeljdbnaa
open Go
set_option linter.unusedVariables false
set_option linter.unusedSimpArgs false
set_option maxRecDepth 10000

theorem max_ite (a b : Int) : (if b > a then b else a) = max a b := by split <;> omega
theorem min_ite (a b : Int) : (if b < a then b else a) = min a b := by split <;> omega
abbrev fpair (r : Nat × Int) : AV := .tup [.p (.int .u64 (r.1 : Int)), .p (.int .i64 r.2)]
theorem out_over {neg : Bool} {c : Nat} {sm : Bool} {half mode : Int} (h : 9218868437227405312 ≤ upc neg c sm half mode) : out neg c sm half mode = (sg neg (lim neg mode), 5) := by rw [out, if_pos h]
theorem out_fin {neg : Bool} {c : Nat} {sm : Bool} {half mode : Int} (h : upc neg c sm half mode < 9218868437227405312) : out neg c sm half mode = (sg neg (upc neg c sm half mode), if sm then (if c < 4503599627370496 then 3 else 1) else 0) := by rw [out, if_neg (by omega)]

-- the code's end, from w times 2^(T - 1074) on
-- w, T are final

theorem round_neg {neg : Bool} {m : Nat} {e A : Int} {more : Bool} {mode : Int} {v t : Nat} {sm : Bool} {half : Int} (hm : m ≠ 0) (hmb : bitLen m ≤ 262144) (he : -262144 ≤ e ∧ e ≤ 262144) (hA' : A = max ((bitLen m : Int) - 1 + e - 52) (-1074)) (hk : A - e < 0)
    (hq : m * 2 ^ (e - A).toNat = v)
    (hrest : CallP Try.prog 176 [numP neg m e more, natP (m / 2 ^ (max (A - e) 0).toNat), .int .i64 (A - e)] (.p (partP sm half)) [])
    (ht : A = (t : Int) - 1074) (hv : v < 9007199254740992) (hvt : 4503599627370496 ≤ v ∨ t = 0) (hund : (bitLen m : Int) - 1 + e < -1022 ↔ v + t * 4503599627370496 < 4503599627370496) :
    CallP Try.prog 142 [numP neg m e more, .int .i64 mode] (fpair (out neg (v + t * 4503599627370496) sm half mode)) [] := by
  have hnm := nlen_bitLen m
  have hbl0 : bitLen m ≠ 0 := mt bitLen_zero_iff.1 hm
  refine callG_of_vc (wr := wr0) Γok mixed Try.func142 (by kernel_rfl) rfl (by kernel_rfl) (le_of_ble rfl) (by simp) ?_
  refine SDraw.mk (by kernel_rfl) ?_
  repeat refine SOp.mk _ _ (And.intro rfl rfl) rfl ?_
  refine SOp.mk _ _ (SCall.pure (nbits_ok false m (by omega)) (And.intro rfl rfl)) rfl ?_
  refine SOp.mk _ _ (SWrap.i64z ((bitLen m : Int) - 1) rfl (by omega) (And.intro rfl rfl)) rfl ?_
  repeat refine SOp.mk _ _ (And.intro rfl rfl) rfl ?_
  refine SOp.mk _ _ (SWrap.i64z ((bitLen m : Int) - 1 + e) rfl (by omega) (And.intro rfl rfl)) rfl ?_
  repeat refine SOp.mk _ _ (And.intro rfl rfl) rfl ?_
  refine SWrap.i64z ((bitLen m : Int) - 1 + e - 52) rfl (by omega) ?_
  refine SZ.mk A ((max_ite _ _).trans hA'.symm) ?_
  refine SWrap.i64z (A - e) rfl (by omega) ?_
  refine SZ.mk (((max (A - e) 0).toNat : Nat) : Int) ((max_ite _ _).trans (by omega)) ?_
  refine SCall.pure (fshr_ok false m (max (A - e) 0).toNat (by omega) (by omega)) ?_
  refine SCall.pure (hrest) ?_
  refine SCmp.yes (decide_eq_true (by omega)) ?_
  refine SWrap.i64z (((e - A).toNat : Nat) : Int) (by omega) (by omega) ?_
  refine SCall.pure (fshl_ok false m (e - A).toNat (by omega) (by omega)) ?_
  rw [hq]
  refine SCall.pureT (nsmall_ok false v (by omega)) (fun _ => rfl) ?_
  subst ht
  refine SWrap.and v 1 _ rfl rfl (by omega) (by omega) (low1 v) ?_
  have hpar : v % 2 = (v + t * 4503599627370496) % 2 := by omega
  have hup := up_ok sm half mode neg
  have hu : upc neg (v + t * 4503599627370496) sm half mode = if goUp mode neg sm (decide ((v + t * 4503599627370496) % 2 = 1)) half then v + t * 4503599627370496 + 1 else v + t * 4503599627370496 := rfl
  refine SCmp.sym ?_
  obtain ⟨od, hod⟩ : ∃ od, od = (((v % 2 : Nat) : Int) == 1) := ⟨_, rfl⟩
  rw [show decide ((v + t * 4503599627370496) % 2 = 1) = od by
    rw [hod]
    by_cases h : v % 2 = 1
    · rw [decide_eq_true (by omega), eqT (by omega)]
    · rw [decide_eq_false (by omega), eqF (by omega)]] at hu
  rw [← hod]
  refine SCall.pure (hup od) ?_
  refine SCond.mk (fun hg => ?_) (fun hg => ?_)
  · rw [hg, if_pos rfl] at hu
    refine SWrap.u64z (v + 1) (by omega) (by omega) ?_
    by_cases htop : (v + 1) = 9007199254740992
    · refine SCmp.yes (eqT (by omega)) ?_
      refine SWrap.i64z (((t + 1 : Nat) : Int) - 1074) (by omega) (by omega) ?_
      have hupc : upc neg (v + t * 4503599627370496) sm half mode = 4503599627370496 + (t + 1) * 4503599627370496 := by omega
      refine SCmp.yes (decide_eq_true (by omega)) ?_
      refine SWrap.i64z (((t + 1 : Nat) : Int) - 1022) (by omega) (by omega) ?_
      by_cases hT : 2046 ≤ t + 1
      · refine SCmp.yes (decide_eq_true (by omega)) ?_
        rw [out_over (by omega)]
        refine SCall.pureT (beyond_ok neg mode) (fun _ => rfl) ?_
        exact SRet.pure (.tup rfl fun i c d e1 e2 => by
          match i, e1, e2 with
          | 0, e1, e2 => cases e1; cases e2; exact .p _ (.int _ _)
          | 1, e1, e2 => cases e1; cases e2; exact .p _ (.int _ _))
      · refine SCmp.no (decide_eq_false (by omega)) ?_
        rw [out_fin (by omega), hupc]
        refine SCond.mk (fun hsm => ?_) (fun hsm => ?_)
        · by_cases hund0 : (bitLen m : Int) - 1 + e < -1022
          · refine SCmp.yes (decide_eq_true (by omega)) ?_
            refine SWrap.i64z 3 (by decide) (by omega) ?_
            rw [hsm, if_pos rfl, if_pos (hund.1 hund0)]
            by_cases hw2 : 4503599627370496 ≤ 4503599627370496
            · refine SCmp.yes (decide_eq_true (by omega)) ?_
              refine SWrap.i64z (((t + 1) + 1 : Nat) : Int) (by omega) (by omega) ?_
              refine SWrap.i64z (((t + 1) : Nat) : Int) (by omega) (by omega) ?_
              refine SWrap.u64z ((t + 1)) (by omega) (by omega) ?_
              refine SGe.mk (by decide) ?_
              refine SWrap.u64z ((t + 1) * 4503599627370496) (by show (((t + 1) : Nat) : Int) * 4503599627370496 = _; omega) (by omega) ?_
              refine SWrap.u64z (4503599627370496 + (t + 1) * 4503599627370496) (by omega) (by omega) ?_
              refine SCall.pure (signed_ok (4503599627370496 + (t + 1) * 4503599627370496) (by omega) neg) ?_
              exact SRet.pure (.tup rfl fun i c d e1 e2 => by
                match i, e1, e2 with
                | 0, e1, e2 => cases e1; cases e2; exact .p _ (.int _ _)
                | 1, e1, e2 => cases e1; cases e2; exact .p _ (.int _ _))
            · refine SCmp.no (decide_eq_false (by omega)) ?_
              have hT0 : 4503599627370496 + (t + 1) * 4503599627370496 = 4503599627370496 := by omega
              rw [hT0]
              refine SCall.pure (signed_ok (4503599627370496) (by omega) neg) ?_
              exact SRet.pure (.tup rfl fun i c d e1 e2 => by
                match i, e1, e2 with
                | 0, e1, e2 => cases e1; cases e2; exact .p _ (.int _ _)
                | 1, e1, e2 => cases e1; cases e2; exact .p _ (.int _ _))
          · refine SCmp.no (decide_eq_false (by omega)) ?_
            rw [hsm, if_pos rfl, if_neg (mt hund.2 hund0)]
            by_cases hw2 : 4503599627370496 ≤ 4503599627370496
            · refine SCmp.yes (decide_eq_true (by omega)) ?_
              refine SWrap.i64z (((t + 1) + 1 : Nat) : Int) (by omega) (by omega) ?_
              refine SWrap.i64z (((t + 1) : Nat) : Int) (by omega) (by omega) ?_
              refine SWrap.u64z ((t + 1)) (by omega) (by omega) ?_
              refine SGe.mk (by decide) ?_
              refine SWrap.u64z ((t + 1) * 4503599627370496) (by show (((t + 1) : Nat) : Int) * 4503599627370496 = _; omega) (by omega) ?_
              refine SWrap.u64z (4503599627370496 + (t + 1) * 4503599627370496) (by omega) (by omega) ?_
              refine SCall.pure (signed_ok (4503599627370496 + (t + 1) * 4503599627370496) (by omega) neg) ?_
              exact SRet.pure (.tup rfl fun i c d e1 e2 => by
                match i, e1, e2 with
                | 0, e1, e2 => cases e1; cases e2; exact .p _ (.int _ _)
                | 1, e1, e2 => cases e1; cases e2; exact .p _ (.int _ _))
            · refine SCmp.no (decide_eq_false (by omega)) ?_
              have hT0 : 4503599627370496 + (t + 1) * 4503599627370496 = 4503599627370496 := by omega
              rw [hT0]
              refine SCall.pure (signed_ok (4503599627370496) (by omega) neg) ?_
              exact SRet.pure (.tup rfl fun i c d e1 e2 => by
                match i, e1, e2 with
                | 0, e1, e2 => cases e1; cases e2; exact .p _ (.int _ _)
                | 1, e1, e2 => cases e1; cases e2; exact .p _ (.int _ _))
        · rw [hsm, if_neg Bool.false_ne_true]
          by_cases hw2 : 4503599627370496 ≤ 4503599627370496
          · refine SCmp.yes (decide_eq_true (by omega)) ?_
            refine SWrap.i64z (((t + 1) + 1 : Nat) : Int) (by omega) (by omega) ?_
            refine SWrap.i64z (((t + 1) : Nat) : Int) (by omega) (by omega) ?_
            refine SWrap.u64z ((t + 1)) (by omega) (by omega) ?_
            refine SGe.mk (by decide) ?_
            refine SWrap.u64z ((t + 1) * 4503599627370496) (by show (((t + 1) : Nat) : Int) * 4503599627370496 = _; omega) (by omega) ?_
            refine SWrap.u64z (4503599627370496 + (t + 1) * 4503599627370496) (by omega) (by omega) ?_
            refine SCall.pure (signed_ok (4503599627370496 + (t + 1) * 4503599627370496) (by omega) neg) ?_
            exact SRet.pure (.tup rfl fun i c d e1 e2 => by
              match i, e1, e2 with
              | 0, e1, e2 => cases e1; cases e2; exact .p _ (.int _ _)
              | 1, e1, e2 => cases e1; cases e2; exact .p _ (.int _ _))
          · refine SCmp.no (decide_eq_false (by omega)) ?_
            have hT0 : 4503599627370496 + (t + 1) * 4503599627370496 = 4503599627370496 := by omega
            rw [hT0]
            refine SCall.pure (signed_ok (4503599627370496) (by omega) neg) ?_
            exact SRet.pure (.tup rfl fun i c d e1 e2 => by
              match i, e1, e2 with
              | 0, e1, e2 => cases e1; cases e2; exact .p _ (.int _ _)
              | 1, e1, e2 => cases e1; cases e2; exact .p _ (.int _ _))
    · refine SCmp.no (eqF (by omega)) ?_
      have hupc : upc neg (v + t * 4503599627370496) sm half mode = (v + 1) + t * 4503599627370496 := by omega
      by_cases hw : 4503599627370496 ≤ (v + 1)
      · refine SCmp.yes (decide_eq_true (by omega)) ?_
        refine SWrap.i64z ((t : Int) - 1022) (by omega) (by omega) ?_
        by_cases hT : 2046 ≤ t
        · refine SCmp.yes (decide_eq_true (by omega)) ?_
          rw [out_over (by omega)]
          refine SCall.pureT (beyond_ok neg mode) (fun _ => rfl) ?_
          exact SRet.pure (.tup rfl fun i c d e1 e2 => by
            match i, e1, e2 with
            | 0, e1, e2 => cases e1; cases e2; exact .p _ (.int _ _)
            | 1, e1, e2 => cases e1; cases e2; exact .p _ (.int _ _))
        · refine SCmp.no (decide_eq_false (by omega)) ?_
          rw [out_fin (by omega), hupc]
          refine SCond.mk (fun hsm => ?_) (fun hsm => ?_)
          · by_cases hund0 : (bitLen m : Int) - 1 + e < -1022
            · refine SCmp.yes (decide_eq_true (by omega)) ?_
              refine SWrap.i64z 3 (by decide) (by omega) ?_
              rw [hsm, if_pos rfl, if_pos (hund.1 hund0)]
              by_cases hw2 : 4503599627370496 ≤ (v + 1)
              · refine SCmp.yes (decide_eq_true (by omega)) ?_
                refine SWrap.i64z ((t + 1 : Nat) : Int) (by omega) (by omega) ?_
                refine SWrap.i64z ((t : Nat) : Int) (by omega) (by omega) ?_
                refine SWrap.u64z (t) (by omega) (by omega) ?_
                refine SGe.mk (by decide) ?_
                refine SWrap.u64z (t * 4503599627370496) (by show ((t : Nat) : Int) * 4503599627370496 = _; omega) (by omega) ?_
                refine SWrap.u64z ((v + 1) + t * 4503599627370496) (by omega) (by omega) ?_
                refine SCall.pure (signed_ok ((v + 1) + t * 4503599627370496) (by omega) neg) ?_
                exact SRet.pure (.tup rfl fun i c d e1 e2 => by
                  match i, e1, e2 with
                  | 0, e1, e2 => cases e1; cases e2; exact .p _ (.int _ _)
                  | 1, e1, e2 => cases e1; cases e2; exact .p _ (.int _ _))
              · refine SCmp.no (decide_eq_false (by omega)) ?_
                have hT0 : (v + 1) + t * 4503599627370496 = (v + 1) := by omega
                rw [hT0]
                refine SCall.pure (signed_ok ((v + 1)) (by omega) neg) ?_
                exact SRet.pure (.tup rfl fun i c d e1 e2 => by
                  match i, e1, e2 with
                  | 0, e1, e2 => cases e1; cases e2; exact .p _ (.int _ _)
                  | 1, e1, e2 => cases e1; cases e2; exact .p _ (.int _ _))
            · refine SCmp.no (decide_eq_false (by omega)) ?_
              rw [hsm, if_pos rfl, if_neg (mt hund.2 hund0)]
              by_cases hw2 : 4503599627370496 ≤ (v + 1)
              · refine SCmp.yes (decide_eq_true (by omega)) ?_
                refine SWrap.i64z ((t + 1 : Nat) : Int) (by omega) (by omega) ?_
                refine SWrap.i64z ((t : Nat) : Int) (by omega) (by omega) ?_
                refine SWrap.u64z (t) (by omega) (by omega) ?_
                refine SGe.mk (by decide) ?_
                refine SWrap.u64z (t * 4503599627370496) (by show ((t : Nat) : Int) * 4503599627370496 = _; omega) (by omega) ?_
                refine SWrap.u64z ((v + 1) + t * 4503599627370496) (by omega) (by omega) ?_
                refine SCall.pure (signed_ok ((v + 1) + t * 4503599627370496) (by omega) neg) ?_
                exact SRet.pure (.tup rfl fun i c d e1 e2 => by
                  match i, e1, e2 with
                  | 0, e1, e2 => cases e1; cases e2; exact .p _ (.int _ _)
                  | 1, e1, e2 => cases e1; cases e2; exact .p _ (.int _ _))
              · refine SCmp.no (decide_eq_false (by omega)) ?_
                have hT0 : (v + 1) + t * 4503599627370496 = (v + 1) := by omega
                rw [hT0]
                refine SCall.pure (signed_ok ((v + 1)) (by omega) neg) ?_
                exact SRet.pure (.tup rfl fun i c d e1 e2 => by
                  match i, e1, e2 with
                  | 0, e1, e2 => cases e1; cases e2; exact .p _ (.int _ _)
                  | 1, e1, e2 => cases e1; cases e2; exact .p _ (.int _ _))
          · rw [hsm, if_neg Bool.false_ne_true]
            by_cases hw2 : 4503599627370496 ≤ (v + 1)
            · refine SCmp.yes (decide_eq_true (by omega)) ?_
              refine SWrap.i64z ((t + 1 : Nat) : Int) (by omega) (by omega) ?_
              refine SWrap.i64z ((t : Nat) : Int) (by omega) (by omega) ?_
              refine SWrap.u64z (t) (by omega) (by omega) ?_
              refine SGe.mk (by decide) ?_
              refine SWrap.u64z (t * 4503599627370496) (by show ((t : Nat) : Int) * 4503599627370496 = _; omega) (by omega) ?_
              refine SWrap.u64z ((v + 1) + t * 4503599627370496) (by omega) (by omega) ?_
              refine SCall.pure (signed_ok ((v + 1) + t * 4503599627370496) (by omega) neg) ?_
              exact SRet.pure (.tup rfl fun i c d e1 e2 => by
                match i, e1, e2 with
                | 0, e1, e2 => cases e1; cases e2; exact .p _ (.int _ _)
                | 1, e1, e2 => cases e1; cases e2; exact .p _ (.int _ _))
            · refine SCmp.no (decide_eq_false (by omega)) ?_
              have hT0 : (v + 1) + t * 4503599627370496 = (v + 1) := by omega
              rw [hT0]
              refine SCall.pure (signed_ok ((v + 1)) (by omega) neg) ?_
              exact SRet.pure (.tup rfl fun i c d e1 e2 => by
                match i, e1, e2 with
                | 0, e1, e2 => cases e1; cases e2; exact .p _ (.int _ _)
                | 1, e1, e2 => cases e1; cases e2; exact .p _ (.int _ _))
      · refine SCmp.no (decide_eq_false (by omega)) ?_
        rw [out_fin (by omega), hupc]
        refine SCond.mk (fun hsm => ?_) (fun hsm => ?_)
        · by_cases hund0 : (bitLen m : Int) - 1 + e < -1022
          · refine SCmp.yes (decide_eq_true (by omega)) ?_
            refine SWrap.i64z 3 (by decide) (by omega) ?_
            rw [hsm, if_pos rfl, if_pos (hund.1 hund0)]
            by_cases hw2 : 4503599627370496 ≤ (v + 1)
            · refine SCmp.yes (decide_eq_true (by omega)) ?_
              refine SWrap.i64z ((t + 1 : Nat) : Int) (by omega) (by omega) ?_
              refine SWrap.i64z ((t : Nat) : Int) (by omega) (by omega) ?_
              refine SWrap.u64z (t) (by omega) (by omega) ?_
              refine SGe.mk (by decide) ?_
              refine SWrap.u64z (t * 4503599627370496) (by show ((t : Nat) : Int) * 4503599627370496 = _; omega) (by omega) ?_
              refine SWrap.u64z ((v + 1) + t * 4503599627370496) (by omega) (by omega) ?_
              refine SCall.pure (signed_ok ((v + 1) + t * 4503599627370496) (by omega) neg) ?_
              exact SRet.pure (.tup rfl fun i c d e1 e2 => by
                match i, e1, e2 with
                | 0, e1, e2 => cases e1; cases e2; exact .p _ (.int _ _)
                | 1, e1, e2 => cases e1; cases e2; exact .p _ (.int _ _))
            · refine SCmp.no (decide_eq_false (by omega)) ?_
              have hT0 : (v + 1) + t * 4503599627370496 = (v + 1) := by omega
              rw [hT0]
              refine SCall.pure (signed_ok ((v + 1)) (by omega) neg) ?_
              exact SRet.pure (.tup rfl fun i c d e1 e2 => by
                match i, e1, e2 with
                | 0, e1, e2 => cases e1; cases e2; exact .p _ (.int _ _)
                | 1, e1, e2 => cases e1; cases e2; exact .p _ (.int _ _))
          · refine SCmp.no (decide_eq_false (by omega)) ?_
            rw [hsm, if_pos rfl, if_neg (mt hund.2 hund0)]
            by_cases hw2 : 4503599627370496 ≤ (v + 1)
            · refine SCmp.yes (decide_eq_true (by omega)) ?_
              refine SWrap.i64z ((t + 1 : Nat) : Int) (by omega) (by omega) ?_
              refine SWrap.i64z ((t : Nat) : Int) (by omega) (by omega) ?_
              refine SWrap.u64z (t) (by omega) (by omega) ?_
              refine SGe.mk (by decide) ?_
              refine SWrap.u64z (t * 4503599627370496) (by show ((t : Nat) : Int) * 4503599627370496 = _; omega) (by omega) ?_
              refine SWrap.u64z ((v + 1) + t * 4503599627370496) (by omega) (by omega) ?_
              refine SCall.pure (signed_ok ((v + 1) + t * 4503599627370496) (by omega) neg) ?_
              exact SRet.pure (.tup rfl fun i c d e1 e2 => by
                match i, e1, e2 with
                | 0, e1, e2 => cases e1; cases e2; exact .p _ (.int _ _)
                | 1, e1, e2 => cases e1; cases e2; exact .p _ (.int _ _))
            · refine SCmp.no (decide_eq_false (by omega)) ?_
              have hT0 : (v + 1) + t * 4503599627370496 = (v + 1) := by omega
              rw [hT0]
              refine SCall.pure (signed_ok ((v + 1)) (by omega) neg) ?_
              exact SRet.pure (.tup rfl fun i c d e1 e2 => by
                match i, e1, e2 with
                | 0, e1, e2 => cases e1; cases e2; exact .p _ (.int _ _)
                | 1, e1, e2 => cases e1; cases e2; exact .p _ (.int _ _))
        · rw [hsm, if_neg Bool.false_ne_true]
          by_cases hw2 : 4503599627370496 ≤ (v + 1)
          · refine SCmp.yes (decide_eq_true (by omega)) ?_
            refine SWrap.i64z ((t + 1 : Nat) : Int) (by omega) (by omega) ?_
            refine SWrap.i64z ((t : Nat) : Int) (by omega) (by omega) ?_
            refine SWrap.u64z (t) (by omega) (by omega) ?_
            refine SGe.mk (by decide) ?_
            refine SWrap.u64z (t * 4503599627370496) (by show ((t : Nat) : Int) * 4503599627370496 = _; omega) (by omega) ?_
            refine SWrap.u64z ((v + 1) + t * 4503599627370496) (by omega) (by omega) ?_
            refine SCall.pure (signed_ok ((v + 1) + t * 4503599627370496) (by omega) neg) ?_
            exact SRet.pure (.tup rfl fun i c d e1 e2 => by
              match i, e1, e2 with
              | 0, e1, e2 => cases e1; cases e2; exact .p _ (.int _ _)
              | 1, e1, e2 => cases e1; cases e2; exact .p _ (.int _ _))
          · refine SCmp.no (decide_eq_false (by omega)) ?_
            have hT0 : (v + 1) + t * 4503599627370496 = (v + 1) := by omega
            rw [hT0]
            refine SCall.pure (signed_ok ((v + 1)) (by omega) neg) ?_
            exact SRet.pure (.tup rfl fun i c d e1 e2 => by
              match i, e1, e2 with
              | 0, e1, e2 => cases e1; cases e2; exact .p _ (.int _ _)
              | 1, e1, e2 => cases e1; cases e2; exact .p _ (.int _ _))
  · rw [hg, if_neg Bool.false_ne_true] at hu
    by_cases htop : v = 9007199254740992
    · refine SCmp.yes (eqT (by omega)) ?_
      refine SWrap.i64z (((t + 1 : Nat) : Int) - 1074) (by omega) (by omega) ?_
      have hupc : upc neg (v + t * 4503599627370496) sm half mode = 4503599627370496 + (t + 1) * 4503599627370496 := by omega
      refine SCmp.yes (decide_eq_true (by omega)) ?_
      refine SWrap.i64z (((t + 1 : Nat) : Int) - 1022) (by omega) (by omega) ?_
      by_cases hT : 2046 ≤ t + 1
      · refine SCmp.yes (decide_eq_true (by omega)) ?_
        rw [out_over (by omega)]
        refine SCall.pureT (beyond_ok neg mode) (fun _ => rfl) ?_
        exact SRet.pure (.tup rfl fun i c d e1 e2 => by
          match i, e1, e2 with
          | 0, e1, e2 => cases e1; cases e2; exact .p _ (.int _ _)
          | 1, e1, e2 => cases e1; cases e2; exact .p _ (.int _ _))
      · refine SCmp.no (decide_eq_false (by omega)) ?_
        rw [out_fin (by omega), hupc]
        refine SCond.mk (fun hsm => ?_) (fun hsm => ?_)
        · by_cases hund0 : (bitLen m : Int) - 1 + e < -1022
          · refine SCmp.yes (decide_eq_true (by omega)) ?_
            refine SWrap.i64z 3 (by decide) (by omega) ?_
            rw [hsm, if_pos rfl, if_pos (hund.1 hund0)]
            by_cases hw2 : 4503599627370496 ≤ 4503599627370496
            · refine SCmp.yes (decide_eq_true (by omega)) ?_
              refine SWrap.i64z (((t + 1) + 1 : Nat) : Int) (by omega) (by omega) ?_
              refine SWrap.i64z (((t + 1) : Nat) : Int) (by omega) (by omega) ?_
              refine SWrap.u64z ((t + 1)) (by omega) (by omega) ?_
              refine SGe.mk (by decide) ?_
              refine SWrap.u64z ((t + 1) * 4503599627370496) (by show (((t + 1) : Nat) : Int) * 4503599627370496 = _; omega) (by omega) ?_
              refine SWrap.u64z (4503599627370496 + (t + 1) * 4503599627370496) (by omega) (by omega) ?_
              refine SCall.pure (signed_ok (4503599627370496 + (t + 1) * 4503599627370496) (by omega) neg) ?_
              exact SRet.pure (.tup rfl fun i c d e1 e2 => by
                match i, e1, e2 with
                | 0, e1, e2 => cases e1; cases e2; exact .p _ (.int _ _)
                | 1, e1, e2 => cases e1; cases e2; exact .p _ (.int _ _))
            · refine SCmp.no (decide_eq_false (by omega)) ?_
              have hT0 : 4503599627370496 + (t + 1) * 4503599627370496 = 4503599627370496 := by omega
              rw [hT0]
              refine SCall.pure (signed_ok (4503599627370496) (by omega) neg) ?_
              exact SRet.pure (.tup rfl fun i c d e1 e2 => by
                match i, e1, e2 with
                | 0, e1, e2 => cases e1; cases e2; exact .p _ (.int _ _)
                | 1, e1, e2 => cases e1; cases e2; exact .p _ (.int _ _))
          · refine SCmp.no (decide_eq_false (by omega)) ?_
            rw [hsm, if_pos rfl, if_neg (mt hund.2 hund0)]
            by_cases hw2 : 4503599627370496 ≤ 4503599627370496
            · refine SCmp.yes (decide_eq_true (by omega)) ?_
              refine SWrap.i64z (((t + 1) + 1 : Nat) : Int) (by omega) (by omega) ?_
              refine SWrap.i64z (((t + 1) : Nat) : Int) (by omega) (by omega) ?_
              refine SWrap.u64z ((t + 1)) (by omega) (by omega) ?_
              refine SGe.mk (by decide) ?_
              refine SWrap.u64z ((t + 1) * 4503599627370496) (by show (((t + 1) : Nat) : Int) * 4503599627370496 = _; omega) (by omega) ?_
              refine SWrap.u64z (4503599627370496 + (t + 1) * 4503599627370496) (by omega) (by omega) ?_
              refine SCall.pure (signed_ok (4503599627370496 + (t + 1) * 4503599627370496) (by omega) neg) ?_
              exact SRet.pure (.tup rfl fun i c d e1 e2 => by
                match i, e1, e2 with
                | 0, e1, e2 => cases e1; cases e2; exact .p _ (.int _ _)
                | 1, e1, e2 => cases e1; cases e2; exact .p _ (.int _ _))
            · refine SCmp.no (decide_eq_false (by omega)) ?_
              have hT0 : 4503599627370496 + (t + 1) * 4503599627370496 = 4503599627370496 := by omega
              rw [hT0]
              refine SCall.pure (signed_ok (4503599627370496) (by omega) neg) ?_
              exact SRet.pure (.tup rfl fun i c d e1 e2 => by
                match i, e1, e2 with
                | 0, e1, e2 => cases e1; cases e2; exact .p _ (.int _ _)
                | 1, e1, e2 => cases e1; cases e2; exact .p _ (.int _ _))
        · rw [hsm, if_neg Bool.false_ne_true]
          by_cases hw2 : 4503599627370496 ≤ 4503599627370496
          · refine SCmp.yes (decide_eq_true (by omega)) ?_
            refine SWrap.i64z (((t + 1) + 1 : Nat) : Int) (by omega) (by omega) ?_
            refine SWrap.i64z (((t + 1) : Nat) : Int) (by omega) (by omega) ?_
            refine SWrap.u64z ((t + 1)) (by omega) (by omega) ?_
            refine SGe.mk (by decide) ?_
            refine SWrap.u64z ((t + 1) * 4503599627370496) (by show (((t + 1) : Nat) : Int) * 4503599627370496 = _; omega) (by omega) ?_
            refine SWrap.u64z (4503599627370496 + (t + 1) * 4503599627370496) (by omega) (by omega) ?_
            refine SCall.pure (signed_ok (4503599627370496 + (t + 1) * 4503599627370496) (by omega) neg) ?_
            exact SRet.pure (.tup rfl fun i c d e1 e2 => by
              match i, e1, e2 with
              | 0, e1, e2 => cases e1; cases e2; exact .p _ (.int _ _)
              | 1, e1, e2 => cases e1; cases e2; exact .p _ (.int _ _))
          · refine SCmp.no (decide_eq_false (by omega)) ?_
            have hT0 : 4503599627370496 + (t + 1) * 4503599627370496 = 4503599627370496 := by omega
            rw [hT0]
            refine SCall.pure (signed_ok (4503599627370496) (by omega) neg) ?_
            exact SRet.pure (.tup rfl fun i c d e1 e2 => by
              match i, e1, e2 with
              | 0, e1, e2 => cases e1; cases e2; exact .p _ (.int _ _)
              | 1, e1, e2 => cases e1; cases e2; exact .p _ (.int _ _))
    · refine SCmp.no (eqF (by omega)) ?_
      have hupc : upc neg (v + t * 4503599627370496) sm half mode = v + t * 4503599627370496 := by omega
      by_cases hw : 4503599627370496 ≤ v
      · refine SCmp.yes (decide_eq_true (by omega)) ?_
        refine SWrap.i64z ((t : Int) - 1022) (by omega) (by omega) ?_
        by_cases hT : 2046 ≤ t
        · refine SCmp.yes (decide_eq_true (by omega)) ?_
          rw [out_over (by omega)]
          refine SCall.pureT (beyond_ok neg mode) (fun _ => rfl) ?_
          exact SRet.pure (.tup rfl fun i c d e1 e2 => by
            match i, e1, e2 with
            | 0, e1, e2 => cases e1; cases e2; exact .p _ (.int _ _)
            | 1, e1, e2 => cases e1; cases e2; exact .p _ (.int _ _))
        · refine SCmp.no (decide_eq_false (by omega)) ?_
          rw [out_fin (by omega), hupc]
          refine SCond.mk (fun hsm => ?_) (fun hsm => ?_)
          · by_cases hund0 : (bitLen m : Int) - 1 + e < -1022
            · refine SCmp.yes (decide_eq_true (by omega)) ?_
              refine SWrap.i64z 3 (by decide) (by omega) ?_
              rw [hsm, if_pos rfl, if_pos (hund.1 hund0)]
              by_cases hw2 : 4503599627370496 ≤ v
              · refine SCmp.yes (decide_eq_true (by omega)) ?_
                refine SWrap.i64z ((t + 1 : Nat) : Int) (by omega) (by omega) ?_
                refine SWrap.i64z ((t : Nat) : Int) (by omega) (by omega) ?_
                refine SWrap.u64z (t) (by omega) (by omega) ?_
                refine SGe.mk (by decide) ?_
                refine SWrap.u64z (t * 4503599627370496) (by show ((t : Nat) : Int) * 4503599627370496 = _; omega) (by omega) ?_
                refine SWrap.u64z (v + t * 4503599627370496) (by omega) (by omega) ?_
                refine SCall.pure (signed_ok (v + t * 4503599627370496) (by omega) neg) ?_
                exact SRet.pure (.tup rfl fun i c d e1 e2 => by
                  match i, e1, e2 with
                  | 0, e1, e2 => cases e1; cases e2; exact .p _ (.int _ _)
                  | 1, e1, e2 => cases e1; cases e2; exact .p _ (.int _ _))
              · refine SCmp.no (decide_eq_false (by omega)) ?_
                have hT0 : v + t * 4503599627370496 = v := by omega
                rw [hT0]
                refine SCall.pure (signed_ok (v) (by omega) neg) ?_
                exact SRet.pure (.tup rfl fun i c d e1 e2 => by
                  match i, e1, e2 with
                  | 0, e1, e2 => cases e1; cases e2; exact .p _ (.int _ _)
                  | 1, e1, e2 => cases e1; cases e2; exact .p _ (.int _ _))
            · refine SCmp.no (decide_eq_false (by omega)) ?_
              rw [hsm, if_pos rfl, if_neg (mt hund.2 hund0)]
              by_cases hw2 : 4503599627370496 ≤ v
              · refine SCmp.yes (decide_eq_true (by omega)) ?_
                refine SWrap.i64z ((t + 1 : Nat) : Int) (by omega) (by omega) ?_
                refine SWrap.i64z ((t : Nat) : Int) (by omega) (by omega) ?_
                refine SWrap.u64z (t) (by omega) (by omega) ?_
                refine SGe.mk (by decide) ?_
                refine SWrap.u64z (t * 4503599627370496) (by show ((t : Nat) : Int) * 4503599627370496 = _; omega) (by omega) ?_
                refine SWrap.u64z (v + t * 4503599627370496) (by omega) (by omega) ?_
                refine SCall.pure (signed_ok (v + t * 4503599627370496) (by omega) neg) ?_
                exact SRet.pure (.tup rfl fun i c d e1 e2 => by
                  match i, e1, e2 with
                  | 0, e1, e2 => cases e1; cases e2; exact .p _ (.int _ _)
                  | 1, e1, e2 => cases e1; cases e2; exact .p _ (.int _ _))
              · refine SCmp.no (decide_eq_false (by omega)) ?_
                have hT0 : v + t * 4503599627370496 = v := by omega
                rw [hT0]
                refine SCall.pure (signed_ok (v) (by omega) neg) ?_
                exact SRet.pure (.tup rfl fun i c d e1 e2 => by
                  match i, e1, e2 with
                  | 0, e1, e2 => cases e1; cases e2; exact .p _ (.int _ _)
                  | 1, e1, e2 => cases e1; cases e2; exact .p _ (.int _ _))
          · rw [hsm, if_neg Bool.false_ne_true]
            by_cases hw2 : 4503599627370496 ≤ v
            · refine SCmp.yes (decide_eq_true (by omega)) ?_
              refine SWrap.i64z ((t + 1 : Nat) : Int) (by omega) (by omega) ?_
              refine SWrap.i64z ((t : Nat) : Int) (by omega) (by omega) ?_
              refine SWrap.u64z (t) (by omega) (by omega) ?_
              refine SGe.mk (by decide) ?_
              refine SWrap.u64z (t * 4503599627370496) (by show ((t : Nat) : Int) * 4503599627370496 = _; omega) (by omega) ?_
              refine SWrap.u64z (v + t * 4503599627370496) (by omega) (by omega) ?_
              refine SCall.pure (signed_ok (v + t * 4503599627370496) (by omega) neg) ?_
              exact SRet.pure (.tup rfl fun i c d e1 e2 => by
                match i, e1, e2 with
                | 0, e1, e2 => cases e1; cases e2; exact .p _ (.int _ _)
                | 1, e1, e2 => cases e1; cases e2; exact .p _ (.int _ _))
            · refine SCmp.no (decide_eq_false (by omega)) ?_
              have hT0 : v + t * 4503599627370496 = v := by omega
              rw [hT0]
              refine SCall.pure (signed_ok (v) (by omega) neg) ?_
              exact SRet.pure (.tup rfl fun i c d e1 e2 => by
                match i, e1, e2 with
                | 0, e1, e2 => cases e1; cases e2; exact .p _ (.int _ _)
                | 1, e1, e2 => cases e1; cases e2; exact .p _ (.int _ _))
      · refine SCmp.no (decide_eq_false (by omega)) ?_
        rw [out_fin (by omega), hupc]
        refine SCond.mk (fun hsm => ?_) (fun hsm => ?_)
        · by_cases hund0 : (bitLen m : Int) - 1 + e < -1022
          · refine SCmp.yes (decide_eq_true (by omega)) ?_
            refine SWrap.i64z 3 (by decide) (by omega) ?_
            rw [hsm, if_pos rfl, if_pos (hund.1 hund0)]
            by_cases hw2 : 4503599627370496 ≤ v
            · refine SCmp.yes (decide_eq_true (by omega)) ?_
              refine SWrap.i64z ((t + 1 : Nat) : Int) (by omega) (by omega) ?_
              refine SWrap.i64z ((t : Nat) : Int) (by omega) (by omega) ?_
              refine SWrap.u64z (t) (by omega) (by omega) ?_
              refine SGe.mk (by decide) ?_
              refine SWrap.u64z (t * 4503599627370496) (by show ((t : Nat) : Int) * 4503599627370496 = _; omega) (by omega) ?_
              refine SWrap.u64z (v + t * 4503599627370496) (by omega) (by omega) ?_
              refine SCall.pure (signed_ok (v + t * 4503599627370496) (by omega) neg) ?_
              exact SRet.pure (.tup rfl fun i c d e1 e2 => by
                match i, e1, e2 with
                | 0, e1, e2 => cases e1; cases e2; exact .p _ (.int _ _)
                | 1, e1, e2 => cases e1; cases e2; exact .p _ (.int _ _))
            · refine SCmp.no (decide_eq_false (by omega)) ?_
              have hT0 : v + t * 4503599627370496 = v := by omega
              rw [hT0]
              refine SCall.pure (signed_ok (v) (by omega) neg) ?_
              exact SRet.pure (.tup rfl fun i c d e1 e2 => by
                match i, e1, e2 with
                | 0, e1, e2 => cases e1; cases e2; exact .p _ (.int _ _)
                | 1, e1, e2 => cases e1; cases e2; exact .p _ (.int _ _))
          · refine SCmp.no (decide_eq_false (by omega)) ?_
            rw [hsm, if_pos rfl, if_neg (mt hund.2 hund0)]
            by_cases hw2 : 4503599627370496 ≤ v
            · refine SCmp.yes (decide_eq_true (by omega)) ?_
              refine SWrap.i64z ((t + 1 : Nat) : Int) (by omega) (by omega) ?_
              refine SWrap.i64z ((t : Nat) : Int) (by omega) (by omega) ?_
              refine SWrap.u64z (t) (by omega) (by omega) ?_
              refine SGe.mk (by decide) ?_
              refine SWrap.u64z (t * 4503599627370496) (by show ((t : Nat) : Int) * 4503599627370496 = _; omega) (by omega) ?_
              refine SWrap.u64z (v + t * 4503599627370496) (by omega) (by omega) ?_
              refine SCall.pure (signed_ok (v + t * 4503599627370496) (by omega) neg) ?_
              exact SRet.pure (.tup rfl fun i c d e1 e2 => by
                match i, e1, e2 with
                | 0, e1, e2 => cases e1; cases e2; exact .p _ (.int _ _)
                | 1, e1, e2 => cases e1; cases e2; exact .p _ (.int _ _))
            · refine SCmp.no (decide_eq_false (by omega)) ?_
              have hT0 : v + t * 4503599627370496 = v := by omega
              rw [hT0]
              refine SCall.pure (signed_ok (v) (by omega) neg) ?_
              exact SRet.pure (.tup rfl fun i c d e1 e2 => by
                match i, e1, e2 with
                | 0, e1, e2 => cases e1; cases e2; exact .p _ (.int _ _)
                | 1, e1, e2 => cases e1; cases e2; exact .p _ (.int _ _))
        · rw [hsm, if_neg Bool.false_ne_true]
          by_cases hw2 : 4503599627370496 ≤ v
          · refine SCmp.yes (decide_eq_true (by omega)) ?_
            refine SWrap.i64z ((t + 1 : Nat) : Int) (by omega) (by omega) ?_
            refine SWrap.i64z ((t : Nat) : Int) (by omega) (by omega) ?_
            refine SWrap.u64z (t) (by omega) (by omega) ?_
            refine SGe.mk (by decide) ?_
            refine SWrap.u64z (t * 4503599627370496) (by show ((t : Nat) : Int) * 4503599627370496 = _; omega) (by omega) ?_
            refine SWrap.u64z (v + t * 4503599627370496) (by omega) (by omega) ?_
            refine SCall.pure (signed_ok (v + t * 4503599627370496) (by omega) neg) ?_
            exact SRet.pure (.tup rfl fun i c d e1 e2 => by
              match i, e1, e2 with
              | 0, e1, e2 => cases e1; cases e2; exact .p _ (.int _ _)
              | 1, e1, e2 => cases e1; cases e2; exact .p _ (.int _ _))
          · refine SCmp.no (decide_eq_false (by omega)) ?_
            have hT0 : v + t * 4503599627370496 = v := by omega
            rw [hT0]
            refine SCall.pure (signed_ok (v) (by omega) neg) ?_
            exact SRet.pure (.tup rfl fun i c d e1 e2 => by
              match i, e1, e2 with
              | 0, e1, e2 => cases e1; cases e2; exact .p _ (.int _ _)
              | 1, e1, e2 => cases e1; cases e2; exact .p _ (.int _ _))
theorem round_pos {neg : Bool} {m : Nat} {e A : Int} {more : Bool} {mode : Int} {v t : Nat} {sm : Bool} {half : Int} (hm : m ≠ 0) (hmb : bitLen m ≤ 262144) (he : -262144 ≤ e ∧ e ≤ 262144) (hA' : A = max ((bitLen m : Int) - 1 + e - 52) (-1074)) (hk : ¬ A - e < 0)
    (hq : m / 2 ^ (A - e).toNat = v)
    (hrest : CallP Try.prog 176 [numP neg m e more, natP (m / 2 ^ (max (A - e) 0).toNat), .int .i64 (A - e)] (.p (partP sm half)) [])
    (ht : A = (t : Int) - 1074) (hv : v < 9007199254740992) (hvt : 4503599627370496 ≤ v ∨ t = 0) (hund : (bitLen m : Int) - 1 + e < -1022 ↔ v + t * 4503599627370496 < 4503599627370496) :
    CallP Try.prog 142 [numP neg m e more, .int .i64 mode] (fpair (out neg (v + t * 4503599627370496) sm half mode)) [] := by
  have hnm := nlen_bitLen m
  have hbl0 : bitLen m ≠ 0 := mt bitLen_zero_iff.1 hm
  refine callG_of_vc (wr := wr0) Γok mixed Try.func142 (by kernel_rfl) rfl (by kernel_rfl) (le_of_ble rfl) (by simp) ?_
  refine SDraw.mk (by kernel_rfl) ?_
  repeat refine SOp.mk _ _ (And.intro rfl rfl) rfl ?_
  refine SOp.mk _ _ (SCall.pure (nbits_ok false m (by omega)) (And.intro rfl rfl)) rfl ?_
  refine SOp.mk _ _ (SWrap.i64z ((bitLen m : Int) - 1) rfl (by omega) (And.intro rfl rfl)) rfl ?_
  repeat refine SOp.mk _ _ (And.intro rfl rfl) rfl ?_
  refine SOp.mk _ _ (SWrap.i64z ((bitLen m : Int) - 1 + e) rfl (by omega) (And.intro rfl rfl)) rfl ?_
  repeat refine SOp.mk _ _ (And.intro rfl rfl) rfl ?_
  refine SWrap.i64z ((bitLen m : Int) - 1 + e - 52) rfl (by omega) ?_
  refine SZ.mk A ((max_ite _ _).trans hA'.symm) ?_
  refine SWrap.i64z (A - e) rfl (by omega) ?_
  refine SZ.mk (((max (A - e) 0).toNat : Nat) : Int) ((max_ite _ _).trans (by omega)) ?_
  refine SCall.pure (fshr_ok false m (max (A - e) 0).toNat (by omega) (by omega)) ?_
  refine SCall.pure (hrest) ?_
  refine SCmp.no (decide_eq_false (by omega)) ?_
  rw [show (max (A - e) 0).toNat = (A - e).toNat by omega, hq]
  refine SCall.pureT (nsmall_ok false v (by omega)) (fun _ => rfl) ?_
  subst ht
  refine SWrap.and v 1 _ rfl rfl (by omega) (by omega) (low1 v) ?_
  have hpar : v % 2 = (v + t * 4503599627370496) % 2 := by omega
  have hup := up_ok sm half mode neg
  have hu : upc neg (v + t * 4503599627370496) sm half mode = if goUp mode neg sm (decide ((v + t * 4503599627370496) % 2 = 1)) half then v + t * 4503599627370496 + 1 else v + t * 4503599627370496 := rfl
  refine SCmp.sym ?_
  obtain ⟨od, hod⟩ : ∃ od, od = (((v % 2 : Nat) : Int) == 1) := ⟨_, rfl⟩
  rw [show decide ((v + t * 4503599627370496) % 2 = 1) = od by
    rw [hod]
    by_cases h : v % 2 = 1
    · rw [decide_eq_true (by omega), eqT (by omega)]
    · rw [decide_eq_false (by omega), eqF (by omega)]] at hu
  rw [← hod]
  refine SCall.pure (hup od) ?_
  refine SCond.mk (fun hg => ?_) (fun hg => ?_)
  · rw [hg, if_pos rfl] at hu
    refine SWrap.u64z (v + 1) (by omega) (by omega) ?_
    by_cases htop : (v + 1) = 9007199254740992
    · refine SCmp.yes (eqT (by omega)) ?_
      refine SWrap.i64z (((t + 1 : Nat) : Int) - 1074) (by omega) (by omega) ?_
      have hupc : upc neg (v + t * 4503599627370496) sm half mode = 4503599627370496 + (t + 1) * 4503599627370496 := by omega
      refine SCmp.yes (decide_eq_true (by omega)) ?_
      refine SWrap.i64z (((t + 1 : Nat) : Int) - 1022) (by omega) (by omega) ?_
      by_cases hT : 2046 ≤ t + 1
      · refine SCmp.yes (decide_eq_true (by omega)) ?_
        rw [out_over (by omega)]
        refine SCall.pureT (beyond_ok neg mode) (fun _ => rfl) ?_
        exact SRet.pure (.tup rfl fun i c d e1 e2 => by
          match i, e1, e2 with
          | 0, e1, e2 => cases e1; cases e2; exact .p _ (.int _ _)
          | 1, e1, e2 => cases e1; cases e2; exact .p _ (.int _ _))
      · refine SCmp.no (decide_eq_false (by omega)) ?_
        rw [out_fin (by omega), hupc]
        refine SCond.mk (fun hsm => ?_) (fun hsm => ?_)
        · by_cases hund0 : (bitLen m : Int) - 1 + e < -1022
          · refine SCmp.yes (decide_eq_true (by omega)) ?_
            refine SWrap.i64z 3 (by decide) (by omega) ?_
            rw [hsm, if_pos rfl, if_pos (hund.1 hund0)]
            by_cases hw2 : 4503599627370496 ≤ 4503599627370496
            · refine SCmp.yes (decide_eq_true (by omega)) ?_
              refine SWrap.i64z (((t + 1) + 1 : Nat) : Int) (by omega) (by omega) ?_
              refine SWrap.i64z (((t + 1) : Nat) : Int) (by omega) (by omega) ?_
              refine SWrap.u64z ((t + 1)) (by omega) (by omega) ?_
              refine SGe.mk (by decide) ?_
              refine SWrap.u64z ((t + 1) * 4503599627370496) (by show (((t + 1) : Nat) : Int) * 4503599627370496 = _; omega) (by omega) ?_
              refine SWrap.u64z (4503599627370496 + (t + 1) * 4503599627370496) (by omega) (by omega) ?_
              refine SCall.pure (signed_ok (4503599627370496 + (t + 1) * 4503599627370496) (by omega) neg) ?_
              exact SRet.pure (.tup rfl fun i c d e1 e2 => by
                match i, e1, e2 with
                | 0, e1, e2 => cases e1; cases e2; exact .p _ (.int _ _)
                | 1, e1, e2 => cases e1; cases e2; exact .p _ (.int _ _))
            · refine SCmp.no (decide_eq_false (by omega)) ?_
              have hT0 : 4503599627370496 + (t + 1) * 4503599627370496 = 4503599627370496 := by omega
              rw [hT0]
              refine SCall.pure (signed_ok (4503599627370496) (by omega) neg) ?_
              exact SRet.pure (.tup rfl fun i c d e1 e2 => by
                match i, e1, e2 with
                | 0, e1, e2 => cases e1; cases e2; exact .p _ (.int _ _)
                | 1, e1, e2 => cases e1; cases e2; exact .p _ (.int _ _))
          · refine SCmp.no (decide_eq_false (by omega)) ?_
            rw [hsm, if_pos rfl, if_neg (mt hund.2 hund0)]
            by_cases hw2 : 4503599627370496 ≤ 4503599627370496
            · refine SCmp.yes (decide_eq_true (by omega)) ?_
              refine SWrap.i64z (((t + 1) + 1 : Nat) : Int) (by omega) (by omega) ?_
              refine SWrap.i64z (((t + 1) : Nat) : Int) (by omega) (by omega) ?_
              refine SWrap.u64z ((t + 1)) (by omega) (by omega) ?_
              refine SGe.mk (by decide) ?_
              refine SWrap.u64z ((t + 1) * 4503599627370496) (by show (((t + 1) : Nat) : Int) * 4503599627370496 = _; omega) (by omega) ?_
              refine SWrap.u64z (4503599627370496 + (t + 1) * 4503599627370496) (by omega) (by omega) ?_
              refine SCall.pure (signed_ok (4503599627370496 + (t + 1) * 4503599627370496) (by omega) neg) ?_
              exact SRet.pure (.tup rfl fun i c d e1 e2 => by
                match i, e1, e2 with
                | 0, e1, e2 => cases e1; cases e2; exact .p _ (.int _ _)
                | 1, e1, e2 => cases e1; cases e2; exact .p _ (.int _ _))
            · refine SCmp.no (decide_eq_false (by omega)) ?_
              have hT0 : 4503599627370496 + (t + 1) * 4503599627370496 = 4503599627370496 := by omega
              rw [hT0]
              refine SCall.pure (signed_ok (4503599627370496) (by omega) neg) ?_
              exact SRet.pure (.tup rfl fun i c d e1 e2 => by
                match i, e1, e2 with
                | 0, e1, e2 => cases e1; cases e2; exact .p _ (.int _ _)
                | 1, e1, e2 => cases e1; cases e2; exact .p _ (.int _ _))
        · rw [hsm, if_neg Bool.false_ne_true]
          by_cases hw2 : 4503599627370496 ≤ 4503599627370496
          · refine SCmp.yes (decide_eq_true (by omega)) ?_
            refine SWrap.i64z (((t + 1) + 1 : Nat) : Int) (by omega) (by omega) ?_
            refine SWrap.i64z (((t + 1) : Nat) : Int) (by omega) (by omega) ?_
            refine SWrap.u64z ((t + 1)) (by omega) (by omega) ?_
            refine SGe.mk (by decide) ?_
            refine SWrap.u64z ((t + 1) * 4503599627370496) (by show (((t + 1) : Nat) : Int) * 4503599627370496 = _; omega) (by omega) ?_
            refine SWrap.u64z (4503599627370496 + (t + 1) * 4503599627370496) (by omega) (by omega) ?_
            refine SCall.pure (signed_ok (4503599627370496 + (t + 1) * 4503599627370496) (by omega) neg) ?_
            exact SRet.pure (.tup rfl fun i c d e1 e2 => by
              match i, e1, e2 with
              | 0, e1, e2 => cases e1; cases e2; exact .p _ (.int _ _)
              | 1, e1, e2 => cases e1; cases e2; exact .p _ (.int _ _))
          · refine SCmp.no (decide_eq_false (by omega)) ?_
            have hT0 : 4503599627370496 + (t + 1) * 4503599627370496 = 4503599627370496 := by omega
            rw [hT0]
            refine SCall.pure (signed_ok (4503599627370496) (by omega) neg) ?_
            exact SRet.pure (.tup rfl fun i c d e1 e2 => by
              match i, e1, e2 with
              | 0, e1, e2 => cases e1; cases e2; exact .p _ (.int _ _)
              | 1, e1, e2 => cases e1; cases e2; exact .p _ (.int _ _))
    · refine SCmp.no (eqF (by omega)) ?_
      have hupc : upc neg (v + t * 4503599627370496) sm half mode = (v + 1) + t * 4503599627370496 := by omega
      by_cases hw : 4503599627370496 ≤ (v + 1)
      · refine SCmp.yes (decide_eq_true (by omega)) ?_
        refine SWrap.i64z ((t : Int) - 1022) (by omega) (by omega) ?_
        by_cases hT : 2046 ≤ t
        · refine SCmp.yes (decide_eq_true (by omega)) ?_
          rw [out_over (by omega)]
          refine SCall.pureT (beyond_ok neg mode) (fun _ => rfl) ?_
          exact SRet.pure (.tup rfl fun i c d e1 e2 => by
            match i, e1, e2 with
            | 0, e1, e2 => cases e1; cases e2; exact .p _ (.int _ _)
            | 1, e1, e2 => cases e1; cases e2; exact .p _ (.int _ _))
        · refine SCmp.no (decide_eq_false (by omega)) ?_
          rw [out_fin (by omega), hupc]
          refine SCond.mk (fun hsm => ?_) (fun hsm => ?_)
          · by_cases hund0 : (bitLen m : Int) - 1 + e < -1022
            · refine SCmp.yes (decide_eq_true (by omega)) ?_
              refine SWrap.i64z 3 (by decide) (by omega) ?_
              rw [hsm, if_pos rfl, if_pos (hund.1 hund0)]
              by_cases hw2 : 4503599627370496 ≤ (v + 1)
              · refine SCmp.yes (decide_eq_true (by omega)) ?_
                refine SWrap.i64z ((t + 1 : Nat) : Int) (by omega) (by omega) ?_
                refine SWrap.i64z ((t : Nat) : Int) (by omega) (by omega) ?_
                refine SWrap.u64z (t) (by omega) (by omega) ?_
                refine SGe.mk (by decide) ?_
                refine SWrap.u64z (t * 4503599627370496) (by show ((t : Nat) : Int) * 4503599627370496 = _; omega) (by omega) ?_
                refine SWrap.u64z ((v + 1) + t * 4503599627370496) (by omega) (by omega) ?_
                refine SCall.pure (signed_ok ((v + 1) + t * 4503599627370496) (by omega) neg) ?_
                exact SRet.pure (.tup rfl fun i c d e1 e2 => by
                  match i, e1, e2 with
                  | 0, e1, e2 => cases e1; cases e2; exact .p _ (.int _ _)
                  | 1, e1, e2 => cases e1; cases e2; exact .p _ (.int _ _))
              · refine SCmp.no (decide_eq_false (by omega)) ?_
                have hT0 : (v + 1) + t * 4503599627370496 = (v + 1) := by omega
                rw [hT0]
                refine SCall.pure (signed_ok ((v + 1)) (by omega) neg) ?_
                exact SRet.pure (.tup rfl fun i c d e1 e2 => by
                  match i, e1, e2 with
                  | 0, e1, e2 => cases e1; cases e2; exact .p _ (.int _ _)
                  | 1, e1, e2 => cases e1; cases e2; exact .p _ (.int _ _))
            · refine SCmp.no (decide_eq_false (by omega)) ?_
              rw [hsm, if_pos rfl, if_neg (mt hund.2 hund0)]
              by_cases hw2 : 4503599627370496 ≤ (v + 1)
              · refine SCmp.yes (decide_eq_true (by omega)) ?_
                refine SWrap.i64z ((t + 1 : Nat) : Int) (by omega) (by omega) ?_
                refine SWrap.i64z ((t : Nat) : Int) (by omega) (by omega) ?_
                refine SWrap.u64z (t) (by omega) (by omega) ?_
                refine SGe.mk (by decide) ?_
                refine SWrap.u64z (t * 4503599627370496) (by show ((t : Nat) : Int) * 4503599627370496 = _; omega) (by omega) ?_
                refine SWrap.u64z ((v + 1) + t * 4503599627370496) (by omega) (by omega) ?_
                refine SCall.pure (signed_ok ((v + 1) + t * 4503599627370496) (by omega) neg) ?_
                exact SRet.pure (.tup rfl fun i c d e1 e2 => by
                  match i, e1, e2 with
                  | 0, e1, e2 => cases e1; cases e2; exact .p _ (.int _ _)
                  | 1, e1, e2 => cases e1; cases e2; exact .p _ (.int _ _))
              · refine SCmp.no (decide_eq_false (by omega)) ?_
                have hT0 : (v + 1) + t * 4503599627370496 = (v + 1) := by omega
                rw [hT0]
                refine SCall.pure (signed_ok ((v + 1)) (by omega) neg) ?_
                exact SRet.pure (.tup rfl fun i c d e1 e2 => by
                  match i, e1, e2 with
                  | 0, e1, e2 => cases e1; cases e2; exact .p _ (.int _ _)
                  | 1, e1, e2 => cases e1; cases e2; exact .p _ (.int _ _))
          · rw [hsm, if_neg Bool.false_ne_true]
            by_cases hw2 : 4503599627370496 ≤ (v + 1)
            · refine SCmp.yes (decide_eq_true (by omega)) ?_
              refine SWrap.i64z ((t + 1 : Nat) : Int) (by omega) (by omega) ?_
              refine SWrap.i64z ((t : Nat) : Int) (by omega) (by omega) ?_
              refine SWrap.u64z (t) (by omega) (by omega) ?_
              refine SGe.mk (by decide) ?_
              refine SWrap.u64z (t * 4503599627370496) (by show ((t : Nat) : Int) * 4503599627370496 = _; omega) (by omega) ?_
              refine SWrap.u64z ((v + 1) + t * 4503599627370496) (by omega) (by omega) ?_
              refine SCall.pure (signed_ok ((v + 1) + t * 4503599627370496) (by omega) neg) ?_
              exact SRet.pure (.tup rfl fun i c d e1 e2 => by
                match i, e1, e2 with
                | 0, e1, e2 => cases e1; cases e2; exact .p _ (.int _ _)
                | 1, e1, e2 => cases e1; cases e2; exact .p _ (.int _ _))
            · refine SCmp.no (decide_eq_false (by omega)) ?_
              have hT0 : (v + 1) + t * 4503599627370496 = (v + 1) := by omega
              rw [hT0]
              refine SCall.pure (signed_ok ((v + 1)) (by omega) neg) ?_
              exact SRet.pure (.tup rfl fun i c d e1 e2 => by
                match i, e1, e2 with
                | 0, e1, e2 => cases e1; cases e2; exact .p _ (.int _ _)
                | 1, e1, e2 => cases e1; cases e2; exact .p _ (.int _ _))
      · refine SCmp.no (decide_eq_false (by omega)) ?_
        rw [out_fin (by omega), hupc]
        refine SCond.mk (fun hsm => ?_) (fun hsm => ?_)
        · by_cases hund0 : (bitLen m : Int) - 1 + e < -1022
          · refine SCmp.yes (decide_eq_true (by omega)) ?_
            refine SWrap.i64z 3 (by decide) (by omega) ?_
            rw [hsm, if_pos rfl, if_pos (hund.1 hund0)]
            by_cases hw2 : 4503599627370496 ≤ (v + 1)
            · refine SCmp.yes (decide_eq_true (by omega)) ?_
              refine SWrap.i64z ((t + 1 : Nat) : Int) (by omega) (by omega) ?_
              refine SWrap.i64z ((t : Nat) : Int) (by omega) (by omega) ?_
              refine SWrap.u64z (t) (by omega) (by omega) ?_
              refine SGe.mk (by decide) ?_
              refine SWrap.u64z (t * 4503599627370496) (by show ((t : Nat) : Int) * 4503599627370496 = _; omega) (by omega) ?_
              refine SWrap.u64z ((v + 1) + t * 4503599627370496) (by omega) (by omega) ?_
              refine SCall.pure (signed_ok ((v + 1) + t * 4503599627370496) (by omega) neg) ?_
              exact SRet.pure (.tup rfl fun i c d e1 e2 => by
                match i, e1, e2 with
                | 0, e1, e2 => cases e1; cases e2; exact .p _ (.int _ _)
                | 1, e1, e2 => cases e1; cases e2; exact .p _ (.int _ _))
            · refine SCmp.no (decide_eq_false (by omega)) ?_
              have hT0 : (v + 1) + t * 4503599627370496 = (v + 1) := by omega
              rw [hT0]
              refine SCall.pure (signed_ok ((v + 1)) (by omega) neg) ?_
              exact SRet.pure (.tup rfl fun i c d e1 e2 => by
                match i, e1, e2 with
                | 0, e1, e2 => cases e1; cases e2; exact .p _ (.int _ _)
                | 1, e1, e2 => cases e1; cases e2; exact .p _ (.int _ _))
          · refine SCmp.no (decide_eq_false (by omega)) ?_
            rw [hsm, if_pos rfl, if_neg (mt hund.2 hund0)]
            by_cases hw2 : 4503599627370496 ≤ (v + 1)
            · refine SCmp.yes (decide_eq_true (by omega)) ?_
              refine SWrap.i64z ((t + 1 : Nat) : Int) (by omega) (by omega) ?_
              refine SWrap.i64z ((t : Nat) : Int) (by omega) (by omega) ?_
              refine SWrap.u64z (t) (by omega) (by omega) ?_
              refine SGe.mk (by decide) ?_
              refine SWrap.u64z (t * 4503599627370496) (by show ((t : Nat) : Int) * 4503599627370496 = _; omega) (by omega) ?_
              refine SWrap.u64z ((v + 1) + t * 4503599627370496) (by omega) (by omega) ?_
              refine SCall.pure (signed_ok ((v + 1) + t * 4503599627370496) (by omega) neg) ?_
              exact SRet.pure (.tup rfl fun i c d e1 e2 => by
                match i, e1, e2 with
                | 0, e1, e2 => cases e1; cases e2; exact .p _ (.int _ _)
                | 1, e1, e2 => cases e1; cases e2; exact .p _ (.int _ _))
            · refine SCmp.no (decide_eq_false (by omega)) ?_
              have hT0 : (v + 1) + t * 4503599627370496 = (v + 1) := by omega
              rw [hT0]
              refine SCall.pure (signed_ok ((v + 1)) (by omega) neg) ?_
              exact SRet.pure (.tup rfl fun i c d e1 e2 => by
                match i, e1, e2 with
                | 0, e1, e2 => cases e1; cases e2; exact .p _ (.int _ _)
                | 1, e1, e2 => cases e1; cases e2; exact .p _ (.int _ _))
        · rw [hsm, if_neg Bool.false_ne_true]
          by_cases hw2 : 4503599627370496 ≤ (v + 1)
          · refine SCmp.yes (decide_eq_true (by omega)) ?_
            refine SWrap.i64z ((t + 1 : Nat) : Int) (by omega) (by omega) ?_
            refine SWrap.i64z ((t : Nat) : Int) (by omega) (by omega) ?_
            refine SWrap.u64z (t) (by omega) (by omega) ?_
            refine SGe.mk (by decide) ?_
            refine SWrap.u64z (t * 4503599627370496) (by show ((t : Nat) : Int) * 4503599627370496 = _; omega) (by omega) ?_
            refine SWrap.u64z ((v + 1) + t * 4503599627370496) (by omega) (by omega) ?_
            refine SCall.pure (signed_ok ((v + 1) + t * 4503599627370496) (by omega) neg) ?_
            exact SRet.pure (.tup rfl fun i c d e1 e2 => by
              match i, e1, e2 with
              | 0, e1, e2 => cases e1; cases e2; exact .p _ (.int _ _)
              | 1, e1, e2 => cases e1; cases e2; exact .p _ (.int _ _))
          · refine SCmp.no (decide_eq_false (by omega)) ?_
            have hT0 : (v + 1) + t * 4503599627370496 = (v + 1) := by omega
            rw [hT0]
            refine SCall.pure (signed_ok ((v + 1)) (by omega) neg) ?_
            exact SRet.pure (.tup rfl fun i c d e1 e2 => by
              match i, e1, e2 with
              | 0, e1, e2 => cases e1; cases e2; exact .p _ (.int _ _)
              | 1, e1, e2 => cases e1; cases e2; exact .p _ (.int _ _))
  · rw [hg, if_neg Bool.false_ne_true] at hu
    by_cases htop : v = 9007199254740992
    · refine SCmp.yes (eqT (by omega)) ?_
      refine SWrap.i64z (((t + 1 : Nat) : Int) - 1074) (by omega) (by omega) ?_
      have hupc : upc neg (v + t * 4503599627370496) sm half mode = 4503599627370496 + (t + 1) * 4503599627370496 := by omega
      refine SCmp.yes (decide_eq_true (by omega)) ?_
      refine SWrap.i64z (((t + 1 : Nat) : Int) - 1022) (by omega) (by omega) ?_
      by_cases hT : 2046 ≤ t + 1
      · refine SCmp.yes (decide_eq_true (by omega)) ?_
        rw [out_over (by omega)]
        refine SCall.pureT (beyond_ok neg mode) (fun _ => rfl) ?_
        exact SRet.pure (.tup rfl fun i c d e1 e2 => by
          match i, e1, e2 with
          | 0, e1, e2 => cases e1; cases e2; exact .p _ (.int _ _)
          | 1, e1, e2 => cases e1; cases e2; exact .p _ (.int _ _))
      · refine SCmp.no (decide_eq_false (by omega)) ?_
        rw [out_fin (by omega), hupc]
        refine SCond.mk (fun hsm => ?_) (fun hsm => ?_)
        · by_cases hund0 : (bitLen m : Int) - 1 + e < -1022
          · refine SCmp.yes (decide_eq_true (by omega)) ?_
            refine SWrap.i64z 3 (by decide) (by omega) ?_
            rw [hsm, if_pos rfl, if_pos (hund.1 hund0)]
            by_cases hw2 : 4503599627370496 ≤ 4503599627370496
            · refine SCmp.yes (decide_eq_true (by omega)) ?_
              refine SWrap.i64z (((t + 1) + 1 : Nat) : Int) (by omega) (by omega) ?_
              refine SWrap.i64z (((t + 1) : Nat) : Int) (by omega) (by omega) ?_
              refine SWrap.u64z ((t + 1)) (by omega) (by omega) ?_
              refine SGe.mk (by decide) ?_
              refine SWrap.u64z ((t + 1) * 4503599627370496) (by show (((t + 1) : Nat) : Int) * 4503599627370496 = _; omega) (by omega) ?_
              refine SWrap.u64z (4503599627370496 + (t + 1) * 4503599627370496) (by omega) (by omega) ?_
              refine SCall.pure (signed_ok (4503599627370496 + (t + 1) * 4503599627370496) (by omega) neg) ?_
              exact SRet.pure (.tup rfl fun i c d e1 e2 => by
                match i, e1, e2 with
                | 0, e1, e2 => cases e1; cases e2; exact .p _ (.int _ _)
                | 1, e1, e2 => cases e1; cases e2; exact .p _ (.int _ _))
            · refine SCmp.no (decide_eq_false (by omega)) ?_
              have hT0 : 4503599627370496 + (t + 1) * 4503599627370496 = 4503599627370496 := by omega
              rw [hT0]
              refine SCall.pure (signed_ok (4503599627370496) (by omega) neg) ?_
              exact SRet.pure (.tup rfl fun i c d e1 e2 => by
                match i, e1, e2 with
                | 0, e1, e2 => cases e1; cases e2; exact .p _ (.int _ _)
                | 1, e1, e2 => cases e1; cases e2; exact .p _ (.int _ _))
          · refine SCmp.no (decide_eq_false (by omega)) ?_
            rw [hsm, if_pos rfl, if_neg (mt hund.2 hund0)]
            by_cases hw2 : 4503599627370496 ≤ 4503599627370496
            · refine SCmp.yes (decide_eq_true (by omega)) ?_
              refine SWrap.i64z (((t + 1) + 1 : Nat) : Int) (by omega) (by omega) ?_
              refine SWrap.i64z (((t + 1) : Nat) : Int) (by omega) (by omega) ?_
              refine SWrap.u64z ((t + 1)) (by omega) (by omega) ?_
              refine SGe.mk (by decide) ?_
              refine SWrap.u64z ((t + 1) * 4503599627370496) (by show (((t + 1) : Nat) : Int) * 4503599627370496 = _; omega) (by omega) ?_
              refine SWrap.u64z (4503599627370496 + (t + 1) * 4503599627370496) (by omega) (by omega) ?_
              refine SCall.pure (signed_ok (4503599627370496 + (t + 1) * 4503599627370496) (by omega) neg) ?_
              exact SRet.pure (.tup rfl fun i c d e1 e2 => by
                match i, e1, e2 with
                | 0, e1, e2 => cases e1; cases e2; exact .p _ (.int _ _)
                | 1, e1, e2 => cases e1; cases e2; exact .p _ (.int _ _))
            · refine SCmp.no (decide_eq_false (by omega)) ?_
              have hT0 : 4503599627370496 + (t + 1) * 4503599627370496 = 4503599627370496 := by omega
              rw [hT0]
              refine SCall.pure (signed_ok (4503599627370496) (by omega) neg) ?_
              exact SRet.pure (.tup rfl fun i c d e1 e2 => by
                match i, e1, e2 with
                | 0, e1, e2 => cases e1; cases e2; exact .p _ (.int _ _)
                | 1, e1, e2 => cases e1; cases e2; exact .p _ (.int _ _))
        · rw [hsm, if_neg Bool.false_ne_true]
          by_cases hw2 : 4503599627370496 ≤ 4503599627370496
          · refine SCmp.yes (decide_eq_true (by omega)) ?_
            refine SWrap.i64z (((t + 1) + 1 : Nat) : Int) (by omega) (by omega) ?_
            refine SWrap.i64z (((t + 1) : Nat) : Int) (by omega) (by omega) ?_
            refine SWrap.u64z ((t + 1)) (by omega) (by omega) ?_
            refine SGe.mk (by decide) ?_
            refine SWrap.u64z ((t + 1) * 4503599627370496) (by show (((t + 1) : Nat) : Int) * 4503599627370496 = _; omega) (by omega) ?_
            refine SWrap.u64z (4503599627370496 + (t + 1) * 4503599627370496) (by omega) (by omega) ?_
            refine SCall.pure (signed_ok (4503599627370496 + (t + 1) * 4503599627370496) (by omega) neg) ?_
            exact SRet.pure (.tup rfl fun i c d e1 e2 => by
              match i, e1, e2 with
              | 0, e1, e2 => cases e1; cases e2; exact .p _ (.int _ _)
              | 1, e1, e2 => cases e1; cases e2; exact .p _ (.int _ _))
          · refine SCmp.no (decide_eq_false (by omega)) ?_
            have hT0 : 4503599627370496 + (t + 1) * 4503599627370496 = 4503599627370496 := by omega
            rw [hT0]
            refine SCall.pure (signed_ok (4503599627370496) (by omega) neg) ?_
            exact SRet.pure (.tup rfl fun i c d e1 e2 => by
              match i, e1, e2 with
              | 0, e1, e2 => cases e1; cases e2; exact .p _ (.int _ _)
              | 1, e1, e2 => cases e1; cases e2; exact .p _ (.int _ _))
    · refine SCmp.no (eqF (by omega)) ?_
      have hupc : upc neg (v + t * 4503599627370496) sm half mode = v + t * 4503599627370496 := by omega
      by_cases hw : 4503599627370496 ≤ v
      · refine SCmp.yes (decide_eq_true (by omega)) ?_
        refine SWrap.i64z ((t : Int) - 1022) (by omega) (by omega) ?_
        by_cases hT : 2046 ≤ t
        · refine SCmp.yes (decide_eq_true (by omega)) ?_
          rw [out_over (by omega)]
          refine SCall.pureT (beyond_ok neg mode) (fun _ => rfl) ?_
          exact SRet.pure (.tup rfl fun i c d e1 e2 => by
            match i, e1, e2 with
            | 0, e1, e2 => cases e1; cases e2; exact .p _ (.int _ _)
            | 1, e1, e2 => cases e1; cases e2; exact .p _ (.int _ _))
        · refine SCmp.no (decide_eq_false (by omega)) ?_
          rw [out_fin (by omega), hupc]
          refine SCond.mk (fun hsm => ?_) (fun hsm => ?_)
          · by_cases hund0 : (bitLen m : Int) - 1 + e < -1022
            · refine SCmp.yes (decide_eq_true (by omega)) ?_
              refine SWrap.i64z 3 (by decide) (by omega) ?_
              rw [hsm, if_pos rfl, if_pos (hund.1 hund0)]
              by_cases hw2 : 4503599627370496 ≤ v
              · refine SCmp.yes (decide_eq_true (by omega)) ?_
                refine SWrap.i64z ((t + 1 : Nat) : Int) (by omega) (by omega) ?_
                refine SWrap.i64z ((t : Nat) : Int) (by omega) (by omega) ?_
                refine SWrap.u64z (t) (by omega) (by omega) ?_
                refine SGe.mk (by decide) ?_
                refine SWrap.u64z (t * 4503599627370496) (by show ((t : Nat) : Int) * 4503599627370496 = _; omega) (by omega) ?_
                refine SWrap.u64z (v + t * 4503599627370496) (by omega) (by omega) ?_
                refine SCall.pure (signed_ok (v + t * 4503599627370496) (by omega) neg) ?_
                exact SRet.pure (.tup rfl fun i c d e1 e2 => by
                  match i, e1, e2 with
                  | 0, e1, e2 => cases e1; cases e2; exact .p _ (.int _ _)
                  | 1, e1, e2 => cases e1; cases e2; exact .p _ (.int _ _))
              · refine SCmp.no (decide_eq_false (by omega)) ?_
                have hT0 : v + t * 4503599627370496 = v := by omega
                rw [hT0]
                refine SCall.pure (signed_ok (v) (by omega) neg) ?_
                exact SRet.pure (.tup rfl fun i c d e1 e2 => by
                  match i, e1, e2 with
                  | 0, e1, e2 => cases e1; cases e2; exact .p _ (.int _ _)
                  | 1, e1, e2 => cases e1; cases e2; exact .p _ (.int _ _))
            · refine SCmp.no (decide_eq_false (by omega)) ?_
              rw [hsm, if_pos rfl, if_neg (mt hund.2 hund0)]
              by_cases hw2 : 4503599627370496 ≤ v
              · refine SCmp.yes (decide_eq_true (by omega)) ?_
                refine SWrap.i64z ((t + 1 : Nat) : Int) (by omega) (by omega) ?_
                refine SWrap.i64z ((t : Nat) : Int) (by omega) (by omega) ?_
                refine SWrap.u64z (t) (by omega) (by omega) ?_
                refine SGe.mk (by decide) ?_
                refine SWrap.u64z (t * 4503599627370496) (by show ((t : Nat) : Int) * 4503599627370496 = _; omega) (by omega) ?_
                refine SWrap.u64z (v + t * 4503599627370496) (by omega) (by omega) ?_
                refine SCall.pure (signed_ok (v + t * 4503599627370496) (by omega) neg) ?_
                exact SRet.pure (.tup rfl fun i c d e1 e2 => by
                  match i, e1, e2 with
                  | 0, e1, e2 => cases e1; cases e2; exact .p _ (.int _ _)
                  | 1, e1, e2 => cases e1; cases e2; exact .p _ (.int _ _))
              · refine SCmp.no (decide_eq_false (by omega)) ?_
                have hT0 : v + t * 4503599627370496 = v := by omega
                rw [hT0]
                refine SCall.pure (signed_ok (v) (by omega) neg) ?_
                exact SRet.pure (.tup rfl fun i c d e1 e2 => by
                  match i, e1, e2 with
                  | 0, e1, e2 => cases e1; cases e2; exact .p _ (.int _ _)
                  | 1, e1, e2 => cases e1; cases e2; exact .p _ (.int _ _))
          · rw [hsm, if_neg Bool.false_ne_true]
            by_cases hw2 : 4503599627370496 ≤ v
            · refine SCmp.yes (decide_eq_true (by omega)) ?_
              refine SWrap.i64z ((t + 1 : Nat) : Int) (by omega) (by omega) ?_
              refine SWrap.i64z ((t : Nat) : Int) (by omega) (by omega) ?_
              refine SWrap.u64z (t) (by omega) (by omega) ?_
              refine SGe.mk (by decide) ?_
              refine SWrap.u64z (t * 4503599627370496) (by show ((t : Nat) : Int) * 4503599627370496 = _; omega) (by omega) ?_
              refine SWrap.u64z (v + t * 4503599627370496) (by omega) (by omega) ?_
              refine SCall.pure (signed_ok (v + t * 4503599627370496) (by omega) neg) ?_
              exact SRet.pure (.tup rfl fun i c d e1 e2 => by
                match i, e1, e2 with
                | 0, e1, e2 => cases e1; cases e2; exact .p _ (.int _ _)
                | 1, e1, e2 => cases e1; cases e2; exact .p _ (.int _ _))
            · refine SCmp.no (decide_eq_false (by omega)) ?_
              have hT0 : v + t * 4503599627370496 = v := by omega
              rw [hT0]
              refine SCall.pure (signed_ok (v) (by omega) neg) ?_
              exact SRet.pure (.tup rfl fun i c d e1 e2 => by
                match i, e1, e2 with
                | 0, e1, e2 => cases e1; cases e2; exact .p _ (.int _ _)
                | 1, e1, e2 => cases e1; cases e2; exact .p _ (.int _ _))
      · refine SCmp.no (decide_eq_false (by omega)) ?_
        rw [out_fin (by omega), hupc]
        refine SCond.mk (fun hsm => ?_) (fun hsm => ?_)
        · by_cases hund0 : (bitLen m : Int) - 1 + e < -1022
          · refine SCmp.yes (decide_eq_true (by omega)) ?_
            refine SWrap.i64z 3 (by decide) (by omega) ?_
            rw [hsm, if_pos rfl, if_pos (hund.1 hund0)]
            by_cases hw2 : 4503599627370496 ≤ v
            · refine SCmp.yes (decide_eq_true (by omega)) ?_
              refine SWrap.i64z ((t + 1 : Nat) : Int) (by omega) (by omega) ?_
              refine SWrap.i64z ((t : Nat) : Int) (by omega) (by omega) ?_
              refine SWrap.u64z (t) (by omega) (by omega) ?_
              refine SGe.mk (by decide) ?_
              refine SWrap.u64z (t * 4503599627370496) (by show ((t : Nat) : Int) * 4503599627370496 = _; omega) (by omega) ?_
              refine SWrap.u64z (v + t * 4503599627370496) (by omega) (by omega) ?_
              refine SCall.pure (signed_ok (v + t * 4503599627370496) (by omega) neg) ?_
              exact SRet.pure (.tup rfl fun i c d e1 e2 => by
                match i, e1, e2 with
                | 0, e1, e2 => cases e1; cases e2; exact .p _ (.int _ _)
                | 1, e1, e2 => cases e1; cases e2; exact .p _ (.int _ _))
            · refine SCmp.no (decide_eq_false (by omega)) ?_
              have hT0 : v + t * 4503599627370496 = v := by omega
              rw [hT0]
              refine SCall.pure (signed_ok (v) (by omega) neg) ?_
              exact SRet.pure (.tup rfl fun i c d e1 e2 => by
                match i, e1, e2 with
                | 0, e1, e2 => cases e1; cases e2; exact .p _ (.int _ _)
                | 1, e1, e2 => cases e1; cases e2; exact .p _ (.int _ _))
          · refine SCmp.no (decide_eq_false (by omega)) ?_
            rw [hsm, if_pos rfl, if_neg (mt hund.2 hund0)]
            by_cases hw2 : 4503599627370496 ≤ v
            · refine SCmp.yes (decide_eq_true (by omega)) ?_
              refine SWrap.i64z ((t + 1 : Nat) : Int) (by omega) (by omega) ?_
              refine SWrap.i64z ((t : Nat) : Int) (by omega) (by omega) ?_
              refine SWrap.u64z (t) (by omega) (by omega) ?_
              refine SGe.mk (by decide) ?_
              refine SWrap.u64z (t * 4503599627370496) (by show ((t : Nat) : Int) * 4503599627370496 = _; omega) (by omega) ?_
              refine SWrap.u64z (v + t * 4503599627370496) (by omega) (by omega) ?_
              refine SCall.pure (signed_ok (v + t * 4503599627370496) (by omega) neg) ?_
              exact SRet.pure (.tup rfl fun i c d e1 e2 => by
                match i, e1, e2 with
                | 0, e1, e2 => cases e1; cases e2; exact .p _ (.int _ _)
                | 1, e1, e2 => cases e1; cases e2; exact .p _ (.int _ _))
            · refine SCmp.no (decide_eq_false (by omega)) ?_
              have hT0 : v + t * 4503599627370496 = v := by omega
              rw [hT0]
              refine SCall.pure (signed_ok (v) (by omega) neg) ?_
              exact SRet.pure (.tup rfl fun i c d e1 e2 => by
                match i, e1, e2 with
                | 0, e1, e2 => cases e1; cases e2; exact .p _ (.int _ _)
                | 1, e1, e2 => cases e1; cases e2; exact .p _ (.int _ _))
        · rw [hsm, if_neg Bool.false_ne_true]
          by_cases hw2 : 4503599627370496 ≤ v
          · refine SCmp.yes (decide_eq_true (by omega)) ?_
            refine SWrap.i64z ((t + 1 : Nat) : Int) (by omega) (by omega) ?_
            refine SWrap.i64z ((t : Nat) : Int) (by omega) (by omega) ?_
            refine SWrap.u64z (t) (by omega) (by omega) ?_
            refine SGe.mk (by decide) ?_
            refine SWrap.u64z (t * 4503599627370496) (by show ((t : Nat) : Int) * 4503599627370496 = _; omega) (by omega) ?_
            refine SWrap.u64z (v + t * 4503599627370496) (by omega) (by omega) ?_
            refine SCall.pure (signed_ok (v + t * 4503599627370496) (by omega) neg) ?_
            exact SRet.pure (.tup rfl fun i c d e1 e2 => by
              match i, e1, e2 with
              | 0, e1, e2 => cases e1; cases e2; exact .p _ (.int _ _)
              | 1, e1, e2 => cases e1; cases e2; exact .p _ (.int _ _))
          · refine SCmp.no (decide_eq_false (by omega)) ?_
            have hT0 : v + t * 4503599627370496 = v := by omega
            rw [hT0]
            refine SCall.pure (signed_ok (v) (by omega) neg) ?_
            exact SRet.pure (.tup rfl fun i c d e1 e2 => by
              match i, e1, e2 with
              | 0, e1, e2 => cases e1; cases e2; exact .p _ (.int _ _)
              | 1, e1, e2 => cases e1; cases e2; exact .p _ (.int _ _))

theorem round_ok (neg : Bool) (m : Nat) (e : Int) (more : Bool) (mode : Int) {X : Rat} (hm : m ≠ 0) (hmb : bitLen m ≤ 262144) (he : -262144 ≤ e ∧ e ≤ 262144) (h1 : (m : Rat) * p2 e ≤ X) (h2 : X < ((m : Rat) + 1) * p2 e)
    (hmore : more = decide (X ≠ (m : Rat) * p2 e)) (hbig : more = true → 54 ≤ bitLen m) :
    CallP Try.prog 142 [numP neg m e more, .int .i64 mode] (fpair (rndQ neg X mode)) [] := by
  have hnm := nlen_bitLen m
  have hbl0 : bitLen m ≠ 0 := mt bitLen_zero_iff.1 hm
  obtain ⟨A, hA⟩ : ∃ A, A = ulpOf m e := ⟨_, rfl⟩
  have hA' := hA
  rw [ulpOf] at hA'
  obtain ⟨v, t, sm, half, hq, hrest, ht, hv, hvt, hcut, hund⟩ : ∃ (v t : Nat) (sm : Bool) (half : Int), (if A - e < 0 then m * 2 ^ (e - A).toNat else m / 2 ^ (A - e).toNat) = v ∧
      CallP Try.prog 176 [numP neg m e more, natP (m / 2 ^ (max (A - e) 0).toNat), .int .i64 (A - e)] (.p (partP sm half)) [] ∧
      A = (t : Int) - 1074 ∧ v < 9007199254740992 ∧ (4503599627370496 ≤ v ∨ t = 0) ∧ Cut X (v + t * 4503599627370496) sm half ∧ ((bitLen m : Int) - 1 + e < -1022 ↔ v + t * 4503599627370496 < 4503599627370496) := by
    rcases Int.lt_or_le e A with h | h
    · obtain ⟨v, t, e1, e2, e3, e4, e5, e6⟩ := cut_more (k := (A - e).toNat) hm (by rw [← hA]; exact h) h1 h2 hmore (by rw [hA])
      refine ⟨v, t, _, _, ?_, ?_, by rw [hA]; exact e2, e3, e4, e5, e6⟩
      · rw [if_neg (by omega)]; exact e1.symm
      · have := rest_ok false neg m e (A - e).toNat more (by omega) (by omega) (by omega)
        rw [show ((A - e).toNat : Int) = A - e by omega] at this
        rw [show (max (A - e) 0).toNat = (A - e).toNat by omega]
        exact this
    · have hmr : more = false := by
        cases more with
        | false => rfl
        | true => have := hbig rfl; omega
      have hX : X = (m : Rat) * p2 e := by rw [hmr] at hmore; exact Classical.not_not.1 (of_decide_eq_false hmore.symm)
      obtain ⟨v, t, e1, e2, e3, e4, e5, e6⟩ := cut_exact hm (by rw [← hA]; exact h)
      rw [← hX] at e5
      refine ⟨v, t, _, _, ?_, ?_, by rw [hA]; exact e2, e3, e4, e5, e6⟩
      · rcases Int.lt_or_le (A - e) 0 with h3 | h3
        · rw [if_pos h3, e1, hA]
        · rw [if_neg (by omega), e1, ← hA, show (A - e).toNat = 0 by omega, show (e - A).toNat = 0 by omega]; simp
      · have := rest0_ok false neg m (m / 2 ^ (max (A - e) 0).toNat) e (A - e) more (by omega)
        rw [hmr] at this ⊢
        exact this
  rw [← hcut.out]
  by_cases hk : A - e < 0
  · exact round_neg hm hmb he hA' hk (by rw [if_pos hk] at hq; exact hq) hrest ht hv hvt hund
  · exact round_pos hm hmb he hA' hk (by rw [if_neg hk] at hq; exact hq) hrest ht hv hvt hund
end Go.Proofs.Ytkaooejeljdbnaa

/- Floats: numbers as floats, floats as numbers, their order. -/
namespace Go.Proofs.Ytkaooejeljdbnaa
open Go
set_option linter.unusedVariables false
set_option linter.unusedSimpArgs false
set_option maxRecDepth 10000

/-! #### numbers by their parts -/
theorem rat_parts (q : Rat) : q = (q.num : Rat) / (q.den : Rat) := by
  have : (q.num : Rat) / ((q.den : Int) : Rat) = q := by rw [← Rat.divInt_eq_div]; exact Rat.num_divInt_den q
  exact this.symm
theorem den_posQ (q : Rat) : (0 : Rat) < (q.den : Rat) := by have := q.den_pos; exact_mod_cast this
theorem natAbs_cast_pos {z : Int} (h : 0 ≤ z) : ((z.natAbs : Nat) : Rat) = (z : Rat) := by
  have : ((z.natAbs : Nat) : Int) = z := by omega
  have h2 : (((z.natAbs : Nat) : Int) : Rat) = (z : Rat) := by rw [this]
  exact h2
theorem natAbs_cast_neg {z : Int} (h : z ≤ 0) : ((z.natAbs : Nat) : Rat) = -(z : Rat) := by
  have : ((z.natAbs : Nat) : Int) = -z := by omega
  have h2 : (((z.natAbs : Nat) : Int) : Rat) = ((-z : Int) : Rat) := by rw [this]
  rw [Rat.intCast_neg] at h2
  exact h2
theorem num_neg_iff {q : Rat} : q.num < 0 ↔ q < 0 := by rw [← Int.not_le, Rat.num_nonneg, Rat.not_le]
theorem abs_parts (q : Rat) : q.abs = ((q.num.natAbs : Nat) : Rat) / (q.den : Rat) := by
  rw [Rat.abs]
  split
  · rename_i h
    rw [natAbs_cast_pos (Rat.num_nonneg.2 h)]
    exact rat_parts q
  · rename_i h
    have h2 : q.num < 0 := num_neg_iff.2 (Rat.not_le.1 h)
    rw [natAbs_cast_neg (by omega)]
    have := rat_parts q
    have h3 := den_posQ q
    generalize (q.num : Rat) = x at *
    generalize (q.den : Rat) = y at *
    rw [this]; grind
theorem mkQ_val {neg : Bool} {n d : Nat} : mkQ neg n d = if neg then -((n : Rat) / (d : Rat)) else (n : Rat) / (d : Rat) := by
  rw [mkQ, Rat.mkRat_eq_div]
  cases neg with
  | true =>
    rw [sgn, if_pos rfl, if_pos rfl, Rat.intCast_neg]
    show -(n : Rat) / (d : Rat) = _
    grind
  | false => rfl

/-! #### what a quotient is, as a value -/
theorem over_cut {n d : Nat} (hn : n ≠ 0) (hd : d ≠ 0) (e : Int) {k : Nat} (hk : 66 + bitLen d ≤ bitLen n + k) :
    n * 2 ^ k / d ≠ 0 ∧ ((n * 2 ^ k / d : Nat) : Rat) * p2 (e - k) ≤ (n : Rat) / (d : Rat) * p2 e ∧ (n : Rat) / (d : Rat) * p2 e < (((n * 2 ^ k / d : Nat) : Rat) + 1) * p2 (e - k) ∧
    decide (n * 2 ^ k % d ≠ 0) = decide ((n : Rat) / (d : Rat) * p2 e ≠ ((n * 2 ^ k / d : Nat) : Rat) * p2 (e - k)) ∧ 54 ≤ bitLen (n * 2 ^ k / d) := by
  obtain ⟨m, hm⟩ : ∃ m, m = n * 2 ^ k / d := ⟨_, rfl⟩
  obtain ⟨r, hr⟩ : ∃ r, r = n * 2 ^ k % d := ⟨_, rfl⟩
  have hdm : d * m + r = n * 2 ^ k := by rw [hm, hr]; exact Nat.div_add_mod _ _
  have hrd : r < d := by rw [hr]; exact Nat.mod_lt _ (by omega)
  have hbn := bitLen_pos hn
  have hbd := bitLen_lt d
  have hbn0 : bitLen n ≠ 0 := mt bitLen_zero_iff.1 hn
  have hbig : 2 ^ 65 ≤ m := by
    rw [hm, Nat.le_div_iff_mul_le (by omega)]
    have h1 : 2 ^ (bitLen n - 1) * 2 ^ k ≤ n * 2 ^ k := Nat.mul_le_mul_right _ hbn
    have h2 : 2 ^ (65 + bitLen d) ≤ 2 ^ (bitLen n - 1) * 2 ^ k := by rw [← Nat.pow_add]; exact Nat.pow_le_pow_right (by omega) (by omega)
    have h3 : 2 ^ 65 * d ≤ 2 ^ 65 * 2 ^ bitLen d := Nat.mul_le_mul_left _ (by omega)
    rw [Nat.pow_add] at h2
    omega
  rw [← hm, ← hr]
  have hm0 : m ≠ 0 := by have : 0 < 2 ^ 65 := by decide
                         omega
  have hb54 : 54 ≤ bitLen m := by
    rcases Nat.lt_or_ge (bitLen m) 54 with h | h
    · have h1 := bitLen_lt m
      have h2 : 2 ^ bitLen m ≤ 2 ^ 65 := Nat.pow_le_pow_right (by omega) (by omega)
      omega
    · exact h
  have hdq : (0 : Rat) < (d : Rat) := by have : 0 < d := by omega
                                         exact_mod_cast this
  have hu := p2_pos (e - k)
  have hpe : p2 e = p2 (e - k) * ((2 ^ k : Nat) : Rat) := by have := p2_add_nat (e - k) k; rwa [show e - (k : Int) + k = e by omega] at this
  have hq : (n : Rat) * ((2 ^ k : Nat) : Rat) = (d : Rat) * (m : Rat) + (r : Rat) := by rw [← Rat.natCast_mul, ← hdm, Rat.natCast_add, Rat.natCast_mul]
  obtain ⟨s, hs⟩ : ∃ s : Rat, s = (r : Rat) / (d : Rat) := ⟨_, rfl⟩
  have hs1 : s * (d : Rat) = (r : Rat) := by rw [hs]; exact Rat.div_mul_cancel (by grind)
  have hs0 : 0 ≤ s := by
    rcases Rat.le_total (a := 0) (b := s) with h | h
    · exact h
    · have hr0 : (0 : Rat) ≤ (r : Rat) := by exact_mod_cast Nat.zero_le r
      have := Rat.mul_nonneg (show 0 ≤ -s by grind) (show 0 ≤ (d : Rat) by grind)
      by_cases h2 : s = 0
      · rw [h2]; exact Rat.le_refl
      · have := Rat.mul_pos (show 0 < -s by grind) hdq
        grind
  have hs2 : s < 1 := by
    have hrq : (r : Rat) < (d : Rat) := natq_lt.2 hrd
    by_cases h : s < 1
    · exact h
    · have := mul_le_q (Rat.not_lt.1 h) hdq
      grind
  have hX : (n : Rat) / (d : Rat) * p2 e = ((m : Rat) + s) * p2 (e - k) := by
    have h1 : (n : Rat) / (d : Rat) * ((2 ^ k : Nat) : Rat) = (m : Rat) + s := by
      have h2 : (n : Rat) / (d : Rat) * (d : Rat) = (n : Rat) := Rat.div_mul_cancel (by grind)
      generalize (n : Rat) / (d : Rat) = y at h2 ⊢
      generalize ((2 ^ k : Nat) : Rat) = z at hq ⊢
      have : (y * z - ((m : Rat) + s)) * (d : Rat) = 0 := by rw [← h2] at hq; grind
      rcases Rat.mul_eq_zero.1 this with h | h
      · grind
      · grind
    rw [hpe, ← h1]; grind
  rw [hX]
  refine ⟨hm0, ?_, ?_, ?_, hb54⟩
  · have := Rat.mul_nonneg hs0 (show 0 ≤ p2 (e - k) by grind)
    grind
  · have := mul_lt_q hs2 hu
    grind
  · by_cases h : r = 0
    · subst h
      have : s = 0 := by rw [hs]; simp; grind
      rw [this, decide_eq_false (by simp), decide_eq_false (by simp; grind)]
    · rw [decide_eq_true h]
      symm
      refine decide_eq_true ?_
      intro h2
      have hr0 : (0 : Rat) < (r : Rat) := by
        have : 0 < r := by omega
        exact_mod_cast this
      have hsp : 0 < s := by
        rcases Rat.le_iff_lt_or_eq.1 hs0 with h | h
        · exact h
        · rw [← h] at hs1; grind
      have := mul_pos_q hsp hu
      grind

theorem fover_ok (neg : Bool) (m m' : Bool) (n d : Nat) (e : Int) (hd : d ≠ 0) (hn : bitLen n ≤ 131072) (hdb : bitLen d ≤ 65536) (he : -262144 ≤ e ∧ e ≤ 262144) {k : Nat} (hk : k = (66 + (bitLen d : Int) - bitLen n).toNat) :
    CallP Try.prog 141 [.bool neg, natM m n, natM m' d, .int .i64 e] (.p (numP neg (n * 2 ^ k / d) (e - k) (decide (n * 2 ^ k % d ≠ 0)))) [] := by
  refine callG_of_vc (wr := wr0) Γok mixed Try.func141 (by kernel_rfl) rfl (by kernel_rfl) (le_of_ble rfl) (by simp) ?_
  have hnn := nlen_bitLen n
  have hnd := nlen_bitLen d
  have hs := nlen_shl n k
  refine SCall.pure (nbits_ok m' d (by omega)) ?_
  refine SWrap.i64z (66 + (bitLen d : Int)) rfl (by omega) ?_
  refine SCall.pure (nbits_ok m n (by omega)) ?_
  refine SWrap.i64z (66 + (bitLen d : Int) - bitLen n) rfl (by omega) ?_
  refine SZ.mk (k : Int) ((max_ite _ _).trans (by omega)) ?_
  refine SCall.pure (fshl_ok m n k (by omega) (by omega)) ?_
  have hdiv := div_ok false m' (n * 2 ^ k) d (by omega) (by omega)
  rw [if_neg hd] at hdiv
  refine SCall.pureT (hdiv) (fun _ => rfl) ?_
  refine SWrap.i64z (e - k) rfl (by omega) ?_
  have hlr : (nl (n * 2 ^ k % d)).length = nlen (n * 2 ^ k % d) := rfl
  refine SZ.mk (nlen (n * 2 ^ k % d) : Int) (by simp [hlr]) ?_
  by_cases h0 : n * 2 ^ k % d = 0
  · have := nlen_zero_iff.2 h0
    rw [decide_eq_false (show ¬ n * 2 ^ k % d ≠ 0 from fun h => h h0)]
    refine SCmp.no (decide_eq_false (by omega)) ?_
    exact SRet.pure (.p _ (pers_num _ _ _ _))
  · have := mt nlen_zero_iff.1 h0
    rw [decide_eq_true h0]
    refine SCmp.yes (decide_eq_true (by omega)) ?_
    exact SRet.pure (.p _ (pers_num _ _ _ _))
theorem over_bits {n d k : Nat} (hd : d ≠ 0) : bitLen (n * 2 ^ k / d) ≤ bitLen n + k := bitLen_le (by
  rw [Nat.div_lt_iff_lt_mul (by omega)]
  have h1 : n * 2 ^ k < 2 ^ bitLen n * 2 ^ k := Nat.mul_lt_mul_of_pos_right (bitLen_lt n) (Nat.two_pow_pos k)
  rw [← Nat.pow_add] at h1
  exact Nat.lt_of_lt_of_le h1 (Nat.le_mul_of_pos_right _ (by omega)))
/-- A quotient, rounded. -/
theorem round_over (neg : Bool) (n d : Nat) (e mode : Int) (hn0 : n ≠ 0) (hd : d ≠ 0) (hn : bitLen n ≤ 65536) (hdb : bitLen d ≤ 65536) (he : -131072 ≤ e ∧ e ≤ 131072) {k : Nat} (hk : k = (66 + (bitLen d : Int) - bitLen n).toNat) :
    CallP Try.prog 142 [numP neg (n * 2 ^ k / d) (e - k) (decide (n * 2 ^ k % d ≠ 0)), .int .i64 mode] (fpair (rndQ neg ((n : Rat) / (d : Rat) * p2 e) mode)) [] := by
  obtain ⟨h1, h2, h3, h4, h5⟩ := over_cut (k := k) hn0 hd e (by omega)
  have hb := over_bits (n := n) (k := k) hd
  exact round_ok neg _ _ _ mode h1 (by omega) (by omega) h2 h3 h4 fun _ => h5

/-- A number, rounded. -/
noncomputable def rS (q : Rat) (mode : Int) : Nat × Int := rndQ (decide (q.num < 0)) q.abs mode
noncomputable def ofF (q : Rat) (mode : Int) : Nat × Int := if q = 0 then (0, 0) else rS q mode
theorem sfof_ok (q : Rat) (mode : Int) {k : Nat} (hq : Bz q k) (hk : k ≤ 65536) : CallP Try.prog 91 [ratP q, .int .i64 mode] (fpair (ofF q mode)) [] := by
  refine callG_of_vc (wr := wr0) Γok mixed Try.func91 (by kernel_rfl) rfl (by kernel_rfl) (le_of_ble rfl) (by simp) ?_
  have hn := hq.1
  have hd := hq.2
  have hlr : (nl q.num.natAbs).length = nlen q.num.natAbs := rfl
  refine SZ.mk (nlen q.num.natAbs : Int) (by simp [hlr]) ?_
  by_cases h0 : q.num.natAbs = 0
  · have := nlen_zero_iff.2 h0
    have hq0 : q = 0 := Rat.num_eq_zero.1 (by omega)
    rw [ofF, if_pos hq0]
    refine SCmp.yes (eqT (by omega)) ?_
    exact SRet.pure (.tup rfl fun i c d e1 e2 => by
      match i, e1, e2 with
      | 0, e1, e2 => cases e1; cases e2; exact .p _ (.int _ _)
      | 1, e1, e2 => cases e1; cases e2; exact .p _ (.int _ _))
  · have := mt nlen_zero_iff.1 h0
    have hq0 : q ≠ 0 := fun h => h0 (by rw [h]; rfl)
    rw [ofF, if_neg hq0]
    refine SCmp.no (eqF (by omega)) ?_
    have hld : (nl q.den).length = nlen q.den := rfl
    have hdn := mt nlen_zero_iff.1 q.den_nz
    refine SZ.mk (nlen q.den : Int) (by simp [hld]) ?_
    refine SCmp.no (eqF (by omega)) ?_
    refine SCall.pure (fover_ok _ false false q.num.natAbs q.den 0 q.den_nz (by omega) (by omega) (by omega) rfl) ?_
    have := round_over (decide (q.num < 0)) q.num.natAbs q.den 0 mode h0 q.den_nz (by omega) (by omega) (by omega) rfl
    rw [p2_zero, Rat.mul_one, ← abs_parts] at this
    refine SCall.pureT (this) (fun _ => rfl) ?_
    exact SRet.pure (.tup rfl fun i c d e1 e2 => by
      match i, e1, e2 with
      | 0, e1, e2 => cases e1; cases e2; exact .p _ (.int _ _)
      | 1, e1, e2 => cases e1; cases e2; exact .p _ (.int _ _))
end Go.Proofs.Ytkaooejeljdbnaa

/- Floats: as numbers, their order, the next ones. -/
namespace Go.Proofs.Ytkaooejeljdbnaa
open Go
set_option linter.unusedVariables false
set_option linter.unusedSimpArgs false
set_option maxRecDepth 10000

/-- The number that a float says. -/
def fvq (f : Nat) : Rat := if ngt f then -fval (mag f) else fval (mag f)
theorem p2_frac (m : Nat) (e : Int) : ((m * 2 ^ e.toNat : Nat) : Rat) / ((2 ^ (-e).toNat : Nat) : Rat) = (m : Rat) * p2 e := by
  rcases Int.lt_or_le e 0 with h | h
  · obtain ⟨k, hk⟩ : ∃ k : Nat, e = -(k : Int) := ⟨(-e).toNat, by omega⟩
    rw [hk, p2_neg, show (-(k : Int)).toNat = 0 by omega, show (-(-(k : Int))).toNat = k by omega, Nat.pow_zero, Nat.mul_one]
    have := pow_posQ k
    generalize ((2 ^ k : Nat) : Rat) = x at *
    grind
  · obtain ⟨k, hk⟩ : ∃ k : Nat, e = (k : Int) := ⟨e.toNat, by omega⟩
    rw [hk, p2_ofNat, show ((k : Int)).toNat = k by omega, show (-(k : Int)).toNat = 0 by omega, Nat.pow_zero, Rat.natCast_mul]
    grind
theorem mkQ_fvq (f : Nat) : mkQ (ngt f) (fsig (mag f) * 2 ^ (fexp (mag f)).toNat) (2 ^ (-fexp (mag f)).toNat) = fvq f := by
  rw [mkQ_val, p2_frac]; rfl
theorem mag_lt (f : Nat) : mag f < 9223372036854775808 := Nat.mod_lt _ (by decide)
theorem fexp_le {c : Nat} (h : c < 9223372036854775808) : fexp c ≤ 972 := by unfold fexp; split <;> omega
theorem fsig_lt (c : Nat) : fsig c < 9007199254740992 := by unfold fsig; split <;> omega
theorem bits_shl (a k : Nat) : bitLen (a * 2 ^ k) ≤ bitLen a + k := bitLen_le (by
  rw [Nat.pow_add]; exact Nat.mul_lt_mul_of_pos_right (bitLen_lt a) (Nat.two_pow_pos k))
theorem bits_pow (k : Nat) : bitLen (2 ^ k) ≤ k + 1 := bitLen_le (Nat.pow_lt_pow_right (by omega) (by omega))
theorem fsig_bits (c : Nat) : bitLen (fsig c) ≤ 53 := bitLen_le (fsig_lt c)
theorem fn_bits (f : Nat) : bitLen (fsig (mag f) * 2 ^ (fexp (mag f)).toNat) ≤ 1030 := by
  have h1 := bits_shl (fsig (mag f)) (fexp (mag f)).toNat
  have h2 := fsig_bits (mag f)
  have h3 := fexp_le (mag_lt f)
  omega
theorem fd_bits (f : Nat) : bitLen (2 ^ (-fexp (mag f)).toNat) ≤ 1080 := by
  have h1 := bits_pow (-fexp (mag f)).toNat
  have h3 := fexp_ge (mag f)
  omega
theorem fvq_bz (f : Nat) : Bz (fvq f) 1080 := by
  rw [← mkQ_fvq]
  refine Bz.mkQ (Nat.ne_of_gt (Nat.two_pow_pos _)) ?_ (fd_bits f)
  have := fn_bits f
  omega
theorem bits_one : bitLen 1 = 1 := by decide

theorem pers_rat0 : Pers (.agg [.bool false, .sl false 1 [], .sl false 1 []]) := .agg _ fun c hc => by
  simp at hc
  rcases hc with rfl | rfl
  · exact .bool _
  · exact .sl _ _ (fun e he => absurd he List.not_mem_nil)
/-- A float's place among all. -/
def pl (f : Nat) : Int := if ngt f then -(mag f : Int) else f
def cmpI (a b : Int) : Int := if a < b then -1 else if b < a then 1 else 0
theorem ngt_true {f : Nat} (h : ngt f = true) : 9223372036854775808 ≤ f := of_decide_eq_true h
theorem ngt_false {f : Nat} (h : ngt f = false) : f < 9223372036854775808 := by have := of_decide_eq_false h; omega
/-- Which of two floats is greater. -/
def cmpF (a b : Nat) : Int × Bool := if isNan a || isNan b then (0, false) else (cmpI (pl a) (pl b), true)
abbrev cpair (r : Int × Bool) : AV := .tup [.p (.int .i64 r.1), .p (.bool r.2)]
/-- The float next above, or below. -/
def nextF (f : Nat) (up : Bool) : Nat :=
  if isNan f then 9221120237041090560 else if isZ f then sg (!up) 1 else if isInf f && (ngt f != up) then f else if ngt f = up then f - 1 else f + 1
end Go.Proofs.Ytkaooejeljdbnaa
