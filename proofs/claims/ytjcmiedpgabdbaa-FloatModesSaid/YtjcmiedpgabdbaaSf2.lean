/- Floats: rounding. -/
import Derived.Test.YtjcmiedpgabdbaaSf1
namespace Go.Proofs.Ytjcmiedpgabdbaa
open Go
set_option linter.unusedVariables false
set_option linter.unusedSimpArgs false
set_option maxRecDepth 10000

abbrev partP (sm : Bool) (half : Int) : PV := .agg [.bool sm, .int .i64 half]
theorem pers_part (sm : Bool) (half : Int) : Pers (partP sm half) := .agg _ fun c hc => by
  simp at hc
  rcases hc with rfl | rfl
  · exact .bool _
  · exact .int _ _

theorem goUp_d {mode half : Int} {neg sm odd : Bool} (h1 : mode ≠ 1) (h2 : mode ≠ 2) (h3 : mode ≠ 3) (h4 : mode ≠ 4) : goUp mode neg sm odd half = (decide (0 < half) || (decide (half = 0) && odd)) := by
  rw [goUp, if_neg h1, if_neg h2, if_neg h3, if_neg h4]
theorem up_ok (sm : Bool) (half mode : Int) (neg odd : Bool) : CallP Try.prog 126 [partP sm half, .int .i64 mode, .bool neg, .bool odd] (.p (.bool (goUp mode neg sm odd half))) [] := by
  refine callG_of_vc (wr := wr0) Γok mixed Try.func126 (by kernel_rfl) rfl (by kernel_rfl) (le_of_ble rfl) (by simp) ?_
  by_cases h1 : mode = 1
  · rw [show goUp mode neg sm odd half = false by rw [goUp, if_pos h1]]
    refine SCmp.yes (eqT h1) ?_
    first | exact SRet.pure (.tf _) | exact SRet.pure (.p _ (.bool _))
  refine SCmp.no (eqF h1) ?_
  by_cases h2 : mode = 2
  · refine SCmp.yes (eqT h2) ?_
    rw [show goUp mode neg sm odd half = (neg && sm) by rw [goUp, if_neg h1, if_pos h2]]
    cases neg <;> cases sm
    · refine SCond.mk (fun h => by cases h) (fun _ => ?_)
      first | exact SRet.pure (.tf _) | exact SRet.pure (.p _ (.bool _))
    · refine SCond.mk (fun h => by cases h) (fun _ => ?_)
      first | exact SRet.pure (.tf _) | exact SRet.pure (.p _ (.bool _))
    · refine SCond.mk (fun _ => ?_) (fun h => by cases h)
      first | exact SRet.pure (.tf _) | exact SRet.pure (.p _ (.bool _))
    · refine SCond.mk (fun _ => ?_) (fun h => by cases h)
      first | exact SRet.pure (.tf _) | exact SRet.pure (.p _ (.bool _))
  refine SCmp.no (eqF h2) ?_
  by_cases h3 : mode = 3
  · refine SCmp.yes (eqT h3) ?_
    rw [show goUp mode neg sm odd half = (!neg && sm) by rw [goUp, if_neg h1, if_neg h2, if_pos h3]]
    cases neg <;> cases sm
    · refine SCmp.yes (rfl) ?_
      first | exact SRet.pure (.tf _) | exact SRet.pure (.p _ (.bool _))
    · refine SCmp.yes (rfl) ?_
      first | exact SRet.pure (.tf _) | exact SRet.pure (.p _ (.bool _))
    · refine SCmp.no (rfl) ?_
      first | exact SRet.pure (.tf _) | exact SRet.pure (.p _ (.bool _))
    · refine SCmp.no (rfl) ?_
      first | exact SRet.pure (.tf _) | exact SRet.pure (.p _ (.bool _))
  refine SCmp.no (eqF h3) ?_
  by_cases h4 : mode = 4
  · refine SCmp.yes (eqT h4) ?_
    rw [show goUp mode neg sm odd half = decide (0 ≤ half) by rw [goUp, if_neg h1, if_neg h2, if_neg h3, if_pos h4]]
    by_cases h : 0 ≤ half
    · rw [decide_eq_true h]
      refine SCmp.yes (decide_eq_true (by omega)) ?_
      first | exact SRet.pure (.tf _) | exact SRet.pure (.p _ (.bool _))
    · rw [decide_eq_false h]
      refine SCmp.no (decide_eq_false (by omega)) ?_
      first | exact SRet.pure (.tf _) | exact SRet.pure (.p _ (.bool _))
  refine SCmp.no (eqF h4) ?_
  rw [goUp_d h1 h2 h3 h4]
  by_cases h : 0 < half
  · rw [decide_eq_true h]
    refine SCmp.yes (decide_eq_true (by omega)) ?_
    first | exact SRet.pure (.tf _) | exact SRet.pure (.p _ (.bool _))
  rw [decide_eq_false h]
  refine SCmp.no (decide_eq_false (by omega)) ?_
  by_cases h0 : half = 0
  · rw [decide_eq_true h0]
    refine SCmp.yes (eqT h0) ?_
    cases odd
    · first | exact SRet.pure (.tf _) | exact SRet.pure (.p _ (.bool _))
    · first | exact SRet.pure (.tf _) | exact SRet.pure (.p _ (.bool _))
  · rw [decide_eq_false h0]
    refine SCmp.no (eqF h0) ?_
    first | exact SRet.pure (.tf _) | exact SRet.pure (.p _ (.bool _))

theorem lim_lt (neg : Bool) (mode : Int) : lim neg mode < 9223372036854775808 := by unfold lim; split <;> omega
theorem beyond_ok (neg : Bool) (mode : Int) : CallP Try.prog 127 [.bool neg, .int .i64 mode] (.tup [.p (.int .u64 (sg neg (lim neg mode))), .p (.int .i64 5)]) [] := by
  refine callG_of_vc (wr := wr0) Γok mixed Try.func127 (by kernel_rfl) rfl (by kernel_rfl) (le_of_ble rfl) (by simp) ?_
  by_cases h0 : mode < 0
  · refine SCmp.yes (decide_eq_true (by omega)) ?_
    rw [show lim neg mode = 9218868437227405312 by rw [lim, if_neg (by omega)]]
    refine SPos.mk 0 rfl (by decide) ?_
    refine SCall.pure (signed_ok 9218868437227405312 (by decide) _) ?_
    exact SRet.pure (.tup rfl fun i c d e1 e2 => by
      match i, e1, e2 with
      | 0, e1, e2 => cases e1; cases e2; exact .p _ (.int _ _)
      | 1, e1, e2 => cases e1; cases e2; exact .p _ (.int _ _))
  refine SCmp.no (decide_eq_false (by omega)) ?_
  by_cases h5 : 5 ≤ mode
  · refine SCmp.yes (decide_eq_true (by omega)) ?_
    rw [show lim neg mode = 9218868437227405312 by rw [lim, if_neg (by omega)]]
    refine SPos.mk 0 rfl (by decide) ?_
    refine SCall.pure (signed_ok 9218868437227405312 (by decide) _) ?_
    exact SRet.pure (.tup rfl fun i c d e1 e2 => by
      match i, e1, e2 with
      | 0, e1, e2 => cases e1; cases e2; exact .p _ (.int _ _)
      | 1, e1, e2 => cases e1; cases e2; exact .p _ (.int _ _))
  refine SCmp.no (decide_eq_false (by omega)) ?_
  rcases (show mode = 0 ∨ mode = 1 ∨ mode = 2 ∨ mode = 3 ∨ mode = 4 by omega) with h | h | h | h | h
  · subst h
    cases neg
    · refine SCond.mk (fun h => by cases h) (fun _ => ?_)
      refine SCond.mk (fun h => by cases h) (fun _ => ?_)
      refine SPos.mk 0 rfl (by decide) ?_
      refine SCall.pure (signed_ok 9218868437227405312 (by decide) _) ?_
      exact SRet.pure (.tup rfl fun i c d e1 e2 => by
        match i, e1, e2 with
        | 0, e1, e2 => cases e1; cases e2; exact .p _ (.int _ _)
        | 1, e1, e2 => cases e1; cases e2; exact .p _ (.int _ _))
    · refine SCond.mk (fun _ => ?_) (fun h => by cases h)
      refine SCmp.no (rfl) ?_
      refine SCond.mk (fun _ => ?_) (fun h => by cases h)
      refine SCmp.no (rfl) ?_
      refine SPos.mk 0 rfl (by decide) ?_
      refine SCall.pure (signed_ok 9218868437227405312 (by decide) _) ?_
      exact SRet.pure (.tup rfl fun i c d e1 e2 => by
        match i, e1, e2 with
        | 0, e1, e2 => cases e1; cases e2; exact .p _ (.int _ _)
        | 1, e1, e2 => cases e1; cases e2; exact .p _ (.int _ _))
  · subst h
    cases neg
    · refine SCond.mk (fun h => by cases h) (fun _ => ?_)
      refine SCond.mk (fun h => by cases h) (fun _ => ?_)
      refine SPos.mk 1 rfl (by decide) ?_
      refine SCall.pure (signed_ok 9218868437227405311 (by decide) _) ?_
      exact SRet.pure (.tup rfl fun i c d e1 e2 => by
        match i, e1, e2 with
        | 0, e1, e2 => cases e1; cases e2; exact .p _ (.int _ _)
        | 1, e1, e2 => cases e1; cases e2; exact .p _ (.int _ _))
    · refine SCond.mk (fun _ => ?_) (fun h => by cases h)
      refine SCmp.no (rfl) ?_
      refine SCond.mk (fun _ => ?_) (fun h => by cases h)
      refine SCmp.no (rfl) ?_
      refine SPos.mk 1 rfl (by decide) ?_
      refine SCall.pure (signed_ok 9218868437227405311 (by decide) _) ?_
      exact SRet.pure (.tup rfl fun i c d e1 e2 => by
        match i, e1, e2 with
        | 0, e1, e2 => cases e1; cases e2; exact .p _ (.int _ _)
        | 1, e1, e2 => cases e1; cases e2; exact .p _ (.int _ _))
  · subst h
    cases neg
    · refine SCond.mk (fun h => by cases h) (fun _ => ?_)
      refine SCond.mk (fun h => by cases h) (fun _ => ?_)
      refine SPos.mk 2 rfl (by decide) ?_
      refine SCall.pure (signed_ok 9218868437227405311 (by decide) _) ?_
      exact SRet.pure (.tup rfl fun i c d e1 e2 => by
        match i, e1, e2 with
        | 0, e1, e2 => cases e1; cases e2; exact .p _ (.int _ _)
        | 1, e1, e2 => cases e1; cases e2; exact .p _ (.int _ _))
    · refine SCond.mk (fun _ => ?_) (fun h => by cases h)
      refine SCmp.yes (rfl) ?_
      refine SPos.mk 3 rfl (by decide) ?_
      refine SCall.pure (signed_ok 9218868437227405312 (by decide) _) ?_
      exact SRet.pure (.tup rfl fun i c d e1 e2 => by
        match i, e1, e2 with
        | 0, e1, e2 => cases e1; cases e2; exact .p _ (.int _ _)
        | 1, e1, e2 => cases e1; cases e2; exact .p _ (.int _ _))
  · subst h
    cases neg
    · refine SCond.mk (fun h => by cases h) (fun _ => ?_)
      refine SCond.mk (fun h => by cases h) (fun _ => ?_)
      refine SPos.mk 3 rfl (by decide) ?_
      refine SCall.pure (signed_ok 9218868437227405312 (by decide) _) ?_
      exact SRet.pure (.tup rfl fun i c d e1 e2 => by
        match i, e1, e2 with
        | 0, e1, e2 => cases e1; cases e2; exact .p _ (.int _ _)
        | 1, e1, e2 => cases e1; cases e2; exact .p _ (.int _ _))
    · refine SCond.mk (fun _ => ?_) (fun h => by cases h)
      refine SCmp.no (rfl) ?_
      refine SCond.mk (fun _ => ?_) (fun h => by cases h)
      refine SCmp.yes (rfl) ?_
      refine SPos.mk 2 rfl (by decide) ?_
      refine SCall.pure (signed_ok 9218868437227405311 (by decide) _) ?_
      exact SRet.pure (.tup rfl fun i c d e1 e2 => by
        match i, e1, e2 with
        | 0, e1, e2 => cases e1; cases e2; exact .p _ (.int _ _)
        | 1, e1, e2 => cases e1; cases e2; exact .p _ (.int _ _))
  · subst h
    cases neg
    · refine SCond.mk (fun h => by cases h) (fun _ => ?_)
      refine SCond.mk (fun h => by cases h) (fun _ => ?_)
      refine SPos.mk 4 rfl (by decide) ?_
      refine SCall.pure (signed_ok 9218868437227405312 (by decide) _) ?_
      exact SRet.pure (.tup rfl fun i c d e1 e2 => by
        match i, e1, e2 with
        | 0, e1, e2 => cases e1; cases e2; exact .p _ (.int _ _)
        | 1, e1, e2 => cases e1; cases e2; exact .p _ (.int _ _))
    · refine SCond.mk (fun _ => ?_) (fun h => by cases h)
      refine SCmp.no (rfl) ?_
      refine SCond.mk (fun _ => ?_) (fun h => by cases h)
      refine SCmp.no (rfl) ?_
      refine SPos.mk 4 rfl (by decide) ?_
      refine SCall.pure (signed_ok 9218868437227405312 (by decide) _) ?_
      exact SRet.pure (.tup rfl fun i c d e1 e2 => by
        match i, e1, e2 with
        | 0, e1, e2 => cases e1; cases e2; exact .p _ (.int _ _)
        | 1, e1, e2 => cases e1; cases e2; exact .p _ (.int _ _))

theorem rest0_ok (m' : Bool) (neg : Bool) (m q : Nat) (e k : Int) (more : Bool) (hk : k ≤ 0) : CallP Try.prog 124 [numP neg m e more, natM m' q, .int .i64 k] (.p (partP more (-1))) [] := by
  refine callG_of_vc (wr := wr0) Γok mixed Try.func124 (by kernel_rfl) rfl (by kernel_rfl) (le_of_ble rfl) (by simp) ?_
  refine SCmp.yes (decide_eq_true (by omega)) ?_
  exact SRet.pure (.p _ (pers_part _ _))
theorem rest_ok (m' : Bool) (neg : Bool) (m : Nat) (e : Int) (k : Nat) (more : Bool) (hk : 0 < k) (hm : nlen m ≤ 137438953472) (hk' : k ≤ 1048576) :
    CallP Try.prog 124 [numP neg m e more, natM m' (m / 2 ^ k), .int .i64 k] (.p (partP (decide (m % 2 ^ k ≠ 0) || more) (halfOf (m % 2 ^ k) k more))) [] := by
  refine callG_of_vc (wr := wr0) Γok mixed Try.func124 (by kernel_rfl) rfl (by kernel_rfl) (le_of_ble rfl) (by simp) ?_
  refine SCmp.no (decide_eq_false (by omega)) ?_
  have hq : nlen (m / 2 ^ k) ≤ nlen m := nlen_mono (Nat.div_le_self _ _)
  have hqm : m / 2 ^ k * 2 ^ k ≤ m := Nat.div_mul_le_self _ _
  have hr : m - m / 2 ^ k * 2 ^ k = m % 2 ^ k := by have := Nat.div_add_mod m (2 ^ k); rw [Nat.mul_comm] at this; omega
  have hrn : nlen (m % 2 ^ k) ≤ nlen m := nlen_mono (Nat.mod_le _ _)
  have hsub := sub_ok false false m (m / 2 ^ k * 2 ^ k) (by omega) (by have := nlen_mono hqm; omega)
  rw [if_pos hqm, hr] at hsub
  refine SDraw.mk (by kernel_rfl) ?_
  repeat refine SOp.mk _ _ (And.intro rfl rfl) rfl ?_
  refine SOp.mk _ _ (SCall.pure (fshl_ok m' (m / 2 ^ k) k (by omega) hk') (And.intro rfl rfl)) rfl ?_
  repeat refine SOp.mk _ _ (And.intro rfl rfl) rfl ?_
  refine SOp.mk _ _ (SCall.pureT (hsub) (fun _ => rfl) (And.intro rfl rfl)) rfl ?_
  repeat refine SOp.mk _ _ (And.intro rfl rfl) rfl ?_
  refine SCall.pure (of_ok 1 (by omega)) ?_
  refine SWrap.i64z ((k - 1 : Nat) : Int) (by omega) (by omega) ?_
  refine SCall.pure (fshl_ok false 1 (k - 1) (by have := nlen_le (n := 1) (k := 1) (by decide); omega) (by omega)) ?_
  rw [Nat.one_mul]
  have h2n : nlen (2 ^ (k - 1)) ≤ 549755813888 := by
    have : bitLen (2 ^ (k - 1)) ≤ k := bitLen_le (Nat.pow_lt_pow_right (by omega) (by omega))
    have := nlen_bitLen (2 ^ (k - 1))
    omega
  refine SCall.pure (cmp_ok false false (m % 2 ^ k) (2 ^ (k - 1)) (by omega) h2n) ?_
  obtain ⟨r, hr'⟩ : ∃ r, r = m % 2 ^ k := ⟨_, rfl⟩
  rw [← hr'] at hrn ⊢
  have hlr : (nl r).length = nlen r := rfl
  by_cases hc : cmpZ r (2 ^ (k - 1)) = 0
  · refine SCmp.yes (eqT hc) ?_
    refine SCond.mk (fun h => ?_) (fun h => ?_)
    · subst h
      rw [show halfOf r k true = 1 by rw [halfOf, if_pos ⟨hc, rfl⟩]]
      refine SZ.mk (nlen r : Int) (by simp [hlr]) ?_
      by_cases h0 : r = 0
      · rw [decide_eq_false (show ¬ r ≠ 0 from fun h => h h0), Bool.false_or]
        have := nlen_zero_iff.2 h0
        refine SCmp.no (decide_eq_false (by omega)) ?_
        exact SRet.pure (.p _ (pers_part _ _))
      · rw [decide_eq_true h0, Bool.true_or]
        have := mt nlen_zero_iff.1 h0
        refine SCmp.yes (decide_eq_true (by omega)) ?_
        exact SRet.pure (.p _ (pers_part _ _))
    · subst h
      rw [show halfOf r k false = cmpZ r (2 ^ (k - 1)) by rw [halfOf, if_neg (by simp)]]
      refine SZ.mk (nlen r : Int) (by simp [hlr]) ?_
      by_cases h0 : r = 0
      · rw [decide_eq_false (show ¬ r ≠ 0 from fun h => h h0), Bool.false_or]
        have := nlen_zero_iff.2 h0
        refine SCmp.no (decide_eq_false (by omega)) ?_
        exact SRet.pure (.p _ (pers_part _ _))
      · rw [decide_eq_true h0, Bool.true_or]
        have := mt nlen_zero_iff.1 h0
        refine SCmp.yes (decide_eq_true (by omega)) ?_
        exact SRet.pure (.p _ (pers_part _ _))
  · refine SCmp.no (eqF hc) ?_
    rw [show halfOf r k more = cmpZ r (2 ^ (k - 1)) by rw [halfOf, if_neg (fun h => hc h.1)]]
    refine SZ.mk (nlen r : Int) (by simp [hlr]) ?_
    by_cases h0 : r = 0
    · rw [decide_eq_false (show ¬ r ≠ 0 from fun h => h h0), Bool.false_or]
      have := nlen_zero_iff.2 h0
      refine SCmp.no (decide_eq_false (by omega)) ?_
      exact SRet.pure (.p _ (pers_part _ _))
    · rw [decide_eq_true h0, Bool.true_or]
      have := mt nlen_zero_iff.1 h0
      refine SCmp.yes (decide_eq_true (by omega)) ?_
      exact SRet.pure (.p _ (pers_part _ _))
end Go.Proofs.Ytjcmiedpgabdbaa
