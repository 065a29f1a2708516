/- The document floats: what rounds, what tells a float, order, next. -/
import Derived.Test.YtkaooejeljdbnaaSf
/- The document's floats: kinds, signs, parts, shifts. -/
namespace Go.Proofs.Ytkaooejeljdbnaa
open Go
set_option linter.unusedVariables false
set_option linter.unusedSimpArgs false
set_option maxRecDepth 10000

theorem rsigned_ok (c : Nat) (hc : c < 9223372036854775808) (neg : Bool) : CallP Try.prog 182 [.bool neg, .int .u64 c] (.p (.int .u64 (sg neg c))) [] := by
  refine callG_of_vc (wr := wr0) Γok mixed Try.func182 (by kernel_rfl) rfl (by kernel_rfl) (le_of_ble rfl) (by simp) ?_
  cases neg with
  | true =>
    refine SCond.mk (fun _ => ?_) (fun h => by cases h)
    refine SWrap.or c 9223372036854775808 _ rfl rfl (by omega) (by omega) (or_sign hc) ?_
    exact SRet.pure (.p _ (.int _ _))
  | false =>
    refine SCond.mk (fun h => by cases h) (fun _ => ?_)
    exact SRet.pure (.p _ (.int _ _))

/-- Shifts: a number times a power of two, or another one. -/
theorem rshift_ok (n d : Nat) (k : Int) (hn : bitLen n ≤ 262144) (hd : bitLen d ≤ 262144) (hk : -262144 ≤ k ∧ k ≤ 262144) :
    CallP Try.prog 146 [natP n, natP d, .int .i64 k] (.tup [.p (natP (n * 2 ^ k.toNat)), .p (natP (d * 2 ^ (-k).toNat))]) [] := by
  refine callG_of_vc (wr := wr0) Γok mixed Try.func146 (by kernel_rfl) rfl (by kernel_rfl) (le_of_ble rfl) (by simp) ?_
  refine SLoop.mk (Nat × Int) (fun (a, j) => ([(0, .p (natP a)), (1, .p (natP d)), (2, .p (.int .i64 j))], [])) (fun (a, j) => (j = k ∧ k ≤ 0 ∧ a = n) ∨ (0 ≤ j ∧ j ≤ k ∧ a * 2 ^ j.toNat = n * 2 ^ k.toNat ∧ bitLen a ≤ 524288)) (fun x => x.2.toNat) (n, k) []
    ?_ ⟨rfl, .nil, rfl, rfl, rfl, ⟨rfl, rfl, rfl, trivial⟩, trivial⟩ ?_
  · rcases Int.lt_or_le k 0 with h | h
    · exact .inl ⟨rfl, by omega, rfl⟩
    · exact .inr ⟨h, by omega, rfl, by omega⟩
  intro ⟨a, j⟩ hφ
  have hφ : (j = k ∧ k ≤ 0 ∧ a = n) ∨ (0 ≤ j ∧ j ≤ k ∧ a * 2 ^ j.toNat = n * 2 ^ k.toNat ∧ bitLen a ≤ 524288) := hφ
  by_cases hj : 0 < j
  · refine SCmp.yes (decide_eq_true (by omega)) ?_
    obtain ⟨_, h2, h3, h4⟩ : 0 ≤ j ∧ j ≤ k ∧ a * 2 ^ j.toNat = n * 2 ^ k.toNat ∧ bitLen a ≤ 524288 := by
      rcases hφ with h | h
      · omega
      · exact h
    obtain ⟨s, hs⟩ : ∃ s : Nat, s = (min j 9000).toNat := ⟨_, rfl⟩
    refine SZ.mk (s : Int) ((min_ite _ _).trans (by omega)) ?_
    have hna := nlen_bitLen a
    refine SCall.pure (rshl_ok false a s (by omega) (by omega)) ?_
    refine SWrap.i64z (j - s) rfl (by omega) ?_
    have e1 : a * 2 ^ s * 2 ^ (j - s).toNat = n * 2 ^ k.toNat := by
      rw [← h3, Nat.mul_assoc, ← Nat.pow_add, show s + (j - s).toNat = j.toNat by omega]
    refine ⟨(a * 2 ^ s, j - s), [], .inr ⟨by omega, by omega, e1, ?_⟩, by show (j - s).toNat < j.toNat; omega, ⟨rfl, .nil, rfl, rfl, rfl, ⟨rfl, rfl, rfl, trivial⟩, trivial⟩⟩
    have h5 : a * 2 ^ s ≤ n * 2 ^ k.toNat := by rw [← e1]; exact Nat.le_mul_of_pos_right _ (Nat.two_pow_pos _)
    have h6 := bitLen_mono h5
    have h7 := bits_shl n k.toNat
    omega
  · refine SCmp.no (decide_eq_false (by omega)) ?_
    obtain ⟨ha, hjk⟩ : a = n * 2 ^ k.toNat ∧ (j = k ∧ k ≤ 0 ∨ j = 0 ∧ 0 ≤ k) := by
      rcases hφ with ⟨h1, h2, h3⟩ | ⟨h1, h2, h3, h4⟩
      · rw [h3, show k.toNat = 0 by omega]; exact ⟨by simp, .inl ⟨h1, h2⟩⟩
      · have : j = 0 := by omega
        subst this
        exact ⟨by simpa using h3, .inr ⟨rfl, h2⟩⟩
    subst ha
    refine SLoop.mk (Nat × Int) (fun (b, i) => ([(0, .p (natP (n * 2 ^ k.toNat))), (1, .p (natP b)), (2, .p (.int .i64 i))], [])) (fun (b, i) => i ≤ 0 ∧ -(-k).toNat ≤ i ∧ b * 2 ^ (-i).toNat = d * 2 ^ (-k).toNat ∧ bitLen b ≤ 524288) (fun x => (-x.2).toNat) (d, j) []
      ⟨by omega, by omega, ?_, by omega⟩ ⟨rfl, .nil, rfl, rfl, rfl, ⟨rfl, rfl, rfl, trivial⟩, trivial⟩ ?_
    · rcases hjk with ⟨h1, h2⟩ | ⟨h1, h2⟩
      · subst h1; rfl
      · subst h1; rw [show (-k).toNat = 0 by omega]; rfl
    intro ⟨b, i⟩ ⟨h1, h0, h2, h3⟩
    have h1 : i ≤ 0 := h1
    have h0 : -(-k).toNat ≤ i := h0
    have h2 : b * 2 ^ (-i).toNat = d * 2 ^ (-k).toNat := h2
    have h3 : bitLen b ≤ 524288 := h3
    by_cases hi : i < 0
    · refine SCmp.yes (decide_eq_true (by omega)) ?_
      refine SWrap.i64z (0 - i) rfl (by omega) ?_
      obtain ⟨s, hs⟩ : ∃ s : Nat, s = (min (0 - i) 9000).toNat := ⟨_, rfl⟩
      refine SZ.mk (s : Int) ((min_ite _ _).trans (by omega)) ?_
      have hnb := nlen_bitLen b
      refine SCall.pure (rshl_ok false b s (by omega) (by omega)) ?_
      refine SWrap.i64z (i + s) rfl (by omega) ?_
      have e1 : b * 2 ^ s * 2 ^ (-(i + s)).toNat = d * 2 ^ (-k).toNat := by
        rw [← h2, Nat.mul_assoc, ← Nat.pow_add, show s + (-(i + s)).toNat = (-i).toNat by omega]
      refine ⟨(b * 2 ^ s, i + s), [], ⟨by omega, by omega, e1, ?_⟩, by show (-(i + s)).toNat < (-i).toNat; omega, ⟨rfl, .nil, rfl, rfl, rfl, ⟨rfl, rfl, rfl, trivial⟩, trivial⟩⟩
      have h5 : b * 2 ^ s ≤ d * 2 ^ (-k).toNat := by rw [← e1]; exact Nat.le_mul_of_pos_right _ (Nat.two_pow_pos _)
      have h6 := bitLen_mono h5
      have h7 := bits_shl d (-k).toNat
      omega
    · refine SCmp.no (decide_eq_false (by omega)) ?_
      have : i = 0 := by omega
      subst this
      rw [show b = d * 2 ^ (-k).toNat by simpa using h2]
      exact SRet.pure (.tup rfl fun i c d e1 e2 => by
        match i, e1, e2 with
        | 0, e1, e2 => cases e1; cases e2; exact .p _ (.sl _ _ (pers_limbs _))
        | 1, e1, e2 => cases e1; cases e2; exact .p _ (.sl _ _ (pers_limbs _)))
end Go.Proofs.Ytkaooejeljdbnaa

/- The document's floats: rounding. -/
namespace Go.Proofs.Ytkaooejeljdbnaa
open Go
set_option linter.unusedVariables false
set_option linter.unusedSimpArgs false
set_option maxRecDepth 10000

theorem rsmall_ok (m : Bool) (a : Nat) (ha : a < 18446744073709551616) : CallP Try.prog 147 [natM m a] (.tup [.p (.int .u64 a), .p (.bool true)]) [] := by
  refine callG_of_vc (wr := wr0) Γok mixed Try.func147 (by kernel_rfl) rfl (by kernel_rfl) (le_of_ble rfl) (by simp) ?_
  have hn : nlen a ≤ 2 := nlen_le (by omega)
  have hlen : (nl a).length = nlen a := rfl
  refine SZ.mk (nlen a : Int) (by simp) ?_
  refine SCmp.no (decide_eq_false (by omega)) ?_
  refine SZ.mk (nlen a : Int) (by simp) ?_
  refine SLoop.mk Nat (fun i => ([(0, .p (natM m a)), (4, .p (.int .u64 ((a / 4294967296 ^ i : Nat) : Int))), (5, .p (.int .i64 i))], [])) (fun i => i ≤ nlen a) id (nlen a) []
    (Nat.le_refl _) ⟨rfl, .nil, rfl, rfl, rfl, ⟨rfl, ?_, rfl, trivial⟩, trivial⟩ ?_
  · rw [Nat.div_eq_of_lt (lt_nlen a)]; rfl
  intro i h1
  have h1 : i ≤ nlen a := h1
  by_cases hi : 0 < i
  · refine SCmp.yes (decide_eq_true (by omega)) ?_
    obtain ⟨j, rfl⟩ : ∃ j, i = j + 1 := ⟨i - 1, by omega⟩
    have l1 : (nl a).getD j 0 < 4294967296 := getD_lt (nl_ok a) j
    have e0 : a / 4294967296 ^ j = a / 4294967296 ^ (j + 1) * 4294967296 + (nl a).getD j 0 := by
      rw [nl_getD, Nat.pow_succ, ← Nat.div_div_eq_div_mul]; omega
    have hb : a / 4294967296 ^ j ≤ a := Nat.div_le_self _ _
    refine SGe.mk (by decide) ?_
    refine SWrap.u64z (a / 4294967296 ^ (j + 1) * 4294967296) ?_ (by omega) ?_
    · show ((a / 4294967296 ^ (j + 1) : Nat) : Int) * 4294967296 = _
      omega
    refine SWrap.i64z (j : Int) (by omega) (by omega) ?_
    refine SIdx.lb j rfl (by omega) ?_
    refine SWrap.u64z ((nl a).getD j 0) rfl (by omega) ?_
    refine SWrap.or _ _ (a / 4294967296 ^ j) rfl rfl (by omega) (by omega) ?_ ?_
    · rw [or_sum (k := 32) (a := a / 4294967296 ^ (j + 1)) l1 (by rw [Nat.mul_comm]), e0]
    refine SWrap.i64z (j : Int) (by omega) (by omega) ?_
    exact ⟨j, [], by show j ≤ nlen a; omega, by show j < j + 1; omega, ⟨rfl, .nil, rfl, rfl, rfl, ⟨rfl, rfl, rfl, trivial⟩, trivial⟩⟩
  · refine SCmp.no (decide_eq_false (by omega)) ?_
    have : i = 0 := by omega
    subst this
    rw [Nat.pow_zero, Nat.div_one]
    exact SRet.pure (.tup rfl fun i c d e1 e2 => by
      match i, e1, e2 with
      | 0, e1, e2 => cases e1; cases e2; exact .p _ (.int _ _)
      | 1, e1, e2 => cases e1; cases e2; exact .tf _)

theorem rup_ok (neg : Bool) (order : Int) (odd : Bool) (mode : Int) : CallP Try.prog 148 [.bool neg, .int .i64 order, .bool odd, .int .i64 mode] (.p (.bool (goUp mode neg true odd order))) [] := by
  refine callG_of_vc (wr := wr0) Γok mixed Try.func148 (by kernel_rfl) rfl (by kernel_rfl) (le_of_ble rfl) (by simp) ?_
  by_cases h1 : mode = 1
  · rw [show goUp mode neg true odd order = false by rw [goUp, if_pos h1]]
    refine SCmp.yes (eqT h1) ?_
    first | exact SRet.pure (.tf _) | exact SRet.pure (.p _ (.bool _))
  refine SCmp.no (eqF h1) ?_
  by_cases h2 : mode = 2
  · rw [show goUp mode neg true odd order = neg by rw [goUp, if_neg h1, if_pos h2, Bool.and_true]]
    refine SCmp.yes (eqT h2) ?_
    first | exact SRet.pure (.tf _) | exact SRet.pure (.p _ (.bool _))
  refine SCmp.no (eqF h2) ?_
  by_cases h3 : mode = 3
  · rw [show goUp mode neg true odd order = !neg by rw [goUp, if_neg h1, if_neg h2, if_pos h3, Bool.and_true]]
    refine SCmp.yes (eqT h3) ?_
    cases neg
    · refine SCmp.yes (rfl) ?_
      first | exact SRet.pure (.tf _) | exact SRet.pure (.p _ (.bool _))
    · refine SCmp.no (rfl) ?_
      first | exact SRet.pure (.tf _) | exact SRet.pure (.p _ (.bool _))
  refine SCmp.no (eqF h3) ?_
  by_cases h4 : mode = 4
  · rw [show goUp mode neg true odd order = decide (0 ≤ order) by rw [goUp, if_neg h1, if_neg h2, if_neg h3, if_pos h4]]
    refine SCmp.yes (eqT h4) ?_
    by_cases h : 0 ≤ order
    · rw [decide_eq_true h]
      refine SCmp.yes (decide_eq_true (by omega)) ?_
      first | exact SRet.pure (.tf _) | exact SRet.pure (.p _ (.bool _))
    · rw [decide_eq_false h]
      refine SCmp.no (decide_eq_false (by omega)) ?_
      first | exact SRet.pure (.tf _) | exact SRet.pure (.p _ (.bool _))
  refine SCmp.no (eqF h4) ?_
  rw [goUp_d h1 h2 h3 h4]
  by_cases h : 0 < order
  · rw [decide_eq_true h]
    refine SCmp.yes (decide_eq_true (by omega)) ?_
    first | exact SRet.pure (.tf _) | exact SRet.pure (.p _ (.bool _))
  rw [decide_eq_false h]
  refine SCmp.no (decide_eq_false (by omega)) ?_
  by_cases h0 : order = 0
  · rw [decide_eq_true h0]
    refine SCmp.yes (eqT h0) ?_
    cases odd
    · first | exact SRet.pure (.tf _) | exact SRet.pure (.p _ (.bool _))
    · first | exact SRet.pure (.tf _) | exact SRet.pure (.p _ (.bool _))
  · rw [decide_eq_false h0]
    refine SCmp.no (eqF h0) ?_
    first | exact SRet.pure (.tf _) | exact SRet.pure (.p _ (.bool _))

theorem pack_ok (neg : Bool) (q T : Nat) (mode flags : Int) (hq : q ≤ 9007199254740992) (hqT : 4503599627370496 ≤ q ∨ T = 0) (hT : T ≤ 1048576) :
    CallP Try.prog 149 [.bool neg, .int .u64 q, .int .i64 ((T : Int) - 1074), .int .i64 mode, .int .i64 flags]
      (fpair (if 9218868437227405312 ≤ q + T * 4503599627370496 then (sg neg (lim neg mode), 5) else (sg neg (q + T * 4503599627370496), flags))) [] := by
  refine callG_of_vc (wr := wr0) Γok mixed Try.func149 (by kernel_rfl) rfl (by kernel_rfl) (le_of_ble rfl) (by simp) ?_
  by_cases htop : q = 9007199254740992
  · subst htop
    refine SCmp.yes (rfl) ?_
    refine SNe.mk (by decide) ?_
    refine SWrap.u64z 4503599627370496 (by decide) (by decide) ?_
    refine SWrap.i64z (((T + 1 : Nat) : Int) - 1074) (by omega) (by omega) ?_
    have he : ∀ x, 4503599627370496 + (T + 1) * 4503599627370496 = x → 9007199254740992 + T * 4503599627370496 = x := fun x h => by omega
    by_cases hlo : 4503599627370496 < 4503599627370496
    · refine SCmp.yes (decide_eq_true (by omega)) ?_
      have hc : 4503599627370496 + (T + 1) * 4503599627370496 = 4503599627370496 := by omega
      rw [if_neg (by omega), he _ hc]
      refine SCall.pure (rsigned_ok (4503599627370496) (by omega) neg) ?_
      exact SRet.pure (.tup rfl fun i c d e1 e2 => by
        match i, e1, e2 with
        | 0, e1, e2 => cases e1; cases e2; exact .p _ (.int _ _)
        | 1, e1, e2 => cases e1; cases e2; exact .p _ (.int _ _))
    · refine SCmp.no (decide_eq_false (by omega)) ?_
      refine SWrap.i64z (((T + 1) : Int) - 1022) (by omega) (by omega) ?_
      by_cases hT : 2046 ≤ (T + 1)
      · refine SCmp.yes (decide_eq_true (by omega)) ?_
        rw [if_pos (by omega)]
        cases neg
        · by_cases h1 : mode = 1
          · rw [show lim false mode = 9218868437227405311 by rw [lim, if_pos (.inl h1)]]
            refine SCmp.yes (eqT h1) ?_
            refine SCall.pure (rsigned_ok 9218868437227405311 (by omega) _) ?_
            exact SRet.pure (.tup rfl fun i c d e1 e2 => by
              match i, e1, e2 with
              | 0, e1, e2 => cases e1; cases e2; exact .p _ (.int _ _)
              | 1, e1, e2 => cases e1; cases e2; exact .p _ (.int _ _))
          refine SCmp.no (eqF h1) ?_
          by_cases h2 : mode = 2
          · rw [show lim false mode = 9218868437227405311 by rw [lim, if_pos (.inr (.inl ⟨h2, rfl⟩))]]
            refine SCmp.yes (eqT h2) ?_
            refine SCmp.yes (rfl) ?_
            refine SCall.pure (rsigned_ok 9218868437227405311 (by omega) _) ?_
            exact SRet.pure (.tup rfl fun i c d e1 e2 => by
              match i, e1, e2 with
              | 0, e1, e2 => cases e1; cases e2; exact .p _ (.int _ _)
              | 1, e1, e2 => cases e1; cases e2; exact .p _ (.int _ _))
          refine SCmp.no (eqF h2) ?_
          rw [show lim false mode = 9218868437227405312 by rw [lim, if_neg (by simp [h1, h2])]]
          by_cases h3 : mode = 3
          · refine SCmp.yes (eqT h3) ?_
            refine SCond.mk (fun h => by cases h) (fun _ => ?_)
            refine SCall.pure (rsigned_ok 9218868437227405312 (by omega) _) ?_
            exact SRet.pure (.tup rfl fun i c d e1 e2 => by
              match i, e1, e2 with
              | 0, e1, e2 => cases e1; cases e2; exact .p _ (.int _ _)
              | 1, e1, e2 => cases e1; cases e2; exact .p _ (.int _ _))
          refine SCmp.no (eqF h3) ?_
          refine SCall.pure (rsigned_ok 9218868437227405312 (by omega) _) ?_
          exact SRet.pure (.tup rfl fun i c d e1 e2 => by
            match i, e1, e2 with
            | 0, e1, e2 => cases e1; cases e2; exact .p _ (.int _ _)
            | 1, e1, e2 => cases e1; cases e2; exact .p _ (.int _ _))
        · by_cases h1 : mode = 1
          · rw [show lim true mode = 9218868437227405311 by rw [lim, if_pos (.inl h1)]]
            refine SCmp.yes (eqT h1) ?_
            refine SCall.pure (rsigned_ok 9218868437227405311 (by omega) _) ?_
            exact SRet.pure (.tup rfl fun i c d e1 e2 => by
              match i, e1, e2 with
              | 0, e1, e2 => cases e1; cases e2; exact .p _ (.int _ _)
              | 1, e1, e2 => cases e1; cases e2; exact .p _ (.int _ _))
          refine SCmp.no (eqF h1) ?_
          by_cases h2 : mode = 2
          · rw [show lim true mode = 9218868437227405312 by rw [lim, if_neg (by simp [h2])]]
            refine SCmp.yes (eqT h2) ?_
            refine SCmp.no (rfl) ?_
            refine SCmp.no (eqF (by omega)) ?_
            refine SCall.pure (rsigned_ok 9218868437227405312 (by omega) _) ?_
            exact SRet.pure (.tup rfl fun i c d e1 e2 => by
              match i, e1, e2 with
              | 0, e1, e2 => cases e1; cases e2; exact .p _ (.int _ _)
              | 1, e1, e2 => cases e1; cases e2; exact .p _ (.int _ _))
          refine SCmp.no (eqF h2) ?_
          by_cases h3 : mode = 3
          · rw [show lim true mode = 9218868437227405311 by rw [lim, if_pos (.inr (.inr ⟨h3, rfl⟩))]]
            refine SCmp.yes (eqT h3) ?_
            refine SCond.mk (fun _ => ?_) (fun h => by cases h)
            refine SCall.pure (rsigned_ok 9218868437227405311 (by omega) _) ?_
            exact SRet.pure (.tup rfl fun i c d e1 e2 => by
              match i, e1, e2 with
              | 0, e1, e2 => cases e1; cases e2; exact .p _ (.int _ _)
              | 1, e1, e2 => cases e1; cases e2; exact .p _ (.int _ _))
          refine SCmp.no (eqF h3) ?_
          rw [show lim true mode = 9218868437227405312 by rw [lim, if_neg (by simp [h1, h2, h3])]]
          refine SCall.pure (rsigned_ok 9218868437227405312 (by omega) _) ?_
          exact SRet.pure (.tup rfl fun i c d e1 e2 => by
            match i, e1, e2 with
            | 0, e1, e2 => cases e1; cases e2; exact .p _ (.int _ _)
            | 1, e1, e2 => cases e1; cases e2; exact .p _ (.int _ _))
      · refine SCmp.no (decide_eq_false (by omega)) ?_
        rw [if_neg (by omega), he _ rfl]
        refine SWrap.i64z (((T + 1) : Int) - 1022) (by omega) (by omega) ?_
        refine SWrap.i64z (((T + 1) + 1 : Nat) : Int) (by omega) (by omega) ?_
        refine SWrap.u64z ((T + 1) + 1) rfl (by omega) ?_
        refine SGe.mk (by decide) ?_
        refine SWrap.u64z (((T + 1) + 1) * 4503599627370496) (by show (((T + 1) + 1 : Nat) : Int) * 4503599627370496 = _; omega) (by omega) ?_
        refine SWrap.and (4503599627370496) 4503599627370495 _ rfl rfl (by omega) (by omega) (low52 _) ?_
        refine SWrap.or _ _ (4503599627370496 + (T + 1) * 4503599627370496) rfl rfl (by omega) (by omega) ?_ ?_
        · rw [or_sum (k := 52) (a := (T + 1) + 1) (by show _ < 4503599627370496; omega) (by show _ = 4503599627370496 * _; omega)]
          omega
        refine SCall.pure (rsigned_ok (4503599627370496 + (T + 1) * 4503599627370496) (by omega) neg) ?_
        exact SRet.pure (.tup rfl fun i c d e1 e2 => by
          match i, e1, e2 with
          | 0, e1, e2 => cases e1; cases e2; exact .p _ (.int _ _)
          | 1, e1, e2 => cases e1; cases e2; exact .p _ (.int _ _))
  · refine SCmp.no (eqF (by omega)) ?_
    have he : ∀ x, q + T * 4503599627370496 = x → q + T * 4503599627370496 = x := fun x h => h
    by_cases hlo : q < 4503599627370496
    · refine SCmp.yes (decide_eq_true (by omega)) ?_
      have hc : q + T * 4503599627370496 = q := by omega
      rw [if_neg (by omega), he _ hc]
      refine SCall.pure (rsigned_ok (q) (by omega) neg) ?_
      exact SRet.pure (.tup rfl fun i c d e1 e2 => by
        match i, e1, e2 with
        | 0, e1, e2 => cases e1; cases e2; exact .p _ (.int _ _)
        | 1, e1, e2 => cases e1; cases e2; exact .p _ (.int _ _))
    · refine SCmp.no (decide_eq_false (by omega)) ?_
      refine SWrap.i64z ((T : Int) - 1022) (by omega) (by omega) ?_
      by_cases hT : 2046 ≤ T
      · refine SCmp.yes (decide_eq_true (by omega)) ?_
        rw [if_pos (by omega)]
        cases neg
        · by_cases h1 : mode = 1
          · rw [show lim false mode = 9218868437227405311 by rw [lim, if_pos (.inl h1)]]
            refine SCmp.yes (eqT h1) ?_
            refine SCall.pure (rsigned_ok 9218868437227405311 (by omega) _) ?_
            exact SRet.pure (.tup rfl fun i c d e1 e2 => by
              match i, e1, e2 with
              | 0, e1, e2 => cases e1; cases e2; exact .p _ (.int _ _)
              | 1, e1, e2 => cases e1; cases e2; exact .p _ (.int _ _))
          refine SCmp.no (eqF h1) ?_
          by_cases h2 : mode = 2
          · rw [show lim false mode = 9218868437227405311 by rw [lim, if_pos (.inr (.inl ⟨h2, rfl⟩))]]
            refine SCmp.yes (eqT h2) ?_
            refine SCmp.yes (rfl) ?_
            refine SCall.pure (rsigned_ok 9218868437227405311 (by omega) _) ?_
            exact SRet.pure (.tup rfl fun i c d e1 e2 => by
              match i, e1, e2 with
              | 0, e1, e2 => cases e1; cases e2; exact .p _ (.int _ _)
              | 1, e1, e2 => cases e1; cases e2; exact .p _ (.int _ _))
          refine SCmp.no (eqF h2) ?_
          rw [show lim false mode = 9218868437227405312 by rw [lim, if_neg (by simp [h1, h2])]]
          by_cases h3 : mode = 3
          · refine SCmp.yes (eqT h3) ?_
            refine SCond.mk (fun h => by cases h) (fun _ => ?_)
            refine SCall.pure (rsigned_ok 9218868437227405312 (by omega) _) ?_
            exact SRet.pure (.tup rfl fun i c d e1 e2 => by
              match i, e1, e2 with
              | 0, e1, e2 => cases e1; cases e2; exact .p _ (.int _ _)
              | 1, e1, e2 => cases e1; cases e2; exact .p _ (.int _ _))
          refine SCmp.no (eqF h3) ?_
          refine SCall.pure (rsigned_ok 9218868437227405312 (by omega) _) ?_
          exact SRet.pure (.tup rfl fun i c d e1 e2 => by
            match i, e1, e2 with
            | 0, e1, e2 => cases e1; cases e2; exact .p _ (.int _ _)
            | 1, e1, e2 => cases e1; cases e2; exact .p _ (.int _ _))
        · by_cases h1 : mode = 1
          · rw [show lim true mode = 9218868437227405311 by rw [lim, if_pos (.inl h1)]]
            refine SCmp.yes (eqT h1) ?_
            refine SCall.pure (rsigned_ok 9218868437227405311 (by omega) _) ?_
            exact SRet.pure (.tup rfl fun i c d e1 e2 => by
              match i, e1, e2 with
              | 0, e1, e2 => cases e1; cases e2; exact .p _ (.int _ _)
              | 1, e1, e2 => cases e1; cases e2; exact .p _ (.int _ _))
          refine SCmp.no (eqF h1) ?_
          by_cases h2 : mode = 2
          · rw [show lim true mode = 9218868437227405312 by rw [lim, if_neg (by simp [h2])]]
            refine SCmp.yes (eqT h2) ?_
            refine SCmp.no (rfl) ?_
            refine SCmp.no (eqF (by omega)) ?_
            refine SCall.pure (rsigned_ok 9218868437227405312 (by omega) _) ?_
            exact SRet.pure (.tup rfl fun i c d e1 e2 => by
              match i, e1, e2 with
              | 0, e1, e2 => cases e1; cases e2; exact .p _ (.int _ _)
              | 1, e1, e2 => cases e1; cases e2; exact .p _ (.int _ _))
          refine SCmp.no (eqF h2) ?_
          by_cases h3 : mode = 3
          · rw [show lim true mode = 9218868437227405311 by rw [lim, if_pos (.inr (.inr ⟨h3, rfl⟩))]]
            refine SCmp.yes (eqT h3) ?_
            refine SCond.mk (fun _ => ?_) (fun h => by cases h)
            refine SCall.pure (rsigned_ok 9218868437227405311 (by omega) _) ?_
            exact SRet.pure (.tup rfl fun i c d e1 e2 => by
              match i, e1, e2 with
              | 0, e1, e2 => cases e1; cases e2; exact .p _ (.int _ _)
              | 1, e1, e2 => cases e1; cases e2; exact .p _ (.int _ _))
          refine SCmp.no (eqF h3) ?_
          rw [show lim true mode = 9218868437227405312 by rw [lim, if_neg (by simp [h1, h2, h3])]]
          refine SCall.pure (rsigned_ok 9218868437227405312 (by omega) _) ?_
          exact SRet.pure (.tup rfl fun i c d e1 e2 => by
            match i, e1, e2 with
            | 0, e1, e2 => cases e1; cases e2; exact .p _ (.int _ _)
            | 1, e1, e2 => cases e1; cases e2; exact .p _ (.int _ _))
      · refine SCmp.no (decide_eq_false (by omega)) ?_
        rw [if_neg (by omega), he _ rfl]
        refine SWrap.i64z ((T : Int) - 1022) (by omega) (by omega) ?_
        refine SWrap.i64z ((T + 1 : Nat) : Int) (by omega) (by omega) ?_
        refine SWrap.u64z (T + 1) rfl (by omega) ?_
        refine SGe.mk (by decide) ?_
        refine SWrap.u64z ((T + 1) * 4503599627370496) (by show ((T + 1 : Nat) : Int) * 4503599627370496 = _; omega) (by omega) ?_
        refine SWrap.and (q) 4503599627370495 _ rfl rfl (by omega) (by omega) (low52 _) ?_
        refine SWrap.or _ _ (q + T * 4503599627370496) rfl rfl (by omega) (by omega) ?_ ?_
        · rw [or_sum (k := 52) (a := T + 1) (by show _ < 4503599627370496; omega) (by show _ = 4503599627370496 * _; omega)]
          omega
        refine SCall.pure (rsigned_ok (q + T * 4503599627370496) (by omega) neg) ?_
        exact SRet.pure (.tup rfl fun i c d e1 e2 => by
          match i, e1, e2 with
          | 0, e1, e2 => cases e1; cases e2; exact .p _ (.int _ _)
          | 1, e1, e2 => cases e1; cases e2; exact .p _ (.int _ _))
end Go.Proofs.Ytkaooejeljdbnaa

/- The document's floats: a number, rounded. -/
namespace Go.Proofs.Ytkaooejeljdbnaa
open Go
set_option linter.unusedVariables false
set_option linter.unusedSimpArgs false
set_option maxRecDepth 10000

theorem goUp_no {mode : Int} {neg odd : Bool} : goUp mode neg false odd (-1) = false := by
  unfold goUp
  split
  · rfl
  · split
    · simp
    · split
      · simp
      · split
        · decide
        · rw [decide_eq_false (by omega), decide_eq_false (by omega)]; rfl

theorem le_of_mul {a b c : Rat} (h : a * c ≤ b * c) (hc : 0 < c) : a ≤ b := by
  by_cases h2 : a ≤ b
  · exact h2
  · have := mul_lt_q (Rat.not_le.1 h2) hc
    grind
theorem lt_of_mul {a b c : Rat} (h : a * c < b * c) (hc : 0 < c) : a < b := by
  by_cases h2 : a < b
  · exact h2
  · have := mul_le_q (Rat.not_lt.1 h2) hc
    grind
theorem div_mul_q {n d : Nat} (hd : d ≠ 0) : (n : Rat) / (d : Rat) * (d : Rat) = (n : Rat) := Rat.div_mul_cancel (by
  intro h
  have : (d : Rat) = ((0 : Nat) : Rat) := by rw [h]; rfl
  exact hd (natq_eq.1 this))
theorem pos_q {d : Nat} (hd : d ≠ 0) : (0 : Rat) < (d : Rat) := by
  have : 0 < d := by omega
  exact_mod_cast this

/-- A quotient's power of two, by digits. -/
theorem log_bits {n d : Nat} (hn : n ≠ 0) (hd : d ≠ 0) : p2 ((bitLen n : Int) - bitLen d - 1) < (n : Rat) / (d : Rat) ∧ (n : Rat) / (d : Rat) < p2 ((bitLen n : Int) - bitLen d + 1) := by
  have b1 : bitLen n ≠ 0 := mt bitLen_zero_iff.1 hn
  have b2 : bitLen d ≠ 0 := mt bitLen_zero_iff.1 hd
  have e1 : p2 ((bitLen n : Int) - bitLen d - 1) * ((2 ^ bitLen d : Nat) : Rat) = ((2 ^ (bitLen n - 1) : Nat) : Rat) := by
    rw [← p2_ofNat, ← p2_ofNat, ← p2_add]; congr 1; omega
  have e2 : p2 ((bitLen n : Int) - bitLen d + 1) * ((2 ^ (bitLen d - 1) : Nat) : Rat) = ((2 ^ bitLen n : Nat) : Rat) := by
    rw [← p2_ofNat, ← p2_ofNat, ← p2_add]; congr 1; omega
  have hdq := pos_q hd
  refine ⟨lt_of_mul (c := (d : Rat)) ?_ hdq, lt_of_mul (c := (d : Rat)) ?_ hdq⟩
  · rw [div_mul_q hd]
    have h1 : ((d : Nat) : Rat) < ((2 ^ bitLen d : Nat) : Rat) := natq_lt.2 (bitLen_lt d)
    have h2 : ((2 ^ (bitLen n - 1) : Nat) : Rat) ≤ (n : Rat) := natq_le.2 (bitLen_pos hn)
    have := mul_lt_q h1 (p2_pos ((bitLen n : Int) - bitLen d - 1))
    grind
  · rw [div_mul_q hd]
    have h1 : ((2 ^ (bitLen d - 1) : Nat) : Rat) ≤ (d : Rat) := natq_le.2 (bitLen_pos hd)
    have h2 : (n : Rat) < ((2 ^ bitLen n : Nat) : Rat) := natq_lt.2 (bitLen_lt n)
    have := mul_le_q h1 (p2_pos ((bitLen n : Int) - bitLen d + 1))
    grind
/-- A quotient shifted. -/
theorem shift_q {n d : Nat} (hd : d ≠ 0) (k : Int) : ((n * 2 ^ k.toNat : Nat) : Rat) / ((d * 2 ^ (-k).toNat : Nat) : Rat) = (n : Rat) / (d : Rat) * p2 k := by
  have h := p2_frac n k
  have hp := pow_posQ (-k).toNat
  have hdq := pos_q hd
  rw [Rat.natCast_mul d]
  have e1 : (n : Rat) / (d : Rat) * p2 k = (n : Rat) * p2 k / (d : Rat) := by grind
  rw [e1, ← h]
  generalize ((n * 2 ^ k.toNat : Nat) : Rat) = x
  generalize ((2 ^ (-k).toNat : Nat) : Rat) = y at *
  grind
theorem shift_lt {n d : Nat} (hd : d ≠ 0) (k : Int) : n * 2 ^ k.toNat < d * 2 ^ (-k).toNat ↔ (n : Rat) / (d : Rat) < p2 (-k) := by
  have hD : d * 2 ^ (-k).toNat ≠ 0 := Nat.ne_of_gt (Nat.mul_pos (by omega) (Nat.two_pow_pos _))
  have e := shift_q (n := n) hd k
  have hq := pos_q hD
  have hc := div_mul_q (n := n * 2 ^ k.toNat) hD
  have hk := p2_pos k
  have hk2 : p2 (-k) * p2 k = 1 := by rw [← p2_add, show -k + k = 0 by omega, p2_zero]
  rw [← natq_lt, ← hc, e]
  constructor
  · intro h
    refine lt_of_mul (c := p2 k) ?_ hk
    rw [hk2]
    exact lt_of_mul (c := ((d * 2 ^ (-k).toNat : Nat) : Rat)) (by grind) hq
  · intro h
    have h1 := mul_lt_q h hk
    rw [hk2] at h1
    have := mul_lt_q h1 hq
    grind

theorem rof_cut {n d : Nat} (hn : n ≠ 0) (hd : d ≠ 0) {p A : Int} (h1 : p2 p ≤ (n : Rat) / (d : Rat)) (h2 : (n : Rat) / (d : Rat) < p2 (p + 1)) (hA : A = max (p - 52) (-1074)) {N D : Nat} (hN : N = n * 2 ^ (-A).toNat) (hD : D = d * 2 ^ (-(-A)).toNat) :
    ∃ t : Nat, A = (t : Int) - 1074 ∧ N / D < 9007199254740992 ∧ (4503599627370496 ≤ N / D ∨ t = 0) ∧
    Cut ((n : Rat) / (d : Rat)) (N / D + t * 4503599627370496) (decide (N % D ≠ 0)) (cmpZ (N % D * 2) D) ∧ (p < -1022 ↔ N / D + t * 4503599627370496 < 4503599627370496) := by
  have hD0 : D ≠ 0 := by rw [hD]; exact Nat.ne_of_gt (Nat.mul_pos (by omega) (Nat.two_pow_pos _))
  have hX := shift_q (n := n) hd (-A)
  rw [← hN, ← hD] at hX
  obtain ⟨X, hXd⟩ : ∃ X, X = (n : Rat) / (d : Rat) := ⟨_, rfl⟩
  rw [← hXd] at h1 h2 hX ⊢
  have hu := p2_pos A
  have hu1 : p2 (-A) * p2 A = 1 := by rw [← p2_add, show -A + A = 0 by omega, p2_zero]
  have hX2 : X = (N : Rat) / (D : Rat) * p2 A := by rw [hX]; grind
  have hDq := pos_q hD0
  have hc := div_mul_q (n := N) hD0
  obtain ⟨R, hR⟩ : ∃ R, R = (N : Rat) / (D : Rat) := ⟨_, rfl⟩
  rw [← hR] at hX2 hc
  obtain ⟨v, hv0⟩ : ∃ v, v = N / D := ⟨_, rfl⟩
  obtain ⟨r, hr0⟩ : ∃ r, r = N % D := ⟨_, rfl⟩
  have hdm : D * v + r = N := by rw [hv0, hr0]; exact Nat.div_add_mod _ _
  have hrd : r < D := by rw [hr0]; exact Nat.mod_lt _ (by omega)
  rw [← hv0, ← hr0]
  have hq : R * (D : Rat) = (D : Rat) * (v : Rat) + (r : Rat) := by rw [hc, ← hdm, Rat.natCast_add, Rat.natCast_mul]
  have hr1 : (0 : Rat) ≤ (r : Rat) := by exact_mod_cast Nat.zero_le r
  have hr2 : (r : Rat) < (D : Rat) := natq_lt.2 hrd
  have lo : (v : Rat) ≤ R := le_of_mul (c := (D : Rat)) (by grind) hDq
  have hi : R < (v : Rat) + 1 := lt_of_mul (c := (D : Rat)) (by grind) hDq
  have hv : v < 9007199254740992 := by
    have h3 : p2 (p + 1) ≤ p2 (A + 53) := p2_mono (by omega)
    have h4 := p2_add_nat A 53
    have h5 : ((2 ^ 53 : Nat) : Rat) = ((9007199254740992 : Nat) : Rat) := rfl
    rw [show A + ((53 : Nat) : Int) = A + 53 by omega] at h4
    rw [h5] at h4
    have h6 : R < ((9007199254740992 : Nat) : Rat) := lt_of_mul (c := p2 A) (by grind) hu
    have : (v : Rat) < ((9007199254740992 : Nat) : Rat) := by grind
    exact natq_lt.1 this
  have hv2 : 4503599627370496 ≤ v ∨ A = -1074 := by
    by_cases h : A = -1074
    · exact .inr h
    · left
      have h4 := p2_add_nat A 52
      have h5 : ((2 ^ 52 : Nat) : Rat) = ((4503599627370496 : Nat) : Rat) := rfl
      rw [show A + ((52 : Nat) : Int) = p by omega] at h4
      rw [h5] at h4
      have h6 : ((4503599627370496 : Nat) : Rat) ≤ R := le_of_mul (c := p2 A) (by grind) hu
      have : ((4503599627370496 : Nat) : Rat) < ((v + 1 : Nat) : Rat) := by rw [Rat.natCast_add]; show _ < (v : Rat) + 1; grind
      have := natq_lt.1 this
      omega
  have ht : A = ((A + 1074).toNat : Int) - 1074 := by omega
  obtain ⟨t, ht'⟩ : ∃ t, t = (A + 1074).toNat := ⟨_, rfl⟩
  rw [← ht'] at ht
  have g1 := mul_le_q lo hu
  have g2 := mul_lt_q hi hu
  have hcut := cut_mid (v := v) (t := t) (X := X) hv (by omega) (by rw [← ht, hX2]; exact g1) (by rw [← ht, hX2]; exact g2)
  rw [← ht] at hcut
  have hsm : decide ((v : Rat) * p2 A ≠ X) = decide (r ≠ 0) := by
    by_cases h : r = 0
    · have : (v : Rat) = R := by
        have h0 : (r : Rat) = 0 := by rw [h]; rfl
        have g3 := le_of_mul (a := R) (b := (v : Rat)) (c := (D : Rat)) (by grind) hDq
        grind
      rw [decide_eq_false (by rw [this, hX2]; simp), decide_eq_false (fun h2 => h2 h)]
    · rw [decide_eq_true h]
      have h0 : (0 : Rat) < (r : Rat) := pos_q h
      have h3 : (v : Rat) < R := lt_of_mul (c := (D : Rat)) (by grind) hDq
      have := mul_lt_q h3 hu
      exact decide_eq_true (by rw [hX2]; grind)
  have hhf : cmpR (2 * X) ((2 * (v : Rat) + 1) * p2 A) = cmpZ (r * 2) D := by
    have hr22 : ((r * 2 : Nat) : Rat) = 2 * (r : Rat) := by rw [Rat.natCast_mul, Rat.mul_comm]; rfl
    rw [hX2]
    rcases Nat.lt_trichotomy (r * 2) D with h | h | h
    · have h3 := natq_lt.2 h
      have h4 : 2 * R < 2 * (v : Rat) + 1 := lt_of_mul (c := (D : Rat)) (by grind) hDq
      have := mul_lt_q h4 hu
      rw [cmpZ, if_pos h, cmpR, if_pos (by grind)]
    · have h3 := natq_eq.2 h
      have h4 : 2 * R ≤ 2 * (v : Rat) + 1 := le_of_mul (c := (D : Rat)) (by grind) hDq
      have h5 : 2 * (v : Rat) + 1 ≤ 2 * R := le_of_mul (c := (D : Rat)) (by grind) hDq
      have := mul_le_q h4 hu
      have := mul_le_q h5 hu
      rw [cmpZ, if_neg (by omega), if_pos h, cmpR, if_neg (by grind), if_neg (by grind)]
    · have h3 := natq_lt.2 h
      have h4 : 2 * (v : Rat) + 1 < 2 * R := lt_of_mul (c := (D : Rat)) (by grind) hDq
      have := mul_lt_q h4 hu
      rw [cmpZ, if_neg (by omega), if_neg (by omega), cmpR, if_neg (by grind), if_pos (by grind)]
  rw [hsm, hhf] at hcut
  refine ⟨t, ht, hv, by omega, hcut, ?_⟩
  rw [cut_under hcut.cd]
  constructor
  · intro h
    have := p2_mono (show p + 1 ≤ -1022 by omega)
    grind
  · intro h
    rcases Int.lt_or_le p (-1022) with h3 | h3
    · exact h3
    · have := p2_mono h3
      grind

/-- What the document does with a number's cut. -/
theorem out_ref {neg : Bool} {v t r D : Nat} {mode : Int} {w : Nat} {u : Prop} [Decidable u] (hD : D ≠ 0) (hw : w = if r ≠ 0 ∧ goUp mode neg true (decide (v % 2 = 1)) (cmpZ (r * 2) D) = true then v + 1 else v) (hu : u ↔ v + t * 4503599627370496 < 4503599627370496) :
    out neg (v + t * 4503599627370496) (decide (r ≠ 0)) (cmpZ (r * 2) D) mode = if 9218868437227405312 ≤ w + t * 4503599627370496 then (sg neg (lim neg mode), 5) else (sg neg (w + t * 4503599627370496), if r ≠ 0 then (if u then 3 else 1) else 0) := by
  have hodd : decide ((v + t * 4503599627370496) % 2 = 1) = decide (v % 2 = 1) := by
    by_cases h : v % 2 = 1
    · rw [decide_eq_true h, decide_eq_true (by omega)]
    · rw [decide_eq_false h, decide_eq_false (by omega)]
  have hup : upc neg (v + t * 4503599627370496) (decide (r ≠ 0)) (cmpZ (r * 2) D) mode = w + t * 4503599627370496 := by
    rw [upc, hodd, hw]
    by_cases h : r = 0
    · subst h
      rw [decide_eq_false (by simp), show cmpZ (0 * 2) D = -1 by rw [cmpZ, if_pos (by omega)], goUp_no, if_neg (by simp), if_neg (by simp)]
    · rw [decide_eq_true h]
      by_cases h2 : goUp mode neg true (decide (v % 2 = 1)) (cmpZ (r * 2) D) = true
      · rw [if_pos h2, if_pos ⟨h, h2⟩]; omega
      · rw [if_neg h2, if_neg fun h3 => h2 h3.2]
  rw [out, hup]
  by_cases h : 9218868437227405312 ≤ w + t * 4503599627370496
  · rw [if_pos h, if_pos h]
  · rw [if_neg h, if_neg h]
    by_cases h2 : r = 0
    · rw [if_neg (by simp [h2]), if_neg (by simp [h2])]
    · rw [if_pos (by simp [h2]), if_pos h2]
      by_cases h3 : u
      · rw [if_pos h3, if_pos (hu.1 h3)]
      · rw [if_neg h3, if_neg (mt hu.2 h3)]


theorem rfof_ok (q : Rat) (mode : Int) {k : Nat} (hq : Bz q k) (hk : k ≤ 65536) : CallP Try.prog 95 [ratP q, .int .i64 mode] (fpair (ofF q mode)) [] := by
  refine callG_of_vc (wr := wr0) Γok mixed Try.func95 (by kernel_rfl) rfl (by kernel_rfl) (le_of_ble rfl) (by simp) ?_
  refine SCall.pure (rnought_ok q) ?_
  by_cases hq0 : q = 0
  · rw [decide_eq_true hq0, ofF, if_pos hq0]
    refine SCond.mk (fun _ => ?_) (fun h => by cases h)
    exact SRet.pure (.tup rfl fun i c d e1 e2 => by
      match i, e1, e2 with
      | 0, e1, e2 => cases e1; cases e2; exact .p _ (.int _ _)
      | 1, e1, e2 => cases e1; cases e2; exact .p _ (.int _ _))
  rw [decide_eq_false hq0, ofF, if_neg hq0, rS]
  refine SCond.mk (fun h => by cases h) (fun _ => ?_)
  have hn := hq.1
  have hd := hq.2
  have hn0 : q.num.natAbs ≠ 0 := fun h => hq0 (Rat.num_eq_zero.1 (by omega))
  have n1 := nlen_bitLen q.num.natAbs
  have n2 := nlen_bitLen q.den
  obtain ⟨l1, l2⟩ := log_bits hn0 q.den_nz
  obtain ⟨p0, hp0⟩ : ∃ p0 : Int, p0 = (bitLen q.num.natAbs : Int) - bitLen q.den := ⟨_, rfl⟩
  rw [← hp0] at l1 l2
  refine SDraw.mk (by kernel_rfl) ?_
  repeat refine SOp.mk _ _ (And.intro rfl rfl) rfl ?_
  refine SOp.mk _ _ (SCall.pure (rbits_ok false q.num.natAbs (by omega)) (And.intro rfl rfl)) rfl ?_
  repeat refine SOp.mk _ _ (And.intro rfl rfl) rfl ?_
  refine SOp.mk _ _ (SCall.pure (rbits_ok false q.den (by omega)) (And.intro rfl rfl)) rfl ?_
  refine SOp.mk _ _ (SWrap.i64z p0 hp0.symm (by omega) (And.intro rfl rfl)) rfl ?_
  repeat refine SOp.mk _ _ (And.intro rfl rfl) rfl ?_
  refine SWrap.i64z (-p0) (by omega) (by omega) ?_
  refine SCall.pureT (rshift_ok q.num.natAbs q.den (-p0) (by omega) (by omega) (by omega)) (fun _ => rfl) ?_
  have b1 := bits_shl q.num.natAbs (-p0).toNat
  have b2 := bits_shl q.den (-(-p0)).toNat
  have b3 := nlen_bitLen (q.num.natAbs * 2 ^ (-p0).toNat)
  have b4 := nlen_bitLen (q.den * 2 ^ (-(-p0)).toNat)
  refine SCall.pure (rcmp_ok false false (q.num.natAbs * 2 ^ (-p0).toNat) (q.den * 2 ^ (-(-p0)).toNat) (by omega) (by omega)) ?_
  have hlt := shift_lt (n := q.num.natAbs) q.den_nz (-p0)
  rw [show -(-p0) = p0 by omega] at hlt ⊢
  rw [abs_parts]
  by_cases hc : q.num.natAbs * 2 ^ (-p0).toNat < q.den * 2 ^ p0.toNat
  · rw [cmpZ, if_pos hc]
    refine SCmp.yes (decide_eq_true (by omega)) ?_
    refine SWrap.i64z (p0 - 1) rfl (by omega) ?_
    refine SWrap.i64z (p0 - 1 - 52) rfl (by omega) ?_
    obtain ⟨p, hp⟩ : ∃ p, p = p0 - 1 := ⟨_, rfl⟩
    rw [← hp] at l1 ⊢
    have h1 : p2 p ≤ (q.num.natAbs : Rat) / (q.den : Rat) := by grind
    have h2 : (q.num.natAbs : Rat) / (q.den : Rat) < p2 (p + 1) := by rw [show p + 1 = p0 by omega]; exact hlt.1 hc
    obtain ⟨A, hA⟩ : ∃ A, A = max (p - 52) (-1074) := ⟨_, rfl⟩
    obtain ⟨N, hN⟩ : ∃ N, N = q.num.natAbs * 2 ^ (-A).toNat := ⟨_, rfl⟩
    obtain ⟨D, hD⟩ : ∃ D, D = q.den * 2 ^ (-(-A)).toNat := ⟨_, rfl⟩
    have hD0 : D ≠ 0 := by rw [hD]; exact Nat.ne_of_gt (Nat.mul_pos (by have := q.den_nz; omega) (Nat.two_pow_pos _))
    have hbN : bitLen N ≤ 1048576 := by rw [hN]; have := bits_shl q.num.natAbs (-A).toNat; omega
    have hbD : bitLen D ≤ 1048576 := by rw [hD]; have := bits_shl q.den (-(-A)).toNat; omega
    obtain ⟨t, ht, hv, hvt, hcut, hund⟩ := rof_cut hn0 q.den_nz h1 h2 hA hN hD
    have hA2 : A ≤ 131072 := by omega
    rw [← hcut.out]
    refine SZ.mk A (by rw [hA]; exact max_ite _ _) ?_
    refine SWrap.i64z (-A) (by omega) (by omega) ?_
    refine SCall.pureT (rshift_ok q.num.natAbs q.den (-A) (by omega) (by omega) (by omega)) (fun _ => rfl) ?_
    rw [← hN, ← hD]
    refine SCall.pureT (rdiv_ok false false N D hD0 hbN hbD) (fun _ => rfl) ?_
    refine SCall.pureT (rsmall_ok false (N / D) (by omega)) (fun _ => rfl) ?_
    have hlr : (nl (N % D)).length = nlen (N % D) := rfl
    refine SZ.mk (nlen (N % D) : Int) (by simp [hlr]) ?_
    by_cases h0 : N % D = 0
    · have := nlen_zero_iff.2 h0
      refine SCmp.no (decide_eq_false (by omega)) ?_
      rw [out_ref (u := p < -1022) (w := N / D) hD0 (by rw [if_neg fun h => h.1 h0]) hund, show (if N % D ≠ 0 then (if p < -1022 then (3 : Int) else 1) else 0) = 0 from if_neg fun h => h h0]
      subst ht
      refine SCall.pureT (pack_ok _ (N / D) t mode 0 (by omega) (by omega) (by omega)) (fun _ => rfl) ?_
      exact SRet.pure (.tup rfl fun i c d e1 e2 => by
        match i, e1, e2 with
        | 0, e1, e2 => cases e1; cases e2; exact .p _ (.int _ _)
        | 1, e1, e2 => cases e1; cases e2; exact .p _ (.int _ _))
    · have := mt nlen_zero_iff.1 h0
      refine SCmp.yes (decide_eq_true (by omega)) ?_
      have hup : ∀ b : Bool, goUp mode (decide (q.num < 0)) true (decide (N / D % 2 = 1)) (cmpZ (N % D * 2) D) = b → (if 9218868437227405312 ≤ (if b then N / D + 1 else N / D) + t * 4503599627370496 then (sg (decide (q.num < 0)) (lim (decide (q.num < 0)) mode), (5 : Int)) else (sg (decide (q.num < 0)) ((if b then N / D + 1 else N / D) + t * 4503599627370496), if p < -1022 then 3 else 1)) = out (decide (q.num < 0)) (N / D + t * 4503599627370496) (decide (N % D ≠ 0)) (cmpZ (N % D * 2) D) mode := fun b hb => by
        rw [out_ref (u := p < -1022) (w := if b then N / D + 1 else N / D) hD0 ?_ hund, if_pos h0]
        cases b with
        | true => rw [if_pos rfl, if_pos ⟨h0, hb⟩]
        | false => rw [if_neg Bool.false_ne_true, if_neg fun h => by rw [hb] at h; exact Bool.false_ne_true h.2]
      by_cases hu0 : p < -1022
      · refine SCmp.yes (decide_eq_true (by omega)) ?_
        rw [if_pos hu0] at hup
        have hn1 : nlen (N % D) ≤ nlen D := nlen_mono (Nat.le_of_lt (Nat.mod_lt N (Nat.pos_of_ne_zero hD0)))
        have hn4 := nlen_bitLen D
        have hn2 : nlen (N % D * 2 ^ 1) ≤ 1048580 := by have := nlen_shl (N % D) 1; omega
        have hn3 := nlen_bitLen D
        refine SDraw.mk (by kernel_rfl) ?_
        repeat refine SOp.mk _ _ (And.intro rfl rfl) rfl ?_
        refine SOp.mk _ _ (SCall.pure (rshl_ok false (N % D) 1 (by omega) (by omega)) (And.intro rfl rfl)) rfl ?_
        repeat refine SOp.mk _ _ (And.intro rfl rfl) rfl ?_
        refine SOp.mk _ _ (SCall.pure (rcmp_ok false false (N % D * 2 ^ 1) D (by omega) (by omega)) (And.intro rfl rfl)) rfl ?_
        rw [Nat.pow_one]
        repeat refine SOp.mk _ _ (And.intro rfl rfl) rfl ?_
        refine SOp.mk _ _ (SNe.mk (by decide) <| SZ.mk ((N / D % 2 : Nat) : Int) ((Int.tmod_eq_emod_of_nonneg (Int.natCast_nonneg (N / D))).trans rfl) (And.intro rfl rfl)) rfl ?_
        rw [show decide (N / D % 2 = 1) = (((N / D % 2 : Nat) : Int) == 1) by
          by_cases h : N / D % 2 = 1
          · rw [decide_eq_true h, eqT (by omega)]
          · rw [decide_eq_false h, eqF (by omega)]] at hup
        refine SOp.mk _ _ (SCmp.sym (And.intro rfl rfl)) rfl ?_
        repeat refine SOp.mk _ _ (And.intro rfl rfl) rfl ?_
        refine SOp.mk _ _ (SCall.pure (rup_ok (decide (q.num < 0)) (cmpZ (N % D * 2) D) (((N / D % 2 : Nat) : Int) == 1) mode) (And.intro rfl rfl)) rfl ?_
        refine SCond.mk (fun hg => ?_) (fun hg => ?_)
        · rw [← hup _ hg, if_pos rfl]
          refine SWrap.u64z (N / D + 1) (by omega) (by omega) ?_
          subst ht
          refine SCall.pureT (pack_ok _ (N / D + 1) t mode 3 (by omega) (by omega) (by omega)) (fun _ => rfl) ?_
          exact SRet.pure (.tup rfl fun i c d e1 e2 => by
            match i, e1, e2 with
            | 0, e1, e2 => cases e1; cases e2; exact .p _ (.int _ _)
            | 1, e1, e2 => cases e1; cases e2; exact .p _ (.int _ _))
        · rw [← hup _ hg, if_neg Bool.false_ne_true]
          subst ht
          refine SCall.pureT (pack_ok _ (N / D) t mode 3 (by omega) (by omega) (by omega)) (fun _ => rfl) ?_
          exact SRet.pure (.tup rfl fun i c d e1 e2 => by
            match i, e1, e2 with
            | 0, e1, e2 => cases e1; cases e2; exact .p _ (.int _ _)
            | 1, e1, e2 => cases e1; cases e2; exact .p _ (.int _ _))
      · refine SCmp.no (decide_eq_false (by omega)) ?_
        rw [if_neg hu0] at hup
        have hn1 : nlen (N % D) ≤ nlen D := nlen_mono (Nat.le_of_lt (Nat.mod_lt N (Nat.pos_of_ne_zero hD0)))
        have hn4 := nlen_bitLen D
        have hn2 : nlen (N % D * 2 ^ 1) ≤ 1048580 := by have := nlen_shl (N % D) 1; omega
        have hn3 := nlen_bitLen D
        refine SDraw.mk (by kernel_rfl) ?_
        repeat refine SOp.mk _ _ (And.intro rfl rfl) rfl ?_
        refine SOp.mk _ _ (SCall.pure (rshl_ok false (N % D) 1 (by omega) (by omega)) (And.intro rfl rfl)) rfl ?_
        repeat refine SOp.mk _ _ (And.intro rfl rfl) rfl ?_
        refine SOp.mk _ _ (SCall.pure (rcmp_ok false false (N % D * 2 ^ 1) D (by omega) (by omega)) (And.intro rfl rfl)) rfl ?_
        rw [Nat.pow_one]
        repeat refine SOp.mk _ _ (And.intro rfl rfl) rfl ?_
        refine SOp.mk _ _ (SNe.mk (by decide) <| SZ.mk ((N / D % 2 : Nat) : Int) ((Int.tmod_eq_emod_of_nonneg (Int.natCast_nonneg (N / D))).trans rfl) (And.intro rfl rfl)) rfl ?_
        rw [show decide (N / D % 2 = 1) = (((N / D % 2 : Nat) : Int) == 1) by
          by_cases h : N / D % 2 = 1
          · rw [decide_eq_true h, eqT (by omega)]
          · rw [decide_eq_false h, eqF (by omega)]] at hup
        refine SOp.mk _ _ (SCmp.sym (And.intro rfl rfl)) rfl ?_
        repeat refine SOp.mk _ _ (And.intro rfl rfl) rfl ?_
        refine SOp.mk _ _ (SCall.pure (rup_ok (decide (q.num < 0)) (cmpZ (N % D * 2) D) (((N / D % 2 : Nat) : Int) == 1) mode) (And.intro rfl rfl)) rfl ?_
        refine SCond.mk (fun hg => ?_) (fun hg => ?_)
        · rw [← hup _ hg, if_pos rfl]
          refine SWrap.u64z (N / D + 1) (by omega) (by omega) ?_
          subst ht
          refine SCall.pureT (pack_ok _ (N / D + 1) t mode 1 (by omega) (by omega) (by omega)) (fun _ => rfl) ?_
          exact SRet.pure (.tup rfl fun i c d e1 e2 => by
            match i, e1, e2 with
            | 0, e1, e2 => cases e1; cases e2; exact .p _ (.int _ _)
            | 1, e1, e2 => cases e1; cases e2; exact .p _ (.int _ _))
        · rw [← hup _ hg, if_neg Bool.false_ne_true]
          subst ht
          refine SCall.pureT (pack_ok _ (N / D) t mode 1 (by omega) (by omega) (by omega)) (fun _ => rfl) ?_
          exact SRet.pure (.tup rfl fun i c d e1 e2 => by
            match i, e1, e2 with
            | 0, e1, e2 => cases e1; cases e2; exact .p _ (.int _ _)
            | 1, e1, e2 => cases e1; cases e2; exact .p _ (.int _ _))
  · have hcz : ¬ cmpZ (q.num.natAbs * 2 ^ (-p0).toNat) (q.den * 2 ^ p0.toNat) < 0 := by rw [cmpZ, if_neg hc]; split <;> omega
    refine SCmp.no (decide_eq_false (by exact hcz)) ?_
    refine SWrap.i64z (p0 - 52) rfl (by omega) ?_
    obtain ⟨p, hp⟩ : ∃ p, p = p0 := ⟨_, rfl⟩
    rw [← hp] at l2 hlt ⊢
    have h1 : p2 p ≤ (q.num.natAbs : Rat) / (q.den : Rat) := Rat.not_lt.1 fun h => hc (by rw [← hp]; exact hlt.2 h)
    have h2 := l2
    obtain ⟨A, hA⟩ : ∃ A, A = max (p - 52) (-1074) := ⟨_, rfl⟩
    obtain ⟨N, hN⟩ : ∃ N, N = q.num.natAbs * 2 ^ (-A).toNat := ⟨_, rfl⟩
    obtain ⟨D, hD⟩ : ∃ D, D = q.den * 2 ^ (-(-A)).toNat := ⟨_, rfl⟩
    have hD0 : D ≠ 0 := by rw [hD]; exact Nat.ne_of_gt (Nat.mul_pos (by have := q.den_nz; omega) (Nat.two_pow_pos _))
    have hbN : bitLen N ≤ 1048576 := by rw [hN]; have := bits_shl q.num.natAbs (-A).toNat; omega
    have hbD : bitLen D ≤ 1048576 := by rw [hD]; have := bits_shl q.den (-(-A)).toNat; omega
    obtain ⟨t, ht, hv, hvt, hcut, hund⟩ := rof_cut hn0 q.den_nz h1 h2 hA hN hD
    have hA2 : A ≤ 131072 := by omega
    rw [← hcut.out]
    refine SZ.mk A (by rw [hA]; exact max_ite _ _) ?_
    refine SWrap.i64z (-A) (by omega) (by omega) ?_
    refine SCall.pureT (rshift_ok q.num.natAbs q.den (-A) (by omega) (by omega) (by omega)) (fun _ => rfl) ?_
    rw [← hN, ← hD]
    refine SCall.pureT (rdiv_ok false false N D hD0 hbN hbD) (fun _ => rfl) ?_
    refine SCall.pureT (rsmall_ok false (N / D) (by omega)) (fun _ => rfl) ?_
    have hlr : (nl (N % D)).length = nlen (N % D) := rfl
    refine SZ.mk (nlen (N % D) : Int) (by simp [hlr]) ?_
    by_cases h0 : N % D = 0
    · have := nlen_zero_iff.2 h0
      refine SCmp.no (decide_eq_false (by omega)) ?_
      rw [out_ref (u := p < -1022) (w := N / D) hD0 (by rw [if_neg fun h => h.1 h0]) hund, show (if N % D ≠ 0 then (if p < -1022 then (3 : Int) else 1) else 0) = 0 from if_neg fun h => h h0]
      subst ht
      refine SCall.pureT (pack_ok _ (N / D) t mode 0 (by omega) (by omega) (by omega)) (fun _ => rfl) ?_
      exact SRet.pure (.tup rfl fun i c d e1 e2 => by
        match i, e1, e2 with
        | 0, e1, e2 => cases e1; cases e2; exact .p _ (.int _ _)
        | 1, e1, e2 => cases e1; cases e2; exact .p _ (.int _ _))
    · have := mt nlen_zero_iff.1 h0
      refine SCmp.yes (decide_eq_true (by omega)) ?_
      have hup : ∀ b : Bool, goUp mode (decide (q.num < 0)) true (decide (N / D % 2 = 1)) (cmpZ (N % D * 2) D) = b → (if 9218868437227405312 ≤ (if b then N / D + 1 else N / D) + t * 4503599627370496 then (sg (decide (q.num < 0)) (lim (decide (q.num < 0)) mode), (5 : Int)) else (sg (decide (q.num < 0)) ((if b then N / D + 1 else N / D) + t * 4503599627370496), if p < -1022 then 3 else 1)) = out (decide (q.num < 0)) (N / D + t * 4503599627370496) (decide (N % D ≠ 0)) (cmpZ (N % D * 2) D) mode := fun b hb => by
        rw [out_ref (u := p < -1022) (w := if b then N / D + 1 else N / D) hD0 ?_ hund, if_pos h0]
        cases b with
        | true => rw [if_pos rfl, if_pos ⟨h0, hb⟩]
        | false => rw [if_neg Bool.false_ne_true, if_neg fun h => by rw [hb] at h; exact Bool.false_ne_true h.2]
      by_cases hu0 : p < -1022
      · refine SCmp.yes (decide_eq_true (by omega)) ?_
        rw [if_pos hu0] at hup
        have hn1 : nlen (N % D) ≤ nlen D := nlen_mono (Nat.le_of_lt (Nat.mod_lt N (Nat.pos_of_ne_zero hD0)))
        have hn4 := nlen_bitLen D
        have hn2 : nlen (N % D * 2 ^ 1) ≤ 1048580 := by have := nlen_shl (N % D) 1; omega
        have hn3 := nlen_bitLen D
        refine SDraw.mk (by kernel_rfl) ?_
        repeat refine SOp.mk _ _ (And.intro rfl rfl) rfl ?_
        refine SOp.mk _ _ (SCall.pure (rshl_ok false (N % D) 1 (by omega) (by omega)) (And.intro rfl rfl)) rfl ?_
        repeat refine SOp.mk _ _ (And.intro rfl rfl) rfl ?_
        refine SOp.mk _ _ (SCall.pure (rcmp_ok false false (N % D * 2 ^ 1) D (by omega) (by omega)) (And.intro rfl rfl)) rfl ?_
        rw [Nat.pow_one]
        repeat refine SOp.mk _ _ (And.intro rfl rfl) rfl ?_
        refine SOp.mk _ _ (SNe.mk (by decide) <| SZ.mk ((N / D % 2 : Nat) : Int) ((Int.tmod_eq_emod_of_nonneg (Int.natCast_nonneg (N / D))).trans rfl) (And.intro rfl rfl)) rfl ?_
        rw [show decide (N / D % 2 = 1) = (((N / D % 2 : Nat) : Int) == 1) by
          by_cases h : N / D % 2 = 1
          · rw [decide_eq_true h, eqT (by omega)]
          · rw [decide_eq_false h, eqF (by omega)]] at hup
        refine SOp.mk _ _ (SCmp.sym (And.intro rfl rfl)) rfl ?_
        repeat refine SOp.mk _ _ (And.intro rfl rfl) rfl ?_
        refine SOp.mk _ _ (SCall.pure (rup_ok (decide (q.num < 0)) (cmpZ (N % D * 2) D) (((N / D % 2 : Nat) : Int) == 1) mode) (And.intro rfl rfl)) rfl ?_
        refine SCond.mk (fun hg => ?_) (fun hg => ?_)
        · rw [← hup _ hg, if_pos rfl]
          refine SWrap.u64z (N / D + 1) (by omega) (by omega) ?_
          subst ht
          refine SCall.pureT (pack_ok _ (N / D + 1) t mode 3 (by omega) (by omega) (by omega)) (fun _ => rfl) ?_
          exact SRet.pure (.tup rfl fun i c d e1 e2 => by
            match i, e1, e2 with
            | 0, e1, e2 => cases e1; cases e2; exact .p _ (.int _ _)
            | 1, e1, e2 => cases e1; cases e2; exact .p _ (.int _ _))
        · rw [← hup _ hg, if_neg Bool.false_ne_true]
          subst ht
          refine SCall.pureT (pack_ok _ (N / D) t mode 3 (by omega) (by omega) (by omega)) (fun _ => rfl) ?_
          exact SRet.pure (.tup rfl fun i c d e1 e2 => by
            match i, e1, e2 with
            | 0, e1, e2 => cases e1; cases e2; exact .p _ (.int _ _)
            | 1, e1, e2 => cases e1; cases e2; exact .p _ (.int _ _))
      · refine SCmp.no (decide_eq_false (by omega)) ?_
        rw [if_neg hu0] at hup
        have hn1 : nlen (N % D) ≤ nlen D := nlen_mono (Nat.le_of_lt (Nat.mod_lt N (Nat.pos_of_ne_zero hD0)))
        have hn4 := nlen_bitLen D
        have hn2 : nlen (N % D * 2 ^ 1) ≤ 1048580 := by have := nlen_shl (N % D) 1; omega
        have hn3 := nlen_bitLen D
        refine SDraw.mk (by kernel_rfl) ?_
        repeat refine SOp.mk _ _ (And.intro rfl rfl) rfl ?_
        refine SOp.mk _ _ (SCall.pure (rshl_ok false (N % D) 1 (by omega) (by omega)) (And.intro rfl rfl)) rfl ?_
        repeat refine SOp.mk _ _ (And.intro rfl rfl) rfl ?_
        refine SOp.mk _ _ (SCall.pure (rcmp_ok false false (N % D * 2 ^ 1) D (by omega) (by omega)) (And.intro rfl rfl)) rfl ?_
        rw [Nat.pow_one]
        repeat refine SOp.mk _ _ (And.intro rfl rfl) rfl ?_
        refine SOp.mk _ _ (SNe.mk (by decide) <| SZ.mk ((N / D % 2 : Nat) : Int) ((Int.tmod_eq_emod_of_nonneg (Int.natCast_nonneg (N / D))).trans rfl) (And.intro rfl rfl)) rfl ?_
        rw [show decide (N / D % 2 = 1) = (((N / D % 2 : Nat) : Int) == 1) by
          by_cases h : N / D % 2 = 1
          · rw [decide_eq_true h, eqT (by omega)]
          · rw [decide_eq_false h, eqF (by omega)]] at hup
        refine SOp.mk _ _ (SCmp.sym (And.intro rfl rfl)) rfl ?_
        repeat refine SOp.mk _ _ (And.intro rfl rfl) rfl ?_
        refine SOp.mk _ _ (SCall.pure (rup_ok (decide (q.num < 0)) (cmpZ (N % D * 2) D) (((N / D % 2 : Nat) : Int) == 1) mode) (And.intro rfl rfl)) rfl ?_
        refine SCond.mk (fun hg => ?_) (fun hg => ?_)
        · rw [← hup _ hg, if_pos rfl]
          refine SWrap.u64z (N / D + 1) (by omega) (by omega) ?_
          subst ht
          refine SCall.pureT (pack_ok _ (N / D + 1) t mode 1 (by omega) (by omega) (by omega)) (fun _ => rfl) ?_
          exact SRet.pure (.tup rfl fun i c d e1 e2 => by
            match i, e1, e2 with
            | 0, e1, e2 => cases e1; cases e2; exact .p _ (.int _ _)
            | 1, e1, e2 => cases e1; cases e2; exact .p _ (.int _ _))
        · rw [← hup _ hg, if_neg Bool.false_ne_true]
          subst ht
          refine SCall.pureT (pack_ok _ (N / D) t mode 1 (by omega) (by omega) (by omega)) (fun _ => rfl) ?_
          exact SRet.pure (.tup rfl fun i c d e1 e2 => by
            match i, e1, e2 with
            | 0, e1, e2 => cases e1; cases e2; exact .p _ (.int _ _)
            | 1, e1, e2 => cases e1; cases e2; exact .p _ (.int _ _))
end Go.Proofs.Ytkaooejeljdbnaa

/- The document's floats: as numbers, their order, the next ones. -/
namespace Go.Proofs.Ytkaooejeljdbnaa
open Go
set_option linter.unusedVariables false
set_option linter.unusedSimpArgs false
set_option maxRecDepth 10000

theorem SCall.vecR {P : Program} {f : FuncId} {L : Hd → Blk} {base h : Nat} {K : AV → List (Hd × Blk) → Prop} {args args' : List AV} {T : TypeId} {W : Nat} {es es' : List PV} {r r' : AV} (hb : h < base) (hL : L h = .vec T W es)
    (hc : CallG P f args' [.vec T W es] r [.vec T W es']) (ha : AV.renL (renOf [h] base) args' = args) (hargs : ∀ a ∈ args', ∀ k, a.men k → k.key < 1) (hr : r.ren (renOf [h] base) = r') (hk : K r' [(h, .vec T W es')]) (hLr : ∀ k, L (.r h k) = .free := by intro _; rfl) : SCall P true f args L base K := by
  refine .mk [h] args' r [.vec T W es] [.vec T W es'] (fun e => by cases e) (by simp) (fun k hk => by simp at hk; omega) ha rfl (fun i g B e1 e2 => ?_) (fun B hB => by simp at hB; subst hB; simp) (fun B hB k hk => by simp at hB; subst hB; exact hk.elim) (Nat.le_refl _)
    (fun B hB => by simp at hB; subst hB; simp) hargs hc ?_
  · match i, e1, e2 with
    | 0, e1, e2 => cases e1; cases e2; exact ⟨hL, hLr⟩
  · rw [hr]
    simpa [renN, Blk.ren] using hk
theorem nl_one' : nl 1 = [1] := by rw [nl_pos (by omega), show 1 / 4294967296 = 0 by decide, nl_zero]
abbrev oneV : Blk := .vec 70 1 [.int .u32 1]
theorem pers_oneV : ∀ e ∈ [PV.int .u32 1], ∀ c ∈ e.cells, Pers c := fun e he c hc => by
  simp at he; subst he
  simp [PV.cells] at hc; subst hc
  exact .int _ _
theorem natM_one (m : Bool) : natM m 1 = .sl m 1 [.int .u32 1] := by show PV.sl m 1 (limbs (nl 1)) = _; rw [nl_one']; rfl

theorem rshiftV_pos (n : Nat) (k : Int) (hn : bitLen n ≤ 262144) (hk : 0 ≤ k ∧ k ≤ 262144) :
    CallG Try.prog 146 [.p (natP n), .vec 0 1 0 1, .p (.int .i64 k)] [oneV] (.tup [.p (natP (n * 2 ^ k.toNat)), .vec 0 1 0 1]) [oneV] := by
  refine callG_of_vc (wr := wr0) Γok mixed Try.func146 (by kernel_rfl) rfl (by kernel_rfl) (le_of_ble rfl) (by simp) ?_
  refine SLoop.mk (Nat × Int) (fun (a, j) => ([(0, .p (natP a)), (1, .vec 0 1 0 1), (2, .p (.int .i64 j))], [oneV])) (fun (a, j) => 0 ≤ j ∧ j ≤ k ∧ a * 2 ^ j.toNat = n * 2 ^ k.toNat ∧ bitLen a ≤ 524288) (fun x => x.2.toNat) (n, k) [0]
    ⟨by omega, by omega, rfl, by omega⟩ ⟨rfl, by simp, rfl, rfl, rfl, ⟨rfl, rfl, rfl, trivial⟩, ⟨rfl, trivial⟩⟩ ?_
  intro ⟨a, j⟩ ⟨h1, h2, h3, h4⟩
  have h1 : 0 ≤ j := h1
  have h2 : j ≤ k := h2
  have h3 : a * 2 ^ j.toNat = n * 2 ^ k.toNat := h3
  have h4 : bitLen a ≤ 524288 := h4
  by_cases hj : 0 < j
  · refine SCmp.yes (decide_eq_true (by omega)) ?_
    obtain ⟨s, hs⟩ : ∃ s : Nat, s = (min j 9000).toNat := ⟨_, rfl⟩
    refine SZ.mk (s : Int) ((min_ite _ _).trans (by omega)) ?_
    have hna := nlen_bitLen a
    refine SCall.pure (rshl_ok false a s (by omega) (by omega)) ?_
    refine SWrap.i64z (j - s) rfl (by omega) ?_
    have e1 : a * 2 ^ s * 2 ^ (j - s).toNat = n * 2 ^ k.toNat := by
      rw [← h3, Nat.mul_assoc, ← Nat.pow_add, show s + (j - s).toNat = j.toNat by omega]
    refine ⟨(a * 2 ^ s, j - s), [0], ⟨by omega, by omega, e1, ?_⟩, by show (j - s).toNat < j.toNat; omega, ⟨rfl, by simp, rfl, rfl, rfl, ⟨rfl, rfl, rfl, trivial⟩, ⟨rfl, trivial⟩⟩⟩
    have h5 : a * 2 ^ s ≤ n * 2 ^ k.toNat := by rw [← e1]; exact Nat.le_mul_of_pos_right _ (Nat.two_pow_pos _)
    have h6 := bitLen_mono h5
    have h7 := bits_shl n k.toNat
    omega
  · refine SCmp.no (decide_eq_false (by omega)) ?_
    have : j = 0 := by omega
    subst this
    rw [show a = n * 2 ^ k.toNat by simpa using h3]
    refine SLoop.mk Unit (fun _ => ([(0, .p (natP (n * 2 ^ k.toNat))), (1, .vec 0 1 0 1), (2, .p (.int .i64 0))], [oneV])) (fun _ => True) (fun _ => 0) () [0] trivial ⟨rfl, by simp, rfl, rfl, rfl, ⟨rfl, rfl, rfl, trivial⟩, ⟨rfl, trivial⟩⟩ ?_
    intro _ _
    refine SCmp.no (decide_eq_false (by omega)) ?_
    exact SRet.one rfl pers_oneV (.tup rfl fun i c d e1 e2 => by
      match i, e1, e2 with
      | 0, e1, e2 => cases e1; cases e2; exact .p _ (.sl _ _ (pers_limbs _))
      | 1, e1, e2 => cases e1; cases e2; exact .vec rfl)

theorem rshiftV_neg (n : Nat) (k : Int) (hn : bitLen n ≤ 262144) (hk : -262144 ≤ k ∧ k < 0) :
    CallG Try.prog 146 [.p (natP n), .vec 0 1 0 1, .p (.int .i64 k)] [oneV] (.tup [.p (natP n), .p (natP (2 ^ (-k).toNat))]) [oneV] := by
  refine callG_of_vc (wr := wr0) Γok mixed Try.func146 (by kernel_rfl) rfl (by kernel_rfl) (le_of_ble rfl) (by simp) ?_
  refine SLoop.mk Unit (fun _ => ([(0, .p (natP n)), (1, .vec 0 1 0 1), (2, .p (.int .i64 k))], [oneV])) (fun _ => True) (fun _ => 0) () [0] trivial ⟨rfl, by simp, rfl, rfl, rfl, ⟨rfl, rfl, rfl, trivial⟩, ⟨rfl, trivial⟩⟩ ?_
  intro _ _
  refine SCmp.no (decide_eq_false (by omega)) ?_
  refine SLoop.mk (Option Nat × Int) (fun (b, i) => ([(0, .p (natP n)), (1, match b with | none => .vec 0 1 0 1 | some b => .p (natP b)), (2, .p (.int .i64 i))], [oneV])) (fun (b, i) => i ≤ 0 ∧ k ≤ i ∧ (match b with | none => i = k | some b => b * 2 ^ (-i).toNat = 2 ^ (-k).toNat ∧ bitLen b ≤ 524288)) (fun x => (-x.2).toNat) (none, k) [0]
    ⟨by omega, by omega, rfl⟩ ⟨rfl, by simp, rfl, rfl, rfl, ⟨rfl, rfl, rfl, trivial⟩, ⟨rfl, trivial⟩⟩ ?_
  intro ⟨b, i⟩ ⟨h1, h0, h2⟩
  have h1 : i ≤ 0 := h1
  have h0 : k ≤ i := h0
  by_cases hi : i < 0
  · refine SCmp.yes (decide_eq_true (by omega)) ?_
    refine SWrap.i64z (0 - i) rfl (by omega) ?_
    obtain ⟨s, hs⟩ : ∃ s : Nat, s = (min (0 - i) 9000).toNat := ⟨_, rfl⟩
    refine SZ.mk (s : Int) ((min_ite _ _).trans (by omega)) ?_
    cases b with
    | none =>
      have h2 : i = k := h2
      refine SView.all rfl ?_
      have hs1 := rshl_ok true 1 s (by have := nlen_le (n := 1) (k := 1) (by decide); omega) (by omega)
      rw [natM_one, Nat.one_mul] at hs1
      refine SCall.pure (hs1) ?_
      refine SWrap.i64z (i + s) rfl (by omega) ?_
      refine ⟨(some (2 ^ s), i + s), [0], ⟨by omega, by omega, ?_, ?_⟩, by show (-(i + s)).toNat < (-i).toNat; omega, ⟨rfl, by simp, rfl, rfl, rfl, ⟨rfl, rfl, rfl, trivial⟩, ⟨rfl, trivial⟩⟩⟩
      · show 2 ^ s * 2 ^ (-(i + s)).toNat = _
        rw [← Nat.pow_add]; congr 1; omega
      · have := bits_pow s
        omega
    | some b =>
      obtain ⟨h2, h3⟩ : b * 2 ^ (-i).toNat = 2 ^ (-k).toNat ∧ bitLen b ≤ 524288 := h2
      have hnb := nlen_bitLen b
      refine SCall.pure (rshl_ok false b s (by omega) (by omega)) ?_
      refine SWrap.i64z (i + s) rfl (by omega) ?_
      have e1 : b * 2 ^ s * 2 ^ (-(i + s)).toNat = 2 ^ (-k).toNat := by
        rw [← h2, Nat.mul_assoc, ← Nat.pow_add, show s + (-(i + s)).toNat = (-i).toNat by omega]
      refine ⟨(some (b * 2 ^ s), i + s), [0], ⟨by omega, by omega, e1, ?_⟩, by show (-(i + s)).toNat < (-i).toNat; omega, ⟨rfl, by simp, rfl, rfl, rfl, ⟨rfl, rfl, rfl, trivial⟩, ⟨rfl, trivial⟩⟩⟩
      have h5 : b * 2 ^ s ≤ 2 ^ (-k).toNat := by rw [← e1]; exact Nat.le_mul_of_pos_right _ (Nat.two_pow_pos _)
      have h6 := bitLen_mono h5
      have h7 := bits_pow (-k).toNat
      omega
  · refine SCmp.no (decide_eq_false (by omega)) ?_
    have : i = 0 := by omega
    subst this
    cases b with
    | none => have h2 : 0 = k := h2; omega
    | some b =>
      obtain ⟨h2, h3⟩ : b * 2 ^ (-(0 : Int)).toNat = 2 ^ (-k).toNat ∧ bitLen b ≤ 524288 := h2
      rw [show b = 2 ^ (-k).toNat by simpa using h2]
      exact SRet.one rfl pers_oneV (.tup rfl fun i c d e1 e2 => by
        match i, e1, e2 with
        | 0, e1, e2 => cases e1; cases e2; exact .p _ (.sl _ _ (pers_limbs _))
        | 1, e1, e2 => cases e1; cases e2; exact .p _ (.sl _ _ (pers_limbs _)))

abbrev wrS : FuncId → Bool := fun f => Nat.beq f 146
end Go.Proofs.Ytkaooejeljdbnaa
