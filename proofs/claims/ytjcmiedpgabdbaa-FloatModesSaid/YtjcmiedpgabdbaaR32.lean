/- The document's floats: rounding. -/
import Derived.Test.YtjcmiedpgabdbaaR31
namespace Go.Proofs.Ytjcmiedpgabdbaa
open Go
set_option linter.unusedVariables false
set_option linter.unusedSimpArgs false
set_option maxRecDepth 10000

theorem rsmall_ok (m : Bool) (a : Nat) (ha : a < 18446744073709551616) : CallP Try.prog 91 [natM m a] (.tup [.p (.int .u64 a), .p (.bool true)]) [] := by
  refine callG_of_vc (wr := wr0) Γok mixed Try.func91 (by kernel_rfl) rfl (by kernel_rfl) (le_of_ble rfl) (by simp) ?_
  have hn : nlen a ≤ 2 := nlen_le (by omega)
  have hlen : (nl a).length = nlen a := rfl
  refine SZ.mk (nlen a : Int) (by simp) ?_
  refine SCmp.no (decide_eq_false (by omega)) ?_
  refine SZ.mk (nlen a : Int) (by simp) ?_
  refine SLoop.mk Nat (fun i => ([(0, .p (natM m a)), (4, .p (.int .u64 ((a / 4294967296 ^ i : Nat) : Int))), (5, .p (.int .i64 i))], [])) (fun i => i ≤ nlen a) id (nlen a) []
    (Nat.le_refl _) ⟨rfl, .nil, rfl, rfl, rfl, ⟨rfl, ?_, rfl, trivial⟩, trivial⟩ ?_
  · rw [Nat.div_eq_of_lt (lt_nlen a)]; rfl
  intro i h1
  have h1 : i ≤ nlen a := h1
  by_cases hi : 0 < i
  · refine SCmp.yes (decide_eq_true (by omega)) ?_
    obtain ⟨j, rfl⟩ : ∃ j, i = j + 1 := ⟨i - 1, by omega⟩
    have l1 : (nl a).getD j 0 < 4294967296 := getD_lt (nl_ok a) j
    have e0 : a / 4294967296 ^ j = a / 4294967296 ^ (j + 1) * 4294967296 + (nl a).getD j 0 := by
      rw [nl_getD, Nat.pow_succ, ← Nat.div_div_eq_div_mul]; omega
    have hb : a / 4294967296 ^ j ≤ a := Nat.div_le_self _ _
    refine SGe.mk (by decide) ?_
    refine SWrap.u64z (a / 4294967296 ^ (j + 1) * 4294967296) ?_ (by omega) ?_
    · show ((a / 4294967296 ^ (j + 1) : Nat) : Int) * 4294967296 = _
      omega
    refine SWrap.i64z (j : Int) (by omega) (by omega) ?_
    refine SIdx.lb j rfl (by omega) ?_
    refine SWrap.u64z ((nl a).getD j 0) rfl (by omega) ?_
    refine SWrap.or _ _ (a / 4294967296 ^ j) rfl rfl (by omega) (by omega) ?_ ?_
    · rw [or_sum (k := 32) (a := a / 4294967296 ^ (j + 1)) l1 (by rw [Nat.mul_comm]), e0]
    refine SWrap.i64z (j : Int) (by omega) (by omega) ?_
    exact ⟨j, [], by show j ≤ nlen a; omega, by show j < j + 1; omega, ⟨rfl, .nil, rfl, rfl, rfl, ⟨rfl, rfl, rfl, trivial⟩, trivial⟩⟩
  · refine SCmp.no (decide_eq_false (by omega)) ?_
    have : i = 0 := by omega
    subst this
    rw [Nat.pow_zero, Nat.div_one]
    exact SRet.pure (.tup rfl fun i c d e1 e2 => by
      match i, e1, e2 with
      | 0, e1, e2 => cases e1; cases e2; exact .p _ (.int _ _)
      | 1, e1, e2 => cases e1; cases e2; exact .tf _)

theorem rup_ok (neg : Bool) (order : Int) (odd : Bool) (mode : Int) : CallP Try.prog 92 [.bool neg, .int .i64 order, .bool odd, .int .i64 mode] (.p (.bool (goUp mode neg true odd order))) [] := by
  refine callG_of_vc (wr := wr0) Γok mixed Try.func92 (by kernel_rfl) rfl (by kernel_rfl) (le_of_ble rfl) (by simp) ?_
  by_cases h1 : mode = 1
  · rw [show goUp mode neg true odd order = false by rw [goUp, if_pos h1]]
    refine SCmp.yes (eqT h1) ?_
    first | exact SRet.pure (.tf _) | exact SRet.pure (.p _ (.bool _))
  refine SCmp.no (eqF h1) ?_
  by_cases h2 : mode = 2
  · rw [show goUp mode neg true odd order = neg by rw [goUp, if_neg h1, if_pos h2, Bool.and_true]]
    refine SCmp.yes (eqT h2) ?_
    first | exact SRet.pure (.tf _) | exact SRet.pure (.p _ (.bool _))
  refine SCmp.no (eqF h2) ?_
  by_cases h3 : mode = 3
  · rw [show goUp mode neg true odd order = !neg by rw [goUp, if_neg h1, if_neg h2, if_pos h3, Bool.and_true]]
    refine SCmp.yes (eqT h3) ?_
    cases neg
    · refine SCmp.yes (rfl) ?_
      first | exact SRet.pure (.tf _) | exact SRet.pure (.p _ (.bool _))
    · refine SCmp.no (rfl) ?_
      first | exact SRet.pure (.tf _) | exact SRet.pure (.p _ (.bool _))
  refine SCmp.no (eqF h3) ?_
  by_cases h4 : mode = 4
  · rw [show goUp mode neg true odd order = decide (0 ≤ order) by rw [goUp, if_neg h1, if_neg h2, if_neg h3, if_pos h4]]
    refine SCmp.yes (eqT h4) ?_
    by_cases h : 0 ≤ order
    · rw [decide_eq_true h]
      refine SCmp.yes (decide_eq_true (by omega)) ?_
      first | exact SRet.pure (.tf _) | exact SRet.pure (.p _ (.bool _))
    · rw [decide_eq_false h]
      refine SCmp.no (decide_eq_false (by omega)) ?_
      first | exact SRet.pure (.tf _) | exact SRet.pure (.p _ (.bool _))
  refine SCmp.no (eqF h4) ?_
  rw [goUp_d h1 h2 h3 h4]
  by_cases h : 0 < order
  · rw [decide_eq_true h]
    refine SCmp.yes (decide_eq_true (by omega)) ?_
    first | exact SRet.pure (.tf _) | exact SRet.pure (.p _ (.bool _))
  rw [decide_eq_false h]
  refine SCmp.no (decide_eq_false (by omega)) ?_
  by_cases h0 : order = 0
  · rw [decide_eq_true h0]
    refine SCmp.yes (eqT h0) ?_
    cases odd
    · first | exact SRet.pure (.tf _) | exact SRet.pure (.p _ (.bool _))
    · first | exact SRet.pure (.tf _) | exact SRet.pure (.p _ (.bool _))
  · rw [decide_eq_false h0]
    refine SCmp.no (eqF h0) ?_
    first | exact SRet.pure (.tf _) | exact SRet.pure (.p _ (.bool _))

theorem pack_ok (neg : Bool) (q T : Nat) (mode flags : Int) (hq : q ≤ 9007199254740992) (hqT : 4503599627370496 ≤ q ∨ T = 0) (hT : T ≤ 1048576) :
    CallP Try.prog 93 [.bool neg, .int .u64 q, .int .i64 ((T : Int) - 1074), .int .i64 mode, .int .i64 flags]
      (fpair (if 9218868437227405312 ≤ q + T * 4503599627370496 then (sg neg (lim neg mode), 5) else (sg neg (q + T * 4503599627370496), flags))) [] := by
  refine callG_of_vc (wr := wr0) Γok mixed Try.func93 (by kernel_rfl) rfl (by kernel_rfl) (le_of_ble rfl) (by simp) ?_
  by_cases htop : q = 9007199254740992
  · subst htop
    refine SCmp.yes (rfl) ?_
    refine SNe.mk (by decide) ?_
    refine SWrap.u64z 4503599627370496 (by decide) (by decide) ?_
    refine SWrap.i64z (((T + 1 : Nat) : Int) - 1074) (by omega) (by omega) ?_
    have he : ∀ x, 4503599627370496 + (T + 1) * 4503599627370496 = x → 9007199254740992 + T * 4503599627370496 = x := fun x h => by omega
    by_cases hlo : 4503599627370496 < 4503599627370496
    · refine SCmp.yes (decide_eq_true (by omega)) ?_
      have hc : 4503599627370496 + (T + 1) * 4503599627370496 = 4503599627370496 := by omega
      rw [if_neg (by omega), he _ hc]
      refine SCall.pure (rsigned_ok (4503599627370496) (by omega) neg) ?_
      exact SRet.pure (.tup rfl fun i c d e1 e2 => by
        match i, e1, e2 with
        | 0, e1, e2 => cases e1; cases e2; exact .p _ (.int _ _)
        | 1, e1, e2 => cases e1; cases e2; exact .p _ (.int _ _))
    · refine SCmp.no (decide_eq_false (by omega)) ?_
      refine SWrap.i64z (((T + 1) : Int) - 1022) (by omega) (by omega) ?_
      by_cases hT : 2046 ≤ (T + 1)
      · refine SCmp.yes (decide_eq_true (by omega)) ?_
        rw [if_pos (by omega)]
        cases neg
        · by_cases h1 : mode = 1
          · rw [show lim false mode = 9218868437227405311 by rw [lim, if_pos (.inl h1)]]
            refine SCmp.yes (eqT h1) ?_
            refine SCall.pure (rsigned_ok 9218868437227405311 (by omega) _) ?_
            exact SRet.pure (.tup rfl fun i c d e1 e2 => by
              match i, e1, e2 with
              | 0, e1, e2 => cases e1; cases e2; exact .p _ (.int _ _)
              | 1, e1, e2 => cases e1; cases e2; exact .p _ (.int _ _))
          refine SCmp.no (eqF h1) ?_
          by_cases h2 : mode = 2
          · rw [show lim false mode = 9218868437227405311 by rw [lim, if_pos (.inr (.inl ⟨h2, rfl⟩))]]
            refine SCmp.yes (eqT h2) ?_
            refine SCmp.yes (rfl) ?_
            refine SCall.pure (rsigned_ok 9218868437227405311 (by omega) _) ?_
            exact SRet.pure (.tup rfl fun i c d e1 e2 => by
              match i, e1, e2 with
              | 0, e1, e2 => cases e1; cases e2; exact .p _ (.int _ _)
              | 1, e1, e2 => cases e1; cases e2; exact .p _ (.int _ _))
          refine SCmp.no (eqF h2) ?_
          rw [show lim false mode = 9218868437227405312 by rw [lim, if_neg (by simp [h1, h2])]]
          by_cases h3 : mode = 3
          · refine SCmp.yes (eqT h3) ?_
            refine SCond.mk (fun h => by cases h) (fun _ => ?_)
            refine SCall.pure (rsigned_ok 9218868437227405312 (by omega) _) ?_
            exact SRet.pure (.tup rfl fun i c d e1 e2 => by
              match i, e1, e2 with
              | 0, e1, e2 => cases e1; cases e2; exact .p _ (.int _ _)
              | 1, e1, e2 => cases e1; cases e2; exact .p _ (.int _ _))
          refine SCmp.no (eqF h3) ?_
          refine SCall.pure (rsigned_ok 9218868437227405312 (by omega) _) ?_
          exact SRet.pure (.tup rfl fun i c d e1 e2 => by
            match i, e1, e2 with
            | 0, e1, e2 => cases e1; cases e2; exact .p _ (.int _ _)
            | 1, e1, e2 => cases e1; cases e2; exact .p _ (.int _ _))
        · by_cases h1 : mode = 1
          · rw [show lim true mode = 9218868437227405311 by rw [lim, if_pos (.inl h1)]]
            refine SCmp.yes (eqT h1) ?_
            refine SCall.pure (rsigned_ok 9218868437227405311 (by omega) _) ?_
            exact SRet.pure (.tup rfl fun i c d e1 e2 => by
              match i, e1, e2 with
              | 0, e1, e2 => cases e1; cases e2; exact .p _ (.int _ _)
              | 1, e1, e2 => cases e1; cases e2; exact .p _ (.int _ _))
          refine SCmp.no (eqF h1) ?_
          by_cases h2 : mode = 2
          · rw [show lim true mode = 9218868437227405312 by rw [lim, if_neg (by simp [h2])]]
            refine SCmp.yes (eqT h2) ?_
            refine SCmp.no (rfl) ?_
            refine SCmp.no (eqF (by omega)) ?_
            refine SCall.pure (rsigned_ok 9218868437227405312 (by omega) _) ?_
            exact SRet.pure (.tup rfl fun i c d e1 e2 => by
              match i, e1, e2 with
              | 0, e1, e2 => cases e1; cases e2; exact .p _ (.int _ _)
              | 1, e1, e2 => cases e1; cases e2; exact .p _ (.int _ _))
          refine SCmp.no (eqF h2) ?_
          by_cases h3 : mode = 3
          · rw [show lim true mode = 9218868437227405311 by rw [lim, if_pos (.inr (.inr ⟨h3, rfl⟩))]]
            refine SCmp.yes (eqT h3) ?_
            refine SCond.mk (fun _ => ?_) (fun h => by cases h)
            refine SCall.pure (rsigned_ok 9218868437227405311 (by omega) _) ?_
            exact SRet.pure (.tup rfl fun i c d e1 e2 => by
              match i, e1, e2 with
              | 0, e1, e2 => cases e1; cases e2; exact .p _ (.int _ _)
              | 1, e1, e2 => cases e1; cases e2; exact .p _ (.int _ _))
          refine SCmp.no (eqF h3) ?_
          rw [show lim true mode = 9218868437227405312 by rw [lim, if_neg (by simp [h1, h2, h3])]]
          refine SCall.pure (rsigned_ok 9218868437227405312 (by omega) _) ?_
          exact SRet.pure (.tup rfl fun i c d e1 e2 => by
            match i, e1, e2 with
            | 0, e1, e2 => cases e1; cases e2; exact .p _ (.int _ _)
            | 1, e1, e2 => cases e1; cases e2; exact .p _ (.int _ _))
      · refine SCmp.no (decide_eq_false (by omega)) ?_
        rw [if_neg (by omega), he _ rfl]
        refine SWrap.i64z (((T + 1) : Int) - 1022) (by omega) (by omega) ?_
        refine SWrap.i64z (((T + 1) + 1 : Nat) : Int) (by omega) (by omega) ?_
        refine SWrap.u64z ((T + 1) + 1) rfl (by omega) ?_
        refine SGe.mk (by decide) ?_
        refine SWrap.u64z (((T + 1) + 1) * 4503599627370496) (by show (((T + 1) + 1 : Nat) : Int) * 4503599627370496 = _; omega) (by omega) ?_
        refine SWrap.and (4503599627370496) 4503599627370495 _ rfl rfl (by omega) (by omega) (low52 _) ?_
        refine SWrap.or _ _ (4503599627370496 + (T + 1) * 4503599627370496) rfl rfl (by omega) (by omega) ?_ ?_
        · rw [or_sum (k := 52) (a := (T + 1) + 1) (by show _ < 4503599627370496; omega) (by show _ = 4503599627370496 * _; omega)]
          omega
        refine SCall.pure (rsigned_ok (4503599627370496 + (T + 1) * 4503599627370496) (by omega) neg) ?_
        exact SRet.pure (.tup rfl fun i c d e1 e2 => by
          match i, e1, e2 with
          | 0, e1, e2 => cases e1; cases e2; exact .p _ (.int _ _)
          | 1, e1, e2 => cases e1; cases e2; exact .p _ (.int _ _))
  · refine SCmp.no (eqF (by omega)) ?_
    have he : ∀ x, q + T * 4503599627370496 = x → q + T * 4503599627370496 = x := fun x h => h
    by_cases hlo : q < 4503599627370496
    · refine SCmp.yes (decide_eq_true (by omega)) ?_
      have hc : q + T * 4503599627370496 = q := by omega
      rw [if_neg (by omega), he _ hc]
      refine SCall.pure (rsigned_ok (q) (by omega) neg) ?_
      exact SRet.pure (.tup rfl fun i c d e1 e2 => by
        match i, e1, e2 with
        | 0, e1, e2 => cases e1; cases e2; exact .p _ (.int _ _)
        | 1, e1, e2 => cases e1; cases e2; exact .p _ (.int _ _))
    · refine SCmp.no (decide_eq_false (by omega)) ?_
      refine SWrap.i64z ((T : Int) - 1022) (by omega) (by omega) ?_
      by_cases hT : 2046 ≤ T
      · refine SCmp.yes (decide_eq_true (by omega)) ?_
        rw [if_pos (by omega)]
        cases neg
        · by_cases h1 : mode = 1
          · rw [show lim false mode = 9218868437227405311 by rw [lim, if_pos (.inl h1)]]
            refine SCmp.yes (eqT h1) ?_
            refine SCall.pure (rsigned_ok 9218868437227405311 (by omega) _) ?_
            exact SRet.pure (.tup rfl fun i c d e1 e2 => by
              match i, e1, e2 with
              | 0, e1, e2 => cases e1; cases e2; exact .p _ (.int _ _)
              | 1, e1, e2 => cases e1; cases e2; exact .p _ (.int _ _))
          refine SCmp.no (eqF h1) ?_
          by_cases h2 : mode = 2
          · rw [show lim false mode = 9218868437227405311 by rw [lim, if_pos (.inr (.inl ⟨h2, rfl⟩))]]
            refine SCmp.yes (eqT h2) ?_
            refine SCmp.yes (rfl) ?_
            refine SCall.pure (rsigned_ok 9218868437227405311 (by omega) _) ?_
            exact SRet.pure (.tup rfl fun i c d e1 e2 => by
              match i, e1, e2 with
              | 0, e1, e2 => cases e1; cases e2; exact .p _ (.int _ _)
              | 1, e1, e2 => cases e1; cases e2; exact .p _ (.int _ _))
          refine SCmp.no (eqF h2) ?_
          rw [show lim false mode = 9218868437227405312 by rw [lim, if_neg (by simp [h1, h2])]]
          by_cases h3 : mode = 3
          · refine SCmp.yes (eqT h3) ?_
            refine SCond.mk (fun h => by cases h) (fun _ => ?_)
            refine SCall.pure (rsigned_ok 9218868437227405312 (by omega) _) ?_
            exact SRet.pure (.tup rfl fun i c d e1 e2 => by
              match i, e1, e2 with
              | 0, e1, e2 => cases e1; cases e2; exact .p _ (.int _ _)
              | 1, e1, e2 => cases e1; cases e2; exact .p _ (.int _ _))
          refine SCmp.no (eqF h3) ?_
          refine SCall.pure (rsigned_ok 9218868437227405312 (by omega) _) ?_
          exact SRet.pure (.tup rfl fun i c d e1 e2 => by
            match i, e1, e2 with
            | 0, e1, e2 => cases e1; cases e2; exact .p _ (.int _ _)
            | 1, e1, e2 => cases e1; cases e2; exact .p _ (.int _ _))
        · by_cases h1 : mode = 1
          · rw [show lim true mode = 9218868437227405311 by rw [lim, if_pos (.inl h1)]]
            refine SCmp.yes (eqT h1) ?_
            refine SCall.pure (rsigned_ok 9218868437227405311 (by omega) _) ?_
            exact SRet.pure (.tup rfl fun i c d e1 e2 => by
              match i, e1, e2 with
              | 0, e1, e2 => cases e1; cases e2; exact .p _ (.int _ _)
              | 1, e1, e2 => cases e1; cases e2; exact .p _ (.int _ _))
          refine SCmp.no (eqF h1) ?_
          by_cases h2 : mode = 2
          · rw [show lim true mode = 9218868437227405312 by rw [lim, if_neg (by simp [h2])]]
            refine SCmp.yes (eqT h2) ?_
            refine SCmp.no (rfl) ?_
            refine SCmp.no (eqF (by omega)) ?_
            refine SCall.pure (rsigned_ok 9218868437227405312 (by omega) _) ?_
            exact SRet.pure (.tup rfl fun i c d e1 e2 => by
              match i, e1, e2 with
              | 0, e1, e2 => cases e1; cases e2; exact .p _ (.int _ _)
              | 1, e1, e2 => cases e1; cases e2; exact .p _ (.int _ _))
          refine SCmp.no (eqF h2) ?_
          by_cases h3 : mode = 3
          · rw [show lim true mode = 9218868437227405311 by rw [lim, if_pos (.inr (.inr ⟨h3, rfl⟩))]]
            refine SCmp.yes (eqT h3) ?_
            refine SCond.mk (fun _ => ?_) (fun h => by cases h)
            refine SCall.pure (rsigned_ok 9218868437227405311 (by omega) _) ?_
            exact SRet.pure (.tup rfl fun i c d e1 e2 => by
              match i, e1, e2 with
              | 0, e1, e2 => cases e1; cases e2; exact .p _ (.int _ _)
              | 1, e1, e2 => cases e1; cases e2; exact .p _ (.int _ _))
          refine SCmp.no (eqF h3) ?_
          rw [show lim true mode = 9218868437227405312 by rw [lim, if_neg (by simp [h1, h2, h3])]]
          refine SCall.pure (rsigned_ok 9218868437227405312 (by omega) _) ?_
          exact SRet.pure (.tup rfl fun i c d e1 e2 => by
            match i, e1, e2 with
            | 0, e1, e2 => cases e1; cases e2; exact .p _ (.int _ _)
            | 1, e1, e2 => cases e1; cases e2; exact .p _ (.int _ _))
      · refine SCmp.no (decide_eq_false (by omega)) ?_
        rw [if_neg (by omega), he _ rfl]
        refine SWrap.i64z ((T : Int) - 1022) (by omega) (by omega) ?_
        refine SWrap.i64z ((T + 1 : Nat) : Int) (by omega) (by omega) ?_
        refine SWrap.u64z (T + 1) rfl (by omega) ?_
        refine SGe.mk (by decide) ?_
        refine SWrap.u64z ((T + 1) * 4503599627370496) (by show ((T + 1 : Nat) : Int) * 4503599627370496 = _; omega) (by omega) ?_
        refine SWrap.and (q) 4503599627370495 _ rfl rfl (by omega) (by omega) (low52 _) ?_
        refine SWrap.or _ _ (q + T * 4503599627370496) rfl rfl (by omega) (by omega) ?_ ?_
        · rw [or_sum (k := 52) (a := T + 1) (by show _ < 4503599627370496; omega) (by show _ = 4503599627370496 * _; omega)]
          omega
        refine SCall.pure (rsigned_ok (q + T * 4503599627370496) (by omega) neg) ?_
        exact SRet.pure (.tup rfl fun i c d e1 e2 => by
          match i, e1, e2 with
          | 0, e1, e2 => cases e1; cases e2; exact .p _ (.int _ _)
          | 1, e1, e2 => cases e1; cases e2; exact .p _ (.int _ _))
end Go.Proofs.Ytjcmiedpgabdbaa
