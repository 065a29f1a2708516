/- The document's floats: kinds, signs, parts, shifts. -/
import Derived.Test.YtjcmiedpgabdbaaSf5
namespace Go.Proofs.Ytjcmiedpgabdbaa
open Go
set_option linter.unusedVariables false
set_option linter.unusedSimpArgs false
set_option maxRecDepth 10000

theorem rnone_ok (f : Nat) (hf : f < 18446744073709551616) (b : Bool) (hb : isNan f = b) : CallP Try.prog 77 [.int .u64 f] (.p (.bool b)) [] := by
  refine callG_of_vc (wr := wr0) Γok mixed Try.func77 (by kernel_rfl) rfl (by kernel_rfl) (le_of_ble rfl) (by simp) ?_
  refine SWrap.nosign f rfl rfl hf ?_
  unfold isNan at hb
  cases b with
  | true => refine SCmp.yes (decide_eq_true (by have := of_decide_eq_true hb; omega)) ?_; exact SRet.pure (.tf _)
  | false => refine SCmp.no (decide_eq_false (by have := of_decide_eq_false hb; omega)) ?_; exact SRet.pure (.tf _)
theorem rendless_ok (f : Nat) (hf : f < 18446744073709551616) (b : Bool) (hb : isInf f = b) : CallP Try.prog 78 [.int .u64 f] (.p (.bool b)) [] := by
  refine callG_of_vc (wr := wr0) Γok mixed Try.func78 (by kernel_rfl) rfl (by kernel_rfl) (le_of_ble rfl) (by simp) ?_
  refine SWrap.nosign f rfl rfl hf ?_
  unfold isInf at hb
  cases b with
  | true => refine SCmp.yes (eqT (by have := of_decide_eq_true hb; omega)) ?_; exact SRet.pure (.tf _)
  | false => refine SCmp.no (eqF (by have := of_decide_eq_false hb; omega)) ?_; exact SRet.pure (.tf _)
theorem rnought3_ok (f : Nat) (hf : f < 18446744073709551616) (b : Bool) (hb : isZ f = b) : CallP Try.prog 82 [.int .u64 f] (.p (.bool b)) [] := by
  refine callG_of_vc (wr := wr0) Γok mixed Try.func82 (by kernel_rfl) rfl (by kernel_rfl) (le_of_ble rfl) (by simp) ?_
  refine SWrap.nosign f rfl rfl hf ?_
  unfold isZ at hb
  cases b with
  | true => refine SCmp.yes (eqT (by have := of_decide_eq_true hb; omega)) ?_; exact SRet.pure (.tf _)
  | false => refine SCmp.no (eqF (by have := of_decide_eq_false hb; omega)) ?_; exact SRet.pure (.tf _)
theorem rminus_ok (f : Nat) (hf : f < 18446744073709551616) (b : Bool) (hb : ngt f = b) : CallP Try.prog 81 [.int .u64 f] (.p (.bool b)) [] := by
  refine callG_of_vc (wr := wr0) Γok mixed Try.func81 (by kernel_rfl) rfl (by kernel_rfl) (le_of_ble rfl) (by simp) ?_
  refine SWrap.sign f rfl rfl hf ?_
  unfold ngt at hb
  cases b with
  | true => refine SCmp.yes (neT (by have := of_decide_eq_true hb; rw [if_pos this]; decide)) ?_; exact SRet.pure (.tf _)
  | false => refine SCmp.no (neF (by have := of_decide_eq_false hb; rw [if_neg this]; rfl)) ?_; exact SRet.pure (.tf _)
theorem rsigned_ok (c : Nat) (hc : c < 9223372036854775808) (neg : Bool) : CallP Try.prog 83 [.bool neg, .int .u64 c] (.p (.int .u64 (sg neg c))) [] := by
  refine callG_of_vc (wr := wr0) Γok mixed Try.func83 (by kernel_rfl) rfl (by kernel_rfl) (le_of_ble rfl) (by simp) ?_
  cases neg with
  | true =>
    refine SCond.mk (fun _ => ?_) (fun h => by cases h)
    refine SWrap.or c 9223372036854775808 _ rfl rfl (by omega) (by omega) (or_sign hc) ?_
    exact SRet.pure (.p _ (.int _ _))
  | false =>
    refine SCond.mk (fun h => by cases h) (fun _ => ?_)
    exact SRet.pure (.p _ (.int _ _))

theorem rparts_ok (f : Nat) (hf : f < 18446744073709551616) : CallP Try.prog 79 [.int .u64 f] (.tup [.p (.int .u64 (fsig (mag f))), .p (.int .i64 (fexp (mag f)))]) [] := by
  refine callG_of_vc (wr := wr0) Γok mixed Try.func79 (by kernel_rfl) rfl (by kernel_rfl) (le_of_ble rfl) (by simp) ?_
  refine SWrap.nosign f rfl rfl hf ?_
  refine SShr52 ?_
  refine SWrap.i64z ((f % 9223372036854775808 / 4503599627370496 : Nat) : Int) rfl (by omega) ?_
  refine SWrap.and f 4503599627370495 _ rfl rfl hf (by omega) (low52 f) ?_
  by_cases h : mag f < 4503599627370496
  · refine SCmp.yes (eqT (by rw [mag] at h; omega)) ?_
    rw [show f % 4503599627370496 = fsig (mag f) by rw [fsig, if_pos h, mag]; rw [mag] at h; omega, show (-1074 : Int) = fexp (mag f) by rw [fexp, if_pos h]]
    exact SRet.pure (.tup rfl fun i c d e1 e2 => by
      match i, e1, e2 with
      | 0, e1, e2 => cases e1; cases e2; exact .p _ (.int _ _)
      | 1, e1, e2 => cases e1; cases e2; exact .p _ (.int _ _))
  · refine SCmp.no (eqF (by rw [mag] at h; omega)) ?_
    refine SWrap.or (f % 4503599627370496) 4503599627370496 _ rfl rfl (by omega) (by omega) (or_unit (by omega)) ?_
    refine SWrap.i64z (((f % 9223372036854775808 / 4503599627370496 : Nat) : Int) - 1023) rfl (by omega) ?_
    refine SWrap.i64z (fexp (mag f)) (by rw [fexp, if_neg h, mag]; omega) (by rw [fexp, if_neg h, mag]; omega) ?_
    rw [show f % 4503599627370496 + 4503599627370496 = fsig (mag f) by rw [fsig, if_neg h, mag]; omega]
    exact SRet.pure (.tup rfl fun i c d e1 e2 => by
      match i, e1, e2 with
      | 0, e1, e2 => cases e1; cases e2; exact .p _ (.int _ _)
      | 1, e1, e2 => cases e1; cases e2; exact .p _ (.int _ _))

/-- Shifts: a number times a power of two, or another one. -/
theorem rshift_ok (n d : Nat) (k : Int) (hn : bitLen n ≤ 262144) (hd : bitLen d ≤ 262144) (hk : -262144 ≤ k ∧ k ≤ 262144) :
    CallP Try.prog 80 [natP n, natP d, .int .i64 k] (.tup [.p (natP (n * 2 ^ k.toNat)), .p (natP (d * 2 ^ (-k).toNat))]) [] := by
  refine callG_of_vc (wr := wr0) Γok mixed Try.func80 (by kernel_rfl) rfl (by kernel_rfl) (le_of_ble rfl) (by simp) ?_
  refine SLoop.mk (Nat × Int) (fun (a, j) => ([(0, .p (natP a)), (1, .p (natP d)), (2, .p (.int .i64 j))], [])) (fun (a, j) => (j = k ∧ k ≤ 0 ∧ a = n) ∨ (0 ≤ j ∧ j ≤ k ∧ a * 2 ^ j.toNat = n * 2 ^ k.toNat ∧ bitLen a ≤ 524288)) (fun x => x.2.toNat) (n, k) []
    ?_ ⟨rfl, .nil, rfl, rfl, rfl, ⟨rfl, rfl, rfl, trivial⟩, trivial⟩ ?_
  · rcases Int.lt_or_le k 0 with h | h
    · exact .inl ⟨rfl, by omega, rfl⟩
    · exact .inr ⟨h, by omega, rfl, by omega⟩
  intro ⟨a, j⟩ hφ
  have hφ : (j = k ∧ k ≤ 0 ∧ a = n) ∨ (0 ≤ j ∧ j ≤ k ∧ a * 2 ^ j.toNat = n * 2 ^ k.toNat ∧ bitLen a ≤ 524288) := hφ
  by_cases hj : 0 < j
  · refine SCmp.yes (decide_eq_true (by omega)) ?_
    obtain ⟨_, h2, h3, h4⟩ : 0 ≤ j ∧ j ≤ k ∧ a * 2 ^ j.toNat = n * 2 ^ k.toNat ∧ bitLen a ≤ 524288 := by
      rcases hφ with h | h
      · omega
      · exact h
    obtain ⟨s, hs⟩ : ∃ s : Nat, s = (min j 9000).toNat := ⟨_, rfl⟩
    refine SZ.mk (s : Int) ((min_ite _ _).trans (by omega)) ?_
    have hna := nlen_bitLen a
    refine SCall.pure (rshl_ok false a s (by omega) (by omega)) ?_
    refine SWrap.i64z (j - s) rfl (by omega) ?_
    have e1 : a * 2 ^ s * 2 ^ (j - s).toNat = n * 2 ^ k.toNat := by
      rw [← h3, Nat.mul_assoc, ← Nat.pow_add, show s + (j - s).toNat = j.toNat by omega]
    refine ⟨(a * 2 ^ s, j - s), [], .inr ⟨by omega, by omega, e1, ?_⟩, by show (j - s).toNat < j.toNat; omega, ⟨rfl, .nil, rfl, rfl, rfl, ⟨rfl, rfl, rfl, trivial⟩, trivial⟩⟩
    have h5 : a * 2 ^ s ≤ n * 2 ^ k.toNat := by rw [← e1]; exact Nat.le_mul_of_pos_right _ (Nat.two_pow_pos _)
    have h6 := bitLen_mono h5
    have h7 := bits_shl n k.toNat
    omega
  · refine SCmp.no (decide_eq_false (by omega)) ?_
    obtain ⟨ha, hjk⟩ : a = n * 2 ^ k.toNat ∧ (j = k ∧ k ≤ 0 ∨ j = 0 ∧ 0 ≤ k) := by
      rcases hφ with ⟨h1, h2, h3⟩ | ⟨h1, h2, h3, h4⟩
      · rw [h3, show k.toNat = 0 by omega]; exact ⟨by simp, .inl ⟨h1, h2⟩⟩
      · have : j = 0 := by omega
        subst this
        exact ⟨by simpa using h3, .inr ⟨rfl, h2⟩⟩
    subst ha
    refine SLoop.mk (Nat × Int) (fun (b, i) => ([(0, .p (natP (n * 2 ^ k.toNat))), (1, .p (natP b)), (2, .p (.int .i64 i))], [])) (fun (b, i) => i ≤ 0 ∧ -(-k).toNat ≤ i ∧ b * 2 ^ (-i).toNat = d * 2 ^ (-k).toNat ∧ bitLen b ≤ 524288) (fun x => (-x.2).toNat) (d, j) []
      ⟨by omega, by omega, ?_, by omega⟩ ⟨rfl, .nil, rfl, rfl, rfl, ⟨rfl, rfl, rfl, trivial⟩, trivial⟩ ?_
    · rcases hjk with ⟨h1, h2⟩ | ⟨h1, h2⟩
      · subst h1; rfl
      · subst h1; rw [show (-k).toNat = 0 by omega]; rfl
    intro ⟨b, i⟩ ⟨h1, h0, h2, h3⟩
    have h1 : i ≤ 0 := h1
    have h0 : -(-k).toNat ≤ i := h0
    have h2 : b * 2 ^ (-i).toNat = d * 2 ^ (-k).toNat := h2
    have h3 : bitLen b ≤ 524288 := h3
    by_cases hi : i < 0
    · refine SCmp.yes (decide_eq_true (by omega)) ?_
      refine SWrap.i64z (0 - i) rfl (by omega) ?_
      obtain ⟨s, hs⟩ : ∃ s : Nat, s = (min (0 - i) 9000).toNat := ⟨_, rfl⟩
      refine SZ.mk (s : Int) ((min_ite _ _).trans (by omega)) ?_
      have hnb := nlen_bitLen b
      refine SCall.pure (rshl_ok false b s (by omega) (by omega)) ?_
      refine SWrap.i64z (i + s) rfl (by omega) ?_
      have e1 : b * 2 ^ s * 2 ^ (-(i + s)).toNat = d * 2 ^ (-k).toNat := by
        rw [← h2, Nat.mul_assoc, ← Nat.pow_add, show s + (-(i + s)).toNat = (-i).toNat by omega]
      refine ⟨(b * 2 ^ s, i + s), [], ⟨by omega, by omega, e1, ?_⟩, by show (-(i + s)).toNat < (-i).toNat; omega, ⟨rfl, .nil, rfl, rfl, rfl, ⟨rfl, rfl, rfl, trivial⟩, trivial⟩⟩
      have h5 : b * 2 ^ s ≤ d * 2 ^ (-k).toNat := by rw [← e1]; exact Nat.le_mul_of_pos_right _ (Nat.two_pow_pos _)
      have h6 := bitLen_mono h5
      have h7 := bits_shl d (-k).toNat
      omega
    · refine SCmp.no (decide_eq_false (by omega)) ?_
      have : i = 0 := by omega
      subst this
      rw [show b = d * 2 ^ (-k).toNat by simpa using h2]
      exact SRet.pure (.tup rfl fun i c d e1 e2 => by
        match i, e1, e2 with
        | 0, e1, e2 => cases e1; cases e2; exact .p _ (.sl _ _ (pers_limbs _))
        | 1, e1, e2 => cases e1; cases e2; exact .p _ (.sl _ _ (pers_limbs _)))
end Go.Proofs.Ytjcmiedpgabdbaa
