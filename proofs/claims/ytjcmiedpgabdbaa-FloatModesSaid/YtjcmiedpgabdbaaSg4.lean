/- Floats: Sqrt, Fma. -/
import Derived.Test.YtjcmiedpgabdbaaSg3
namespace Go.Proofs.Ytjcmiedpgabdbaa
open Go
set_option linter.unusedVariables false
set_option linter.unusedSimpArgs false
set_option maxRecDepth 10000

theorem and1_i64 (z : Int) : ((BitVec.ofInt (IntKind.bits .i64) z &&& BitVec.ofInt (IntKind.bits .i64) 1).toNat : Int) = z % 2 := by
  have e : (BitVec.ofInt 64 z &&& BitVec.ofInt 64 1).toNat = (z % 2).toNat := by
    rw [BitVec.toNat_and, BitVec.toNat_ofInt, show (BitVec.ofInt 64 1).toNat = 1 by decide, low1]
    show (z % (18446744073709551616 : Int)).toNat % 2 = (z % 2).toNat
    omega
  show ((BitVec.ofInt 64 z &&& BitVec.ofInt 64 1).toNat : Int) = z % 2
  rw [e]; omega
theorem p2_natmul_k (m k : Nat) (e : Int) : (m : Rat) * p2 e = ((m * 2 ^ k : Nat) : Rat) * p2 (e - k) := by
  have := p2_natmul m (e := e) (f := e - k) (by omega)
  rwa [show (e - (e - (k : Int))).toNat = k by omega] at this
theorem tdiv2 (e : Int) : (e + e).tdiv 2 = e := by
  rw [show e + e = 2 * e by omega]; exact Int.mul_tdiv_cancel_left e (by decide)

theorem sqrt_walk {A r k : Nat} {e' : Int} (f : Nat) (hf : f < 9218868437227405312) (hm : fsig (mag f) ≠ 0) (hk : 132 ≤ k ∧ k ≤ 133) (he : fexp (mag f) - k = e' + e') (hA : A = fsig (mag f) * 2 ^ k) (hr : IsSq A r) (mode : Int) :
    CallP Try.prog 76 [numP false r e' (decide (r * r ≠ A)), .int .i64 mode] (fpair (sqrtQ ((A : Rat) * p2 (e' + e')) mode)) [] ∧ A ≠ 0 ∧ bitLen A ≤ 200 := by
  have hp66 : (0 : Nat) < 2 ^ 66 := by decide
  have hp132 : (0 : Nat) < 2 ^ 132 := by decide
  have hA1 : 2 ^ 132 ≤ A := by
    rw [hA]
    have h1 : 2 ^ 132 ≤ 2 ^ k := Nat.pow_le_pow_right (by omega) hk.1
    have h2 : 1 * 2 ^ k ≤ fsig (mag f) * 2 ^ k := Nat.mul_le_mul_right _ (by omega)
    omega
  have hA2 : bitLen A ≤ 200 := by rw [hA]; have := bits_shl (fsig (mag f)) k; have := fsig_bits (mag f); omega
  have hr1 : 2 ^ 66 ≤ r := hr.le.1 (by rw [show 2 ^ 66 * 2 ^ 66 = 2 ^ 132 by decide]; exact hA1)
  have hbr : 54 ≤ bitLen r := by
    rcases Nat.lt_or_ge (bitLen r) 54 with h | h
    · have h1 := bitLen_lt r
      have h2 : 2 ^ bitLen r ≤ 2 ^ 66 := Nat.pow_le_pow_right (by omega) (by omega)
      omega
    · exact h
  have hr2 : bitLen r ≤ 200 := by
    have h1 : r ≤ A := by
      have := hr.1
      have h2 : r * 1 ≤ r * r := Nat.mul_le_mul_left _ (by omega)
      omega
    have := bitLen_mono h1
    omega
  have e1 := fexp_le (mag_lt f)
  have e2 := fexp_ge (mag f)
  refine ⟨?_, by omega, hA2⟩
  have hg := p2_pos e'
  have hth : 0 ≤ theta A r ∧ theta A r < 1 := by unfold theta; split <;> constructor <;> grind
  have := round_ok false r e' (decide (r * r ≠ A)) mode (X := ((r : Rat) + theta A r) * p2 e') (by omega) (by omega) (by omega)
    (mul_le_q (by grind) hg) (mul_lt_q (by grind) hg) (by
      unfold theta
      by_cases h : r * r = A
      · rw [if_pos h, decide_eq_false (fun h2 => h2 h), decide_eq_false (by simp; grind)]
      · rw [if_neg h, decide_eq_true h]
        symm
        refine decide_eq_true ?_
        grind) (fun _ => hbr)
  rw [sq_cut hr hbr mode] at this
  exact this

theorem sfsqrt_ok (f : Nat) (mode : Int) (hf : f < 18446744073709551616) : CallP Try.prog 54 [.int .u64 f, .int .i64 mode] (fpair (sqrtF f mode)) [] := by
  refine callG_of_vc (wr := wr0) Γok mixed Try.func54 (by kernel_rfl) rfl (by kernel_rfl) (le_of_ble rfl) (by simp) ?_
  unfold sqrtF
  cases hn : isNan f with
  | true =>
    refine SCall.pure (nan_ok f hf _ hn) ?_
    refine SCond.mk (fun _ => ?_) (fun h => by cases h)
    rw [if_pos rfl]
    exact SRet.pure (.tup rfl fun i c d e1 e2 => by
      match i, e1, e2 with
      | 0, e1, e2 => cases e1; cases e2; exact .p _ (.int _ _)
      | 1, e1, e2 => cases e1; cases e2; exact .p _ (.int _ _))
  | false =>
    refine SCall.pure (nan_ok f hf _ hn) ?_
    refine SCond.mk (fun h => by cases h) (fun _ => ?_)
    rw [if_neg Bool.false_ne_true]
    cases hz : isZ f with
    | true =>
      refine SCall.pure (nought_ok f hf _ hz) ?_
      refine SCond.mk (fun _ => ?_) (fun h => by cases h)
      rw [if_pos rfl]
      exact SRet.pure (.tup rfl fun i c d e1 e2 => by
        match i, e1, e2 with
        | 0, e1, e2 => cases e1; cases e2; exact .p _ (.int _ _)
        | 1, e1, e2 => cases e1; cases e2; exact .p _ (.int _ _))
    | false =>
      refine SCall.pure (nought_ok f hf _ hz) ?_
      refine SCond.mk (fun h => by cases h) (fun _ => ?_)
      rw [if_neg Bool.false_ne_true]
      cases hs : ngt f with
      | true =>
        refine SCall.pure (below_ok f hf _ hs) ?_
        refine SCond.mk (fun _ => ?_) (fun h => by cases h)
        rw [if_pos rfl]
        refine SCall.pureT (wrong_ok) (fun _ => rfl) ?_
        exact SRet.pure (.tup rfl fun i c d e1 e2 => by
          match i, e1, e2 with
          | 0, e1, e2 => cases e1; cases e2; exact .p _ (.int _ _)
          | 1, e1, e2 => cases e1; cases e2; exact .p _ (.int _ _))
      | false =>
        refine SCall.pure (below_ok f hf _ hs) ?_
        refine SCond.mk (fun h => by cases h) (fun _ => ?_)
        rw [if_neg Bool.false_ne_true]
        cases hi : isInf f with
        | true =>
          refine SCall.pure (infinite_ok f hf _ hi) ?_
          refine SCond.mk (fun _ => ?_) (fun h => by cases h)
          rw [if_pos rfl]
          exact SRet.pure (.tup rfl fun i c d e1 e2 => by
            match i, e1, e2 with
            | 0, e1, e2 => cases e1; cases e2; exact .p _ (.int _ _)
            | 1, e1, e2 => cases e1; cases e2; exact .p _ (.int _ _))
        | false =>
          refine SCall.pure (infinite_ok f hf _ hi) ?_
          refine SCond.mk (fun h => by cases h) (fun _ => ?_)
          rw [if_neg Bool.false_ne_true]
          have hf2 : f < 9218868437227405312 := by
            have h1 := of_decide_eq_false hn
            have h2 := of_decide_eq_false hi
            have h3 := ngt_false hs
            omega
          have hm : fsig (mag f) ≠ 0 := fun h => by have := isZ_iff.2 (fsig_zero.1 h); rw [this] at hz; cases hz
          have e1 := fexp_le (mag_lt f)
          have e2 := fexp_ge (mag f)
          have e3 := fsig_bits (mag f)
          have n3 := nlen_bitLen (fsig (mag f))
          have hval : ∀ (k : Nat) (e' : Int), fexp (mag f) - k = e' + e' → fvq f = ((fsig (mag f) * 2 ^ k : Nat) : Rat) * p2 (e' + e') := fun k e' h => by
            rw [fvq_sval, hs, sval, if_neg Bool.false_ne_true, p2_natmul_k _ k, h]
          have num := ofnum_ok f hf
          rw [hs] at num
          refine SCall.pure (num) ?_
          refine SWrap.i64z (fexp (mag f) - 132) rfl (by omega) ?_
          refine SWrap.i64z ((fexp (mag f) - 132) % 2) (and1_i64 _) (by omega) ?_
          by_cases hpar : (fexp (mag f) - 132) % 2 = 0
          · refine SCmp.no (neF hpar) ?_
            obtain ⟨e', he'⟩ : ∃ e' : Int, fexp (mag f) - 132 = e' + e' := ⟨(fexp (mag f) - 132) / 2, by omega⟩
            obtain ⟨r, hr⟩ := exists_sq (fsig (mag f) * 2 ^ 132)
            obtain ⟨w1, w2, w3⟩ := sqrt_walk (k := 132) f hf2 hm (by omega) he' rfl hr mode
            rw [hval 132 e' he']
            refine SCall.pure (fshl_ok false (fsig (mag f)) 132 (by omega) (by omega)) ?_
            refine SCall.pureT (root_ok false (fsig (mag f) * 2 ^ 132) r w2 (by omega) hr) (fun _ => rfl) ?_
            refine SWrap.i64z (e' + e') he' (by omega) ?_
            refine SNe.mk (by decide) ?_
            refine SWrap.i64z e' (tdiv2 e') (by omega) ?_
            refine SCall.pureT (w1) (fun _ => rfl) ?_
            exact SRet.pure (.tup rfl fun i c d e1 e2 => by
              match i, e1, e2 with
              | 0, e1, e2 => cases e1; cases e2; exact .p _ (.int _ _)
              | 1, e1, e2 => cases e1; cases e2; exact .p _ (.int _ _))
          · refine SCmp.yes (neT hpar) ?_
            refine SWrap.i64z 133 (by decide) (by decide) ?_
            obtain ⟨e', he'⟩ : ∃ e' : Int, fexp (mag f) - 133 = e' + e' := ⟨(fexp (mag f) - 133) / 2, by omega⟩
            obtain ⟨r, hr⟩ := exists_sq (fsig (mag f) * 2 ^ 133)
            obtain ⟨w1, w2, w3⟩ := sqrt_walk (k := 133) f hf2 hm (by omega) he' rfl hr mode
            rw [hval 133 e' he']
            refine SCall.pure (fshl_ok false (fsig (mag f)) 133 (by omega) (by omega)) ?_
            refine SCall.pureT (root_ok false (fsig (mag f) * 2 ^ 133) r w2 (by omega) hr) (fun _ => rfl) ?_
            refine SWrap.i64z (e' + e') he' (by omega) ?_
            refine SNe.mk (by decide) ?_
            refine SWrap.i64z e' (tdiv2 e') (by omega) ?_
            refine SCall.pureT (w1) (fun _ => rfl) ?_
            exact SRet.pure (.tup rfl fun i c d e1 e2 => by
              match i, e1, e2 with
              | 0, e1, e2 => cases e1; cases e2; exact .p _ (.int _ _)
              | 1, e1, e2 => cases e1; cases e2; exact .p _ (.int _ _))

/-- A product and something more. -/
noncomputable def fmaF (a b c : Nat) (mode : Int) : Nat × Int :=
  if isNan a || (isNan b || isNan c) then (9221120237041090560, 0) else if (isInf a || isInf b) && (isZ a || isZ b) then (9221120237041090560, 16)
  else if isInf a || isInf b then (if isInf c && ((ngt a != ngt b) != ngt c) then (9221120237041090560, 16) else (sg (ngt a != ngt b) 9218868437227405312, 0))
  else if isInf c then (c, 0) else sumF (fvq a * fvq b) (ngt a != ngt b) (fvq c) (ngt c) mode
theorem and_ok (na nb : Bool) (ma mb : Nat) (ea eb mode : Int) (ha : bitLen ma ≤ 8192) (hb : bitLen mb ≤ 8192) (hea : -8192 ≤ ea ∧ ea ≤ 8192) (heb : -8192 ≤ eb ∧ eb ≤ 8192) :
    CallP Try.prog 104 [numP na ma ea false, numP nb mb eb false, .int .i64 mode] (fpair (sumF (sval na ((ma : Rat) * p2 ea)) na (sval nb ((mb : Rat) * p2 eb)) nb mode)) [] := by
  refine callG_of_vc (wr := wr0) Γok mixed Try.func104 (by kernel_rfl) rfl (by kernel_rfl) (le_of_ble rfl) (by simp) ?_
  refine SCall.pureT (added_ok na nb ma mb ea eb mode ha hb hea heb) (fun _ => rfl) ?_
  exact SRet.pure (.tup rfl fun i c d e1 e2 => by
    match i, e1, e2 with
    | 0, e1, e2 => cases e1; cases e2; exact .p _ (.int _ _)
    | 1, e1, e2 => cases e1; cases e2; exact .p _ (.int _ _))
theorem nans3 {a b c : Nat} (ha : a < 18446744073709551616) (hb : b < 18446744073709551616) (hc : c < 18446744073709551616) (r : Bool) (hr : (isNan a || (isNan b || isNan c)) = r) : CallP Try.prog 96 [.fn 84 [], .sl true 1 [.int .u64 a, .int .u64 b, .int .u64 c]] (.p (.bool r)) [] :=
  some3_ok _ isNan (fun (x : Nat) hx => nan_ok x hx _ rfl) ha hb hc r hr
theorem sffma_ok (a b c : Nat) (mode : Int) (ha : a < 18446744073709551616) (hb : b < 18446744073709551616) (hc : c < 18446744073709551616) :
    CallP Try.prog 48 [.int .u64 a, .int .u64 b, .int .u64 c, .int .i64 mode] (fpair (fmaF a b c mode)) [] := by
  refine callG_of_vc (wr := wr0) Γok mixed Try.func48 (by kernel_rfl) rfl (by kernel_rfl) (le_of_ble rfl) (by simp) ?_
  unfold fmaF
  refine SCall.pure (below_ok a ha _ rfl) ?_
  refine SCall.pure (below_ok b hb _ rfl) ?_
  refine SCmp.sym ?_
  have hsg : ∀ c : Nat, c < 9223372036854775808 → CallP Try.prog 86 [.int .u64 c, .bool (!(ngt a == ngt b))] (.p (.int .u64 (sg (ngt a != ngt b) c))) [] := fun c hc => signed_ok c hc _
  refine SView.all rfl ?_
  cases hn : (isNan a || (isNan b || isNan c)) with
  | true =>
    refine SCall.pure (nans3 ha hb hc _ hn) ?_
    refine SCond.mk (fun _ => ?_) (fun h => by cases h)
    exact SRet.pure (.tup rfl fun i c d e1 e2 => by
      match i, e1, e2 with
      | 0, e1, e2 => cases e1; cases e2; exact .p _ (.int _ _)
      | 1, e1, e2 => cases e1; cases e2; exact .p _ (.int _ _))
  | false =>
    refine SCall.pure (nans3 ha hb hc _ hn) ?_
    refine SCond.mk (fun h => by cases h) (fun _ => ?_)
    rw [if_neg Bool.false_ne_true]
    refine SView.all rfl ?_
    cases hi : (isInf a || isInf b) with
    | true =>
      refine SCall.pure (infs2 ha hb _ hi) ?_
      refine SCond.mk (fun _ => ?_) (fun h => by cases h)
      refine SView.all rfl ?_
      cases hz : (isZ a || isZ b) with
      | true =>
        refine SCall.pure (zs2 ha hb _ hz) ?_
        refine SCond.mk (fun _ => ?_) (fun h => by cases h)
        rw [if_pos (by simp)]
        refine SCall.pureT (wrong_ok) (fun _ => rfl) ?_
        exact SRet.pure (.tup rfl fun i c d e1 e2 => by
          match i, e1, e2 with
          | 0, e1, e2 => cases e1; cases e2; exact .p _ (.int _ _)
          | 1, e1, e2 => cases e1; cases e2; exact .p _ (.int _ _))
      | false =>
        refine SCall.pure (zs2 ha hb _ hz) ?_
        refine SCond.mk (fun h => by cases h) (fun _ => ?_)
        rw [if_neg (by simp), if_pos rfl]
        refine SView.all rfl ?_
        refine SCall.pure (infs2 ha hb _ hi) ?_
        refine SCond.mk (fun _ => ?_) (fun h => by cases h)
        cases hic : isInf c with
        | true =>
          refine SCall.pure (infinite_ok c hc _ hic) ?_
          refine SCond.mk (fun _ => ?_) (fun h => by cases h)
          refine SCall.pure (below_ok c hc _ rfl) ?_
          cases hs : ((ngt a != ngt b) != ngt c) with
          | true =>
            refine SCmp.yes (hs) ?_
            rw [if_pos (by simp)]
            refine SCall.pureT (wrong_ok) (fun _ => rfl) ?_
            exact SRet.pure (.tup rfl fun i c d e1 e2 => by
              match i, e1, e2 with
              | 0, e1, e2 => cases e1; cases e2; exact .p _ (.int _ _)
              | 1, e1, e2 => cases e1; cases e2; exact .p _ (.int _ _))
          | false =>
            refine SCmp.no (hs) ?_
            rw [if_neg (by simp)]
            refine SView.all rfl ?_
            refine SCall.pure (infs2 ha hb _ hi) ?_
            refine SCond.mk (fun _ => ?_) (fun h => by cases h)
            refine SCall.pure (hsg 9218868437227405312 (by omega)) ?_
            exact SRet.pure (.tup rfl fun i c d e1 e2 => by
              match i, e1, e2 with
              | 0, e1, e2 => cases e1; cases e2; exact .p _ (.int _ _)
              | 1, e1, e2 => cases e1; cases e2; exact .p _ (.int _ _))
        | false =>
          refine SCall.pure (infinite_ok c hc _ hic) ?_
          refine SCond.mk (fun h => by cases h) (fun _ => ?_)
          rw [if_neg (by simp)]
          refine SView.all rfl ?_
          refine SCall.pure (infs2 ha hb _ hi) ?_
          refine SCond.mk (fun _ => ?_) (fun h => by cases h)
          refine SCall.pure (hsg 9218868437227405312 (by omega)) ?_
          exact SRet.pure (.tup rfl fun i c d e1 e2 => by
            match i, e1, e2 with
            | 0, e1, e2 => cases e1; cases e2; exact .p _ (.int _ _)
            | 1, e1, e2 => cases e1; cases e2; exact .p _ (.int _ _))
    | false =>
      refine SCall.pure (infs2 ha hb _ hi) ?_
      refine SCond.mk (fun h => by cases h) (fun _ => ?_)
      rw [if_neg (by simp), if_neg (by simp)]
      refine SView.all rfl ?_
      refine SCall.pure (infs2 ha hb _ hi) ?_
      refine SCond.mk (fun h => by cases h) (fun _ => ?_)
      refine SView.all rfl ?_
      refine SCall.pure (infs2 ha hb _ hi) ?_
      refine SCond.mk (fun h => by cases h) (fun _ => ?_)
      cases hic : isInf c with
      | true =>
        refine SCall.pure (infinite_ok c hc _ hic) ?_
        refine SCond.mk (fun _ => ?_) (fun h => by cases h)
        rw [if_pos rfl]
        exact SRet.pure (.tup rfl fun i c d e1 e2 => by
          match i, e1, e2 with
          | 0, e1, e2 => cases e1; cases e2; exact .p _ (.int _ _)
          | 1, e1, e2 => cases e1; cases e2; exact .p _ (.int _ _))
      | false =>
        refine SCall.pure (infinite_ok c hc _ hic) ?_
        refine SCond.mk (fun h => by cases h) (fun _ => ?_)
        rw [if_neg Bool.false_ne_true, fvq_mul, fvq_sval c]
        have e1 := fexp_le (mag_lt a)
        have e2 := fexp_ge (mag a)
        have e3 := fexp_le (mag_lt b)
        have e4 := fexp_ge (mag b)
        have e5 := fsig_bits (mag a)
        have e6 := fsig_bits (mag b)
        have e7 := fexp_le (mag_lt c)
        have e8 := fexp_ge (mag c)
        have e9 := fsig_bits (mag c)
        have hbl := bitLen_mul (fsig (mag a)) (fsig (mag b))
        refine SCall.pure (ofnum_ok a ha) ?_
        refine SCall.pure (ofnum_ok b hb) ?_
        refine SCall.pure (product_ok (ngt a) (ngt b) (fsig (mag a)) (fsig (mag b)) (fexp (mag a)) (fexp (mag b)) (by omega) (by omega) (by omega) (by omega)) ?_
        refine SCall.pure (ofnum_ok c hc) ?_
        refine SCall.pureT (and_ok (ngt a != ngt b) (ngt c) (fsig (mag a) * fsig (mag b)) (fsig (mag c)) (fexp (mag a) + fexp (mag b)) (fexp (mag c)) mode (by omega) (by omega) (by omega) (by omega)) (fun _ => rfl) ?_
        exact SRet.pure (.tup rfl fun i c d e1 e2 => by
          match i, e1, e2 with
          | 0, e1, e2 => cases e1; cases e2; exact .p _ (.int _ _)
          | 1, e1, e2 => cases e1; cases e2; exact .p _ (.int _ _))
end Go.Proofs.Ytjcmiedpgabdbaa
