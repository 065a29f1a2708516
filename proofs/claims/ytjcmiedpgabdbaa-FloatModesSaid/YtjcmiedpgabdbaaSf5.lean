/- Floats: as numbers, their order, the next ones. -/
import Derived.Test.YtjcmiedpgabdbaaSf4
namespace Go.Proofs.Ytjcmiedpgabdbaa
open Go
set_option linter.unusedVariables false
set_option linter.unusedSimpArgs false
set_option maxRecDepth 10000

/-- The number that a float says. -/
def fvq (f : Nat) : Rat := if ngt f then -fval (mag f) else fval (mag f)
theorem p2_frac (m : Nat) (e : Int) : ((m * 2 ^ e.toNat : Nat) : Rat) / ((2 ^ (-e).toNat : Nat) : Rat) = (m : Rat) * p2 e := by
  rcases Int.lt_or_le e 0 with h | h
  · obtain ⟨k, hk⟩ : ∃ k : Nat, e = -(k : Int) := ⟨(-e).toNat, by omega⟩
    rw [hk, p2_neg, show (-(k : Int)).toNat = 0 by omega, show (-(-(k : Int))).toNat = k by omega, Nat.pow_zero, Nat.mul_one]
    have := pow_posQ k
    generalize ((2 ^ k : Nat) : Rat) = x at *
    grind
  · obtain ⟨k, hk⟩ : ∃ k : Nat, e = (k : Int) := ⟨e.toNat, by omega⟩
    rw [hk, p2_ofNat, show ((k : Int)).toNat = k by omega, show (-(k : Int)).toNat = 0 by omega, Nat.pow_zero, Rat.natCast_mul]
    grind
theorem mkQ_fvq (f : Nat) : mkQ (ngt f) (fsig (mag f) * 2 ^ (fexp (mag f)).toNat) (2 ^ (-fexp (mag f)).toNat) = fvq f := by
  rw [mkQ_val, p2_frac]; rfl
theorem mag_lt (f : Nat) : mag f < 9223372036854775808 := Nat.mod_lt _ (by decide)
theorem fexp_le {c : Nat} (h : c < 9223372036854775808) : fexp c ≤ 972 := by unfold fexp; split <;> omega
theorem fsig_lt (c : Nat) : fsig c < 9007199254740992 := by unfold fsig; split <;> omega
theorem bits_shl (a k : Nat) : bitLen (a * 2 ^ k) ≤ bitLen a + k := bitLen_le (by
  rw [Nat.pow_add]; exact Nat.mul_lt_mul_of_pos_right (bitLen_lt a) (Nat.two_pow_pos k))
theorem bits_pow (k : Nat) : bitLen (2 ^ k) ≤ k + 1 := bitLen_le (Nat.pow_lt_pow_right (by omega) (by omega))
theorem fsig_bits (c : Nat) : bitLen (fsig c) ≤ 53 := bitLen_le (fsig_lt c)
theorem fn_bits (f : Nat) : bitLen (fsig (mag f) * 2 ^ (fexp (mag f)).toNat) ≤ 1030 := by
  have h1 := bits_shl (fsig (mag f)) (fexp (mag f)).toNat
  have h2 := fsig_bits (mag f)
  have h3 := fexp_le (mag_lt f)
  omega
theorem fd_bits (f : Nat) : bitLen (2 ^ (-fexp (mag f)).toNat) ≤ 1080 := by
  have h1 := bits_pow (-fexp (mag f)).toNat
  have h3 := fexp_ge (mag f)
  omega
theorem fvq_bz (f : Nat) : Bz (fvq f) 1080 := by
  rw [← mkQ_fvq]
  refine Bz.mkQ (Nat.ne_of_gt (Nat.two_pow_pos _)) ?_ (fd_bits f)
  have := fn_bits f
  omega
theorem bits_one : bitLen 1 = 1 := by decide

theorem sfrat_ok (f : Nat) (hf : f < 18446744073709551616) (h1 : isNan f = false) (h2 : isInf f = false) : CallP Try.prog 51 [.int .u64 f] (.tup [.p (ratP (fvq f)), .p (.int .i64 0)]) [] := by
  refine callG_of_vc (wr := wr0) Γok mixed Try.func51 (by kernel_rfl) rfl (by kernel_rfl) (le_of_ble rfl) (by simp) ?_
  refine SCall.pure (nan_ok f hf _ h1) ?_
  refine SCond.mk (fun h => by cases h) (fun _ => ?_)
  refine SCall.pure (infinite_ok f hf _ h2) ?_
  refine SCond.mk (fun h => by cases h) (fun _ => ?_)
  refine SCall.pure (ofnum_ok f hf) ?_
  have e1 := fexp_le (mag_lt f)
  have e2 := fexp_ge (mag f)
  have b1 := fn_bits f
  have b2 := fd_bits f
  have n1 := nlen_bitLen (fsig (mag f) * 2 ^ (fexp (mag f)).toNat)
  have n2 := nlen_bitLen (2 ^ (-fexp (mag f)).toNat)
  have n3 := nlen_bitLen (fsig (mag f))
  have n4 := fsig_bits (mag f)
  have n5 := nlen_le (n := 1) (k := 1) (by decide)
  refine SDraw.mkX (by kernel_rfl) ?_
  repeat refine SOp.mk _ _ (And.intro rfl rfl) rfl ?_
  refine SOp.mk _ _ (SZ.mk (((fexp (mag f)).toNat : Nat) : Int) ((max_ite _ _).trans (by omega)) (And.intro rfl rfl)) rfl ?_
  refine SOp.mk _ _ (SCall.pure (fshl_ok false (fsig (mag f)) (fexp (mag f)).toNat (by omega) (by omega)) (And.intro rfl rfl)) rfl ?_
  refine SOp.mk _ _ (SCall.pure (of_ok 1 (by omega)) (And.intro rfl rfl)) rfl ?_
  repeat refine SOp.mk _ _ (And.intro rfl rfl) rfl ?_
  refine SOp.mk _ _ (SWrap.i64z (-fexp (mag f)) (by omega) (by omega) (And.intro rfl rfl)) rfl ?_
  refine SOp.mk _ _ (SZ.mk (((-fexp (mag f)).toNat : Nat) : Int) ((max_ite _ _).trans (by omega)) (And.intro rfl rfl)) rfl ?_
  refine SOp.mk _ _ (SCall.pure (fshl_ok false 1 (-fexp (mag f)).toNat (by omega) (by omega)) (And.intro rfl rfl)) rfl ?_
  rw [Nat.one_mul]
  refine SOp.mk _ _ (SCall.pureT (make_ok _ false false _ _ (Nat.ne_of_gt (Nat.two_pow_pos _)) (by omega) (by omega)) (fun _ => rfl) (And.intro rfl rfl)) rfl ?_
  repeat refine SOp.mk _ _ (And.intro rfl rfl) rfl ?_
  refine SFin.mk (by kernel_rfl) ?_
  rw [mkQ_fvq]
  exact SRet.pure (.tup rfl fun i c d e1 e2 => by
    match i, e1, e2 with
    | 0, e1, e2 => cases e1; cases e2; exact .p _ (pers_rat _ _ _)
    | 1, e1, e2 => cases e1; cases e2; exact .p _ (.int _ _))
theorem pers_rat0 : Pers (.agg [.bool false, .sl false 1 [], .sl false 1 []]) := .agg _ fun c hc => by
  simp at hc
  rcases hc with rfl | rfl
  · exact .bool _
  · exact .sl _ _ (fun e he => absurd he List.not_mem_nil)
theorem sfrat_no (f : Nat) (hf : f < 18446744073709551616) (h1 : isNan f = true ∨ isInf f = true) : CallP Try.prog 51 [.int .u64 f] (.tup [.p (.agg [.bool false, .sl false 1 [], .sl false 1 []]), .p (.int .i64 10)]) [] := by
  refine callG_of_vc (wr := wr0) Γok mixed Try.func51 (by kernel_rfl) rfl (by kernel_rfl) (le_of_ble rfl) (by simp) ?_
  cases h : isNan f with
  | true =>
    refine SCall.pure (nan_ok f hf _ h) ?_
    refine SCond.mk (fun _ => ?_) (fun h => by cases h)
    exact SRet.pure (.tup rfl fun i c d e1 e2 => by
      match i, e1, e2 with
      | 0, e1, e2 => cases e1; cases e2; exact .p _ pers_rat0
      | 1, e1, e2 => cases e1; cases e2; exact .p _ (.int _ _))
  | false =>
    rw [h] at h1
    have h2 : isInf f = true := by simpa using h1
    refine SCall.pure (nan_ok f hf _ h) ?_
    refine SCond.mk (fun h => by cases h) (fun _ => ?_)
    refine SCall.pure (infinite_ok f hf _ h2) ?_
    refine SCond.mk (fun _ => ?_) (fun h => by cases h)
    exact SRet.pure (.tup rfl fun i c d e1 e2 => by
      match i, e1, e2 with
      | 0, e1, e2 => cases e1; cases e2; exact .p _ pers_rat0
      | 1, e1, e2 => cases e1; cases e2; exact .p _ (.int _ _))

/-- A float's place among all. -/
def pl (f : Nat) : Int := if ngt f then -(mag f : Int) else f
def cmpI (a b : Int) : Int := if a < b then -1 else if b < a then 1 else 0
theorem ngt_true {f : Nat} (h : ngt f = true) : 9223372036854775808 ≤ f := of_decide_eq_true h
theorem ngt_false {f : Nat} (h : ngt f = false) : f < 9223372036854775808 := by have := of_decide_eq_false h; omega
theorem place_ok (f : Nat) (hf : f < 18446744073709551616) : CallP Try.prog 101 [.int .u64 f] (.p (.int .i64 (pl f))) [] := by
  refine callG_of_vc (wr := wr0) Γok mixed Try.func101 (by kernel_rfl) rfl (by kernel_rfl) (le_of_ble rfl) (by simp) ?_
  cases h : ngt f with
  | true =>
    refine SCall.pure (below_ok f hf _ h) ?_
    refine SCond.mk (fun _ => ?_) (fun h => by cases h)
    refine SWrap.nosign f rfl rfl hf ?_
    have := mag_lt f
    refine SWrap.i64z (mag f : Int) rfl (by omega) ?_
    refine SWrap.i64z (-(mag f : Int)) (by omega) (by omega) ?_
    rw [pl, h, if_pos rfl]
    exact SRet.pure (.p _ (.int _ _))
  | false =>
    refine SCall.pure (below_ok f hf _ h) ?_
    refine SCond.mk (fun h => by cases h) (fun _ => ?_)
    have := ngt_false h
    refine SWrap.i64z (f : Int) rfl (by omega) ?_
    rw [pl, h, if_neg Bool.false_ne_true]
    exact SRet.pure (.p _ (.int _ _))
/-- Which of two floats is greater. -/
def cmpF (a b : Nat) : Int × Bool := if isNan a || isNan b then (0, false) else (cmpI (pl a) (pl b), true)
abbrev cpair (r : Int × Bool) : AV := .tup [.p (.int .i64 r.1), .p (.bool r.2)]
theorem sfcmp_ok (a b : Nat) (ha : a < 18446744073709551616) (hb : b < 18446744073709551616) : CallP Try.prog 45 [.int .u64 a, .int .u64 b] (cpair (cmpF a b)) [] := by
  refine callG_of_vc (wr := wr0) Γok mixed Try.func45 (by kernel_rfl) rfl (by kernel_rfl) (le_of_ble rfl) (by simp) ?_
  unfold cmpF
  cases h : isNan a with
  | true =>
    refine SCall.pure (nan_ok a ha _ h) ?_
    refine SCond.mk (fun _ => ?_) (fun h => by cases h)
    exact SRet.pure (.tup rfl fun i c d e1 e2 => by
      match i, e1, e2 with
      | 0, e1, e2 => cases e1; cases e2; exact .p _ (.int _ _)
      | 1, e1, e2 => cases e1; cases e2; exact .tf _)
  | false =>
    refine SCall.pure (nan_ok a ha _ h) ?_
    refine SCond.mk (fun h => by cases h) (fun _ => ?_)
    cases h2 : isNan b with
    | true =>
      refine SCall.pure (nan_ok b hb _ h2) ?_
      refine SCond.mk (fun _ => ?_) (fun h => by cases h)
      exact SRet.pure (.tup rfl fun i c d e1 e2 => by
        match i, e1, e2 with
        | 0, e1, e2 => cases e1; cases e2; exact .p _ (.int _ _)
        | 1, e1, e2 => cases e1; cases e2; exact .tf _)
    | false =>
      refine SCall.pure (nan_ok b hb _ h2) ?_
      refine SCond.mk (fun h => by cases h) (fun _ => ?_)
      refine SCall.pure (place_ok a ha) ?_
      refine SCall.pure (place_ok b hb) ?_
      rw [if_neg (by simp), cmpI]
      by_cases h3 : pl a < pl b
      · rw [if_pos h3]
        refine SCmp.yes (decide_eq_true (by omega)) ?_
        exact SRet.pure (.tup rfl fun i c d e1 e2 => by
          match i, e1, e2 with
          | 0, e1, e2 => cases e1; cases e2; exact .p _ (.int _ _)
          | 1, e1, e2 => cases e1; cases e2; exact .tf _)
      · rw [if_neg h3]
        refine SCmp.no (decide_eq_false (by omega)) ?_
        by_cases h4 : pl b < pl a
        · rw [if_pos h4]
          refine SCmp.yes (decide_eq_true (by omega)) ?_
          exact SRet.pure (.tup rfl fun i c d e1 e2 => by
            match i, e1, e2 with
            | 0, e1, e2 => cases e1; cases e2; exact .p _ (.int _ _)
            | 1, e1, e2 => cases e1; cases e2; exact .tf _)
        · rw [if_neg h4]
          refine SCmp.no (decide_eq_false (by omega)) ?_
          exact SRet.pure (.tup rfl fun i c d e1 e2 => by
            match i, e1, e2 with
            | 0, e1, e2 => cases e1; cases e2; exact .p _ (.int _ _)
            | 1, e1, e2 => cases e1; cases e2; exact .tf _)

/-- The float next above, or below. -/
def nextF (f : Nat) (up : Bool) : Nat :=
  if isNan f then 9221120237041090560 else if isZ f then sg (!up) 1 else if isInf f && (ngt f != up) then f else if ngt f = up then f - 1 else f + 1
theorem sfnext_ok (f : Nat) (hf : f < 18446744073709551616) (up : Bool) : CallP Try.prog 37 [.int .u64 f, .bool up] (.p (.int .u64 (nextF f up))) [] := by
  refine callG_of_vc (wr := wr0) Γok mixed Try.func37 (by kernel_rfl) rfl (by kernel_rfl) (le_of_ble rfl) (by simp) ?_
  unfold nextF
  cases h : isNan f with
  | true =>
    refine SCall.pure (nan_ok f hf _ h) ?_
    refine SCond.mk (fun _ => ?_) (fun h => by cases h)
    rw [if_pos rfl]
    exact SRet.pure (.p _ (.int _ _))
  | false =>
    refine SCall.pure (nan_ok f hf _ h) ?_
    refine SCond.mk (fun h => by cases h) (fun _ => ?_)
    rw [if_neg Bool.false_ne_true]
    cases h2 : isZ f with
    | true =>
      refine SCall.pure (nought_ok f hf _ h2) ?_
      refine SCond.mk (fun _ => ?_) (fun h => by cases h)
      rw [if_pos rfl]
      cases up with
      | true =>
        refine SCmp.no (rfl) ?_
        refine SCall.pure (signed_ok 1 (by omega) false) ?_
        exact SRet.pure (.p _ (.int _ _))
      | false =>
        refine SCmp.yes (rfl) ?_
        refine SCall.pure (signed_ok 1 (by omega) true) ?_
        exact SRet.pure (.p _ (.int _ _))
    | false =>
      refine SCall.pure (nought_ok f hf _ h2) ?_
      refine SCond.mk (fun h => by cases h) (fun _ => ?_)
      rw [if_neg Bool.false_ne_true]
      have hz : f % 9223372036854775808 ≠ 0 := of_decide_eq_false h2
      have hn : ¬ 9218868437227405312 < f % 9223372036854775808 := of_decide_eq_false h
      have e : CallP Try.prog 88 [.int .u64 f] (.p (.bool (ngt f))) [] := below_ok f hf _ rfl
      have hup : ∀ b : Bool, (b == up) = true → b = up := fun b hb => by simpa using hb
      cases h3 : isInf f with
      | true =>
        refine SCall.pure (infinite_ok f hf _ h3) ?_
        refine SCond.mk (fun _ => ?_) (fun h => by cases h)
        refine SCall.pure (e) ?_
        by_cases h4 : ngt f = up
        · refine SCmp.no (by simp [h4]) ?_
          rw [if_neg (by simp [h4]), if_pos h4]
          refine SCall.pure (e) ?_
          refine SCmp.yes (by simp [h4]) ?_
          refine SWrap.u64z (f - 1) (by omega) (by omega) ?_
          exact SRet.pure (.p _ (.int _ _))
        · refine SCmp.yes (by simp [h4]) ?_
          rw [if_pos (by simp [h4])]
          exact SRet.pure (.p _ (.int _ _))
      | false =>
        refine SCall.pure (infinite_ok f hf _ h3) ?_
        refine SCond.mk (fun h => by cases h) (fun _ => ?_)
        rw [if_neg (by simp)]
        refine SCall.pure (e) ?_
        by_cases h4 : ngt f = up
        · rw [if_pos h4]
          refine SCmp.yes (by simp [h4]) ?_
          refine SWrap.u64z (f - 1) (by omega) (by omega) ?_
          exact SRet.pure (.p _ (.int _ _))
        · rw [if_neg h4]
          refine SCmp.no (by simp [h4]) ?_
          refine SWrap.u64z (f + 1) (by omega) (by omega) ?_
          exact SRet.pure (.p _ (.int _ _))
end Go.Proofs.Ytjcmiedpgabdbaa
