/- FloatRoots: the walk. -/
import Derived.Test.YtjcmiedpgabdbaaFi3
namespace Go.Proofs.Ytjcmiedpgabdbaa
open Go
set_option linter.unusedVariables false
set_option linter.unusedSimpArgs false
set_option maxRecDepth 10000

theorem FinF.pos {x : Nat} {q : Rat} (h : FinF x q) (hq : 0 < q) : ngt x = false ∧ x = Go.Proofs.Ytjcmiedpgabdbaa.mag x ∧ fval x = q := by
  have hv := h.val
  rw [fvq_mag] at hv
  have n1 := fval_nonneg (Go.Proofs.Ytjcmiedpgabdbaa.mag x)
  have hs := sg_mag x h.lt
  cases hn : ngt x with
  | true => rw [hn, sval, if_pos rfl] at hv; exfalso; grind
  | false =>
    rw [hn, Go.Proofs.Ytjcmiedpgabdbaa.sg, if_neg Bool.false_ne_true] at hs
    rw [hn, sval, if_neg Bool.false_ne_true, hs] at hv
    exact ⟨rfl, hs.symm, hv⟩
theorem sqrtF_fin {x : Nat} {q : Rat} (h : FinF x q) (hn : ngt x = false) (mode : Int) : sqrtF x mode = sqrtQ q mode := by
  rw [sqrtF, h.nan, hn, h.inf, if_neg Bool.false_ne_true, if_neg Bool.false_ne_true, if_neg Bool.false_ne_true, h.val]
  cases hz : isZ x with
  | false => rw [if_neg Bool.false_ne_true]
  | true =>
    have h0 := h.isZ.1 hz
    have hm := isZ_iff.1 hz
    have hs := sg_mag x h.lt
    rw [hn, hm] at hs
    have hx : x = 0 := hs.symm
    have := sqrt_exact (c := 0) (by decide) mode
    rw [fval_zero, Rat.zero_mul] at this
    rw [if_pos rfl, h0, this, hx]
theorem sqrt_int {w : Nat} (hw : w < 67108864) (mode : Int) : ∃ s t : Nat, ofF ((w : Int) : Rat) 0 = (s, 0) ∧ mulF s s 0 = (t, 0) ∧ sqrtF t mode = (s, 0) ∧ s < 18446744073709551616 ∧ t < 18446744073709551616 := by
  by_cases h0 : w = 0
  · subst h0
    refine ⟨0, 0, ?_, ?_, ?_, by omega, by omega⟩
    · rw [ofF, if_pos (by simp)]
    · rw [mulF, show isNan 0 = false by decide, show isInf 0 = false by decide, show isZ 0 = true by decide, show ngt 0 = false by decide]; rfl
    · rw [sqrtF, show isNan 0 = false by decide, show isZ 0 = true by decide]; rfl
  · obtain ⟨hs, hg⟩ := (Dy.int (z := (w : Int)) (by omega)).of 0
    obtain ⟨⟨s, g⟩, hr⟩ : ∃ r, r = ofF ((w : Int) : Rat) 0 := ⟨_, rfl⟩
    rw [← hr] at hs hg ⊢
    have hs : FinF s ((w : Int) : Rat) := hs
    obtain rfl : g = 0 := hg
    have hb : w * w < 4503599627370496 := by
      have := Nat.mul_le_mul (show w ≤ 67108863 by omega) (show w ≤ 67108863 by omega)
      omega
    have hwq : (0 : Rat) < ((w : Int) : Rat) := by
      have : (0 : Int) < (w : Int) := by omega
      exact_mod_cast this
    have d := Dy.int (z := (w : Int) * (w : Int)) (by rw [Int.natAbs_mul]; show w * w < _; omega)
    rw [zint_mul] at d
    obtain ⟨ht, hi⟩ := d.mul hs hs 0
    obtain ⟨⟨t, i⟩, hr2⟩ : ∃ r, r = mulF s s 0 := ⟨_, rfl⟩
    rw [← hr2] at ht hi
    have ht : FinF t (((w : Int) : Rat) * ((w : Int) : Rat)) := ht
    obtain rfl : i = 0 := hi
    obtain ⟨p1, p2', p3⟩ := hs.pos hwq
    obtain ⟨q1, q2, q3⟩ := ht.pos (Rat.mul_pos hwq hwq)
    refine ⟨s, t, rfl, hr2.symm, ?_, hs.lt, ht.lt⟩
    rw [sqrtF_fin ht q1, ← p3]
    refine sqrt_exact (root_lt (X := fval t) (by rw [q3, p3]; exact Rat.le_refl) ?_) mode
    have := ht.mag
    rw [← q2] at this
    exact fval_lt.2 this

theorem floatRoots_ok (f : Nat) (n k : Int) (hf : f < 18446744073709551616) :
    CallP Try.prog 13 [.int .u64 f, .int .i64 n, .int .i64 k] (.p (.bool true)) [] := by
  refine callG_of_vc (wr := wr0) Γok mixed Try.func13 (by kernel_rfl) rfl (by kernel_rfl) (le_of_ble rfl) (by simp) ?_
  refine SCall.pure (known3_ok) ?_
  refine SCmp.no (rfl) ?_
  have hx0 := mkF_lt hf n
  refine SCall.pure (make3_ok f n hf) ?_
  refine SWrap.nosign (mkF f n) rfl rfl hx0 ?_
  obtain ⟨x, hxd⟩ : ∃ x, x = mkF f n % 9223372036854775808 := ⟨_, rfl⟩
  rw [← hxd]
  have hx : x < 9223372036854775808 := by omega
  by_cases hbx : isNan x = true ∨ isInf x = true
  · refine SCall.pureT (rfrat_no x (by omega) hbx) (fun _ => rfl) ?_
    refine SCmp.yes (rfl) ?_
    exact SRet.pure (.tf _)
  · have fx := not_bad (by omega) hbx
    have hmx := fx.mag
    rw [mag, Nat.mod_eq_of_lt hx] at hmx
    have hng : ngt x = false := decide_eq_false (by omega)
    rw [fvq_pos hx] at fx
    refine SCall.pureT (rfrat_fin fx) (fun _ => rfl) ?_
    refine SCmp.no (rfl) ?_
    obtain ⟨c, hc, hcI⟩ := exists_cs (fval_nonneg x) (fval_lt.2 hmx)
    obtain ⟨sm, g, e2, e3, hg, hsm⟩ := sqrt_dir hc hcI
    have s2 := sfsqrt_ok x 2 (by omega)
    have s3 := sfsqrt_ok x 3 (by omega)
    rw [sqrtF_fin fx hng, e2] at s2
    rw [sqrtF_fin fx hng, e3] at s3
    have fc := FinF.sg (neg := false) (c := c) (by omega)
    have fc : FinF c (fval c) := fc
    have fd := FinF.sg (neg := false) (c := c + 1) hcI
    have fd : FinF (c + 1) (fval (c + 1)) := fd
    have bx := fx.bz
    have bc := fc.bz
    have bd := fd.bz
    obtain ⟨hc1, hc2⟩ := hc
    obtain ⟨X, hX⟩ : ∃ X, X = fval x := ⟨_, rfl⟩
    rw [← hX] at bx hc1 hc2 hsm ⊢
    obtain ⟨u, hu⟩ : ∃ u, u = fval c := ⟨_, rfl⟩
    rw [← hu] at bc fc hc1 hsm
    obtain ⟨v, hv⟩ : ∃ v, v = fval (c + 1) := ⟨_, rfl⟩
    rw [← hv] at bd fd hc2
    cases sm with
    | true =>
      rw [if_pos rfl] at s3
      have hg0 : g ≠ 0 := fun h => by have := hg.1 h; cases this
      refine SCall.pureT (s2) (fun _ => rfl) ?_
      refine SCall.pureT (s3) (fun _ => rfl) ?_
      refine SCall.pureT (rfrat_fin fc) (fun _ => rfl) ?_
      refine SCall.pureT (rfrat_fin fd) (fun _ => rfl) ?_
      refine SDraw.mk (by kernel_rfl) ?_
      repeat refine SOp.mk _ _ (And.intro rfl rfl) rfl ?_
      refine SOp.mk _ _ (SCmp.no (neF rfl) (And.intro rfl rfl)) rfl ?_
      repeat refine SOp.mk _ _ (And.intro rfl rfl) rfl ?_
      refine SOp.mk _ _ (SCmp.no (neF rfl) (And.intro rfl rfl)) rfl ?_
      repeat refine SOp.mk _ _ (And.intro rfl rfl) rfl ?_
      refine SOp.mk _ _ (SCmp.no (neF rfl) (And.intro rfl rfl)) rfl ?_
      repeat refine SOp.mk _ _ (And.intro rfl rfl) rfl ?_
      refine SOp.mk _ _ (SCall.pure (rmulq_ok u u bc bc (by omega)) (And.intro rfl rfl)) rfl ?_
      repeat refine SOp.mk _ _ (And.intro rfl rfl) rfl ?_
      refine SOp.mk _ _ (SCall.pure (rcmpq_ok (u * u) X (bc.mul bc) bx (by omega)) (And.intro rfl rfl)) rfl ?_
      refine SOp.mk _ _ (SCmp.no (cmpQ_le0 hc1) (And.intro rfl rfl)) rfl ?_
      repeat refine SOp.mk _ _ (And.intro rfl rfl) rfl ?_
      refine SOp.mk _ _ (SCall.pure (rmulq_ok v v bd bd (by omega)) (And.intro rfl rfl)) rfl ?_
      repeat refine SOp.mk _ _ (And.intro rfl rfl) rfl ?_
      refine SOp.mk _ _ (SCall.pure (rcmpq_ok X (v * v) bx (bd.mul bd) (by omega)) (And.intro rfl rfl)) rfl ?_
      refine SOp.mk _ _ (SCmp.no (cmpQ_le0 (by grind)) (And.intro rfl rfl)) rfl ?_
      repeat refine SOp.mk _ _ (And.intro rfl rfl) rfl ?_
      refine SOp.mk _ _ (SCmp.no (eqF hg0) (And.intro rfl rfl)) rfl ?_
      repeat refine SOp.mk _ _ (And.intro rfl rfl) rfl ?_
      refine SOp.mk _ _ (SCmp.no (eqF (by omega)) (And.intro rfl rfl)) rfl ?_
      refine SOp.mk _ _ (SCmp.no (rfl) (And.intro rfl rfl)) rfl ?_
      repeat refine SOp.mk _ _ (And.intro rfl rfl) rfl ?_
      refine SOp.mk _ _ (SCmp.no (eqF hg0) (And.intro rfl rfl)) rfl ?_
      repeat refine SOp.mk _ _ (And.intro rfl rfl) rfl ?_
      have w1 := within3_ok k 67108864 (by omega) (by omega)
      have w2 := within3_ok k 5 (by omega) (by omega)
      obtain ⟨w, hw⟩ : ∃ w : Nat, (w : Int) = k % 67108864 := ⟨(k % 67108864).toNat, by omega⟩
      rw [← hw] at w1
      obtain ⟨m, hm⟩ : ∃ m, m = k % 5 := ⟨_, rfl⟩
      rw [← hm] at w2
      obtain ⟨s, t, q1, q2, q3, l1, l2⟩ := sqrt_int (w := w) (by omega) m
      have c1 := rfof_ok ((w : Int) : Rat) 0 (zint_bz (n := (w : Int)) (by omega)) (by omega)
      rw [q1] at c1
      have c2 := rfmul_ok s s 0 l1 l1
      rw [q2] at c2
      have c3 := sfsqrt_ok t m l2
      rw [q3] at c3
      refine SCall.pure (w1) ?_
      refine SCall.pure (rint_ok (w : Int) (by omega)) ?_
      refine SCall.pureT (c1) (fun _ => rfl) ?_
      refine SCall.pureT (c2) (fun _ => rfl) ?_
      refine SCall.pure (w2) ?_
      refine SCall.pureT (c3) (fun _ => rfl) ?_
      refine SCmp.yes (eqT rfl) ?_
      refine SCmp.yes (eqT rfl) ?_
      exact SRet.pure (.tf _)
    | false =>
      rw [if_neg Bool.false_ne_true] at s3
      obtain rfl : g = 0 := hg.2 rfl
      have hXu := hsm.1 rfl
      refine SCall.pureT (s2) (fun _ => rfl) ?_
      refine SCall.pureT (s3) (fun _ => rfl) ?_
      refine SCall.pureT (rfrat_fin fc) (fun _ => rfl) ?_
      refine SCall.pureT (rfrat_fin fc) (fun _ => rfl) ?_
      rw [← hXu]
      refine SDraw.mk (by kernel_rfl) ?_
      repeat refine SOp.mk _ _ (And.intro rfl rfl) rfl ?_
      refine SOp.mk _ _ (SCmp.no (neF rfl) (And.intro rfl rfl)) rfl ?_
      repeat refine SOp.mk _ _ (And.intro rfl rfl) rfl ?_
      refine SOp.mk _ _ (SCmp.no (neF rfl) (And.intro rfl rfl)) rfl ?_
      repeat refine SOp.mk _ _ (And.intro rfl rfl) rfl ?_
      refine SOp.mk _ _ (SCmp.no (neF rfl) (And.intro rfl rfl)) rfl ?_
      repeat refine SOp.mk _ _ (And.intro rfl rfl) rfl ?_
      refine SOp.mk _ _ (SCall.pure (rmulq_ok u u bc bc (by omega)) (And.intro rfl rfl)) rfl ?_
      repeat refine SOp.mk _ _ (And.intro rfl rfl) rfl ?_
      refine SOp.mk _ _ (SCall.pure (rcmpq_ok (u * u) (u * u) (bc.mul bc) (bc.mul bc) (by omega)) (And.intro rfl rfl)) rfl ?_
      refine SOp.mk _ _ (SCmp.no (cmpQ_le0 Rat.le_refl) (And.intro rfl rfl)) rfl ?_
      repeat refine SOp.mk _ _ (And.intro rfl rfl) rfl ?_
      refine SOp.mk _ _ (SCall.pure (rmulq_ok u u bc bc (by omega)) (And.intro rfl rfl)) rfl ?_
      repeat refine SOp.mk _ _ (And.intro rfl rfl) rfl ?_
      refine SOp.mk _ _ (SCall.pure (rcmpq_ok (u * u) (u * u) (bc.mul bc) (bc.mul bc) (by omega)) (And.intro rfl rfl)) rfl ?_
      refine SOp.mk _ _ (SCmp.no (cmpQ_le0 Rat.le_refl) (And.intro rfl rfl)) rfl ?_
      repeat refine SOp.mk _ _ (And.intro rfl rfl) rfl ?_
      refine SOp.mk _ _ (SCmp.yes (eqT rfl) (And.intro rfl rfl)) rfl ?_
      repeat refine SOp.mk _ _ (And.intro rfl rfl) rfl ?_
      refine SOp.mk _ _ (SCmp.yes (eqT rfl) (And.intro rfl rfl)) rfl ?_
      refine SOp.mk _ _ (SCmp.no (rfl) (And.intro rfl rfl)) rfl ?_
      repeat refine SOp.mk _ _ (And.intro rfl rfl) rfl ?_
      refine SOp.mk _ _ (SCmp.yes (eqT rfl) (And.intro rfl rfl)) rfl ?_
      repeat refine SOp.mk _ _ (And.intro rfl rfl) rfl ?_
      refine SOp.mk _ _ (SCall.pure (rmulq_ok u u bc bc (by omega)) (And.intro rfl rfl)) rfl ?_
      repeat refine SOp.mk _ _ (And.intro rfl rfl) rfl ?_
      refine SOp.mk _ _ (SCall.pure (rsame_self (bc.mul bc) (by omega)) (And.intro rfl rfl)) rfl ?_
      refine SOp.mk _ _ (SCmp.no (rfl) (And.intro rfl rfl)) rfl ?_
      repeat refine SOp.mk _ _ (And.intro rfl rfl) rfl ?_
      have w1 := within3_ok k 67108864 (by omega) (by omega)
      have w2 := within3_ok k 5 (by omega) (by omega)
      obtain ⟨w, hw⟩ : ∃ w : Nat, (w : Int) = k % 67108864 := ⟨(k % 67108864).toNat, by omega⟩
      rw [← hw] at w1
      obtain ⟨m, hm⟩ : ∃ m, m = k % 5 := ⟨_, rfl⟩
      rw [← hm] at w2
      obtain ⟨s, t, q1, q2, q3, l1, l2⟩ := sqrt_int (w := w) (by omega) m
      have c1 := rfof_ok ((w : Int) : Rat) 0 (zint_bz (n := (w : Int)) (by omega)) (by omega)
      rw [q1] at c1
      have c2 := rfmul_ok s s 0 l1 l1
      rw [q2] at c2
      have c3 := sfsqrt_ok t m l2
      rw [q3] at c3
      refine SCall.pure (w1) ?_
      refine SCall.pure (rint_ok (w : Int) (by omega)) ?_
      refine SCall.pureT (c1) (fun _ => rfl) ?_
      refine SCall.pureT (c2) (fun _ => rfl) ?_
      refine SCall.pure (w2) ?_
      refine SCall.pureT (c3) (fun _ => rfl) ?_
      refine SCmp.yes (eqT rfl) ?_
      refine SCmp.yes (eqT rfl) ?_
      exact SRet.pure (.tf _)
end Go.Proofs.Ytjcmiedpgabdbaa
