/- CertScale: right numbers; floats of small numbers. -/
import Derived.Test.YtacklcbgkigcaaaGreatCr12
namespace Go.Proofs.YtacklcbgkigcaaaGreat
open Go
set_option linter.unusedVariables false
set_option linter.unusedSimpArgs false
set_option maxRecDepth 10000

theorem r1right_ok (m : Bool) (a : Nat) (ha : nlen a ≤ 1099511627776) : CallP Tryz.prog 116 [natM m a] (.p (.bool true)) [] := by
  refine callG_of_vc (wr := wr0) Γok mixed Tryz.func116 (by kernel_rfl) rfl (by kernel_rfl) (le_of_ble rfl) (by simp) ?_
  refine SZ.mk (nlen a : Int) (by simp) ?_
  by_cases h0 : a = 0
  · refine SCmp.yes (eqT (by rw [nlen_zero_iff.2 h0]; rfl)) ?_
    exact SRet.pure (.tf _)
  · have h1 : nlen a ≠ 0 := mt nlen_zero_iff.1 h0
    refine SCmp.no (eqF (by omega)) ?_
    refine SZ.mk (nlen a : Int) (by simp) ?_
    refine SWrap.i64z ((nlen a - 1 : Nat) : Int) (by omega) (by omega) ?_
    refine SIdx.lb (nlen a - 1) rfl (by show nlen a - 1 < nlen a; omega) ?_
    have h2 : (nl a).getD (nlen a - 1) 0 ≠ 0 := nl_last h0
    refine SCmp.yes (neT (by omega)) ?_
    exact SRet.pure (.tf _)
theorem rright_ok (q : Rat) {k : Nat} (hq : Bz q k) (hk : k ≤ 1048576) : CallP Tryz.prog 62 [ratP q] (.p (.bool true)) [] := by
  refine callG_of_vc (wr := wr0) Γok mixed Tryz.func62 (by kernel_rfl) rfl (by kernel_rfl) (le_of_ble rfl) (by simp) ?_
  have hn := hq.nn (show k ≤ 1099511627776 by omega)
  have hd := hq.nd (show k ≤ 1099511627776 by omega)
  have hd0 : nlen q.den ≠ 0 := fun h => q.den_nz (nlen_zero_iff.1 h)
  have n1 : nlen 1 ≤ 549755813888 := Nat.le_trans (nlen_bitLen 1) (by decide)
  have c1 := rgcd_ok false false q.num.natAbs q.den (Nat.le_trans hq.1 hk) (Nat.le_trans hq.2 hk)
  rw [show Nat.gcd q.num.natAbs q.den = 1 from q.reduced] at c1
  have c2 := rcmp_ok false false 1 1 n1 n1
  rw [show cmpZ 1 1 = 0 by decide] at c2
  refine SCall.pure (r1right_ok false q.num.natAbs (by omega)) ?_
  refine SCmp.no (rfl) ?_
  refine SCall.pure (r1right_ok false q.den (by omega)) ?_
  refine SCmp.no (rfl) ?_
  refine SZ.mk (nlen q.den : Int) (by simp) ?_
  refine SCmp.no (eqF (by omega)) ?_
  refine SZ.mk (nlen q.num.natAbs : Int) (by simp) ?_
  by_cases h0 : q = 0
  · subst h0
    refine SCmp.yes (eqT (by rw [show (0 : Rat).num.natAbs = 0 from rfl, nlen_zero_iff.2 rfl]; rfl)) ?_
    refine SCond.mk (fun h => by cases h) (fun _ => ?_)
    refine SCall.pure (c1) ?_
    refine SCall.pure (roneN_ok) ?_
    refine SCall.pure (c2) ?_
    refine SCmp.yes (rfl) ?_
    exact SRet.pure (.tf _)
  · have hnz : nlen q.num.natAbs ≠ 0 := fun h => h0 (Rat.num_eq_zero.1 (by have := nlen_zero_iff.1 h; omega))
    refine SCmp.no (eqF (by omega)) ?_
    refine SCall.pure (c1) ?_
    refine SCall.pure (roneN_ok) ?_
    refine SCall.pure (c2) ?_
    refine SCmp.yes (rfl) ?_
    exact SRet.pure (.tf _)

theorem smallQ_abs (n : Int) : (smallQ n).abs < fval 9218868437227405311 := by
  have hb : (n % 41 - 20).natAbs ≤ 20 ∧ 1 ≤ (1 + n.tdiv 41 % 5).natAbs := by omega
  have h1 : (smallQ n).abs ≤ 20 := by
    rw [smallQ, mkQ_val]
    obtain ⟨b, hb'⟩ : ∃ b, b = (decide (n % 41 - 20 < 0) != decide (1 + n.tdiv 41 % 5 < 0)) := ⟨_, rfl⟩
    rw [← hb']
    obtain ⟨a, ha⟩ : ∃ a, a = (n % 41 - 20).natAbs := ⟨_, rfl⟩
    obtain ⟨d, hd⟩ : ∃ d, d = (1 + n.tdiv 41 % 5).natAbs := ⟨_, rfl⟩
    rw [← ha, ← hd] at hb ⊢
    have hd1 : (1 : Rat) ≤ (d : Rat) := by have := Rat.natCast_le_natCast.2 hb.2; simpa using this
    have ha1 : (a : Rat) ≤ 20 := by have := Rat.natCast_le_natCast.2 hb.1; simpa using this
    have ha0 : (0 : Rat) ≤ (a : Rat) := by have := Rat.natCast_le_natCast.2 (Nat.zero_le a); simpa using this
    have h4 : (a : Rat) / (d : Rat) * (d : Rat) = a := Rat.div_mul_cancel (by grind)
    obtain ⟨x, hx⟩ : ∃ x : Rat, x = (a : Rat) / (d : Rat) := ⟨_, rfl⟩
    rw [← hx] at h4 ⊢
    have hx0 : 0 ≤ x := by
      by_cases h : 0 ≤ x
      · exact h
      · have := Rat.mul_nonneg (show 0 ≤ -x by grind) (show 0 ≤ (d : Rat) - 1 by grind)
        grind
    have hx1 : x ≤ 20 := by
      have := Rat.mul_nonneg hx0 (show 0 ≤ (d : Rat) - 1 by grind)
      grind
    cases b with
    | true => rw [if_pos rfl, Rat.abs_neg, Rat.abs_of_nonneg hx0]; exact hx1
    | false => rw [if_neg Bool.false_ne_true, Rat.abs_of_nonneg hx0]; exact hx1
  have h2 : (20 : Rat) < fval 9218868437227405311 := by decide +kernel
  grind
theorem small_fine (n : Int) : fineF (codeQ (smallQ n)) = true := by
  by_cases h : smallQ n = 0
  · rw [h, codeQ, ofF, if_pos rfl]; decide
  · obtain ⟨lo, hi, g, u, v, hb⟩ := between_ok h (smallQ_abs n)
    rw [codeQ, ofF, if_neg h]
    rcases hb.any 0 with e | e <;> rw [e]
    · simp [fineF, hb.flo.nan, hb.flo.inf]
    · simp [fineF, hb.fhi.nan, hb.fhi.inf]
theorem sclM_lst {M : List (List Rat)} {n : Nat} (hs : Sq M n) (c : Rat) : sclM c M = (List.range n).map fun i => lst n fun j => c * (M.getD i []).getD j 0 := by
  apply List.ext_getElem
  · simp [sclM, hs.rows]
  · intro i h1 h2
    have hi : i < n := by simpa using h2
    have hM : i < M.length := by rw [hs.rows]; exact hi
    have hc := hs.cols i hi
    have hg : M.getD i [] = M[i] := by simp [List.getD, hM]
    rw [hg] at hc
    simp only [sclM, List.getElem_map, List.getElem_range]
    rw [hg]
    apply List.ext_getElem
    · simp [scl, lst, hc]
    · intro j g1 g2
      have hj : j < M[i].length := by simpa [scl] using g1
      simp [scl, lst, List.getD, hj]
theorem scl_lst {b : List Rat} {n : Nat} (h : b.length = n) (c : Rat) : scl c b = lst n fun i => c * b.getD i 0 := by
  subst h
  apply List.ext_getElem
  · simp [scl, lst]
  · intro i h1 h2
    have hi : i < b.length := by simpa [scl] using h1
    simp [scl, lst, List.getD, hi]
end Go.Proofs.YtacklcbgkigcaaaGreat
