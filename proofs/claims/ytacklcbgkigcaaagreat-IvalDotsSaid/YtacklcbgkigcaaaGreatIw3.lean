/- What the statements of enclosures hand to the program; IvalOps, IvalHolds: the walks. -/
import Derived.Test.YtacklcbgkigcaaaGreatIw2
import Derived.Test.YtacklcbgkigcaaaGreatFi6
namespace Go.Proofs.YtacklcbgkigcaaaGreat
open Go
set_option linter.unusedVariables false
set_option linter.unusedSimpArgs false
set_option maxRecDepth 10000

theorem within4_ok (a n : Int) (hn : 0 < n) (hn' : n < 4611686018427387904) : CallP Tryz.prog 64 [.int .i64 a, .int .i64 n] (.p (.int .i64 (a % n))) [] := by
  refine callG_of_vc (wr := wr0) Γok mixed Tryz.func64 (by kernel_rfl) rfl (by kernel_rfl) (le_of_ble rfl) (by simp) ?_
  have hw := within_aux (a := a) hn
  have hb := tmod_bd a hn
  obtain ⟨r, hr⟩ : ∃ r, r = a.tmod n := ⟨_, rfl⟩
  rw [← hr] at hw hb
  refine SNe.mk (by omega) ?_
  refine SZ.mk r hr.symm ?_
  by_cases h : r < 0
  · refine SCmp.yes (decide_eq_true (by omega)) ?_
    refine SWrap.i64z (r + n) rfl (by omega) ?_
    rw [if_pos h] at hw
    rw [← hw]
    exact SRet.pure (.p _ (.int _ _))
  · refine SCmp.no (decide_eq_false (by omega)) ?_
    rw [if_neg h] at hw
    rw [← hw]
    exact SRet.pure (.p _ (.int _ _))
theorem end4_ok (f : Nat) (n : Int) (hf : f < 18446744073709551616) : CallP Tryz.prog 63 [.int .u64 f, .int .i64 n] (.p (.int .u64 (endF f n))) [] := by
  refine callG_of_vc (wr := wr0) Γok mixed Tryz.func63 (by kernel_rfl) rfl (by kernel_rfl) (le_of_ble rfl) (by simp) ?_
  have hx := mkF_lt hf n
  have c0 := make3_ok f n hf
  have he : endF f n = if isNan (mkF f n) || isInf (mkF f n) then f % 1152921504606846976 else mkF f n := rfl
  obtain ⟨x, hxd⟩ : ∃ x, x = mkF f n := ⟨_, rfl⟩
  rw [← hxd] at hx c0 he
  refine SCall.pure (c0) ?_
  by_cases hb : isNan x = true ∨ isInf x = true
  · refine SCall.pureT (rfrat_no x hx hb) (fun _ => rfl) ?_
    refine SCmp.yes (rfl) ?_
    refine SWrap.and f 1152921504606846975 (f % 1152921504606846976) rfl rfl hf (by omega) (and_low f 60) ?_
    rw [if_pos (by rcases hb with h | h <;> simp [h])] at he
    rw [he]
    exact SRet.pure (.p _ (.int _ _))
  · have fx := not_bad hx hb
    refine SCall.pureT (rfrat_ok x hx fx.nan fx.inf) (fun _ => rfl) ?_
    refine SCmp.no (rfl) ?_
    rw [if_neg (by rw [fx.nan, fx.inf]; simp)] at he
    rw [he]
    exact SRet.pure (.p _ (.int _ _))
theorem cmpI_gt0 {a b : Int} : 0 < cmpI a b ↔ b < a := by unfold cmpI; split; omega; split <;> omega
theorem make4_ok (i : IvT) (n : Int) (hi : IvOk i) (hn : I64 n) : CallP Tryz.prog 12 [ivP i, .int .i64 n] (.p (ivP (makeI i n))) [] := by
  refine callG_of_vc (wr := wr0) Γok mixed Tryz.func12 (by kernel_rfl) rfl (by kernel_rfl) (le_of_ble rfl) (by simp) ?_
  have hq : I64 (n.tdiv 12) := by
    have h1 := hn.1
    have h2 := hn.2
    unfold I64
    rw [Int.tdiv_eq_ediv, show Int.sign 12 = 1 from rfl]; split <;> omega
  have c1 := end4_ok i.1 n hi.lo
  have c2 := end4_ok i.2 (n.tdiv 12) hi.hi
  have f1 := endF_fin hi.lo n
  have f2 := endF_fin hi.hi (n.tdiv 12)
  have hm : makeI i n = if pl (if n % 7 = 0 then endF i.1 n else endF i.2 (n.tdiv 12)) < pl (endF i.1 n) then (if n % 7 = 0 then endF i.1 n else endF i.2 (n.tdiv 12), endF i.1 n) else (endF i.1 n, if n % 7 = 0 then endF i.1 n else endF i.2 (n.tdiv 12)) := rfl
  obtain ⟨a, ha⟩ : ∃ a, a = endF i.1 n := ⟨_, rfl⟩
  obtain ⟨b, hb⟩ : ∃ b, b = endF i.2 (n.tdiv 12) := ⟨_, rfl⟩
  rw [← ha] at c1 f1 hm
  rw [← hb] at c2 f2 hm
  refine SDraw.mkX (by kernel_rfl) ?_
  repeat refine SOp.mk _ _ (And.intro rfl rfl) rfl ?_
  refine SOp.mk _ _ (SCall.pure (c1) (And.intro rfl rfl)) rfl ?_
  repeat refine SOp.mk _ _ (And.intro rfl rfl) rfl ?_
  refine SOp.mk _ _ (SNe.mk (by omega) (SWrap.i64z (n.tdiv 12) rfl hq (And.intro rfl rfl))) rfl ?_
  refine SOp.mk _ _ (SCall.pure (c2) (And.intro rfl rfl)) rfl ?_
  repeat refine SOp.mk _ _ (And.intro rfl rfl) rfl ?_
  refine SFin.mk (by kernel_rfl) ?_
  refine SCall.pure (within4_ok n 7 (by omega) (by omega)) ?_
  by_cases h7 : n % 7 = 0
  · refine SCmp.yes (eqT h7) ?_
    rw [if_pos h7] at hm
    have cc := rfcmp_ok a a f1.lt f1.lt
    rw [cmpF_num f1.num f1.num] at cc
    refine SCall.pureT (cc) (fun _ => rfl) ?_
    by_cases hp : pl a < pl a
    · rw [if_pos hp] at hm
      refine SCmp.yes (decide_eq_true (cmpI_gt0.2 hp)) ?_
      rw [hm]
      exact SRet.pure (.p _ (pers_iv (a, a)))
    · rw [if_neg hp] at hm
      refine SCmp.no (decide_eq_false (mt cmpI_gt0.1 hp)) ?_
      rw [hm]
      exact SRet.pure (.p _ (pers_iv (a, a)))
  · refine SCmp.no (eqF h7) ?_
    rw [if_neg h7] at hm
    have cc := rfcmp_ok a b f1.lt f2.lt
    rw [cmpF_num f1.num f2.num] at cc
    refine SCall.pureT (cc) (fun _ => rfl) ?_
    by_cases hp : pl b < pl a
    · rw [if_pos hp] at hm
      refine SCmp.yes (decide_eq_true (cmpI_gt0.2 hp)) ?_
      rw [hm]
      exact SRet.pure (.p _ (pers_iv (b, a)))
    · rw [if_neg hp] at hm
      refine SCmp.no (decide_eq_false (mt cmpI_gt0.1 hp)) ?_
      rw [hm]
      exact SRet.pure (.p _ (pers_iv (a, b)))
theorem inside4_ok (i : IvT) (n : Int) {A B : Rat} (h : FinI i A B) : CallP Tryz.prog 22 [ivP i, .int .i64 n] (.p (ratP (insideQ A B n))) [] := by
  refine callG_of_vc (wr := wr0) Γok mixed Tryz.func22 (by kernel_rfl) rfl (by kernel_rfl) (le_of_ble rfl) (by simp) ?_
  have bA := h.lo.bz
  have bB := h.hi.bz
  have bt := eighthQ_bz n
  refine SCall.pureT (rfrat_fin h.lo) (fun _ => rfl) ?_
  refine SCall.pureT (rfrat_fin h.hi) (fun _ => rfl) ?_
  refine SCall.pure (within4_ok n 9 (by omega) (by omega)) ?_
  have c := rof2_ok (n % 9) 8 (by omega) (by omega) (by omega)
  rw [show mkQ (decide (n % 9 < 0) != decide ((8 : Int) < 0)) (n % 9).natAbs (8 : Int).natAbs = eighthQ n from rfl] at c
  refine SCall.pureT (c) (fun _ => rfl) ?_
  have hI : insideQ A B n = A + eighthQ n * (B - A) := rfl
  rw [hI]
  obtain ⟨t, ht⟩ : ∃ t, t = eighthQ n := ⟨_, rfl⟩
  rw [← ht] at bt ⊢
  refine SDraw.mkX (by kernel_rfl) ?_
  repeat refine SOp.mk _ _ (And.intro rfl rfl) rfl ?_
  refine SOp.mk _ _ (SCall.pure (rsubq_ok B A bB bA (by omega)) (And.intro rfl rfl)) rfl ?_
  refine SOp.mk _ _ (SCall.pure (rmulq_ok t (B - A) bt (bB.sub bA) (by omega)) (And.intro rfl rfl)) rfl ?_
  refine SOp.mk _ _ (SCall.pure (raddq_ok A (t * (B - A)) bA (bt.mul (bB.sub bA)) (by omega)) (And.intro rfl rfl)) rfl ?_
  repeat refine SOp.mk _ _ (And.intro rfl rfl) rfl ?_
  refine SFin.mk (by kernel_rfl) ?_
  exact SRet.pure (.p _ (pers_rat _ _ _))
theorem third_ok : CallP Tryz.prog 50 [.int .i64 1, .int .i64 3] (.tup [.p (ratP (1 / 3)), .p (.int .i64 0)]) [] := by
  have h := rof2_ok 1 3 (by omega) (by omega) (by omega)
  have e : mkQ (decide ((1 : Int) < 0) != decide ((3 : Int) < 0)) (1 : Int).natAbs (3 : Int).natAbs = 1 / 3 := by
    rw [mkQ_val]; simp
  rwa [e] at h
theorem third_bz : Bz (1 / 3 : Rat) 2 := ⟨by decide +kernel, by decide +kernel⟩
theorem third_of : ofI (1 / 3) = (4599676419421066581, 4599676419421066582) := by
  have h1 : rS (1 / 3) 2 = (4599676419421066581, 1) := rSc_ok (c := 4599676419421066581) (by decide +kernel)
  have h2 : rS (1 / 3) 3 = (4599676419421066582, 1) := rSc_ok (c := 4599676419421066581) (by decide +kernel)
  rw [ofI, ofF, ofF, if_neg (by decide +kernel), if_neg (by decide +kernel), h1, h2]
theorem ofI_in (q : Rat) : InI (ofI q) q := inI_of (rd_of q).lo (ru_of q).hi ⟨q, by simp, Rat.le_refl⟩ ⟨q, by simp, Rat.le_refl⟩
theorem known4_ok : CallP Tryz.prog 11 [] (.p (.bool true)) [] := by
  refine callG_of_vc (wr := wr0) Γok mixed Tryz.func11 (by kernel_rfl) rfl (by kernel_rfl) (le_of_ble rfl) (by simp) ?_
  refine SCall.pureT (third_ok) (fun _ => rfl) ?_
  have c1 := ivof_ok (1 / 3) third_bz (by omega)
  have hin := ofI_in (1 / 3)
  have hr := hin.right
  have hh := hin.has
  rw [third_of] at c1 hr hh
  refine SCall.pure (c1) ?_
  refine SCmp.yes (rfl) ?_
  have c2 := ivhas_ok (4599676419421066581, 4599676419421066582) (1 / 3) ⟨by decide, by decide⟩ third_bz (by omega)
  rw [hr, hh] at c2
  refine SCall.pure (c2) ?_
  have c3 := ivright_ok (4599676419421066581, 4599676419421066582) ⟨by decide, by decide⟩
  rw [hr] at c3
  refine SCond.mk (fun _ => ?_) (fun h => by cases h)
  refine SCall.pure (c3) ?_
  refine SCond.mk (fun _ => ?_) (fun h => by cases h)
  have c4 := ivright_ok (1, 0) ⟨by decide, by decide⟩
  rw [show rightI (1, 0) = false by decide] at c4
  refine SCall.pure (c4) ?_
  refine SCmp.yes (rfl) ?_
  exact SRet.pure (.tf _)
end Go.Proofs.YtacklcbgkigcaaaGreat
