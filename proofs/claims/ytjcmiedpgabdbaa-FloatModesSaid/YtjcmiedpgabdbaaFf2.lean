/- FloatFma, FloatOrder, FloatBack: the walks. -/
import Derived.Test.YtjcmiedpgabdbaaLf1
namespace Go.Proofs.Ytjcmiedpgabdbaa
open Go
set_option linter.unusedVariables false
set_option linter.unusedSimpArgs false
set_option maxRecDepth 10000

/-! #### answers are floats -/
def Ok64 (f : Nat) : Prop := f < 18446744073709551616 ∧ mag f ≤ 9221120237041090560
theorem ok_sg {neg : Bool} {c : Nat} (h : c ≤ 9221120237041090560) : Ok64 (sg neg c) := by
  obtain ⟨m1, m2, m3⟩ := mag_sg (neg := neg) (c := c) (by omega)
  exact ⟨m3, by rw [m1]; exact h⟩
theorem ok_out (neg : Bool) (c : Nat) (sm : Bool) (half mode : Int) : Ok64 (out neg c sm half mode).1 := by
  rw [out]
  split
  · exact ok_sg (by unfold lim; split <;> omega)
  · exact ok_sg (by omega)
theorem ok_rS (q : Rat) (mode : Int) : Ok64 (rS q mode).1 := ok_out _ _ _ _ _
theorem ok_of (q : Rat) (mode : Int) : Ok64 (ofF q mode).1 := by
  unfold ofF; split
  · exact ⟨by show 0 < _; omega, by decide⟩
  · exact ok_rS _ _
theorem ok_sum (p : Rat) (np : Bool) (q : Rat) (nq : Bool) (mode : Int) : Ok64 (sumF p np q nq mode).1 := by
  unfold sumF; split
  · split
    · exact ok_sg (by omega)
    · exact ok_sg (by omega)
  · exact ok_rS _ _
theorem ok_inf {f : Nat} (hf : f < 18446744073709551616) (h : isInf f = true) : Ok64 f := ⟨hf, by rw [inf_mag.1 h]; omega⟩
theorem ok_nan : Ok64 9221120237041090560 := ⟨by omega, by decide⟩
theorem ok_add {x y : Nat} (hx : x < 18446744073709551616) (hy : y < 18446744073709551616) (mode : Int) : Ok64 (addF x y mode).1 := by
  unfold addF
  split
  · exact ok_nan
  split
  · exact ok_nan
  split
  · rename_i h; exact ok_inf hx h
  split
  · rename_i h; exact ok_inf hy h
  · exact ok_sum _ _ _ _ _
theorem ok_mul (x y : Nat) (mode : Int) : Ok64 (mulF x y mode).1 := by
  unfold mulF
  split
  · exact ok_nan
  split
  · exact ok_nan
  split
  · exact ok_sg (by omega)
  split
  · exact ok_sg (by omega)
  · exact ok_rS _ _
theorem ok_div (x y : Nat) (mode : Int) : Ok64 (divF x y mode).1 := by
  unfold divF
  split
  · exact ok_nan
  split
  · exact ok_nan
  split
  · exact ok_sg (by omega)
  split
  · exact ok_sg (by omega)
  split
  · exact ok_sg (by omega)
  · exact ok_rS _ _
theorem ok_next {f : Nat} (hf : f < 18446744073709551616) (up : Bool) : nextF f up < 18446744073709551616 := by
  unfold nextF
  split
  · omega
  rename_i hn
  split
  · exact (ok_sg (by omega)).1
  split
  · exact hf
  rename_i hi
  split
  · omega
  · rename_i h1 h2
    have h3 : ¬ 9218868437227405312 < f % 9223372036854775808 := by simpa [isNan] using hn
    omega
theorem flip_add {f : Nat} (h : Ok64 f) : flip f + 1 < 18446744073709551616 := by
  have h1 := h.2
  have h2 := h.1
  unfold mag at h1
  unfold flip; split <;> omega

theorem floatFma_ok (a b c : Nat) (n m k mode : Int) (ha : a < 18446744073709551616) (hb : b < 18446744073709551616) (hc : c < 18446744073709551616) :
    CallP Try.prog 9 [.int .u64 a, .int .u64 b, .int .u64 c, .int .i64 n, .int .i64 m, .int .i64 k, .int .i64 mode] (.p (.bool true)) [] := by
  refine callG_of_vc (wr := wr0) Γok mixed Try.func9 (by kernel_rfl) rfl (by kernel_rfl) (le_of_ble rfl) (by simp) ?_
  refine SCall.pure (known3_ok) ?_
  refine SCmp.no (rfl) ?_
  have hx := mkF_lt ha n
  have hy := mkF_lt hb m
  have hz := mkF_lt hc k
  refine SCall.pure (make3_ok a n ha) ?_
  refine SCall.pure (make3_ok b m hb) ?_
  refine SCall.pure (make3_ok c k hc) ?_
  obtain ⟨x, hxd⟩ : ∃ x, x = mkF a n := ⟨_, rfl⟩
  obtain ⟨y, hyd⟩ : ∃ y, y = mkF b m := ⟨_, rfl⟩
  obtain ⟨z, hzd⟩ : ∃ z, z = mkF c k := ⟨_, rfl⟩
  rw [← hxd] at hx ⊢
  rw [← hyd] at hy ⊢
  rw [← hzd] at hz ⊢
  have hmul := rfmul_ok x y 0 hx hy
  have hp := ok_mul x y 0
  obtain ⟨⟨p, fl⟩, hr⟩ : ∃ r, r = mulF x y 0 := ⟨_, rfl⟩
  rw [← hr] at hp hmul
  have hp : Ok64 p := hp
  refine SCall.pureT (hmul) (fun _ => rfl) ?_
  refine SWrap.turn p rfl rfl hp.1 ?_
  refine SWrap.turn p rfl rfl hp.1 ?_
  have hfa := flip_add hp
  refine SWrap.u64z (flip p + 1) (by omega) hfa ?_
  have hall : ∀ i, i < 4 → [z, p, flip p, flip p + 1].getD i 0 < 18446744073709551616 := fun i hi => by
    match i, hi with
    | 0, _ => exact hz
    | 1, _ => exact hp.1
    | 2, _ => exact flip_lt hp.1
    | 3, _ => exact hfa
  refine SLoop.mk Nat (fun i => ([(6, .p (.int .i64 mode)), (15, .p (.int .u64 x)), (16, .p (.int .u64 y)), (20, .vec 0 1 0 4), (21, .p (.int .i64 i))], [.vec 32 1 (u64s [z, p, flip p, flip p + 1])])) (fun i => i ≤ 4) (fun i => 4 - i) 0 [0]
    (Nat.zero_le _) ⟨rfl, by simp, rfl, rfl, rfl, ⟨rfl, rfl, rfl, rfl, rfl, trivial⟩, ⟨rfl, trivial⟩⟩ ?_
  intro i h1
  have h1 : i ≤ 4 := h1
  by_cases hi : i < 4
  · refine SCmp.yes (decide_eq_true (by omega)) ?_
    have hw := hall i hi
    refine SDraw.mk (by kernel_rfl) ?_
    repeat refine SOp.mk _ _ (And.intro rfl rfl) rfl ?_
    refine SOp.mk _ _ (SPos.mk i rfl hi (And.intro rfl rfl)) rfl ?_
    refine SOp.mk _ _ (SIdx.ub i rfl hi (And.intro rfl rfl)) rfl ?_
    repeat refine SOp.mk _ _ (And.intro rfl rfl) rfl ?_
    refine SOp.mk _ _ (SCall.pure (within3_ok mode 5 (by omega) (by omega)) (And.intro rfl rfl)) rfl ?_
    refine SOp.mk _ _ (SCall.pureT (sffma_ok x y _ (mode % 5) hx hy hw) (fun _ => rfl) (And.intro rfl rfl)) rfl ?_
    repeat refine SOp.mk _ _ (And.intro rfl rfl) rfl ?_
    refine SDraw.mk (by kernel_rfl) ?_
    repeat refine SOp.mk _ _ (And.intro rfl rfl) rfl ?_
    refine SOp.mk _ _ (SPos.mk i rfl hi (And.intro rfl rfl)) rfl ?_
    refine SOp.mk _ _ (SIdx.ub i rfl hi (And.intro rfl rfl)) rfl ?_
    repeat refine SOp.mk _ _ (And.intro rfl rfl) rfl ?_
    refine SOp.mk _ _ (SCall.pure (within3_ok mode 5 (by omega) (by omega)) (And.intro rfl rfl)) rfl ?_
    refine SOp.mk _ _ (SCall.pureT (rffma_ok x y _ (mode % 5) hx hy hw) (fun _ => rfl) (And.intro rfl rfl)) rfl ?_
    repeat refine SOp.mk _ _ (And.intro rfl rfl) rfl ?_
    refine SCmp.no (neF rfl) ?_
    refine SCmp.no (neF rfl) ?_
    refine SWrap.i64z ((i + 1 : Nat) : Int) (by omega) (by omega) ?_
    exact ⟨i + 1, [0], hi, by show 4 - (i + 1) < 4 - i; omega, ⟨rfl, by simp, rfl, rfl, rfl, ⟨rfl, rfl, rfl, rfl, rfl, trivial⟩, ⟨rfl, trivial⟩⟩⟩
  · refine SCmp.no (decide_eq_false (by omega)) ?_
    exact SRet.pure (.tf _)

theorem floatOrder_ok (a b : Nat) (n m : Int) (up : Bool) (ha : a < 18446744073709551616) (hb : b < 18446744073709551616) :
    CallP Try.prog 8 [.int .u64 a, .int .u64 b, .int .i64 n, .int .i64 m, .bool up] (.p (.bool true)) [] := by
  refine callG_of_vc (wr := wr0) Γok mixed Try.func8 (by kernel_rfl) rfl (by kernel_rfl) (le_of_ble rfl) (by simp) ?_
  refine SCall.pure (known3_ok) ?_
  refine SCmp.no (rfl) ?_
  have hx := mkF_lt ha n
  have hy := mkF_lt hb m
  refine SCall.pure (make3_ok a n ha) ?_
  refine SCall.pure (make3_ok b m hb) ?_
  obtain ⟨x, hxd⟩ : ∃ x, x = mkF a n := ⟨_, rfl⟩
  obtain ⟨y, hyd⟩ : ∃ y, y = mkF b m := ⟨_, rfl⟩
  rw [← hxd] at hx ⊢
  rw [← hyd] at hy ⊢
  refine SCall.pureT (sfcmp_ok x y hx hy) (fun _ => rfl) ?_
  refine SCall.pureT (rfcmp_ok x y hx hy) (fun _ => rfl) ?_
  refine SCall.pure (rfnext_ok x hx up) ?_
  have hz := ok_next hx up
  refine SCall.pureT (sfcmp_ok x (nextF x up) hx hz) (fun _ => rfl) ?_
  refine SCall.pureT (rfcmp_ok x (nextF x up) hx hz) (fun _ => rfl) ?_
  refine SCmp.yes (eqT rfl) ?_
  refine SCmp.yes (beq_self_eq_true _) ?_
  refine SCall.pure (sfnext_ok x hx up) ?_
  refine SCmp.yes (eqT rfl) ?_
  refine SCmp.yes (eqT rfl) ?_
  refine SCmp.yes (beq_self_eq_true _) ?_
  exact SRet.pure (.tf _)

theorem rS_fvq {f : Nat} (hf : f < 18446744073709551616) (hn : isNan f = false) (hi : isInf f = false) (hz : isZ f = false) (mode : Int) : rS (fvq f) mode = (f, 0) := by
  have h1 : mag f < 9218868437227405312 := by
    have h1 := of_decide_eq_false hn
    have h2 := of_decide_eq_false hi
    unfold mag; omega
  have h0 : 0 < mag f := by
    have := of_decide_eq_false hz
    unfold mag; omega
  have e : fvq f = sval (ngt f) (fval (mag f)) := rfl
  rw [e, rS_sval (fval_pos.2 h0), rnd_exact h1, sg_mag f hf]
theorem floatBack_ok (f : Nat) (n mode : Int) (hf : f < 18446744073709551616) :
    CallP Try.prog 11 [.int .u64 f, .int .i64 n, .int .i64 mode] (.p (.bool true)) [] := by
  refine callG_of_vc (wr := wr0) Γok mixed Try.func11 (by kernel_rfl) rfl (by kernel_rfl) (le_of_ble rfl) (by simp) ?_
  refine SCall.pure (known3_ok) ?_
  refine SCmp.no (rfl) ?_
  have hx := mkF_lt hf n
  refine SCall.pure (make3_ok f n hf) ?_
  obtain ⟨x, hxd⟩ : ∃ x, x = mkF f n := ⟨_, rfl⟩
  rw [← hxd] at hx ⊢
  by_cases hbad : isNan x = true ∨ isInf x = true
  · refine SCall.pureT (sfrat_no x hx hbad) (fun _ => rfl) ?_
    refine SCmp.yes (rfl) ?_
    refine SCmp.yes (rfl) ?_
    refine SWrap.nosign x rfl rfl hx ?_
    have hge : 9218868437227405312 ≤ x % 9223372036854775808 := by
      rcases hbad with h | h
      · have := of_decide_eq_true h; omega
      · have := of_decide_eq_true h; omega
    refine SCmp.yes (decide_eq_true (by omega)) ?_
    exact SRet.pure (.tf _)
  · have h1 : isNan x = false := by cases h : isNan x with | false => rfl | true => exact absurd (.inl h) hbad
    have h2 : isInf x = false := by cases h : isInf x with | false => rfl | true => exact absurd (.inr h) hbad
    refine SCall.pureT (sfrat_ok x hx h1 h2) (fun _ => rfl) ?_
    refine SCmp.no (rfl) ?_
    refine SDraw.mk (by kernel_rfl) ?_
    repeat refine SOp.mk _ _ (And.intro rfl rfl) rfl ?_
    refine SOp.mk _ _ (SCall.pure (within3_ok mode 5 (by omega) (by omega)) (And.intro rfl rfl)) rfl ?_
    refine SOp.mk _ _ (SCall.pureT (sfof_ok (fvq x) (mode % 5) (fvq_bz x) (by omega)) (fun _ => rfl) (And.intro rfl rfl)) rfl ?_
    repeat refine SOp.mk _ _ (And.intro rfl rfl) rfl ?_
    cases hz : isZ x with
    | true =>
      rw [ofF, if_pos (fvq_z hz)]
      refine SCmp.yes (eqT rfl) ?_
      have h3 : x % 9223372036854775808 = 0 := of_decide_eq_true hz
      by_cases h0 : x = 0
      · refine SCmp.yes (eqT (by omega)) ?_
        exact SRet.pure (.tf _)
      · refine SCmp.no (eqF (by omega)) ?_
        refine SCmp.yes (eqT (by omega)) ?_
        refine SCmp.yes (eqT rfl) ?_
        exact SRet.pure (.tf _)
    | false =>
      rw [ofF, if_neg (fvq_ne hz), rS_fvq hx h1 h2 hz]
      refine SCmp.yes (eqT rfl) ?_
      refine SCmp.yes (eqT rfl) ?_
      exact SRet.pure (.tf _)
end Go.Proofs.Ytjcmiedpgabdbaa
