/- FloatScales: the walk, and what it takes. -/
import Derived.Test.YtjcmiedpgabdbaaFi1
namespace Go.Proofs.Ytjcmiedpgabdbaa
open Go
set_option linter.unusedVariables false
set_option linter.unusedSimpArgs false
set_option maxRecDepth 10000

theorem mk6_code {f : Nat} (hf : f < 18446744073709551616) : ∃ (neg : Bool) (E M : Nat), E < 32 ∧ M < 256 ∧ mkF f 6 = sg neg ((4503599627370496 + M * 17592186044416) + (1006 + E) * 4503599627370496) := by
  obtain ⟨E, hE⟩ : ∃ E, E = f / 4294967296 &&& 31 := ⟨_, rfl⟩
  obtain ⟨M, hM⟩ : ∃ M, M = f &&& 255 := ⟨_, rfl⟩
  have hE1 : E < 32 := by rw [hE, low5]; omega
  have hM1 : M < 256 := by rw [hM, low8]; omega
  refine ⟨decide (9223372036854775808 ≤ f), E, M, hE1, hM1, ?_⟩
  have e : mkF f 6 = sb f ||| ((1023 + E - 16) * 4503599627370496) ||| (M * 17592186044416) := by rw [hE, hM]; rfl
  rw [e, show sb f = if 9223372036854775808 ≤ f then 9223372036854775808 else 0 from and_sign hf]
  by_cases h : 9223372036854775808 ≤ f
  · rw [if_pos h, decide_eq_true h, Nat.or_comm 9223372036854775808, or_sign (by omega), or_sum (k := 52) (a := 1007 + E + 2048) (by show _ < 4503599627370496; omega) (by show _ = 4503599627370496 * _; omega), sg, if_pos rfl]
    omega
  · rw [if_neg h, decide_eq_false h, Nat.zero_or, or_sum (k := 52) (a := 1007 + E) (by show _ < 4503599627370496; omega) (by show _ = 4503599627370496 * _; omega), sg, if_neg Bool.false_ne_true]
    omega
theorem mk6_fin {f : Nat} (hf : f < 18446744073709551616) : ∃ z : Int, z.natAbs < 1099511627776 ∧ FinF (mkF f 6) ((z : Rat) * p2 (-24)) := by
  obtain ⟨neg, E, M, hE, hM, e⟩ := mk6_code hf
  have h1 := (fval_code (v := 4503599627370496 + M * 17592186044416) (t := 1006 + E) (by omega) (.inl (by omega))).1
  have hv : fval ((4503599627370496 + M * 17592186044416) + (1006 + E) * 4503599627370496) = (((256 + M) * 2 ^ E : Nat) : Rat) * p2 (-24) := by
    rw [h1, show 4503599627370496 + M * 17592186044416 = (256 + M) * 2 ^ 44 by rw [show (2 : Nat) ^ 44 = 17592186044416 by decide]; omega, Rat.natCast_mul, Rat.natCast_mul]
    have h2 := p2_add_nat (((1006 + E : Nat) : Int) - 1074) 44
    have h3 := p2_add_nat (-24) E
    rw [show ((1006 + E : Nat) : Int) - 1074 + ((44 : Nat) : Int) = -24 + (E : Int) by omega] at h2
    rw [h2] at h3
    grind
  have hb : (256 + M) * 2 ^ E < 1099511627776 := by
    have h2 : 2 ^ E ≤ 2 ^ 31 := Nat.pow_le_pow_right (by omega) (by omega)
    have h3 : (256 + M) * 2 ^ E ≤ 511 * 2 ^ 31 := Nat.mul_le_mul (by omega) h2
    have h4 : 511 * 2 ^ 31 < 1099511627776 := by decide
    omega
  have h := FinF.sg (neg := neg) (c := (4503599627370496 + M * 17592186044416) + (1006 + E) * 4503599627370496) (by omega)
  rw [hv, ← e] at h
  obtain ⟨Z, hZ⟩ : ∃ Z, Z = (256 + M) * 2 ^ E := ⟨_, rfl⟩
  rw [← hZ] at h hb
  cases neg with
  | false => exact ⟨(Z : Int), by omega, by rw [sval, if_neg Bool.false_ne_true] at h; exact h⟩
  | true =>
    refine ⟨-(Z : Int), by omega, ?_⟩
    rw [sval, if_pos rfl] at h
    have : ((-(Z : Int) : Int) : Rat) * p2 (-24) = -((Z : Rat) * p2 (-24)) := by
      rw [Rat.intCast_neg]
      show -(Z : Rat) * _ = _
      grind
    rw [this]; exact h
theorem pow_fin {j : Nat} (h : j < 400) : FinF ((823 + j) * 4503599627370496) (p2 ((j : Int) - 200)) := by
  have h1 := (fval_code (v := 4503599627370496) (t := 822 + j) (by omega) (.inl (by omega))).1
  have h2 := FinF.sg (neg := false) (c := 4503599627370496 + (822 + j) * 4503599627370496) (by omega)
  have h3 := p2_add_nat (((822 + j : Nat) : Int) - 1074) 52
  rw [h1, sg, if_neg Bool.false_ne_true, sval, if_neg Bool.false_ne_true, show 4503599627370496 + (822 + j) * 4503599627370496 = (823 + j) * 4503599627370496 by omega] at h2
  rw [show ((822 + j : Nat) : Int) - 1074 + ((52 : Nat) : Int) = (j : Int) - 200 by omega, show (2 : Nat) ^ 52 = 4503599627370496 by decide] at h3
  rw [h3, Rat.mul_comm]
  exact h2
theorem dy_scale {z : Int} {t : Int} (hz : z.natAbs < 9007199254740992) (ht : -900 ≤ t ∧ t ≤ 900) : Dy (t - 24) ((z : Rat) * p2 (-24) * p2 t) := by
  refine ⟨by omega, by omega, z, hz, ?_⟩
  rw [show t - 24 = -24 + t by omega, p2_add]
  grind
theorem dy_sum {a b : Int} (ha : a.natAbs < 1099511627776) (hb : b.natAbs < 1099511627776) : ∃ z : Int, z.natAbs < 9007199254740992 ∧ (a : Rat) * p2 (-24) + (b : Rat) * p2 (-24) = (z : Rat) * p2 (-24) :=
  ⟨a + b, by omega, by rw [Rat.intCast_add]; grind⟩

theorem floatScales_ok (a b : Nat) (k mode : Int) (ha : a < 18446744073709551616) (hb : b < 18446744073709551616) :
    CallP Try.prog 7 [.int .u64 a, .int .u64 b, .int .i64 k, .int .i64 mode] (.p (.bool true)) [] := by
  refine callG_of_vc (wr := wr0) Γok mixed Try.func7 (by kernel_rfl) rfl (by kernel_rfl) (le_of_ble rfl) (by simp) ?_
  refine SCall.pure (known3_ok) ?_
  refine SCmp.no (rfl) ?_
  obtain ⟨zx, bx, hx⟩ := mk6_fin ha
  obtain ⟨zy, by', hy⟩ := mk6_fin hb
  have m1 := make3_ok a 6 ha
  have m2 := make3_ok b 6 hb
  obtain ⟨x, hxd⟩ : ∃ x, x = mkF a 6 := ⟨_, rfl⟩
  obtain ⟨y, hyd⟩ : ∃ y, y = mkF b 6 := ⟨_, rfl⟩
  rw [← hxd] at hx m1
  rw [← hyd] at hy m2
  refine SCall.pure (m1) ?_
  refine SCall.pure (m2) ?_
  have w1 := within3_ok k 400 (by omega) (by omega)
  obtain ⟨j, hj⟩ : ∃ j : Nat, (j : Int) = k % 400 := ⟨(k % 400).toNat, by omega⟩
  have hj1 : j < 400 := by omega
  rw [← hj] at w1
  refine SCall.pure (w1) ?_
  refine SWrap.i64z (1023 + (j : Int)) rfl (by omega) ?_
  refine SWrap.i64z (823 + (j : Int)) (by omega) (by omega) ?_
  refine SWrap.u64z (823 + j) (by omega) (by omega) ?_
  refine SGe.mk (by decide) ?_
  refine SWrap.u64z ((823 + j) * 4503599627370496) (by show ((823 + j : Nat) : Int) * 4503599627370496 = _; omega) (by omega) ?_
  have hσ := pow_fin hj1
  obtain ⟨s, hs⟩ : ∃ s, s = (823 + j) * 4503599627370496 := ⟨_, rfl⟩
  obtain ⟨t, ht⟩ : ∃ t, t = (j : Int) - 200 := ⟨_, rfl⟩
  rw [← hs, ← ht] at hσ
  rw [← hs]
  obtain ⟨z, bz, hz⟩ := dy_sum bx by'
  -- u, v
  have c1 := sfmul_ok x s 0 hx.lt hσ.lt
  obtain ⟨hu, hp⟩ := (dy_scale (z := zx) (t := t) (by omega) (by omega)).mul hx hσ 0
  obtain ⟨⟨u, p⟩, hr1⟩ : ∃ r, r = mulF x s 0 := ⟨_, rfl⟩
  rw [← hr1] at c1 hu hp
  obtain rfl : p = 0 := hp
  refine SCall.pureT (c1) (fun _ => rfl) ?_
  have c2 := sfmul_ok y s 0 hy.lt hσ.lt
  obtain ⟨hv, hq⟩ := (dy_scale (z := zy) (t := t) (by omega) (by omega)).mul hy hσ 0
  obtain ⟨⟨v, q⟩, hr2⟩ : ∃ r, r = mulF y s 0 := ⟨_, rfl⟩
  rw [← hr2] at c2 hv hq
  obtain rfl : q = 0 := hq
  refine SCall.pureT (c2) (fun _ => rfl) ?_
  obtain ⟨m, hm⟩ : ∃ m, m = mode % 5 := ⟨_, rfl⟩
  have w2 := within3_ok mode 5 (by omega) (by omega)
  rw [← hm] at w2
  refine SCall.pure (w2) ?_
  -- f, c
  have hu : FinF u ((zx : Rat) * p2 (-24) * p2 t) := hu
  have hv : FinF v ((zy : Rat) * p2 (-24) * p2 t) := hv
  have dS : Dy (-24) ((zx : Rat) * p2 (-24) + (zy : Rat) * p2 (-24)) := ⟨by omega, by omega, z, bz, hz⟩
  have c3 := sfadd_ok x y m hx.lt hy.lt
  obtain ⟨hf, hg⟩ := dS.add hx hy m
  obtain ⟨⟨f, g⟩, hr3⟩ : ∃ r, r = addF x y m := ⟨_, rfl⟩
  rw [← hr3] at c3 hf hg
  obtain rfl : g = 0 := hg
  have hf : FinF f ((zx : Rat) * p2 (-24) + (zy : Rat) * p2 (-24)) := hf
  rw [hz] at hf
  refine SCall.pureT (c3) (fun _ => rfl) ?_
  have eS : (zx : Rat) * p2 (-24) * p2 t + (zy : Rat) * p2 (-24) * p2 t = (z : Rat) * p2 (-24) * p2 t := by rw [← hz]; grind
  have dT := dy_scale (z := z) (t := t) bz (by omega)
  have dT2 := dT
  rw [← eS] at dT2
  have c4 := sfadd_ok u v m hu.lt hv.lt
  obtain ⟨hc, hd⟩ := dT2.add hu hv m
  obtain ⟨⟨c, d⟩, hr4⟩ : ∃ r, r = addF u v m := ⟨_, rfl⟩
  rw [← hr4] at c4 hc hd
  obtain rfl : d = 0 := hd
  have hc : FinF c ((zx : Rat) * p2 (-24) * p2 t + (zy : Rat) * p2 (-24) * p2 t) := hc
  rw [eS] at hc
  refine SCall.pureT (c4) (fun _ => rfl) ?_
  have c5 := sfmul_ok f s 0 hf.lt hσ.lt
  obtain ⟨hw, he⟩ := dT.mul hf hσ 0
  obtain ⟨⟨w, e⟩, hr5⟩ : ∃ r, r = mulF f s 0 := ⟨_, rfl⟩
  rw [← hr5] at c5 hw he
  obtain rfl : e = 0 := he
  have hw : FinF w ((z : Rat) * p2 (-24) * p2 t) := hw
  refine SCall.pureT (c5) (fun _ => rfl) ?_
  refine SCmp.yes (rfl) ?_
  refine SCmp.yes (rfl) ?_
  refine SCmp.yes (rfl) ?_
  by_cases hcw : c = w
  · refine SCmp.yes (eqT (by rw [hcw])) ?_
    refine SCmp.yes (rfl) ?_
    exact SRet.pure (.tf _)
  · refine SCmp.no (eqF (by show (c : Int) ≠ (w : Int); omega)) ?_
    have h0 : (z : Rat) * p2 (-24) * p2 t = 0 := by
      by_cases h : (z : Rat) * p2 (-24) * p2 t = 0
      · exact h
      · exact absurd (hc.uniq hw h) hcw
    rw [h0] at hc hw
    have hc0 : c % 9223372036854775808 = 0 := hc.both_zero
    have hw0 : w % 9223372036854775808 = 0 := hw.both_zero
    refine SWrap.nosign c rfl rfl hc.lt ?_
    refine SCmp.yes (eqT (by omega)) ?_
    refine SWrap.nosign w rfl rfl hw.lt ?_
    refine SCmp.yes (eqT (by omega)) ?_
    refine SCmp.yes (rfl) ?_
    exact SRet.pure (.tf _)
end Go.Proofs.Ytjcmiedpgabdbaa
