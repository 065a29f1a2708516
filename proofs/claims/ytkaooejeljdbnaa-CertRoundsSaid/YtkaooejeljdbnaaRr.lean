/- Numbers of raw ones; FloatOf and FloatBetween: the walks. -/
import Derived.Test.YtkaooejeljdbnaaLf1
import Derived.Test.YtkaooejeljdbnaaFi3
/- Numbers of raw ones: what the statements make of any limbs. -/
namespace Go.Proofs.Ytkaooejeljdbnaa
open Go
set_option linter.unusedVariables false
set_option linter.unusedSimpArgs false
set_option maxRecDepth 10000

theorem lmake_ok (m : Bool) (l : List Nat) (h : Lok l) (k : Nat) (hk : k ≤ 1048576) : CallP Try.prog 89 [.sl m 1 (limbs l), .int .i64 k] (.p (natP (nv (l.take k)))) [] := by
  refine callG_of_vc (wr := wr0) Γok mixed Try.func89 (by kernel_rfl) rfl (by kernel_rfl) (le_of_ble rfl) (by simp) ?_
  refine SZ.mk l.length (by simp) ?_
  obtain ⟨N, hN⟩ : ∃ N, N = min l.length k := ⟨_, rfl⟩
  refine SZ.mk N (by show (if (k : Int) < (l.length : Int) then (k : Int) else (l.length : Int)) = _; split <;> omega) ?_
  refine SZ.mk N rfl ?_
  refine SLt.mk (by simp) ?_
  refine SCut.mk 0 N rfl rfl (by omega) (by simp; omega) ?_
  have et : l.take k = l.take N := by
    rw [hN]
    by_cases hc : k ≤ l.length
    · rw [Nat.min_eq_right hc]
    · rw [Nat.min_eq_left (by omega), List.take_of_length_le (by omega), List.take_of_length_le (by omega)]
  rw [et]
  have hLr : Lok (l.take N) := h.take N
  have hLl : (l.take N).length = N := by rw [List.length_take]; omega
  refine SEs.mk (limbs (l.take N)) (by simp [List.map_take]) ?_
  obtain ⟨r, hr⟩ : ∃ r, r = l.take N := ⟨_, rfl⟩
  rw [← hr] at hLr hLl ⊢
  refine SRoom.mk (by simp; omega) (by simp; omega) ?_
  refine SLoop.mk Nat (fun n => ([(5, .vec 0 1 0 n)], [.vec 70 1 (limbs r)])) (fun n => n ≤ N ∧ nv (r.take n) = nv r) id N [0] ⟨Nat.le_refl _, by rw [← hLl, List.take_length]⟩
    ⟨rfl, by simp, rfl, rfl, rfl, ⟨congrArg (AV.vec 0 1 0) (show N = (limbs r).length by simp [hLl]), trivial⟩, ⟨rfl, trivial⟩⟩ ?_
  intro n ⟨hn, hv⟩
  have done : (n = 0 ∨ r.getD (n - 1) 0 ≠ 0) → _ := fun h2 => nl_take hLr (by omega) hv h2
  refine SZ.mk n rfl ?_
  by_cases h0 : n = 0
  · refine SCmp.no (decide_eq_false (by omega)) ?_
    have e := done (.inl h0)
    have hl2 : (nl (nv r)).length ≤ 1099511627776 := by rw [← e, List.length_take]; omega
    refine SRet.pure ?_
    rw [← e] at hl2
    refine .frz rfl (by simp) (by simp; omega) (pers_limbs r) ?_
    rw [List.drop_zero, ← e]
    simp [limbs, List.map_take]
  · refine SCmp.yes (decide_eq_true (by omega)) ?_
    refine SZ.mk n rfl ?_
    refine SWrap.i64z ((n - 1 : Nat) : Int) (by omega) (by omega) ?_
    refine SPos.mk (n - 1) rfl (by omega) ?_
    refine SIdx.lb (n - 1) (by omega) (by omega) ?_
    by_cases h1 : r.getD (n - 1) 0 = 0
    · refine SCmp.yes (eqT (by omega)) ?_
      refine SZ.mk n rfl ?_
      refine SWrap.i64z ((n - 1 : Nat) : Int) (by omega) (by omega) ?_
      refine SCut.mk 0 (n - 1) rfl rfl (by omega) (by omega) ?_
      exact ⟨n - 1, [0], ⟨by omega, (nv_take_pred h0 (by omega) h1).trans hv⟩, by simp; omega, ⟨rfl, by simp, rfl, rfl, rfl, ⟨rfl, trivial⟩, ⟨rfl, trivial⟩⟩⟩
    · refine SCmp.no (eqF (by omega)) ?_
      have e := done (.inr h1)
      have hl2 : (nl (nv r)).length ≤ 1099511627776 := by rw [← e, List.length_take]; omega
      refine SRet.pure ?_
      rw [← e] at hl2
      refine .frz rfl (by simp) (by simp; omega) (pers_limbs r) ?_
      rw [List.drop_zero, ← e]
      simp [limbs, List.map_take]

/-- A raw number: a sign, and limbs of any kind. -/
abbrev rawP (neg m m' : Bool) (N D : List Nat) : PV := .agg [.bool neg, .sl m 1 (limbs N), .sl m' 1 (limbs D)]
def rawN (N : List Nat) : Nat := nv (N.take 3)
def rawD (N D : List Nat) : Nat := if rawN D = 0 then 1 + nlen (rawN N) else rawN D
def rawQ (neg : Bool) (N D : List Nat) : Rat := mkQ neg (rawN N) (rawD N D)
theorem rawN_lt {N : List Nat} (h : Lok N) : rawN N < 79228162514264337593543950336 := by
  have h1 := nv_lt (h.take 3)
  have h2 : 4294967296 ^ (N.take 3).length ≤ 4294967296 ^ 3 := Nat.pow_le_pow_right (by omega) (by rw [List.length_take]; omega)
  have h3 : 4294967296 ^ 3 = 79228162514264337593543950336 := by decide
  unfold rawN; omega
theorem rawN_bits {N : List Nat} (h : Lok N) : bitLen (rawN N) ≤ 96 := bitLen_le (Nat.lt_of_lt_of_le (rawN_lt h) (by decide))
theorem rawN_nlen {N : List Nat} (h : Lok N) : nlen (rawN N) ≤ 3 := nlen_le (Nat.lt_of_lt_of_le (rawN_lt h) (by decide))
theorem rawD_pos (N D : List Nat) : rawD N D ≠ 0 := by unfold rawD; split <;> omega
theorem rawD_bits {N D : List Nat} (hN : Lok N) (hD : Lok D) : bitLen (rawD N D) ≤ 96 := by
  unfold rawD
  split
  · have := rawN_nlen hN
    exact bitLen_le (Nat.lt_of_le_of_lt (show 1 + nlen (rawN N) ≤ 4 by omega) (by decide))
  · exact rawN_bits hD
theorem rawQ_bz (neg : Bool) {N D : List Nat} (hN : Lok N) (hD : Lok D) : Bz (rawQ neg N D) 96 := Bz.mkQ (rawD_pos N D) (rawN_bits hN) (rawD_bits hN hD)
theorem qmake_ok (neg m m' : Bool) (N D : List Nat) (hN : Lok N) (hD : Lok D) :
    CallP Try.prog 38 [rawP neg m m' N D] (.p (ratP (rawQ neg N D))) [] := by
  refine callG_of_vc (wr := wr0) Γok mixed Try.func38 (by kernel_rfl) rfl (by kernel_rfl) (le_of_ble rfl) (by simp) ?_
  have c1 := lmake_ok m N hN 3 (by omega)
  have c2 := lmake_ok m' D hD 3 (by omega)
  rw [show nv (N.take 3) = rawN N from rfl] at c1
  rw [show nv (D.take 3) = rawN D from rfl] at c2
  have b1 := rawN_bits hN
  have b2 := rawD_bits hN hD
  have b3 := rawN_nlen hN
  have b4 := rawN_nlen hD
  have b5 := rawD_pos N D
  have hQ : rawQ neg N D = mkQ neg (rawN N) (rawD N D) := rfl
  have hDd : rawD N D = if rawN D = 0 then 1 + nlen (rawN N) else rawN D := rfl
  obtain ⟨n, hn⟩ : ∃ n, n = rawN N := ⟨_, rfl⟩
  obtain ⟨d, hd⟩ : ∃ d, d = rawN D := ⟨_, rfl⟩
  obtain ⟨e, he⟩ : ∃ e, e = rawD N D := ⟨_, rfl⟩
  rw [← hn, ← hd, ← he] at hDd
  rw [← hn] at c1 b1 b3 hQ
  rw [← hd] at c2 b4
  rw [← he] at b2 b5 hQ
  rw [hQ]
  refine SDraw.mk (by kernel_rfl) ?_
  repeat refine SOp.mk _ _ (And.intro rfl rfl) rfl ?_
  refine SOp.mk _ _ (SCall.pure (c1) (And.intro rfl rfl)) rfl ?_
  repeat refine SOp.mk _ _ (And.intro rfl rfl) rfl ?_
  refine SOp.mk _ _ (SCall.pure (c2) (And.intro rfl rfl)) rfl ?_
  repeat refine SOp.mk _ _ (And.intro rfl rfl) rfl ?_
  refine SZ.mk (nlen d : Int) (by simp) ?_
  by_cases h0 : d = 0
  · refine SCmp.yes (eqT (by rw [nlen_zero_iff.2 h0]; rfl)) ?_
    rw [if_pos h0] at hDd
    refine SZ.mk (nlen n : Int) (by simp) ?_
    refine SWrap.u32z (nlen n) (by omega) ?_
    refine SWrap.u32z (1 + nlen n) (by omega) ?_
    refine SView.all rfl ?_
    have e1 : natM true e = .sl true 1 [.int .u32 ((1 + nlen n : Nat) : Int)] := by
      show PV.sl true 1 (limbs (nl e)) = _
      rw [nl_pos b5, show e % 4294967296 = 1 + nlen n by omega, show e / 4294967296 = 0 by omega, nl_zero]; rfl
    have c3 := rmake_ok neg false true n e b5 (by omega) (by omega)
    rw [e1] at c3
    refine SCall.pureT (c3) (fun _ => rfl) ?_
    exact SRet.pure (.p _ (pers_rat _ _ _))
  · refine SCmp.no (eqF (by have := mt nlen_zero_iff.1 h0; omega)) ?_
    rw [if_neg h0] at hDd
    subst hDd
    refine SCall.pureT (rmake_ok neg false false n e b5 (by omega) (by omega)) (fun _ => rfl) ?_
    exact SRet.pure (.p _ (pers_rat _ _ _))
end Go.Proofs.Ytkaooejeljdbnaa

/- FloatOf: the walk. Small numbers of raw ones. -/
namespace Go.Proofs.Ytkaooejeljdbnaa
open Go
set_option linter.unusedVariables false
set_option linter.unusedSimpArgs false
set_option maxRecDepth 10000

/-- A small number, of a raw one. -/
def smallQ (n : Int) : Rat := mkQ (decide (n % 41 - 20 < 0) != decide (1 + n.tdiv 41 % 5 < 0)) (n % 41 - 20).natAbs (1 + n.tdiv 41 % 5).natAbs
theorem smallQ_bz (n : Int) : Bz (smallQ n) 5 := by
  have h1 : (1 + n.tdiv 41 % 5).natAbs ≤ 5 ∧ (1 + n.tdiv 41 % 5).natAbs ≠ 0 := by omega
  have h2 : (n % 41 - 20).natAbs ≤ 20 := by omega
  exact Bz.mkQ h1.2 (bitLen_le (Nat.lt_of_le_of_lt h2 (by decide))) (bitLen_le (Nat.lt_of_le_of_lt h1.1 (by decide)))
theorem small2_ok (n : Int) (hn : -9223372036854775808 ≤ n ∧ n < 9223372036854775808) : CallP Try.prog 65 [.int .i64 n] (.p (ratP (smallQ n))) [] := by
  refine callG_of_vc (wr := wr0) Γok mixed Try.func65 (by kernel_rfl) rfl (by kernel_rfl) (le_of_ble rfl) (by simp) ?_
  refine SCall.pure (within2_ok n 41 (by omega) (by omega)) ?_
  refine SWrap.i64z (n % 41 - 20) rfl (by omega) ?_
  have hq : -9223372036854775808 ≤ n.tdiv 41 ∧ n.tdiv 41 < 9223372036854775808 := by
    rw [Int.tdiv_eq_ediv, show Int.sign 41 = 1 from rfl]; split <;> omega
  refine SNe.mk (by omega) ?_
  refine SWrap.i64z (n.tdiv 41) rfl hq ?_
  refine SCall.pure (within2_ok (n.tdiv 41) 5 (by omega) (by omega)) ?_
  refine SWrap.i64z (1 + n.tdiv 41 % 5) rfl (by omega) ?_
  refine SCall.pureT (rof2_ok (n % 41 - 20) (1 + n.tdiv 41 % 5) (by omega) (by omega) (by omega)) (fun _ => rfl) ?_
  exact SRet.pure (.p _ (pers_rat _ _ _))

/-- Two to the power of k, as a number. -/
def upQ (k : Nat) : Rat := mkQ false (1 * 2 ^ k) 1
theorem upQ_val (k : Nat) : upQ k = ((2 ^ k : Nat) : Rat) := by rw [upQ, mkQ_val, if_neg Bool.false_ne_true, Nat.one_mul]; simp; grind
theorem upQ_ne (k : Nat) : upQ k ≠ 0 := by rw [upQ_val]; have := pow_posQ k; grind
theorem upQ_bz (k : Nat) : Bz (upQ k) (k + 1) := Bz.mkQ (by omega) (by rw [Nat.one_mul]; exact bits_pow k) (by rw [bits_one]; omega)
theorem rsame0_ok : CallP Try.prog 24 [.agg [.bool false, .sl false 1 [], .sl false 1 []], .agg [.bool false, .sl false 1 [], .sl false 1 []]] (.p (.bool true)) [] := by
  refine callG_of_vc (wr := wr0) Γok mixed Try.func24 (by kernel_rfl) rfl (by kernel_rfl) (le_of_ble rfl) (by simp) ?_
  have h := rcmp_ok false false 0 0 (by rw [nlen_zero_iff.2 rfl]; omega) (by rw [nlen_zero_iff.2 rfl]; omega)
  rw [show natM false 0 = .sl false 1 [] by show PV.sl false 1 (limbs (nl 0)) = _; rw [nl_zero]; rfl, show cmpZ 0 0 = 0 by decide] at h
  refine SCmp.yes (beq_self_eq_true _) ?_
  refine SCall.pure (h) ?_
  refine SCmp.yes (rfl) ?_
  refine SCall.pure (h) ?_
  refine SCmp.yes (rfl) ?_
  exact SRet.pure (.tf _)
end Go.Proofs.Ytkaooejeljdbnaa

/- FloatBetween: what Down and Up make of a number; the walk. -/
namespace Go.Proofs.Ytkaooejeljdbnaa
open Go
set_option linter.unusedVariables false
set_option linter.unusedSimpArgs false
set_option maxRecDepth 10000

structure Betw (X : Rat) (lo hi : Nat) (g : Int) (u v : Rat) : Prop where
  two : rS X 2 = (lo, g)
  three : rS X 3 = (hi, g)
  any : ∀ mode, rS X mode = (lo, g) ∨ rS X mode = (hi, g)
  flo : FinF lo u
  fhi : FinF hi v
  le : u ≤ X
  ge : X ≤ v
  alt : (lo = hi ∧ g = 0 ∧ u = v) ∨ (u ≠ v ∧ (g = 1 ∨ g = 3) ∧ nextF lo true = hi)
theorem between_sm {neg : Bool} {Y : Rat} {c : Nat} (hY : 0 < Y) (hc : IsCd Y c) (hI : c + 1 < 9218868437227405312) (hs : fval c ≠ Y) : ∃ g, (g = 1 ∨ g = 3) ∧
    (∀ mode, rS (sval neg Y) mode = (sg neg c, g) ∨ rS (sval neg Y) mode = (sg neg (c + 1), g)) ∧ rS (sval neg Y) 2 = (sg neg (if neg then c + 1 else c), g) ∧ rS (sval neg Y) 3 = (sg neg (if neg then c else c + 1), g) := by
  refine ⟨if c < 4503599627370496 then 3 else 1, by split <;> simp, ?_⟩
  obtain ⟨h, hh⟩ : ∃ h, h = cmpR (2 * Y) (fval c + fval (c + 1)) := ⟨_, rfl⟩
  have e : ∀ mode, rS (sval neg Y) mode = (sg neg (upc neg c true h mode), if c < 4503599627370496 then 3 else 1) := fun mode => by
    rw [rS_sval hY, rndQ, cd_eq hc, decide_eq_true hs, ← hh, out_fin (by unfold upc; split <;> omega), if_pos rfl]
  refine ⟨fun mode => ?_, ?_, ?_⟩
  · rw [e, upc]
    split
    · exact .inr rfl
    · exact .inl rfl
  · rw [e, upc]
    cases neg <;> rfl
  · rw [e, upc]
    cases neg <;> rfl
theorem between_ok {X : Rat} (hX : X ≠ 0) (hb : X.abs < fval 9218868437227405311) : ∃ lo hi g u v, Betw X lo hi g u v := by
  obtain ⟨neg, Y, hY, hv⟩ : ∃ n Y, 0 < Y ∧ X = sval n Y := by
    by_cases h : 0 < X
    · exact ⟨false, X, h, rfl⟩
    · exact ⟨true, -X, by grind, by unfold sval; rw [if_pos rfl]; grind⟩
  have hYb : Y < fval 9218868437227405311 := by
    have : X.abs = Y := by
      rw [hv]; unfold sval
      cases neg with
      | true => rw [if_pos rfl, Rat.abs_neg, Rat.abs_of_nonneg (by grind)]
      | false => rw [if_neg Bool.false_ne_true, Rat.abs_of_nonneg (by grind)]
    rwa [this] at hb
  have hc := cd_is (X := Y) (by grind)
  obtain ⟨c, hcd⟩ : ∃ c, c = cd Y := ⟨_, rfl⟩
  rw [← hcd] at hc
  have hlt : c < 9218868437227405311 := fval_lt.1 (by have := hc.1; grind)
  have hsv : ∀ {A B : Rat}, A ≤ B → sval false A ≤ sval false B ∧ sval true B ≤ sval true A := fun {A B} h => by
    refine ⟨?_, ?_⟩
    · show A ≤ B; exact h
    · show -B ≤ -A; grind
  by_cases hs : fval c = Y
  · have e : ∀ mode, rS X mode = (sg neg c, 0) := fun mode => by
      have := rnd_exact (c := c) (by omega) neg mode
      rw [hv, rS_sval hY, ← hs, this]
    have f := FinF.sg (neg := neg) (c := c) (by omega)
    rw [hs, ← hv] at f
    exact ⟨sg neg c, sg neg c, 0, X, X, e 2, e 3, fun m => .inl (e m), f, f, Rat.le_refl, Rat.le_refl, .inl ⟨rfl, rfl, rfl⟩⟩
  · obtain ⟨g, hg, h1, h2, h3⟩ := between_sm (neg := neg) hY hc (by omega) hs
    rw [← hv] at h1 h2 h3
    have fc := FinF.sg (neg := neg) (c := c) (by omega)
    have fd := FinF.sg (neg := neg) (c := c + 1) (by omega)
    have hlt2 := fval_lt_succ c
    have l1 := hc.1
    have l2 : Y ≤ fval (c + 1) := by have := hc.2; grind
    cases neg with
    | false =>
      rw [if_neg Bool.false_ne_true] at h2 h3
      refine ⟨_, _, g, _, _, h2, h3, h1, fc, fd, by rw [hv]; exact (hsv l1).1, by rw [hv]; exact (hsv l2).1, .inr ⟨?_, hg, ?_⟩⟩
      · unfold sval; rw [if_neg Bool.false_ne_true, if_neg Bool.false_ne_true]; grind
      · by_cases h0 : c = 0
        · subst h0; exact next_z
        · exact nextF_out (n := false) (by omega) h0
    | true =>
      rw [if_pos rfl] at h2 h3
      refine ⟨_, _, g, _, _, h2, h3, fun m => (h1 m).symm, fd, fc, by rw [hv]; exact (hsv l2).2, by rw [hv]; exact (hsv l1).2, .inr ⟨?_, hg, nextF_in (n := true) (by omega)⟩⟩
      unfold sval; rw [if_pos rfl, if_pos rfl]; grind

theorem abs_bits {q : Rat} {k : Nat} (h : Bz q k) : q.abs < ((2 ^ k : Nat) : Rat) := by
  rw [abs_parts]
  have h1 : q.num.natAbs < 2 ^ k := Nat.lt_of_lt_of_le (bitLen_lt _) (Nat.pow_le_pow_right (by omega) h.n)
  have h2 : ((q.num.natAbs : Nat) : Rat) < ((2 ^ k : Nat) : Rat) := by exact_mod_cast h1
  have h3 := den_posQ q
  have h4 : (1 : Rat) ≤ (q.den : Rat) := by have := q.den_pos; exact_mod_cast this
  have h5 : ((q.num.natAbs : Nat) : Rat) / (q.den : Rat) * (q.den : Rat) = ((q.num.natAbs : Nat) : Rat) := Rat.div_mul_cancel (by grind)
  obtain ⟨Q, hQ⟩ : ∃ Q, Q = ((q.num.natAbs : Nat) : Rat) / (q.den : Rat) := ⟨_, rfl⟩
  rw [← hQ] at h5 ⊢
  by_cases hn : 0 ≤ Q
  · have := Rat.mul_nonneg hn (show 0 ≤ (q.den : Rat) - 1 by grind)
    grind
  · have := pow_posQ k
    grind
theorem big_fval : ((2 ^ 1010 : Nat) : Rat) ≤ fval 9218868437227405311 := by
  have h1 := (fval_code (v := 4503599627370496) (t := 2032) (by omega) (.inl (by omega))).1
  have h2 := p2_add_nat (((2032 : Nat) : Int) - 1074) 52
  rw [show ((2032 : Nat) : Int) - 1074 + ((52 : Nat) : Int) = ((1010 : Nat) : Int) by omega, p2_ofNat, show (2 : Nat) ^ 52 = 4503599627370496 by decide] at h2
  rw [h2, Rat.mul_comm, ← h1, fval_le]
  omega
theorem between_of {X : Rat} (hb : Bz X 1010) : ∃ lo hi g u v, ofF X 2 = (lo, g) ∧ ofF X 3 = (hi, g) ∧ (∀ mode, ofF X mode = (lo, g) ∨ ofF X mode = (hi, g)) ∧ FinF lo u ∧ FinF hi v ∧ u ≤ X ∧ X ≤ v ∧
    ((lo = hi ∧ g = 0 ∧ u = v) ∨ (u ≠ v ∧ (g = 1 ∨ g = 3) ∧ nextF lo true = hi)) := by
  by_cases h0 : X = 0
  · subst h0
    have f : FinF 0 0 := FinF.zero (neg := false)
    exact ⟨0, 0, 0, 0, 0, if_pos rfl, if_pos rfl, fun m => .inl (if_pos rfl), f, f, Rat.le_refl, Rat.le_refl, .inl ⟨rfl, rfl, rfl⟩⟩
  · have h1 := abs_bits hb
    have h2 := big_fval
    obtain ⟨lo, hi, g, u, v, b⟩ := between_ok h0 (by grind)
    have e : ∀ m, ofF X m = rS X m := fun m => if_neg h0
    exact ⟨lo, hi, g, u, v, by rw [e]; exact b.two, by rw [e]; exact b.three, fun m => by rw [e]; exact b.any m, b.flo, b.fhi, b.le, b.ge, b.alt⟩
end Go.Proofs.Ytkaooejeljdbnaa
