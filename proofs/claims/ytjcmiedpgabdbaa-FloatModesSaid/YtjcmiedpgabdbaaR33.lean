/- The document's floats: a number, rounded. -/
import Derived.Test.YtjcmiedpgabdbaaR32
namespace Go.Proofs.Ytjcmiedpgabdbaa
open Go
set_option linter.unusedVariables false
set_option linter.unusedSimpArgs false
set_option maxRecDepth 10000

theorem goUp_no {mode : Int} {neg odd : Bool} : goUp mode neg false odd (-1) = false := by
  unfold goUp
  split
  · rfl
  · split
    · simp
    · split
      · simp
      · split
        · decide
        · rw [decide_eq_false (by omega), decide_eq_false (by omega)]; rfl

theorem le_of_mul {a b c : Rat} (h : a * c ≤ b * c) (hc : 0 < c) : a ≤ b := by
  by_cases h2 : a ≤ b
  · exact h2
  · have := mul_lt_q (Rat.not_le.1 h2) hc
    grind
theorem lt_of_mul {a b c : Rat} (h : a * c < b * c) (hc : 0 < c) : a < b := by
  by_cases h2 : a < b
  · exact h2
  · have := mul_le_q (Rat.not_lt.1 h2) hc
    grind
theorem div_mul_q {n d : Nat} (hd : d ≠ 0) : (n : Rat) / (d : Rat) * (d : Rat) = (n : Rat) := Rat.div_mul_cancel (by
  intro h
  have : (d : Rat) = ((0 : Nat) : Rat) := by rw [h]; rfl
  exact hd (natq_eq.1 this))
theorem pos_q {d : Nat} (hd : d ≠ 0) : (0 : Rat) < (d : Rat) := by
  have : 0 < d := by omega
  exact_mod_cast this

/-- A quotient's power of two, by digits. -/
theorem log_bits {n d : Nat} (hn : n ≠ 0) (hd : d ≠ 0) : p2 ((bitLen n : Int) - bitLen d - 1) < (n : Rat) / (d : Rat) ∧ (n : Rat) / (d : Rat) < p2 ((bitLen n : Int) - bitLen d + 1) := by
  have b1 : bitLen n ≠ 0 := mt bitLen_zero_iff.1 hn
  have b2 : bitLen d ≠ 0 := mt bitLen_zero_iff.1 hd
  have e1 : p2 ((bitLen n : Int) - bitLen d - 1) * ((2 ^ bitLen d : Nat) : Rat) = ((2 ^ (bitLen n - 1) : Nat) : Rat) := by
    rw [← p2_ofNat, ← p2_ofNat, ← p2_add]; congr 1; omega
  have e2 : p2 ((bitLen n : Int) - bitLen d + 1) * ((2 ^ (bitLen d - 1) : Nat) : Rat) = ((2 ^ bitLen n : Nat) : Rat) := by
    rw [← p2_ofNat, ← p2_ofNat, ← p2_add]; congr 1; omega
  have hdq := pos_q hd
  refine ⟨lt_of_mul (c := (d : Rat)) ?_ hdq, lt_of_mul (c := (d : Rat)) ?_ hdq⟩
  · rw [div_mul_q hd]
    have h1 : ((d : Nat) : Rat) < ((2 ^ bitLen d : Nat) : Rat) := natq_lt.2 (bitLen_lt d)
    have h2 : ((2 ^ (bitLen n - 1) : Nat) : Rat) ≤ (n : Rat) := natq_le.2 (bitLen_pos hn)
    have := mul_lt_q h1 (p2_pos ((bitLen n : Int) - bitLen d - 1))
    grind
  · rw [div_mul_q hd]
    have h1 : ((2 ^ (bitLen d - 1) : Nat) : Rat) ≤ (d : Rat) := natq_le.2 (bitLen_pos hd)
    have h2 : (n : Rat) < ((2 ^ bitLen n : Nat) : Rat) := natq_lt.2 (bitLen_lt n)
    have := mul_le_q h1 (p2_pos ((bitLen n : Int) - bitLen d + 1))
    grind
/-- A quotient shifted. -/
theorem shift_q {n d : Nat} (hd : d ≠ 0) (k : Int) : ((n * 2 ^ k.toNat : Nat) : Rat) / ((d * 2 ^ (-k).toNat : Nat) : Rat) = (n : Rat) / (d : Rat) * p2 k := by
  have h := p2_frac n k
  have hp := pow_posQ (-k).toNat
  have hdq := pos_q hd
  rw [Rat.natCast_mul d]
  have e1 : (n : Rat) / (d : Rat) * p2 k = (n : Rat) * p2 k / (d : Rat) := by grind
  rw [e1, ← h]
  generalize ((n * 2 ^ k.toNat : Nat) : Rat) = x
  generalize ((2 ^ (-k).toNat : Nat) : Rat) = y at *
  grind
theorem shift_lt {n d : Nat} (hd : d ≠ 0) (k : Int) : n * 2 ^ k.toNat < d * 2 ^ (-k).toNat ↔ (n : Rat) / (d : Rat) < p2 (-k) := by
  have hD : d * 2 ^ (-k).toNat ≠ 0 := Nat.ne_of_gt (Nat.mul_pos (by omega) (Nat.two_pow_pos _))
  have e := shift_q (n := n) hd k
  have hq := pos_q hD
  have hc := div_mul_q (n := n * 2 ^ k.toNat) hD
  have hk := p2_pos k
  have hk2 : p2 (-k) * p2 k = 1 := by rw [← p2_add, show -k + k = 0 by omega, p2_zero]
  rw [← natq_lt, ← hc, e]
  constructor
  · intro h
    refine lt_of_mul (c := p2 k) ?_ hk
    rw [hk2]
    exact lt_of_mul (c := ((d * 2 ^ (-k).toNat : Nat) : Rat)) (by grind) hq
  · intro h
    have h1 := mul_lt_q h hk
    rw [hk2] at h1
    have := mul_lt_q h1 hq
    grind

theorem rof_cut {n d : Nat} (hn : n ≠ 0) (hd : d ≠ 0) {p A : Int} (h1 : p2 p ≤ (n : Rat) / (d : Rat)) (h2 : (n : Rat) / (d : Rat) < p2 (p + 1)) (hA : A = max (p - 52) (-1074)) {N D : Nat} (hN : N = n * 2 ^ (-A).toNat) (hD : D = d * 2 ^ (-(-A)).toNat) :
    ∃ t : Nat, A = (t : Int) - 1074 ∧ N / D < 9007199254740992 ∧ (4503599627370496 ≤ N / D ∨ t = 0) ∧
    Cut ((n : Rat) / (d : Rat)) (N / D + t * 4503599627370496) (decide (N % D ≠ 0)) (cmpZ (N % D * 2) D) ∧ (p < -1022 ↔ N / D + t * 4503599627370496 < 4503599627370496) := by
  have hD0 : D ≠ 0 := by rw [hD]; exact Nat.ne_of_gt (Nat.mul_pos (by omega) (Nat.two_pow_pos _))
  have hX := shift_q (n := n) hd (-A)
  rw [← hN, ← hD] at hX
  obtain ⟨X, hXd⟩ : ∃ X, X = (n : Rat) / (d : Rat) := ⟨_, rfl⟩
  rw [← hXd] at h1 h2 hX ⊢
  have hu := p2_pos A
  have hu1 : p2 (-A) * p2 A = 1 := by rw [← p2_add, show -A + A = 0 by omega, p2_zero]
  have hX2 : X = (N : Rat) / (D : Rat) * p2 A := by rw [hX]; grind
  have hDq := pos_q hD0
  have hc := div_mul_q (n := N) hD0
  obtain ⟨R, hR⟩ : ∃ R, R = (N : Rat) / (D : Rat) := ⟨_, rfl⟩
  rw [← hR] at hX2 hc
  obtain ⟨v, hv0⟩ : ∃ v, v = N / D := ⟨_, rfl⟩
  obtain ⟨r, hr0⟩ : ∃ r, r = N % D := ⟨_, rfl⟩
  have hdm : D * v + r = N := by rw [hv0, hr0]; exact Nat.div_add_mod _ _
  have hrd : r < D := by rw [hr0]; exact Nat.mod_lt _ (by omega)
  rw [← hv0, ← hr0]
  have hq : R * (D : Rat) = (D : Rat) * (v : Rat) + (r : Rat) := by rw [hc, ← hdm, Rat.natCast_add, Rat.natCast_mul]
  have hr1 : (0 : Rat) ≤ (r : Rat) := by exact_mod_cast Nat.zero_le r
  have hr2 : (r : Rat) < (D : Rat) := natq_lt.2 hrd
  have lo : (v : Rat) ≤ R := le_of_mul (c := (D : Rat)) (by grind) hDq
  have hi : R < (v : Rat) + 1 := lt_of_mul (c := (D : Rat)) (by grind) hDq
  have hv : v < 9007199254740992 := by
    have h3 : p2 (p + 1) ≤ p2 (A + 53) := p2_mono (by omega)
    have h4 := p2_add_nat A 53
    have h5 : ((2 ^ 53 : Nat) : Rat) = ((9007199254740992 : Nat) : Rat) := rfl
    rw [show A + ((53 : Nat) : Int) = A + 53 by omega] at h4
    rw [h5] at h4
    have h6 : R < ((9007199254740992 : Nat) : Rat) := lt_of_mul (c := p2 A) (by grind) hu
    have : (v : Rat) < ((9007199254740992 : Nat) : Rat) := by grind
    exact natq_lt.1 this
  have hv2 : 4503599627370496 ≤ v ∨ A = -1074 := by
    by_cases h : A = -1074
    · exact .inr h
    · left
      have h4 := p2_add_nat A 52
      have h5 : ((2 ^ 52 : Nat) : Rat) = ((4503599627370496 : Nat) : Rat) := rfl
      rw [show A + ((52 : Nat) : Int) = p by omega] at h4
      rw [h5] at h4
      have h6 : ((4503599627370496 : Nat) : Rat) ≤ R := le_of_mul (c := p2 A) (by grind) hu
      have : ((4503599627370496 : Nat) : Rat) < ((v + 1 : Nat) : Rat) := by rw [Rat.natCast_add]; show _ < (v : Rat) + 1; grind
      have := natq_lt.1 this
      omega
  have ht : A = ((A + 1074).toNat : Int) - 1074 := by omega
  obtain ⟨t, ht'⟩ : ∃ t, t = (A + 1074).toNat := ⟨_, rfl⟩
  rw [← ht'] at ht
  have g1 := mul_le_q lo hu
  have g2 := mul_lt_q hi hu
  have hcut := cut_mid (v := v) (t := t) (X := X) hv (by omega) (by rw [← ht, hX2]; exact g1) (by rw [← ht, hX2]; exact g2)
  rw [← ht] at hcut
  have hsm : decide ((v : Rat) * p2 A ≠ X) = decide (r ≠ 0) := by
    by_cases h : r = 0
    · have : (v : Rat) = R := by
        have h0 : (r : Rat) = 0 := by rw [h]; rfl
        have g3 := le_of_mul (a := R) (b := (v : Rat)) (c := (D : Rat)) (by grind) hDq
        grind
      rw [decide_eq_false (by rw [this, hX2]; simp), decide_eq_false (fun h2 => h2 h)]
    · rw [decide_eq_true h]
      have h0 : (0 : Rat) < (r : Rat) := pos_q h
      have h3 : (v : Rat) < R := lt_of_mul (c := (D : Rat)) (by grind) hDq
      have := mul_lt_q h3 hu
      exact decide_eq_true (by rw [hX2]; grind)
  have hhf : cmpR (2 * X) ((2 * (v : Rat) + 1) * p2 A) = cmpZ (r * 2) D := by
    have hr22 : ((r * 2 : Nat) : Rat) = 2 * (r : Rat) := by rw [Rat.natCast_mul, Rat.mul_comm]; rfl
    rw [hX2]
    rcases Nat.lt_trichotomy (r * 2) D with h | h | h
    · have h3 := natq_lt.2 h
      have h4 : 2 * R < 2 * (v : Rat) + 1 := lt_of_mul (c := (D : Rat)) (by grind) hDq
      have := mul_lt_q h4 hu
      rw [cmpZ, if_pos h, cmpR, if_pos (by grind)]
    · have h3 := natq_eq.2 h
      have h4 : 2 * R ≤ 2 * (v : Rat) + 1 := le_of_mul (c := (D : Rat)) (by grind) hDq
      have h5 : 2 * (v : Rat) + 1 ≤ 2 * R := le_of_mul (c := (D : Rat)) (by grind) hDq
      have := mul_le_q h4 hu
      have := mul_le_q h5 hu
      rw [cmpZ, if_neg (by omega), if_pos h, cmpR, if_neg (by grind), if_neg (by grind)]
    · have h3 := natq_lt.2 h
      have h4 : 2 * (v : Rat) + 1 < 2 * R := lt_of_mul (c := (D : Rat)) (by grind) hDq
      have := mul_lt_q h4 hu
      rw [cmpZ, if_neg (by omega), if_neg (by omega), cmpR, if_neg (by grind), if_pos (by grind)]
  rw [hsm, hhf] at hcut
  refine ⟨t, ht, hv, by omega, hcut, ?_⟩
  rw [cut_under hcut.cd]
  constructor
  · intro h
    have := p2_mono (show p + 1 ≤ -1022 by omega)
    grind
  · intro h
    rcases Int.lt_or_le p (-1022) with h3 | h3
    · exact h3
    · have := p2_mono h3
      grind

/-- What the document does with a number's cut. -/
theorem out_ref {neg : Bool} {v t r D : Nat} {mode : Int} {w : Nat} {u : Prop} [Decidable u] (hD : D ≠ 0) (hw : w = if r ≠ 0 ∧ goUp mode neg true (decide (v % 2 = 1)) (cmpZ (r * 2) D) = true then v + 1 else v) (hu : u ↔ v + t * 4503599627370496 < 4503599627370496) :
    out neg (v + t * 4503599627370496) (decide (r ≠ 0)) (cmpZ (r * 2) D) mode = if 9218868437227405312 ≤ w + t * 4503599627370496 then (sg neg (lim neg mode), 5) else (sg neg (w + t * 4503599627370496), if r ≠ 0 then (if u then 3 else 1) else 0) := by
  have hodd : decide ((v + t * 4503599627370496) % 2 = 1) = decide (v % 2 = 1) := by
    by_cases h : v % 2 = 1
    · rw [decide_eq_true h, decide_eq_true (by omega)]
    · rw [decide_eq_false h, decide_eq_false (by omega)]
  have hup : upc neg (v + t * 4503599627370496) (decide (r ≠ 0)) (cmpZ (r * 2) D) mode = w + t * 4503599627370496 := by
    rw [upc, hodd, hw]
    by_cases h : r = 0
    · subst h
      rw [decide_eq_false (by simp), show cmpZ (0 * 2) D = -1 by rw [cmpZ, if_pos (by omega)], goUp_no, if_neg (by simp), if_neg (by simp)]
    · rw [decide_eq_true h]
      by_cases h2 : goUp mode neg true (decide (v % 2 = 1)) (cmpZ (r * 2) D) = true
      · rw [if_pos h2, if_pos ⟨h, h2⟩]; omega
      · rw [if_neg h2, if_neg fun h3 => h2 h3.2]
  rw [out, hup]
  by_cases h : 9218868437227405312 ≤ w + t * 4503599627370496
  · rw [if_pos h, if_pos h]
  · rw [if_neg h, if_neg h]
    by_cases h2 : r = 0
    · rw [if_neg (by simp [h2]), if_neg (by simp [h2])]
    · rw [if_pos (by simp [h2]), if_pos h2]
      by_cases h3 : u
      · rw [if_pos h3, if_pos (hu.1 h3)]
      · rw [if_neg h3, if_neg (mt hu.2 h3)]


theorem rfof_ok (q : Rat) (mode : Int) {k : Nat} (hq : Bz q k) (hk : k ≤ 65536) : CallP Try.prog 39 [ratP q, .int .i64 mode] (fpair (ofF q mode)) [] := by
  refine callG_of_vc (wr := wr0) Γok mixed Try.func39 (by kernel_rfl) rfl (by kernel_rfl) (le_of_ble rfl) (by simp) ?_
  refine SCall.pure (rnought_ok q) ?_
  by_cases hq0 : q = 0
  · rw [decide_eq_true hq0, ofF, if_pos hq0]
    refine SCond.mk (fun _ => ?_) (fun h => by cases h)
    exact SRet.pure (.tup rfl fun i c d e1 e2 => by
      match i, e1, e2 with
      | 0, e1, e2 => cases e1; cases e2; exact .p _ (.int _ _)
      | 1, e1, e2 => cases e1; cases e2; exact .p _ (.int _ _))
  rw [decide_eq_false hq0, ofF, if_neg hq0, rS]
  refine SCond.mk (fun h => by cases h) (fun _ => ?_)
  have hn := hq.1
  have hd := hq.2
  have hn0 : q.num.natAbs ≠ 0 := fun h => hq0 (Rat.num_eq_zero.1 (by omega))
  have n1 := nlen_bitLen q.num.natAbs
  have n2 := nlen_bitLen q.den
  obtain ⟨l1, l2⟩ := log_bits hn0 q.den_nz
  obtain ⟨p0, hp0⟩ : ∃ p0 : Int, p0 = (bitLen q.num.natAbs : Int) - bitLen q.den := ⟨_, rfl⟩
  rw [← hp0] at l1 l2
  refine SDraw.mk (by kernel_rfl) ?_
  repeat refine SOp.mk _ _ (And.intro rfl rfl) rfl ?_
  refine SOp.mk _ _ (SCall.pure (rbits_ok false q.num.natAbs (by omega)) (And.intro rfl rfl)) rfl ?_
  repeat refine SOp.mk _ _ (And.intro rfl rfl) rfl ?_
  refine SOp.mk _ _ (SCall.pure (rbits_ok false q.den (by omega)) (And.intro rfl rfl)) rfl ?_
  refine SOp.mk _ _ (SWrap.i64z p0 hp0.symm (by omega) (And.intro rfl rfl)) rfl ?_
  repeat refine SOp.mk _ _ (And.intro rfl rfl) rfl ?_
  refine SWrap.i64z (-p0) (by omega) (by omega) ?_
  refine SCall.pureT (rshift_ok q.num.natAbs q.den (-p0) (by omega) (by omega) (by omega)) (fun _ => rfl) ?_
  have b1 := bits_shl q.num.natAbs (-p0).toNat
  have b2 := bits_shl q.den (-(-p0)).toNat
  have b3 := nlen_bitLen (q.num.natAbs * 2 ^ (-p0).toNat)
  have b4 := nlen_bitLen (q.den * 2 ^ (-(-p0)).toNat)
  refine SCall.pure (rcmp_ok false false (q.num.natAbs * 2 ^ (-p0).toNat) (q.den * 2 ^ (-(-p0)).toNat) (by omega) (by omega)) ?_
  have hlt := shift_lt (n := q.num.natAbs) q.den_nz (-p0)
  rw [show -(-p0) = p0 by omega] at hlt ⊢
  rw [abs_parts]
  by_cases hc : q.num.natAbs * 2 ^ (-p0).toNat < q.den * 2 ^ p0.toNat
  · rw [cmpZ, if_pos hc]
    refine SCmp.yes (decide_eq_true (by omega)) ?_
    refine SWrap.i64z (p0 - 1) rfl (by omega) ?_
    refine SWrap.i64z (p0 - 1 - 52) rfl (by omega) ?_
    obtain ⟨p, hp⟩ : ∃ p, p = p0 - 1 := ⟨_, rfl⟩
    rw [← hp] at l1 ⊢
    have h1 : p2 p ≤ (q.num.natAbs : Rat) / (q.den : Rat) := by grind
    have h2 : (q.num.natAbs : Rat) / (q.den : Rat) < p2 (p + 1) := by rw [show p + 1 = p0 by omega]; exact hlt.1 hc
    obtain ⟨A, hA⟩ : ∃ A, A = max (p - 52) (-1074) := ⟨_, rfl⟩
    obtain ⟨N, hN⟩ : ∃ N, N = q.num.natAbs * 2 ^ (-A).toNat := ⟨_, rfl⟩
    obtain ⟨D, hD⟩ : ∃ D, D = q.den * 2 ^ (-(-A)).toNat := ⟨_, rfl⟩
    have hD0 : D ≠ 0 := by rw [hD]; exact Nat.ne_of_gt (Nat.mul_pos (by have := q.den_nz; omega) (Nat.two_pow_pos _))
    have hbN : bitLen N ≤ 1048576 := by rw [hN]; have := bits_shl q.num.natAbs (-A).toNat; omega
    have hbD : bitLen D ≤ 1048576 := by rw [hD]; have := bits_shl q.den (-(-A)).toNat; omega
    obtain ⟨t, ht, hv, hvt, hcut, hund⟩ := rof_cut hn0 q.den_nz h1 h2 hA hN hD
    have hA2 : A ≤ 131072 := by omega
    rw [← hcut.out]
    refine SZ.mk A (by rw [hA]; exact max_ite _ _) ?_
    refine SWrap.i64z (-A) (by omega) (by omega) ?_
    refine SCall.pureT (rshift_ok q.num.natAbs q.den (-A) (by omega) (by omega) (by omega)) (fun _ => rfl) ?_
    rw [← hN, ← hD]
    refine SCall.pureT (rdiv_ok false false N D hD0 hbN hbD) (fun _ => rfl) ?_
    refine SCall.pureT (rsmall_ok false (N / D) (by omega)) (fun _ => rfl) ?_
    have hlr : (nl (N % D)).length = nlen (N % D) := rfl
    refine SZ.mk (nlen (N % D) : Int) (by simp [hlr]) ?_
    by_cases h0 : N % D = 0
    · have := nlen_zero_iff.2 h0
      refine SCmp.no (decide_eq_false (by omega)) ?_
      rw [out_ref (u := p < -1022) (w := N / D) hD0 (by rw [if_neg fun h => h.1 h0]) hund, show (if N % D ≠ 0 then (if p < -1022 then (3 : Int) else 1) else 0) = 0 from if_neg fun h => h h0]
      subst ht
      refine SCall.pureT (pack_ok _ (N / D) t mode 0 (by omega) (by omega) (by omega)) (fun _ => rfl) ?_
      exact SRet.pure (.tup rfl fun i c d e1 e2 => by
        match i, e1, e2 with
        | 0, e1, e2 => cases e1; cases e2; exact .p _ (.int _ _)
        | 1, e1, e2 => cases e1; cases e2; exact .p _ (.int _ _))
    · have := mt nlen_zero_iff.1 h0
      refine SCmp.yes (decide_eq_true (by omega)) ?_
      have hup : ∀ b : Bool, goUp mode (decide (q.num < 0)) true (decide (N / D % 2 = 1)) (cmpZ (N % D * 2) D) = b → (if 9218868437227405312 ≤ (if b then N / D + 1 else N / D) + t * 4503599627370496 then (sg (decide (q.num < 0)) (lim (decide (q.num < 0)) mode), (5 : Int)) else (sg (decide (q.num < 0)) ((if b then N / D + 1 else N / D) + t * 4503599627370496), if p < -1022 then 3 else 1)) = out (decide (q.num < 0)) (N / D + t * 4503599627370496) (decide (N % D ≠ 0)) (cmpZ (N % D * 2) D) mode := fun b hb => by
        rw [out_ref (u := p < -1022) (w := if b then N / D + 1 else N / D) hD0 ?_ hund, if_pos h0]
        cases b with
        | true => rw [if_pos rfl, if_pos ⟨h0, hb⟩]
        | false => rw [if_neg Bool.false_ne_true, if_neg fun h => by rw [hb] at h; exact Bool.false_ne_true h.2]
      by_cases hu0 : p < -1022
      · refine SCmp.yes (decide_eq_true (by omega)) ?_
        rw [if_pos hu0] at hup
        have hn1 : nlen (N % D) ≤ nlen D := nlen_mono (Nat.le_of_lt (Nat.mod_lt N (Nat.pos_of_ne_zero hD0)))
        have hn4 := nlen_bitLen D
        have hn2 : nlen (N % D * 2 ^ 1) ≤ 1048580 := by have := nlen_shl (N % D) 1; omega
        have hn3 := nlen_bitLen D
        refine SDraw.mk (by kernel_rfl) ?_
        repeat refine SOp.mk _ _ (And.intro rfl rfl) rfl ?_
        refine SOp.mk _ _ (SCall.pure (rshl_ok false (N % D) 1 (by omega) (by omega)) (And.intro rfl rfl)) rfl ?_
        repeat refine SOp.mk _ _ (And.intro rfl rfl) rfl ?_
        refine SOp.mk _ _ (SCall.pure (rcmp_ok false false (N % D * 2 ^ 1) D (by omega) (by omega)) (And.intro rfl rfl)) rfl ?_
        rw [Nat.pow_one]
        repeat refine SOp.mk _ _ (And.intro rfl rfl) rfl ?_
        refine SOp.mk _ _ (SNe.mk (by decide) <| SZ.mk ((N / D % 2 : Nat) : Int) ((Int.tmod_eq_emod_of_nonneg (Int.natCast_nonneg (N / D))).trans rfl) (And.intro rfl rfl)) rfl ?_
        rw [show decide (N / D % 2 = 1) = (((N / D % 2 : Nat) : Int) == 1) by
          by_cases h : N / D % 2 = 1
          · rw [decide_eq_true h, eqT (by omega)]
          · rw [decide_eq_false h, eqF (by omega)]] at hup
        refine SOp.mk _ _ (SCmp.sym (And.intro rfl rfl)) rfl ?_
        repeat refine SOp.mk _ _ (And.intro rfl rfl) rfl ?_
        refine SOp.mk _ _ (SCall.pure (rup_ok (decide (q.num < 0)) (cmpZ (N % D * 2) D) (((N / D % 2 : Nat) : Int) == 1) mode) (And.intro rfl rfl)) rfl ?_
        refine SCond.mk (fun hg => ?_) (fun hg => ?_)
        · rw [← hup _ hg, if_pos rfl]
          refine SWrap.u64z (N / D + 1) (by omega) (by omega) ?_
          subst ht
          refine SCall.pureT (pack_ok _ (N / D + 1) t mode 3 (by omega) (by omega) (by omega)) (fun _ => rfl) ?_
          exact SRet.pure (.tup rfl fun i c d e1 e2 => by
            match i, e1, e2 with
            | 0, e1, e2 => cases e1; cases e2; exact .p _ (.int _ _)
            | 1, e1, e2 => cases e1; cases e2; exact .p _ (.int _ _))
        · rw [← hup _ hg, if_neg Bool.false_ne_true]
          subst ht
          refine SCall.pureT (pack_ok _ (N / D) t mode 3 (by omega) (by omega) (by omega)) (fun _ => rfl) ?_
          exact SRet.pure (.tup rfl fun i c d e1 e2 => by
            match i, e1, e2 with
            | 0, e1, e2 => cases e1; cases e2; exact .p _ (.int _ _)
            | 1, e1, e2 => cases e1; cases e2; exact .p _ (.int _ _))
      · refine SCmp.no (decide_eq_false (by omega)) ?_
        rw [if_neg hu0] at hup
        have hn1 : nlen (N % D) ≤ nlen D := nlen_mono (Nat.le_of_lt (Nat.mod_lt N (Nat.pos_of_ne_zero hD0)))
        have hn4 := nlen_bitLen D
        have hn2 : nlen (N % D * 2 ^ 1) ≤ 1048580 := by have := nlen_shl (N % D) 1; omega
        have hn3 := nlen_bitLen D
        refine SDraw.mk (by kernel_rfl) ?_
        repeat refine SOp.mk _ _ (And.intro rfl rfl) rfl ?_
        refine SOp.mk _ _ (SCall.pure (rshl_ok false (N % D) 1 (by omega) (by omega)) (And.intro rfl rfl)) rfl ?_
        repeat refine SOp.mk _ _ (And.intro rfl rfl) rfl ?_
        refine SOp.mk _ _ (SCall.pure (rcmp_ok false false (N % D * 2 ^ 1) D (by omega) (by omega)) (And.intro rfl rfl)) rfl ?_
        rw [Nat.pow_one]
        repeat refine SOp.mk _ _ (And.intro rfl rfl) rfl ?_
        refine SOp.mk _ _ (SNe.mk (by decide) <| SZ.mk ((N / D % 2 : Nat) : Int) ((Int.tmod_eq_emod_of_nonneg (Int.natCast_nonneg (N / D))).trans rfl) (And.intro rfl rfl)) rfl ?_
        rw [show decide (N / D % 2 = 1) = (((N / D % 2 : Nat) : Int) == 1) by
          by_cases h : N / D % 2 = 1
          · rw [decide_eq_true h, eqT (by omega)]
          · rw [decide_eq_false h, eqF (by omega)]] at hup
        refine SOp.mk _ _ (SCmp.sym (And.intro rfl rfl)) rfl ?_
        repeat refine SOp.mk _ _ (And.intro rfl rfl) rfl ?_
        refine SOp.mk _ _ (SCall.pure (rup_ok (decide (q.num < 0)) (cmpZ (N % D * 2) D) (((N / D % 2 : Nat) : Int) == 1) mode) (And.intro rfl rfl)) rfl ?_
        refine SCond.mk (fun hg => ?_) (fun hg => ?_)
        · rw [← hup _ hg, if_pos rfl]
          refine SWrap.u64z (N / D + 1) (by omega) (by omega) ?_
          subst ht
          refine SCall.pureT (pack_ok _ (N / D + 1) t mode 1 (by omega) (by omega) (by omega)) (fun _ => rfl) ?_
          exact SRet.pure (.tup rfl fun i c d e1 e2 => by
            match i, e1, e2 with
            | 0, e1, e2 => cases e1; cases e2; exact .p _ (.int _ _)
            | 1, e1, e2 => cases e1; cases e2; exact .p _ (.int _ _))
        · rw [← hup _ hg, if_neg Bool.false_ne_true]
          subst ht
          refine SCall.pureT (pack_ok _ (N / D) t mode 1 (by omega) (by omega) (by omega)) (fun _ => rfl) ?_
          exact SRet.pure (.tup rfl fun i c d e1 e2 => by
            match i, e1, e2 with
            | 0, e1, e2 => cases e1; cases e2; exact .p _ (.int _ _)
            | 1, e1, e2 => cases e1; cases e2; exact .p _ (.int _ _))
  · have hcz : ¬ cmpZ (q.num.natAbs * 2 ^ (-p0).toNat) (q.den * 2 ^ p0.toNat) < 0 := by rw [cmpZ, if_neg hc]; split <;> omega
    refine SCmp.no (decide_eq_false (by exact hcz)) ?_
    refine SWrap.i64z (p0 - 52) rfl (by omega) ?_
    obtain ⟨p, hp⟩ : ∃ p, p = p0 := ⟨_, rfl⟩
    rw [← hp] at l2 hlt ⊢
    have h1 : p2 p ≤ (q.num.natAbs : Rat) / (q.den : Rat) := Rat.not_lt.1 fun h => hc (by rw [← hp]; exact hlt.2 h)
    have h2 := l2
    obtain ⟨A, hA⟩ : ∃ A, A = max (p - 52) (-1074) := ⟨_, rfl⟩
    obtain ⟨N, hN⟩ : ∃ N, N = q.num.natAbs * 2 ^ (-A).toNat := ⟨_, rfl⟩
    obtain ⟨D, hD⟩ : ∃ D, D = q.den * 2 ^ (-(-A)).toNat := ⟨_, rfl⟩
    have hD0 : D ≠ 0 := by rw [hD]; exact Nat.ne_of_gt (Nat.mul_pos (by have := q.den_nz; omega) (Nat.two_pow_pos _))
    have hbN : bitLen N ≤ 1048576 := by rw [hN]; have := bits_shl q.num.natAbs (-A).toNat; omega
    have hbD : bitLen D ≤ 1048576 := by rw [hD]; have := bits_shl q.den (-(-A)).toNat; omega
    obtain ⟨t, ht, hv, hvt, hcut, hund⟩ := rof_cut hn0 q.den_nz h1 h2 hA hN hD
    have hA2 : A ≤ 131072 := by omega
    rw [← hcut.out]
    refine SZ.mk A (by rw [hA]; exact max_ite _ _) ?_
    refine SWrap.i64z (-A) (by omega) (by omega) ?_
    refine SCall.pureT (rshift_ok q.num.natAbs q.den (-A) (by omega) (by omega) (by omega)) (fun _ => rfl) ?_
    rw [← hN, ← hD]
    refine SCall.pureT (rdiv_ok false false N D hD0 hbN hbD) (fun _ => rfl) ?_
    refine SCall.pureT (rsmall_ok false (N / D) (by omega)) (fun _ => rfl) ?_
    have hlr : (nl (N % D)).length = nlen (N % D) := rfl
    refine SZ.mk (nlen (N % D) : Int) (by simp [hlr]) ?_
    by_cases h0 : N % D = 0
    · have := nlen_zero_iff.2 h0
      refine SCmp.no (decide_eq_false (by omega)) ?_
      rw [out_ref (u := p < -1022) (w := N / D) hD0 (by rw [if_neg fun h => h.1 h0]) hund, show (if N % D ≠ 0 then (if p < -1022 then (3 : Int) else 1) else 0) = 0 from if_neg fun h => h h0]
      subst ht
      refine SCall.pureT (pack_ok _ (N / D) t mode 0 (by omega) (by omega) (by omega)) (fun _ => rfl) ?_
      exact SRet.pure (.tup rfl fun i c d e1 e2 => by
        match i, e1, e2 with
        | 0, e1, e2 => cases e1; cases e2; exact .p _ (.int _ _)
        | 1, e1, e2 => cases e1; cases e2; exact .p _ (.int _ _))
    · have := mt nlen_zero_iff.1 h0
      refine SCmp.yes (decide_eq_true (by omega)) ?_
      have hup : ∀ b : Bool, goUp mode (decide (q.num < 0)) true (decide (N / D % 2 = 1)) (cmpZ (N % D * 2) D) = b → (if 9218868437227405312 ≤ (if b then N / D + 1 else N / D) + t * 4503599627370496 then (sg (decide (q.num < 0)) (lim (decide (q.num < 0)) mode), (5 : Int)) else (sg (decide (q.num < 0)) ((if b then N / D + 1 else N / D) + t * 4503599627370496), if p < -1022 then 3 else 1)) = out (decide (q.num < 0)) (N / D + t * 4503599627370496) (decide (N % D ≠ 0)) (cmpZ (N % D * 2) D) mode := fun b hb => by
        rw [out_ref (u := p < -1022) (w := if b then N / D + 1 else N / D) hD0 ?_ hund, if_pos h0]
        cases b with
        | true => rw [if_pos rfl, if_pos ⟨h0, hb⟩]
        | false => rw [if_neg Bool.false_ne_true, if_neg fun h => by rw [hb] at h; exact Bool.false_ne_true h.2]
      by_cases hu0 : p < -1022
      · refine SCmp.yes (decide_eq_true (by omega)) ?_
        rw [if_pos hu0] at hup
        have hn1 : nlen (N % D) ≤ nlen D := nlen_mono (Nat.le_of_lt (Nat.mod_lt N (Nat.pos_of_ne_zero hD0)))
        have hn4 := nlen_bitLen D
        have hn2 : nlen (N % D * 2 ^ 1) ≤ 1048580 := by have := nlen_shl (N % D) 1; omega
        have hn3 := nlen_bitLen D
        refine SDraw.mk (by kernel_rfl) ?_
        repeat refine SOp.mk _ _ (And.intro rfl rfl) rfl ?_
        refine SOp.mk _ _ (SCall.pure (rshl_ok false (N % D) 1 (by omega) (by omega)) (And.intro rfl rfl)) rfl ?_
        repeat refine SOp.mk _ _ (And.intro rfl rfl) rfl ?_
        refine SOp.mk _ _ (SCall.pure (rcmp_ok false false (N % D * 2 ^ 1) D (by omega) (by omega)) (And.intro rfl rfl)) rfl ?_
        rw [Nat.pow_one]
        repeat refine SOp.mk _ _ (And.intro rfl rfl) rfl ?_
        refine SOp.mk _ _ (SNe.mk (by decide) <| SZ.mk ((N / D % 2 : Nat) : Int) ((Int.tmod_eq_emod_of_nonneg (Int.natCast_nonneg (N / D))).trans rfl) (And.intro rfl rfl)) rfl ?_
        rw [show decide (N / D % 2 = 1) = (((N / D % 2 : Nat) : Int) == 1) by
          by_cases h : N / D % 2 = 1
          · rw [decide_eq_true h, eqT (by omega)]
          · rw [decide_eq_false h, eqF (by omega)]] at hup
        refine SOp.mk _ _ (SCmp.sym (And.intro rfl rfl)) rfl ?_
        repeat refine SOp.mk _ _ (And.intro rfl rfl) rfl ?_
        refine SOp.mk _ _ (SCall.pure (rup_ok (decide (q.num < 0)) (cmpZ (N % D * 2) D) (((N / D % 2 : Nat) : Int) == 1) mode) (And.intro rfl rfl)) rfl ?_
        refine SCond.mk (fun hg => ?_) (fun hg => ?_)
        · rw [← hup _ hg, if_pos rfl]
          refine SWrap.u64z (N / D + 1) (by omega) (by omega) ?_
          subst ht
          refine SCall.pureT (pack_ok _ (N / D + 1) t mode 3 (by omega) (by omega) (by omega)) (fun _ => rfl) ?_
          exact SRet.pure (.tup rfl fun i c d e1 e2 => by
            match i, e1, e2 with
            | 0, e1, e2 => cases e1; cases e2; exact .p _ (.int _ _)
            | 1, e1, e2 => cases e1; cases e2; exact .p _ (.int _ _))
        · rw [← hup _ hg, if_neg Bool.false_ne_true]
          subst ht
          refine SCall.pureT (pack_ok _ (N / D) t mode 3 (by omega) (by omega) (by omega)) (fun _ => rfl) ?_
          exact SRet.pure (.tup rfl fun i c d e1 e2 => by
            match i, e1, e2 with
            | 0, e1, e2 => cases e1; cases e2; exact .p _ (.int _ _)
            | 1, e1, e2 => cases e1; cases e2; exact .p _ (.int _ _))
      · refine SCmp.no (decide_eq_false (by omega)) ?_
        rw [if_neg hu0] at hup
        have hn1 : nlen (N % D) ≤ nlen D := nlen_mono (Nat.le_of_lt (Nat.mod_lt N (Nat.pos_of_ne_zero hD0)))
        have hn4 := nlen_bitLen D
        have hn2 : nlen (N % D * 2 ^ 1) ≤ 1048580 := by have := nlen_shl (N % D) 1; omega
        have hn3 := nlen_bitLen D
        refine SDraw.mk (by kernel_rfl) ?_
        repeat refine SOp.mk _ _ (And.intro rfl rfl) rfl ?_
        refine SOp.mk _ _ (SCall.pure (rshl_ok false (N % D) 1 (by omega) (by omega)) (And.intro rfl rfl)) rfl ?_
        repeat refine SOp.mk _ _ (And.intro rfl rfl) rfl ?_
        refine SOp.mk _ _ (SCall.pure (rcmp_ok false false (N % D * 2 ^ 1) D (by omega) (by omega)) (And.intro rfl rfl)) rfl ?_
        rw [Nat.pow_one]
        repeat refine SOp.mk _ _ (And.intro rfl rfl) rfl ?_
        refine SOp.mk _ _ (SNe.mk (by decide) <| SZ.mk ((N / D % 2 : Nat) : Int) ((Int.tmod_eq_emod_of_nonneg (Int.natCast_nonneg (N / D))).trans rfl) (And.intro rfl rfl)) rfl ?_
        rw [show decide (N / D % 2 = 1) = (((N / D % 2 : Nat) : Int) == 1) by
          by_cases h : N / D % 2 = 1
          · rw [decide_eq_true h, eqT (by omega)]
          · rw [decide_eq_false h, eqF (by omega)]] at hup
        refine SOp.mk _ _ (SCmp.sym (And.intro rfl rfl)) rfl ?_
        repeat refine SOp.mk _ _ (And.intro rfl rfl) rfl ?_
        refine SOp.mk _ _ (SCall.pure (rup_ok (decide (q.num < 0)) (cmpZ (N % D * 2) D) (((N / D % 2 : Nat) : Int) == 1) mode) (And.intro rfl rfl)) rfl ?_
        refine SCond.mk (fun hg => ?_) (fun hg => ?_)
        · rw [← hup _ hg, if_pos rfl]
          refine SWrap.u64z (N / D + 1) (by omega) (by omega) ?_
          subst ht
          refine SCall.pureT (pack_ok _ (N / D + 1) t mode 1 (by omega) (by omega) (by omega)) (fun _ => rfl) ?_
          exact SRet.pure (.tup rfl fun i c d e1 e2 => by
            match i, e1, e2 with
            | 0, e1, e2 => cases e1; cases e2; exact .p _ (.int _ _)
            | 1, e1, e2 => cases e1; cases e2; exact .p _ (.int _ _))
        · rw [← hup _ hg, if_neg Bool.false_ne_true]
          subst ht
          refine SCall.pureT (pack_ok _ (N / D) t mode 1 (by omega) (by omega) (by omega)) (fun _ => rfl) ?_
          exact SRet.pure (.tup rfl fun i c d e1 e2 => by
            match i, e1, e2 with
            | 0, e1, e2 => cases e1; cases e2; exact .p _ (.int _ _)
            | 1, e1, e2 => cases e1; cases e2; exact .p _ (.int _ _))
end Go.Proofs.Ytjcmiedpgabdbaa
