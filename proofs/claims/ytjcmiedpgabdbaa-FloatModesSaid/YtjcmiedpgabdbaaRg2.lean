/- The document's floats: Sqrt, Fma. -/
import Derived.Test.YtjcmiedpgabdbaaRg1
namespace Go.Proofs.Ytjcmiedpgabdbaa
open Go
set_option linter.unusedVariables false
set_option linter.unusedSimpArgs false
set_option maxRecDepth 10000

theorem rroot_ok (m : Bool) (a r0 : Nat) (hb : bitLen a ≤ 4096) (h0 : IsSq a r0) : CallP Try.prog 111 [natM m a] (.p (natP r0)) [] := by
  have hna := nlen_bitLen a
  obtain ⟨k, hk⟩ : ∃ k, k = (bitLen a + 1) / 2 := ⟨_, rfl⟩
  refine callG_of_vc (wr := wr0) Γok mixed Try.func111 (by kernel_rfl) rfl (by kernel_rfl) (le_of_ble rfl) (by simp) ?_
  refine SCall.pure (rof_ok 0 (by omega)) ?_
  refine SCall.pure (rbits_ok m a (by omega)) ?_
  refine SWrap.i64z ((bitLen a + 1 : Nat) : Int) (by omega) (by omega) ?_
  refine SNe.mk (by decide) ?_
  refine SWrap.i64z (k : Int) (by rw [Int.tdiv_eq_ediv_of_nonneg (by omega)]; omega) (by omega) ?_
  refine SLoop.mk (Nat × Nat) (fun (r, j) => ([(0, .p (natM m a)), (3, .p (natP r)), (4, .p (.int .i64 ((j : Int) - 1)))], [])) (fun (r, j) => r * r ≤ a ∧ a < (r + 2 ^ j) * (r + 2 ^ j) ∧ j ≤ k + 1) (fun x => x.2) (0, k + 1) []
    ⟨Nat.zero_le _, ?_, Nat.le_refl _⟩ ⟨rfl, .nil, rfl, rfl, rfl, ⟨rfl, rfl, ?_, trivial⟩, trivial⟩ ?_
  · have h1 := bitLen_lt a
    have h2 : 2 ^ bitLen a ≤ 2 ^ ((k + 1) + (k + 1)) := Nat.pow_le_pow_right (by omega) (by omega)
    rw [Nat.pow_add] at h2
    show a < (0 + 2 ^ (k + 1)) * (0 + 2 ^ (k + 1))
    rw [Nat.zero_add]
    omega
  · show AV.p (.int .i64 (((k + 1 : Nat) : Int) - 1)) = .p (.int .i64 k)
    rw [show ((k + 1 : Nat) : Int) - 1 = k by omega]
  intro ⟨r, j⟩ ⟨h1, h2, h3⟩
  have h1 : r * r ≤ a := h1
  have h2 : a < (r + 2 ^ j) * (r + 2 ^ j) := h2
  have h3 : j ≤ k + 1 := h3
  by_cases hj : 0 < j
  · refine SCmp.yes (decide_eq_true (by omega)) ?_
    obtain ⟨i, rfl⟩ : ∃ i, j = i + 1 := ⟨j - 1, by omega⟩
    have hra : r ≤ a := by
      rcases Nat.eq_zero_or_pos r with h | h
      · omega
      · have : r * 1 ≤ r * r := Nat.mul_le_mul_left _ h
        omega
    have nr := nlen_mono hra
    refine SCall.pure (rof_ok 1 (by omega)) ?_
    have hsh := rshl_ok false 1 i (by have := nlen_le (n := 1) (k := 1) (by decide); omega) (by omega)
    rw [Nat.one_mul, show (i : Int) = ((i + 1 : Nat) : Int) - 1 by omega] at hsh
    refine SCall.pure (hsh) ?_
    have np := nlen_bitLen (2 ^ i)
    have bp := bits_pow i
    refine SCall.pure (radd_ok false false r (2 ^ i) (by omega) (by omega)) ?_
    have nt := nlen_add r (2 ^ i)
    obtain ⟨t, ht⟩ : ∃ t, t = r + 2 ^ i := ⟨_, rfl⟩
    rw [← ht] at nt ⊢
    refine SCall.pure (rmul_ok false false t t (by omega) (by omega)) ?_
    have nt2 := nlen_mul t t
    refine SCall.pure (rcmp_ok false m (t * t) a (by omega) (by omega)) ?_
    by_cases hle : t * t ≤ a
    · have hcz : cmpZ (t * t) a ≤ 0 := by
        unfold cmpZ
        split
        · omega
        · split <;> omega
      refine SCmp.yes (decide_eq_true (by exact hcz)) ?_
      refine SWrap.i64z ((i : Int) - 1) (by omega) (by omega) ?_
      refine ⟨(t, i), [], ⟨hle, ?_, by omega⟩, by show i < i + 1; omega, ⟨rfl, .nil, rfl, rfl, rfl, ⟨rfl, rfl, rfl, trivial⟩, trivial⟩⟩
      have e : t + 2 ^ i = r + 2 ^ (i + 1) := by rw [ht, Nat.pow_succ]; omega
      rw [e]; exact h2
    · have hcz : ¬ cmpZ (t * t) a ≤ 0 := by unfold cmpZ; rw [if_neg (by omega), if_neg (by omega)]; omega
      refine SCmp.no (decide_eq_false (by exact hcz)) ?_
      refine SWrap.i64z ((i : Int) - 1) (by omega) (by omega) ?_
      refine ⟨(r, i), [], ⟨h1, ?_, by omega⟩, by show i < i + 1; omega, ⟨rfl, .nil, rfl, rfl, rfl, ⟨rfl, rfl, rfl, trivial⟩, trivial⟩⟩
      rw [← ht]; omega
  · refine SCmp.no (decide_eq_false (by omega)) ?_
    have : j = 0 := by omega
    subst this
    have : r = r0 := IsSq.uniq ⟨h1, h2⟩ h0
    subst this
    exact SRet.pure (.p _ (.sl _ _ (pers_limbs _)))

theorem out_sq {v t x : Nat} {mode : Int} {w : Nat} (hv : 4503599627370496 ≤ v) (hw : w = if v * v ≠ x ∧ goUp mode false true (decide (v % 2 = 1)) (cmpZ (x * 4) ((v * 2 + 1) * (v * 2 + 1))) = true then v + 1 else v) :
    out false (v + t * 4503599627370496) (decide (v * v ≠ x)) (cmpZ (x * 4) ((v * 2 + 1) * (v * 2 + 1))) mode = if 9218868437227405312 ≤ w + t * 4503599627370496 then (sg false (lim false mode), 5) else (sg false (w + t * 4503599627370496), if v * v ≠ x then 1 else 0) := by
  have hodd : decide ((v + t * 4503599627370496) % 2 = 1) = decide (v % 2 = 1) := by
    by_cases h : v % 2 = 1
    · rw [decide_eq_true h, decide_eq_true (by omega)]
    · rw [decide_eq_false h, decide_eq_false (by omega)]
  have hup : upc false (v + t * 4503599627370496) (decide (v * v ≠ x)) (cmpZ (x * 4) ((v * 2 + 1) * (v * 2 + 1))) mode = w + t * 4503599627370496 := by
    rw [upc, hodd, hw]
    by_cases h : v * v = x
    · have e : (v * 2 + 1) * (v * 2 + 1) = v * v * 4 + (v * 4 + 1) := by grind
      rw [decide_eq_false (by simp [h]), show cmpZ (x * 4) ((v * 2 + 1) * (v * 2 + 1)) = -1 by rw [cmpZ, if_pos (by omega)], goUp_no, if_neg (by simp), if_neg (by simp [h])]
    · rw [decide_eq_true h]
      by_cases h2 : goUp mode false true (decide (v % 2 = 1)) (cmpZ (x * 4) ((v * 2 + 1) * (v * 2 + 1))) = true
      · rw [if_pos h2, if_pos ⟨h, h2⟩]; omega
      · rw [if_neg h2, if_neg fun h3 => h2 h3.2]
  rw [out, hup]
  by_cases h : 9218868437227405312 ≤ w + t * 4503599627370496
  · rw [if_pos h, if_pos h]
  · rw [if_neg h, if_neg h]
    by_cases h2 : v * v = x
    · rw [if_neg (by simp [h2]), if_neg (by simp [h2])]
    · rw [if_pos (by simp [h2]), if_pos h2, if_neg (by omega)]

theorem sq_ref {m x v h t : Nat} {e u : Int} (hm : m ≠ 0) (hx : x = m * 2 ^ (e - 2 * u).toNat) (hu : 2 * u ≤ e) (h1 : 2 ^ 104 ≤ x) (h2 : x < 2 ^ 106) (hv : IsSq x v) (ht : u = (t : Int) - 1074) (mode : Int) :
    4503599627370496 ≤ v ∧ v < 9007199254740992 ∧ sqrtQ ((m : Rat) * p2 e) mode = out false (v + t * 4503599627370496) (decide (v * v ≠ x)) (cmpZ (x * 4) ((v * 2 + 1) * (v * 2 + 1))) mode := by
  have v1 : 4503599627370496 ≤ v := hv.le.1 (by
    have : (4503599627370496 : Nat) * 4503599627370496 = 2 ^ 104 := by decide
    omega)
  have v2 : v < 9007199254740992 := sq_lt.1 (by
    have : (9007199254740992 : Nat) * 9007199254740992 = 2 ^ 106 := by decide
    have := hv.1
    omega)
  refine ⟨v1, v2, ?_⟩
  have hX : (m : Rat) * p2 e = (x : Rat) * p2 (u + u) := by rw [hx, show u + u = 2 * u by omega]; exact p2_natmul m hu
  obtain ⟨c1, c2⟩ := fval_code (v := v) (t := t) v2 (.inl v1)
  rw [← ht] at c1 c2
  have c3 := fval_succ (v + t * 4503599627370496)
  rw [c1, c2] at c3
  have hg := p2_pos (u + u)
  have hgg : p2 (u + u) = p2 u * p2 u := p2_add u u
  have s1 : (v : Rat) * p2 u * ((v : Rat) * p2 u) = ((v * v : Nat) : Rat) * p2 (u + u) := by rw [hgg, Rat.natCast_mul]; grind
  have s2 : ((v : Rat) * p2 u + p2 u) * ((v : Rat) * p2 u + p2 u) = (((v + 1) * (v + 1) : Nat) : Rat) * p2 (u + u) := by
    rw [hgg, Rat.natCast_mul, Rat.natCast_add]
    show _ = ((v : Rat) + 1) * ((v : Rat) + 1) * (p2 u * p2 u)
    grind
  have s3 : ((v : Rat) * p2 u + ((v : Rat) * p2 u + p2 u)) * ((v : Rat) * p2 u + ((v : Rat) * p2 u + p2 u)) = (((v * 2 + 1) * (v * 2 + 1) : Nat) : Rat) * p2 (u + u) := by
    rw [hgg, Rat.natCast_mul, Rat.natCast_add, Rat.natCast_mul]
    show _ = ((v : Rat) * 2 + 1) * ((v : Rat) * 2 + 1) * (p2 u * p2 u)
    grind
  have hCS : IsCS ((m : Rat) * p2 e) (v + t * 4503599627370496) := by
    rw [IsCS, c3, c1, s1, s2, hX]
    exact ⟨mul_le_q (natq_le.2 hv.1) hg, mul_lt_q (natq_lt.2 hv.2) hg⟩
  rw [sqrtQ, cS_eq hCS, c3, c1, s1, s3, hX]
  congr 1
  · by_cases h : v * v = x
    · rw [h, decide_eq_false (by simp), decide_eq_false (by simp)]
    · rw [decide_eq_true h]
      refine decide_eq_true ?_
      intro h2
      have := le_of_mul (a := ((v * v : Nat) : Rat)) (b := (x : Rat)) (c := p2 (u + u)) (by rw [h2]; exact Rat.le_refl) hg
      have := le_of_mul (a := (x : Rat)) (b := ((v * v : Nat) : Rat)) (c := p2 (u + u)) (by rw [h2]; exact Rat.le_refl) hg
      have h3 := natq_le.1 this
      have h4 := hv.1
      omega
  · obtain ⟨H, hH⟩ : ∃ H, H = (v * 2 + 1) * (v * 2 + 1) := ⟨_, rfl⟩
    rw [← hH]
    have hx4 : 4 * ((x : Rat) * p2 (u + u)) = ((x * 4 : Nat) : Rat) * p2 (u + u) := by rw [Rat.natCast_mul]; show _ = (x : Rat) * 4 * p2 (u + u); grind
    rw [hx4]
    unfold cmpR cmpZ
    rcases Nat.lt_trichotomy (x * 4) H with h | h | h
    · rw [if_pos (mul_lt_q (natq_lt.2 h) hg), if_pos h]
    · rw [h, if_neg (by grind), if_neg (by grind), if_neg (by omega), if_pos rfl]
    · have := mul_lt_q (natq_lt.2 h) hg
      rw [if_neg (by grind), if_pos this, if_neg (by omega), if_neg (by omega)]

theorem even_bits {m : Nat} (hm : m ≠ 0) (hb : bitLen m ≤ 53) {e p h : Int} (hp : p = (bitLen m : Int) - 1 + e ∨ p = (bitLen m : Int) - 1 + e - 1) (hh : p = h + h) :
    2 ^ 104 ≤ m * 2 ^ (e - 2 * (h - 52)).toNat ∧ m * 2 ^ (e - 2 * (h - 52)).toNat < 2 ^ 106 ∧ 2 * (h - 52) ≤ e := by
  have hb0 : bitLen m ≠ 0 := mt bitLen_zero_iff.1 hm
  have h1 := bitLen_pos hm
  have h2 := bitLen_lt m
  obtain ⟨k, hk⟩ : ∃ k, k = (e - 2 * (h - 52)).toNat := ⟨_, rfl⟩
  rw [← hk]
  refine ⟨?_, ?_, by omega⟩
  · have h3 : 2 ^ (bitLen m - 1) * 2 ^ k ≤ m * 2 ^ k := Nat.mul_le_mul_right _ h1
    rw [← Nat.pow_add] at h3
    have h4 : 2 ^ 104 ≤ 2 ^ (bitLen m - 1 + k) := Nat.pow_le_pow_right (by omega) (by omega)
    omega
  · have h3 : m * 2 ^ k < 2 ^ bitLen m * 2 ^ k := Nat.mul_lt_mul_of_pos_right h2 (Nat.two_pow_pos k)
    rw [← Nat.pow_add] at h3
    have h4 : 2 ^ (bitLen m + k) ≤ 2 ^ 106 := Nat.pow_le_pow_right (by omega) (by omega)
    omega

end Go.Proofs.Ytjcmiedpgabdbaa
