/- Floats: quotients; whole roots; what a root is. -/
import Derived.Test.YtjcmiedpgabdbaaSg2
namespace Go.Proofs.Ytjcmiedpgabdbaa
open Go
set_option linter.unusedVariables false
set_option linter.unusedSimpArgs false
set_option maxRecDepth 10000

theorem fvq_div {a b : Nat} (hb : fsig (mag b) ≠ 0) : fvq a / fvq b = sval (ngt a != ngt b) ((fsig (mag a) : Rat) / (fsig (mag b) : Rat) * p2 (fexp (mag a) - fexp (mag b))) := by
  rw [fvq_sval, fvq_sval]
  have h1 := pos_q hb
  have h2 := p2_pos (fexp (mag b))
  have h3 : p2 (fexp (mag a)) = p2 (fexp (mag a) - fexp (mag b)) * p2 (fexp (mag b)) := by rw [← p2_add]; congr 1; omega
  rw [h3]
  generalize p2 (fexp (mag a) - fexp (mag b)) = u
  generalize p2 (fexp (mag b)) = w at *
  generalize (fsig (mag a) : Rat) = x
  generalize (fsig (mag b) : Rat) = y at *
  unfold sval
  cases ngt a <;> cases ngt b <;> simp <;> grind
theorem sfdiv_ok (a b : Nat) (mode : Int) (ha : a < 18446744073709551616) (hb : b < 18446744073709551616) : CallP Try.prog 43 [.int .u64 a, .int .u64 b, .int .i64 mode] (fpair (divF a b mode)) [] := by
  refine callG_of_vc (wr := wr0) Γok mixed Try.func43 (by kernel_rfl) rfl (by kernel_rfl) (le_of_ble rfl) (by simp) ?_
  unfold divF
  refine SCall.pure (below_ok a ha _ rfl) ?_
  refine SCall.pure (below_ok b hb _ rfl) ?_
  refine SCmp.sym ?_
  have hsg : ∀ c : Nat, c < 9223372036854775808 → CallP Try.prog 86 [.int .u64 c, .bool (!(ngt a == ngt b))] (.p (.int .u64 (sg (ngt a != ngt b) c))) [] := fun c hc => signed_ok c hc _
  refine SView.all rfl ?_
  cases hn : (isNan a || isNan b) with
  | true =>
    refine SCall.pure (nans2 ha hb _ hn) ?_
    refine SCond.mk (fun _ => ?_) (fun h => by cases h)
    exact SRet.pure (.tup rfl fun i c d e1 e2 => by
      match i, e1, e2 with
      | 0, e1, e2 => cases e1; cases e2; exact .p _ (.int _ _)
      | 1, e1, e2 => cases e1; cases e2; exact .p _ (.int _ _))
  | false =>
    refine SCall.pure (nans2 ha hb _ hn) ?_
    refine SCond.mk (fun h => by cases h) (fun _ => ?_)
    rw [if_neg Bool.false_ne_true]
    cases hia : isInf a with
    | true =>
      have hza : isZ a = false := by unfold isInf at hia; unfold isZ; have := of_decide_eq_true hia; exact decide_eq_false (by omega)
      refine SCall.pure (infinite_ok a ha _ hia) ?_
      refine SCond.mk (fun _ => ?_) (fun h => by cases h)
      cases hib : isInf b with
      | true =>
        refine SCall.pure (infinite_ok b hb _ hib) ?_
        refine SCond.mk (fun _ => ?_) (fun h => by cases h)
        rw [if_pos (by simp)]
        refine SCall.pureT (wrong_ok) (fun _ => rfl) ?_
        exact SRet.pure (.tup rfl fun i c d e1 e2 => by
          match i, e1, e2 with
          | 0, e1, e2 => cases e1; cases e2; exact .p _ (.int _ _)
          | 1, e1, e2 => cases e1; cases e2; exact .p _ (.int _ _))
      | false =>
        refine SCall.pure (infinite_ok b hb _ hib) ?_
        refine SCond.mk (fun h => by cases h) (fun _ => ?_)
        refine SCall.pure (nought_ok a ha _ hza) ?_
        refine SCond.mk (fun h => by cases h) (fun _ => ?_)
        rw [if_neg (by simp [hza]), if_pos rfl]
        refine SCall.pure (infinite_ok a ha _ hia) ?_
        refine SCond.mk (fun _ => ?_) (fun h => by cases h)
        refine SCall.pure (hsg 9218868437227405312 (by omega)) ?_
        exact SRet.pure (.tup rfl fun i c d e1 e2 => by
          match i, e1, e2 with
          | 0, e1, e2 => cases e1; cases e2; exact .p _ (.int _ _)
          | 1, e1, e2 => cases e1; cases e2; exact .p _ (.int _ _))
    | false =>
      refine SCall.pure (infinite_ok a ha _ hia) ?_
      refine SCond.mk (fun h => by cases h) (fun _ => ?_)
      cases hza : isZ a with
      | true =>
        refine SCall.pure (nought_ok a ha _ hza) ?_
        refine SCond.mk (fun _ => ?_) (fun h => by cases h)
        cases hzb : isZ b with
        | true =>
          refine SCall.pure (nought_ok b hb _ hzb) ?_
          refine SCond.mk (fun _ => ?_) (fun h => by cases h)
          rw [if_pos (by simp)]
          refine SCall.pureT (wrong_ok) (fun _ => rfl) ?_
          exact SRet.pure (.tup rfl fun i c d e1 e2 => by
            match i, e1, e2 with
            | 0, e1, e2 => cases e1; cases e2; exact .p _ (.int _ _)
            | 1, e1, e2 => cases e1; cases e2; exact .p _ (.int _ _))
        | false =>
          refine SCall.pure (nought_ok b hb _ hzb) ?_
          refine SCond.mk (fun h => by cases h) (fun _ => ?_)
          rw [if_neg (by simp), if_neg (by simp), if_neg (by simp), if_pos (by simp)]
          refine SCall.pure (infinite_ok a ha _ hia) ?_
          refine SCond.mk (fun h => by cases h) (fun _ => ?_)
          refine SCall.pure (nought_ok b hb _ hzb) ?_
          refine SCond.mk (fun h => by cases h) (fun _ => ?_)
          cases hib : isInf b with
          | true =>
            refine SCall.pure (infinite_ok b hb _ hib) ?_
            refine SCond.mk (fun _ => ?_) (fun h => by cases h)
            refine SCall.pure (hsg 0 (by omega)) ?_
            exact SRet.pure (.tup rfl fun i c d e1 e2 => by
              match i, e1, e2 with
              | 0, e1, e2 => cases e1; cases e2; exact .p _ (.int _ _)
              | 1, e1, e2 => cases e1; cases e2; exact .p _ (.int _ _))
          | false =>
            refine SCall.pure (infinite_ok b hb _ hib) ?_
            refine SCond.mk (fun h => by cases h) (fun _ => ?_)
            refine SCall.pure (nought_ok a ha _ hza) ?_
            refine SCond.mk (fun _ => ?_) (fun h => by cases h)
            refine SCall.pure (hsg 0 (by omega)) ?_
            exact SRet.pure (.tup rfl fun i c d e1 e2 => by
              match i, e1, e2 with
              | 0, e1, e2 => cases e1; cases e2; exact .p _ (.int _ _)
              | 1, e1, e2 => cases e1; cases e2; exact .p _ (.int _ _))
      | false =>
        refine SCall.pure (nought_ok a ha _ hza) ?_
        refine SCond.mk (fun h => by cases h) (fun _ => ?_)
        rw [if_neg (by simp), if_neg (by simp)]
        refine SCall.pure (infinite_ok a ha _ hia) ?_
        refine SCond.mk (fun h => by cases h) (fun _ => ?_)
        cases hzb : isZ b with
        | true =>
          refine SCall.pure (nought_ok b hb _ hzb) ?_
          refine SCond.mk (fun _ => ?_) (fun h => by cases h)
          rw [if_pos rfl]
          refine SCall.pure (hsg 9218868437227405312 (by omega)) ?_
          exact SRet.pure (.tup rfl fun i c d e1 e2 => by
            match i, e1, e2 with
            | 0, e1, e2 => cases e1; cases e2; exact .p _ (.int _ _)
            | 1, e1, e2 => cases e1; cases e2; exact .p _ (.int _ _))
        | false =>
          refine SCall.pure (nought_ok b hb _ hzb) ?_
          refine SCond.mk (fun h => by cases h) (fun _ => ?_)
          rw [if_neg (by simp)]
          cases hib : isInf b with
          | true =>
            refine SCall.pure (infinite_ok b hb _ hib) ?_
            refine SCond.mk (fun _ => ?_) (fun h => by cases h)
            rw [if_pos (by simp)]
            refine SCall.pure (hsg 0 (by omega)) ?_
            exact SRet.pure (.tup rfl fun i c d e1 e2 => by
              match i, e1, e2 with
              | 0, e1, e2 => cases e1; cases e2; exact .p _ (.int _ _)
              | 1, e1, e2 => cases e1; cases e2; exact .p _ (.int _ _))
          | false =>
            refine SCall.pure (infinite_ok b hb _ hib) ?_
            refine SCond.mk (fun h => by cases h) (fun _ => ?_)
            refine SCall.pure (nought_ok a ha _ hza) ?_
            refine SCond.mk (fun h => by cases h) (fun _ => ?_)
            rw [if_neg (by simp)]
            have e1 := fexp_le (mag_lt a)
            have e2 := fexp_ge (mag a)
            have e3 := fexp_le (mag_lt b)
            have e4 := fexp_ge (mag b)
            have e5 := fsig_bits (mag a)
            have e6 := fsig_bits (mag b)
            have za : fsig (mag a) ≠ 0 := fun h => by have := isZ_iff.2 (fsig_zero.1 h); rw [this] at hza; cases hza
            have zb : fsig (mag b) ≠ 0 := fun h => by have := isZ_iff.2 (fsig_zero.1 h); rw [this] at hzb; cases hzb
            refine SCall.pure (ofnum_ok a ha) ?_
            refine SCall.pure (ofnum_ok b hb) ?_
            refine SWrap.i64z (fexp (mag a) - fexp (mag b)) rfl (by omega) ?_
            have hov := fover_ok (ngt a != ngt b) false false (fsig (mag a)) (fsig (mag b)) (fexp (mag a) - fexp (mag b)) zb (by omega) (by omega) (by omega) rfl
            have hrd := round_over (ngt a != ngt b) (fsig (mag a)) (fsig (mag b)) (fexp (mag a) - fexp (mag b)) mode za zb (by omega) (by omega) (by omega) rfl
            have hpos : (0 : Rat) < (fsig (mag a) : Rat) / (fsig (mag b) : Rat) * p2 (fexp (mag a) - fexp (mag b)) := by
              refine mul_pos_q ?_ (p2_pos _)
              have h1 := div_mul_q (n := fsig (mag a)) zb
              refine lt_of_mul (c := (fsig (mag b) : Rat)) ?_ (pos_q zb)
              rw [h1]
              have := pos_q za
              grind
            rw [fvq_div zb, rS_sval hpos]
            refine SCall.pure (hov) ?_
            refine SCall.pureT (hrd) (fun _ => rfl) ?_
            exact SRet.pure (.tup rfl fun i c d e1 e2 => by
              match i, e1, e2 with
              | 0, e1, e2 => cases e1; cases e2; exact .p _ (.int _ _)
              | 1, e1, e2 => cases e1; cases e2; exact .p _ (.int _ _))

/-! #### whole roots -/
def IsSq (a r : Nat) : Prop := r * r ≤ a ∧ a < (r + 1) * (r + 1)
theorem sq_lt {a b : Nat} : a * a < b * b ↔ a < b := ⟨fun h => by
  rcases Nat.lt_or_ge a b with h1 | h1
  · exact h1
  · have := Nat.mul_le_mul h1 h1; omega, fun h => Nat.mul_lt_mul'' h h⟩
theorem sq_le {a b : Nat} : a * a ≤ b * b ↔ a ≤ b := by rw [← Nat.not_lt, sq_lt]; omega
theorem IsSq.le {a r n : Nat} (h : IsSq a r) : n * n ≤ a ↔ n ≤ r := by
  constructor
  · intro h1
    have := sq_lt.1 (Nat.lt_of_le_of_lt h1 h.2)
    omega
  · intro h1
    exact Nat.le_trans (sq_le.2 h1) h.1
theorem IsSq.uniq {a r s : Nat} (h : IsSq a r) (h' : IsSq a s) : r = s := by
  have h1 := h.le.1 h'.1
  have h2 := h'.le.1 h.1
  omega
theorem exists_sq (a : Nat) : ∃ r, IsSq a r := by
  obtain ⟨r, h1, h2⟩ := find_step (fun r => r * r ≤ a) (Nat.zero_le _) (a + 1) (by
    show ¬ (a + 1) * (a + 1) ≤ a
    have : (a + 1) * 1 ≤ (a + 1) * (a + 1) := Nat.mul_le_mul_left _ (by omega)
    omega)
  exact ⟨r, h1, Nat.not_le.1 h2⟩
theorem newton {a r : Nat} (hr : r ≠ 0) (h : a < (r + 1) * (r + 1)) : a < ((r + a / r) / 2 + 1) * ((r + a / r) / 2 + 1) := by
  obtain ⟨q, hq⟩ : ∃ q, q = a / r := ⟨_, rfl⟩
  obtain ⟨n, hn⟩ : ∃ n, n = (r + q) / 2 := ⟨_, rfl⟩
  have h1 : a < r * (q + 1) := by
    have := Nat.lt_mul_div_succ a (show 0 < r by omega)
    rwa [← hq] at this
  rw [← hq, ← hn]
  have h2 : r + q + 1 ≤ 2 * (n + 1) := by omega
  have h3 := Nat.mul_le_mul h2 h2
  have h4 : 4 * (r * (q + 1)) ≤ (r + q + 1) * (r + q + 1) := by
    rcases Nat.le_total r (q + 1) with h5 | h5
    · obtain ⟨d, hd⟩ : ∃ d, q + 1 = r + d := ⟨q + 1 - r, by omega⟩
      rw [show r + q + 1 = 2 * r + d by omega, hd]
      have : (2 * r + d) * (2 * r + d) = 4 * (r * (r + d)) + d * d := by grind
      omega
    · obtain ⟨d, hd⟩ : ∃ d, r = q + 1 + d := ⟨r - (q + 1), by omega⟩
      rw [show r + q + 1 = 2 * (q + 1) + d by omega, hd]
      have : (2 * (q + 1) + d) * (2 * (q + 1) + d) = 4 * ((q + 1 + d) * (q + 1)) + d * d := by grind
      omega
  have h6 : (2 * (n + 1)) * (2 * (n + 1)) = 4 * ((n + 1) * (n + 1)) := by grind
  omega
theorem root_ok (m : Bool) (a r0 : Nat) (ha : a ≠ 0) (hb : bitLen a ≤ 4096) (h0 : IsSq a r0) : CallP Try.prog 110 [natM m a] (.tup [.p (natP r0), .p (.bool (decide (r0 * r0 ≠ a)))]) [] := by
  have hna := nlen_bitLen a
  obtain ⟨k, hk⟩ : ∃ k, k = (bitLen a + 1) / 2 := ⟨_, rfl⟩
  refine callG_of_vc (wr := wr0) Γok mixed Try.func110 (by kernel_rfl) rfl (by kernel_rfl) (le_of_ble rfl) (by simp) ?_
  refine SCall.pure (of_ok 1 (by omega)) ?_
  refine SCall.pure (nbits_ok m a (by omega)) ?_
  refine SWrap.i64z ((bitLen a + 1 : Nat) : Int) (by omega) (by omega) ?_
  refine SNe.mk (by decide) ?_
  refine SWrap.i64z (k : Int) (by rw [Int.tdiv_eq_ediv_of_nonneg (by omega)]; omega) (by omega) ?_
  refine SCall.pure (fshl_ok false 1 k (by have := nlen_le (n := 1) (k := 1) (by decide); omega) (by omega)) ?_
  rw [Nat.one_mul]
  refine SLoop.mk Nat (fun r => ([(0, .p (natM m a)), (2, .p (natP r))], [])) (fun r => r ≠ 0 ∧ a < (r + 1) * (r + 1) ∧ bitLen r ≤ 4100) id (2 ^ k) []
    ⟨Nat.ne_of_gt (Nat.two_pow_pos k), ?_, ?_⟩ ⟨rfl, .nil, rfl, rfl, rfl, ⟨rfl, rfl, trivial⟩, trivial⟩ ?_
  · have h1 := bitLen_lt a
    have h2 : 2 ^ bitLen a ≤ 2 ^ (k + k) := Nat.pow_le_pow_right (by omega) (by omega)
    rw [Nat.pow_add] at h2
    have h3 : 2 ^ k * 2 ^ k ≤ (2 ^ k + 1) * (2 ^ k + 1) := Nat.mul_le_mul (by omega) (by omega)
    omega
  · have := bits_pow k; omega
  intro r ⟨hr0, hr1, hr2⟩
  have hr1 : a < (r + 1) * (r + 1) := hr1
  have hr0 : r ≠ 0 := hr0
  have hr2 : bitLen r ≤ 4100 := hr2
  have hnr := nlen_bitLen r
  have hdiv := div_ok m false a r (by omega) (by omega)
  rw [if_neg hr0] at hdiv
  refine SCall.pureT (hdiv) (fun _ => rfl) ?_
  obtain ⟨q, hq⟩ : ∃ q, q = a / r := ⟨_, rfl⟩
  rw [← hq]
  have bq : nlen q ≤ nlen a := nlen_mono (by rw [hq]; exact Nat.div_le_self _ _)
  refine SCall.pure (add_ok false false r q (by omega) (by omega)) ?_
  have b2 := nlen_add r q
  refine SCall.pure (shr_ok false (r + q) 1 (by omega) (by omega)) ?_
  rw [Nat.pow_one]
  obtain ⟨n, hn⟩ : ∃ n, n = (r + q) / 2 := ⟨_, rfl⟩
  rw [← hn]
  have b3 : nlen n ≤ nlen (r + q) := nlen_mono (by rw [hn]; exact Nat.div_le_self _ _)
  refine SCall.pure (cmp_ok false false n r (by omega) (by omega)) ?_
  by_cases hlt : n < r
  · rw [cmpZ, if_pos hlt]
    refine SCmp.no (decide_eq_false (by omega)) ?_
    have hnew := newton hr0 hr1
    rw [← hq, ← hn] at hnew
    have hn0 : n ≠ 0 := by
      intro h
      have : r = 1 ∧ q = 0 := by omega
      obtain ⟨g1, g2⟩ := this
      rw [g1, g2] at hq
      rw [Nat.div_one] at hq
      omega
    exact ⟨n, [], ⟨hn0, hnew, Nat.le_trans (bitLen_mono (Nat.le_of_lt hlt)) hr2⟩, hlt, ⟨rfl, .nil, rfl, rfl, rfl, ⟨rfl, rfl, trivial⟩, trivial⟩⟩
  · have hcz : 0 ≤ cmpZ n r := by rw [cmpZ, if_neg hlt]; split <;> omega
    refine SCmp.yes (decide_eq_true (by exact hcz)) ?_
    have hsq : IsSq a r := by
      refine ⟨?_, hr1⟩
      have h1 : r ≤ q := by omega
      have h2 : r * q ≤ a := by rw [hq]; exact Nat.mul_div_le a r
      have h3 : r * r ≤ r * q := Nat.mul_le_mul_left _ h1
      omega
    have : r = r0 := hsq.uniq h0
    subst this
    refine SCall.pure (mul_ok false false r r (by omega) (by omega)) ?_
    have b4 := nlen_mul r r
    refine SCall.pure (cmp_ok false m (r * r) a (by omega) (by omega)) ?_
    by_cases he : r * r = a
    · rw [decide_eq_false (show ¬ r * r ≠ a from fun h => h he)]
      refine SCmp.no (neF (by rw [cmpZ, if_neg (by omega), if_pos he])) ?_
      exact SRet.pure (.tup rfl fun i c d e1 e2 => by
        match i, e1, e2 with
        | 0, e1, e2 => cases e1; cases e2; exact .p _ (.sl _ _ (pers_limbs _))
        | 1, e1, e2 => cases e1; cases e2; exact .tf _)
    · rw [decide_eq_true he]
      have hcz2 : cmpZ (r * r) a ≠ 0 := by
        unfold cmpZ
        split
        · omega
        · simp [he]
      refine SCmp.yes (neT hcz2) ?_
      exact SRet.pure (.tup rfl fun i c d e1 e2 => by
        match i, e1, e2 with
        | 0, e1, e2 => cases e1; cases e2; exact .p _ (.sl _ _ (pers_limbs _))
        | 1, e1, e2 => cases e1; cases e2; exact .tf _)

/-! #### the root of a number -/
def IsCS (X : Rat) (c : Nat) : Prop := fval c * fval c ≤ X ∧ X < fval (c + 1) * fval (c + 1)
theorem sqq_lt {a b : Rat} (ha : 0 ≤ a) (hb : 0 ≤ b) (h : a * a < b * b) : a < b := by
  by_cases h2 : a < b
  · exact h2
  · have h3 := Rat.mul_nonneg (show 0 ≤ a - b by grind) (show 0 ≤ a + b by grind)
    grind
theorem IsCS.uniq {X : Rat} {a b : Nat} (ha : IsCS X a) (hb : IsCS X b) : a = b := by
  have h1 : fval a < fval (b + 1) := sqq_lt (fval_nonneg _) (fval_nonneg _) (by have := ha.1; have := hb.2; grind)
  have h2 : fval b < fval (a + 1) := sqq_lt (fval_nonneg _) (fval_nonneg _) (by have := hb.1; have := ha.2; grind)
  rw [fval_lt] at h1 h2
  omega
open Classical in
noncomputable def cS (X : Rat) : Nat := if h : ∃ c, IsCS X c then h.choose else 0
theorem cS_eq {X : Rat} {c : Nat} (h : IsCS X c) : cS X = c := by
  unfold cS
  have h1 : ∃ c, IsCS X c := ⟨c, h⟩
  rw [dif_pos h1]
  exact h1.choose_spec.uniq h
noncomputable def sqrtQ (X : Rat) (mode : Int) : Nat × Int :=
  out false (cS X) (decide (fval (cS X) * fval (cS X) ≠ X)) (cmpR (4 * X) ((fval (cS X) + fval (cS X + 1)) * (fval (cS X) + fval (cS X + 1)))) mode
noncomputable def sqrtF (f : Nat) (mode : Int) : Nat × Int :=
  if isNan f then (9221120237041090560, 0) else if isZ f then (f, 0) else if ngt f then (9221120237041090560, 16) else if isInf f then (f, 0) else sqrtQ (fvq f) mode

/-- A root's middle: its whole part, and a half where it isn't whole. -/
def theta (a r : Nat) : Rat := if r * r = a then 0 else 1 / 2
theorem theta_le {a r N : Nat} (h : IsSq a r) : (N : Rat) ≤ (r : Rat) + theta a r ↔ N * N ≤ a := by
  rw [h.le]
  have ht : 0 ≤ theta a r ∧ theta a r < 1 := by unfold theta; split <;> constructor <;> grind
  constructor
  · intro h1
    have : (N : Rat) < ((r + 1 : Nat) : Rat) := by rw [Rat.natCast_add]; show _ < (r : Rat) + 1; grind
    have := natq_lt.1 this
    omega
  · intro h1
    have := natq_le.2 h1
    grind
theorem theta_lt {a r N : Nat} (h : IsSq a r) : (N : Rat) < (r : Rat) + theta a r ↔ N * N < a := by
  constructor
  · intro h1
    have h2 := (theta_le h).1 (show (N : Rat) ≤ _ by grind)
    rcases Nat.lt_or_ge (N * N) a with h3 | h3
    · exact h3
    · exfalso
      have h4 : N * N = a := by omega
      have h5 : N = r := IsSq.uniq ⟨by omega, by rw [← h4]; exact sq_lt.2 (by omega)⟩ h
      subst h5
      rw [theta, if_pos h4] at h1
      grind
  · intro h1
    have h2 := h.le.1 (show N * N ≤ a by omega)
    rcases Nat.lt_or_ge N r with h3 | h3
    · have h4 : ((N + 1 : Nat) : Rat) ≤ (r : Rat) := natq_le.2 h3
      rw [Rat.natCast_add] at h4
      have ht : 0 ≤ theta a r := by unfold theta; split <;> grind
      have h4 : (N : Rat) + 1 ≤ (r : Rat) := h4
      grind
    · have h4 : N = r := by omega
      subst h4
      rw [theta, if_neg (by omega)]
      grind
theorem sq_cut {a r : Nat} {e : Int} (h : IsSq a r) (hbig : 54 ≤ bitLen r) (mode : Int) : rndQ false (((r : Rat) + theta a r) * p2 e) mode = sqrtQ ((a : Rat) * p2 (e + e)) mode := by
  have hg := p2_pos e
  have ht : 0 ≤ theta a r ∧ theta a r < 1 := by unfold theta; split <;> constructor <;> grind
  have hr0 : (0 : Rat) ≤ (r : Rat) := by exact_mod_cast Nat.zero_le r
  obtain ⟨s, hs⟩ : ∃ s, s = (r : Rat) + theta a r := ⟨_, rfl⟩
  have hle : ∀ N : Nat, (N : Rat) ≤ s ↔ N * N ≤ a := fun N => by rw [hs]; exact theta_le h
  have hlt : ∀ N : Nat, (N : Rat) < s ↔ N * N < a := fun N => by rw [hs]; exact theta_lt h
  rw [← hs]
  have hX0 : 0 ≤ s * p2 e := Rat.mul_nonneg (by grind) (by grind)
  obtain ⟨c, hc⟩ : ∃ c, c = cd (s * p2 e) := ⟨_, rfl⟩
  have hcd := cd_is hX0
  rw [← hc] at hcd
  have hsucc := fval_succ c
  -- the code's own power of two is greater
  have hexp : e < fexp c := by
    rcases Int.lt_or_le e (fexp c) with h1 | h1
    · exact h1
    · exfalso
      have h2 := p2_mono h1
      have h3 : ((fsig c + 1 : Nat) : Rat) ≤ ((9007199254740992 : Nat) : Rat) := natq_le.2 (fsig_lt c)
      have h4 : ((9007199254740992 : Nat) : Rat) ≤ (r : Rat) := natq_le.2 (by
        have := bitLen_pos (n := r) (by intro h; rw [h] at hbig; simp [bitLen] at hbig)
        have h5 : 2 ^ 53 ≤ 2 ^ (bitLen r - 1) := Nat.pow_le_pow_right (by omega) (by omega)
        have h6 : 2 ^ 53 = 9007199254740992 := by decide
        omega)
      have h5 : fval (c + 1) = ((fsig c + 1 : Nat) : Rat) * p2 (fexp c) := by rw [hsucc, fval, Rat.natCast_add]; show _ = ((fsig c : Rat) + 1) * _; grind
      have h6 := mul_le_q h3 (p2_pos (fexp c))
      have h7 : ((9007199254740992 : Nat) : Rat) * p2 (fexp c) ≤ ((9007199254740992 : Nat) : Rat) * p2 e := by
        have := Rat.mul_nonneg (show (0 : Rat) ≤ ((9007199254740992 : Nat) : Rat) by exact_mod_cast Nat.zero_le _) (show 0 ≤ p2 e - p2 (fexp c) by grind)
        grind
      have h8 : ((9007199254740992 : Nat) : Rat) * p2 e ≤ s * p2 e := mul_le_q (by grind) hg
      have := hcd.2
      grind
  obtain ⟨j, hj⟩ : ∃ j : Nat, fexp c = e + 1 + j := ⟨(fexp c - e - 1).toNat, by omega⟩
  obtain ⟨U, hU⟩ : ∃ U, U = 2 ^ j := ⟨_, rfl⟩
  have hu : p2 (fexp c) = 2 * (U : Rat) * p2 e := by
    rw [hj, p2_add_nat, p2_succ, ← hU]; grind
  obtain ⟨N, hN⟩ : ∃ N, N = fsig c * (2 * U) := ⟨_, rfl⟩
  have v1 : fval c = (N : Rat) * p2 e := by
    rw [fval, hu, hN, Rat.natCast_mul, Rat.natCast_mul]
    show _ = (fsig c : Rat) * (2 * (U : Rat)) * p2 e
    grind
  have v2 : fval (c + 1) = ((N + 2 * U : Nat) : Rat) * p2 e := by
    rw [hsucc, hu, v1, Rat.natCast_add, Rat.natCast_mul]
    show _ = ((N : Rat) + 2 * (U : Rat)) * p2 e
    grind
  have v3 : fval c + fval (c + 1) = 2 * (((N + U : Nat) : Rat) * p2 e) := by
    rw [v1, v2, Rat.natCast_add, Rat.natCast_add, Rat.natCast_mul]
    show (N : Rat) * p2 e + ((N : Rat) + 2 * (U : Rat)) * p2 e = 2 * (((N : Rat) + (U : Rat)) * p2 e)
    grind
  have mid : ∀ M : Nat, ((M : Rat) * p2 e ≤ s * p2 e ↔ M * M ≤ a) := fun M => ⟨fun h => (hle M).1 (le_of_mul h hg), fun h => mul_le_q ((hle M).2 h) hg⟩
  have mid2 : ∀ M : Nat, ((M : Rat) * p2 e < s * p2 e ↔ M * M < a) := fun M => ⟨fun h => (hlt M).1 (lt_of_mul h hg), fun h => mul_lt_q ((hlt M).2 h) hg⟩
  have hgg : p2 (e + e) = p2 e * p2 e := p2_add e e
  have hgp : 0 < p2 (e + e) := p2_pos _
  have sq : ∀ M : Nat, ((M : Rat) * p2 e) * ((M : Rat) * p2 e) = ((M * M : Nat) : Rat) * p2 (e + e) := fun M => by rw [hgg, Rat.natCast_mul]; grind
  have big : ∀ M : Nat, (((M * M : Nat) : Rat) * p2 (e + e) ≤ (a : Rat) * p2 (e + e) ↔ M * M ≤ a) := fun M => ⟨fun h => natq_le.1 (le_of_mul h hgp), fun h => mul_le_q (natq_le.2 h) hgp⟩
  have big2 : ∀ M : Nat, (((M * M : Nat) : Rat) * p2 (e + e) < (a : Rat) * p2 (e + e) ↔ M * M < a) := fun M => ⟨fun h => natq_lt.1 (lt_of_mul h hgp), fun h => mul_lt_q (natq_lt.2 h) hgp⟩
  have hCS : IsCS ((a : Rat) * p2 (e + e)) c := by
    have g1 := hcd.1
    have g2 := hcd.2
    refine ⟨?_, ?_⟩
    · rw [v1, sq, big, ← mid, ← v1]; exact g1
    · rw [v2, sq, ← Rat.not_le, big, ← mid, ← v2, Rat.not_le]; exact g2
  rw [rndQ, sqrtQ, cS_eq hCS, ← hc]
  congr 1
  · -- exact or not
    have : (fval c = s * p2 e) ↔ (fval c * fval c = (a : Rat) * p2 (e + e)) := by
      rw [v1, sq]
      constructor
      · intro h1
        have g1 := (mid N).1 (by rw [h1]; exact Rat.le_refl)
        have g2 := mt (mid2 N).2 (by rw [h1]; grind)
        rw [show N * N = a by omega]
      · intro h1
        have g1 := (big N).1 (by rw [h1]; exact Rat.le_refl)
        have g2 := mt (big2 N).2 (by rw [h1]; grind)
        have g3 := (mid N).2 g1
        have g4 := mt (mid2 N).1 g2
        grind
    by_cases h1 : fval c = s * p2 e
    · rw [decide_eq_false (fun h => h h1), decide_eq_false (fun h => h (this.1 h1))]
    · rw [decide_eq_true h1, decide_eq_true (mt this.2 h1)]
  · rw [v3]
    have e1 : (2 * (((N + U : Nat) : Rat) * p2 e)) * (2 * (((N + U : Nat) : Rat) * p2 e)) = 4 * ((((N + U) * (N + U) : Nat) : Rat) * p2 (e + e)) := by rw [← sq]; grind
    rw [e1]
    have m1 := mid (N + U)
    have m2 := mid2 (N + U)
    have b1 := big (N + U)
    have b2 := big2 (N + U)
    unfold cmpR
    rcases Nat.lt_trichotomy ((N + U) * (N + U)) a with h1 | h1 | h1
    · have g1 := m2.2 h1
      have g2 := b2.2 h1
      rw [if_neg (by grind), if_pos (by grind), if_neg (by grind), if_pos (by grind)]
    · have g1 := m1.2 (by omega)
      have g2 := mt m2.1 (by omega)
      have g3 := b1.2 (by omega)
      have g4 := mt b2.1 (by omega)
      rw [if_neg (by grind), if_neg (by grind), if_neg (by grind), if_neg (by grind)]
    · have g1 := mt m1.1 (by omega)
      have g2 := mt b1.1 (by omega)
      rw [if_pos (by grind), if_pos (by grind)]
end Go.Proofs.Ytjcmiedpgabdbaa
