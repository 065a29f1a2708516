/- Numbers: what the program and the document compute with them. -/
import Derived.Test.YtkaooejeljdbnaaNa
/- Rational numbers: the walks. -/
namespace Go.Proofs.Ytkaooejeljdbnaa
open Go
set_option linter.unusedVariables false
set_option maxRecDepth 10000

def sgn (neg : Bool) (n : Nat) : Int := if neg then -(n : Int) else n
abbrev ratP (q : Rat) : PV := .agg [.bool (decide (q.num < 0)), natP q.num.natAbs, natP q.den]
def mkQ (neg : Bool) (n d : Nat) : Rat := mkRat (sgn neg n) d
theorem sgn_natAbs (neg : Bool) (n : Nat) : (sgn neg n).natAbs = n := by cases neg <;> simp [sgn]

theorem pers_rat (b : Bool) (x y : Nat) : Pers (.agg [.bool b, natP x, natP y]) := .agg _ fun c hc => by
  simp at hc
  rcases hc with rfl | rfl | rfl
  · exact .bool _
  · exact .sl _ _ (pers_limbs _)
  · exact .sl _ _ (pers_limbs _)
theorem natP_zero : natP 0 = .sl false 1 [] := by simp [nl_zero]
theorem ratP_zero : ratP 0 = .agg [.bool false, .sl false 1 [], natP 1] := by
  show PV.agg [.bool (decide ((0 : Int) < 0)), natP (0 : Int).natAbs, natP 1] = _
  rw [show (0 : Int).natAbs = 0 from rfl, natP_zero]; rfl

theorem mkQ_num {neg : Bool} {n d : Nat} (hd : d ≠ 0) : (mkQ neg n d).num.natAbs = n / Nat.gcd n d ∧ (mkQ neg n d).den = d / Nat.gcd n d ∧ (n ≠ 0 → ((mkQ neg n d).num < 0 ↔ neg = true)) := by
  have e : mkQ neg n d = Rat.normalize (sgn neg n) d hd := by simp [mkQ, mkRat, hd]
  rw [e, Rat.normalize_eq]
  simp only [sgn_natAbs]
  have hg : 0 < Nat.gcd n d := Nat.gcd_pos_of_pos_right _ (by omega)
  have hdv : Nat.gcd n d ∣ n := Nat.gcd_dvd_left n d
  have key : sgn neg n / ((Nat.gcd n d : Nat) : Int) = sgn neg (n / Nat.gcd n d) := by
    cases neg
    · simp [sgn]
    · simp only [sgn, if_true]
      rw [Int.neg_ediv_of_dvd (Int.natCast_dvd_natCast.2 hdv)]
      simp
  simp only [key]
  refine ⟨sgn_natAbs _ _, trivial, fun hn => ?_⟩
  have hp : 0 < n / Nat.gcd n d := Nat.div_pos (Nat.le_of_dvd (by omega) hdv) hg
  cases neg
  · simp only [sgn, Bool.false_eq_true, if_false, iff_false]; omega
  · simp only [sgn, if_true, iff_true]; omega

theorem ratP_mkQ {neg : Bool} {n d : Nat} (hd : d ≠ 0) (hn : n ≠ 0) : ratP (mkQ neg n d) = .agg [.bool neg, natP (n / Nat.gcd n d), natP (d / Nat.gcd n d)] := by
  obtain ⟨h1, h2, h3⟩ := mkQ_num (neg := neg) (n := n) hd
  simp only [ratP, h1, h2]
  congr 3
  have h3 := h3 hn
  cases neg <;> simp at h3 ⊢ <;> omega

theorem one_ok : CallP Try.prog 198 [] (.p (natP 1)) [] := by
  refine callG_of_vc (wr := wr0) Γok mixed Try.func198 (by kernel_rfl) rfl (by kernel_rfl) (le_of_ble rfl) (by simp) ?_
  refine SCall.pure (pvs := [.int .u64 1]) (of_ok 1 (by omega)) ?_
  exact SRet.pure (.p _ (.sl _ _ (pers_limbs _)))

theorem zero_ok : CallP Try.prog 169 [] (.p (ratP 0)) [] := by
  refine callG_of_vc (wr := wr0) Γok mixed Try.func169 (by kernel_rfl) rfl (by kernel_rfl) (le_of_ble rfl) (by simp) ?_
  refine SCall.pure one_ok ?_
  refine SRet.pure ?_
  rw [ratP_zero]
  refine .p _ ?_
  have := pers_rat false 0 1
  rwa [natP_zero] at this

theorem low_ok (neg : Bool) (m m' : Bool) (n d : Nat) (hd : d ≠ 0) (hn' : nlen n ≤ 137438953472) (hd' : nlen d ≤ 137438953472) :
    CallP Try.prog 132 [.bool neg, natM m n, natM m' d] (.p (ratP (mkQ neg n d))) [] := by
  refine callG_of_vc (wr := wr0) Γok mixed Try.func132 (by kernel_rfl) rfl (by kernel_rfl) (le_of_ble rfl) (by simp) ?_
  refine SZ.mk (nlen n : Int) (by simp) ?_
  by_cases hn : n = 0
  · subst hn
    refine SCmp.yes (eqT (by rw [nlen_zero_iff.2 rfl]; rfl)) ?_
    refine SCall.pure zero_ok ?_
    refine SRet.pure ?_
    rw [show mkQ neg 0 d = 0 by cases neg <;> simp [mkQ, sgn]]
    exact .p _ (pers_rat _ _ _)
  · refine SCmp.no (eqF (by have := mt nlen_zero_iff.1 hn; omega)) ?_
    have hg : 0 < Nat.gcd n d := Nat.gcd_pos_of_pos_right _ (by omega)
    have hgl : nlen (Nat.gcd n d) ≤ 137438953472 := Nat.le_trans (nlen_mono (Nat.gcd_le_right _ (by omega))) hd'
    refine SCall.pure (gcd_ok m m' n d hn' hd') ?_
    have h1 := div_ok m false n (Nat.gcd n d) hn' hgl
    have h2 := div_ok m' false d (Nat.gcd n d) hd' hgl
    rw [if_neg (by omega)] at h1 h2
    refine SCall.pureT h1 (fun _ => rfl) ?_
    refine SCall.pureT h2 (fun _ => rfl) ?_
    refine SRet.pure ?_
    rw [ratP_mkQ hd hn]
    exact .p _ (pers_rat _ _ _)

theorem make_ok (neg : Bool) (m m' : Bool) (n d : Nat) (hd : d ≠ 0) (hn' : nlen n ≤ 137438953472) (hd' : nlen d ≤ 137438953472) :
    CallP Try.prog 161 [.bool neg, natM m n, natM m' d] (.tup [.p (ratP (mkQ neg n d)), .p (.int .i64 0)]) [] := by
  refine callG_of_vc (wr := wr0) Γok mixed Try.func161 (by kernel_rfl) rfl (by kernel_rfl) (le_of_ble rfl) (by simp) ?_
  refine SZ.mk (nlen d : Int) (by simp) ?_
  refine SCmp.no (eqF (by have := mt nlen_zero_iff.1 hd; omega)) ?_
  refine SCall.pure (low_ok neg m m' n d hd hn' hd') ?_
  refine SRet.pure ?_
  exact .tup rfl fun i c d e1 e2 => by
    match i, e1, e2 with
    | 0, e1, e2 => cases e1; cases e2; exact .p _ (pers_rat _ _ _)
    | 1, e1, e2 => cases e1; cases e2; exact .p _ (.int _ _)

theorem make0_ok (neg : Bool) (m m' : Bool) (n : Nat) :
    CallP Try.prog 161 [.bool neg, natM m n, natM m' 0] (.tup [.p (.agg [.bool false, .sl false 1 [], .sl false 1 []]), .p (.int .i64 5)]) [] := by
  refine callG_of_vc (wr := wr0) Γok mixed Try.func161 (by kernel_rfl) rfl (by kernel_rfl) (le_of_ble rfl) (by simp) ?_
  refine SZ.mk 0 (by simp [nl_zero]) ?_
  refine SCmp.yes rfl ?_
  refine SRet.pure ?_
  exact .tup rfl fun i c d e1 e2 => by
    match i, e1, e2 with
    | 0, e1, e2 =>
      cases e1; cases e2
      have := pers_rat false 0 0
      rw [natP_zero] at this
      exact .p _ this
    | 1, e1, e2 => cases e1; cases e2; exact .p _ (.int _ _)

theorem own_ok (b : Bool) (x y : Nat) (hx : nlen x ≤ 1099511627776) (hy : nlen y ≤ 1099511627776) : CallP Try.prog 145 [.agg [.bool b, natP x, natP y]] (.p (.agg [.bool b, natP x, natP y])) [] := by
  refine callG_of_vc (wr := wr0) Γok mixed Try.func145 (by kernel_rfl) rfl (by kernel_rfl) (le_of_ble rfl) (by simp) ?_
  refine SDraw.mk (by kernel_rfl) ?_
  iterate 2 refine SOp.mk _ _ (And.intro rfl rfl) rfl ?_
  refine SOp.mk _ _ (SCall.pure (clone_ok false (nl x) hx) (And.intro rfl rfl)) rfl ?_
  iterate 2 refine SOp.mk _ _ (And.intro rfl rfl) rfl ?_
  refine SOp.mk _ _ (SCall.pure (clone_ok false (nl y) hy) (And.intro rfl rfl)) rfl ?_
  iterate 4 refine SOp.mk _ _ (And.intro rfl rfl) rfl ?_
  refine SRet.pure ?_
  exact .p _ (pers_rat _ _ _)

theorem abs_ok (q : Rat) (hx : nlen q.num.natAbs ≤ 1099511627776) (hy : nlen q.den ≤ 1099511627776) : CallP Try.prog 93 [ratP q] (.p (.agg [.bool false, natP q.num.natAbs, natP q.den])) [] := by
  refine callG_of_vc (wr := wr0) Γok mixed Try.func93 (by kernel_rfl) rfl (by kernel_rfl) (le_of_ble rfl) (by simp) ?_
  refine SCall.pure (own_ok _ _ _ hx hy) ?_
  refine SRet.pure ?_
  exact .p _ (pers_rat _ _ _)

theorem neg_ok (q : Rat) (hx : nlen q.num.natAbs ≤ 1099511627776) (hy : nlen q.den ≤ 1099511627776) : CallP Try.prog 167 [ratP q] (.p (ratP (-q))) [] := by
  refine callG_of_vc (wr := wr0) Γok mixed Try.func167 (by kernel_rfl) rfl (by kernel_rfl) (le_of_ble rfl) (by simp) ?_
  refine SCall.pure (own_ok _ _ _ hx hy) ?_
  have hn : ratP (-q) = .agg [.bool (decide (0 < q.num)), natP q.num.natAbs, natP q.den] := by
    simp only [ratP, Rat.neg_num, Rat.neg_den, Int.natAbs_neg]
    congr 3
    by_cases h : 0 < q.num <;> simp [h] <;> omega
  rw [hn]
  by_cases h : q.num < 0
  · refine SCmp.no (by simp [h]) ?_
    refine SRet.pure ?_
    rw [decide_eq_false (by omega)]
    exact .p _ (pers_rat _ _ _)
  · refine SCmp.yes (by simp [h]) ?_
    refine SZ.mk (nlen q.num.natAbs : Int) (by simp) ?_
    have h0 := nlen_zero_iff (n := q.num.natAbs)
    by_cases hz : q.num = 0
    · refine SCmp.no (decide_eq_false (by rw [h0.2 (by omega)]; decide)) ?_
      refine SRet.pure ?_
      rw [decide_eq_false (by omega)]
      exact .p _ (pers_rat _ _ _)
    · refine SCmp.yes (decide_eq_true (by have := mt h0.1 (by omega); omega)) ?_
      refine SRet.pure ?_
      rw [decide_eq_true (by omega)]
      exact .p _ (pers_rat _ _ _)
end Go.Proofs.Ytkaooejeljdbnaa

/- Rational numbers: Mul, Quo, Add, Sub. -/
namespace Go.Proofs.Ytkaooejeljdbnaa
open Go
set_option linter.unusedVariables false
set_option maxRecDepth 10000

/-- No part has more limbs than k. -/
structure Sz (q : Rat) (k : Nat) : Prop where
  n : nlen q.num.natAbs ≤ k
  d : nlen q.den ≤ k
theorem Sz.mono {q : Rat} {j k : Nat} (h : Sz q j) (hk : j ≤ k) : Sz q k := ⟨Nat.le_trans h.n hk, Nat.le_trans h.d hk⟩
theorem sgn_num (q : Rat) : sgn (decide (q.num < 0)) q.num.natAbs = q.num := by
  by_cases h : q.num < 0
  · simp only [sgn, decide_eq_true h, if_true]; omega
  · simp only [sgn, decide_eq_false h, Bool.false_eq_true, if_false]; omega
theorem Sz.mkQ {neg : Bool} {n d k : Nat} (hd : d ≠ 0) (hn : nlen n ≤ k) (hdk : nlen d ≤ k) : Sz (mkQ neg n d) k := by
  obtain ⟨h1, h2, _⟩ := mkQ_num (neg := neg) (n := n) hd
  exact ⟨by rw [h1]; exact Nat.le_trans (nlen_mono (Nat.div_le_self _ _)) hn, by rw [h2]; exact Nat.le_trans (nlen_mono (Nat.div_le_self _ _)) hdk⟩
theorem sgn_mul (a b : Bool) (x y : Nat) : sgn (a != b) (x * y) = sgn a x * sgn b y := by
  cases a <;> cases b <;> simp [sgn] <;> grind
theorem sgn_add (a : Bool) (x y : Nat) : sgn a (x + y) = sgn a x + sgn a y := by
  cases a <;> simp [sgn] <;> grind
theorem sgn_sub {a b : Bool} (hab : a ≠ b) {x y : Nat} (h : y ≤ x) : sgn a (x - y) = sgn a x + sgn b y := by
  cases a <;> cases b <;> simp [sgn] at hab ⊢ <;> omega
theorem mul_eq (p q : Rat) : p * q = mkQ (decide (p.num < 0) != decide (q.num < 0)) (p.num.natAbs * q.num.natAbs) (p.den * q.den) := by
  rw [Rat.mul_def, mkQ, Rat.normalize_eq_mkRat, sgn_mul, sgn_num, sgn_num]
theorem add_eq (p q : Rat) : p + q = mkRat (p.num * q.den + q.num * p.den) (p.den * q.den) := by
  rw [Rat.add_def, Rat.normalize_eq_mkRat]
theorem sgn_times (a : Bool) (x y : Nat) : sgn a (x * y) = sgn a x * (y : Int) := by
  cases a <;> simp [sgn] <;> grind
theorem num_x (p q : Rat) : p.num * (q.den : Int) = sgn (decide (p.num < 0)) (p.num.natAbs * q.den) := by
  rw [sgn_times, sgn_num]
theorem quo_eq (p q : Rat) (hq : q ≠ 0) : p / q = mkQ (decide (p.num < 0) != decide (q.num < 0)) (p.num.natAbs * q.den) (p.den * q.num.natAbs) := by
  have hqn : q.num ≠ 0 := by intro h; exact hq (Rat.num_eq_zero.1 h)
  have e1 : p = (p.num : Rat) / (p.den : Rat) := by rw [← Rat.mkRat_eq_div, Rat.mkRat_self]
  have e2 : q = (q.num : Rat) / (q.den : Rat) := by rw [← Rat.mkRat_eq_div, Rat.mkRat_self]
  have hpd : (p.den : Rat) ≠ 0 := by have := p.den_nz; exact_mod_cast this
  have hqd : (q.den : Rat) ≠ 0 := by have := q.den_nz; exact_mod_cast this
  rw [mkQ, Rat.mkRat_eq_div]
  conv => lhs; rw [e1, e2]
  generalize hN : p.num = pn
  generalize hM : q.num = qn at *
  generalize p.den = pd at *
  generalize q.den = qd at *
  have hs : sgn (decide (pn < 0) != decide (qn < 0)) (pn.natAbs * qd) * qn = pn * qd * (qn.natAbs : Int) := by
    by_cases h1 : pn < 0 <;> by_cases h2 : qn < 0 <;> simp [sgn, h1, h2] <;> grind
  have hs' : (sgn (decide (pn < 0) != decide (qn < 0)) (pn.natAbs * qd) : Rat) * (qn : Rat) = (pn : Rat) * (qd : Rat) * (qn.natAbs : Rat) := by exact_mod_cast hs
  have hqn' : (qn : Rat) ≠ 0 := by exact_mod_cast hqn
  have hqa : ((qn.natAbs : Nat) : Rat) ≠ 0 := by
    have : qn.natAbs ≠ 0 := by omega
    exact_mod_cast this
  rw [Rat.natCast_mul]
  grind
theorem nlen_add' {a b k : Nat} (ha : nlen a ≤ k) (hb : nlen b ≤ k) : nlen (a + b) ≤ k + 1 := by have := nlen_add a b; omega
theorem nlen_mul' {a b j k : Nat} (ha : nlen a ≤ j) (hb : nlen b ≤ k) : nlen (a * b) ≤ j + k := by have := nlen_mul a b; omega

theorem Sz.mul {p q : Rat} {j k : Nat} (hp : Sz p j) (hq : Sz q k) : Sz (p * q) (j + k) := by
  rw [mul_eq]
  exact Sz.mkQ (Nat.mul_ne_zero p.den_nz q.den_nz) (nlen_mul' hp.n hq.n) (nlen_mul' hp.d hq.d)
theorem Sz.neg {p : Rat} {k : Nat} (hp : Sz p k) : Sz (-p) k := ⟨by rw [Rat.neg_num, Int.natAbs_neg]; exact hp.n, hp.d⟩

theorem ratmul_ok (p q : Rat) {j k : Nat} (hp : Sz p j) (hq : Sz q k) (h : j + k ≤ 137438953472) : CallP Try.prog 76 [ratP p, ratP q] (.p (ratP (p * q))) [] := by
  refine callG_of_vc (wr := wr0) Γok mixed Try.func76 (by kernel_rfl) rfl (by kernel_rfl) (le_of_ble rfl) (by simp) ?_
  have h1 := hp.n
  have h2 := hp.d
  have h3 := hq.n
  have h4 := hq.d
  have hl := low_ok (decide (p.num < 0) != decide (q.num < 0)) false false (p.num.natAbs * q.num.natAbs) (p.den * q.den) (Nat.mul_ne_zero p.den_nz q.den_nz) (Nat.le_trans (nlen_mul' h1 h3) h) (Nat.le_trans (nlen_mul' h2 h4) h)
  rw [← mul_eq] at hl
  refine SDraw.mk (by kernel_rfl) ?_
  iterate 4 refine SOp.mk _ _ (And.intro rfl rfl) rfl ?_
  refine SOp.mk _ _ (SCmp.sym (And.intro rfl rfl)) rfl ?_
  iterate 4 refine SOp.mk _ _ (And.intro rfl rfl) rfl ?_
  refine SOp.mk _ _ (SCall.pure (mul_ok false false p.num.natAbs q.num.natAbs (by omega) (by omega)) (And.intro rfl rfl)) rfl ?_
  iterate 4 refine SOp.mk _ _ (And.intro rfl rfl) rfl ?_
  refine SOp.mk _ _ (SCall.pure (mul_ok false false p.den q.den (by omega) (by omega)) (And.intro rfl rfl)) rfl ?_
  refine SOp.mk _ _ (SCall.pure hl (And.intro rfl rfl)) rfl ?_
  iterate 1 refine SOp.mk _ _ (And.intro rfl rfl) rfl ?_
  exact SRet.pure (.p _ (pers_rat _ _ _))

theorem quo_ok (p q : Rat) (hq0 : q ≠ 0) {j k : Nat} (hp : Sz p j) (hq : Sz q k) (h : j + k ≤ 137438953472) : CallP Try.prog 123 [ratP p, ratP q] (.tup [.p (ratP (p / q)), .p (.int .i64 0)]) [] := by
  refine callG_of_vc (wr := wr0) Γok mixed Try.func123 (by kernel_rfl) rfl (by kernel_rfl) (le_of_ble rfl) (by simp) ?_
  have h1 := hp.n
  have h2 := hp.d
  have h3 := hq.n
  have h4 := hq.d
  have hqn : q.num.natAbs ≠ 0 := by intro e; exact hq0 (Rat.num_eq_zero.1 (by omega))
  have hl := make_ok (decide (p.num < 0) != decide (q.num < 0)) false false (p.num.natAbs * q.den) (p.den * q.num.natAbs) (Nat.mul_ne_zero p.den_nz hqn) (Nat.le_trans (nlen_mul' h1 h4) h) (Nat.le_trans (nlen_mul' h2 h3) h)
  rw [← quo_eq p q hq0] at hl
  refine SDraw.mk (by kernel_rfl) ?_
  iterate 4 refine SOp.mk _ _ (And.intro rfl rfl) rfl ?_
  refine SOp.mk _ _ (SCmp.sym (And.intro rfl rfl)) rfl ?_
  iterate 4 refine SOp.mk _ _ (And.intro rfl rfl) rfl ?_
  refine SOp.mk _ _ (SCall.pure (mul_ok false false p.num.natAbs q.den (by omega) (by omega)) (And.intro rfl rfl)) rfl ?_
  iterate 4 refine SOp.mk _ _ (And.intro rfl rfl) rfl ?_
  refine SOp.mk _ _ (SCall.pure (mul_ok false false p.den q.num.natAbs (by omega) (by omega)) (And.intro rfl rfl)) rfl ?_
  refine SOp.mk _ _ (SCall.pureT hl (fun _ => rfl) (And.intro rfl rfl)) rfl ?_
  iterate 4 refine SOp.mk _ _ (And.intro rfl rfl) rfl ?_
  refine SRet.pure ?_
  exact .tup rfl fun i c d e1 e2 => by
    match i, e1, e2 with
    | 0, e1, e2 => cases e1; cases e2; exact .p _ (pers_rat _ _ _)
    | 1, e1, e2 => cases e1; cases e2; exact .p _ (.int _ _)

theorem add_same {p q : Rat} (h : decide (p.num < 0) = decide (q.num < 0)) : p + q = mkQ (decide (p.num < 0)) (p.num.natAbs * q.den + q.num.natAbs * p.den) (p.den * q.den) := by
  rw [add_eq, mkQ, sgn_add, num_x, num_x, h]
theorem add_diff1 {p q : Rat} (h : decide (p.num < 0) ≠ decide (q.num < 0)) (hle : q.num.natAbs * p.den ≤ p.num.natAbs * q.den) : p + q = mkQ (decide (p.num < 0)) (p.num.natAbs * q.den - q.num.natAbs * p.den) (p.den * q.den) := by
  rw [add_eq, mkQ, sgn_sub h hle, num_x, num_x]
theorem add_diff2 {p q : Rat} (h : decide (p.num < 0) ≠ decide (q.num < 0)) (hle : p.num.natAbs * q.den ≤ q.num.natAbs * p.den) : p + q = mkQ (decide (q.num < 0)) (q.num.natAbs * p.den - p.num.natAbs * q.den) (p.den * q.den) := by
  rw [add_eq, mkQ, sgn_sub (Ne.symm h) hle, num_x, num_x, Int.add_comm]
theorem Sz.add {p q : Rat} {j k : Nat} (hp : Sz p j) (hq : Sz q k) : Sz (p + q) (j + k + 1) := by
  have hd := Nat.mul_ne_zero p.den_nz q.den_nz
  have h5 := nlen_mul' hp.n hq.d
  have h6 := nlen_mul' hq.n hp.d
  have h7 := nlen_mul' hp.d hq.d
  by_cases h : decide (p.num < 0) = decide (q.num < 0)
  · rw [add_same h]
    exact Sz.mkQ hd (nlen_add' h5 (by omega)) (by omega)
  · rcases Nat.le_total (q.num.natAbs * p.den) (p.num.natAbs * q.den) with hle | hle
    · rw [add_diff1 h hle]
      exact Sz.mkQ hd (Nat.le_trans (nlen_mono (Nat.sub_le _ _)) (by omega)) (by omega)
    · rw [add_diff2 h hle]
      exact Sz.mkQ hd (Nat.le_trans (nlen_mono (Nat.sub_le _ _)) (by omega)) (by omega)

theorem ratadd_ok (p q : Rat) {j k : Nat} (hp : Sz p j) (hq : Sz q k) (h : j + k + 1 ≤ 137438953472) : CallP Try.prog 75 [ratP p, ratP q] (.p (ratP (p + q))) [] := by
  refine callG_of_vc (wr := wr0) Γok mixed Try.func75 (by kernel_rfl) rfl (by kernel_rfl) (le_of_ble rfl) (by simp) ?_
  have h1 := hp.n
  have h2 := hp.d
  have h3 := hq.n
  have h4 := hq.d
  have hd := Nat.mul_ne_zero p.den_nz q.den_nz
  obtain ⟨x, hx⟩ : ∃ x, x = p.num.natAbs * q.den := ⟨_, rfl⟩
  obtain ⟨y, hy⟩ : ∃ y, y = q.num.natAbs * p.den := ⟨_, rfl⟩
  obtain ⟨d, hdd⟩ : ∃ d, d = p.den * q.den := ⟨_, rfl⟩
  have hxl : nlen x ≤ j + k := by rw [hx]; exact nlen_mul' h1 h4
  have hyl : nlen y ≤ j + k := by rw [hy, Nat.add_comm]; exact nlen_mul' h3 h2
  have hdl : nlen d ≤ j + k := by rw [hdd]; exact nlen_mul' h2 h4
  have m1 := mul_ok false false p.num.natAbs q.den (by omega) (by omega)
  have m2 := mul_ok false false q.num.natAbs p.den (by omega) (by omega)
  have m3 := mul_ok false false p.den q.den (by omega) (by omega)
  rw [← hx] at m1
  rw [← hy] at m2
  rw [← hdd] at m3 hd
  refine SDraw.mk (by kernel_rfl) ?_
  iterate 4 refine SOp.mk _ _ (And.intro rfl rfl) rfl ?_
  refine SOp.mk _ _ (SCall.pure m1 (And.intro rfl rfl)) rfl ?_
  iterate 4 refine SOp.mk _ _ (And.intro rfl rfl) rfl ?_
  refine SOp.mk _ _ (SCall.pure m2 (And.intro rfl rfl)) rfl ?_
  iterate 4 refine SOp.mk _ _ (And.intro rfl rfl) rfl ?_
  refine SOp.mk _ _ (SCall.pure m3 (And.intro rfl rfl)) rfl ?_
  iterate 3 refine SOp.mk _ _ (And.intro rfl rfl) rfl ?_
  by_cases hs : decide (p.num < 0) = decide (q.num < 0)
  · refine SCmp.yes (beq_iff_eq.2 hs) ?_
    have hl := low_ok (decide (p.num < 0)) false false (x + y) d hd (Nat.le_trans (nlen_add' hxl hyl) (by omega)) (by omega)
    rw [hx, hy, hdd, ← add_same hs] at hl
    have hA := add_ok false false x y (by omega) (by omega)
    rw [hx, hy] at hA
    rw [hx, hy, hdd]
    refine SDraw.mk (by kernel_rfl) ?_
    iterate 4 refine SOp.mk _ _ (And.intro rfl rfl) rfl ?_
    refine SOp.mk _ _ (SCall.pure hA (And.intro rfl rfl)) rfl ?_
    iterate 1 refine SOp.mk _ _ (And.intro rfl rfl) rfl ?_
    refine SOp.mk _ _ (SCall.pure hl (And.intro rfl rfl)) rfl ?_
    iterate 1 refine SOp.mk _ _ (And.intro rfl rfl) rfl ?_
    exact SRet.pure (.p _ (pers_rat _ _ _))
  · refine SCmp.no (beq_eq_false_iff_ne.2 hs) ?_
    have hS := sub_ok false false x y (by omega) (by omega)
    by_cases hle : y ≤ x
    · rw [if_pos hle] at hS
      have hl := low_ok (decide (p.num < 0)) false false (x - y) d hd (Nat.le_trans (nlen_mono (Nat.sub_le _ _)) (by omega)) (by omega)
      rw [hx, hy] at hle
      rw [hx, hy, hdd, ← add_diff1 hs hle] at hl
      rw [hx, hy] at hS
      rw [hx, hy, hdd]
      refine SCall.pureT hS (fun _ => rfl) ?_
      refine SCmp.yes rfl ?_
      refine SCall.pure hl ?_
      exact SRet.pure (.p _ (pers_rat _ _ _))
    · rw [if_neg hle] at hS
      have hle' : x ≤ y := by omega
      have hS2 := sub_ok false false y x (by omega) (by omega)
      rw [if_pos hle'] at hS2
      have hl := low_ok (decide (q.num < 0)) false false (y - x) d hd (Nat.le_trans (nlen_mono (Nat.sub_le _ _)) (by omega)) (by omega)
      rw [hx, hy] at hle'
      rw [hx, hy, hdd, ← add_diff2 hs hle'] at hl
      rw [hx, hy] at hS hS2
      rw [hx, hy, hdd]
      refine SCall.pureT hS (fun _ => rfl) ?_
      refine SCmp.no rfl ?_
      refine SCall.pureT hS2 (fun _ => rfl) ?_
      refine SCall.pure hl ?_
      exact SRet.pure (.p _ (pers_rat _ _ _))

theorem ratsub_ok (p q : Rat) {j k : Nat} (hp : Sz p j) (hq : Sz q k) (h : j + k + 1 ≤ 137438953472) : CallP Try.prog 129 [ratP p, ratP q] (.p (ratP (p - q))) [] := by
  refine callG_of_vc (wr := wr0) Γok mixed Try.func129 (by kernel_rfl) rfl (by kernel_rfl) (le_of_ble rfl) (by simp) ?_
  have h3 := hq.n
  have h4 := hq.d
  have hA := ratadd_ok p (-q) hp hq.neg h
  rw [← Rat.sub_eq_add_neg] at hA
  refine SDraw.mk (by kernel_rfl) ?_
  iterate 2 refine SOp.mk _ _ (And.intro rfl rfl) rfl ?_
  refine SOp.mk _ _ (SCall.pure (neg_ok q (by omega) (by omega)) (And.intro rfl rfl)) rfl ?_
  refine SOp.mk _ _ (SCall.pure hA (And.intro rfl rfl)) rfl ?_
  iterate 1 refine SOp.mk _ _ (And.intro rfl rfl) rfl ?_
  exact SRet.pure (.p _ (pers_rat _ _ _))
end Go.Proofs.Ytkaooejeljdbnaa

/- Rational numbers: of, Cmp, Same. -/
namespace Go.Proofs.Ytkaooejeljdbnaa
open Go
set_option linter.unusedVariables false
set_option maxRecDepth 10000

abbrev markP (q : Rat) : PV := .agg [.bool (decide (q.num < 0)), .bool (decide (q.num = 0))]
theorem pers_mark (a b : Bool) : Pers (.agg [.bool a, .bool b]) := .agg _ fun c hc => by
  simp at hc
  rcases hc with rfl | rfl <;> exact .bool _

theorem mark_ok (q : Rat) : CallP Try.prog 143 [ratP q] (.p (markP q)) [] := by
  refine callG_of_vc (wr := wr0) Γok mixed Try.func143 (by kernel_rfl) rfl (by kernel_rfl) (le_of_ble rfl) (by simp) ?_
  have h0 := nlen_zero_iff (n := q.num.natAbs)
  by_cases h : q.num < 0
  · rw [ratP, markP, decide_eq_true h, decide_eq_false (show ¬ q.num = 0 by omega)]
    refine SCond.mk (fun _ => ?_) (fun h => by cases h)
    refine SZ.mk (nlen q.num.natAbs : Int) (by simp) ?_
    have hp := mt h0.1 (by omega)
    refine SCmp.yes (decide_eq_true (by omega)) ?_
    refine SZ.mk (nlen q.num.natAbs : Int) (by simp) ?_
    refine SCmp.no (eqF (by omega)) ?_
    exact SRet.pure (.p _ (pers_mark _ _))
  · rw [ratP, markP, decide_eq_false h]
    refine SCond.mk (fun h => by cases h) (fun _ => ?_)
    refine SZ.mk (nlen q.num.natAbs : Int) (by simp) ?_
    by_cases hz : q.num = 0
    · have hp := h0.2 (by omega)
      refine SCmp.yes (eqT (by omega)) ?_
      rw [decide_eq_true hz]
      exact SRet.pure (.p _ (pers_mark _ _))
    · have hp := mt h0.1 (by omega)
      refine SCmp.no (eqF (by omega)) ?_
      rw [decide_eq_false hz]
      exact SRet.pure (.p _ (pers_mark _ _))
end Go.Proofs.Ytkaooejeljdbnaa

/- Rational numbers: Cmp, Same. -/
namespace Go.Proofs.Ytkaooejeljdbnaa
open Go
set_option linter.unusedVariables false
set_option linter.unusedSimpArgs false
set_option maxRecDepth 10000

def cmpQ (p q : Rat) : Int := if p < q then -1 else if p = q then 0 else 1

theorem lt_num {p q : Rat} : p < q ↔ p.num * (q.den : Int) < q.num * (p.den : Int) := Rat.lt_iff p q
theorem eq_num {p q : Rat} : p = q ↔ p.num * (q.den : Int) = q.num * (p.den : Int) := by
  constructor
  · intro h; rw [h]
  · intro h
    have h1 := (Rat.le_iff p q).2 (by omega)
    have h2 := (Rat.le_iff q p).2 (by omega)
    exact Rat.le_antisymm h1 h2
theorem cmpQ_eq (p q : Rat) : cmpQ p q = if p.num * (q.den : Int) < q.num * (p.den : Int) then -1 else if p.num * (q.den : Int) = q.num * (p.den : Int) then 0 else 1 := by
  simp only [cmpQ, lt_num, eq_num]
theorem ratcmp_ok (p q : Rat) {j k : Nat} (hp : Sz p j) (hq : Sz q k) (h : j + k ≤ 137438953472) : CallP Try.prog 92 [ratP p, ratP q] (.p (.int .i64 (cmpQ p q))) [] := by
  refine callG_of_vc (wr := wr0) Γok mixed Try.func92 (by kernel_rfl) rfl (by kernel_rfl) (le_of_ble rfl) (by simp) ?_
  refine SDraw.mk (by kernel_rfl) ?_
  refine SOp.mk _ _ (And.intro rfl rfl) rfl ?_
  refine SOp.mk _ _ (SCall.pure (mark_ok p) (And.intro rfl rfl)) rfl ?_
  refine SOp.mk _ _ (And.intro rfl rfl) rfl ?_
  refine SOp.mk _ _ (SCall.pure (mark_ok q) (And.intro rfl rfl)) rfl ?_
  iterate 4 refine SOp.mk _ _ (And.intro rfl rfl) rfl ?_
  have hpd : (0 : Int) < (p.den : Int) := by have := p.den_nz; omega
  have hqd : (0 : Int) < (q.den : Int) := by have := q.den_nz; omega
  have h1 := hp.n
  have h2 := hp.d
  have h3 := hq.n
  have h4 := hq.d
  have hP : p.num * (q.den : Int) = sgn (decide (p.num < 0)) (p.num.natAbs * q.den) := num_x p q
  have hQ : q.num * (p.den : Int) = sgn (decide (q.num < 0)) (q.num.natAbs * p.den) := num_x q p
  have m1 := mul_ok false false p.num.natAbs q.den (by omega) (by omega)
  have m2 := mul_ok false false q.num.natAbs p.den (by omega) (by omega)
  have x0 : p.num ≠ 0 → 0 < p.num.natAbs * q.den := fun h => Nat.mul_pos (by omega) (by omega)
  have y0 : q.num ≠ 0 → 0 < q.num.natAbs * p.den := fun h => Nat.mul_pos (by omega) (by omega)
  have xz : p.num = 0 → p.num.natAbs * q.den = 0 := fun h => by rw [h]; simp
  have yz : q.num = 0 → q.num.natAbs * p.den = 0 := fun h => by rw [h]; simp
  have hxl : nlen (p.num.natAbs * q.den) ≤ j + k := nlen_mul' h1 h4
  have hyl : nlen (q.num.natAbs * p.den) ≤ j + k := by rw [Nat.add_comm]; exact nlen_mul' h3 h2
  have m3 := cmp_ok false false (p.num.natAbs * q.den) (q.num.natAbs * p.den) (by omega) (by omega)
  rw [cmpQ_eq, hP, hQ]
  generalize hx : p.num.natAbs * q.den = x at *
  generalize hy : q.num.natAbs * p.den = y at *
  by_cases p1 : p.num < 0
  · have p2 : ¬ p.num = 0 := by omega
    have x1 := x0 p2
    rw [decide_eq_true p1, decide_eq_false p2]
    by_cases q1 : q.num < 0
    · have q2 : ¬ q.num = 0 := by omega
      rw [decide_eq_true q1, decide_eq_false q2]
      refine SCmp.no rfl ?_
      refine SDraw.mk (by kernel_rfl) ?_
      iterate 4 refine SOp.mk _ _ (And.intro rfl rfl) rfl ?_
      refine SOp.mk _ _ (SCall.pure m1 (And.intro rfl rfl)) rfl ?_
      iterate 4 refine SOp.mk _ _ (And.intro rfl rfl) rfl ?_
      refine SOp.mk _ _ (SCall.pure m2 (And.intro rfl rfl)) rfl ?_
      refine SOp.mk _ _ (SCall.pure m3 (And.intro rfl rfl)) rfl ?_
      iterate 1 refine SOp.mk _ _ (And.intro rfl rfl) rfl ?_
      refine SCond.mk (fun _ => ?_) (fun h => by cases h)
      refine SWrap.i64z (0 - cmpZ x y) rfl (by simp only [cmpZ]; split <;> (try split) <;> omega) ?_
      refine SRet.pure ?_
      rw [show (if sgn true x < sgn true y then (-1 : Int) else if sgn true x = sgn true y then 0 else 1) = 0 - cmpZ x y by
        simp only [sgn, if_true, cmpZ]
        rcases Nat.lt_trichotomy x y with h | h | h
        · rw [if_neg (by omega), if_neg (by omega), if_pos h]; rfl
        · rw [if_neg (by omega), if_pos (by omega), if_neg (by omega), if_pos h]; rfl
        · rw [if_pos (by omega), if_neg (by omega), if_neg (by omega)]; rfl]
      exact .p _ (.int _ _)
    · rw [decide_eq_false q1]
      by_cases q2 : q.num = 0
      · rw [decide_eq_true q2]
        refine SCmp.yes rfl ?_
        refine SCond.mk (fun _ => ?_) (fun h => by cases h)
        refine SRet.pure ?_
        rw [show (if sgn true x < sgn false y then (-1 : Int) else if sgn true x = sgn false y then 0 else 1) = -1 by
          simp only [sgn, if_true, Bool.false_eq_true, if_false]
          rw [if_pos (by omega)]]
        exact .p _ (.int _ _)
      · rw [decide_eq_false q2]
        refine SCmp.yes rfl ?_
        refine SCond.mk (fun _ => ?_) (fun h => by cases h)
        refine SRet.pure ?_
        rw [show (if sgn true x < sgn false y then (-1 : Int) else if sgn true x = sgn false y then 0 else 1) = -1 by
          simp only [sgn, if_true, Bool.false_eq_true, if_false]
          rw [if_pos (by omega)]]
        exact .p _ (.int _ _)
  · rw [decide_eq_false p1]
    by_cases p2 : p.num = 0
    · have x1 := xz p2
      rw [decide_eq_true p2]
      by_cases q1 : q.num < 0
      · have q2 : ¬ q.num = 0 := by omega
        have y1 := y0 q2
        rw [decide_eq_true q1, decide_eq_false q2]
        refine SCmp.yes rfl ?_
        refine SCond.mk (fun h => by cases h) (fun _ => ?_)
        refine SCond.mk (fun _ => ?_) (fun h => by cases h)
        refine SCmp.no rfl ?_
        refine SRet.pure ?_
        rw [show (if sgn false x < sgn true y then (-1 : Int) else if sgn false x = sgn true y then 0 else 1) = 1 by
          simp only [sgn, if_true, Bool.false_eq_true, if_false]
          rw [if_neg (by omega), if_neg (by omega)]]
        exact .p _ (.int _ _)
      · rw [decide_eq_false q1]
        by_cases q2 : q.num = 0
        · rw [decide_eq_true q2]
          refine SCmp.no rfl ?_
          refine SDraw.mk (by kernel_rfl) ?_
          iterate 4 refine SOp.mk _ _ (And.intro rfl rfl) rfl ?_
          refine SOp.mk _ _ (SCall.pure m1 (And.intro rfl rfl)) rfl ?_
          iterate 4 refine SOp.mk _ _ (And.intro rfl rfl) rfl ?_
          refine SOp.mk _ _ (SCall.pure m2 (And.intro rfl rfl)) rfl ?_
          refine SOp.mk _ _ (SCall.pure m3 (And.intro rfl rfl)) rfl ?_
          iterate 1 refine SOp.mk _ _ (And.intro rfl rfl) rfl ?_
          refine SCond.mk (fun h => by cases h) (fun _ => ?_)
          refine SRet.pure ?_
          rw [show (if sgn false x < sgn false y then (-1 : Int) else if sgn false x = sgn false y then 0 else 1) = cmpZ x y by
            simp only [sgn, Bool.false_eq_true, if_false, cmpZ]
            rcases Nat.lt_trichotomy x y with h | h | h
            · rw [if_pos (by omega), if_pos h]
            · rw [if_neg (by omega), if_pos (by omega), if_neg (by omega), if_pos h]
            · rw [if_neg (by omega), if_neg (by omega), if_neg (by omega), if_neg (by omega)]]
          exact .p _ (.int _ _)
        · have y1 := y0 q2
          rw [decide_eq_false q2]
          refine SCmp.yes rfl ?_
          refine SCond.mk (fun h => by cases h) (fun _ => ?_)
          refine SCond.mk (fun _ => ?_) (fun h => by cases h)
          refine SCmp.yes rfl ?_
          refine SRet.pure ?_
          rw [show (if sgn false x < sgn false y then (-1 : Int) else if sgn false x = sgn false y then 0 else 1) = -1 by
            simp only [sgn, if_true, Bool.false_eq_true, if_false]
            rw [if_pos (by omega)]]
          exact .p _ (.int _ _)
    · have x1 := x0 p2
      rw [decide_eq_false p2]
      by_cases q1 : q.num < 0
      · have q2 : ¬ q.num = 0 := by omega
        have y1 := y0 q2
        rw [decide_eq_true q1, decide_eq_false q2]
        refine SCmp.yes rfl ?_
        refine SCond.mk (fun h => by cases h) (fun _ => ?_)
        refine SCond.mk (fun h => by cases h) (fun _ => ?_)
        refine SRet.pure ?_
        rw [show (if sgn false x < sgn true y then (-1 : Int) else if sgn false x = sgn true y then 0 else 1) = 1 by
          simp only [sgn, if_true, Bool.false_eq_true, if_false]
          rw [if_neg (by omega), if_neg (by omega)]]
        exact .p _ (.int _ _)
      · rw [decide_eq_false q1]
        by_cases q2 : q.num = 0
        · have y1 := yz q2
          rw [decide_eq_true q2]
          refine SCmp.yes rfl ?_
          refine SCond.mk (fun h => by cases h) (fun _ => ?_)
          refine SCond.mk (fun h => by cases h) (fun _ => ?_)
          refine SRet.pure ?_
          rw [show (if sgn false x < sgn false y then (-1 : Int) else if sgn false x = sgn false y then 0 else 1) = 1 by
            simp only [sgn, if_true, Bool.false_eq_true, if_false]
            rw [if_neg (by omega), if_neg (by omega)]]
          exact .p _ (.int _ _)
        · have y1 := y0 q2
          rw [decide_eq_false q2]
          refine SCmp.no rfl ?_
          refine SDraw.mk (by kernel_rfl) ?_
          iterate 4 refine SOp.mk _ _ (And.intro rfl rfl) rfl ?_
          refine SOp.mk _ _ (SCall.pure m1 (And.intro rfl rfl)) rfl ?_
          iterate 4 refine SOp.mk _ _ (And.intro rfl rfl) rfl ?_
          refine SOp.mk _ _ (SCall.pure m2 (And.intro rfl rfl)) rfl ?_
          refine SOp.mk _ _ (SCall.pure m3 (And.intro rfl rfl)) rfl ?_
          iterate 1 refine SOp.mk _ _ (And.intro rfl rfl) rfl ?_
          refine SCond.mk (fun h => by cases h) (fun _ => ?_)
          refine SRet.pure ?_
          rw [show (if sgn false x < sgn false y then (-1 : Int) else if sgn false x = sgn false y then 0 else 1) = cmpZ x y by
            simp only [sgn, Bool.false_eq_true, if_false, cmpZ]
            rcases Nat.lt_trichotomy x y with h | h | h
            · rw [if_pos (by omega), if_pos h]
            · rw [if_neg (by omega), if_pos (by omega), if_neg (by omega), if_pos h]
            · rw [if_neg (by omega), if_neg (by omega), if_neg (by omega), if_neg (by omega)]]
          exact .p _ (.int _ _)

theorem ratsame_ok (p q : Rat) {j k : Nat} (hp : Sz p j) (hq : Sz q k) (h : j + k ≤ 137438953472) : CallP Try.prog 166 [ratP p, ratP q] (.p (.bool (decide (p = q)))) [] := by
  refine callG_of_vc (wr := wr0) Γok mixed Try.func166 (by kernel_rfl) rfl (by kernel_rfl) (le_of_ble rfl) (by simp) ?_
  refine SCall.pure (ratcmp_ok p q hp hq h) ?_
  by_cases e : p = q
  · have hz : cmpQ p q = 0 := by subst e; simp [cmpQ, Rat.lt_irrefl]
    rw [hz, decide_eq_true e]
    refine SCmp.yes rfl ?_
    exact SRet.pure (.tf true)
  · have hz : cmpQ p q ≠ 0 := by simp only [cmpQ, if_neg e]; split <;> decide
    rw [decide_eq_false e]
    refine SCmp.no (eqF hz) ?_
    exact SRet.pure (.tf false)
end Go.Proofs.Ytkaooejeljdbnaa

/- The document's natural numbers: trim, Of, at, Cmp, Add, less, Sub. -/
namespace Go.Proofs.Ytkaooejeljdbnaa
open Go
set_option linter.unusedVariables false
set_option maxRecDepth 10000

theorem rtrim_ok (m : Bool) (l : List Nat) (h : Lok l) (hl : l.length ≤ 1099511627776) : CallP Try.prog 88 [.sl m 1 (limbs l)] (.p (natP (nv l))) [] := by
  refine callG_of_vc (wr := wr0) Γok mixed Try.func88 (by kernel_rfl) rfl (by kernel_rfl) (le_of_ble rfl) (by simp) ?_
  refine SZ.mk l.length (by simp) ?_
  refine SLoop.mk Nat (fun n => ([(0, .p (.sl m 1 (limbs l))), (3, .p (.int .i64 n))], [])) (fun n => n ≤ l.length ∧ nv (l.take n) = nv l) id l.length [] ⟨Nat.le_refl _, by simp⟩
    ⟨rfl, .nil, rfl, rfl, rfl, ⟨rfl, rfl, trivial⟩, trivial⟩ ?_
  intro n ⟨hn, hv⟩
  have done : (n = 0 ∨ l.getD (n - 1) 0 ≠ 0) → _ := fun h2 => nl_take h hn hv h2
  by_cases h0 : n = 0
  · refine SCmp.no (decide_eq_false (by omega)) ?_
    refine SZ.mk n rfl ?_
    refine SLt.mk (by simp) ?_
    refine SCut.mk 0 n rfl rfl (by omega) (by simp; omega) ?_
    have e := done (.inl h0)
    have hl2 : (nl (nv l)).length ≤ 1099511627776 := by rw [← e, List.length_take]; omega
    refine SEs.mk (limbs (nl (nv l))) (by rw [← e]; simp [List.map_take]) ?_
    refine SRoom.mk (by simp; omega) (by simp; omega) ?_
    exact SRet.pure (frz0 rfl (by simp))
  · refine SCmp.yes (decide_eq_true (by omega)) ?_
    refine SWrap.i64z ((n - 1 : Nat) : Int) (by omega) (by omega) ?_
    refine SIdx.lb (n - 1) rfl (by omega) ?_
    by_cases h1 : l.getD (n - 1) 0 = 0
    · refine SCmp.yes (eqT (by omega)) ?_
      refine SWrap.i64z ((n - 1 : Nat) : Int) (by omega) (by omega) ?_
      exact ⟨n - 1, [], ⟨by omega, (nv_take_pred h0 hn h1).trans hv⟩, by simp; omega, ⟨rfl, .nil, rfl, rfl, rfl, ⟨rfl, rfl, trivial⟩, trivial⟩⟩
    · refine SCmp.no (eqF (by omega)) ?_
      refine SZ.mk n rfl ?_
      refine SLt.mk (by simp) ?_
      refine SCut.mk 0 n rfl rfl (by omega) (by simp; omega) ?_
      have e := done (.inr h1)
      have hl2 : (nl (nv l)).length ≤ 1099511627776 := by rw [← e, List.length_take]; omega
      refine SEs.mk (limbs (nl (nv l))) (by rw [← e]; simp [List.map_take]) ?_
      refine SRoom.mk (by simp; omega) (by simp; omega) ?_
      exact SRet.pure (frz0 rfl (by simp))

theorem rtrimn_ok (m : Bool) (a : Nat) (ha : nlen a ≤ 1099511627776) : CallP Try.prog 88 [natM m a] (.p (natP a)) [] := by
  have := rtrim_ok m (nl a) (nl_ok a) ha
  rwa [nv_nl] at this

theorem rof_ok (v : Nat) (hv : v < 18446744073709551616) : CallP Try.prog 36 [.int .u64 v] (.p (natP v)) [] := by
  refine callG_of_vc (wr := wr0) Γok mixed Try.func36 (by kernel_rfl) rfl (by kernel_rfl) (le_of_ble rfl) (by simp) ?_
  refine SWrap.u32z (v % 4294967296) (by omega) ?_
  refine SShr32 ?_
  refine SWrap.u32z (v / 4294967296) (by omega) ?_
  refine SView.all rfl ?_
  refine SCall.pure (rtrim_ok true [v % 4294967296, v / 4294967296] (.cons (by omega) (.cons (by omega) .nil)) (by simp)) ?_
  have : nv [v % 4294967296, v / 4294967296] = v := by simp only [nv]; omega
  rw [this]
  exact SRet.pure (.p _ (.sl _ _ (pers_limbs _)))

theorem rat_ok (m : Bool) (l : List Nat) (h : Lok l) (i : Nat) : CallP Try.prog 135 [.sl m 1 (limbs l), .int .i64 i] (.p (.int .u64 ((l.getD i 0 : Nat) : Int))) [] := by
  refine callG_of_vc (wr := wr0) Γok mixed Try.func135 (by kernel_rfl) rfl (by kernel_rfl) (le_of_ble rfl) (by simp) ?_
  refine SZ.mk l.length (by simp) ?_
  by_cases h2 : i < l.length
  · refine SCmp.yes (decide_eq_true (by omega)) ?_
    refine SIdx.lb i rfl (by omega) ?_
    have := getD_lt h i
    refine SWrap.u64 (by omega) ?_
    exact SRet.pure (.p _ (.int _ _))
  · refine SCmp.no (decide_eq_false (by omega)) ?_
    rw [getD_ge l 0 (by omega)]
    exact SRet.pure (.p _ (.int _ _))

theorem rcmp_ok (m m' : Bool) (a b : Nat) (ha : nlen a ≤ 549755813888) (hb : nlen b ≤ 549755813888) : CallP Try.prog 73 [natM m a, natM m' b] (.p (.int .i64 (cmpZ a b))) [] := by
  refine callG_of_vc (wr := wr0) Γok mixed Try.func73 (by kernel_rfl) rfl (by kernel_rfl) (le_of_ble rfl) (by simp) ?_
  refine SZ.mk (nlen a) (by simp) ?_
  refine SZ.mk (nlen b) (by simp) ?_
  by_cases hne : nlen a = nlen b
  · refine SCmp.no (neF (by omega)) ?_
    refine SZ.mk (nlen a) (by simp) ?_
    refine SLoop.mk Nat (fun i => ([(0, .p (natM m a)), (1, .p (natM m' b)), (5, .p (.int .i64 i))], [])) (fun i => i ≤ nlen a ∧ a / 4294967296 ^ i = b / 4294967296 ^ i) id (nlen a) []
      ⟨Nat.le_refl _, by rw [Nat.div_eq_of_lt (lt_nlen a), hne, Nat.div_eq_of_lt (lt_nlen b)]⟩ ⟨rfl, .nil, rfl, rfl, rfl, ⟨rfl, rfl, rfl, trivial⟩, trivial⟩ ?_
    intro i ⟨h1, h2⟩
    by_cases h0 : i = 0
    · refine SCmp.no (decide_eq_false (by omega)) ?_
      subst h0
      have : a = b := by simpa using h2
      refine SRet.pure ?_
      rw [show cmpZ a b = 0 by simp [cmpZ, this]]
      exact .p _ (.int _ _)
    · refine SCmp.yes (decide_eq_true (by omega)) ?_
      obtain ⟨i, rfl⟩ := Nat.exists_eq_succ_of_ne_zero h0
      refine SDraw.mk (by kernel_rfl) ?_
      have e1 := nl_getD a i
      have e2 := nl_getD b i
      have q1 : (nl a).length = nlen a := rfl
      have q2 : (nl b).length = nlen b := rfl
      repeat refine SOp.mk _ _ (And.intro rfl rfl) rfl ?_
      refine SOp.mk _ _ (SWrap.i64z (i : Int) (by omega) (by omega) (And.intro rfl rfl)) rfl ?_
      refine SOp.mk _ _ (SIdx.lb i rfl (by omega) (And.intro rfl rfl)) rfl ?_
      repeat refine SOp.mk _ _ (And.intro rfl rfl) rfl ?_
      refine SOp.mk _ _ (SWrap.i64z (i : Int) (by omega) (by omega) (And.intro rfl rfl)) rfl ?_
      refine SOp.mk _ _ (SIdx.lb i rfl (by omega) (And.intro rfl rfl)) rfl ?_
      repeat refine SOp.mk _ _ (And.intro rfl rfl) rfl ?_
      generalize hx : (nl a).getD i 0 = x at e1 ⊢
      generalize hy : (nl b).getD i 0 = y at e2 ⊢
      by_cases hlt : x < y
      · refine SOp.mk _ _ (SCmp.yes (decide_eq_true (by omega)) (And.intro rfl rfl)) rfl ?_
        refine SRet.pure ?_
        rw [show cmpZ a b = -1 by simp [cmpZ, cmp_high h2 (by rw [← e1, ← e2]; exact hlt)]]
        exact .p _ (.int _ _)
      · refine SOp.mk _ _ (SCmp.no (decide_eq_false (by omega)) (And.intro rfl rfl)) rfl ?_
        refine SDraw.mk (by kernel_rfl) ?_
        repeat refine SOp.mk _ _ (And.intro rfl rfl) rfl ?_
        refine SOp.mk _ _ (SWrap.i64z (i : Int) (by omega) (by omega) (And.intro rfl rfl)) rfl ?_
        refine SOp.mk _ _ (SIdx.lb i rfl (by omega) (And.intro rfl rfl)) rfl ?_
        repeat refine SOp.mk _ _ (And.intro rfl rfl) rfl ?_
        refine SOp.mk _ _ (SWrap.i64z (i : Int) (by omega) (by omega) (And.intro rfl rfl)) rfl ?_
        refine SOp.mk _ _ (SIdx.lb i rfl (by omega) (And.intro rfl rfl)) rfl ?_
        repeat refine SOp.mk _ _ (And.intro rfl rfl) rfl ?_
        rw [hx, hy]
        by_cases hxy : x = y
        · refine SOp.mk _ _ (SCmp.no (decide_eq_false (by omega)) (And.intro rfl rfl)) rfl ?_
          refine SWrap.i64z (i : Int) (by omega) (by omega) ?_
          exact ⟨i, [], ⟨by omega, div_step h2 (by rw [← e1, ← e2]; exact hxy)⟩, Nat.lt_succ_self i, ⟨rfl, .nil, rfl, rfl, rfl, ⟨rfl, rfl, rfl, trivial⟩, trivial⟩⟩
        · refine SOp.mk _ _ (SCmp.yes (decide_eq_true (by omega)) (And.intro rfl rfl)) rfl ?_
          refine SRet.pure ?_
          have : b < a := cmp_high h2.symm (by rw [← e1, ← e2]; omega)
          rw [show cmpZ a b = 1 by simp [cmpZ, show ¬ a < b by omega, show a ≠ b by omega]]
          exact .p _ (.int _ _)
  · refine SCmp.yes (neT (by omega)) ?_
    refine SZ.mk (nlen a) (by simp) ?_
    refine SZ.mk (nlen b) (by simp) ?_
    by_cases hlt : nlen a < nlen b
    · refine SCmp.yes (decide_eq_true (by omega)) ?_
      refine SRet.pure ?_
      rw [show cmpZ a b = -1 by simp [cmpZ, lt_of_nlen hlt]]
      exact .p _ (.int _ _)
    · refine SCmp.no (decide_eq_false (by omega)) ?_
      refine SRet.pure ?_
      have : b < a := lt_of_nlen (by omega)
      rw [show cmpZ a b = 1 by simp [cmpZ, show ¬ a < b by omega, show a ≠ b by omega]]
      exact .p _ (.int _ _)

theorem radd_ok (m m' : Bool) (a b : Nat) (ha : nlen a ≤ 549755813887) (hb : nlen b ≤ 549755813887) : CallP Try.prog 82 [natM m a, natM m' b] (.p (natP (a + b))) [] := by
  refine callG_of_vc (wr := wr0) Γok mixed Try.func82 (by kernel_rfl) rfl (by kernel_rfl) (le_of_ble rfl) (by simp) ?_
  obtain ⟨L, hL⟩ : ∃ L, L = max (nlen a) (nlen b) + 1 := ⟨_, rfl⟩
  refine SZ.mk (nlen a) (by simp) ?_
  refine SZ.mk (nlen b) (by simp) ?_
  refine SZ.mk ((max (nlen a) (nlen b) : Nat) : Int) (by show (if ((nlen b : Nat) : Int) > ((nlen a : Nat) : Int) then _ else _) = _; split <;> omega) ?_
  refine SWrap.i64z (L : Int) (by omega) (by omega) ?_
  refine SZ.mk L rfl ?_
  refine SLt.mk (by simp) ?_
  refine SMake.u32 L rfl (by omega) ?_
  refine SLoop.mk (Nat × Nat × List Nat) (fun (i, c, out) => ([(0, .p (natM m a)), (1, .p (natM m' b)), (5, .vec 0 1 0 L), (6, .p (.int .u64 c)), (7, .p (.int .i64 i))], [.vec 70 1 (limbs out)]))
    (fun (i, c, out) => i ≤ L ∧ c ≤ 1 ∧ out.length = L ∧ Lok out ∧ nv (out.take i) + c * 4294967296 ^ i = a % 4294967296 ^ i + b % 4294967296 ^ i) (fun x => L - x.1) (0, 0, List.replicate L 0) [0]
    ⟨Nat.zero_le _, by simp, by simp, .replicate _, by simp [nv, Nat.mod_one]⟩
    ⟨rfl, by simp, rfl, rfl, rfl, ⟨rfl, rfl, rfl, rfl, rfl, trivial⟩, ⟨congrArg _ (limbs_replicate L).symm, trivial⟩⟩ ?_
  intro ⟨i, c, out⟩ ⟨h1, h2, h3, h4, h5⟩
  refine SZ.mk L rfl ?_
  by_cases hi : i < L
  · refine SCmp.yes (decide_eq_true (by omega)) ?_
    refine SCall.pure (rat_ok m (nl a) (nl_ok a) i) ?_
    have e1 := nl_getD a i
    have e2 := nl_getD b i
    have l1 : (nl a).getD i 0 < 4294967296 := getD_lt (nl_ok a) i
    have l2 : (nl b).getD i 0 < 4294967296 := getD_lt (nl_ok b) i
    generalize hx : (nl a).getD i 0 = x at e1 l1 ⊢
    refine SWrap.u64z (c + x) (by omega) (by omega) ?_
    refine SCall.pure (rat_ok m' (nl b) (nl_ok b) i) ?_
    generalize hy : (nl b).getD i 0 = y at e2 l2 ⊢
    refine SWrap.u64z (c + (x + y)) (by omega) (by omega) ?_
    refine SWrap.u32z ((c + (x + y)) % 4294967296) (by omega) ?_
    refine SPos.mk i rfl hi ?_
    refine SLt.set (by omega) ?_
    refine SEs.set ?_
    refine SShr32 ?_
    refine SWrap.i64z ((i + 1 : Nat) : Int) (by omega) (by omega) ?_
    refine ⟨(i + 1, (c + (x + y)) / 4294967296, out.set i ((c + (x + y)) % 4294967296)), [0], ⟨hi, by omega, by simpa using h3, h4.set (Nat.mod_lt _ (by omega)), ?_⟩, by show L - (i + 1) < L - i; omega, ⟨rfl, by simp, rfl, rfl, rfl, ⟨rfl, rfl, rfl, rfl, rfl, trivial⟩, ⟨rfl, trivial⟩⟩⟩
    rw [nv_set_take (by omega), Nat.pow_succ]
    exact add_step h5 (by rw [← e1, ← e2]; omega)
  · refine SCmp.no (decide_eq_false (by omega)) ?_
    have hiL : i = L := by omega
    subst hiL
    have hlt : a + b < 4294967296 ^ i := by
      have := lt_nlen (a + b)
      have h := nlen_add a b
      exact Nat.lt_of_lt_of_le this (Nat.pow_le_pow_right (by omega) (by omega))
    rw [mod_big a i (by omega), mod_big b i (by omega), List.take_of_length_le (by omega)] at h5
    have hc : c = 0 := by
      rcases Nat.eq_zero_or_pos c with h | h
      · exact h
      · have : 1 * 4294967296 ^ i ≤ c * 4294967296 ^ i := Nat.mul_le_mul_right _ h
        omega
    subst hc
    have hv : nv out = a + b := by omega
    refine SView.all (by simpa using h3.symm) ?_
    refine SCall.pure (rtrim_ok true out h4 (by omega)) ?_
    rw [hv]
    exact SRet.pure (.p _ (.sl _ _ (pers_limbs _)))

theorem rless_ok (m m' : Bool) (a b : Nat) (ha : nlen a ≤ 549755813888) (hba : b ≤ a) : CallP Try.prog 136 [natM m a, natM m' b] (.p (natP (a - b))) [] := by
  refine callG_of_vc (wr := wr0) Γok mixed Try.func136 (by kernel_rfl) rfl (by kernel_rfl) (le_of_ble rfl) (by simp) ?_
  obtain ⟨L, hL⟩ : ∃ L, L = nlen a := ⟨_, rfl⟩
  refine SZ.mk L (by simp [hL]) ?_
  refine SZ.mk L rfl ?_
  refine SLt.mk (by simp) ?_
  refine SMake.u32 L rfl (by omega) ?_
  refine SLoop.mk (Nat × Nat × List Nat) (fun (i, c, out) => ([(0, .p (natM m a)), (1, .p (natM m' b)), (5, .vec 0 1 0 L), (6, .p (.int .u64 c)), (7, .p (.int .i64 i))], [.vec 70 1 (limbs out)]))
    (fun (i, c, out) => i ≤ L ∧ c ≤ 1 ∧ out.length = L ∧ Lok out ∧ nv (out.take i) + b % 4294967296 ^ i = a % 4294967296 ^ i + c * 4294967296 ^ i) (fun x => L - x.1) (0, 0, List.replicate L 0) [0]
    ⟨Nat.zero_le _, by simp, by simp, .replicate _, by simp [nv, Nat.mod_one]⟩
    ⟨rfl, by simp, rfl, rfl, rfl, ⟨rfl, rfl, rfl, rfl, rfl, trivial⟩, ⟨congrArg _ (limbs_replicate L).symm, trivial⟩⟩ ?_
  intro ⟨i, c, out⟩ ⟨h1, h2, h3, h4, h5⟩
  refine SZ.mk L (by simp [hL]) ?_
  by_cases hi : i < L
  · refine SCmp.yes (decide_eq_true (by omega)) ?_
    refine SCall.pure (rat_ok m (nl a) (nl_ok a) i) ?_
    refine SCall.pure (rat_ok m' (nl b) (nl_ok b) i) ?_
    have e1 := nl_getD a i
    have e2 := nl_getD b i
    have l1 : (nl a).getD i 0 < 4294967296 := getD_lt (nl_ok a) i
    have l2 : (nl b).getD i 0 < 4294967296 := getD_lt (nl_ok b) i
    generalize hx : (nl a).getD i 0 = x at e1 l1 ⊢
    generalize hy : (nl b).getD i 0 = y at e2 l2 ⊢
    refine SWrap.u64m ?_
    refine SWrap.u64w ((x + 36893488147419103232 - y - c) % 18446744073709551616) (by omega) ?_
    obtain ⟨d, hd⟩ : ∃ d, d = (x + 36893488147419103232 - y - c) % 18446744073709551616 := ⟨_, rfl⟩
    rw [← hd]
    have hs : x + 4294967296 * (d / 9223372036854775808) = d % 4294967296 + y + c := by omega
    have hc' : d / 9223372036854775808 ≤ 1 := by omega
    refine SWrap.u32z (d % 4294967296) (by omega) ?_
    refine SPos.mk i rfl hi ?_
    refine SLt.set (by omega) ?_
    refine SEs.set ?_
    refine SShr63 ?_
    refine SWrap.i64z ((i + 1 : Nat) : Int) (by omega) (by omega) ?_
    refine ⟨(i + 1, d / 9223372036854775808, out.set i (d % 4294967296)), [0], ⟨hi, hc', by simpa using h3, h4.set (Nat.mod_lt _ (by omega)), ?_⟩, by show L - (i + 1) < L - i; omega, ⟨rfl, by simp, rfl, rfl, rfl, ⟨rfl, rfl, rfl, rfl, rfl, trivial⟩, ⟨rfl, trivial⟩⟩⟩
    rw [nv_set_take (by omega), Nat.pow_succ]
    exact sub_step e1.symm e2.symm h5 hs
  · refine SCmp.no (decide_eq_false (by omega)) ?_
    have hiL : i = L := by omega
    subst hiL
    have hba' : nlen b ≤ nlen a := nlen_mono (by omega)
    rw [mod_big a i (by omega), mod_big b i (by omega), List.take_of_length_le (by omega)] at h5
    have hc : c = 0 := by
      rcases Nat.eq_zero_or_pos c with h | h
      · exact h
      · have h6 : 1 * 4294967296 ^ i ≤ c * 4294967296 ^ i := Nat.mul_le_mul_right _ h
        have h7 := nv_lt h4
        rw [h3] at h7
        omega
    subst hc
    have hv : nv out = a - b := by omega
    refine SView.all (by simpa using h3.symm) ?_
    refine SCall.pure (rtrim_ok true out h4 (by omega)) ?_
    rw [hv]
    exact SRet.pure (.p _ (.sl _ _ (pers_limbs _)))

theorem rsub_ok (m m' : Bool) (a b : Nat) (ha : nlen a ≤ 549755813888) (hb : nlen b ≤ 549755813888) (hba : b ≤ a) :
    CallP Try.prog 83 [natM m a, natM m' b] (.tup [.p (natP (a - b)), .p (.int .i64 0)]) [] := by
  refine callG_of_vc (wr := wr0) Γok mixed Try.func83 (by kernel_rfl) rfl (by kernel_rfl) (le_of_ble rfl) (by simp) ?_
  refine SCall.pure (rcmp_ok m m' a b ha hb) ?_
  refine SCmp.no (decide_eq_false (by simp only [cmpZ]; split; omega; split <;> omega)) ?_
  refine SCall.pure (rless_ok m m' a b ha hba) ?_
  exact SRet.pure (.tup rfl fun i c d e1 e2 => by
    match i, e1, e2 with
    | 0, e1, e2 => cases e1; cases e2; exact .p _ (.sl _ _ (pers_limbs _))
    | 1, e1, e2 => cases e1; cases e2; exact .p _ (.int _ _))
end Go.Proofs.Ytkaooejeljdbnaa

/- The document's natural numbers: Mul, Bits, Shl, Shr. -/
namespace Go.Proofs.Ytkaooejeljdbnaa
open Go
set_option linter.unusedVariables false
set_option maxRecDepth 10000

theorem bitLen_lt (n : Nat) : n < 2 ^ bitLen n := (bitLen_spec n).1
theorem bitLen_le {n k : Nat} (h : n < 2 ^ k) : bitLen n ≤ k := by
  by_cases h0 : n = 0
  · subst h0; simp [bitLen]
  · have h1 := (bitLen_spec n).2 h0
    rcases Nat.lt_or_ge k (bitLen n) with h2 | h2
    · have : 2 ^ k ≤ 2 ^ (bitLen n - 1) := Nat.pow_le_pow_right (by omega) (by omega)
      omega
    · exact h2
theorem bitLen_mono {a b : Nat} (h : a ≤ b) : bitLen a ≤ bitLen b := bitLen_le (Nat.lt_of_le_of_lt h (bitLen_lt b))
theorem bitLen_mul (a b : Nat) : bitLen (a * b) ≤ bitLen a + bitLen b := bitLen_le (by
  rw [Nat.pow_add]; exact Nat.mul_lt_mul'' (bitLen_lt a) (bitLen_lt b))
theorem bitLen_add (a b : Nat) : bitLen (a + b) ≤ max (bitLen a) (bitLen b) + 1 := bitLen_le (by
  have h1 := bitLen_lt a
  have h2 := bitLen_lt b
  have m1 : 2 ^ bitLen a ≤ 2 ^ max (bitLen a) (bitLen b) := Nat.pow_le_pow_right (by omega) (Nat.le_max_left _ _)
  have m2 : 2 ^ bitLen b ≤ 2 ^ max (bitLen a) (bitLen b) := Nat.pow_le_pow_right (by omega) (Nat.le_max_right _ _)
  rw [Nat.pow_succ]
  omega)
theorem nlen_bitLen (n : Nat) : nlen n ≤ bitLen n := nlen_le (Nat.lt_of_lt_of_le (bitLen_lt n) (Nat.pow_le_pow_left (by omega) _))
theorem bitLen_zero_iff {n : Nat} : bitLen n = 0 ↔ n = 0 := by
  constructor
  · intro h; have := bitLen_lt n; rw [h] at this; simpa using this
  · intro h; subst h; simp [bitLen]
theorem bitLen_half {x : Nat} (h : x ≠ 0) : bitLen x = bitLen (x / 2) + 1 := by
  by_cases h1 : x / 2 = 0
  · have : x = 1 := by omega
    subst this; decide
  · have := bitLen_shift x 1 (by simpa using h1)
    rw [this]; simp; omega
theorem bitLen_pos {n : Nat} (h : n ≠ 0) : 2 ^ (bitLen n - 1) ≤ n := (bitLen_spec n).2 h
theorem lt_of_bitLen {a b : Nat} (h : bitLen a < bitLen b) : a < b := by
  rcases Nat.lt_or_ge a b with h1 | h1
  · exact h1
  · have := bitLen_mono h1; omega

theorem rmul_ok (m m' : Bool) (a b : Nat) (ha : nlen a ≤ 274877906944) (hb : nlen b ≤ 274877906944) : CallP Try.prog 80 [natM m a, natM m' b] (.p (natP (a * b))) [] := by
  refine callG_of_vc (wr := wr0) Γok mixed Try.func80 (by kernel_rfl) rfl (by kernel_rfl) (le_of_ble rfl) (by simp) ?_
  obtain ⟨la, hla⟩ : ∃ L, L = nlen a := ⟨_, rfl⟩
  obtain ⟨lb, hlb⟩ : ∃ L, L = nlen b := ⟨_, rfl⟩
  have ha' : (nl a).length = la := hla.symm
  have hb' : (nl b).length = lb := hlb.symm
  refine SZ.mk la (by simp [hla]) ?_
  refine SZ.mk lb (by simp [hlb]) ?_
  refine SWrap.i64z ((la + lb : Nat) : Int) (by omega) (by omega) ?_
  refine SZ.mk ((la + lb : Nat) : Int) rfl ?_
  refine SLt.mk (by simp) ?_
  refine SMake.u32 (la + lb) rfl (by omega) ?_
  refine SLoop.mk (Nat × List Nat) (fun (i, out) => ([(0, .p (natM m a)), (1, .p (natM m' b)), (5, .vec 0 1 0 (la + lb)), (6, .p (.int .i64 i))], [.vec 70 1 (limbs out)]))
    (fun (i, out) => i ≤ la ∧ out.length = la + lb ∧ Lok out ∧ nv (out.take (i + lb)) = a % 4294967296 ^ i * b) (fun x => la - x.1) (0, List.replicate (la + lb) 0) [0]
    ⟨Nat.zero_le _, by simp, .replicate _, by simp [nv_replicate, Nat.mod_one]⟩
    ⟨rfl, by simp, rfl, rfl, rfl, ⟨rfl, rfl, rfl, rfl, trivial⟩, ⟨congrArg _ (limbs_replicate _).symm, trivial⟩⟩ ?_
  intro ⟨i, out⟩ ⟨h1, h3, h4, h5⟩
  refine SZ.mk la (by simp [hla]) ?_
  by_cases hi : i < la
  · refine SCmp.yes (decide_eq_true (by omega)) ?_
    have e1 := nl_getD a i
    have l1 : (nl a).getD i 0 < 4294967296 := getD_lt (nl_ok a) i
    obtain ⟨x, hx⟩ : ∃ x, x = (nl a).getD i 0 := ⟨_, rfl⟩
    rw [← hx] at e1 l1
    refine SLoop.mk (Nat × Nat × List Nat) (fun (k, c, out) => ([(0, .p (natM m a)), (1, .p (natM m' b)), (5, .vec 0 1 0 (la + lb)), (6, .p (.int .i64 i)), (7, .p (.int .u64 c)), (8, .p (.int .i64 k))], [.vec 70 1 (limbs out)]))
      (fun (k, c, out) => k ≤ lb ∧ c < 4294967296 ∧ out.length = la + lb ∧ Lok out ∧ nv (out.take (i + lb)) + c * (4294967296 ^ i * 4294967296 ^ k) = a % 4294967296 ^ i * b + x * 4294967296 ^ i * (b % 4294967296 ^ k)) (fun x => lb - x.1) (0, 0, out) [0]
      ⟨Nat.zero_le _, by simp, h3, h4, by simp [h5, Nat.mod_one]⟩
      ⟨rfl, by simp, rfl, rfl, rfl, ⟨rfl, rfl, rfl, rfl, rfl, rfl, trivial⟩, ⟨rfl, trivial⟩⟩ ?_
    intro ⟨k, c, out⟩ ⟨g1, g2, g3, g4, g5⟩
    refine SZ.mk lb (by simp [hlb]) ?_
    by_cases hk : k < lb
    · refine SCmp.yes (decide_eq_true (by omega)) ?_
      refine SDraw.mk (by kernel_rfl) ?_
      have e2 := nl_getD b k
      have l2 : (nl b).getD k 0 < 4294967296 := getD_lt (nl_ok b) k
      have l3 : out.getD (i + k) 0 < 4294967296 := getD_lt g4 (i + k)
      repeat refine SOp.mk _ _ (And.intro rfl rfl) rfl ?_
      refine SOp.mk _ _ (SIdx.lb i rfl (by omega) (And.intro rfl rfl)) rfl ?_
      repeat refine SOp.mk _ _ (And.intro rfl rfl) rfl ?_
      rw [← hx]
      refine SOp.mk _ _ (SWrap.u64z x rfl (by omega) (And.intro rfl rfl)) rfl ?_
      repeat refine SOp.mk _ _ (And.intro rfl rfl) rfl ?_
      refine SOp.mk _ _ (SIdx.lb k rfl (by omega) (And.intro rfl rfl)) rfl ?_
      repeat refine SOp.mk _ _ (And.intro rfl rfl) rfl ?_
      generalize hy : (nl b).getD k 0 = y at e2 l2 ⊢
      have hxy := mul_le l1 l2
      refine SOp.mk _ _ (SWrap.u64z y rfl (by omega) (And.intro rfl rfl)) rfl ?_
      refine SOp.mk _ _ (SWrap.u64z (x * y) (Int.natCast_mul x y).symm (by omega) (And.intro rfl rfl)) rfl ?_
      refine SOp.mk _ _ (SWrap.u64z (c + x * y) (by omega) (by omega) (And.intro rfl rfl)) rfl ?_
      repeat refine SOp.mk _ _ (And.intro rfl rfl) rfl ?_
      refine SOp.mk _ _ (SWrap.i64z ((i + k : Nat) : Int) (by omega) (by omega) (And.intro rfl rfl)) rfl ?_
      refine SOp.mk _ _ (SPos.mk (i + k) rfl (by omega) (And.intro rfl rfl)) rfl ?_
      refine SOp.mk _ _ (SIdx.setget (by omega) (And.intro rfl rfl)) rfl ?_
      generalize ho : out.getD (i + k) 0 = o at l3 ⊢
      refine SOp.mk _ _ (SWrap.u64z o rfl (by omega) (And.intro rfl rfl)) rfl ?_
      refine SOp.mk _ _ (SWrap.u64z (c + (x * y + o)) (by omega) (by omega) (And.intro rfl rfl)) rfl ?_
      repeat refine SOp.mk _ _ (And.intro rfl rfl) rfl ?_
      obtain ⟨tot, htot⟩ : ∃ tot, tot = c + (x * y + o) := ⟨_, rfl⟩
      rw [← htot]
      refine SWrap.i64z ((i + k : Nat) : Int) (by omega) (by omega) ?_
      refine SWrap.u32z (tot % 4294967296) (by omega) ?_
      refine SPos.mk (i + k) rfl (by omega) ?_
      refine SLt.set (by omega) ?_
      refine SEs.set ?_
      refine SShr32 ?_
      refine SWrap.i64z ((k + 1 : Nat) : Int) (by omega) (by omega) ?_
      refine ⟨(k + 1, tot / 4294967296, out.set (i + k) (tot % 4294967296)), [0], ⟨hk, by omega, by simpa using g3, g4.set (Nat.mod_lt _ (by omega)), ?_⟩, by show lb - (k + 1) < lb - k; omega,
        ⟨rfl, by simp, rfl, rfl, rfl, ⟨rfl, rfl, rfl, rfl, rfl, rfl, trivial⟩, ⟨rfl, trivial⟩⟩⟩
      have hs := nv_set (out.take (i + lb)) (i + k) (tot % 4294967296) (by simp; omega)
      rw [← List.take_set, show (out.take (i + lb)).getD (i + k) 0 = o by rw [← ho]; simp [List.getD, show i + k < i + lb by omega], Nat.pow_add] at hs
      have hm := mul_step hs g5 htot
      have hb2 : b % 4294967296 ^ (k + 1) = b % 4294967296 ^ k + 4294967296 ^ k * (b / 4294967296 ^ k % 4294967296) := Nat.mod_pow_succ
      rw [hb2, ← e2, Nat.pow_succ, ← Nat.mul_assoc (4294967296 ^ i)]
      exact hm
    · refine SCmp.no (decide_eq_false (by omega)) ?_
      have hkl : k = lb := by omega
      subst hkl
      refine SZ.mk k (by simp [hb']) ?_
      refine SWrap.i64z ((i + k : Nat) : Int) (by omega) (by omega) ?_
      refine SWrap.u32z c (by omega) ?_
      refine SPos.mk (i + k) rfl (by omega) ?_
      refine SLt.set (by omega) ?_
      refine SEs.set ?_
      refine SWrap.i64z ((i + 1 : Nat) : Int) (by omega) (by omega) ?_
      refine ⟨(i + 1, out.set (i + k) c), [0], ⟨hi, by simpa using g3, g4.set g2, ?_⟩, by show la - (i + 1) < la - i; omega, ⟨rfl, by simp, rfl, rfl, rfl, ⟨rfl, rfl, rfl, rfl, trivial⟩, ⟨rfl, trivial⟩⟩⟩
      rw [show i + 1 + k = i + k + 1 by omega, nv_set_take (by omega), Nat.pow_add, Nat.pow_succ, Nat.mod_mul, ← e1]
      rw [mod_big b k (by omega)] at g5
      grind
  · refine SCmp.no (decide_eq_false (by omega)) ?_
    have hiL : i = la := by omega
    subst hiL
    rw [mod_big a i (by omega), List.take_of_length_le (by omega)] at h5
    refine SView.all (by simpa using h3.symm) ?_
    refine SCall.pure (rtrim_ok true out h4 (by omega)) ?_
    rw [h5]
    exact SRet.pure (.p _ (.sl _ _ (pers_limbs _)))

theorem SShr1 {a : Nat} {K : Int → Prop} (hk : K ((a / 2 : Nat) : Int)) : SGe 1 (SZ ((a : Int).fdiv (2 ^ (min (1 : Int).toNat (IntKind.bits .u32)))) K) :=
  .mk (by decide) (.mk _ (by
    show Int.fdiv (a : Int) 2 = _
    rw [Int.fdiv_eq_ediv_of_nonneg _ (by decide)]; omega) hk)

theorem rbits_ok (m : Bool) (a : Nat) (ha : nlen a ≤ 549755813888) : CallP Try.prog 139 [natM m a] (.p (.int .i64 (bitLen a))) [] := by
  refine callG_of_vc (wr := wr0) Γok mixed Try.func139 (by kernel_rfl) rfl (by kernel_rfl) (le_of_ble rfl) (by simp) ?_
  refine SZ.mk (nlen a) (by simp) ?_
  by_cases h0 : a = 0
  · have := nlen_zero_iff.2 h0
    refine SCmp.yes (eqT (by omega)) ?_
    rw [bitLen_zero_iff.2 h0]
    exact SRet.pure (.p _ (.int _ _))
  · have hn := mt nlen_zero_iff.1 h0
    refine SCmp.no (eqF (by omega)) ?_
    obtain ⟨L, hL⟩ : ∃ L, nlen a = L + 1 := ⟨nlen a - 1, by omega⟩
    have hL' : (nl a).length = L + 1 := hL
    refine SZ.mk ((L + 1 : Nat) : Int) (by simp [hL']) ?_
    refine SWrap.i64z (L : Int) (by omega) (by omega) ?_
    refine SWrap.i64z ((32 * L : Nat) : Int) (by omega) (by omega) ?_
    refine SZ.mk ((L + 1 : Nat) : Int) (by simp [hL']) ?_
    refine SWrap.i64z (L : Int) (by omega) (by omega) ?_
    refine SIdx.lb L rfl (by omega) ?_
    have l1 : (nl a).getD L 0 < 4294967296 := getD_lt (nl_ok a) L
    have e1 : a / 2 ^ (32 * L) = (nl a).getD L 0 := by
      rw [nl_getD, Nat.pow_mul]
      have := lt_nlen a
      rw [hL, Nat.pow_succ, Nat.mul_comm] at this
      have h2 : a / 4294967296 ^ L < 4294967296 := (Nat.div_lt_iff_lt_mul (pow_pos' L)).2 this
      exact (Nat.mod_eq_of_lt h2).symm
    have hz := nl_last h0
    rw [hL', Nat.add_sub_cancel] at hz
    have hb : bitLen a = 32 * L + bitLen ((nl a).getD L 0) := by rw [← e1] at hz ⊢; exact bitLen_shift a (32 * L) hz
    have hb32 : bitLen ((nl a).getD L 0) ≤ 32 := bitLen_le l1
    obtain ⟨B, hB⟩ : ∃ B, B = bitLen a := ⟨_, rfl⟩
    rw [← hB] at hb
    refine SLoop.mk (Nat × Nat) (fun (n, x) => ([(3, .p (.int .i64 n)), (4, .p (.int .u32 x))], [])) (fun (n, x) => n + bitLen x = B) (fun x => x.2) (32 * L, (nl a).getD L 0) []
      hb.symm ⟨rfl, .nil, rfl, rfl, rfl, ⟨rfl, rfl, trivial⟩, trivial⟩ ?_
    intro ⟨n, x⟩ h
    have h : n + bitLen x = B := h
    by_cases hx : x = 0
    · refine SCmp.no (decide_eq_false (by omega)) ?_
      rw [bitLen_zero_iff.2 hx] at h
      rw [← hB, show n = B by omega]
      exact SRet.pure (.p _ (.int _ _))
    · refine SCmp.yes (decide_eq_true (by omega)) ?_
      have := bitLen_half hx
      refine SWrap.i64z ((n + 1 : Nat) : Int) (by omega) (by omega) ?_
      refine SShr1 ?_
      exact ⟨(n + 1, x / 2), [], by show n + 1 + bitLen (x / 2) = B; omega, by show x / 2 < x; omega, ⟨rfl, .nil, rfl, rfl, rfl, ⟨rfl, rfl, trivial⟩, trivial⟩⟩
end Go.Proofs.Ytkaooejeljdbnaa

/- The document's natural numbers: Shl, Shr. -/
namespace Go.Proofs.Ytkaooejeljdbnaa
open Go
set_option linter.unusedVariables false
set_option maxRecDepth 10000

theorem SOrNr {q s r v : Nat} {K : Int → Prop} (hx : q * 2 ^ s < 4294967296) (hr : r < 2 ^ s) (hr' : r < 4294967296) (hv : v = q * 2 ^ s + r) (hv' : v < 4294967296) (hk : K (v : Int)) :
    SWrap .u32 (((BitVec.ofInt (IntKind.bits .u32) (r : Int) ||| BitVec.ofInt (IntKind.bits .u32) ((q * 2 ^ s : Nat) : Int)).toNat : Nat) : Int) K := by
  refine .u32z v ?_ hk
  show (((BitVec.ofInt 32 (r : Int) ||| BitVec.ofInt 32 ((q * 2 ^ s : Nat) : Int)).toNat : Nat) : Int) % 4294967296 = _
  rw [BitVec.toNat_or, ofInt_toNat32 hx, ofInt_toNat32 hr', Nat.or_comm, Nat.mul_comm, ← Nat.two_pow_add_eq_or_of_lt hr, Nat.mul_comm, ← hv]
  omega

/-- A round of a shift to the left. -/
theorem shl_round {t t1 t2 pw x D Bi Am S lo hi o : Nat} (hs1 : t1 + (pw * Bi) * o = t + (pw * Bi) * (lo + o)) (hs2 : t2 = t1 + (pw * Bi * 4294967296) * hi) (hx : x * D = lo + 4294967296 * hi) (h : t = Am * D * pw) :
    t2 = (Am + Bi * x) * D * pw := by
  have e1 : t1 = t + (pw * Bi) * lo := by
    have : (pw * Bi) * (lo + o) = (pw * Bi) * lo + (pw * Bi) * o := by grind
    omega
  rw [hs2, e1, h]
  have : (Am + Bi * x) * D * pw = Am * D * pw + pw * Bi * (x * D) := by grind
  rw [this, hx]
  grind

theorem rshl_ok (m : Bool) (a k : Nat) (ha : nlen a ≤ 274877906944) (hk : k ≤ 1048576) : CallP Try.prog 35 [natM m a, .int .i64 k] (.p (natP (a * 2 ^ k))) [] := by
  refine callG_of_vc (wr := wr0) Γok mixed Try.func35 (by kernel_rfl) rfl (by kernel_rfl) (le_of_ble rfl) (by simp) ?_
  refine SCmp.no (decide_eq_false (by omega)) ?_
  refine SCmp.no (decide_eq_false (by omega)) ?_
  refine SZ.mk (nlen a) (by simp) ?_
  by_cases h0 : a = 0
  · have := nlen_zero_iff.2 h0
    refine SCmp.yes (eqT (by omega)) ?_
    refine SCall.pure (rtrimn_ok m a (by omega)) ?_
    rw [show a * 2 ^ k = a by rw [h0, Nat.zero_mul]]
    exact SRet.pure (.p _ (.sl _ _ (pers_limbs _)))
  · have hn0 := mt nlen_zero_iff.1 h0
    refine SCmp.no (eqF (by omega)) ?_
    obtain ⟨n, hn⟩ : ∃ n, n = k / 32 := ⟨_, rfl⟩
    obtain ⟨s, hs⟩ : ∃ s, s = k % 32 := ⟨_, rfl⟩
    have hs' : s < 32 := by omega
    have hk2 : 2 ^ k = 4294967296 ^ n * 2 ^ s := by
      rw [show (4294967296 : Nat) = 2 ^ 32 by decide, ← Nat.pow_mul, ← Nat.pow_add]; congr 1; omega
    refine SQuo (b := 32) (by omega) hn (by rw [IntKind.wrap_i64]; omega) ?_
    refine SRem (b := 32) (by omega) hs ?_
    refine SWrap.u64z s rfl (by omega) ?_
    obtain ⟨N, hN⟩ : ∃ N, N = nlen a := ⟨_, rfl⟩
    have hN' : (nl a).length = N := hN.symm
    refine SZ.mk N (by simp [hN]) ?_
    refine SWrap.i64z ((N + n : Nat) : Int) (by omega) (by omega) ?_
    obtain ⟨L, hL⟩ : ∃ L, L = N + n + 1 := ⟨_, rfl⟩
    refine SWrap.i64z (L : Int) (by omega) (by omega) ?_
    refine SZ.mk L rfl ?_
    refine SLt.mk (by simp) ?_
    refine SMake.u32 L rfl (by omega) ?_
    have hD : 0 < 2 ^ s := Nat.two_pow_pos s
    have hC : 0 < 2 ^ (32 - s) := Nat.two_pow_pos _
    have hDC := pow_split (s := s) (by omega)
    have hDB : 2 ^ s ≤ 2147483648 := Nat.le_trans (Nat.pow_le_pow_right (by omega) (show s ≤ 31 by omega)) (by decide)
    refine SLoop.mk (Nat × List Nat) (fun (i, out) => ([(0, .p (natM m a)), (5, .p (.int .i64 n)), (6, .p (.int .u64 s)), (7, .vec 0 1 0 L), (8, .p (.int .i64 i))], [.vec 70 1 (limbs out)]))
      (fun (i, out) => i ≤ N ∧ out.length = L ∧ Lok out ∧ nv out = a % 4294967296 ^ i * 2 ^ s * 4294967296 ^ n) (fun x => N - x.1) (0, List.replicate L 0) [0]
      ⟨Nat.zero_le _, by simp, .replicate _, by simp [nv_replicate, Nat.mod_one]⟩
      ⟨rfl, by simp, rfl, rfl, rfl, ⟨rfl, rfl, rfl, rfl, rfl, trivial⟩, ⟨congrArg _ (limbs_replicate L).symm, trivial⟩⟩ ?_
    intro ⟨i, out⟩ ⟨h1, h3, h4, h5⟩
    refine SZ.mk N (by simp [hN]) ?_
    by_cases hi : i < N
    · refine SCmp.yes (decide_eq_true (by omega)) ?_
      refine SIdx.lb i rfl (by omega) ?_
      have e1 := nl_getD a i
      have l1 : (nl a).getD i 0 < 4294967296 := getD_lt (nl_ok a) i
      obtain ⟨x, hx⟩ : ∃ x, x = (nl a).getD i 0 := ⟨_, rfl⟩
      rw [← hx] at e1 l1
      rw [← hx]
      refine SWrap.u64z x rfl (by omega) ?_
      obtain ⟨X, hX⟩ : ∃ X, X = x * 2 ^ s := ⟨_, rfl⟩
      refine SShlN (v := X) hs' l1 hX ?_
      refine SWrap.i64z ((i + n : Nat) : Int) (by omega) (by omega) ?_
      refine SWrap.i64z ((i + n : Nat) : Int) (by omega) (by omega) ?_
      refine SPos.mk (i + n) rfl (by omega) ?_
      refine SIdx.lb (i + n) rfl (by omega) ?_
      have hlt : a % 4294967296 ^ i * 2 ^ s < 4294967296 ^ i * 2 ^ s := Nat.mul_lt_mul_of_pos_right (Nat.mod_lt _ (pow_pos' i)) hD
      have ho : out.getD (i + n) 0 < 2 ^ s := by
        rw [getD_nv h4, h5, Nat.pow_add, Nat.mul_comm (4294967296 ^ i), ← Nat.div_div_eq_div_mul, Nat.mul_div_cancel _ (pow_pos' n)]
        refine Nat.lt_of_le_of_lt (Nat.mod_le _ _) ?_
        rw [Nat.div_lt_iff_lt_mul (pow_pos' i), Nat.mul_comm (2 ^ s)]
        exact hlt
      have ho2 : out.getD (i + n + 1) 0 = 0 := by
        rw [getD_nv h4, h5, show i + n + 1 = n + (i + 1) by omega, Nat.pow_add, ← Nat.div_div_eq_div_mul, Nat.mul_div_cancel _ (pow_pos' n), Nat.div_eq_of_lt, Nat.zero_mod]
        refine Nat.lt_of_lt_of_le hlt ?_
        rw [Nat.pow_succ]
        exact Nat.mul_le_mul_left _ (by omega)
      obtain ⟨o, hoe⟩ : ∃ o, o = out.getD (i + n) 0 := ⟨_, rfl⟩
      rw [← hoe] at ho
      rw [← hoe]
      have hlo : X % 4294967296 = (x % 2 ^ (32 - s)) * 2 ^ s := by
        have := shl_limb0 (A := x) hD hDC
        rw [Nat.mod_eq_of_lt l1] at this
        rw [hX, this]
      refine SWrap.u32z (x % 2 ^ (32 - s) * 2 ^ s) (by rw [← hlo]; omega) ?_
      have hxl : x % 2 ^ (32 - s) * 2 ^ s + 2 ^ s ≤ 4294967296 := by
        have : x % 2 ^ (32 - s) + 1 ≤ 2 ^ (32 - s) := Nat.mod_lt _ hC
        have := Nat.mul_le_mul_right (2 ^ s) this
        rw [Nat.add_mul, Nat.one_mul, Nat.mul_comm (2 ^ (32 - s)), hDC] at this
        exact this
      refine SOrNr (v := x % 2 ^ (32 - s) * 2 ^ s + o) (by omega) ho (by omega) rfl (by omega) ?_
      rw [← hlo]
      have hlo' : X % 4294967296 + o < 4294967296 := by omega
      refine SPos.mk (i + n) rfl (by omega) ?_
      refine SLt.set (by omega) ?_
      refine SEs.set ?_
      refine SWrap.i64z ((i + n : Nat) : Int) (by omega) (by omega) ?_
      refine SWrap.i64z ((i + n + 1 : Nat) : Int) (by omega) (by omega) ?_
      refine SShr32 ?_
      have hXl : X < 4294967296 * 4294967296 := by
        have : x * 2 ^ s ≤ 4294967295 * 2147483648 := Nat.mul_le_mul (by omega) hDB
        omega
      refine SWrap.u32z (X / 4294967296) (by omega) ?_
      refine SPos.mk (i + n + 1) rfl (by omega) ?_
      refine SLt.set (by simp; omega) ?_
      refine SEs.set ?_
      refine SWrap.i64z ((i + 1 : Nat) : Int) (by omega) (by omega) ?_
      refine ⟨(i + 1, (out.set (i + n) (X % 4294967296 + o)).set (i + n + 1) (X / 4294967296)), [0], ⟨hi, by simpa using h3, (h4.set hlo').set (by omega), ?_⟩, by show N - (i + 1) < N - i; omega, ⟨rfl, by simp, rfl, rfl, rfl, ⟨rfl, rfl, rfl, rfl, rfl, trivial⟩, ⟨rfl, trivial⟩⟩⟩
      have q1 := nv_set out (i + n) (X % 4294967296 + o) (by omega)
      have q2 := nv_set (out.set (i + n) (X % 4294967296 + o)) (i + n + 1) (X / 4294967296) (by simp; omega)
      rw [show (out.set (i + n) (X % 4294967296 + o)).getD (i + n + 1) 0 = out.getD (i + n + 1) 0 by simp [List.getD], ho2, Nat.mul_zero, Nat.add_zero] at q2
      rw [← hoe] at q1
      have e3 : a % 4294967296 ^ (i + 1) = a % 4294967296 ^ i + 4294967296 ^ i * x := by rw [e1]; exact Nat.mod_pow_succ
      rw [e3]
      rw [Nat.add_comm i n, Nat.pow_add] at q1
      rw [Nat.add_comm i n, Nat.pow_succ, Nat.pow_add] at q2
      rw [Nat.add_comm i n]
      have e4 : x * 2 ^ s = X % 4294967296 + 4294967296 * (X / 4294967296) := by rw [← hX]; exact (Nat.mod_add_div X 4294967296).symm
      exact shl_round (S := 0) q1 q2 e4 h5
    · refine SCmp.no (decide_eq_false (by omega)) ?_
      have hiL : i = N := by omega
      subst hiL
      rw [mod_big _ i (by omega), Nat.mul_assoc, Nat.mul_comm (2 ^ s), ← hk2] at h5
      refine SView.all (by simpa using h3.symm) ?_
      refine SCall.pure (rtrim_ok true out h4 (by omega)) ?_
      rw [h5]
      exact SRet.pure (.p _ (.sl _ _ (pers_limbs _)))
end Go.Proofs.Ytkaooejeljdbnaa

/- The document's natural numbers: Shr, Div, Gcd. -/
namespace Go.Proofs.Ytkaooejeljdbnaa
open Go
set_option linter.unusedVariables false
set_option maxRecDepth 10000

theorem rshr_ok (m : Bool) (a k : Nat) (ha : nlen a ≤ 274877906944) (hk : k ≤ 1048576) : CallP Try.prog 140 [natM m a, .int .i64 k] (.p (natP (a / 2 ^ k))) [] := by
  refine callG_of_vc (wr := wr0) Γok mixed Try.func140 (by kernel_rfl) rfl (by kernel_rfl) (le_of_ble rfl) (by simp) ?_
  refine SCmp.no (decide_eq_false (by omega)) ?_
  refine SCmp.no (decide_eq_false (by omega)) ?_
  obtain ⟨n, hn⟩ : ∃ n, n = k / 32 := ⟨_, rfl⟩
  obtain ⟨s, hs⟩ : ∃ s, s = k % 32 := ⟨_, rfl⟩
  have hs' : s < 32 := by omega
  have hk2 : 2 ^ k = 4294967296 ^ n * 2 ^ s := by
    rw [show (4294967296 : Nat) = 2 ^ 32 by decide, ← Nat.pow_mul, ← Nat.pow_add]; congr 1; omega
  refine SQuo (b := 32) (by omega) hn (by rw [IntKind.wrap_i64]; omega) ?_
  refine SRem (b := 32) (by omega) hs ?_
  refine SWrap.u64z s rfl (by omega) ?_
  have hD : 0 < 2 ^ s := Nat.two_pow_pos s
  have hDC := pow_split (s := s) (by omega)
  refine SZ.mk (nlen a) (by simp) ?_
  by_cases hw : nlen a ≤ n
  · refine SCmp.yes (decide_eq_true (by omega)) ?_
    have hz : a / 2 ^ k = 0 := by
      rw [hk2, ← Nat.div_div_eq_div_mul, Nat.div_eq_of_lt (Nat.lt_of_lt_of_le (lt_nlen a) (Nat.pow_le_pow_right (by omega) hw)), Nat.zero_div]
    rw [hz, natP_zero]
    exact SRet.pure (.emp _)
  · refine SCmp.no (decide_eq_false (by omega)) ?_
    obtain ⟨L, hL⟩ : ∃ L, L = nlen a - n := ⟨_, rfl⟩
    refine SZ.mk (nlen a) (by simp) ?_
    refine SWrap.i64z (L : Int) (by omega) (by omega) ?_
    refine SZ.mk L rfl ?_
    refine SLt.mk (by simp) ?_
    refine SMake.u32 L rfl (by omega) ?_
    refine SLoop.mk (Nat × List Nat) (fun (i, out) => ([(0, .p (natM m a)), (5, .p (.int .i64 n)), (6, .p (.int .u64 s)), (7, .vec 0 1 0 L), (8, .p (.int .i64 i))], [.vec 70 1 (limbs out)]))
      (fun (i, out) => i ≤ L ∧ out.length = L ∧ Lok out ∧ nv (out.take i) = a / 2 ^ k % 4294967296 ^ i) (fun x => L - x.1) (0, List.replicate L 0) [0]
      ⟨Nat.zero_le _, by simp, .replicate _, by simp [nv, Nat.mod_one]⟩
      ⟨rfl, by simp, rfl, rfl, rfl, ⟨rfl, rfl, rfl, rfl, rfl, trivial⟩, ⟨congrArg _ (limbs_replicate L).symm, trivial⟩⟩ ?_
    intro ⟨i, out⟩ ⟨h1, h3, h4, h5⟩
    refine SZ.mk L rfl ?_
    by_cases hi : i < L
    · refine SCmp.yes (decide_eq_true (by omega)) ?_
      refine SWrap.i64z ((i + n : Nat) : Int) (by omega) (by omega) ?_
      refine SCall.pure (rat_ok m (nl a) (nl_ok a) (i + n)) ?_
      refine SWrap.i64z ((i + n : Nat) : Int) (by omega) (by omega) ?_
      refine SWrap.i64z ((i + n + 1 : Nat) : Int) (by omega) (by omega) ?_
      refine SCall.pure (rat_ok m (nl a) (nl_ok a) (i + n + 1)) ?_
      obtain ⟨x, hx⟩ : ∃ x : Nat, x = (nl a).getD (i + n) 0 := ⟨_, rfl⟩
      obtain ⟨y, hy⟩ : ∃ y : Nat, y = (nl a).getD (i + n + 1) 0 := ⟨_, rfl⟩
      have lx : x < 4294967296 := by rw [hx]; exact getD_lt (nl_ok a) _
      have ly : y < 4294967296 := by rw [hy]; exact getD_lt (nl_ok a) _
      rw [← hx, ← hy]
      refine SShl32 ly ?_
      obtain ⟨S, hS⟩ : ∃ S, S = x + 4294967296 * y := ⟨_, rfl⟩
      refine SOr32r lx ly hS ?_
      obtain ⟨v, hv⟩ : ∃ v, v = S / 2 ^ s := ⟨_, rfl⟩
      refine SShrN hs' hv ?_
      have hlimb : a / 2 ^ k / 4294967296 ^ i % 4294967296 = v % 4294967296 := by
        rw [hv, hS, hx, hy, nl_getD, nl_getD, hk2, ← Nat.div_div_eq_div_mul, shr_limb hD hDC]
        rw [Nat.div_div_eq_div_mul, Nat.div_div_eq_div_mul, Nat.add_comm i n, Nat.add_assoc, Nat.pow_add, Nat.pow_add, Nat.pow_succ]
      refine SWrap.u32z (v % 4294967296) (by omega) ?_
      refine SPos.mk i rfl hi ?_
      refine SLt.set (by omega) ?_
      refine SEs.set ?_
      refine SWrap.i64z ((i + 1 : Nat) : Int) (by omega) (by omega) ?_
      refine ⟨(i + 1, out.set i (v % 4294967296)), [0], ⟨hi, by simpa using h3, h4.set (Nat.mod_lt _ (by omega)), ?_⟩, by show L - (i + 1) < L - i; omega, ⟨rfl, by simp, rfl, rfl, rfl, ⟨rfl, rfl, rfl, rfl, rfl, trivial⟩, ⟨rfl, trivial⟩⟩⟩
      rw [nv_set_take (by omega), h5, ← hlimb]
      exact Nat.mod_pow_succ.symm
    · refine SCmp.no (decide_eq_false (by omega)) ?_
      have hiL : i = L := by omega
      subst hiL
      have hlt : a / 2 ^ k < 4294967296 ^ i := by
        rw [hk2, ← Nat.div_div_eq_div_mul]
        refine Nat.lt_of_le_of_lt (Nat.div_le_self _ _) ?_
        rw [Nat.div_lt_iff_lt_mul (pow_pos' n), ← Nat.pow_add]
        exact Nat.lt_of_lt_of_le (lt_nlen a) (Nat.pow_le_pow_right (by omega) (by omega))
      rw [Nat.mod_eq_of_lt hlt, List.take_of_length_le (by omega)] at h5
      refine SView.all (by simpa using h3.symm) ?_
      refine SCall.pure (rtrim_ok true out h4 (by omega)) ?_
      rw [h5]
      exact SRet.pure (.p _ (.sl _ _ (pers_limbs _)))

theorem SShlU {s v : Nat} {K : Int → Prop} (hs : s < 32) (hv : v = 2 ^ s) (hk : K (v : Int)) : SGe (s : Int) (SWrap .u32 ((1 : Int) * 2 ^ (min (s : Int).toNat (IntKind.bits .u32))) K) := by
  have hm : min (s : Int).toNat (IntKind.bits .u32) = s := by rw [Int.toNat_natCast]; exact Nat.min_eq_left (by show s ≤ 32; omega)
  rw [hm]
  have h1 : 2 ^ s ≤ 2 ^ 31 := Nat.pow_le_pow_right (by omega) (by omega)
  refine .mk (by omega) (.u32z v ?_ hk)
  rw [hv, Int.one_mul, show (2 : Int) ^ s = ((2 ^ s : Nat) : Int) by simp]
  omega

/-- A bit is laid into the quotient. -/
theorem bit_limb {V t i w s : Nat} (hi : i = 32 * w + s) (hs : s < 32) (hV : V = 2 ^ (i + 1) * t) : V / 4294967296 ^ w % 4294967296 = t % 2 ^ (31 - s) * 2 ^ (s + 1) := by
  have e1 : V = 4294967296 ^ w * (2 ^ (s + 1) * t) := by
    rw [hV, hi, show (4294967296 : Nat) = 2 ^ 32 by decide, ← Nat.pow_mul, ← Nat.mul_assoc, ← Nat.pow_add, Nat.add_assoc]
  have e2 : 2 ^ (s + 1) * 2 ^ (31 - s) = 4294967296 := by rw [← Nat.pow_add, show s + 1 + (31 - s) = 32 by omega]
  rw [e1, Nat.mul_div_cancel_left _ (pow_pos' w), ← e2, Nat.mul_mod_mul_left, Nat.mul_comm]

theorem rdiv_ok (m m' : Bool) (a b : Nat) (hb0 : b ≠ 0) (ha : bitLen a ≤ 1048576) (hb : bitLen b ≤ 1048576) :
    CallP Try.prog 87 [natM m a, natM m' b] (.tup [.p (natP (a / b)), .p (natP (a % b)), .p (.int .i64 0)]) [] := by
  have hna := nlen_bitLen a
  have hnb := nlen_bitLen b
  refine callG_of_vc (wr := wr0) Γok mixed Try.func87 (by kernel_rfl) rfl (by kernel_rfl) (le_of_ble rfl) (by simp) ?_
  refine SZ.mk (nlen b) (by simp) ?_
  have hb1 := mt nlen_zero_iff.1 hb0
  refine SCmp.no (eqF (by omega)) ?_
  refine SCall.pure (rbits_ok m a (by omega)) ?_
  refine SCall.pure (rbits_ok m' b (by omega)) ?_
  refine SWrap.i64z ((bitLen a : Int) - bitLen b) rfl (by omega) ?_
  by_cases hk0 : bitLen a < bitLen b
  · refine SCmp.yes (decide_eq_true (by omega)) ?_
    refine SCall.pure (rtrimn_ok m a (by omega)) ?_
    have hlt := lt_of_bitLen hk0
    rw [Nat.div_eq_of_lt hlt, Nat.mod_eq_of_lt hlt, natP_zero]
    exact SRet.pure (.tup rfl fun i c d e1 e2 => by
      match i, e1, e2 with
      | 0, e1, e2 => cases e1; cases e2; exact .emp _
      | 1, e1, e2 => cases e1; cases e2; exact .p _ (.sl _ _ (pers_limbs _))
      | 2, e1, e2 => cases e1; cases e2; exact .p _ (.int _ _))
  · refine SCmp.no (decide_eq_false (by omega)) ?_
    obtain ⟨k, hk⟩ : ∃ k, bitLen a = k + bitLen b := ⟨bitLen a - bitLen b, by omega⟩
    rw [show (bitLen a : Int) - bitLen b = (k : Int) by omega]
    obtain ⟨n, hn⟩ : ∃ n, n = k / 32 := ⟨_, rfl⟩
    refine SQuo (b := 32) (by omega) hn (by rw [IntKind.wrap_i64]; omega) ?_
    obtain ⟨L, hL⟩ : ∃ L, L = n + 1 := ⟨_, rfl⟩
    refine SWrap.i64z (L : Int) (by omega) (by omega) ?_
    refine SZ.mk L rfl ?_
    refine SLt.mk (by simp) ?_
    refine SMake.u32 L rfl (by omega) ?_
    refine SCall.pure (rtrimn_ok m a (by omega)) ?_
    refine SCall.pure (rshl_ok m' b k (by omega) (by omega)) ?_
    have hkl : nlen (b * 2 ^ k) ≤ 4194304 := by have := nlen_shl b k; omega
    have hinit : a < b * 2 ^ (k + 1) := by
      have h1 := bitLen_lt a
      have h2 := bitLen_pos hb0
      have h3 : bitLen b ≠ 0 := mt bitLen_zero_iff.1 hb0
      rw [hk, show k + bitLen b = (bitLen b - 1) + (k + 1) by omega, Nat.pow_add] at h1
      exact Nat.lt_of_lt_of_le h1 (Nat.mul_le_mul_right _ h2)
    refine SLoop.mk (Nat × Int × List Nat × Nat × Nat) (fun (j, z, q, r, d) => ([(8, .vec 0 1 0 L), (9, .p (natP r)), (10, .p (natP d)), (11, .p (.int .i64 z))], [.vec 70 1 (limbs q)]))
      (fun (j, z, q, r, d) => j ≤ k + 1 ∧ z = (j : Int) - 1 ∧ q.length = L ∧ Lok q ∧ a = nv q * b + r ∧ (∃ t, nv q = 2 ^ j * t) ∧ r < b * 2 ^ j ∧ d = b * 2 ^ j / 2) (fun x => x.1) (k + 1, (k : Int), List.replicate L 0, a, b * 2 ^ k) [0]
      ⟨Nat.le_refl _, by omega, by simp, .replicate _, by simp [nv_replicate], ⟨0, by simp [nv_replicate]⟩, hinit, by rw [Nat.pow_succ, ← Nat.mul_assoc, Nat.mul_div_cancel _ (by omega)]⟩
      ⟨rfl, by simp, rfl, rfl, rfl, ⟨rfl, rfl, rfl, rfl, trivial⟩, ⟨congrArg _ (limbs_replicate L).symm, trivial⟩⟩ ?_
    intro ⟨j, z, q, r, d⟩ ⟨h1, hz, h2, h3, h4, ⟨t, h5⟩, h6, h7⟩
    by_cases hj : j = 0
    · subst hj
      refine SCmp.no (decide_eq_false (by omega)) ?_
      refine SView.all (by simpa using h2.symm) ?_
      refine SCall.pure (rtrim_ok true q h3 (by omega)) ?_
      rw [Nat.pow_zero, Nat.mul_one] at h6
      have hm := Nat.div_mod_unique (Nat.pos_of_ne_zero hb0) |>.2 (⟨by rw [h4]; grind, h6⟩ : r + b * nv q = a ∧ r < b)
      rw [hm.1, hm.2]
      exact SRet.pure (.tup rfl fun i c d e1 e2 => by
        match i, e1, e2 with
        | 0, e1, e2 => cases e1; cases e2; exact .p _ (.sl _ _ (pers_limbs _))
        | 1, e1, e2 => cases e1; cases e2; exact .p _ (.sl _ _ (pers_limbs _))
        | 2, e1, e2 => cases e1; cases e2; exact .p _ (.int _ _))
    · obtain ⟨i, rfl⟩ := Nat.exists_eq_succ_of_ne_zero hj
      have hz : z = (i : Int) := by omega
      subst hz
      refine SCmp.yes (decide_eq_true (by omega)) ?_
      have hd : d = b * 2 ^ i := by rw [h7, Nat.pow_succ, ← Nat.mul_assoc, Nat.mul_div_cancel _ (by omega)]
      have hd2 : b * 2 ^ i / 2 = d / 2 := by rw [hd]
      have hra : r ≤ a := by rw [h4]; exact Nat.le_add_left _ _
      have hrl : nlen r ≤ 1048576 := Nat.le_trans (nlen_mono hra) (by omega)
      have hdl : nlen d ≤ 4194304 := Nat.le_trans (nlen_mono (by rw [hd]; exact Nat.mul_le_mul_left _ (Nat.pow_le_pow_right (by omega) (by omega)))) hkl
      refine SCall.pure (rcmp_ok false false r d (by omega) (by omega)) ?_
      by_cases hrd : d ≤ r
      · refine SCmp.yes (decide_eq_true (by simp only [cmpZ]; split; omega; split <;> omega)) ?_
        refine SCall.pure (rless_ok false false r d (by omega) hrd) ?_
        obtain ⟨w, hw⟩ : ∃ w, w = i / 32 := ⟨_, rfl⟩
        obtain ⟨s, hs⟩ : ∃ s, s = i % 32 := ⟨_, rfl⟩
        have hs' : s < 32 := by omega
        refine SQuo (b := 32) (by omega) hw (by rw [IntKind.wrap_i64]; omega) ?_
        refine SQuo (b := 32) (by omega) hw (by rw [IntKind.wrap_i64]; omega) ?_
        refine SPos.mk w rfl (by omega) ?_
        refine SIdx.lb w rfl (by omega) ?_
        refine SRem (b := 32) (by omega) hs ?_
        refine SWrap.u64z s rfl (by omega) ?_
        refine SShlU (v := 2 ^ s) hs' rfl ?_
        have ho : q.getD w 0 = t % 2 ^ (31 - s) * 2 ^ (s + 1) := by
          rw [getD_nv h3]; exact bit_limb (by omega) hs' h5
        obtain ⟨u, hu⟩ : ∃ u, u = t % 2 ^ (31 - s) := ⟨_, rfl⟩
        have hul : u < 2 ^ (31 - s) := by rw [hu]; exact Nat.mod_lt _ (Nat.two_pow_pos _)
        have hul2 : (u + 1) * 2 ^ (s + 1) ≤ 4294967296 := by
          have := Nat.mul_le_mul_right (2 ^ (s + 1)) hul
          rwa [← Nat.pow_add, show 31 - s + (s + 1) = 32 by omega] at this
        rw [Nat.add_mul, Nat.one_mul] at hul2
        rw [← hu] at ho
        rw [ho]
        have hp : 2 ^ (s + 1) = 2 * 2 ^ s := by rw [Nat.pow_succ, Nat.mul_comm]
        have hps : 0 < 2 ^ s := Nat.two_pow_pos s
        refine SOrN (q := u) (s := s + 1) (r := 2 ^ s) (v := u * 2 ^ (s + 1) + 2 ^ s) (by omega) (by omega) (by omega) rfl (by omega) ?_
        refine SPos.mk w rfl (by omega) ?_
        refine SLt.set (by omega) ?_
        refine SEs.set ?_
        refine SCall.pure (rshr_ok false d 1 (by omega) (by omega)) ?_
        refine SWrap.i64z ((i : Int) - 1) rfl (by omega) ?_
        have hset := nv_set q w (u * 2 ^ (s + 1) + 2 ^ s) (by omega)
        rw [ho] at hset
        have hpi : 4294967296 ^ w * 2 ^ s = 2 ^ i := by
          rw [show (4294967296 : Nat) = 2 ^ 32 by decide, ← Nat.pow_mul, ← Nat.pow_add]; congr 1; omega
        have hq' : nv (q.set w (u * 2 ^ (s + 1) + 2 ^ s)) = nv q + 2 ^ i := by
          have : 4294967296 ^ w * (u * 2 ^ (s + 1) + 2 ^ s) = 4294967296 ^ w * (u * 2 ^ (s + 1)) + 2 ^ i := by rw [Nat.mul_add, hpi]
          omega
        refine ⟨(i, (i : Int) - 1, q.set w (u * 2 ^ (s + 1) + 2 ^ s), r - d, d / 2 ^ 1), [0], ⟨by omega, rfl, by simpa using h2, h3.set (by omega), ?_, ⟨2 * t + 1, ?_⟩, ?_, by rw [hd2]⟩, Nat.lt_succ_self i, ⟨rfl, by simp, rfl, rfl, rfl, ⟨rfl, rfl, rfl, rfl, trivial⟩, ⟨rfl, trivial⟩⟩⟩
        · have : (nv q + 2 ^ i) * b = nv q * b + d := by rw [hd]; grind
          rw [hq', this]
          show a = nv q * b + d + (r - d)
          omega
        · rw [hq', h5, Nat.succ_eq_add_one, Nat.pow_succ]; grind
        · show r - d < b * 2 ^ i
          rw [Nat.succ_eq_add_one, Nat.pow_succ, ← Nat.mul_assoc, ← hd] at h6
          omega
      · refine SCmp.no (decide_eq_false (by simp only [cmpZ]; split; omega; omega)) ?_
        refine SCall.pure (rshr_ok false d 1 (by omega) (by omega)) ?_
        refine SWrap.i64z ((i : Int) - 1) (by omega) (by omega) ?_
        refine ⟨(i, (i : Int) - 1, q, r, d / 2 ^ 1), [0], ⟨by omega, rfl, h2, h3, h4, ⟨2 * t, ?_⟩, by rw [← hd]; omega, by rw [hd2]⟩, Nat.lt_succ_self i, ⟨rfl, by simp, rfl, rfl, rfl, ⟨rfl, rfl, rfl, rfl, trivial⟩, ⟨rfl, trivial⟩⟩⟩
        rw [h5, Nat.succ_eq_add_one, Nat.pow_succ]; grind

theorem rgcd_ok (m m' : Bool) (a b : Nat) (ha : bitLen a ≤ 1048576) (hb : bitLen b ≤ 1048576) : CallP Try.prog 86 [natM m a, natM m' b] (.p (natP (Nat.gcd a b))) [] := by
  refine callG_of_vc (wr := wr0) Γok mixed Try.func86 (by kernel_rfl) rfl (by kernel_rfl) (le_of_ble rfl) (by simp) ?_
  refine SLoop.mk (Nat × Nat × Bool × Bool) (fun (x, y, mx, my) => ([(0, .p (natM mx x)), (1, .p (natM my y))], [])) (fun (x, y, mx, my) => bitLen x ≤ 1048576 ∧ bitLen y ≤ 1048576 ∧ Nat.gcd x y = Nat.gcd a b) (fun x => x.2.1) (a, b, m, m') []
    ⟨ha, hb, rfl⟩ ⟨rfl, .nil, rfl, rfl, rfl, ⟨rfl, rfl, trivial⟩, trivial⟩ ?_
  intro ⟨x, y, mx, my⟩ ⟨h1, h2, h3⟩
  refine SZ.mk (nlen y : Int) (by simp) ?_
  have n1 := nlen_bitLen x
  by_cases hy : y = 0
  · subst hy
    refine SCmp.no (decide_eq_false (by rw [nlen_zero_iff.2 rfl]; decide)) ?_
    refine SCall.pure (rtrimn_ok mx x (by omega)) ?_
    rw [← h3, Nat.gcd_zero_right]
    exact SRet.pure (.p _ (.sl _ _ (pers_limbs _)))
  · have hn := mt nlen_zero_iff.1 hy
    refine SCmp.yes (decide_eq_true (by omega)) ?_
    refine SCall.pureT (rdiv_ok mx my x y hy h1 h2) (fun _ => rfl) ?_
    have hr : x % y < y := Nat.mod_lt _ (by omega)
    exact ⟨(y, x % y, my, false), [], ⟨h2, Nat.le_trans (bitLen_mono (Nat.le_of_lt hr)) h2, by rw [← h3, Nat.gcd_comm, ← Nat.gcd_rec, Nat.gcd_comm]⟩, hr, ⟨rfl, .nil, rfl, rfl, rfl, ⟨rfl, rfl, trivial⟩, trivial⟩⟩
end Go.Proofs.Ytkaooejeljdbnaa

/- The document's numbers: one, Zero, size, Make, made, Of, Int, Neg, Copy, Abs. Sizes are told in binary digits. -/
namespace Go.Proofs.Ytkaooejeljdbnaa
open Go
set_option linter.unusedVariables false
set_option linter.unusedSimpArgs false
set_option maxRecDepth 10000

theorem roomNl {n : Nat} {K : Prop} (h : nlen n ≤ 1099511627776) (hk : K) : SRoom (limbs (nl n)).length 4 K := by
  have h : (nl n).length ≤ 1099511627776 := h
  exact .mk (by simp; omega) (by simp; omega) hk
/-- No part has more binary digits than k. -/
structure Bz (q : Rat) (k : Nat) : Prop where
  n : bitLen q.num.natAbs ≤ k
  d : bitLen q.den ≤ k
theorem Bz.mono {q : Rat} {j k : Nat} (h : Bz q j) (hk : j ≤ k) : Bz q k := ⟨Nat.le_trans h.n hk, Nat.le_trans h.d hk⟩
theorem Bz.sz {q : Rat} {k : Nat} (h : Bz q k) : Sz q k := ⟨Nat.le_trans (nlen_bitLen _) h.n, Nat.le_trans (nlen_bitLen _) h.d⟩
theorem bl_mul {a b j k : Nat} (ha : bitLen a ≤ j) (hb : bitLen b ≤ k) : bitLen (a * b) ≤ j + k := by have := bitLen_mul a b; omega
theorem bl_add {a b k : Nat} (ha : bitLen a ≤ k) (hb : bitLen b ≤ k) : bitLen (a + b) ≤ k + 1 := by have := bitLen_add a b; omega
theorem Bz.mkQ {neg : Bool} {n d k : Nat} (hd : d ≠ 0) (hn : bitLen n ≤ k) (hdk : bitLen d ≤ k) : Bz (mkQ neg n d) k := by
  obtain ⟨h1, h2, _⟩ := mkQ_num (neg := neg) (n := n) hd
  exact ⟨by rw [h1]; exact Nat.le_trans (bitLen_mono (Nat.div_le_self _ _)) hn, by rw [h2]; exact Nat.le_trans (bitLen_mono (Nat.div_le_self _ _)) hdk⟩
theorem Bz.mul {p q : Rat} {j k : Nat} (hp : Bz p j) (hq : Bz q k) : Bz (p * q) (j + k) := by
  rw [mul_eq]
  exact Bz.mkQ (Nat.mul_ne_zero p.den_nz q.den_nz) (bl_mul hp.n hq.n) (bl_mul hp.d hq.d)
theorem Bz.neg {p : Rat} {k : Nat} (hp : Bz p k) : Bz (-p) k := ⟨by rw [Rat.neg_num, Int.natAbs_neg]; exact hp.n, hp.d⟩
theorem Bz.div {p q : Rat} {j k : Nat} (hp : Bz p j) (hq : Bz q k) : Bz (p / q) (j + k) := by
  by_cases h : q = 0
  · subst h
    rw [Rat.div_def, Rat.inv_zero, Rat.mul_zero]
    exact ⟨by simp [bitLen], by have := bitLen_mono (Nat.pos_of_ne_zero p.den_nz); have h2 := hp.d; simp at this ⊢; omega⟩
  · have hqn : q.num.natAbs ≠ 0 := by intro e; exact h (Rat.num_eq_zero.1 (by omega))
    rw [quo_eq p q h]
    exact Bz.mkQ (Nat.mul_ne_zero p.den_nz hqn) (bl_mul hp.n hq.d) (bl_mul hp.d hq.n)
theorem Bz.add {p q : Rat} {j k : Nat} (hp : Bz p j) (hq : Bz q k) : Bz (p + q) (j + k + 1) := by
  have hd := Nat.mul_ne_zero p.den_nz q.den_nz
  have h5 := bl_mul hp.n hq.d
  have h6 := bl_mul hq.n hp.d
  have h7 := bl_mul hp.d hq.d
  by_cases h : decide (p.num < 0) = decide (q.num < 0)
  · rw [add_same h]
    exact Bz.mkQ hd (bl_add h5 (by omega)) (by omega)
  · rcases Nat.le_total (q.num.natAbs * p.den) (p.num.natAbs * q.den) with hle | hle
    · rw [add_diff1 h hle]
      exact Bz.mkQ hd (Nat.le_trans (bitLen_mono (Nat.sub_le _ _)) (by omega)) (by omega)
    · rw [add_diff2 h hle]
      exact Bz.mkQ hd (Nat.le_trans (bitLen_mono (Nat.sub_le _ _)) (by omega)) (by omega)
theorem Bz.sub {p q : Rat} {j k : Nat} (hp : Bz p j) (hq : Bz q k) : Bz (p - q) (j + k + 1) := by
  rw [Rat.sub_eq_add_neg]; exact hp.add hq.neg

theorem roneN_ok : CallP Try.prog 79 [] (.p (natP 1)) [] := by
  refine callG_of_vc (wr := wr0) Γok mixed Try.func79 (by kernel_rfl) rfl (by kernel_rfl) (le_of_ble rfl) (by simp) ?_
  have : nl 1 = [1] := by rw [nl_pos (by omega), show 1 / 4294967296 = 0 by decide, nl_zero]
  show SRet _ _ _ (.p (.sl false 1 (limbs (nl 1)))) _
  rw [this]
  exact SRet.pure (frz0 (l := [1]) rfl rfl)

theorem rzero_ok : CallP Try.prog 29 [] (.p (ratP 0)) [] := by
  refine callG_of_vc (wr := wr0) Γok mixed Try.func29 (by kernel_rfl) rfl (by kernel_rfl) (le_of_ble rfl) (by simp) ?_
  refine SCall.pure (roneN_ok) ?_
  refine SRet.pure ?_
  rw [ratP_zero]
  refine .p _ ?_
  have := pers_rat false 0 1
  rwa [natP_zero] at this

theorem rsize_ok (n : Int) (h : -9223372036854775808 ≤ n ∧ n < 9223372036854775808) : CallP Try.prog 111 [.int .i64 n] (.p (.int .u64 n.natAbs)) [] := by
  refine callG_of_vc (wr := wr0) Γok mixed Try.func111 (by kernel_rfl) rfl (by kernel_rfl) (le_of_ble rfl) (by simp) ?_
  by_cases hn : n < 0
  · refine SCmp.yes (decide_eq_true (by omega)) ?_
    refine SWrap.u64w (n + 18446744073709551616).toNat (by omega) ?_
    refine SWrap.u64w n.natAbs (by omega) ?_
    exact SRet.pure (.p _ (.int _ _))
  · refine SCmp.no (decide_eq_false (by omega)) ?_
    refine SWrap.u64w n.natAbs (by omega) ?_
    exact SRet.pure (.p _ (.int _ _))

theorem conv3 {H : Hp} {a b c : AV} {x y z : PV} (h : x.one = true ∧ y.one = true ∧ z.one = true) (ha : Conv [] H a (.p x)) (hb : Conv [] H b (.p y)) (hc : Conv [] H c (.p z)) : Conv [] H (.agg [a, b, c]) (.p (.agg [x, y, z])) :=
  .aggp (by simp [h.1, h.2.1, h.2.2]) rfl fun i c d e1 e2 => by
    match i, e1, e2 with
    | 0, e1, e2 => cases e1; cases e2; exact ha
    | 1, e1, e2 => cases e1; cases e2; exact hb
    | 2, e1, e2 => cases e1; cases e2; exact hc

theorem rmake_ok (neg : Bool) (m m' : Bool) (n d : Nat) (hd : d ≠ 0) (hn' : bitLen n ≤ 1048576) (hd' : bitLen d ≤ 1048576) :
    CallP Try.prog 34 [.bool neg, natM m n, natM m' d] (.tup [.p (ratP (mkQ neg n d)), .p (.int .i64 0)]) [] := by
  refine callG_of_vc (wr := wr0) Γok mixed Try.func34 (by kernel_rfl) rfl (by kernel_rfl) (le_of_ble rfl) (by simp) ?_
  have n1 := nlen_bitLen n
  have n2 := nlen_bitLen d
  refine SZ.mk (nlen d : Int) (by simp) ?_
  refine SCmp.no (eqF (by have := mt nlen_zero_iff.1 hd; omega)) ?_
  refine SZ.mk (nlen n : Int) (by simp) ?_
  by_cases hn : n = 0
  · subst hn
    refine SCmp.yes (eqT (by rw [nlen_zero_iff.2 rfl]; rfl)) ?_
    refine SCall.pure (rzero_ok) ?_
    rw [show mkQ neg 0 d = 0 by cases neg <;> simp [mkQ, sgn]]
    exact SRet.pure (.tup rfl fun i c d e1 e2 => by
      match i, e1, e2 with
      | 0, e1, e2 => cases e1; cases e2; exact .p _ (pers_rat _ _ _)
      | 1, e1, e2 => cases e1; cases e2; exact .p _ (.int _ _))
  · refine SCmp.no (eqF (by have := mt nlen_zero_iff.1 hn; omega)) ?_
    refine SCall.pure (roneN_ok) ?_
    have n3 : nlen 1 ≤ 549755813888 := Nat.le_trans (nlen_bitLen 1) (by decide)
    refine SCall.pure (rcmp_ok m' false d 1 (by omega) n3) ?_
    by_cases h1 : d = 1
    · subst h1
      refine SCmp.yes (by simp [cmpZ]) ?_
      refine roomNl (by omega) ?_
      refine SCall.pure (roneN_ok) ?_
      have e := ratP_mkQ (neg := neg) (n := n) (d := 1) (by omega) hn
      rw [Nat.gcd_one_right, Nat.div_one, Nat.div_one] at e
      rw [e]
      refine SRet.pure (.tup rfl fun i c d e1 e2 => ?_)
      match i, e1, e2 with
      | 0, e1, e2 => cases e1; cases e2; exact conv3 ⟨rfl, rfl, rfl⟩ (.p _ (.bool _)) (frz0 rfl (by simp)) (.p _ (.sl _ _ (pers_limbs _)))
      | 1, e1, e2 => cases e1; cases e2; exact .p _ (.int _ _)
    · refine SCmp.no (by simp only [cmpZ]; split <;> simp [h1]) ?_
      have hg : 0 < Nat.gcd n d := Nat.gcd_pos_of_pos_right _ (by omega)
      have hgl : bitLen (Nat.gcd n d) ≤ 1048576 := Nat.le_trans (bitLen_mono (Nat.gcd_le_right _ (by omega))) hd'
      refine SCall.pure (rgcd_ok m m' n d hn' hd') ?_
      refine SCall.pureT (rdiv_ok m false n (Nat.gcd n d) (by omega) hn' hgl) (fun _ => rfl) ?_
      refine SCall.pureT (rdiv_ok m' false d (Nat.gcd n d) (by omega) hd' hgl) (fun _ => rfl) ?_
      rw [ratP_mkQ hd hn]
      exact SRet.pure (.tup rfl fun i c d e1 e2 => by
        match i, e1, e2 with
        | 0, e1, e2 => cases e1; cases e2; exact .p _ (pers_rat _ _ _)
        | 1, e1, e2 => cases e1; cases e2; exact .p _ (.int _ _))

theorem rmade_ok (neg : Bool) (m m' : Bool) (n d : Nat) (hd : d ≠ 0) (hn' : bitLen n ≤ 1048576) (hd' : bitLen d ≤ 1048576) :
    CallP Try.prog 81 [.bool neg, natM m n, natM m' d] (.p (ratP (mkQ neg n d))) [] := by
  refine callG_of_vc (wr := wr0) Γok mixed Try.func81 (by kernel_rfl) rfl (by kernel_rfl) (le_of_ble rfl) (by simp) ?_
  refine SCall.pureT (rmake_ok neg m m' n d hd hn' hd') (fun _ => rfl) ?_
  exact SRet.pure (.p _ (pers_rat _ _ _))

theorem rof2_ok (n d : Int) (hn : -9223372036854775808 ≤ n ∧ n < 9223372036854775808) (hd : -9223372036854775808 ≤ d ∧ d < 9223372036854775808) (hd0 : d ≠ 0) :
    CallP Try.prog 58 [.int .i64 n, .int .i64 d] (.tup [.p (ratP (mkQ (decide (n < 0) != decide (d < 0)) n.natAbs d.natAbs)), .p (.int .i64 0)]) [] := by
  refine callG_of_vc (wr := wr0) Γok mixed Try.func58 (by kernel_rfl) rfl (by kernel_rfl) (le_of_ble rfl) (by simp) ?_
  refine SCmp.sym ?_
  refine SCmp.sym ?_
  refine SCmp.sym ?_
  refine SCall.pure (rsize_ok n hn) ?_
  refine SCall.pure (rof_ok n.natAbs (by omega)) ?_
  refine SCall.pure (rsize_ok d hd) ?_
  refine SCall.pure (rof_ok d.natAbs (by omega)) ?_
  have b1 : bitLen n.natAbs ≤ 64 := bitLen_le (by show _ < 18446744073709551616; omega)
  have b2 : bitLen d.natAbs ≤ 64 := bitLen_le (by show _ < 18446744073709551616; omega)
  refine SCall.pureT (rmake_ok _ false false n.natAbs d.natAbs (by omega) (by omega) (by omega)) (fun _ => rfl) ?_
  exact SRet.pure (.tup rfl fun i c d e1 e2 => by
    match i, e1, e2 with
    | 0, e1, e2 => cases e1; cases e2; exact .p _ (pers_rat _ _ _)
    | 1, e1, e2 => cases e1; cases e2; exact .p _ (.int _ _))

theorem mkQ_int (n : Int) : mkQ (decide (n < 0) != decide ((1 : Int) < 0)) n.natAbs (1 : Int).natAbs = (n : Rat) := by
  have : sgn (decide (n < 0) != decide ((1 : Int) < 0)) n.natAbs = n := by
    by_cases h : n < 0 <;> simp [sgn, h] <;> omega
  rw [mkQ, this]
  simp [Rat.mkRat_one]
theorem rint_ok (n : Int) (hn : -9223372036854775808 ≤ n ∧ n < 9223372036854775808) : CallP Try.prog 26 [.int .i64 n] (.p (ratP (n : Rat))) [] := by
  refine callG_of_vc (wr := wr0) Γok mixed Try.func26 (by kernel_rfl) rfl (by kernel_rfl) (le_of_ble rfl) (by simp) ?_
  have h := rof2_ok n 1 hn (by omega) (by omega)
  rw [mkQ_int] at h
  refine SCall.pureT (h) (fun _ => rfl) ?_
  exact SRet.pure (.p _ (pers_rat _ _ _))

theorem rneg_ok (q : Rat) (hx : nlen q.num.natAbs ≤ 1099511627776) (hy : nlen q.den ≤ 1099511627776) : CallP Try.prog 98 [ratP q] (.p (ratP (-q))) [] := by
  refine callG_of_vc (wr := wr0) Γok mixed Try.func98 (by kernel_rfl) rfl (by kernel_rfl) (le_of_ble rfl) (by simp) ?_
  have hn : ratP (-q) = .agg [.bool (decide (0 < q.num)), natP q.num.natAbs, natP q.den] := by
    simp only [ratP, Rat.neg_num, Rat.neg_den, Int.natAbs_neg]
    congr 3
    by_cases h : 0 < q.num <;> simp [h] <;> omega
  rw [hn]
  have h0 := nlen_zero_iff (n := q.num.natAbs)
  have done : ∀ (b : Bool) (H : Hp) (n d : Nat) (k1 k2 : Nat), k1 = nlen n → k2 = nlen d → look H 2 = .vec 70 1 (limbs (nl n)) → look H 3 = .vec 70 1 (limbs (nl d)) → Conv [] H (.agg [.tf b, .vec 2 1 0 k1, .vec 3 1 0 k2]) (.p (.agg [.bool b, natP n, natP d])) :=
    fun b H n d k1 k2 e1 e2 h1 h2 => conv3 ⟨rfl, rfl, rfl⟩ (.tf b) (frz0 h1 e1) (frz0 h2 e2)
  by_cases h : q.num < 0
  · rw [decide_eq_false (show ¬ 0 < q.num by omega)]
    refine SDraw.mk (by kernel_rfl) ?_
    repeat refine SOp.mk _ _ (And.intro rfl rfl) rfl ?_
    refine SOp.mk _ _ (SCmp.no (by simp [h]) (And.intro rfl rfl)) rfl ?_
    repeat refine SOp.mk _ _ (And.intro rfl rfl) rfl ?_
    refine SOp.mk _ _ (roomNl hx (And.intro rfl rfl)) rfl ?_
    repeat refine SOp.mk _ _ (And.intro rfl rfl) rfl ?_
    refine SOp.mk _ _ (roomNl hy (And.intro rfl rfl)) rfl ?_
    repeat refine SOp.mk _ _ (And.intro rfl rfl) rfl ?_
    exact SRet.pure (done false _ _ _ _ _ (by simp) (by simp) rfl rfl)
  · refine SDraw.mk (by kernel_rfl) ?_
    repeat refine SOp.mk _ _ (And.intro rfl rfl) rfl ?_
    refine SOp.mk _ _ (SCmp.yes (by simp [h]) (And.intro rfl rfl)) rfl ?_
    repeat refine SOp.mk _ _ (And.intro rfl rfl) rfl ?_
    refine SOp.mk _ _ (SZ.mk (nlen q.num.natAbs : Int) (by simp) (And.intro rfl rfl)) rfl ?_
    by_cases hz : q.num = 0
    · rw [decide_eq_false (show ¬ 0 < q.num by omega)]
      refine SOp.mk _ _ (SCmp.no (decide_eq_false (by rw [h0.2 (by omega)]; decide)) (And.intro rfl rfl)) rfl ?_
      repeat refine SOp.mk _ _ (And.intro rfl rfl) rfl ?_
      refine SOp.mk _ _ (roomNl hx (And.intro rfl rfl)) rfl ?_
      repeat refine SOp.mk _ _ (And.intro rfl rfl) rfl ?_
      refine SOp.mk _ _ (roomNl hy (And.intro rfl rfl)) rfl ?_
      repeat refine SOp.mk _ _ (And.intro rfl rfl) rfl ?_
      exact SRet.pure (done false _ _ _ _ _ (by simp) (by simp) rfl rfl)
    · rw [decide_eq_true (show 0 < q.num by omega)]
      refine SOp.mk _ _ (SCmp.yes (decide_eq_true (by have := mt h0.1 (by omega); omega)) (And.intro rfl rfl)) rfl ?_
      repeat refine SOp.mk _ _ (And.intro rfl rfl) rfl ?_
      refine SOp.mk _ _ (roomNl hx (And.intro rfl rfl)) rfl ?_
      repeat refine SOp.mk _ _ (And.intro rfl rfl) rfl ?_
      refine SOp.mk _ _ (roomNl hy (And.intro rfl rfl)) rfl ?_
      repeat refine SOp.mk _ _ (And.intro rfl rfl) rfl ?_
      exact SRet.pure (done true _ _ _ _ _ (by simp) (by simp) rfl rfl)
end Go.Proofs.Ytkaooejeljdbnaa

/- The document's numbers: Copy, Abs, Mul, Quo, Over, Nought, Add, Sub, Cmp, Same, Rows. -/
namespace Go.Proofs.Ytkaooejeljdbnaa
open Go
set_option linter.unusedVariables false
set_option linter.unusedSimpArgs false
set_option maxRecDepth 10000

theorem Bz.nn {q : Rat} {k : Nat} (h : Bz q k) (hk : k ≤ 1099511627776) : nlen q.num.natAbs ≤ 1099511627776 := Nat.le_trans h.sz.n hk
theorem Bz.nd {q : Rat} {k : Nat} (h : Bz q k) (hk : k ≤ 1099511627776) : nlen q.den ≤ 1099511627776 := Nat.le_trans h.sz.d hk
theorem rcopy_ok (q : Rat) {k : Nat} (hq : Bz q k) (hk : k ≤ 1099511627776) : CallP Try.prog 52 [ratP q] (.p (ratP q)) [] := by
  refine callG_of_vc (wr := wr0) Γok mixed Try.func52 (by kernel_rfl) rfl (by kernel_rfl) (le_of_ble rfl) (by simp) ?_
  refine SCall.pure (rneg_ok q (hq.nn hk) (hq.nd hk)) ?_
  refine SCall.pure (rneg_ok (-q) (hq.neg.nn hk) (hq.neg.nd hk)) ?_
  rw [Rat.neg_neg]
  exact SRet.pure (.p _ (pers_rat _ _ _))
theorem absP (q : Rat) : PV.agg [.bool false, natP q.num.natAbs, natP q.den] = ratP q.abs := by
  rw [Rat.abs]
  split
  · rename_i h
    have := Rat.num_nonneg.2 h
    rw [ratP, decide_eq_false (by omega)]
  · rename_i h
    have h : q.num < 0 := by have := mt Rat.num_nonneg.1 h; omega
    rw [ratP, Rat.neg_num, Rat.neg_den, Int.natAbs_neg, decide_eq_false (by omega)]
theorem Bz.abs {q : Rat} {k : Nat} (h : Bz q k) : Bz q.abs k := by
  rw [Rat.abs]; split
  · exact h
  · exact h.neg
theorem rabs_ok (q : Rat) {k : Nat} (hq : Bz q k) (hk : k ≤ 1099511627776) : CallP Try.prog 97 [ratP q] (.p (ratP q.abs)) [] := by
  refine callG_of_vc (wr := wr0) Γok mixed Try.func97 (by kernel_rfl) rfl (by kernel_rfl) (le_of_ble rfl) (by simp) ?_
  refine SCond.mk (fun hb => ?_) (fun hb => ?_)
  · have h : q.num < 0 := of_decide_eq_true hb
    refine SCall.pure (rneg_ok q (hq.nn hk) (hq.nd hk)) ?_
    rw [show q.abs = -q by rw [Rat.abs, if_neg]; rw [← Rat.num_nonneg]; omega]
    exact SRet.pure (.p _ (pers_rat _ _ _))
  · have h : ¬ q.num < 0 := of_decide_eq_false hb
    refine SCall.pure (rneg_ok q (hq.nn hk) (hq.nd hk)) ?_
    refine SCall.pure (rneg_ok (-q) (hq.neg.nn hk) (hq.neg.nd hk)) ?_
    rw [Rat.neg_neg, show q.abs = q by rw [Rat.abs, if_pos]; rw [← Rat.num_nonneg]; omega]
    exact SRet.pure (.p _ (pers_rat _ _ _))

theorem rmulq_ok (p q : Rat) {j k : Nat} (hp : Bz p j) (hq : Bz q k) (h : j + k ≤ 1048576) : CallP Try.prog 31 [ratP p, ratP q] (.p (ratP (p * q))) [] := by
  refine callG_of_vc (wr := wr0) Γok mixed Try.func31 (by kernel_rfl) rfl (by kernel_rfl) (le_of_ble rfl) (by simp) ?_
  have h1 := hp.n
  have h2 := hp.d
  have h3 := hq.n
  have h4 := hq.d
  have g1 := hp.sz.n
  have g2 := hp.sz.d
  have g3 := hq.sz.n
  have g4 := hq.sz.d
  have hl := rmade_ok (decide (p.num < 0) != decide (q.num < 0)) false false (p.num.natAbs * q.num.natAbs) (p.den * q.den) (Nat.mul_ne_zero p.den_nz q.den_nz) (Nat.le_trans (bl_mul h1 h3) h) (Nat.le_trans (bl_mul h2 h4) h)
  rw [← mul_eq] at hl
  refine SDraw.mk (by kernel_rfl) ?_
  repeat refine SOp.mk _ _ (And.intro rfl rfl) rfl ?_
  refine SOp.mk _ _ (SCmp.sym (And.intro rfl rfl)) rfl ?_
  repeat refine SOp.mk _ _ (And.intro rfl rfl) rfl ?_
  refine SOp.mk _ _ (SCall.pure (rmul_ok false false p.num.natAbs q.num.natAbs (by omega) (by omega)) (And.intro rfl rfl)) rfl ?_
  repeat refine SOp.mk _ _ (And.intro rfl rfl) rfl ?_
  refine SOp.mk _ _ (SCall.pure (rmul_ok false false p.den q.den (by omega) (by omega)) (And.intro rfl rfl)) rfl ?_
  repeat refine SOp.mk _ _ (And.intro rfl rfl) rfl ?_
  refine SOp.mk _ _ (SCall.pure (hl) (And.intro rfl rfl)) rfl ?_
  repeat refine SOp.mk _ _ (And.intro rfl rfl) rfl ?_
  exact SRet.pure (.p _ (pers_rat _ _ _))

theorem rquo_ok (p q : Rat) (hq0 : q ≠ 0) {j k : Nat} (hp : Bz p j) (hq : Bz q k) (h : j + k ≤ 1048576) : CallP Try.prog 90 [ratP p, ratP q] (.tup [.p (ratP (p / q)), .p (.int .i64 0)]) [] := by
  refine callG_of_vc (wr := wr0) Γok mixed Try.func90 (by kernel_rfl) rfl (by kernel_rfl) (le_of_ble rfl) (by simp) ?_
  have h1 := hp.n
  have h2 := hp.d
  have h3 := hq.n
  have h4 := hq.d
  have g1 := hp.sz.n
  have g2 := hp.sz.d
  have g3 := hq.sz.n
  have g4 := hq.sz.d
  have hqn : q.num.natAbs ≠ 0 := by intro e; exact hq0 (Rat.num_eq_zero.1 (by omega))
  have hz := mt nlen_zero_iff.1 hqn
  refine SZ.mk (nlen q.num.natAbs : Int) (by simp) ?_
  refine SCmp.no (eqF (by omega)) ?_
  have hl := rmade_ok (decide (p.num < 0) != decide (q.num < 0)) false false (p.num.natAbs * q.den) (p.den * q.num.natAbs) (Nat.mul_ne_zero p.den_nz hqn) (Nat.le_trans (bl_mul h1 h4) h) (Nat.le_trans (bl_mul h2 h3) h)
  rw [← quo_eq p q hq0] at hl
  refine SDraw.mk (by kernel_rfl) ?_
  repeat refine SOp.mk _ _ (And.intro rfl rfl) rfl ?_
  refine SOp.mk _ _ (SCmp.sym (And.intro rfl rfl)) rfl ?_
  repeat refine SOp.mk _ _ (And.intro rfl rfl) rfl ?_
  refine SOp.mk _ _ (SCall.pure (rmul_ok false false p.num.natAbs q.den (by omega) (by omega)) (And.intro rfl rfl)) rfl ?_
  repeat refine SOp.mk _ _ (And.intro rfl rfl) rfl ?_
  refine SOp.mk _ _ (SCall.pure (rmul_ok false false p.den q.num.natAbs (by omega) (by omega)) (And.intro rfl rfl)) rfl ?_
  repeat refine SOp.mk _ _ (And.intro rfl rfl) rfl ?_
  refine SOp.mk _ _ (SCall.pure (hl) (And.intro rfl rfl)) rfl ?_
  repeat refine SOp.mk _ _ (And.intro rfl rfl) rfl ?_
  exact SRet.pure (.tup rfl fun i c d e1 e2 => by
    match i, e1, e2 with
    | 0, e1, e2 => cases e1; cases e2; exact .p _ (pers_rat _ _ _)
    | 1, e1, e2 => cases e1; cases e2; exact .p _ (.int _ _))

theorem rover_ok (p q : Rat) (hq0 : q ≠ 0) {j k : Nat} (hp : Bz p j) (hq : Bz q k) (h : j + k ≤ 1048576) : CallP Try.prog 39 [ratP p, ratP q] (.p (ratP (p / q))) [] := by
  refine callG_of_vc (wr := wr0) Γok mixed Try.func39 (by kernel_rfl) rfl (by kernel_rfl) (le_of_ble rfl) (by simp) ?_
  refine SCall.pureT (rquo_ok p q hq0 hp hq h) (fun _ => rfl) ?_
  exact SRet.pure (.p _ (pers_rat _ _ _))

theorem num0 {q : Rat} : nlen q.num.natAbs = 0 ↔ q = 0 := by
  rw [nlen_zero_iff, Int.natAbs_eq_zero, Rat.num_eq_zero]
theorem rnought_ok (q : Rat) : CallP Try.prog 47 [ratP q] (.p (.bool (decide (q = 0)))) [] := by
  refine callG_of_vc (wr := wr0) Γok mixed Try.func47 (by kernel_rfl) rfl (by kernel_rfl) (le_of_ble rfl) (by simp) ?_
  refine SZ.mk (nlen q.num.natAbs : Int) (by simp) ?_
  by_cases h : q = 0
  · refine SCmp.yes (eqT (by have := num0.2 h; omega)) ?_
    rw [decide_eq_true h]
    exact SRet.pure (.tf true)
  · refine SCmp.no (eqF (by have := mt num0.1 h; omega)) ?_
    rw [decide_eq_false h]
    exact SRet.pure (.tf false)

theorem raddq_ok (p q : Rat) {j k : Nat} (hp : Bz p j) (hq : Bz q k) (h : j + k + 1 ≤ 1048576) : CallP Try.prog 30 [ratP p, ratP q] (.p (ratP (p + q))) [] := by
  refine callG_of_vc (wr := wr0) Γok mixed Try.func30 (by kernel_rfl) rfl (by kernel_rfl) (le_of_ble rfl) (by simp) ?_
  have h1 := hp.n
  have h2 := hp.d
  have h3 := hq.n
  have h4 := hq.d
  have g1 := hp.sz.n
  have g2 := hp.sz.d
  have g3 := hq.sz.n
  have g4 := hq.sz.d
  have hd := Nat.mul_ne_zero p.den_nz q.den_nz
  obtain ⟨x, hx⟩ : ∃ x, x = p.num.natAbs * q.den := ⟨_, rfl⟩
  obtain ⟨y, hy⟩ : ∃ y, y = q.num.natAbs * p.den := ⟨_, rfl⟩
  obtain ⟨d, hdd⟩ : ∃ d, d = p.den * q.den := ⟨_, rfl⟩
  have m1 := rmul_ok false false p.num.natAbs q.den (by omega) (by omega)
  have m2 := rmul_ok false false q.num.natAbs p.den (by omega) (by omega)
  have m3 := rmul_ok false false p.den q.den (by omega) (by omega)
  have hxl : bitLen x ≤ j + k := by rw [hx]; exact bl_mul h1 h4
  have hyl : bitLen y ≤ j + k := by rw [hy, Nat.add_comm]; exact bl_mul h3 h2
  have hdl : bitLen d ≤ j + k := by rw [hdd]; exact bl_mul h2 h4
  have nx := nlen_bitLen x
  have ny := nlen_bitLen y
  have nd := nlen_bitLen d
  have hd' : d ≠ 0 := by rw [hdd]; exact hd
  rw [← hx] at m1
  rw [← hy] at m2
  rw [← hdd] at m3
  refine SDraw.mk (by kernel_rfl) ?_
  repeat refine SOp.mk _ _ (And.intro rfl rfl) rfl ?_
  refine SOp.mk _ _ (SCall.pure (m1) (And.intro rfl rfl)) rfl ?_
  repeat refine SOp.mk _ _ (And.intro rfl rfl) rfl ?_
  refine SOp.mk _ _ (SCall.pure (m2) (And.intro rfl rfl)) rfl ?_
  repeat refine SOp.mk _ _ (And.intro rfl rfl) rfl ?_
  refine SCall.pure (m3) ?_
  by_cases hs : decide (p.num < 0) = decide (q.num < 0)
  · refine SCmp.yes (beq_iff_eq.2 hs) ?_
    have hl := rmade_ok (decide (p.num < 0)) false false (x + y) d hd' (Nat.le_trans (bl_add hxl hyl) (by omega)) (by omega)
    rw [hx, hy, hdd, ← add_same hs, ← hx, ← hy, ← hdd] at hl
    refine SDraw.mk (by kernel_rfl) ?_
    repeat refine SOp.mk _ _ (And.intro rfl rfl) rfl ?_
    refine SOp.mk _ _ (SCall.pure (radd_ok false false x y (by omega) (by omega)) (And.intro rfl rfl)) rfl ?_
    repeat refine SOp.mk _ _ (And.intro rfl rfl) rfl ?_
    refine SOp.mk _ _ (SCall.pure (hl) (And.intro rfl rfl)) rfl ?_
    repeat refine SOp.mk _ _ (And.intro rfl rfl) rfl ?_
    exact SRet.pure (.p _ (pers_rat _ _ _))
  · refine SCmp.no (beq_eq_false_iff_ne.2 hs) ?_
    refine SCall.pure (rcmp_ok false false x y (by omega) (by omega)) ?_
    by_cases hle : y ≤ x
    · refine SCmp.no (decide_eq_false (by simp only [cmpZ]; split; omega; split <;> omega)) ?_
      have hl := rmade_ok (decide (p.num < 0)) false false (x - y) d hd' (Nat.le_trans (bitLen_mono (Nat.sub_le _ _)) (by omega)) (by omega)
      rw [hx, hy, hdd, ← add_diff1 hs (by rw [← hx, ← hy]; exact hle), ← hx, ← hy, ← hdd] at hl
      refine SCall.pureT (rsub_ok false false x y (by omega) (by omega) hle) (fun _ => rfl) ?_
      refine SCall.pure (hl) ?_
      exact SRet.pure (.p _ (pers_rat _ _ _))
    · refine SCmp.yes (decide_eq_true (by simp only [cmpZ]; split; omega; omega)) ?_
      have hl := rmade_ok (decide (q.num < 0)) false false (y - x) d hd' (Nat.le_trans (bitLen_mono (Nat.sub_le _ _)) (by omega)) (by omega)
      rw [hx, hy, hdd, ← add_diff2 hs (by rw [← hx, ← hy]; omega), ← hx, ← hy, ← hdd] at hl
      refine SCall.pureT (rsub_ok false false y x (by omega) (by omega) (by omega)) (fun _ => rfl) ?_
      refine SCall.pure (hl) ?_
      exact SRet.pure (.p _ (pers_rat _ _ _))

theorem rsubq_ok (p q : Rat) {j k : Nat} (hp : Bz p j) (hq : Bz q k) (h : j + k + 1 ≤ 1048576) : CallP Try.prog 44 [ratP p, ratP q] (.p (ratP (p - q))) [] := by
  refine callG_of_vc (wr := wr0) Γok mixed Try.func44 (by kernel_rfl) rfl (by kernel_rfl) (le_of_ble rfl) (by simp) ?_
  have hA := raddq_ok p (-q) hp hq.neg h
  rw [← Rat.sub_eq_add_neg] at hA
  refine SDraw.mk (by kernel_rfl) ?_
  repeat refine SOp.mk _ _ (And.intro rfl rfl) rfl ?_
  refine SOp.mk _ _ (SCall.pure (rneg_ok q (hq.nn (by omega)) (hq.nd (by omega))) (And.intro rfl rfl)) rfl ?_
  refine SOp.mk _ _ (SCall.pure (hA) (And.intro rfl rfl)) rfl ?_
  repeat refine SOp.mk _ _ (And.intro rfl rfl) rfl ?_
  exact SRet.pure (.p _ (pers_rat _ _ _))

theorem sgnB (neg : Bool) (n : Nat) : (sgn neg n < 0) ↔ (neg = true ∧ n ≠ 0) := by
  cases neg <;> simp [sgn] <;> omega
theorem rcmpq_ok (p q : Rat) {j k : Nat} (hp : Bz p j) (hq : Bz q k) (h : j + k ≤ 1048576) : CallP Try.prog 96 [ratP p, ratP q] (.p (.int .i64 (cmpQ p q))) [] := by
  refine callG_of_vc (wr := wr0) Γok mixed Try.func96 (by kernel_rfl) rfl (by kernel_rfl) (le_of_ble rfl) (by simp) ?_
  have hpd : 0 < p.den := Nat.pos_of_ne_zero p.den_nz
  have hqd : 0 < q.den := Nat.pos_of_ne_zero q.den_nz
  have h1 := hp.sz.n
  have h2 := hp.sz.d
  have h3 := hq.sz.n
  have h4 := hq.sz.d
  have hP : p.num * (q.den : Int) = sgn (decide (p.num < 0)) (p.num.natAbs * q.den) := num_x p q
  have hQ : q.num * (p.den : Int) = sgn (decide (q.num < 0)) (q.num.natAbs * p.den) := num_x q p
  have m1 := rmul_ok false false p.num.natAbs q.den (by omega) (by omega)
  have m2 := rmul_ok false false q.num.natAbs p.den (by omega) (by omega)
  have x0 : p.num ≠ 0 → 0 < p.num.natAbs * q.den := fun h => Nat.mul_pos (by omega) hqd
  have y0 : q.num ≠ 0 → 0 < q.num.natAbs * p.den := fun h => Nat.mul_pos (by omega) hpd
  have hxl : nlen (p.num.natAbs * q.den) ≤ j + k := nlen_mul' h1 h4
  have hyl : nlen (q.num.natAbs * p.den) ≤ j + k := by rw [Nat.add_comm]; exact nlen_mul' h3 h2
  have m3 := rcmp_ok false false (p.num.natAbs * q.den) (q.num.natAbs * p.den) (by omega) (by omega)
  rw [cmpQ_eq, hP, hQ]
  generalize hx : p.num.natAbs * q.den = x at *
  generalize hy : q.num.natAbs * p.den = y at *
  by_cases p1 : p.num < 0
  · have xp := x0 (by omega)
    by_cases q1 : q.num < 0
    · have yp := y0 (by omega)
      rw [decide_eq_true p1, decide_eq_true q1]
      refine SCmp.no (by simp [p1, q1]) ?_
      refine SDraw.mk (by kernel_rfl) ?_
      repeat refine SOp.mk _ _ (And.intro rfl rfl) rfl ?_
      refine SOp.mk _ _ (SCall.pure (m1) (And.intro rfl rfl)) rfl ?_
      repeat refine SOp.mk _ _ (And.intro rfl rfl) rfl ?_
      refine SOp.mk _ _ (SCall.pure (m2) (And.intro rfl rfl)) rfl ?_
      refine SOp.mk _ _ (SCall.pure (m3) (And.intro rfl rfl)) rfl ?_
      repeat refine SOp.mk _ _ (And.intro rfl rfl) rfl ?_
      refine SCond.mk (fun _ => ?_) (fun hb => absurd p1 (of_decide_eq_false hb))
      refine SWrap.i64z (0 - cmpZ x y) rfl (by simp only [cmpZ]; split <;> (try split) <;> omega) ?_
      refine SRet.pure ?_
      rw [show (if sgn true x < sgn true y then (-1 : Int) else if sgn true x = sgn true y then 0 else 1) = 0 - cmpZ x y by
        simp only [sgn, if_true, cmpZ]
        rcases Nat.lt_trichotomy x y with h | h | h
        · rw [if_neg (by omega), if_neg (by omega), if_pos h]; rfl
        · rw [if_neg (by omega), if_pos (by omega), if_neg (by omega), if_pos h]; rfl
        · rw [if_pos (by omega), if_neg (by omega), if_neg (by omega)]; rfl]
      exact .p _ (.int _ _)
    · rw [decide_eq_true p1, decide_eq_false q1]
      refine SCmp.yes (by simp [p1, q1]) ?_
      refine SCond.mk (fun _ => ?_) (fun hb => absurd p1 (of_decide_eq_false hb))
      rw [show (if sgn true x < sgn false y then (-1 : Int) else if sgn true x = sgn false y then 0 else 1) = -1 by
        simp only [sgn, if_true, Bool.false_eq_true, if_false]
        rw [if_pos (by omega)]]
      exact SRet.pure (.p _ (.int _ _))
  · by_cases q1 : q.num < 0
    · have yp := y0 (by omega)
      rw [decide_eq_false p1, decide_eq_true q1]
      refine SCmp.yes (by simp [p1, q1]) ?_
      refine SCond.mk (fun hb => absurd (of_decide_eq_true hb) p1) (fun _ => ?_)
      rw [show (if sgn false x < sgn true y then (-1 : Int) else if sgn false x = sgn true y then 0 else 1) = 1 by
        simp only [sgn, if_true, Bool.false_eq_true, if_false]
        rw [if_neg (by omega), if_neg (by omega)]]
      exact SRet.pure (.p _ (.int _ _))
    · rw [decide_eq_false p1, decide_eq_false q1]
      refine SCmp.no (by simp [p1, q1]) ?_
      refine SDraw.mk (by kernel_rfl) ?_
      repeat refine SOp.mk _ _ (And.intro rfl rfl) rfl ?_
      refine SOp.mk _ _ (SCall.pure (m1) (And.intro rfl rfl)) rfl ?_
      repeat refine SOp.mk _ _ (And.intro rfl rfl) rfl ?_
      refine SOp.mk _ _ (SCall.pure (m2) (And.intro rfl rfl)) rfl ?_
      refine SOp.mk _ _ (SCall.pure (m3) (And.intro rfl rfl)) rfl ?_
      repeat refine SOp.mk _ _ (And.intro rfl rfl) rfl ?_
      refine SCond.mk (fun hb => absurd (of_decide_eq_true hb) p1) (fun _ => ?_)
      refine SRet.pure ?_
      rw [show (if sgn false x < sgn false y then (-1 : Int) else if sgn false x = sgn false y then 0 else 1) = cmpZ x y by
        simp only [sgn, Bool.false_eq_true, if_false, cmpZ]
        rcases Nat.lt_trichotomy x y with h | h | h
        · rw [if_pos (by omega), if_pos h]
        · rw [if_neg (by omega), if_pos (by omega), if_neg (by omega), if_pos h]
        · rw [if_neg (by omega), if_neg (by omega), if_neg (by omega), if_neg (by omega)]]
      exact .p _ (.int _ _)

theorem rat_ext {p q : Rat} (h1 : decide (p.num < 0) = decide (q.num < 0)) (h2 : p.num.natAbs = q.num.natAbs) (h3 : p.den = q.den) : p = q := by
  refine Rat.ext ?_ h3
  have : (p.num < 0) ↔ (q.num < 0) := by simpa using h1
  omega
theorem rsame_ok (p q : Rat) {j k : Nat} (hp : Bz p j) (hq : Bz q k) (h : j + k ≤ 1048576) : CallP Try.prog 24 [ratP p, ratP q] (.p (.bool (decide (p = q)))) [] := by
  refine callG_of_vc (wr := wr0) Γok mixed Try.func24 (by kernel_rfl) rfl (by kernel_rfl) (le_of_ble rfl) (by simp) ?_
  have h1 := hp.sz.n
  have h2 := hp.sz.d
  have h3 := hq.sz.n
  have h4 := hq.sz.d
  by_cases hs : decide (p.num < 0) = decide (q.num < 0)
  · refine SCmp.yes (beq_iff_eq.2 hs) ?_
    refine SCall.pure (rcmp_ok false false p.num.natAbs q.num.natAbs (by omega) (by omega)) ?_
    by_cases hn : p.num.natAbs = q.num.natAbs
    · refine SCmp.yes (by simp [cmpZ, hn]) ?_
      refine SCall.pure (rcmp_ok false false p.den q.den (by omega) (by omega)) ?_
      by_cases hd : p.den = q.den
      · refine SCmp.yes (by simp [cmpZ, hd]) ?_
        rw [decide_eq_true (show p = q from rat_ext hs hn hd)]
        exact SRet.pure (.tf true)
      · refine SCmp.no (by simp only [cmpZ]; split <;> simp [hd]) ?_
        rw [decide_eq_false (show ¬ p = q from fun e => hd (by rw [e]))]
        exact SRet.pure (.tf false)
    · refine SCmp.no (by simp only [cmpZ]; split <;> simp [hn]) ?_
      rw [decide_eq_false (show ¬ p = q from fun e => hn (by rw [e]))]
      exact SRet.pure (.tf false)
  · refine SCmp.no (beq_eq_false_iff_ne.2 hs) ?_
    rw [decide_eq_false (show ¬ p = q from fun e => hs (by rw [e]))]
    exact SRet.pure (.tf false)

/-! #### rows -/
abbrev rats (l : List Rat) : List PV := l.map ratP
abbrev ratsM (m : Bool) (l : List Rat) : PV := .sl m 3 (rats l)
theorem SIdx.rb {l : List Rat} {i : Int} {K : Nat → PV → Prop} (j : Nat) (hi : i = j) (hj : j < l.length) (hk : K j (ratP (l.getD j 0))) : SIdx (rats l) i K :=
  .mk j _ hi (by simp [List.getElem?_map, List.getElem?_eq_getElem hj, List.getD]) hk
theorem pers_rats (l : List Rat) : ∀ e ∈ rats l, ∀ c ∈ e.cells, Pers c := by
  intro e he c hc
  obtain ⟨x, _, rfl⟩ := List.mem_map.1 he
  have hc : c ∈ [PV.bool (decide (x.num < 0)), natP x.num.natAbs, natP x.den] := hc
  simp at hc
  rcases hc with rfl | rfl | rfl
  · exact .bool _
  · exact .sl _ _ (pers_limbs _)
  · exact .sl _ _ (pers_limbs _)
def Bl (l : List Rat) (k : Nat) : Prop := ∀ i, i < l.length → Bz (l.getD i 0) k
theorem rrows_ok (m m' : Bool) (a b : List Rat) {j k : Nat} (ha : Bl a j) (hb : Bl b k) (h : j + k ≤ 1048576) (hl : a.length ≤ 1099511627776) : CallP Try.prog 22 [ratsM m a, ratsM m' b] (.p (.bool (decide (a = b)))) [] := by
  refine callG_of_vc (wr := wr0) Γok mixed Try.func22 (by kernel_rfl) rfl (by kernel_rfl) (le_of_ble rfl) (by simp) ?_
  refine SZ.mk (a.length : Int) (by simp) ?_
  refine SZ.mk (b.length : Int) (by simp) ?_
  by_cases hne : a.length = b.length
  · refine SCmp.no (neF (by omega)) ?_
    refine SLoop.mk Nat (fun i => ([(0, .p (ratsM m a)), (1, .p (ratsM m' b)), (5, .p (.int .i64 i))], [])) (fun i => i ≤ a.length ∧ ∀ k, k < i → a.getD k 0 = b.getD k 0) (fun i => a.length - i) 0 []
      ⟨Nat.zero_le _, fun k hk => absurd hk (Nat.not_lt_zero _)⟩ ⟨rfl, .nil, rfl, rfl, rfl, ⟨rfl, rfl, rfl, trivial⟩, trivial⟩ ?_
    intro i ⟨h1, h2⟩
    refine SZ.mk (a.length : Int) (by simp) ?_
    by_cases hi : i < a.length
    · refine SCmp.yes (decide_eq_true (by omega)) ?_
      refine SDraw.mk (by kernel_rfl) ?_
      repeat refine SOp.mk _ _ (And.intro rfl rfl) rfl ?_
      refine SOp.mk _ _ (SIdx.rb i rfl hi (And.intro rfl rfl)) rfl ?_
      repeat refine SOp.mk _ _ (And.intro rfl rfl) rfl ?_
      refine SOp.mk _ _ (SIdx.rb i rfl (by omega) (And.intro rfl rfl)) rfl ?_
      repeat refine SOp.mk _ _ (And.intro rfl rfl) rfl ?_
      refine SOp.mk _ _ (SCall.pure (rsame_ok (a.getD i 0) (b.getD i 0) (ha i hi) (hb i (by omega)) h) (And.intro rfl rfl)) rfl ?_
      by_cases e : a.getD i 0 = b.getD i 0
      · rw [decide_eq_true e]
        refine SOp.mk _ _ (SCmp.no rfl (And.intro rfl rfl)) rfl ?_
        refine SWrap.i64z ((i + 1 : Nat) : Int) (by omega) (by omega) ?_
        refine ⟨i + 1, [], ⟨hi, fun k hk => ?_⟩, by show a.length - (i + 1) < a.length - i; omega, ⟨rfl, .nil, rfl, rfl, rfl, ⟨rfl, rfl, rfl, trivial⟩, trivial⟩⟩
        by_cases hki : k = i
        · rw [hki]; exact e
        · exact h2 k (by omega)
      · rw [decide_eq_false e]
        refine SOp.mk _ _ (SCmp.yes rfl (And.intro rfl rfl)) rfl ?_
        rw [decide_eq_false (fun h => e (by rw [h]))]
        exact SRet.pure (.tf _)
    · refine SCmp.no (decide_eq_false (by omega)) ?_
      have : a = b := by
        apply List.ext_getElem hne
        intro k hk1 hk2
        have := h2 k (by omega)
        simpa [List.getD, hk1, hk2] using this
      rw [decide_eq_true this]
      exact SRet.pure (.tf _)
  · refine SCmp.yes (neT (by omega)) ?_
    rw [decide_eq_false (fun h => hne (by rw [h]))]
    exact SRet.pure (.tf _)
end Go.Proofs.Ytkaooejeljdbnaa
