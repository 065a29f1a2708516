/- Floats: sums, differences, products, quotients. -/
import Derived.Test.YtjcmiedpgabdbaaR34
namespace Go.Proofs.Ytjcmiedpgabdbaa
open Go
set_option linter.unusedVariables false
set_option linter.unusedSimpArgs false
set_option maxRecDepth 10000

/-! #### what sums, products, quotients are -/
noncomputable def sumF (p : Rat) (np : Bool) (q : Rat) (nq : Bool) (mode : Int) : Nat × Int :=
  if p + q = 0 then (if p = 0 ∧ np = nq then (sg np 0, 0) else (sg (decide (mode = 2)) 0, 0)) else rS (p + q) mode
noncomputable def addF (x y : Nat) (mode : Int) : Nat × Int :=
  if isNan x || isNan y then (9221120237041090560, 0) else if isInf x && (isInf y && decide (x ≠ y)) then (9221120237041090560, 16) else if isInf x then (x, 0) else if isInf y then (y, 0) else sumF (fvq x) (ngt x) (fvq y) (ngt y) mode
noncomputable def mulF (x y : Nat) (mode : Int) : Nat × Int :=
  if isNan x || isNan y then (9221120237041090560, 0) else if (isInf x || isInf y) && (isZ x || isZ y) then (9221120237041090560, 16) else if isInf x || isInf y then (sg (ngt x != ngt y) 9218868437227405312, 0)
  else if isZ x || isZ y then (sg (ngt x != ngt y) 0, 0) else rS (fvq x * fvq y) mode
noncomputable def divF (x y : Nat) (mode : Int) : Nat × Int :=
  if isNan x || isNan y then (9221120237041090560, 0) else if (isInf x && isInf y) || (isZ x && isZ y) then (9221120237041090560, 16) else if isInf x then (sg (ngt x != ngt y) 9218868437227405312, 0)
  else if isZ y then (sg (ngt x != ngt y) 9218868437227405312, 8) else if isInf y || isZ x then (sg (ngt x != ngt y) 0, 0) else rS (fvq x / fvq y) mode

theorem min_ite' (a b : Int) : (if b < a then b else a) = min a b := by split <;> omega
/-- A value with a sign. -/
def sval (neg : Bool) (X : Rat) : Rat := if neg then -X else X
theorem fvq_sval (f : Nat) : fvq f = sval (ngt f) ((fsig (mag f) : Rat) * p2 (fexp (mag f))) := rfl
theorem rS_sval {neg : Bool} {X : Rat} (h : 0 < X) (mode : Int) : rS (sval neg X) mode = rndQ neg X mode := by
  unfold rS sval
  cases neg with
  | true =>
    rw [if_pos rfl, decide_eq_true (num_neg_iff.2 (by grind)), Rat.abs, if_neg (by rw [Rat.not_le]; grind)]
    congr 1; grind
  | false =>
    rw [if_neg Bool.false_ne_true, decide_eq_false (by rw [num_neg_iff]; grind), Rat.abs, if_pos (by grind)]
theorem sval_zero {neg : Bool} {X : Rat} : sval neg X = 0 ↔ X = 0 := by
  unfold sval; cases neg
  · simp
  · rw [if_pos rfl]; constructor <;> intro h <;> grind
theorem sval_mul (a b : Bool) (X Y : Rat) : sval a X * sval b Y = sval (a != b) (X * Y) := by
  unfold sval; cases a <;> cases b <;> simp <;> grind
theorem mp2_pos {m : Nat} (h : m ≠ 0) (e : Int) : 0 < (m : Rat) * p2 e := mul_pos_q (pos_q h) (p2_pos e)
theorem mp2_zero {m : Nat} {e : Int} : (m : Rat) * p2 e = 0 ↔ m = 0 := by
  constructor
  · intro h
    by_cases h2 : m = 0
    · exact h2
    · have := mp2_pos h2 e; grind
  · intro h; subst h; simp
theorem round_exact (neg : Bool) (m : Nat) (e mode : Int) (hm : m ≠ 0) (hmb : bitLen m ≤ 262144) (he : -262144 ≤ e ∧ e ≤ 262144) :
    CallP Try.prog 76 [numP neg m e false, .int .i64 mode] (fpair (rS (sval neg ((m : Rat) * p2 e)) mode)) [] := by
  rw [rS_sval (mp2_pos hm e)]
  have := p2_pos e
  exact round_ok neg m e false mode hm hmb he Rat.le_refl (by grind) (by simp) (by simp)

/-- Two values, added up. -/
theorem sum_ok (na nb : Bool) (ma mb : Nat) (ea eb : Int) (ha : bitLen ma ≤ 8192) (hb : bitLen mb ≤ 8192) (hea : -8192 ≤ ea ∧ ea ≤ 8192) (heb : -8192 ≤ eb ∧ eb ≤ 8192) :
    ∃ (ns : Bool) (ms : Nat), sval na ((ma : Rat) * p2 ea) + sval nb ((mb : Rat) * p2 eb) = sval ns ((ms : Rat) * p2 (min ea eb)) ∧ bitLen ms ≤ 32768 ∧
      CallP Try.prog 129 [numP na ma ea false, numP nb mb eb false] (.p (numP ns ms (min ea eb) false)) [] := by
  obtain ⟨e, he⟩ : ∃ e, e = min ea eb := ⟨_, rfl⟩
  obtain ⟨x, hx⟩ : ∃ x, x = ma * 2 ^ (ea - e).toNat := ⟨_, rfl⟩
  obtain ⟨y, hy⟩ : ∃ y, y = mb * 2 ^ (eb - e).toNat := ⟨_, rfl⟩
  rw [← he]
  have vx : (ma : Rat) * p2 ea = (x : Rat) * p2 e := by rw [hx]; exact p2_natmul ma (by omega)
  have vy : (mb : Rat) * p2 eb = (y : Rat) * p2 e := by rw [hy]; exact p2_natmul mb (by omega)
  have bx : bitLen x ≤ 24576 := by rw [hx]; have := bits_shl ma (ea - e).toNat; omega
  have bY : bitLen y ≤ 24576 := by rw [hy]; have := bits_shl mb (eb - e).toNat; omega
  have nx := nlen_bitLen x
  have ny := nlen_bitLen y
  have nma := nlen_bitLen ma
  have nmb := nlen_bitLen mb
  have hadd := bitLen_add x y
  by_cases hs : na = nb
  · refine ⟨na, x + y, ?_, by omega, ?_⟩
    · rw [vx, vy, ← hs, Rat.natCast_add]
      unfold sval; cases na <;> simp <;> grind
    · refine callG_of_vc (wr := wr0) Γok mixed Try.func129 (by kernel_rfl) rfl (by kernel_rfl) (le_of_ble rfl) (by simp) ?_
      refine SZ.mk e ((min_ite' _ _).trans he.symm) ?_
      refine SDraw.mk (by kernel_rfl) ?_
      repeat refine SOp.mk _ _ (And.intro rfl rfl) rfl ?_
      refine SOp.mk _ _ (SWrap.i64z (((ea - e).toNat : Nat) : Int) (by omega) (by omega) (And.intro rfl rfl)) rfl ?_
      refine SOp.mk _ _ (SCall.pure (fshl_ok false ma (ea - e).toNat (by omega) (by omega)) (And.intro rfl rfl)) rfl ?_
      repeat refine SOp.mk _ _ (And.intro rfl rfl) rfl ?_
      refine SOp.mk _ _ (SWrap.i64z (((eb - e).toNat : Nat) : Int) (by omega) (by omega) (And.intro rfl rfl)) rfl ?_
      refine SOp.mk _ _ (SCall.pure (fshl_ok false mb (eb - e).toNat (by omega) (by omega)) (And.intro rfl rfl)) rfl ?_
      repeat refine SOp.mk _ _ (And.intro rfl rfl) rfl ?_
      rw [← hx, ← hy]
      refine SCmp.yes (by simp [hs]) ?_
      refine SDraw.mk (by kernel_rfl) ?_
      repeat refine SOp.mk _ _ (And.intro rfl rfl) rfl ?_
      refine SOp.mk _ _ (SCall.pure (add_ok false false x y (by omega) (by omega)) (And.intro rfl rfl)) rfl ?_
      repeat refine SOp.mk _ _ (And.intro rfl rfl) rfl ?_
      exact SRet.pure (.p _ (pers_num _ _ _ _))
  · have hs2 : (na == nb) = false := by simp [hs]
    have hn : nb = !na := by cases na <;> cases nb <;> simp at hs ⊢
    by_cases hlt : x < y
    · have hsub := sub_ok false false y x (by omega) (by omega)
      rw [if_pos (by omega)] at hsub
      refine ⟨nb, y - x, ?_, ?_, ?_⟩
      · have hq : (y : Rat) = ((y - x : Nat) : Rat) + (x : Rat) := by rw [← Rat.natCast_add]; congr 1; omega
        rw [vx, vy, hn, hq]
        unfold sval; cases na <;> simp <;> grind
      · have := bitLen_mono (show y - x ≤ y by omega); omega
      · refine callG_of_vc (wr := wr0) Γok mixed Try.func129 (by kernel_rfl) rfl (by kernel_rfl) (le_of_ble rfl) (by simp) ?_
        refine SZ.mk e ((min_ite' _ _).trans he.symm) ?_
        refine SDraw.mk (by kernel_rfl) ?_
        repeat refine SOp.mk _ _ (And.intro rfl rfl) rfl ?_
        refine SOp.mk _ _ (SWrap.i64z (((ea - e).toNat : Nat) : Int) (by omega) (by omega) (And.intro rfl rfl)) rfl ?_
        refine SOp.mk _ _ (SCall.pure (fshl_ok false ma (ea - e).toNat (by omega) (by omega)) (And.intro rfl rfl)) rfl ?_
        repeat refine SOp.mk _ _ (And.intro rfl rfl) rfl ?_
        refine SOp.mk _ _ (SWrap.i64z (((eb - e).toNat : Nat) : Int) (by omega) (by omega) (And.intro rfl rfl)) rfl ?_
        refine SOp.mk _ _ (SCall.pure (fshl_ok false mb (eb - e).toNat (by omega) (by omega)) (And.intro rfl rfl)) rfl ?_
        repeat refine SOp.mk _ _ (And.intro rfl rfl) rfl ?_
        rw [← hx, ← hy]
        refine SCmp.no (hs2) ?_
        refine SCall.pure (cmp_ok false false x y (by omega) (by omega)) ?_
        rw [cmpZ, if_pos hlt]
        refine SCmp.yes (decide_eq_true (by omega)) ?_
        refine SCall.pureT (hsub) (fun _ => rfl) ?_
        exact SRet.pure (.p _ (pers_num _ _ _ _))
    · have hsub := sub_ok false false x y (by omega) (by omega)
      rw [if_pos (by omega)] at hsub
      have hc : ¬ cmpZ x y < 0 := by rw [cmpZ, if_neg hlt]; split <;> omega
      refine ⟨na, x - y, ?_, ?_, ?_⟩
      · have hq : (x : Rat) = ((x - y : Nat) : Rat) + (y : Rat) := by rw [← Rat.natCast_add]; congr 1; omega
        rw [vx, vy, hn, hq]
        unfold sval; cases na <;> simp <;> grind
      · have := bitLen_mono (show x - y ≤ x by omega); omega
      · refine callG_of_vc (wr := wr0) Γok mixed Try.func129 (by kernel_rfl) rfl (by kernel_rfl) (le_of_ble rfl) (by simp) ?_
        refine SZ.mk e ((min_ite' _ _).trans he.symm) ?_
        refine SDraw.mk (by kernel_rfl) ?_
        repeat refine SOp.mk _ _ (And.intro rfl rfl) rfl ?_
        refine SOp.mk _ _ (SWrap.i64z (((ea - e).toNat : Nat) : Int) (by omega) (by omega) (And.intro rfl rfl)) rfl ?_
        refine SOp.mk _ _ (SCall.pure (fshl_ok false ma (ea - e).toNat (by omega) (by omega)) (And.intro rfl rfl)) rfl ?_
        repeat refine SOp.mk _ _ (And.intro rfl rfl) rfl ?_
        refine SOp.mk _ _ (SWrap.i64z (((eb - e).toNat : Nat) : Int) (by omega) (by omega) (And.intro rfl rfl)) rfl ?_
        refine SOp.mk _ _ (SCall.pure (fshl_ok false mb (eb - e).toNat (by omega) (by omega)) (And.intro rfl rfl)) rfl ?_
        repeat refine SOp.mk _ _ (And.intro rfl rfl) rfl ?_
        rw [← hx, ← hy]
        refine SCmp.no (hs2) ?_
        refine SCall.pure (cmp_ok false false x y (by omega) (by omega)) ?_
        refine SCmp.no (decide_eq_false (by exact hc)) ?_
        refine SCall.pureT (hsub) (fun _ => rfl) ?_
        exact SRet.pure (.p _ (pers_num _ _ _ _))

theorem added_ok (na nb : Bool) (ma mb : Nat) (ea eb mode : Int) (ha : bitLen ma ≤ 8192) (hb : bitLen mb ≤ 8192) (hea : -8192 ≤ ea ∧ ea ≤ 8192) (heb : -8192 ≤ eb ∧ eb ≤ 8192) :
    CallP Try.prog 98 [numP na ma ea false, numP nb mb eb false, .int .i64 mode] (fpair (sumF (sval na ((ma : Rat) * p2 ea)) na (sval nb ((mb : Rat) * p2 eb)) nb mode)) [] := by
  obtain ⟨ns, ms, h1, h2, h3⟩ := sum_ok na nb ma mb ea eb ha hb hea heb
  refine callG_of_vc (wr := wr0) Γok mixed Try.func98 (by kernel_rfl) rfl (by kernel_rfl) (le_of_ble rfl) (by simp) ?_
  refine SCall.pure (h3) ?_
  rw [sumF, h1]
  have hlr : (nl ms).length = nlen ms := rfl
  refine SZ.mk (nlen ms : Int) (by simp [hlr]) ?_
  by_cases h0 : ms = 0
  · have := nlen_zero_iff.2 h0
    refine SCmp.no (decide_eq_false (by omega)) ?_
    rw [if_pos (sval_zero.2 (mp2_zero.2 h0))]
    have hla : (nl ma).length = nlen ma := rfl
    refine SZ.mk (nlen ma : Int) (by simp [hla]) ?_
    have hpz : sval na ((ma : Rat) * p2 ea) = 0 ↔ ma = 0 := sval_zero.trans mp2_zero
    by_cases hma : ma = 0
    · have := nlen_zero_iff.2 hma
      refine SCmp.yes (eqT (by omega)) ?_
      by_cases hs : na = nb
      · rw [if_pos ⟨hpz.2 hma, hs⟩]
        refine SCmp.yes (by simp [hs]) ?_
        refine SCall.pure (signed_ok 0 (by omega) na) ?_
        exact SRet.pure (.tup rfl fun i c d e1 e2 => by
          match i, e1, e2 with
          | 0, e1, e2 => cases e1; cases e2; exact .p _ (.int _ _)
          | 1, e1, e2 => cases e1; cases e2; exact .p _ (.int _ _))
      · rw [if_neg fun h => hs h.2]
        refine SCmp.no (by simp [hs]) ?_
        by_cases hm : mode = 2
        · rw [decide_eq_true hm]
          refine SCmp.yes (eqT hm) ?_
          refine SCall.pure (signed_ok 0 (by omega) true) ?_
          exact SRet.pure (.tup rfl fun i c d e1 e2 => by
            match i, e1, e2 with
            | 0, e1, e2 => cases e1; cases e2; exact .p _ (.int _ _)
            | 1, e1, e2 => cases e1; cases e2; exact .p _ (.int _ _))
        · rw [decide_eq_false hm]
          refine SCmp.no (eqF hm) ?_
          refine SCall.pure (signed_ok 0 (by omega) false) ?_
          exact SRet.pure (.tup rfl fun i c d e1 e2 => by
            match i, e1, e2 with
            | 0, e1, e2 => cases e1; cases e2; exact .p _ (.int _ _)
            | 1, e1, e2 => cases e1; cases e2; exact .p _ (.int _ _))
    · have := mt nlen_zero_iff.1 hma
      rw [if_neg fun h => hma (hpz.1 h.1)]
      refine SCmp.no (eqF (by omega)) ?_
      by_cases hm : mode = 2
      · rw [decide_eq_true hm]
        refine SCmp.yes (eqT hm) ?_
        refine SCall.pure (signed_ok 0 (by omega) true) ?_
        exact SRet.pure (.tup rfl fun i c d e1 e2 => by
          match i, e1, e2 with
          | 0, e1, e2 => cases e1; cases e2; exact .p _ (.int _ _)
          | 1, e1, e2 => cases e1; cases e2; exact .p _ (.int _ _))
      · rw [decide_eq_false hm]
        refine SCmp.no (eqF hm) ?_
        refine SCall.pure (signed_ok 0 (by omega) false) ?_
        exact SRet.pure (.tup rfl fun i c d e1 e2 => by
          match i, e1, e2 with
          | 0, e1, e2 => cases e1; cases e2; exact .p _ (.int _ _)
          | 1, e1, e2 => cases e1; cases e2; exact .p _ (.int _ _))
  · have := mt nlen_zero_iff.1 h0
    refine SCmp.yes (decide_eq_true (by omega)) ?_
    rw [if_neg (mt sval_zero.1 (mt mp2_zero.1 h0))]
    refine SCall.pureT (round_exact ns ms (min ea eb) mode h0 (by omega) (by omega)) (fun _ => rfl) ?_
    exact SRet.pure (.tup rfl fun i c d e1 e2 => by
      match i, e1, e2 with
      | 0, e1, e2 => cases e1; cases e2; exact .p _ (.int _ _)
      | 1, e1, e2 => cases e1; cases e2; exact .p _ (.int _ _))

/-- The product of two values. -/
theorem product_ok (na nb : Bool) (ma mb : Nat) (ea eb : Int) (ha : bitLen ma ≤ 8192) (hb : bitLen mb ≤ 8192) (hea : -8192 ≤ ea ∧ ea ≤ 8192) (heb : -8192 ≤ eb ∧ eb ≤ 8192) :
    CallP Try.prog 100 [numP na ma ea false, numP nb mb eb false] (.p (numP (na != nb) (ma * mb) (ea + eb) false)) [] := by
  have n1 := nlen_bitLen ma
  have n2 := nlen_bitLen mb
  refine callG_of_vc (wr := wr0) Γok mixed Try.func100 (by kernel_rfl) rfl (by kernel_rfl) (le_of_ble rfl) (by simp) ?_
  cases na <;> cases nb
  · refine SDraw.mk (by kernel_rfl) ?_
    repeat refine SOp.mk _ _ (And.intro rfl rfl) rfl ?_
    refine SOp.mk _ _ (SCmp.no rfl (And.intro rfl rfl)) rfl ?_
    repeat refine SOp.mk _ _ (And.intro rfl rfl) rfl ?_
    refine SOp.mk _ _ (SCall.pure (mul_ok false false ma mb (by omega) (by omega)) (And.intro rfl rfl)) rfl ?_
    repeat refine SOp.mk _ _ (And.intro rfl rfl) rfl ?_
    refine SOp.mk _ _ (SWrap.i64z (ea + eb) rfl (by omega) (And.intro rfl rfl)) rfl ?_
    repeat refine SOp.mk _ _ (And.intro rfl rfl) rfl ?_
    exact SRet.pure (.p _ (pers_num _ _ _ _))
  · refine SDraw.mk (by kernel_rfl) ?_
    repeat refine SOp.mk _ _ (And.intro rfl rfl) rfl ?_
    refine SOp.mk _ _ (SCmp.yes rfl (And.intro rfl rfl)) rfl ?_
    repeat refine SOp.mk _ _ (And.intro rfl rfl) rfl ?_
    refine SOp.mk _ _ (SCall.pure (mul_ok false false ma mb (by omega) (by omega)) (And.intro rfl rfl)) rfl ?_
    repeat refine SOp.mk _ _ (And.intro rfl rfl) rfl ?_
    refine SOp.mk _ _ (SWrap.i64z (ea + eb) rfl (by omega) (And.intro rfl rfl)) rfl ?_
    repeat refine SOp.mk _ _ (And.intro rfl rfl) rfl ?_
    exact SRet.pure (.p _ (pers_num _ _ _ _))
  · refine SDraw.mk (by kernel_rfl) ?_
    repeat refine SOp.mk _ _ (And.intro rfl rfl) rfl ?_
    refine SOp.mk _ _ (SCmp.yes rfl (And.intro rfl rfl)) rfl ?_
    repeat refine SOp.mk _ _ (And.intro rfl rfl) rfl ?_
    refine SOp.mk _ _ (SCall.pure (mul_ok false false ma mb (by omega) (by omega)) (And.intro rfl rfl)) rfl ?_
    repeat refine SOp.mk _ _ (And.intro rfl rfl) rfl ?_
    refine SOp.mk _ _ (SWrap.i64z (ea + eb) rfl (by omega) (And.intro rfl rfl)) rfl ?_
    repeat refine SOp.mk _ _ (And.intro rfl rfl) rfl ?_
    exact SRet.pure (.p _ (pers_num _ _ _ _))
  · refine SDraw.mk (by kernel_rfl) ?_
    repeat refine SOp.mk _ _ (And.intro rfl rfl) rfl ?_
    refine SOp.mk _ _ (SCmp.no rfl (And.intro rfl rfl)) rfl ?_
    repeat refine SOp.mk _ _ (And.intro rfl rfl) rfl ?_
    refine SOp.mk _ _ (SCall.pure (mul_ok false false ma mb (by omega) (by omega)) (And.intro rfl rfl)) rfl ?_
    repeat refine SOp.mk _ _ (And.intro rfl rfl) rfl ?_
    refine SOp.mk _ _ (SWrap.i64z (ea + eb) rfl (by omega) (And.intro rfl rfl)) rfl ?_
    repeat refine SOp.mk _ _ (And.intro rfl rfl) rfl ?_
    exact SRet.pure (.p _ (pers_num _ _ _ _))
end Go.Proofs.Ytjcmiedpgabdbaa
