/- Floats: sums, products, quotients, roots. -/
import Derived.Test.YtacklcbgkigcaaaGreatR3
/- Floats: sums, differences, products, quotients. -/
namespace Go.Proofs.YtacklcbgkigcaaaGreat
open Go
set_option linter.unusedVariables false
set_option linter.unusedSimpArgs false
set_option maxRecDepth 10000

/-! #### what sums, products, quotients are -/
noncomputable def sumF (p : Rat) (np : Bool) (q : Rat) (nq : Bool) (mode : Int) : Nat × Int :=
  if p + q = 0 then (if p = 0 ∧ np = nq then (sg np 0, 0) else (sg (decide (mode = 2)) 0, 0)) else rS (p + q) mode
noncomputable def addF (x y : Nat) (mode : Int) : Nat × Int :=
  if isNan x || isNan y then (9221120237041090560, 0) else if isInf x && (isInf y && decide (x ≠ y)) then (9221120237041090560, 16) else if isInf x then (x, 0) else if isInf y then (y, 0) else sumF (fvq x) (ngt x) (fvq y) (ngt y) mode
noncomputable def mulF (x y : Nat) (mode : Int) : Nat × Int :=
  if isNan x || isNan y then (9221120237041090560, 0) else if (isInf x || isInf y) && (isZ x || isZ y) then (9221120237041090560, 16) else if isInf x || isInf y then (sg (ngt x != ngt y) 9218868437227405312, 0)
  else if isZ x || isZ y then (sg (ngt x != ngt y) 0, 0) else rS (fvq x * fvq y) mode
noncomputable def divF (x y : Nat) (mode : Int) : Nat × Int :=
  if isNan x || isNan y then (9221120237041090560, 0) else if (isInf x && isInf y) || (isZ x && isZ y) then (9221120237041090560, 16) else if isInf x then (sg (ngt x != ngt y) 9218868437227405312, 0)
  else if isZ y then (sg (ngt x != ngt y) 9218868437227405312, 8) else if isInf y || isZ x then (sg (ngt x != ngt y) 0, 0) else rS (fvq x / fvq y) mode

theorem min_ite' (a b : Int) : (if b < a then b else a) = min a b := by split <;> omega
/-- A value with a sign. -/
def sval (neg : Bool) (X : Rat) : Rat := if neg then -X else X
theorem fvq_sval (f : Nat) : fvq f = sval (ngt f) ((fsig (mag f) : Rat) * p2 (fexp (mag f))) := rfl
theorem rS_sval {neg : Bool} {X : Rat} (h : 0 < X) (mode : Int) : rS (sval neg X) mode = rndQ neg X mode := by
  unfold rS sval
  cases neg with
  | true =>
    rw [if_pos rfl, decide_eq_true (num_neg_iff.2 (by grind)), Rat.abs, if_neg (by rw [Rat.not_le]; grind)]
    congr 1; grind
  | false =>
    rw [if_neg Bool.false_ne_true, decide_eq_false (by rw [num_neg_iff]; grind), Rat.abs, if_pos (by grind)]
theorem sval_zero {neg : Bool} {X : Rat} : sval neg X = 0 ↔ X = 0 := by
  unfold sval; cases neg
  · simp
  · rw [if_pos rfl]; constructor <;> intro h <;> grind
theorem sval_mul (a b : Bool) (X Y : Rat) : sval a X * sval b Y = sval (a != b) (X * Y) := by
  unfold sval; cases a <;> cases b <;> simp <;> grind
theorem mp2_pos {m : Nat} (h : m ≠ 0) (e : Int) : 0 < (m : Rat) * p2 e := mul_pos_q (pos_q h) (p2_pos e)
theorem mp2_zero {m : Nat} {e : Int} : (m : Rat) * p2 e = 0 ↔ m = 0 := by
  constructor
  · intro h
    by_cases h2 : m = 0
    · exact h2
    · have := mp2_pos h2 e; grind
  · intro h; subst h; simp
theorem round_exact (neg : Bool) (m : Nat) (e mode : Int) (hm : m ≠ 0) (hmb : bitLen m ≤ 262144) (he : -262144 ≤ e ∧ e ≤ 262144) :
    CallP Tryz.prog 129 [numP neg m e false, .int .i64 mode] (fpair (rS (sval neg ((m : Rat) * p2 e)) mode)) [] := by
  rw [rS_sval (mp2_pos hm e)]
  have := p2_pos e
  exact round_ok neg m e false mode hm hmb he Rat.le_refl (by grind) (by simp) (by simp)

/-- Two values, added up. -/
theorem sum_ok (na nb : Bool) (ma mb : Nat) (ea eb : Int) (ha : bitLen ma ≤ 8192) (hb : bitLen mb ≤ 8192) (hea : -8192 ≤ ea ∧ ea ≤ 8192) (heb : -8192 ≤ eb ∧ eb ≤ 8192) :
    ∃ (ns : Bool) (ms : Nat), sval na ((ma : Rat) * p2 ea) + sval nb ((mb : Rat) * p2 eb) = sval ns ((ms : Rat) * p2 (min ea eb)) ∧ bitLen ms ≤ 32768 ∧
      CallP Tryz.prog 155 [numP na ma ea false, numP nb mb eb false] (.p (numP ns ms (min ea eb) false)) [] := by
  obtain ⟨e, he⟩ : ∃ e, e = min ea eb := ⟨_, rfl⟩
  obtain ⟨x, hx⟩ : ∃ x, x = ma * 2 ^ (ea - e).toNat := ⟨_, rfl⟩
  obtain ⟨y, hy⟩ : ∃ y, y = mb * 2 ^ (eb - e).toNat := ⟨_, rfl⟩
  rw [← he]
  have vx : (ma : Rat) * p2 ea = (x : Rat) * p2 e := by rw [hx]; exact p2_natmul ma (by omega)
  have vy : (mb : Rat) * p2 eb = (y : Rat) * p2 e := by rw [hy]; exact p2_natmul mb (by omega)
  have bx : bitLen x ≤ 24576 := by rw [hx]; have := bits_shl ma (ea - e).toNat; omega
  have bY : bitLen y ≤ 24576 := by rw [hy]; have := bits_shl mb (eb - e).toNat; omega
  have nx := nlen_bitLen x
  have ny := nlen_bitLen y
  have nma := nlen_bitLen ma
  have nmb := nlen_bitLen mb
  have hadd := bitLen_add x y
  by_cases hs : na = nb
  · refine ⟨na, x + y, ?_, by omega, ?_⟩
    · rw [vx, vy, ← hs, Rat.natCast_add]
      unfold sval; cases na <;> simp <;> grind
    · refine callG_of_vc (wr := wr0) Γok mixed Tryz.func155 (by kernel_rfl) rfl (by kernel_rfl) (le_of_ble rfl) (by simp) ?_
      refine SZ.mk e ((min_ite' _ _).trans he.symm) ?_
      refine SDraw.mk (by kernel_rfl) ?_
      repeat refine SOp.mk _ _ (And.intro rfl rfl) rfl ?_
      refine SOp.mk _ _ (SWrap.i64z (((ea - e).toNat : Nat) : Int) (by omega) (by omega) (And.intro rfl rfl)) rfl ?_
      refine SOp.mk _ _ (SCall.pure (fshl_ok false ma (ea - e).toNat (by omega) (by omega)) (And.intro rfl rfl)) rfl ?_
      repeat refine SOp.mk _ _ (And.intro rfl rfl) rfl ?_
      refine SOp.mk _ _ (SWrap.i64z (((eb - e).toNat : Nat) : Int) (by omega) (by omega) (And.intro rfl rfl)) rfl ?_
      refine SOp.mk _ _ (SCall.pure (fshl_ok false mb (eb - e).toNat (by omega) (by omega)) (And.intro rfl rfl)) rfl ?_
      repeat refine SOp.mk _ _ (And.intro rfl rfl) rfl ?_
      rw [← hx, ← hy]
      refine SCmp.yes (by simp [hs]) ?_
      refine SDraw.mk (by kernel_rfl) ?_
      repeat refine SOp.mk _ _ (And.intro rfl rfl) rfl ?_
      refine SOp.mk _ _ (SCall.pure (add_ok false false x y (by omega) (by omega)) (And.intro rfl rfl)) rfl ?_
      repeat refine SOp.mk _ _ (And.intro rfl rfl) rfl ?_
      exact SRet.pure (.p _ (pers_num _ _ _ _))
  · have hs2 : (na == nb) = false := by simp [hs]
    have hn : nb = !na := by cases na <;> cases nb <;> simp at hs ⊢
    by_cases hlt : x < y
    · have hsub := sub_ok false false y x (by omega) (by omega)
      rw [if_pos (by omega)] at hsub
      refine ⟨nb, y - x, ?_, ?_, ?_⟩
      · have hq : (y : Rat) = ((y - x : Nat) : Rat) + (x : Rat) := by rw [← Rat.natCast_add]; congr 1; omega
        rw [vx, vy, hn, hq]
        unfold sval; cases na <;> simp <;> grind
      · have := bitLen_mono (show y - x ≤ y by omega); omega
      · refine callG_of_vc (wr := wr0) Γok mixed Tryz.func155 (by kernel_rfl) rfl (by kernel_rfl) (le_of_ble rfl) (by simp) ?_
        refine SZ.mk e ((min_ite' _ _).trans he.symm) ?_
        refine SDraw.mk (by kernel_rfl) ?_
        repeat refine SOp.mk _ _ (And.intro rfl rfl) rfl ?_
        refine SOp.mk _ _ (SWrap.i64z (((ea - e).toNat : Nat) : Int) (by omega) (by omega) (And.intro rfl rfl)) rfl ?_
        refine SOp.mk _ _ (SCall.pure (fshl_ok false ma (ea - e).toNat (by omega) (by omega)) (And.intro rfl rfl)) rfl ?_
        repeat refine SOp.mk _ _ (And.intro rfl rfl) rfl ?_
        refine SOp.mk _ _ (SWrap.i64z (((eb - e).toNat : Nat) : Int) (by omega) (by omega) (And.intro rfl rfl)) rfl ?_
        refine SOp.mk _ _ (SCall.pure (fshl_ok false mb (eb - e).toNat (by omega) (by omega)) (And.intro rfl rfl)) rfl ?_
        repeat refine SOp.mk _ _ (And.intro rfl rfl) rfl ?_
        rw [← hx, ← hy]
        refine SCmp.no (hs2) ?_
        refine SCall.pure (cmp_ok false false x y (by omega) (by omega)) ?_
        rw [cmpZ, if_pos hlt]
        refine SCmp.yes (decide_eq_true (by omega)) ?_
        refine SCall.pureT (hsub) (fun _ => rfl) ?_
        exact SRet.pure (.p _ (pers_num _ _ _ _))
    · have hsub := sub_ok false false x y (by omega) (by omega)
      rw [if_pos (by omega)] at hsub
      have hc : ¬ cmpZ x y < 0 := by rw [cmpZ, if_neg hlt]; split <;> omega
      refine ⟨na, x - y, ?_, ?_, ?_⟩
      · have hq : (x : Rat) = ((x - y : Nat) : Rat) + (y : Rat) := by rw [← Rat.natCast_add]; congr 1; omega
        rw [vx, vy, hn, hq]
        unfold sval; cases na <;> simp <;> grind
      · have := bitLen_mono (show x - y ≤ x by omega); omega
      · refine callG_of_vc (wr := wr0) Γok mixed Tryz.func155 (by kernel_rfl) rfl (by kernel_rfl) (le_of_ble rfl) (by simp) ?_
        refine SZ.mk e ((min_ite' _ _).trans he.symm) ?_
        refine SDraw.mk (by kernel_rfl) ?_
        repeat refine SOp.mk _ _ (And.intro rfl rfl) rfl ?_
        refine SOp.mk _ _ (SWrap.i64z (((ea - e).toNat : Nat) : Int) (by omega) (by omega) (And.intro rfl rfl)) rfl ?_
        refine SOp.mk _ _ (SCall.pure (fshl_ok false ma (ea - e).toNat (by omega) (by omega)) (And.intro rfl rfl)) rfl ?_
        repeat refine SOp.mk _ _ (And.intro rfl rfl) rfl ?_
        refine SOp.mk _ _ (SWrap.i64z (((eb - e).toNat : Nat) : Int) (by omega) (by omega) (And.intro rfl rfl)) rfl ?_
        refine SOp.mk _ _ (SCall.pure (fshl_ok false mb (eb - e).toNat (by omega) (by omega)) (And.intro rfl rfl)) rfl ?_
        repeat refine SOp.mk _ _ (And.intro rfl rfl) rfl ?_
        rw [← hx, ← hy]
        refine SCmp.no (hs2) ?_
        refine SCall.pure (cmp_ok false false x y (by omega) (by omega)) ?_
        refine SCmp.no (decide_eq_false (by exact hc)) ?_
        refine SCall.pureT (hsub) (fun _ => rfl) ?_
        exact SRet.pure (.p _ (pers_num _ _ _ _))

theorem added_ok (na nb : Bool) (ma mb : Nat) (ea eb mode : Int) (ha : bitLen ma ≤ 8192) (hb : bitLen mb ≤ 8192) (hea : -8192 ≤ ea ∧ ea ≤ 8192) (heb : -8192 ≤ eb ∧ eb ≤ 8192) :
    CallP Tryz.prog 123 [numP na ma ea false, numP nb mb eb false, .int .i64 mode] (fpair (sumF (sval na ((ma : Rat) * p2 ea)) na (sval nb ((mb : Rat) * p2 eb)) nb mode)) [] := by
  obtain ⟨ns, ms, h1, h2, h3⟩ := sum_ok na nb ma mb ea eb ha hb hea heb
  refine callG_of_vc (wr := wr0) Γok mixed Tryz.func123 (by kernel_rfl) rfl (by kernel_rfl) (le_of_ble rfl) (by simp) ?_
  refine SCall.pure (h3) ?_
  rw [sumF, h1]
  have hlr : (nl ms).length = nlen ms := rfl
  refine SZ.mk (nlen ms : Int) (by simp [hlr]) ?_
  by_cases h0 : ms = 0
  · have := nlen_zero_iff.2 h0
    refine SCmp.no (decide_eq_false (by omega)) ?_
    rw [if_pos (sval_zero.2 (mp2_zero.2 h0))]
    have hla : (nl ma).length = nlen ma := rfl
    refine SZ.mk (nlen ma : Int) (by simp [hla]) ?_
    have hpz : sval na ((ma : Rat) * p2 ea) = 0 ↔ ma = 0 := sval_zero.trans mp2_zero
    by_cases hma : ma = 0
    · have := nlen_zero_iff.2 hma
      refine SCmp.yes (eqT (by omega)) ?_
      by_cases hs : na = nb
      · rw [if_pos ⟨hpz.2 hma, hs⟩]
        refine SCmp.yes (by simp [hs]) ?_
        refine SCall.pure (signed_ok 0 (by omega) na) ?_
        exact SRet.pure (.tup rfl fun i c d e1 e2 => by
          match i, e1, e2 with
          | 0, e1, e2 => cases e1; cases e2; exact .p _ (.int _ _)
          | 1, e1, e2 => cases e1; cases e2; exact .p _ (.int _ _))
      · rw [if_neg fun h => hs h.2]
        refine SCmp.no (by simp [hs]) ?_
        by_cases hm : mode = 2
        · rw [decide_eq_true hm]
          refine SCmp.yes (eqT hm) ?_
          refine SCall.pure (signed_ok 0 (by omega) true) ?_
          exact SRet.pure (.tup rfl fun i c d e1 e2 => by
            match i, e1, e2 with
            | 0, e1, e2 => cases e1; cases e2; exact .p _ (.int _ _)
            | 1, e1, e2 => cases e1; cases e2; exact .p _ (.int _ _))
        · rw [decide_eq_false hm]
          refine SCmp.no (eqF hm) ?_
          refine SCall.pure (signed_ok 0 (by omega) false) ?_
          exact SRet.pure (.tup rfl fun i c d e1 e2 => by
            match i, e1, e2 with
            | 0, e1, e2 => cases e1; cases e2; exact .p _ (.int _ _)
            | 1, e1, e2 => cases e1; cases e2; exact .p _ (.int _ _))
    · have := mt nlen_zero_iff.1 hma
      rw [if_neg fun h => hma (hpz.1 h.1)]
      refine SCmp.no (eqF (by omega)) ?_
      by_cases hm : mode = 2
      · rw [decide_eq_true hm]
        refine SCmp.yes (eqT hm) ?_
        refine SCall.pure (signed_ok 0 (by omega) true) ?_
        exact SRet.pure (.tup rfl fun i c d e1 e2 => by
          match i, e1, e2 with
          | 0, e1, e2 => cases e1; cases e2; exact .p _ (.int _ _)
          | 1, e1, e2 => cases e1; cases e2; exact .p _ (.int _ _))
      · rw [decide_eq_false hm]
        refine SCmp.no (eqF hm) ?_
        refine SCall.pure (signed_ok 0 (by omega) false) ?_
        exact SRet.pure (.tup rfl fun i c d e1 e2 => by
          match i, e1, e2 with
          | 0, e1, e2 => cases e1; cases e2; exact .p _ (.int _ _)
          | 1, e1, e2 => cases e1; cases e2; exact .p _ (.int _ _))
  · have := mt nlen_zero_iff.1 h0
    refine SCmp.yes (decide_eq_true (by omega)) ?_
    rw [if_neg (mt sval_zero.1 (mt mp2_zero.1 h0))]
    refine SCall.pureT (round_exact ns ms (min ea eb) mode h0 (by omega) (by omega)) (fun _ => rfl) ?_
    exact SRet.pure (.tup rfl fun i c d e1 e2 => by
      match i, e1, e2 with
      | 0, e1, e2 => cases e1; cases e2; exact .p _ (.int _ _)
      | 1, e1, e2 => cases e1; cases e2; exact .p _ (.int _ _))

/-- The product of two values. -/
theorem product_ok (na nb : Bool) (ma mb : Nat) (ea eb : Int) (ha : bitLen ma ≤ 8192) (hb : bitLen mb ≤ 8192) (hea : -8192 ≤ ea ∧ ea ≤ 8192) (heb : -8192 ≤ eb ∧ eb ≤ 8192) :
    CallP Tryz.prog 128 [numP na ma ea false, numP nb mb eb false] (.p (numP (na != nb) (ma * mb) (ea + eb) false)) [] := by
  have n1 := nlen_bitLen ma
  have n2 := nlen_bitLen mb
  refine callG_of_vc (wr := wr0) Γok mixed Tryz.func128 (by kernel_rfl) rfl (by kernel_rfl) (le_of_ble rfl) (by simp) ?_
  cases na <;> cases nb
  · refine SDraw.mk (by kernel_rfl) ?_
    repeat refine SOp.mk _ _ (And.intro rfl rfl) rfl ?_
    refine SOp.mk _ _ (SCmp.no rfl (And.intro rfl rfl)) rfl ?_
    repeat refine SOp.mk _ _ (And.intro rfl rfl) rfl ?_
    refine SOp.mk _ _ (SCall.pure (mul_ok false false ma mb (by omega) (by omega)) (And.intro rfl rfl)) rfl ?_
    repeat refine SOp.mk _ _ (And.intro rfl rfl) rfl ?_
    refine SOp.mk _ _ (SWrap.i64z (ea + eb) rfl (by omega) (And.intro rfl rfl)) rfl ?_
    repeat refine SOp.mk _ _ (And.intro rfl rfl) rfl ?_
    exact SRet.pure (.p _ (pers_num _ _ _ _))
  · refine SDraw.mk (by kernel_rfl) ?_
    repeat refine SOp.mk _ _ (And.intro rfl rfl) rfl ?_
    refine SOp.mk _ _ (SCmp.yes rfl (And.intro rfl rfl)) rfl ?_
    repeat refine SOp.mk _ _ (And.intro rfl rfl) rfl ?_
    refine SOp.mk _ _ (SCall.pure (mul_ok false false ma mb (by omega) (by omega)) (And.intro rfl rfl)) rfl ?_
    repeat refine SOp.mk _ _ (And.intro rfl rfl) rfl ?_
    refine SOp.mk _ _ (SWrap.i64z (ea + eb) rfl (by omega) (And.intro rfl rfl)) rfl ?_
    repeat refine SOp.mk _ _ (And.intro rfl rfl) rfl ?_
    exact SRet.pure (.p _ (pers_num _ _ _ _))
  · refine SDraw.mk (by kernel_rfl) ?_
    repeat refine SOp.mk _ _ (And.intro rfl rfl) rfl ?_
    refine SOp.mk _ _ (SCmp.yes rfl (And.intro rfl rfl)) rfl ?_
    repeat refine SOp.mk _ _ (And.intro rfl rfl) rfl ?_
    refine SOp.mk _ _ (SCall.pure (mul_ok false false ma mb (by omega) (by omega)) (And.intro rfl rfl)) rfl ?_
    repeat refine SOp.mk _ _ (And.intro rfl rfl) rfl ?_
    refine SOp.mk _ _ (SWrap.i64z (ea + eb) rfl (by omega) (And.intro rfl rfl)) rfl ?_
    repeat refine SOp.mk _ _ (And.intro rfl rfl) rfl ?_
    exact SRet.pure (.p _ (pers_num _ _ _ _))
  · refine SDraw.mk (by kernel_rfl) ?_
    repeat refine SOp.mk _ _ (And.intro rfl rfl) rfl ?_
    refine SOp.mk _ _ (SCmp.no rfl (And.intro rfl rfl)) rfl ?_
    repeat refine SOp.mk _ _ (And.intro rfl rfl) rfl ?_
    refine SOp.mk _ _ (SCall.pure (mul_ok false false ma mb (by omega) (by omega)) (And.intro rfl rfl)) rfl ?_
    repeat refine SOp.mk _ _ (And.intro rfl rfl) rfl ?_
    refine SOp.mk _ _ (SWrap.i64z (ea + eb) rfl (by omega) (And.intro rfl rfl)) rfl ?_
    repeat refine SOp.mk _ _ (And.intro rfl rfl) rfl ?_
    exact SRet.pure (.p _ (pers_num _ _ _ _))
end Go.Proofs.YtacklcbgkigcaaaGreat

/- Floats: Add, Sub, Mul, Div. -/
namespace Go.Proofs.YtacklcbgkigcaaaGreat
open Go
set_option linter.unusedVariables false
set_option linter.unusedSimpArgs false
set_option maxRecDepth 10000

abbrev u64s (l : List Nat) : List PV := l.map fun (x : Nat) => .int .u64 x
theorem SIdx.ub {l : List Nat} {i : Int} {K : Nat → PV → Prop} (j : Nat) (hi : i = j) (hj : j < l.length) (hk : K j (.int .u64 ((l.getD j 0 : Nat) : Int))) : SIdx (u64s l) i K :=
  .mk j _ hi (by simp [List.getElem?_map, List.getElem?_eq_getElem hj, List.getD]) hk
theorem any_take {p : Nat → Bool} {l : List Nat} {i : Nat} (hi : i < l.length) : (l.take (i + 1)).any p = ((l.take i).any p || p (l.getD i 0)) := by
  rw [List.take_add_one, List.any_append, List.getElem?_eq_getElem hi]; simp [List.getD, List.getElem?_eq_getElem hi]
theorem any_of {p : Nat → Bool} {l : List Nat} {i : Nat} (hi : i < l.length) (h : p (l.getD i 0) = true) : l.any p = true := by
  rw [List.any_eq_true]
  exact ⟨l.getD i 0, by simp [List.getD, List.getElem?_eq_getElem hi], h⟩
theorem some_ok (f : FuncId) (p : Nat → Bool) (hp : ∀ x : Nat, x < 18446744073709551616 → CallP Tryz.prog f [.int .u64 x] (.p (.bool (p x))) []) (m : Bool) (l : List Nat) (hl : ∀ x ∈ l, x < 18446744073709551616) (hn : l.length ≤ 100) :
    CallP Tryz.prog 119 [.fn f [], .sl m 1 (u64s l)] (.p (.bool (l.any p))) [] := by
  refine callG_of_vc (wr := wr0) Γok mixed Tryz.func119 (by kernel_rfl) rfl (by kernel_rfl) (le_of_ble rfl) (by simp) ?_
  refine SZ.mk (l.length : Int) (by simp) ?_
  refine SLoop.mk Nat (fun i => ([(0, .p (.fn f [])), (7, .p (.sl m 1 (u64s l))), (8, .p (.int .i64 l.length)), (9, .p (.int .i64 i))], [])) (fun i => i ≤ l.length ∧ (l.take i).any p = false) (fun i => l.length - i) 0 []
    ⟨Nat.zero_le _, by simp⟩ ⟨rfl, .nil, rfl, rfl, rfl, ⟨rfl, rfl, rfl, rfl, trivial⟩, trivial⟩ ?_
  intro i ⟨h1, h2⟩
  have h1 : i ≤ l.length := h1
  by_cases hi : i < l.length
  · refine SCmp.yes (decide_eq_true (by omega)) ?_
    refine SIdx.ub i rfl hi ?_
    have hx : l.getD i 0 < 18446744073709551616 := hl _ (by simp [List.getD, List.getElem?_eq_getElem hi])
    refine SCall.pure (hp _ hx) ?_
    refine SCond.mk (fun h => ?_) (fun h => ?_)
    · rw [any_of hi h]
      exact SRet.pure (.tf _)
    · refine SWrap.i64z ((i + 1 : Nat) : Int) (by omega) (by omega) ?_
      exact ⟨i + 1, [], ⟨hi, by rw [any_take hi, h2, h]; rfl⟩, by show l.length - (i + 1) < l.length - i; omega, ⟨rfl, .nil, rfl, rfl, rfl, ⟨rfl, rfl, rfl, rfl, trivial⟩, trivial⟩⟩
  · refine SCmp.no (decide_eq_false (by omega)) ?_
    rw [show l.any p = false by rw [← h2, List.take_of_length_le (by omega)]]
    exact SRet.pure (.tf _)
theorem some2_ok (f : FuncId) (p : Nat → Bool) (hp : ∀ x : Nat, x < 18446744073709551616 → CallP Tryz.prog f [.int .u64 x] (.p (.bool (p x))) []) {a b : Nat} (ha : a < 18446744073709551616) (hb : b < 18446744073709551616) (r : Bool) (hr : (p a || p b) = r) :
    CallP Tryz.prog 119 [.fn f [], .sl true 1 [.int .u64 a, .int .u64 b]] (.p (.bool r)) [] := by
  have := some_ok f p hp true [a, b] (by simp [ha, hb]) (by simp)
  rwa [show [a, b].any p = r by rw [← hr]; simp] at this
theorem some3_ok (f : FuncId) (p : Nat → Bool) (hp : ∀ x : Nat, x < 18446744073709551616 → CallP Tryz.prog f [.int .u64 x] (.p (.bool (p x))) []) {a b c : Nat} (ha : a < 18446744073709551616) (hb : b < 18446744073709551616) (hc : c < 18446744073709551616) (r : Bool) (hr : (p a || (p b || p c)) = r) :
    CallP Tryz.prog 119 [.fn f [], .sl true 1 [.int .u64 a, .int .u64 b, .int .u64 c]] (.p (.bool r)) [] := by
  have := some_ok f p hp true [a, b, c] (by simp [ha, hb, hc]) (by simp)
  rwa [show [a, b, c].any p = r by rw [← hr]; simp] at this
theorem nans2 {a b : Nat} (ha : a < 18446744073709551616) (hb : b < 18446744073709551616) (r : Bool) (hr : (isNan a || isNan b) = r) : CallP Tryz.prog 119 [.fn 120 [], .sl true 1 [.int .u64 a, .int .u64 b]] (.p (.bool r)) [] :=
  some2_ok _ isNan (fun (x : Nat) hx => nan_ok x hx _ rfl) ha hb r hr
theorem infs2 {a b : Nat} (ha : a < 18446744073709551616) (hb : b < 18446744073709551616) (r : Bool) (hr : (isInf a || isInf b) = r) : CallP Tryz.prog 119 [.fn 121 [], .sl true 1 [.int .u64 a, .int .u64 b]] (.p (.bool r)) [] :=
  some2_ok _ isInf (fun (x : Nat) hx => infinite_ok x hx _ rfl) ha hb r hr
theorem zs2 {a b : Nat} (ha : a < 18446744073709551616) (hb : b < 18446744073709551616) (r : Bool) (hr : (isZ a || isZ b) = r) : CallP Tryz.prog 119 [.fn 126 [], .sl true 1 [.int .u64 a, .int .u64 b]] (.p (.bool r)) [] :=
  some2_ok _ isZ (fun (x : Nat) hx => nought_ok x hx _ rfl) ha hb r hr

theorem sfadd_ok (a b : Nat) (mode : Int) (ha : a < 18446744073709551616) (hb : b < 18446744073709551616) : CallP Tryz.prog 74 [.int .u64 a, .int .u64 b, .int .i64 mode] (fpair (addF a b mode)) [] := by
  refine callG_of_vc (wr := wr0) Γok mixed Tryz.func74 (by kernel_rfl) rfl (by kernel_rfl) (le_of_ble rfl) (by simp) ?_
  unfold addF
  refine SView.all rfl ?_
  cases hn : (isNan a || isNan b) with
  | true =>
    refine SCall.pure (nans2 ha hb _ hn) ?_
    refine SCond.mk (fun _ => ?_) (fun h => by cases h)
    exact SRet.pure (.tup rfl fun i c d e1 e2 => by
      match i, e1, e2 with
      | 0, e1, e2 => cases e1; cases e2; exact .p _ (.int _ _)
      | 1, e1, e2 => cases e1; cases e2; exact .p _ (.int _ _))
  | false =>
    refine SCall.pure (nans2 ha hb _ hn) ?_
    refine SCond.mk (fun h => by cases h) (fun _ => ?_)
    rw [if_neg Bool.false_ne_true]
    cases hia : isInf a with
    | true =>
      refine SCall.pure (infinite_ok a ha _ hia) ?_
      refine SCond.mk (fun _ => ?_) (fun h => by cases h)
      cases hib : isInf b with
      | true =>
        refine SCall.pure (infinite_ok b hb _ hib) ?_
        refine SCond.mk (fun _ => ?_) (fun h => by cases h)
        by_cases he : a = b
        · refine SCmp.no (neF (by omega)) ?_
          rw [if_neg (by simp [he])]
          refine SCall.pure (infinite_ok a ha _ hia) ?_
          refine SCond.mk (fun _ => ?_) (fun h => by cases h)
          exact SRet.pure (.tup rfl fun i c d e1 e2 => by
            match i, e1, e2 with
            | 0, e1, e2 => cases e1; cases e2; exact .p _ (.int _ _)
            | 1, e1, e2 => cases e1; cases e2; exact .p _ (.int _ _))
        · refine SCmp.yes (neT (by omega)) ?_
          rw [if_pos (by simp [he])]
          refine SCall.pureT (wrong_ok) (fun _ => rfl) ?_
          exact SRet.pure (.tup rfl fun i c d e1 e2 => by
            match i, e1, e2 with
            | 0, e1, e2 => cases e1; cases e2; exact .p _ (.int _ _)
            | 1, e1, e2 => cases e1; cases e2; exact .p _ (.int _ _))
      | false =>
        refine SCall.pure (infinite_ok b hb _ hib) ?_
        refine SCond.mk (fun h => by cases h) (fun _ => ?_)
        rw [if_neg (by simp)]
        refine SCall.pure (infinite_ok a ha _ hia) ?_
        refine SCond.mk (fun _ => ?_) (fun h => by cases h)
        exact SRet.pure (.tup rfl fun i c d e1 e2 => by
          match i, e1, e2 with
          | 0, e1, e2 => cases e1; cases e2; exact .p _ (.int _ _)
          | 1, e1, e2 => cases e1; cases e2; exact .p _ (.int _ _))
    | false =>
      refine SCall.pure (infinite_ok a ha _ hia) ?_
      refine SCond.mk (fun h => by cases h) (fun _ => ?_)
      rw [if_neg (by simp), if_neg (by simp)]
      refine SCall.pure (infinite_ok a ha _ hia) ?_
      refine SCond.mk (fun h => by cases h) (fun _ => ?_)
      cases hib : isInf b with
      | true =>
        refine SCall.pure (infinite_ok b hb _ hib) ?_
        refine SCond.mk (fun _ => ?_) (fun h => by cases h)
        exact SRet.pure (.tup rfl fun i c d e1 e2 => by
          match i, e1, e2 with
          | 0, e1, e2 => cases e1; cases e2; exact .p _ (.int _ _)
          | 1, e1, e2 => cases e1; cases e2; exact .p _ (.int _ _))
      | false =>
        refine SCall.pure (infinite_ok b hb _ hib) ?_
        refine SCond.mk (fun h => by cases h) (fun _ => ?_)
        rw [if_neg (by simp)]
        refine SCall.pure (ofnum_ok a ha) ?_
        refine SCall.pure (ofnum_ok b hb) ?_
        have e1 := fexp_le (mag_lt a)
        have e2 := fexp_ge (mag a)
        have e3 := fexp_le (mag_lt b)
        have e4 := fexp_ge (mag b)
        have e5 := fsig_bits (mag a)
        have e6 := fsig_bits (mag b)
        refine SCall.pureT (added_ok (ngt a) (ngt b) (fsig (mag a)) (fsig (mag b)) (fexp (mag a)) (fexp (mag b)) mode (by omega) (by omega) (by omega) (by omega)) (fun _ => rfl) ?_
        exact SRet.pure (.tup rfl fun i c d e1 e2 => by
          match i, e1, e2 with
          | 0, e1, e2 => cases e1; cases e2; exact .p _ (.int _ _)
          | 1, e1, e2 => cases e1; cases e2; exact .p _ (.int _ _))
theorem flip_mod {b : Nat} (hb : b < 18446744073709551616) : flip b % 9223372036854775808 = b % 9223372036854775808 := by unfold flip; split <;> omega
theorem isNan_flip {b : Nat} (hb : b < 18446744073709551616) : isNan (flip b) = isNan b := by
  unfold isNan; rw [flip_mod hb]
/-- What is left, of floats. -/
noncomputable def subF (a b : Nat) (mode : Int) : Nat × Int := addF a (flip b) mode
theorem isZ_iff {f : Nat} : isZ f = true ↔ mag f = 0 := by unfold isZ mag; simp
theorem fsig_zero {c : Nat} : fsig c = 0 ↔ c = 0 := by unfold fsig; split <;> omega
theorem fvq_mul (a b : Nat) : fvq a * fvq b = sval (ngt a != ngt b) (((fsig (mag a) * fsig (mag b) : Nat) : Rat) * p2 (fexp (mag a) + fexp (mag b))) := by
  rw [fvq_sval, fvq_sval, sval_mul, p2_add, Rat.natCast_mul]
  congr 1; grind
theorem signs_ok {P : Prop} {a b : Nat} {K : AV → Prop} (h : ∀ v, (v = .tf (ngt a != ngt b)) → K v) : SCmp (ngt a != ngt b) K := by
  cases e : (ngt a != ngt b) with
  | true => exact .yes rfl (h _ (by rw [e]))
  | false => exact .no rfl (h _ (by rw [e]))
theorem sfmul_ok (a b : Nat) (mode : Int) (ha : a < 18446744073709551616) (hb : b < 18446744073709551616) : CallP Tryz.prog 76 [.int .u64 a, .int .u64 b, .int .i64 mode] (fpair (mulF a b mode)) [] := by
  refine callG_of_vc (wr := wr0) Γok mixed Tryz.func76 (by kernel_rfl) rfl (by kernel_rfl) (le_of_ble rfl) (by simp) ?_
  unfold mulF
  refine SCall.pure (below_ok a ha _ rfl) ?_
  refine SCall.pure (below_ok b hb _ rfl) ?_
  refine SCmp.sym ?_
  obtain ⟨ns, hns⟩ : ∃ ns, ns = (ngt a != ngt b) := ⟨_, rfl⟩
  have hsg : ∀ c : Nat, c < 9223372036854775808 → CallP Tryz.prog 127 [.int .u64 c, .bool (!(ngt a == ngt b))] (.p (.int .u64 (sg (ngt a != ngt b) c))) [] := fun c hc => signed_ok c hc _
  refine SView.all rfl ?_
  cases hn : (isNan a || isNan b) with
  | true =>
    refine SCall.pure (nans2 ha hb _ hn) ?_
    refine SCond.mk (fun _ => ?_) (fun h => by cases h)
    exact SRet.pure (.tup rfl fun i c d e1 e2 => by
      match i, e1, e2 with
      | 0, e1, e2 => cases e1; cases e2; exact .p _ (.int _ _)
      | 1, e1, e2 => cases e1; cases e2; exact .p _ (.int _ _))
  | false =>
    refine SCall.pure (nans2 ha hb _ hn) ?_
    refine SCond.mk (fun h => by cases h) (fun _ => ?_)
    rw [if_neg Bool.false_ne_true]
    refine SView.all rfl ?_
    cases hi : (isInf a || isInf b) with
    | true =>
      refine SCall.pure (infs2 ha hb _ hi) ?_
      refine SCond.mk (fun _ => ?_) (fun h => by cases h)
      refine SView.all rfl ?_
      cases hz : (isZ a || isZ b) with
      | true =>
        refine SCall.pure (zs2 ha hb _ hz) ?_
        refine SCond.mk (fun _ => ?_) (fun h => by cases h)
        rw [if_pos (by simp)]
        refine SCall.pureT (wrong_ok) (fun _ => rfl) ?_
        exact SRet.pure (.tup rfl fun i c d e1 e2 => by
          match i, e1, e2 with
          | 0, e1, e2 => cases e1; cases e2; exact .p _ (.int _ _)
          | 1, e1, e2 => cases e1; cases e2; exact .p _ (.int _ _))
      | false =>
        refine SCall.pure (zs2 ha hb _ hz) ?_
        refine SCond.mk (fun h => by cases h) (fun _ => ?_)
        rw [if_neg (by simp), if_pos rfl]
        refine SView.all rfl ?_
        refine SCall.pure (infs2 ha hb _ hi) ?_
        refine SCond.mk (fun _ => ?_) (fun h => by cases h)
        refine SCall.pure (hsg 9218868437227405312 (by omega)) ?_
        exact SRet.pure (.tup rfl fun i c d e1 e2 => by
          match i, e1, e2 with
          | 0, e1, e2 => cases e1; cases e2; exact .p _ (.int _ _)
          | 1, e1, e2 => cases e1; cases e2; exact .p _ (.int _ _))
    | false =>
      refine SCall.pure (infs2 ha hb _ hi) ?_
      refine SCond.mk (fun h => by cases h) (fun _ => ?_)
      rw [if_neg (by simp), if_neg (by simp)]
      refine SView.all rfl ?_
      refine SCall.pure (infs2 ha hb _ hi) ?_
      refine SCond.mk (fun h => by cases h) (fun _ => ?_)
      refine SView.all rfl ?_
      cases hz : (isZ a || isZ b) with
      | true =>
        refine SCall.pure (zs2 ha hb _ hz) ?_
        refine SCond.mk (fun _ => ?_) (fun h => by cases h)
        rw [if_pos rfl]
        refine SCall.pure (hsg 0 (by omega)) ?_
        exact SRet.pure (.tup rfl fun i c d e1 e2 => by
          match i, e1, e2 with
          | 0, e1, e2 => cases e1; cases e2; exact .p _ (.int _ _)
          | 1, e1, e2 => cases e1; cases e2; exact .p _ (.int _ _))
      | false =>
        refine SCall.pure (zs2 ha hb _ hz) ?_
        refine SCond.mk (fun h => by cases h) (fun _ => ?_)
        rw [if_neg (by simp), fvq_mul]
        have e1 := fexp_le (mag_lt a)
        have e2 := fexp_ge (mag a)
        have e3 := fexp_le (mag_lt b)
        have e4 := fexp_ge (mag b)
        have e5 := fsig_bits (mag a)
        have e6 := fsig_bits (mag b)
        have za : fsig (mag a) ≠ 0 := fun h => by have := isZ_iff.2 (fsig_zero.1 h); rw [this] at hz; simp at hz
        have zb : fsig (mag b) ≠ 0 := fun h => by have := isZ_iff.2 (fsig_zero.1 h); rw [this] at hz; simp at hz
        have hbl := bitLen_mul (fsig (mag a)) (fsig (mag b))
        refine SCall.pure (ofnum_ok a ha) ?_
        refine SCall.pure (ofnum_ok b hb) ?_
        refine SCall.pure (product_ok (ngt a) (ngt b) (fsig (mag a)) (fsig (mag b)) (fexp (mag a)) (fexp (mag b)) (by omega) (by omega) (by omega) (by omega)) ?_
        refine SCall.pureT (round_exact (ngt a != ngt b) (fsig (mag a) * fsig (mag b)) (fexp (mag a) + fexp (mag b)) mode (Nat.mul_ne_zero za zb) (by omega) (by omega)) (fun _ => rfl) ?_
        exact SRet.pure (.tup rfl fun i c d e1 e2 => by
          match i, e1, e2 with
          | 0, e1, e2 => cases e1; cases e2; exact .p _ (.int _ _)
          | 1, e1, e2 => cases e1; cases e2; exact .p _ (.int _ _))
end Go.Proofs.YtacklcbgkigcaaaGreat

/- Floats: quotients; whole roots; what a root is. -/
namespace Go.Proofs.YtacklcbgkigcaaaGreat
open Go
set_option linter.unusedVariables false
set_option linter.unusedSimpArgs false
set_option maxRecDepth 10000

theorem fvq_div {a b : Nat} (hb : fsig (mag b) ≠ 0) : fvq a / fvq b = sval (ngt a != ngt b) ((fsig (mag a) : Rat) / (fsig (mag b) : Rat) * p2 (fexp (mag a) - fexp (mag b))) := by
  rw [fvq_sval, fvq_sval]
  have h1 := pos_q hb
  have h2 := p2_pos (fexp (mag b))
  have h3 : p2 (fexp (mag a)) = p2 (fexp (mag a) - fexp (mag b)) * p2 (fexp (mag b)) := by rw [← p2_add]; congr 1; omega
  rw [h3]
  generalize p2 (fexp (mag a) - fexp (mag b)) = u
  generalize p2 (fexp (mag b)) = w at *
  generalize (fsig (mag a) : Rat) = x
  generalize (fsig (mag b) : Rat) = y at *
  unfold sval
  cases ngt a <;> cases ngt b <;> simp <;> grind
theorem sfdiv_ok (a b : Nat) (mode : Int) (ha : a < 18446744073709551616) (hb : b < 18446744073709551616) : CallP Tryz.prog 89 [.int .u64 a, .int .u64 b, .int .i64 mode] (fpair (divF a b mode)) [] := by
  refine callG_of_vc (wr := wr0) Γok mixed Tryz.func89 (by kernel_rfl) rfl (by kernel_rfl) (le_of_ble rfl) (by simp) ?_
  unfold divF
  refine SCall.pure (below_ok a ha _ rfl) ?_
  refine SCall.pure (below_ok b hb _ rfl) ?_
  refine SCmp.sym ?_
  have hsg : ∀ c : Nat, c < 9223372036854775808 → CallP Tryz.prog 127 [.int .u64 c, .bool (!(ngt a == ngt b))] (.p (.int .u64 (sg (ngt a != ngt b) c))) [] := fun c hc => signed_ok c hc _
  refine SView.all rfl ?_
  cases hn : (isNan a || isNan b) with
  | true =>
    refine SCall.pure (nans2 ha hb _ hn) ?_
    refine SCond.mk (fun _ => ?_) (fun h => by cases h)
    exact SRet.pure (.tup rfl fun i c d e1 e2 => by
      match i, e1, e2 with
      | 0, e1, e2 => cases e1; cases e2; exact .p _ (.int _ _)
      | 1, e1, e2 => cases e1; cases e2; exact .p _ (.int _ _))
  | false =>
    refine SCall.pure (nans2 ha hb _ hn) ?_
    refine SCond.mk (fun h => by cases h) (fun _ => ?_)
    rw [if_neg Bool.false_ne_true]
    cases hia : isInf a with
    | true =>
      have hza : isZ a = false := by unfold isInf at hia; unfold isZ; have := of_decide_eq_true hia; exact decide_eq_false (by omega)
      refine SCall.pure (infinite_ok a ha _ hia) ?_
      refine SCond.mk (fun _ => ?_) (fun h => by cases h)
      cases hib : isInf b with
      | true =>
        refine SCall.pure (infinite_ok b hb _ hib) ?_
        refine SCond.mk (fun _ => ?_) (fun h => by cases h)
        rw [if_pos (by simp)]
        refine SCall.pureT (wrong_ok) (fun _ => rfl) ?_
        exact SRet.pure (.tup rfl fun i c d e1 e2 => by
          match i, e1, e2 with
          | 0, e1, e2 => cases e1; cases e2; exact .p _ (.int _ _)
          | 1, e1, e2 => cases e1; cases e2; exact .p _ (.int _ _))
      | false =>
        refine SCall.pure (infinite_ok b hb _ hib) ?_
        refine SCond.mk (fun h => by cases h) (fun _ => ?_)
        refine SCall.pure (nought_ok a ha _ hza) ?_
        refine SCond.mk (fun h => by cases h) (fun _ => ?_)
        rw [if_neg (by simp [hza]), if_pos rfl]
        refine SCall.pure (infinite_ok a ha _ hia) ?_
        refine SCond.mk (fun _ => ?_) (fun h => by cases h)
        refine SCall.pure (hsg 9218868437227405312 (by omega)) ?_
        exact SRet.pure (.tup rfl fun i c d e1 e2 => by
          match i, e1, e2 with
          | 0, e1, e2 => cases e1; cases e2; exact .p _ (.int _ _)
          | 1, e1, e2 => cases e1; cases e2; exact .p _ (.int _ _))
    | false =>
      refine SCall.pure (infinite_ok a ha _ hia) ?_
      refine SCond.mk (fun h => by cases h) (fun _ => ?_)
      cases hza : isZ a with
      | true =>
        refine SCall.pure (nought_ok a ha _ hza) ?_
        refine SCond.mk (fun _ => ?_) (fun h => by cases h)
        cases hzb : isZ b with
        | true =>
          refine SCall.pure (nought_ok b hb _ hzb) ?_
          refine SCond.mk (fun _ => ?_) (fun h => by cases h)
          rw [if_pos (by simp)]
          refine SCall.pureT (wrong_ok) (fun _ => rfl) ?_
          exact SRet.pure (.tup rfl fun i c d e1 e2 => by
            match i, e1, e2 with
            | 0, e1, e2 => cases e1; cases e2; exact .p _ (.int _ _)
            | 1, e1, e2 => cases e1; cases e2; exact .p _ (.int _ _))
        | false =>
          refine SCall.pure (nought_ok b hb _ hzb) ?_
          refine SCond.mk (fun h => by cases h) (fun _ => ?_)
          rw [if_neg (by simp), if_neg (by simp), if_neg (by simp), if_pos (by simp)]
          refine SCall.pure (infinite_ok a ha _ hia) ?_
          refine SCond.mk (fun h => by cases h) (fun _ => ?_)
          refine SCall.pure (nought_ok b hb _ hzb) ?_
          refine SCond.mk (fun h => by cases h) (fun _ => ?_)
          cases hib : isInf b with
          | true =>
            refine SCall.pure (infinite_ok b hb _ hib) ?_
            refine SCond.mk (fun _ => ?_) (fun h => by cases h)
            refine SCall.pure (hsg 0 (by omega)) ?_
            exact SRet.pure (.tup rfl fun i c d e1 e2 => by
              match i, e1, e2 with
              | 0, e1, e2 => cases e1; cases e2; exact .p _ (.int _ _)
              | 1, e1, e2 => cases e1; cases e2; exact .p _ (.int _ _))
          | false =>
            refine SCall.pure (infinite_ok b hb _ hib) ?_
            refine SCond.mk (fun h => by cases h) (fun _ => ?_)
            refine SCall.pure (nought_ok a ha _ hza) ?_
            refine SCond.mk (fun _ => ?_) (fun h => by cases h)
            refine SCall.pure (hsg 0 (by omega)) ?_
            exact SRet.pure (.tup rfl fun i c d e1 e2 => by
              match i, e1, e2 with
              | 0, e1, e2 => cases e1; cases e2; exact .p _ (.int _ _)
              | 1, e1, e2 => cases e1; cases e2; exact .p _ (.int _ _))
      | false =>
        refine SCall.pure (nought_ok a ha _ hza) ?_
        refine SCond.mk (fun h => by cases h) (fun _ => ?_)
        rw [if_neg (by simp), if_neg (by simp)]
        refine SCall.pure (infinite_ok a ha _ hia) ?_
        refine SCond.mk (fun h => by cases h) (fun _ => ?_)
        cases hzb : isZ b with
        | true =>
          refine SCall.pure (nought_ok b hb _ hzb) ?_
          refine SCond.mk (fun _ => ?_) (fun h => by cases h)
          rw [if_pos rfl]
          refine SCall.pure (hsg 9218868437227405312 (by omega)) ?_
          exact SRet.pure (.tup rfl fun i c d e1 e2 => by
            match i, e1, e2 with
            | 0, e1, e2 => cases e1; cases e2; exact .p _ (.int _ _)
            | 1, e1, e2 => cases e1; cases e2; exact .p _ (.int _ _))
        | false =>
          refine SCall.pure (nought_ok b hb _ hzb) ?_
          refine SCond.mk (fun h => by cases h) (fun _ => ?_)
          rw [if_neg (by simp)]
          cases hib : isInf b with
          | true =>
            refine SCall.pure (infinite_ok b hb _ hib) ?_
            refine SCond.mk (fun _ => ?_) (fun h => by cases h)
            rw [if_pos (by simp)]
            refine SCall.pure (hsg 0 (by omega)) ?_
            exact SRet.pure (.tup rfl fun i c d e1 e2 => by
              match i, e1, e2 with
              | 0, e1, e2 => cases e1; cases e2; exact .p _ (.int _ _)
              | 1, e1, e2 => cases e1; cases e2; exact .p _ (.int _ _))
          | false =>
            refine SCall.pure (infinite_ok b hb _ hib) ?_
            refine SCond.mk (fun h => by cases h) (fun _ => ?_)
            refine SCall.pure (nought_ok a ha _ hza) ?_
            refine SCond.mk (fun h => by cases h) (fun _ => ?_)
            rw [if_neg (by simp)]
            have e1 := fexp_le (mag_lt a)
            have e2 := fexp_ge (mag a)
            have e3 := fexp_le (mag_lt b)
            have e4 := fexp_ge (mag b)
            have e5 := fsig_bits (mag a)
            have e6 := fsig_bits (mag b)
            have za : fsig (mag a) ≠ 0 := fun h => by have := isZ_iff.2 (fsig_zero.1 h); rw [this] at hza; cases hza
            have zb : fsig (mag b) ≠ 0 := fun h => by have := isZ_iff.2 (fsig_zero.1 h); rw [this] at hzb; cases hzb
            refine SCall.pure (ofnum_ok a ha) ?_
            refine SCall.pure (ofnum_ok b hb) ?_
            refine SWrap.i64z (fexp (mag a) - fexp (mag b)) rfl (by omega) ?_
            have hov := fover_ok (ngt a != ngt b) false false (fsig (mag a)) (fsig (mag b)) (fexp (mag a) - fexp (mag b)) zb (by omega) (by omega) (by omega) rfl
            have hrd := round_over (ngt a != ngt b) (fsig (mag a)) (fsig (mag b)) (fexp (mag a) - fexp (mag b)) mode za zb (by omega) (by omega) (by omega) rfl
            have hpos : (0 : Rat) < (fsig (mag a) : Rat) / (fsig (mag b) : Rat) * p2 (fexp (mag a) - fexp (mag b)) := by
              refine mul_pos_q ?_ (p2_pos _)
              have h1 := div_mul_q (n := fsig (mag a)) zb
              refine lt_of_mul (c := (fsig (mag b) : Rat)) ?_ (pos_q zb)
              rw [h1]
              have := pos_q za
              grind
            rw [fvq_div zb, rS_sval hpos]
            refine SCall.pure (hov) ?_
            refine SCall.pureT (hrd) (fun _ => rfl) ?_
            exact SRet.pure (.tup rfl fun i c d e1 e2 => by
              match i, e1, e2 with
              | 0, e1, e2 => cases e1; cases e2; exact .p _ (.int _ _)
              | 1, e1, e2 => cases e1; cases e2; exact .p _ (.int _ _))

/-! #### whole roots -/
def IsSq (a r : Nat) : Prop := r * r ≤ a ∧ a < (r + 1) * (r + 1)
theorem sq_lt {a b : Nat} : a * a < b * b ↔ a < b := ⟨fun h => by
  rcases Nat.lt_or_ge a b with h1 | h1
  · exact h1
  · have := Nat.mul_le_mul h1 h1; omega, fun h => Nat.mul_lt_mul'' h h⟩
theorem sq_le {a b : Nat} : a * a ≤ b * b ↔ a ≤ b := by rw [← Nat.not_lt, sq_lt]; omega
theorem IsSq.le {a r n : Nat} (h : IsSq a r) : n * n ≤ a ↔ n ≤ r := by
  constructor
  · intro h1
    have := sq_lt.1 (Nat.lt_of_le_of_lt h1 h.2)
    omega
  · intro h1
    exact Nat.le_trans (sq_le.2 h1) h.1
theorem IsSq.uniq {a r s : Nat} (h : IsSq a r) (h' : IsSq a s) : r = s := by
  have h1 := h.le.1 h'.1
  have h2 := h'.le.1 h.1
  omega
theorem exists_sq (a : Nat) : ∃ r, IsSq a r := by
  obtain ⟨r, h1, h2⟩ := find_step (fun r => r * r ≤ a) (Nat.zero_le _) (a + 1) (by
    show ¬ (a + 1) * (a + 1) ≤ a
    have : (a + 1) * 1 ≤ (a + 1) * (a + 1) := Nat.mul_le_mul_left _ (by omega)
    omega)
  exact ⟨r, h1, Nat.not_le.1 h2⟩
theorem newton {a r : Nat} (hr : r ≠ 0) (h : a < (r + 1) * (r + 1)) : a < ((r + a / r) / 2 + 1) * ((r + a / r) / 2 + 1) := by
  obtain ⟨q, hq⟩ : ∃ q, q = a / r := ⟨_, rfl⟩
  obtain ⟨n, hn⟩ : ∃ n, n = (r + q) / 2 := ⟨_, rfl⟩
  have h1 : a < r * (q + 1) := by
    have := Nat.lt_mul_div_succ a (show 0 < r by omega)
    rwa [← hq] at this
  rw [← hq, ← hn]
  have h2 : r + q + 1 ≤ 2 * (n + 1) := by omega
  have h3 := Nat.mul_le_mul h2 h2
  have h4 : 4 * (r * (q + 1)) ≤ (r + q + 1) * (r + q + 1) := by
    rcases Nat.le_total r (q + 1) with h5 | h5
    · obtain ⟨d, hd⟩ : ∃ d, q + 1 = r + d := ⟨q + 1 - r, by omega⟩
      rw [show r + q + 1 = 2 * r + d by omega, hd]
      have : (2 * r + d) * (2 * r + d) = 4 * (r * (r + d)) + d * d := by grind
      omega
    · obtain ⟨d, hd⟩ : ∃ d, r = q + 1 + d := ⟨r - (q + 1), by omega⟩
      rw [show r + q + 1 = 2 * (q + 1) + d by omega, hd]
      have : (2 * (q + 1) + d) * (2 * (q + 1) + d) = 4 * ((q + 1 + d) * (q + 1)) + d * d := by grind
      omega
  have h6 : (2 * (n + 1)) * (2 * (n + 1)) = 4 * ((n + 1) * (n + 1)) := by grind
  omega
/-! #### the root of a number -/
def IsCS (X : Rat) (c : Nat) : Prop := fval c * fval c ≤ X ∧ X < fval (c + 1) * fval (c + 1)
theorem sqq_lt {a b : Rat} (ha : 0 ≤ a) (hb : 0 ≤ b) (h : a * a < b * b) : a < b := by
  by_cases h2 : a < b
  · exact h2
  · have h3 := Rat.mul_nonneg (show 0 ≤ a - b by grind) (show 0 ≤ a + b by grind)
    grind
theorem IsCS.uniq {X : Rat} {a b : Nat} (ha : IsCS X a) (hb : IsCS X b) : a = b := by
  have h1 : fval a < fval (b + 1) := sqq_lt (fval_nonneg _) (fval_nonneg _) (by have := ha.1; have := hb.2; grind)
  have h2 : fval b < fval (a + 1) := sqq_lt (fval_nonneg _) (fval_nonneg _) (by have := hb.1; have := ha.2; grind)
  rw [fval_lt] at h1 h2
  omega
open Classical in
noncomputable def cS (X : Rat) : Nat := if h : ∃ c, IsCS X c then h.choose else 0
theorem cS_eq {X : Rat} {c : Nat} (h : IsCS X c) : cS X = c := by
  unfold cS
  have h1 : ∃ c, IsCS X c := ⟨c, h⟩
  rw [dif_pos h1]
  exact h1.choose_spec.uniq h
noncomputable def sqrtQ (X : Rat) (mode : Int) : Nat × Int :=
  out false (cS X) (decide (fval (cS X) * fval (cS X) ≠ X)) (cmpR (4 * X) ((fval (cS X) + fval (cS X + 1)) * (fval (cS X) + fval (cS X + 1)))) mode
noncomputable def sqrtF (f : Nat) (mode : Int) : Nat × Int :=
  if isNan f then (9221120237041090560, 0) else if isZ f then (f, 0) else if ngt f then (9221120237041090560, 16) else if isInf f then (f, 0) else sqrtQ (fvq f) mode

/-- A root's middle: its whole part, and a half where it isn't whole. -/
def theta (a r : Nat) : Rat := if r * r = a then 0 else 1 / 2
theorem theta_le {a r N : Nat} (h : IsSq a r) : (N : Rat) ≤ (r : Rat) + theta a r ↔ N * N ≤ a := by
  rw [h.le]
  have ht : 0 ≤ theta a r ∧ theta a r < 1 := by unfold theta; split <;> constructor <;> grind
  constructor
  · intro h1
    have : (N : Rat) < ((r + 1 : Nat) : Rat) := by rw [Rat.natCast_add]; show _ < (r : Rat) + 1; grind
    have := natq_lt.1 this
    omega
  · intro h1
    have := natq_le.2 h1
    grind
theorem theta_lt {a r N : Nat} (h : IsSq a r) : (N : Rat) < (r : Rat) + theta a r ↔ N * N < a := by
  constructor
  · intro h1
    have h2 := (theta_le h).1 (show (N : Rat) ≤ _ by grind)
    rcases Nat.lt_or_ge (N * N) a with h3 | h3
    · exact h3
    · exfalso
      have h4 : N * N = a := by omega
      have h5 : N = r := IsSq.uniq ⟨by omega, by rw [← h4]; exact sq_lt.2 (by omega)⟩ h
      subst h5
      rw [theta, if_pos h4] at h1
      grind
  · intro h1
    have h2 := h.le.1 (show N * N ≤ a by omega)
    rcases Nat.lt_or_ge N r with h3 | h3
    · have h4 : ((N + 1 : Nat) : Rat) ≤ (r : Rat) := natq_le.2 h3
      rw [Rat.natCast_add] at h4
      have ht : 0 ≤ theta a r := by unfold theta; split <;> grind
      have h4 : (N : Rat) + 1 ≤ (r : Rat) := h4
      grind
    · have h4 : N = r := by omega
      subst h4
      rw [theta, if_neg (by omega)]
      grind
theorem sq_cut {a r : Nat} {e : Int} (h : IsSq a r) (hbig : 54 ≤ bitLen r) (mode : Int) : rndQ false (((r : Rat) + theta a r) * p2 e) mode = sqrtQ ((a : Rat) * p2 (e + e)) mode := by
  have hg := p2_pos e
  have ht : 0 ≤ theta a r ∧ theta a r < 1 := by unfold theta; split <;> constructor <;> grind
  have hr0 : (0 : Rat) ≤ (r : Rat) := by exact_mod_cast Nat.zero_le r
  obtain ⟨s, hs⟩ : ∃ s, s = (r : Rat) + theta a r := ⟨_, rfl⟩
  have hle : ∀ N : Nat, (N : Rat) ≤ s ↔ N * N ≤ a := fun N => by rw [hs]; exact theta_le h
  have hlt : ∀ N : Nat, (N : Rat) < s ↔ N * N < a := fun N => by rw [hs]; exact theta_lt h
  rw [← hs]
  have hX0 : 0 ≤ s * p2 e := Rat.mul_nonneg (by grind) (by grind)
  obtain ⟨c, hc⟩ : ∃ c, c = cd (s * p2 e) := ⟨_, rfl⟩
  have hcd := cd_is hX0
  rw [← hc] at hcd
  have hsucc := fval_succ c
  -- the code's own power of two is greater
  have hexp : e < fexp c := by
    rcases Int.lt_or_le e (fexp c) with h1 | h1
    · exact h1
    · exfalso
      have h2 := p2_mono h1
      have h3 : ((fsig c + 1 : Nat) : Rat) ≤ ((9007199254740992 : Nat) : Rat) := natq_le.2 (fsig_lt c)
      have h4 : ((9007199254740992 : Nat) : Rat) ≤ (r : Rat) := natq_le.2 (by
        have := bitLen_pos (n := r) (by intro h; rw [h] at hbig; simp [bitLen] at hbig)
        have h5 : 2 ^ 53 ≤ 2 ^ (bitLen r - 1) := Nat.pow_le_pow_right (by omega) (by omega)
        have h6 : 2 ^ 53 = 9007199254740992 := by decide
        omega)
      have h5 : fval (c + 1) = ((fsig c + 1 : Nat) : Rat) * p2 (fexp c) := by rw [hsucc, fval, Rat.natCast_add]; show _ = ((fsig c : Rat) + 1) * _; grind
      have h6 := mul_le_q h3 (p2_pos (fexp c))
      have h7 : ((9007199254740992 : Nat) : Rat) * p2 (fexp c) ≤ ((9007199254740992 : Nat) : Rat) * p2 e := by
        have := Rat.mul_nonneg (show (0 : Rat) ≤ ((9007199254740992 : Nat) : Rat) by exact_mod_cast Nat.zero_le _) (show 0 ≤ p2 e - p2 (fexp c) by grind)
        grind
      have h8 : ((9007199254740992 : Nat) : Rat) * p2 e ≤ s * p2 e := mul_le_q (by grind) hg
      have := hcd.2
      grind
  obtain ⟨j, hj⟩ : ∃ j : Nat, fexp c = e + 1 + j := ⟨(fexp c - e - 1).toNat, by omega⟩
  obtain ⟨U, hU⟩ : ∃ U, U = 2 ^ j := ⟨_, rfl⟩
  have hu : p2 (fexp c) = 2 * (U : Rat) * p2 e := by
    rw [hj, p2_add_nat, p2_succ, ← hU]; grind
  obtain ⟨N, hN⟩ : ∃ N, N = fsig c * (2 * U) := ⟨_, rfl⟩
  have v1 : fval c = (N : Rat) * p2 e := by
    rw [fval, hu, hN, Rat.natCast_mul, Rat.natCast_mul]
    show _ = (fsig c : Rat) * (2 * (U : Rat)) * p2 e
    grind
  have v2 : fval (c + 1) = ((N + 2 * U : Nat) : Rat) * p2 e := by
    rw [hsucc, hu, v1, Rat.natCast_add, Rat.natCast_mul]
    show _ = ((N : Rat) + 2 * (U : Rat)) * p2 e
    grind
  have v3 : fval c + fval (c + 1) = 2 * (((N + U : Nat) : Rat) * p2 e) := by
    rw [v1, v2, Rat.natCast_add, Rat.natCast_add, Rat.natCast_mul]
    show (N : Rat) * p2 e + ((N : Rat) + 2 * (U : Rat)) * p2 e = 2 * (((N : Rat) + (U : Rat)) * p2 e)
    grind
  have mid : ∀ M : Nat, ((M : Rat) * p2 e ≤ s * p2 e ↔ M * M ≤ a) := fun M => ⟨fun h => (hle M).1 (le_of_mul h hg), fun h => mul_le_q ((hle M).2 h) hg⟩
  have mid2 : ∀ M : Nat, ((M : Rat) * p2 e < s * p2 e ↔ M * M < a) := fun M => ⟨fun h => (hlt M).1 (lt_of_mul h hg), fun h => mul_lt_q ((hlt M).2 h) hg⟩
  have hgg : p2 (e + e) = p2 e * p2 e := p2_add e e
  have hgp : 0 < p2 (e + e) := p2_pos _
  have sq : ∀ M : Nat, ((M : Rat) * p2 e) * ((M : Rat) * p2 e) = ((M * M : Nat) : Rat) * p2 (e + e) := fun M => by rw [hgg, Rat.natCast_mul]; grind
  have big : ∀ M : Nat, (((M * M : Nat) : Rat) * p2 (e + e) ≤ (a : Rat) * p2 (e + e) ↔ M * M ≤ a) := fun M => ⟨fun h => natq_le.1 (le_of_mul h hgp), fun h => mul_le_q (natq_le.2 h) hgp⟩
  have big2 : ∀ M : Nat, (((M * M : Nat) : Rat) * p2 (e + e) < (a : Rat) * p2 (e + e) ↔ M * M < a) := fun M => ⟨fun h => natq_lt.1 (lt_of_mul h hgp), fun h => mul_lt_q (natq_lt.2 h) hgp⟩
  have hCS : IsCS ((a : Rat) * p2 (e + e)) c := by
    have g1 := hcd.1
    have g2 := hcd.2
    refine ⟨?_, ?_⟩
    · rw [v1, sq, big, ← mid, ← v1]; exact g1
    · rw [v2, sq, ← Rat.not_le, big, ← mid, ← v2, Rat.not_le]; exact g2
  rw [rndQ, sqrtQ, cS_eq hCS, ← hc]
  congr 1
  · -- exact or not
    have : (fval c = s * p2 e) ↔ (fval c * fval c = (a : Rat) * p2 (e + e)) := by
      rw [v1, sq]
      constructor
      · intro h1
        have g1 := (mid N).1 (by rw [h1]; exact Rat.le_refl)
        have g2 := mt (mid2 N).2 (by rw [h1]; grind)
        rw [show N * N = a by omega]
      · intro h1
        have g1 := (big N).1 (by rw [h1]; exact Rat.le_refl)
        have g2 := mt (big2 N).2 (by rw [h1]; grind)
        have g3 := (mid N).2 g1
        have g4 := mt (mid2 N).1 g2
        grind
    by_cases h1 : fval c = s * p2 e
    · rw [decide_eq_false (fun h => h h1), decide_eq_false (fun h => h (this.1 h1))]
    · rw [decide_eq_true h1, decide_eq_true (mt this.2 h1)]
  · rw [v3]
    have e1 : (2 * (((N + U : Nat) : Rat) * p2 e)) * (2 * (((N + U : Nat) : Rat) * p2 e)) = 4 * ((((N + U) * (N + U) : Nat) : Rat) * p2 (e + e)) := by rw [← sq]; grind
    rw [e1]
    have m1 := mid (N + U)
    have m2 := mid2 (N + U)
    have b1 := big (N + U)
    have b2 := big2 (N + U)
    unfold cmpR
    rcases Nat.lt_trichotomy ((N + U) * (N + U)) a with h1 | h1 | h1
    · have g1 := m2.2 h1
      have g2 := b2.2 h1
      rw [if_neg (by grind), if_pos (by grind), if_neg (by grind), if_pos (by grind)]
    · have g1 := m1.2 (by omega)
      have g2 := mt m2.1 (by omega)
      have g3 := b1.2 (by omega)
      have g4 := mt b2.1 (by omega)
      rw [if_neg (by grind), if_neg (by grind), if_neg (by grind), if_neg (by grind)]
    · have g1 := mt m1.1 (by omega)
      have g2 := mt b1.1 (by omega)
      rw [if_pos (by grind), if_pos (by grind)]
end Go.Proofs.YtacklcbgkigcaaaGreat

/- Floats: Sqrt, Fma. -/
namespace Go.Proofs.YtacklcbgkigcaaaGreat
open Go
set_option linter.unusedVariables false
set_option linter.unusedSimpArgs false
set_option maxRecDepth 10000

theorem and1_i64 (z : Int) : ((BitVec.ofInt (IntKind.bits .i64) z &&& BitVec.ofInt (IntKind.bits .i64) 1).toNat : Int) = z % 2 := by
  have e : (BitVec.ofInt 64 z &&& BitVec.ofInt 64 1).toNat = (z % 2).toNat := by
    rw [BitVec.toNat_and, BitVec.toNat_ofInt, show (BitVec.ofInt 64 1).toNat = 1 by decide, low1]
    show (z % (18446744073709551616 : Int)).toNat % 2 = (z % 2).toNat
    omega
  show ((BitVec.ofInt 64 z &&& BitVec.ofInt 64 1).toNat : Int) = z % 2
  rw [e]; omega
theorem p2_natmul_k (m k : Nat) (e : Int) : (m : Rat) * p2 e = ((m * 2 ^ k : Nat) : Rat) * p2 (e - k) := by
  have := p2_natmul m (e := e) (f := e - k) (by omega)
  rwa [show (e - (e - (k : Int))).toNat = k by omega] at this
theorem tdiv2 (e : Int) : (e + e).tdiv 2 = e := by
  rw [show e + e = 2 * e by omega]; exact Int.mul_tdiv_cancel_left e (by decide)

theorem sqrt_walk {A r k : Nat} {e' : Int} (f : Nat) (hf : f < 9218868437227405312) (hm : fsig (mag f) ≠ 0) (hk : 132 ≤ k ∧ k ≤ 133) (he : fexp (mag f) - k = e' + e') (hA : A = fsig (mag f) * 2 ^ k) (hr : IsSq A r) (mode : Int) :
    CallP Tryz.prog 129 [numP false r e' (decide (r * r ≠ A)), .int .i64 mode] (fpair (sqrtQ ((A : Rat) * p2 (e' + e')) mode)) [] ∧ A ≠ 0 ∧ bitLen A ≤ 200 := by
  have hp66 : (0 : Nat) < 2 ^ 66 := by decide
  have hp132 : (0 : Nat) < 2 ^ 132 := by decide
  have hA1 : 2 ^ 132 ≤ A := by
    rw [hA]
    have h1 : 2 ^ 132 ≤ 2 ^ k := Nat.pow_le_pow_right (by omega) hk.1
    have h2 : 1 * 2 ^ k ≤ fsig (mag f) * 2 ^ k := Nat.mul_le_mul_right _ (by omega)
    omega
  have hA2 : bitLen A ≤ 200 := by rw [hA]; have := bits_shl (fsig (mag f)) k; have := fsig_bits (mag f); omega
  have hr1 : 2 ^ 66 ≤ r := hr.le.1 (by rw [show 2 ^ 66 * 2 ^ 66 = 2 ^ 132 by decide]; exact hA1)
  have hbr : 54 ≤ bitLen r := by
    rcases Nat.lt_or_ge (bitLen r) 54 with h | h
    · have h1 := bitLen_lt r
      have h2 : 2 ^ bitLen r ≤ 2 ^ 66 := Nat.pow_le_pow_right (by omega) (by omega)
      omega
    · exact h
  have hr2 : bitLen r ≤ 200 := by
    have h1 : r ≤ A := by
      have := hr.1
      have h2 : r * 1 ≤ r * r := Nat.mul_le_mul_left _ (by omega)
      omega
    have := bitLen_mono h1
    omega
  have e1 := fexp_le (mag_lt f)
  have e2 := fexp_ge (mag f)
  refine ⟨?_, by omega, hA2⟩
  have hg := p2_pos e'
  have hth : 0 ≤ theta A r ∧ theta A r < 1 := by unfold theta; split <;> constructor <;> grind
  have := round_ok false r e' (decide (r * r ≠ A)) mode (X := ((r : Rat) + theta A r) * p2 e') (by omega) (by omega) (by omega)
    (mul_le_q (by grind) hg) (mul_lt_q (by grind) hg) (by
      unfold theta
      by_cases h : r * r = A
      · rw [if_pos h, decide_eq_false (fun h2 => h2 h), decide_eq_false (by simp; grind)]
      · rw [if_neg h, decide_eq_true h]
        symm
        refine decide_eq_true ?_
        grind) (fun _ => hbr)
  rw [sq_cut hr hbr mode] at this
  exact this

/-- A product and something more. -/
noncomputable def fmaF (a b c : Nat) (mode : Int) : Nat × Int :=
  if isNan a || (isNan b || isNan c) then (9221120237041090560, 0) else if (isInf a || isInf b) && (isZ a || isZ b) then (9221120237041090560, 16)
  else if isInf a || isInf b then (if isInf c && ((ngt a != ngt b) != ngt c) then (9221120237041090560, 16) else (sg (ngt a != ngt b) 9218868437227405312, 0))
  else if isInf c then (c, 0) else sumF (fvq a * fvq b) (ngt a != ngt b) (fvq c) (ngt c) mode
theorem nans3 {a b c : Nat} (ha : a < 18446744073709551616) (hb : b < 18446744073709551616) (hc : c < 18446744073709551616) (r : Bool) (hr : (isNan a || (isNan b || isNan c)) = r) : CallP Tryz.prog 119 [.fn 120 [], .sl true 1 [.int .u64 a, .int .u64 b, .int .u64 c]] (.p (.bool r)) [] :=
  some3_ok _ isNan (fun (x : Nat) hx => nan_ok x hx _ rfl) ha hb hc r hr
end Go.Proofs.YtacklcbgkigcaaaGreat
