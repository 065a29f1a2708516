/- Floats: Add, Sub, Mul, Div. -/
import Derived.Test.YtjcmiedpgabdbaaSg1
namespace Go.Proofs.Ytjcmiedpgabdbaa
open Go
set_option linter.unusedVariables false
set_option linter.unusedSimpArgs false
set_option maxRecDepth 10000

abbrev u64s (l : List Nat) : List PV := l.map fun (x : Nat) => .int .u64 x
theorem SIdx.ub {l : List Nat} {i : Int} {K : Nat → PV → Prop} (j : Nat) (hi : i = j) (hj : j < l.length) (hk : K j (.int .u64 ((l.getD j 0 : Nat) : Int))) : SIdx (u64s l) i K :=
  .mk j _ hi (by simp [List.getElem?_map, List.getElem?_eq_getElem hj, List.getD]) hk
theorem any_take {p : Nat → Bool} {l : List Nat} {i : Nat} (hi : i < l.length) : (l.take (i + 1)).any p = ((l.take i).any p || p (l.getD i 0)) := by
  rw [List.take_add_one, List.any_append, List.getElem?_eq_getElem hi]; simp [List.getD, List.getElem?_eq_getElem hi]
theorem any_of {p : Nat → Bool} {l : List Nat} {i : Nat} (hi : i < l.length) (h : p (l.getD i 0) = true) : l.any p = true := by
  rw [List.any_eq_true]
  exact ⟨l.getD i 0, by simp [List.getD, List.getElem?_eq_getElem hi], h⟩
theorem some_ok (f : FuncId) (p : Nat → Bool) (hp : ∀ x : Nat, x < 18446744073709551616 → CallP Try.prog f [.int .u64 x] (.p (.bool (p x))) []) (m : Bool) (l : List Nat) (hl : ∀ x ∈ l, x < 18446744073709551616) (hn : l.length ≤ 100) :
    CallP Try.prog 96 [.fn f [], .sl m 1 (u64s l)] (.p (.bool (l.any p))) [] := by
  refine callG_of_vc (wr := wr0) Γok mixed Try.func96 (by kernel_rfl) rfl (by kernel_rfl) (le_of_ble rfl) (by simp) ?_
  refine SZ.mk (l.length : Int) (by simp) ?_
  refine SLoop.mk Nat (fun i => ([(0, .p (.fn f [])), (7, .p (.sl m 1 (u64s l))), (8, .p (.int .i64 l.length)), (9, .p (.int .i64 i))], [])) (fun i => i ≤ l.length ∧ (l.take i).any p = false) (fun i => l.length - i) 0 []
    ⟨Nat.zero_le _, by simp⟩ ⟨rfl, .nil, rfl, rfl, rfl, ⟨rfl, rfl, rfl, rfl, trivial⟩, trivial⟩ ?_
  intro i ⟨h1, h2⟩
  have h1 : i ≤ l.length := h1
  by_cases hi : i < l.length
  · refine SCmp.yes (decide_eq_true (by omega)) ?_
    refine SIdx.ub i rfl hi ?_
    have hx : l.getD i 0 < 18446744073709551616 := hl _ (by simp [List.getD, List.getElem?_eq_getElem hi])
    refine SCall.pure (hp _ hx) ?_
    refine SCond.mk (fun h => ?_) (fun h => ?_)
    · rw [any_of hi h]
      exact SRet.pure (.tf _)
    · refine SWrap.i64z ((i + 1 : Nat) : Int) (by omega) (by omega) ?_
      exact ⟨i + 1, [], ⟨hi, by rw [any_take hi, h2, h]; rfl⟩, by show l.length - (i + 1) < l.length - i; omega, ⟨rfl, .nil, rfl, rfl, rfl, ⟨rfl, rfl, rfl, rfl, trivial⟩, trivial⟩⟩
  · refine SCmp.no (decide_eq_false (by omega)) ?_
    rw [show l.any p = false by rw [← h2, List.take_of_length_le (by omega)]]
    exact SRet.pure (.tf _)
theorem some2_ok (f : FuncId) (p : Nat → Bool) (hp : ∀ x : Nat, x < 18446744073709551616 → CallP Try.prog f [.int .u64 x] (.p (.bool (p x))) []) {a b : Nat} (ha : a < 18446744073709551616) (hb : b < 18446744073709551616) (r : Bool) (hr : (p a || p b) = r) :
    CallP Try.prog 96 [.fn f [], .sl true 1 [.int .u64 a, .int .u64 b]] (.p (.bool r)) [] := by
  have := some_ok f p hp true [a, b] (by simp [ha, hb]) (by simp)
  rwa [show [a, b].any p = r by rw [← hr]; simp] at this
theorem some3_ok (f : FuncId) (p : Nat → Bool) (hp : ∀ x : Nat, x < 18446744073709551616 → CallP Try.prog f [.int .u64 x] (.p (.bool (p x))) []) {a b c : Nat} (ha : a < 18446744073709551616) (hb : b < 18446744073709551616) (hc : c < 18446744073709551616) (r : Bool) (hr : (p a || (p b || p c)) = r) :
    CallP Try.prog 96 [.fn f [], .sl true 1 [.int .u64 a, .int .u64 b, .int .u64 c]] (.p (.bool r)) [] := by
  have := some_ok f p hp true [a, b, c] (by simp [ha, hb, hc]) (by simp)
  rwa [show [a, b, c].any p = r by rw [← hr]; simp] at this
theorem nans2 {a b : Nat} (ha : a < 18446744073709551616) (hb : b < 18446744073709551616) (r : Bool) (hr : (isNan a || isNan b) = r) : CallP Try.prog 96 [.fn 84 [], .sl true 1 [.int .u64 a, .int .u64 b]] (.p (.bool r)) [] :=
  some2_ok _ isNan (fun (x : Nat) hx => nan_ok x hx _ rfl) ha hb r hr
theorem infs2 {a b : Nat} (ha : a < 18446744073709551616) (hb : b < 18446744073709551616) (r : Bool) (hr : (isInf a || isInf b) = r) : CallP Try.prog 96 [.fn 87 [], .sl true 1 [.int .u64 a, .int .u64 b]] (.p (.bool r)) [] :=
  some2_ok _ isInf (fun (x : Nat) hx => infinite_ok x hx _ rfl) ha hb r hr
theorem zs2 {a b : Nat} (ha : a < 18446744073709551616) (hb : b < 18446744073709551616) (r : Bool) (hr : (isZ a || isZ b) = r) : CallP Try.prog 96 [.fn 85 [], .sl true 1 [.int .u64 a, .int .u64 b]] (.p (.bool r)) [] :=
  some2_ok _ isZ (fun (x : Nat) hx => nought_ok x hx _ rfl) ha hb r hr

theorem sfadd_ok (a b : Nat) (mode : Int) (ha : a < 18446744073709551616) (hb : b < 18446744073709551616) : CallP Try.prog 41 [.int .u64 a, .int .u64 b, .int .i64 mode] (fpair (addF a b mode)) [] := by
  refine callG_of_vc (wr := wr0) Γok mixed Try.func41 (by kernel_rfl) rfl (by kernel_rfl) (le_of_ble rfl) (by simp) ?_
  unfold addF
  refine SView.all rfl ?_
  cases hn : (isNan a || isNan b) with
  | true =>
    refine SCall.pure (nans2 ha hb _ hn) ?_
    refine SCond.mk (fun _ => ?_) (fun h => by cases h)
    exact SRet.pure (.tup rfl fun i c d e1 e2 => by
      match i, e1, e2 with
      | 0, e1, e2 => cases e1; cases e2; exact .p _ (.int _ _)
      | 1, e1, e2 => cases e1; cases e2; exact .p _ (.int _ _))
  | false =>
    refine SCall.pure (nans2 ha hb _ hn) ?_
    refine SCond.mk (fun h => by cases h) (fun _ => ?_)
    rw [if_neg Bool.false_ne_true]
    cases hia : isInf a with
    | true =>
      refine SCall.pure (infinite_ok a ha _ hia) ?_
      refine SCond.mk (fun _ => ?_) (fun h => by cases h)
      cases hib : isInf b with
      | true =>
        refine SCall.pure (infinite_ok b hb _ hib) ?_
        refine SCond.mk (fun _ => ?_) (fun h => by cases h)
        by_cases he : a = b
        · refine SCmp.no (neF (by omega)) ?_
          rw [if_neg (by simp [he])]
          refine SCall.pure (infinite_ok a ha _ hia) ?_
          refine SCond.mk (fun _ => ?_) (fun h => by cases h)
          exact SRet.pure (.tup rfl fun i c d e1 e2 => by
            match i, e1, e2 with
            | 0, e1, e2 => cases e1; cases e2; exact .p _ (.int _ _)
            | 1, e1, e2 => cases e1; cases e2; exact .p _ (.int _ _))
        · refine SCmp.yes (neT (by omega)) ?_
          rw [if_pos (by simp [he])]
          refine SCall.pureT (wrong_ok) (fun _ => rfl) ?_
          exact SRet.pure (.tup rfl fun i c d e1 e2 => by
            match i, e1, e2 with
            | 0, e1, e2 => cases e1; cases e2; exact .p _ (.int _ _)
            | 1, e1, e2 => cases e1; cases e2; exact .p _ (.int _ _))
      | false =>
        refine SCall.pure (infinite_ok b hb _ hib) ?_
        refine SCond.mk (fun h => by cases h) (fun _ => ?_)
        rw [if_neg (by simp)]
        refine SCall.pure (infinite_ok a ha _ hia) ?_
        refine SCond.mk (fun _ => ?_) (fun h => by cases h)
        exact SRet.pure (.tup rfl fun i c d e1 e2 => by
          match i, e1, e2 with
          | 0, e1, e2 => cases e1; cases e2; exact .p _ (.int _ _)
          | 1, e1, e2 => cases e1; cases e2; exact .p _ (.int _ _))
    | false =>
      refine SCall.pure (infinite_ok a ha _ hia) ?_
      refine SCond.mk (fun h => by cases h) (fun _ => ?_)
      rw [if_neg (by simp), if_neg (by simp)]
      refine SCall.pure (infinite_ok a ha _ hia) ?_
      refine SCond.mk (fun h => by cases h) (fun _ => ?_)
      cases hib : isInf b with
      | true =>
        refine SCall.pure (infinite_ok b hb _ hib) ?_
        refine SCond.mk (fun _ => ?_) (fun h => by cases h)
        exact SRet.pure (.tup rfl fun i c d e1 e2 => by
          match i, e1, e2 with
          | 0, e1, e2 => cases e1; cases e2; exact .p _ (.int _ _)
          | 1, e1, e2 => cases e1; cases e2; exact .p _ (.int _ _))
      | false =>
        refine SCall.pure (infinite_ok b hb _ hib) ?_
        refine SCond.mk (fun h => by cases h) (fun _ => ?_)
        rw [if_neg (by simp)]
        refine SCall.pure (ofnum_ok a ha) ?_
        refine SCall.pure (ofnum_ok b hb) ?_
        have e1 := fexp_le (mag_lt a)
        have e2 := fexp_ge (mag a)
        have e3 := fexp_le (mag_lt b)
        have e4 := fexp_ge (mag b)
        have e5 := fsig_bits (mag a)
        have e6 := fsig_bits (mag b)
        refine SCall.pureT (added_ok (ngt a) (ngt b) (fsig (mag a)) (fsig (mag b)) (fexp (mag a)) (fexp (mag b)) mode (by omega) (by omega) (by omega) (by omega)) (fun _ => rfl) ?_
        exact SRet.pure (.tup rfl fun i c d e1 e2 => by
          match i, e1, e2 with
          | 0, e1, e2 => cases e1; cases e2; exact .p _ (.int _ _)
          | 1, e1, e2 => cases e1; cases e2; exact .p _ (.int _ _))
theorem flip_mod {b : Nat} (hb : b < 18446744073709551616) : flip b % 9223372036854775808 = b % 9223372036854775808 := by unfold flip; split <;> omega
theorem isNan_flip {b : Nat} (hb : b < 18446744073709551616) : isNan (flip b) = isNan b := by
  unfold isNan; rw [flip_mod hb]
/-- What is left, of floats. -/
noncomputable def subF (a b : Nat) (mode : Int) : Nat × Int := addF a (flip b) mode
theorem sfsub_ok (a b : Nat) (mode : Int) (ha : a < 18446744073709551616) (hb : b < 18446744073709551616) : CallP Try.prog 53 [.int .u64 a, .int .u64 b, .int .i64 mode] (fpair (subF a b mode)) [] := by
  refine callG_of_vc (wr := wr0) Γok mixed Try.func53 (by kernel_rfl) rfl (by kernel_rfl) (le_of_ble rfl) (by simp) ?_
  cases hn : isNan b with
  | true =>
    refine SCall.pure (nan_ok b hb _ hn) ?_
    refine SCond.mk (fun _ => ?_) (fun h => by cases h)
    rw [subF, addF, isNan_flip hb, hn, if_pos (by simp)]
    exact SRet.pure (.tup rfl fun i c d e1 e2 => by
      match i, e1, e2 with
      | 0, e1, e2 => cases e1; cases e2; exact .p _ (.int _ _)
      | 1, e1, e2 => cases e1; cases e2; exact .p _ (.int _ _))
  | false =>
    refine SCall.pure (nan_ok b hb _ hn) ?_
    refine SCond.mk (fun h => by cases h) (fun _ => ?_)
    refine SWrap.turn b rfl rfl hb ?_
    refine SCall.pureT (sfadd_ok a (flip b) mode ha (flip_lt hb)) (fun _ => rfl) ?_
    exact SRet.pure (.tup rfl fun i c d e1 e2 => by
      match i, e1, e2 with
      | 0, e1, e2 => cases e1; cases e2; exact .p _ (.int _ _)
      | 1, e1, e2 => cases e1; cases e2; exact .p _ (.int _ _))

theorem isZ_iff {f : Nat} : isZ f = true ↔ mag f = 0 := by unfold isZ mag; simp
theorem fsig_zero {c : Nat} : fsig c = 0 ↔ c = 0 := by unfold fsig; split <;> omega
theorem fvq_mul (a b : Nat) : fvq a * fvq b = sval (ngt a != ngt b) (((fsig (mag a) * fsig (mag b) : Nat) : Rat) * p2 (fexp (mag a) + fexp (mag b))) := by
  rw [fvq_sval, fvq_sval, sval_mul, p2_add, Rat.natCast_mul]
  congr 1; grind
theorem signs_ok {P : Prop} {a b : Nat} {K : AV → Prop} (h : ∀ v, (v = .tf (ngt a != ngt b)) → K v) : SCmp (ngt a != ngt b) K := by
  cases e : (ngt a != ngt b) with
  | true => exact .yes rfl (h _ (by rw [e]))
  | false => exact .no rfl (h _ (by rw [e]))
theorem sfmul_ok (a b : Nat) (mode : Int) (ha : a < 18446744073709551616) (hb : b < 18446744073709551616) : CallP Try.prog 42 [.int .u64 a, .int .u64 b, .int .i64 mode] (fpair (mulF a b mode)) [] := by
  refine callG_of_vc (wr := wr0) Γok mixed Try.func42 (by kernel_rfl) rfl (by kernel_rfl) (le_of_ble rfl) (by simp) ?_
  unfold mulF
  refine SCall.pure (below_ok a ha _ rfl) ?_
  refine SCall.pure (below_ok b hb _ rfl) ?_
  refine SCmp.sym ?_
  obtain ⟨ns, hns⟩ : ∃ ns, ns = (ngt a != ngt b) := ⟨_, rfl⟩
  have hsg : ∀ c : Nat, c < 9223372036854775808 → CallP Try.prog 86 [.int .u64 c, .bool (!(ngt a == ngt b))] (.p (.int .u64 (sg (ngt a != ngt b) c))) [] := fun c hc => signed_ok c hc _
  refine SView.all rfl ?_
  cases hn : (isNan a || isNan b) with
  | true =>
    refine SCall.pure (nans2 ha hb _ hn) ?_
    refine SCond.mk (fun _ => ?_) (fun h => by cases h)
    exact SRet.pure (.tup rfl fun i c d e1 e2 => by
      match i, e1, e2 with
      | 0, e1, e2 => cases e1; cases e2; exact .p _ (.int _ _)
      | 1, e1, e2 => cases e1; cases e2; exact .p _ (.int _ _))
  | false =>
    refine SCall.pure (nans2 ha hb _ hn) ?_
    refine SCond.mk (fun h => by cases h) (fun _ => ?_)
    rw [if_neg Bool.false_ne_true]
    refine SView.all rfl ?_
    cases hi : (isInf a || isInf b) with
    | true =>
      refine SCall.pure (infs2 ha hb _ hi) ?_
      refine SCond.mk (fun _ => ?_) (fun h => by cases h)
      refine SView.all rfl ?_
      cases hz : (isZ a || isZ b) with
      | true =>
        refine SCall.pure (zs2 ha hb _ hz) ?_
        refine SCond.mk (fun _ => ?_) (fun h => by cases h)
        rw [if_pos (by simp)]
        refine SCall.pureT (wrong_ok) (fun _ => rfl) ?_
        exact SRet.pure (.tup rfl fun i c d e1 e2 => by
          match i, e1, e2 with
          | 0, e1, e2 => cases e1; cases e2; exact .p _ (.int _ _)
          | 1, e1, e2 => cases e1; cases e2; exact .p _ (.int _ _))
      | false =>
        refine SCall.pure (zs2 ha hb _ hz) ?_
        refine SCond.mk (fun h => by cases h) (fun _ => ?_)
        rw [if_neg (by simp), if_pos rfl]
        refine SView.all rfl ?_
        refine SCall.pure (infs2 ha hb _ hi) ?_
        refine SCond.mk (fun _ => ?_) (fun h => by cases h)
        refine SCall.pure (hsg 9218868437227405312 (by omega)) ?_
        exact SRet.pure (.tup rfl fun i c d e1 e2 => by
          match i, e1, e2 with
          | 0, e1, e2 => cases e1; cases e2; exact .p _ (.int _ _)
          | 1, e1, e2 => cases e1; cases e2; exact .p _ (.int _ _))
    | false =>
      refine SCall.pure (infs2 ha hb _ hi) ?_
      refine SCond.mk (fun h => by cases h) (fun _ => ?_)
      rw [if_neg (by simp), if_neg (by simp)]
      refine SView.all rfl ?_
      refine SCall.pure (infs2 ha hb _ hi) ?_
      refine SCond.mk (fun h => by cases h) (fun _ => ?_)
      refine SView.all rfl ?_
      cases hz : (isZ a || isZ b) with
      | true =>
        refine SCall.pure (zs2 ha hb _ hz) ?_
        refine SCond.mk (fun _ => ?_) (fun h => by cases h)
        rw [if_pos rfl]
        refine SCall.pure (hsg 0 (by omega)) ?_
        exact SRet.pure (.tup rfl fun i c d e1 e2 => by
          match i, e1, e2 with
          | 0, e1, e2 => cases e1; cases e2; exact .p _ (.int _ _)
          | 1, e1, e2 => cases e1; cases e2; exact .p _ (.int _ _))
      | false =>
        refine SCall.pure (zs2 ha hb _ hz) ?_
        refine SCond.mk (fun h => by cases h) (fun _ => ?_)
        rw [if_neg (by simp), fvq_mul]
        have e1 := fexp_le (mag_lt a)
        have e2 := fexp_ge (mag a)
        have e3 := fexp_le (mag_lt b)
        have e4 := fexp_ge (mag b)
        have e5 := fsig_bits (mag a)
        have e6 := fsig_bits (mag b)
        have za : fsig (mag a) ≠ 0 := fun h => by have := isZ_iff.2 (fsig_zero.1 h); rw [this] at hz; simp at hz
        have zb : fsig (mag b) ≠ 0 := fun h => by have := isZ_iff.2 (fsig_zero.1 h); rw [this] at hz; simp at hz
        have hbl := bitLen_mul (fsig (mag a)) (fsig (mag b))
        refine SCall.pure (ofnum_ok a ha) ?_
        refine SCall.pure (ofnum_ok b hb) ?_
        refine SCall.pure (product_ok (ngt a) (ngt b) (fsig (mag a)) (fsig (mag b)) (fexp (mag a)) (fexp (mag b)) (by omega) (by omega) (by omega) (by omega)) ?_
        refine SCall.pureT (round_exact (ngt a != ngt b) (fsig (mag a) * fsig (mag b)) (fexp (mag a) + fexp (mag b)) mode (Nat.mul_ne_zero za zb) (by omega) (by omega)) (fun _ => rfl) ?_
        exact SRet.pure (.tup rfl fun i c d e1 e2 => by
          match i, e1, e2 with
          | 0, e1, e2 => cases e1; cases e2; exact .p _ (.int _ _)
          | 1, e1, e2 => cases e1; cases e2; exact .p _ (.int _ _))
end Go.Proofs.Ytjcmiedpgabdbaa
