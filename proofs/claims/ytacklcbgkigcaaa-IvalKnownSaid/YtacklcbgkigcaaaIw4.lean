/- IvalOps, IvalHolds: the walks. -/
import Derived.Test.YtacklcbgkigcaaaIw3
namespace Go.Proofs.Ytacklcbgkigcaaa
open Go
set_option linter.unusedVariables false
set_option linter.unusedSimpArgs false
set_option maxRecDepth 10000

theorem FinI.ok {i : IvT} {A B : Rat} (h : FinI i A B) : IvOk i := ⟨h.lo.lt, h.hi.lt⟩
theorem FinF.nn {x : Nat} {q : Rat} (h : FinF x q) : isNan x = false := h.nan
noncomputable def quoI (i j : IvT) : IvT × Int := if hasI j 0 then ((0, 0), 5) else (divI i j, 0)
abbrev qpair (r : IvT × Int) : AV := .tup [.p (ivP r.1), .p (.int .i64 r.2)]
theorem ivquo_fin (i : IvT) {j : IvT} {C D : Rat} (hi : IvOk i) (hj : FinI j C D) : CallP Try.prog 26 [ivP i, ivP j] (qpair (quoI i j)) [] := by
  have c := ivquo_ok i j hi hj.ok
  rw [hj.right, Bool.true_and] at c
  unfold quoI
  cases h : hasI j 0 with
  | true => rw [h, if_pos rfl] at c; rw [if_pos rfl]; exact c
  | false => rw [h, if_neg Bool.false_ne_true] at c; rw [if_neg Bool.false_ne_true]; exact c
theorem ivhas_fin {i : IvT} {A B : Rat} (a : Rat) (hi : FinI i A B) {k : Nat} (ha : Bz a k) (hk : k ≤ 65536) : CallP Try.prog 15 [ivP i, ratP a] (.p (.bool (hasI i a))) [] := by
  have c := ivhas_ok i a hi.ok ha hk
  rwa [hi.right, Bool.true_and] at c
theorem ivhas_in {i : IvT} {a : Rat} (h : InI i a) {k : Nat} (ha : Bz a k) (hk : k ≤ 65536) : CallP Try.prog 15 [ivP i, ratP a] (.p (.bool true)) [] := by
  have c := ivhas_ok i a ⟨h.n1.lt, h.n2.lt⟩ ha hk
  rwa [h.right, h.has] at c
end Go.Proofs.Ytacklcbgkigcaaa
