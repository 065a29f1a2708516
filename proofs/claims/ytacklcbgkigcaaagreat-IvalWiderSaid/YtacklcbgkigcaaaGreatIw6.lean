/- IvalWider: the walk. -/
import Derived.Test.YtacklcbgkigcaaaGreatIw5
namespace Go.Proofs.YtacklcbgkigcaaaGreat
open Go
set_option linter.unusedVariables false
set_option linter.unusedSimpArgs false
set_option maxRecDepth 10000

/-- The one's numbers are the other's, too. -/
structure WidP (a b : IvT) : Prop where
  a1 : Num a.1
  a2 : Num a.2
  b1 : Num b.1
  b2 : Num b.2
  lo : pl b.1 ≤ pl a.1
  hi : pl a.2 ≤ pl b.2
  right : rightI a = true
section
variable {x w y : IvT} {A B A' B' C D : Rat} (hx : FinI x A B) (hw : FinI w A' B') (hy : FinI y C D) (hA : A' ≤ A) (hB : B ≤ B')
include hx hw hy hA hB
theorem wid_add : WidP (addI x y) (addI w y) where
  a1 := (add_lo hx hy).num
  a2 := (add_hi hx hy).num
  b1 := (add_lo hw hy).num
  b2 := (add_hi hw hy).num
  lo := (add_lo hw hy).mono (add_lo hx hy) fun q hq => by simp at hq; subst hq; exact ⟨A' + C, by simp, by grind⟩
  hi := (add_hi hx hy).mono (add_hi hw hy) fun q hq => by simp at hq; subst hq; exact ⟨B' + D, by simp, by grind⟩
  right := (add_in hx hy Rat.le_refl hx.le Rat.le_refl hy.le).right
theorem wid_mul : WidP (mulI x y) (mulI w y) where
  a1 := (mul_lo hx hy).num
  a2 := (mul_hi hx hy).num
  b1 := (mul_lo hw hy).num
  b2 := (mul_hi hw hy).num
  lo := (mul_lo hw hy).mono (mul_lo hx hy) fun q hq => by
    have key : ∀ e f, A ≤ e → e ≤ B → (f = C ∨ f = D) → ∃ p ∈ [A' * C, A' * D, B' * C, B' * D], p ≤ e * f := fun e f h1 h2 hf => by
      have := lin_lo (e := f) (b := e) (c := A') (d := B') (by grind) (by grind)
      rcases hf with hf | hf <;> subst hf <;> rcases this with h | h
      · exact ⟨A' * f, by simp, by grind⟩
      · exact ⟨B' * f, by simp, by grind⟩
      · exact ⟨A' * f, by simp, by grind⟩
      · exact ⟨B' * f, by simp, by grind⟩
    have := hx.le
    simp at hq
    rcases hq with e | e | e | e <;> subst e
    · exact key _ _ Rat.le_refl this (.inl rfl)
    · exact key _ _ Rat.le_refl this (.inr rfl)
    · exact key _ _ this Rat.le_refl (.inl rfl)
    · exact key _ _ this Rat.le_refl (.inr rfl)
  hi := (mul_hi hx hy).mono (mul_hi hw hy) fun q hq => by
    have key : ∀ e f, A ≤ e → e ≤ B → (f = C ∨ f = D) → ∃ p ∈ [A' * C, A' * D, B' * C, B' * D], e * f ≤ p := fun e f h1 h2 hf => by
      have := lin_hi (e := f) (b := e) (c := A') (d := B') (by grind) (by grind)
      rcases hf with hf | hf <;> subst hf <;> rcases this with h | h
      · exact ⟨A' * f, by simp, by grind⟩
      · exact ⟨B' * f, by simp, by grind⟩
      · exact ⟨A' * f, by simp, by grind⟩
      · exact ⟨B' * f, by simp, by grind⟩
    have := hx.le
    simp at hq
    rcases hq with e | e | e | e <;> subst e
    · exact key _ _ Rat.le_refl this (.inl rfl)
    · exact key _ _ Rat.le_refl this (.inr rfl)
    · exact key _ _ this Rat.le_refl (.inl rfl)
    · exact key _ _ this Rat.le_refl (.inr rfl)
  right := (mul_in hx hy Rat.le_refl hx.le Rat.le_refl hy.le).right
end
theorem wid_neg {x w : IvT} {A B A' B' : Rat} (hx : FinI x A B) (hw : FinI w A' B') (hA : A' ≤ A) (hB : B ≤ B') : WidP (negI x) (negI w) where
  a1 := hx.neg.lo.num
  a2 := hx.neg.hi.num
  b1 := hw.neg.lo.num
  b2 := hw.neg.hi.num
  lo := (hw.neg.lo.pl_le hx.neg.lo).2 (by grind)
  hi := (hx.neg.hi.pl_le hw.neg.hi).2 (by grind)
  right := hx.neg.right
theorem wid_sub {x w y : IvT} {A B A' B' C D : Rat} (hx : FinI x A B) (hw : FinI w A' B') (hy : FinI y C D) (hA : A' ≤ A) (hB : B ≤ B') : WidP (subI x y) (subI w y) := wid_add hx hw hy.neg hA hB
abbrev pairP (a b : IvT) : PV := .agg [.int .u64 (a.1 : Int), .int .u64 (a.2 : Int), .int .u64 (b.1 : Int), .int .u64 (b.2 : Int)]
theorem ivalWider_ok (i j : IvT) (n m s : Int) (hi : IvOk i) (hj : IvOk j) (hn : I64 n) (hm : I64 m) :
    CallP Tryz.prog 3 [ivP i, ivP j, .int .i64 n, .int .i64 m, .int .i64 s] (.p (.bool true)) [] := by
  refine callG_of_vc (wr := wr0) Γok mixed Tryz.func3 (by kernel_rfl) rfl (by kernel_rfl) (le_of_ble rfl) (by simp) ?_
  refine SCall.pure (known4_ok) ?_
  refine SCmp.no (rfl) ?_
  have c1 := make4_ok i n hi hn
  have c2 := make4_ok j m hj hm
  obtain ⟨A, B, hx⟩ := makeI_fin hi.lo hi.hi n
  obtain ⟨C, E, hy⟩ := makeI_fin hj.lo hj.hi m
  obtain ⟨x, hxd⟩ : ∃ x, x = makeI i n := ⟨_, rfl⟩
  obtain ⟨y, hyd⟩ : ∃ y, y = makeI j m := ⟨_, rfl⟩
  rw [← hxd] at c1 hx
  rw [← hyd] at c2 hy
  refine SDraw.mkX (by kernel_rfl) ?_
  repeat refine SOp.mk _ _ (And.intro rfl rfl) rfl ?_
  refine SOp.mk _ _ (SCall.pure (c1) (And.intro rfl rfl)) rfl ?_
  repeat refine SOp.mk _ _ (And.intro rfl rfl) rfl ?_
  refine SOp.mk _ _ (SCall.pure (c2) (And.intro rfl rfl)) rfl ?_
  repeat refine SOp.mk _ _ (And.intro rfl rfl) rfl ?_
  refine SFin.mk (by kernel_rfl) ?_
  have n1 := rfnext_ok x.1 hx.lo.lt false
  have n2 := rfnext_ok x.2 hx.hi.lt true
  have l1 := ok_next hx.lo.lt false
  have l2 := ok_next hx.hi.lt true
  have N1 := next_ok hx.lo.lt false hx.lo.mag
  have N2 := next_ok hx.hi.lt true hx.hi.mag
  obtain ⟨u, hu⟩ : ∃ u, u = nextF x.1 false := ⟨_, rfl⟩
  obtain ⟨v, hv⟩ : ∃ v, v = nextF x.2 true := ⟨_, rfl⟩
  rw [← hu] at n1 l1 N1
  rw [← hv] at n2 l2 N2
  refine SDraw.mkX (by kernel_rfl) ?_
  repeat refine SOp.mk _ _ (And.intro rfl rfl) rfl ?_
  refine SOp.mk _ _ (SCall.pure (n1) (And.intro rfl rfl)) rfl ?_
  repeat refine SOp.mk _ _ (And.intro rfl rfl) rfl ?_
  refine SOp.mk _ _ (SCall.pure (n2) (And.intro rfl rfl)) rfl ?_
  repeat refine SOp.mk _ _ (And.intro rfl rfl) rfl ?_
  refine SFin.mk (by kernel_rfl) ?_
  by_cases hbu : isNan u = true ∨ isInf u = true
  · refine SCall.pureT (rfrat_no u l1 hbu) (fun _ => rfl) ?_
    by_cases hbv : isNan v = true ∨ isInf v = true
    · refine SCall.pureT (rfrat_no v l2 hbv) (fun _ => rfl) ?_
      refine SCmp.yes (rfl) ?_
      exact SRet.pure (.tf _)
    · refine SCall.pureT (rfrat_fin (not_bad l2 hbv)) (fun _ => rfl) ?_
      refine SCmp.yes (rfl) ?_
      exact SRet.pure (.tf _)
  · have fu := not_bad l1 hbu
    refine SCall.pureT (rfrat_fin fu) (fun _ => rfl) ?_
    by_cases hbv : isNan v = true ∨ isInf v = true
    · refine SCall.pureT (rfrat_no v l2 hbv) (fun _ => rfl) ?_
      refine SCmp.no (rfl) ?_
      refine SCmp.yes (rfl) ?_
      exact SRet.pure (.tf _)
    · have fv := not_bad l2 hbv
      refine SCall.pureT (rfrat_fin fv) (fun _ => rfl) ?_
      refine SCmp.no (rfl) ?_
      refine SCmp.no (rfl) ?_
      have hA := (N1 fu.mag).gt rfl
      have hB := (N2 fv.mag).lt rfl
      rw [hx.lo.val] at hA
      rw [hx.hi.val] at hB
      have hA : fvq u ≤ A := by grind
      have hB : B ≤ fvq v := by grind
      have hw : FinI (u, v) (fvq u) (fvq v) := ⟨fu, fv, by have := hx.le; grind⟩
      refine SDraw.mkX (by kernel_rfl) ?_
      repeat refine SOp.mk _ _ (And.intro rfl rfl) rfl ?_
      refine SOp.mk _ _ (SCall.pure (ivadd_ok x y hx.ok hy.ok) (And.intro rfl rfl)) rfl ?_
      repeat refine SOp.mk _ _ (And.intro rfl rfl) rfl ?_
      refine SOp.mk _ _ (SCall.pure (ivadd_ok (u, v) y hw.ok hy.ok) (And.intro rfl rfl)) rfl ?_
      repeat refine SOp.mk _ _ (And.intro rfl rfl) rfl ?_
      refine SOp.mk _ _ (SCall.pure (ivsub_ok x y hx.ok hy.ok) (And.intro rfl rfl)) rfl ?_
      repeat refine SOp.mk _ _ (And.intro rfl rfl) rfl ?_
      refine SOp.mk _ _ (SCall.pure (ivsub_ok (u, v) y hw.ok hy.ok) (And.intro rfl rfl)) rfl ?_
      repeat refine SOp.mk _ _ (And.intro rfl rfl) rfl ?_
      refine SOp.mk _ _ (SCall.pure (ivmul_ok x y hx.ok hy.ok) (And.intro rfl rfl)) rfl ?_
      repeat refine SOp.mk _ _ (And.intro rfl rfl) rfl ?_
      refine SOp.mk _ _ (SCall.pure (ivmul_ok (u, v) y hw.ok hy.ok) (And.intro rfl rfl)) rfl ?_
      repeat refine SOp.mk _ _ (And.intro rfl rfl) rfl ?_
      refine SOp.mk _ _ (SCall.pure (ivneg_ok x hx.ok) (And.intro rfl rfl)) rfl ?_
      repeat refine SOp.mk _ _ (And.intro rfl rfl) rfl ?_
      refine SOp.mk _ _ (SCall.pure (ivneg_ok (u, v) hw.ok) (And.intro rfl rfl)) rfl ?_
      repeat refine SOp.mk _ _ (And.intro rfl rfl) rfl ?_
      refine SFin.mk (by kernel_rfl) ?_
      obtain ⟨w, hwd⟩ : ∃ w : IvT, w = (u, v) := ⟨_, rfl⟩
      refine SLoop.mk Nat (fun k => ([(4, .p (.int .i64 s)), (11, .bptr 0 0), (13, .bptr 1 0), (18, .vec 2 4 0 4), (19, .p (.int .i64 k))], [.box 24 [.p (.int .u64 (x.1 : Int)), .p (.int .u64 (x.2 : Int))], .box 24 [.p (.int .u64 (u : Int)), .p (.int .u64 (v : Int))], .vec 34 4 [pairP (addI x y) (addI (u, v) y), pairP (subI x y) (subI (u, v) y), pairP (mulI x y) (mulI (u, v) y), pairP (negI x) (negI (u, v))]])) (fun k => k ≤ 4) (fun k => 4 - k) 0 [2, 4, 7]
        (Nat.zero_le _) ⟨rfl, by simp, rfl, rfl, rfl, ⟨rfl, rfl, rfl, rfl, rfl, trivial⟩, ⟨rfl, rfl, rfl, trivial⟩⟩ ?_
      intro k h1
      have h1 : k ≤ 4 := h1
      refine SZ.mk 4 rfl ?_
      by_cases hk : k < 4
      · refine SCmp.yes (decide_eq_true (by omega)) ?_
        have hv : ∃ a b, [pairP (addI x y) (addI (u, v) y), pairP (subI x y) (subI (u, v) y), pairP (mulI x y) (mulI (u, v) y), pairP (negI x) (negI (u, v))][k]? = some (pairP a b) ∧ WidP a b := by
          match k, hk with
          | 0, _ => exact ⟨_, _, rfl, wid_add hx hw hy hA hB⟩
          | 1, _ => exact ⟨_, _, rfl, wid_sub hx hw hy hA hB⟩
          | 2, _ => exact ⟨_, _, rfl, wid_mul hx hw hy hA hB⟩
          | 3, _ => exact ⟨_, _, rfl, wid_neg hx hw hA hB⟩
        obtain ⟨a, b, hv, W⟩ := hv
        have d1 := rfcmp_ok b.1 a.1 W.b1.lt W.a1.lt
        have d2 := rfcmp_ok a.2 b.2 W.a2.lt W.b2.lt
        rw [cmpF_num W.b1 W.a1] at d1
        rw [cmpF_num W.a2 W.b2] at d2
        have d3 := rivright_ok a ⟨W.a1.lt, W.a2.lt⟩
        rw [W.right] at d3
        refine SDraw.mk (by kernel_rfl) ?_
        repeat refine SOp.mk _ _ (And.intro rfl rfl) rfl ?_
        refine SOp.mk _ _ (SPos.mk k rfl hk (And.intro rfl rfl)) rfl ?_
        refine SOp.mk _ _ (SPos.mk 1 rfl (by omega) (And.intro rfl rfl)) rfl ?_
        repeat refine SOp.mk _ _ (And.intro rfl rfl) rfl ?_
        refine SOp.mk _ _ (SIdx.mk k (pairP a b) rfl hv (And.intro rfl rfl)) rfl ?_
        repeat refine SOp.mk _ _ (And.intro rfl rfl) rfl ?_
        refine SOp.mk _ _ (SPos.mk k rfl hk (And.intro rfl rfl)) rfl ?_
        refine SOp.mk _ _ (SPos.mk 0 rfl (by omega) (And.intro rfl rfl)) rfl ?_
        repeat refine SOp.mk _ _ (And.intro rfl rfl) rfl ?_
        refine SOp.mk _ _ (SIdx.mk k (pairP a b) rfl hv (And.intro rfl rfl)) rfl ?_
        refine SOp.mk _ _ (SCall.pureT (d1) (fun _ => rfl) (And.intro rfl rfl)) rfl ?_
        repeat refine SOp.mk _ _ (And.intro rfl rfl) rfl ?_
        refine SDraw.mk (by kernel_rfl) ?_
        repeat refine SOp.mk _ _ (And.intro rfl rfl) rfl ?_
        refine SOp.mk _ _ (SPos.mk k rfl hk (And.intro rfl rfl)) rfl ?_
        refine SOp.mk _ _ (SPos.mk 0 rfl (by omega) (And.intro rfl rfl)) rfl ?_
        repeat refine SOp.mk _ _ (And.intro rfl rfl) rfl ?_
        refine SOp.mk _ _ (SIdx.mk k (pairP a b) rfl hv (And.intro rfl rfl)) rfl ?_
        repeat refine SOp.mk _ _ (And.intro rfl rfl) rfl ?_
        refine SOp.mk _ _ (SPos.mk k rfl hk (And.intro rfl rfl)) rfl ?_
        refine SOp.mk _ _ (SPos.mk 1 rfl (by omega) (And.intro rfl rfl)) rfl ?_
        repeat refine SOp.mk _ _ (And.intro rfl rfl) rfl ?_
        refine SOp.mk _ _ (SIdx.mk k (pairP a b) rfl hv (And.intro rfl rfl)) rfl ?_
        refine SOp.mk _ _ (SCall.pureT (d2) (fun _ => rfl) (And.intro rfl rfl)) rfl ?_
        repeat refine SOp.mk _ _ (And.intro rfl rfl) rfl ?_
        refine SCmp.no (rfl) ?_
        refine SCmp.no (rfl) ?_
        refine SCmp.no (decide_eq_false (by have := cmpI_le0 W.lo; omega)) ?_
        refine SCmp.no (decide_eq_false (by have := cmpI_le0 W.hi; omega)) ?_
        refine SPos.mk k rfl hk ?_
        refine SPos.mk 0 rfl (by omega) ?_
        refine SIdx.mk k (pairP a b) rfl hv ?_
        refine SCall.pure (d3) ?_
        refine SCmp.no (rfl) ?_
        refine SWrap.i64z ((k + 1 : Nat) : Int) (by omega) (by omega) ?_
        exact ⟨k + 1, [0, 1, 2], hk, by show 4 - (k + 1) < 4 - k; omega, ⟨rfl, by simp, rfl, rfl, rfl, ⟨rfl, rfl, rfl, rfl, rfl, trivial⟩, ⟨rfl, rfl, rfl, trivial⟩⟩⟩
      · refine SCmp.no (decide_eq_false (by omega)) ?_
        have c3 := inside4_ok x s hx
        obtain ⟨i1, i2⟩ := insideQ_in hx.le s
        have bI := insideQ_bz hx.lo.bz hx.hi.bz s
        refine SDraw.mk (by kernel_rfl) ?_
        repeat refine SOp.mk _ _ (And.intro rfl rfl) rfl ?_
        refine SOp.mk _ _ (SCall.pure (c3) (And.intro rfl rfl)) rfl ?_
        refine SOp.mk _ _ (SCall.pure (ivhas_in (hw.inI (by grind) (by grind)) bI (by omega)) (And.intro rfl rfl)) rfl ?_
        repeat refine SOp.mk _ _ (And.intro rfl rfl) rfl ?_
        exact SRet.pure (.p _ (.bool _))
end Go.Proofs.YtacklcbgkigcaaaGreat
