/- IvalOps, IvalHolds: the walks. -/
import Derived.Test.YtacklcbgkigcaaaGreatIw3
namespace Go.Proofs.YtacklcbgkigcaaaGreat
open Go
set_option linter.unusedVariables false
set_option linter.unusedSimpArgs false
set_option maxRecDepth 10000

theorem FinI.ok {i : IvT} {A B : Rat} (h : FinI i A B) : IvOk i := ⟨h.lo.lt, h.hi.lt⟩
theorem FinF.nn {x : Nat} {q : Rat} (h : FinF x q) : isNan x = false := h.nan
noncomputable def quoI (i j : IvT) : IvT × Int := if hasI j 0 then ((0, 0), 5) else (divI i j, 0)
abbrev qpair (r : IvT × Int) : AV := .tup [.p (ivP r.1), .p (.int .i64 r.2)]
theorem ivquo_fin (i : IvT) {j : IvT} {C D : Rat} (hi : IvOk i) (hj : FinI j C D) : CallP Tryz.prog 29 [ivP i, ivP j] (qpair (quoI i j)) [] := by
  have c := ivquo_ok i j hi hj.ok
  rw [hj.right, Bool.true_and] at c
  unfold quoI
  cases h : hasI j 0 with
  | true => rw [h, if_pos rfl] at c; rw [if_pos rfl]; exact c
  | false => rw [h, if_neg Bool.false_ne_true] at c; rw [if_neg Bool.false_ne_true]; exact c
theorem rivquo_fin (i : IvT) {j : IvT} {C D : Rat} (hi : IvOk i) (hj : FinI j C D) : CallP Tryz.prog 30 [ivP i, ivP j] (qpair (quoI i j)) [] := by
  have c := rivquo_ok i j hi hj.ok hj.lo.nan hj.hi.nan
  unfold quoI
  cases h : hasI j 0 with
  | true => rw [h, if_pos rfl] at c; rw [if_pos rfl]; exact c
  | false => rw [h, if_neg Bool.false_ne_true] at c; rw [if_neg Bool.false_ne_true]; exact c
theorem ivhas_fin {i : IvT} {A B : Rat} (a : Rat) (hi : FinI i A B) {k : Nat} (ha : Bz a k) (hk : k ≤ 65536) : CallP Tryz.prog 21 [ivP i, ratP a] (.p (.bool (hasI i a))) [] := by
  have c := ivhas_ok i a hi.ok ha hk
  rwa [hi.right, Bool.true_and] at c
theorem ivhas_in {i : IvT} {a : Rat} (h : InI i a) {k : Nat} (ha : Bz a k) (hk : k ≤ 65536) : CallP Tryz.prog 21 [ivP i, ratP a] (.p (.bool true)) [] := by
  have c := ivhas_ok i a ⟨h.n1.lt, h.n2.lt⟩ ha hk
  rwa [h.right, h.has] at c
theorem rivhas_fin {i : IvT} {A B : Rat} (a : Rat) (hi : FinI i A B) {k : Nat} (ha : Bz a k) (hk : k ≤ 65536) : CallP Tryz.prog 33 [ivP i, ratP a] (.p (.bool (hasI i a))) [] :=
  rivhas_ok i a hi.ok hi.lo.nan hi.hi.nan ha hk

theorem ivalOps_ok (i j : IvT) (n m : Int) (neg mm mm' : Bool) (N D : List Nat) (hi : IvOk i) (hj : IvOk j) (hn : I64 n) (hm : I64 m) (hN : Lok N) (hD : Lok D) :
    CallP Tryz.prog 5 [ivP i, ivP j, .int .i64 n, .int .i64 m, rawP neg mm mm' N D] (.p (.bool true)) [] := by
  refine callG_of_vc (wr := wr0) Γok mixed Tryz.func5 (by kernel_rfl) rfl (by kernel_rfl) (le_of_ble rfl) (by simp) ?_
  refine SCall.pure (known4_ok) ?_
  refine SCmp.no (rfl) ?_
  have c1 := make4_ok i n hi hn
  have c2 := make4_ok j m hj hm
  have c3 := qmake_ok neg mm mm' N D hN hD
  have br := rawQ_bz neg hN hD
  obtain ⟨A, B, hx⟩ := makeI_fin hi.lo hi.hi n
  obtain ⟨C, E, hy⟩ := makeI_fin hj.lo hj.hi m
  obtain ⟨x, hxd⟩ : ∃ x, x = makeI i n := ⟨_, rfl⟩
  obtain ⟨y, hyd⟩ : ∃ y, y = makeI j m := ⟨_, rfl⟩
  obtain ⟨r, hrd⟩ : ∃ r, r = rawQ neg N D := ⟨_, rfl⟩
  rw [← hxd] at c1 hx
  rw [← hyd] at c2 hy
  rw [← hrd] at c3 br
  refine SDraw.mkX (by kernel_rfl) ?_
  repeat refine SOp.mk _ _ (And.intro rfl rfl) rfl ?_
  refine SOp.mk _ _ (SCall.pure (c1) (And.intro rfl rfl)) rfl ?_
  repeat refine SOp.mk _ _ (And.intro rfl rfl) rfl ?_
  refine SOp.mk _ _ (SCall.pure (c2) (And.intro rfl rfl)) rfl ?_
  repeat refine SOp.mk _ _ (And.intro rfl rfl) rfl ?_
  refine SOp.mk _ _ (SCall.pure (c3) (And.intro rfl rfl)) rfl ?_
  repeat refine SOp.mk _ _ (And.intro rfl rfl) rfl ?_
  refine SFin.mk (by kernel_rfl) ?_
  refine SCall.pureT (ivquo_fin x hx.ok hy) (fun _ => rfl) ?_
  refine SCall.pureT (rivquo_fin x hx.ok hy) (fun _ => rfl) ?_
  have c4 := make3_ok i.1 n hi.lo
  have c5 := make3_ok i.2 m hi.hi
  have hw : IvOk (mkF i.1 n, mkF i.2 m) := ⟨mkF_lt hi.lo n, mkF_lt hi.hi m⟩
  obtain ⟨u, hu⟩ : ∃ u, u = mkF i.1 n := ⟨_, rfl⟩
  obtain ⟨v, hv⟩ : ∃ v, v = mkF i.2 m := ⟨_, rfl⟩
  rw [← hu] at c4 hw
  rw [← hv] at c5 hw
  refine SDraw.mkX (by kernel_rfl) ?_
  repeat refine SOp.mk _ _ (And.intro rfl rfl) rfl ?_
  refine SOp.mk _ _ (SCall.pure (c4) (And.intro rfl rfl)) rfl ?_
  repeat refine SOp.mk _ _ (And.intro rfl rfl) rfl ?_
  refine SOp.mk _ _ (SCall.pure (c5) (And.intro rfl rfl)) rfl ?_
  repeat refine SOp.mk _ _ (And.intro rfl rfl) rfl ?_
  refine SFin.mk (by kernel_rfl) ?_
  have r1 := ivright_ok (u, v) hw
  have r2 := rivright_ok (u, v) hw
  have h1 := ivhas_ok (u, v) r hw br (by omega)
  cases hr : rightI (u, v) with
  | false =>
    rw [hr] at r1 r2
    refine SDraw.mk (by kernel_rfl) ?_
    repeat refine SOp.mk _ _ (And.intro rfl rfl) rfl ?_
    refine SOp.mk _ _ (SCall.pure (r1) (And.intro rfl rfl)) rfl ?_
    repeat refine SOp.mk _ _ (And.intro rfl rfl) rfl ?_
    refine SOp.mk _ _ (SCall.pure (r2) (And.intro rfl rfl)) rfl ?_
    refine SOp.mk _ _ (SCmp.no (bne_self_eq_false _) (And.intro rfl rfl)) rfl ?_
    repeat refine SOp.mk _ _ (And.intro rfl rfl) rfl ?_
    refine SOp.mk _ _ (SCall.pure (r1) (And.intro rfl rfl)) rfl ?_
    repeat refine SOp.mk _ _ (And.intro rfl rfl) rfl ?_
    refine SDraw.mk (by kernel_rfl) ?_
    repeat refine SOp.mk _ _ (And.intro rfl rfl) rfl ?_
    refine SOp.mk _ _ (SCall.pure (ivof_ok r br (by omega)) (And.intro rfl rfl)) rfl ?_
    repeat refine SOp.mk _ _ (And.intro rfl rfl) rfl ?_
    refine SOp.mk _ _ (SCall.pure (rivof_ok r br (by omega)) (And.intro rfl rfl)) rfl ?_
    refine SOp.mk _ _ (SCmp.yes (by simp) (And.intro rfl rfl)) rfl ?_
    repeat refine SOp.mk _ _ (And.intro rfl rfl) rfl ?_
    refine SOp.mk _ _ (SCall.pure (ivhas_fin r hx br (by omega)) (And.intro rfl rfl)) rfl ?_
    repeat refine SOp.mk _ _ (And.intro rfl rfl) rfl ?_
    refine SOp.mk _ _ (SCall.pure (rivhas_fin r hx br (by omega)) (And.intro rfl rfl)) rfl ?_
    refine SOp.mk _ _ (SCmp.yes (beq_self_eq_true _) (And.intro rfl rfl)) rfl ?_
    repeat refine SOp.mk _ _ (And.intro rfl rfl) rfl ?_
    refine SOp.mk _ _ (SCall.pure (ivneg_ok x hx.ok) (And.intro rfl rfl)) rfl ?_
    repeat refine SOp.mk _ _ (And.intro rfl rfl) rfl ?_
    refine SOp.mk _ _ (SCall.pure (rivneg_ok x hx.ok) (And.intro rfl rfl)) rfl ?_
    refine SOp.mk _ _ (SCmp.yes (by simp) (And.intro rfl rfl)) rfl ?_
    repeat refine SOp.mk _ _ (And.intro rfl rfl) rfl ?_
    refine SOp.mk _ _ (SCall.pure (ivadd_ok x y hx.ok hy.ok) (And.intro rfl rfl)) rfl ?_
    repeat refine SOp.mk _ _ (And.intro rfl rfl) rfl ?_
    refine SOp.mk _ _ (SCall.pure (rivadd_ok x y hx.ok hy.ok) (And.intro rfl rfl)) rfl ?_
    refine SOp.mk _ _ (SCmp.yes (by simp) (And.intro rfl rfl)) rfl ?_
    repeat refine SOp.mk _ _ (And.intro rfl rfl) rfl ?_
    refine SOp.mk _ _ (SCall.pure (ivsub_ok x y hx.ok hy.ok) (And.intro rfl rfl)) rfl ?_
    repeat refine SOp.mk _ _ (And.intro rfl rfl) rfl ?_
    refine SOp.mk _ _ (SCall.pure (rivsub_ok x y hx.ok hy.ok) (And.intro rfl rfl)) rfl ?_
    refine SOp.mk _ _ (SCmp.yes (by simp) (And.intro rfl rfl)) rfl ?_
    repeat refine SOp.mk _ _ (And.intro rfl rfl) rfl ?_
    refine SOp.mk _ _ (SCall.pure (ivmul_ok x y hx.ok hy.ok) (And.intro rfl rfl)) rfl ?_
    repeat refine SOp.mk _ _ (And.intro rfl rfl) rfl ?_
    refine SOp.mk _ _ (SCall.pure (rivmul_ok x y hx.ok hy.ok) (And.intro rfl rfl)) rfl ?_
    refine SOp.mk _ _ (SCmp.yes (by simp) (And.intro rfl rfl)) rfl ?_
    repeat refine SOp.mk _ _ (And.intro rfl rfl) rfl ?_
    refine SOp.mk _ _ (SCmp.yes (by simp) (And.intro rfl rfl)) rfl ?_
    repeat refine SOp.mk _ _ (And.intro rfl rfl) rfl ?_
    refine SOp.mk _ _ (SCmp.yes (eqT rfl) (And.intro rfl rfl)) rfl ?_
    repeat refine SOp.mk _ _ (And.intro rfl rfl) rfl ?_
    exact SRet.pure (.tf _)
  | true =>
    have nn := right_num hr
    have h2 := rivhas_ok (u, v) r hw nn.1 nn.2 br (by omega)
    rw [hr] at r1 r2 h1
    rw [Bool.true_and] at h1
    refine SDraw.mk (by kernel_rfl) ?_
    repeat refine SOp.mk _ _ (And.intro rfl rfl) rfl ?_
    refine SOp.mk _ _ (SCall.pure (r1) (And.intro rfl rfl)) rfl ?_
    repeat refine SOp.mk _ _ (And.intro rfl rfl) rfl ?_
    refine SOp.mk _ _ (SCall.pure (r2) (And.intro rfl rfl)) rfl ?_
    refine SOp.mk _ _ (SCmp.no (bne_self_eq_false _) (And.intro rfl rfl)) rfl ?_
    repeat refine SOp.mk _ _ (And.intro rfl rfl) rfl ?_
    refine SOp.mk _ _ (SCall.pure (r1) (And.intro rfl rfl)) rfl ?_
    repeat refine SOp.mk _ _ (And.intro rfl rfl) rfl ?_
    refine SOp.mk _ _ (SCall.pure (h1) (And.intro rfl rfl)) rfl ?_
    repeat refine SOp.mk _ _ (And.intro rfl rfl) rfl ?_
    refine SOp.mk _ _ (SCall.pure (h2) (And.intro rfl rfl)) rfl ?_
    refine SOp.mk _ _ (SCmp.no (bne_self_eq_false _) (And.intro rfl rfl)) rfl ?_
    repeat refine SOp.mk _ _ (And.intro rfl rfl) rfl ?_
    refine SDraw.mk (by kernel_rfl) ?_
    repeat refine SOp.mk _ _ (And.intro rfl rfl) rfl ?_
    refine SOp.mk _ _ (SCall.pure (ivof_ok r br (by omega)) (And.intro rfl rfl)) rfl ?_
    repeat refine SOp.mk _ _ (And.intro rfl rfl) rfl ?_
    refine SOp.mk _ _ (SCall.pure (rivof_ok r br (by omega)) (And.intro rfl rfl)) rfl ?_
    refine SOp.mk _ _ (SCmp.yes (by simp) (And.intro rfl rfl)) rfl ?_
    repeat refine SOp.mk _ _ (And.intro rfl rfl) rfl ?_
    refine SOp.mk _ _ (SCall.pure (ivhas_fin r hx br (by omega)) (And.intro rfl rfl)) rfl ?_
    repeat refine SOp.mk _ _ (And.intro rfl rfl) rfl ?_
    refine SOp.mk _ _ (SCall.pure (rivhas_fin r hx br (by omega)) (And.intro rfl rfl)) rfl ?_
    refine SOp.mk _ _ (SCmp.yes (beq_self_eq_true _) (And.intro rfl rfl)) rfl ?_
    repeat refine SOp.mk _ _ (And.intro rfl rfl) rfl ?_
    refine SOp.mk _ _ (SCall.pure (ivneg_ok x hx.ok) (And.intro rfl rfl)) rfl ?_
    repeat refine SOp.mk _ _ (And.intro rfl rfl) rfl ?_
    refine SOp.mk _ _ (SCall.pure (rivneg_ok x hx.ok) (And.intro rfl rfl)) rfl ?_
    refine SOp.mk _ _ (SCmp.yes (by simp) (And.intro rfl rfl)) rfl ?_
    repeat refine SOp.mk _ _ (And.intro rfl rfl) rfl ?_
    refine SOp.mk _ _ (SCall.pure (ivadd_ok x y hx.ok hy.ok) (And.intro rfl rfl)) rfl ?_
    repeat refine SOp.mk _ _ (And.intro rfl rfl) rfl ?_
    refine SOp.mk _ _ (SCall.pure (rivadd_ok x y hx.ok hy.ok) (And.intro rfl rfl)) rfl ?_
    refine SOp.mk _ _ (SCmp.yes (by simp) (And.intro rfl rfl)) rfl ?_
    repeat refine SOp.mk _ _ (And.intro rfl rfl) rfl ?_
    refine SOp.mk _ _ (SCall.pure (ivsub_ok x y hx.ok hy.ok) (And.intro rfl rfl)) rfl ?_
    repeat refine SOp.mk _ _ (And.intro rfl rfl) rfl ?_
    refine SOp.mk _ _ (SCall.pure (rivsub_ok x y hx.ok hy.ok) (And.intro rfl rfl)) rfl ?_
    refine SOp.mk _ _ (SCmp.yes (by simp) (And.intro rfl rfl)) rfl ?_
    repeat refine SOp.mk _ _ (And.intro rfl rfl) rfl ?_
    refine SOp.mk _ _ (SCall.pure (ivmul_ok x y hx.ok hy.ok) (And.intro rfl rfl)) rfl ?_
    repeat refine SOp.mk _ _ (And.intro rfl rfl) rfl ?_
    refine SOp.mk _ _ (SCall.pure (rivmul_ok x y hx.ok hy.ok) (And.intro rfl rfl)) rfl ?_
    refine SOp.mk _ _ (SCmp.yes (by simp) (And.intro rfl rfl)) rfl ?_
    repeat refine SOp.mk _ _ (And.intro rfl rfl) rfl ?_
    refine SOp.mk _ _ (SCmp.yes (by simp) (And.intro rfl rfl)) rfl ?_
    repeat refine SOp.mk _ _ (And.intro rfl rfl) rfl ?_
    refine SOp.mk _ _ (SCmp.yes (eqT rfl) (And.intro rfl rfl)) rfl ?_
    repeat refine SOp.mk _ _ (And.intro rfl rfl) rfl ?_
    exact SRet.pure (.tf _)
end Go.Proofs.YtacklcbgkigcaaaGreat
