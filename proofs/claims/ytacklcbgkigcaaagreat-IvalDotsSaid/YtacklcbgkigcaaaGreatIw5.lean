/- IvalHolds: the walk. -/
import Derived.Test.YtacklcbgkigcaaaGreatIw4
namespace Go.Proofs.YtacklcbgkigcaaaGreat
open Go
set_option linter.unusedVariables false
set_option linter.unusedSimpArgs false
set_option maxRecDepth 10000

theorem no_zero {y : IvT} {C E : Rat} (hy : FinI y C E) (h : hasI y 0 = false) : 0 < C ∨ E < 0 := by
  rw [hy.hasI, Bool.and_eq_false_iff, decide_eq_false_iff_not, decide_eq_false_iff_not] at h
  rcases h with h | h
  · exact .inl (Rat.not_le.1 h)
  · exact .inr (Rat.not_le.1 h)
theorem quoI_zero {x y : IvT} (h : hasI y 0 = true) : quoI x y = ((0, 0), 5) := if_pos h
theorem quoI_some {x y : IvT} (h : hasI y 0 = false) : quoI x y = (divI x y, 0) := if_neg (by rw [h]; exact Bool.false_ne_true)
theorem ivalHolds_ok (i j : IvT) (n m s t : Int) (hi : IvOk i) (hj : IvOk j) (hn : I64 n) (hm : I64 m) :
    CallP Tryz.prog 6 [ivP i, ivP j, .int .i64 n, .int .i64 m, .int .i64 s, .int .i64 t] (.p (.bool true)) [] := by
  refine callG_of_vc (wr := wr0) Γok mixed Tryz.func6 (by kernel_rfl) rfl (by kernel_rfl) (le_of_ble rfl) (by simp) ?_
  refine SCall.pure (known4_ok) ?_
  refine SCmp.no (rfl) ?_
  have c1 := make4_ok i n hi hn
  have c2 := make4_ok j m hj hm
  obtain ⟨A, B, hx⟩ := makeI_fin hi.lo hi.hi n
  obtain ⟨C, E, hy⟩ := makeI_fin hj.lo hj.hi m
  obtain ⟨x, hxd⟩ : ∃ x, x = makeI i n := ⟨_, rfl⟩
  obtain ⟨y, hyd⟩ : ∃ y, y = makeI j m := ⟨_, rfl⟩
  rw [← hxd] at c1 hx
  rw [← hyd] at c2 hy
  refine SDraw.mkX (by kernel_rfl) ?_
  repeat refine SOp.mk _ _ (And.intro rfl rfl) rfl ?_
  refine SOp.mk _ _ (SCall.pure (c1) (And.intro rfl rfl)) rfl ?_
  repeat refine SOp.mk _ _ (And.intro rfl rfl) rfl ?_
  refine SOp.mk _ _ (SCall.pure (c2) (And.intro rfl rfl)) rfl ?_
  repeat refine SOp.mk _ _ (And.intro rfl rfl) rfl ?_
  refine SFin.mk (by kernel_rfl) ?_
  have c3 := inside4_ok x s hx
  have c4 := inside4_ok y t hy
  have ba := insideQ_bz hx.lo.bz hx.hi.bz s
  have bb := insideQ_bz hy.lo.bz hy.hi.bz t
  obtain ⟨a1, a2⟩ := insideQ_in hx.le s
  obtain ⟨b1, b2⟩ := insideQ_in hy.le t
  obtain ⟨a, ha⟩ : ∃ a, a = insideQ A B s := ⟨_, rfl⟩
  obtain ⟨b, hb⟩ : ∃ b, b = insideQ C E t := ⟨_, rfl⟩
  rw [← ha] at c3 ba a1 a2
  rw [← hb] at c4 bb b1 b2
  refine SDraw.mkX (by kernel_rfl) ?_
  repeat refine SOp.mk _ _ (And.intro rfl rfl) rfl ?_
  refine SOp.mk _ _ (SCall.pure (c3) (And.intro rfl rfl)) rfl ?_
  repeat refine SOp.mk _ _ (And.intro rfl rfl) rfl ?_
  refine SOp.mk _ _ (SCall.pure (c4) (And.intro rfl rfl)) rfl ?_
  repeat refine SOp.mk _ _ (And.intro rfl rfl) rfl ?_
  refine SFin.mk (by kernel_rfl) ?_
  refine SDraw.mk (by kernel_rfl) ?_
  repeat refine SOp.mk _ _ (And.intro rfl rfl) rfl ?_
  refine SOp.mk _ _ (SCall.pure (ivhas_in (hx.inI a1 a2) ba (by omega)) (And.intro rfl rfl)) rfl ?_
  refine SOp.mk _ _ (SCmp.no (rfl) (And.intro rfl rfl)) rfl ?_
  repeat refine SOp.mk _ _ (And.intro rfl rfl) rfl ?_
  refine SOp.mk _ _ (SCall.pure (ivhas_in (hy.inI b1 b2) bb (by omega)) (And.intro rfl rfl)) rfl ?_
  refine SOp.mk _ _ (SCmp.no (rfl) (And.intro rfl rfl)) rfl ?_
  repeat refine SOp.mk _ _ (And.intro rfl rfl) rfl ?_
  refine SOp.mk _ _ (SCall.pure (ivneg_ok x hx.ok) (And.intro rfl rfl)) rfl ?_
  repeat refine SOp.mk _ _ (And.intro rfl rfl) rfl ?_
  refine SOp.mk _ _ (SCall.pure (rneg_ok a (ba.nn (by omega)) (ba.nd (by omega))) (And.intro rfl rfl)) rfl ?_
  refine SOp.mk _ _ (SCall.pure (ivhas_in (neg_in hx a1 a2) ba.neg (by omega)) (And.intro rfl rfl)) rfl ?_
  refine SOp.mk _ _ (SCmp.no (rfl) (And.intro rfl rfl)) rfl ?_
  repeat refine SOp.mk _ _ (And.intro rfl rfl) rfl ?_
  refine SOp.mk _ _ (SCall.pure (ivadd_ok x y hx.ok hy.ok) (And.intro rfl rfl)) rfl ?_
  repeat refine SOp.mk _ _ (And.intro rfl rfl) rfl ?_
  refine SOp.mk _ _ (SCall.pure (raddq_ok a b ba bb (by omega)) (And.intro rfl rfl)) rfl ?_
  refine SOp.mk _ _ (SCall.pure (ivhas_in (add_in hx hy a1 a2 b1 b2) (ba.add bb) (by omega)) (And.intro rfl rfl)) rfl ?_
  refine SOp.mk _ _ (SCmp.no (rfl) (And.intro rfl rfl)) rfl ?_
  repeat refine SOp.mk _ _ (And.intro rfl rfl) rfl ?_
  refine SOp.mk _ _ (SCall.pure (ivsub_ok x y hx.ok hy.ok) (And.intro rfl rfl)) rfl ?_
  repeat refine SOp.mk _ _ (And.intro rfl rfl) rfl ?_
  refine SOp.mk _ _ (SCall.pure (rsubq_ok a b ba bb (by omega)) (And.intro rfl rfl)) rfl ?_
  refine SOp.mk _ _ (SCall.pure (ivhas_in (sub_in hx hy a1 a2 b1 b2) (ba.sub bb) (by omega)) (And.intro rfl rfl)) rfl ?_
  refine SOp.mk _ _ (SCmp.no (rfl) (And.intro rfl rfl)) rfl ?_
  repeat refine SOp.mk _ _ (And.intro rfl rfl) rfl ?_
  refine SOp.mk _ _ (SCall.pure (ivmul_ok x y hx.ok hy.ok) (And.intro rfl rfl)) rfl ?_
  repeat refine SOp.mk _ _ (And.intro rfl rfl) rfl ?_
  refine SOp.mk _ _ (SCall.pure (rmulq_ok a b ba bb (by omega)) (And.intro rfl rfl)) rfl ?_
  refine SOp.mk _ _ (SCall.pure (ivhas_in (mul_in hx hy a1 a2 b1 b2) (ba.mul bb) (by omega)) (And.intro rfl rfl)) rfl ?_
  refine SOp.mk _ _ (SCmp.no (rfl) (And.intro rfl rfl)) rfl ?_
  repeat refine SOp.mk _ _ (And.intro rfl rfl) rfl ?_
  have cq := ivquo_fin x hx.ok hy
  have cz := rivhas_fin 0 hy (k := 1) ⟨by decide, by decide⟩ (by omega)
  cases h0 : hasI y 0 with
  | true =>
    rw [quoI_zero h0] at cq
    rw [h0] at cz
    refine SCall.pureT (cq) (fun _ => rfl) ?_
    refine SDraw.mk (by kernel_rfl) ?_
    repeat refine SOp.mk _ _ (And.intro rfl rfl) rfl ?_
    refine SOp.mk _ _ (SCall.pure (rzero_ok) (And.intro rfl rfl)) rfl ?_
    refine SOp.mk _ _ (SCall.pure (cz) (And.intro rfl rfl)) rfl ?_
    repeat refine SOp.mk _ _ (And.intro rfl rfl) rfl ?_
    refine SCond.mk (fun _ => ?_) (fun h => by cases h)
    refine SCmp.yes (rfl) ?_
    exact SRet.pure (.tf _)
  | false =>
    rw [quoI_some h0] at cq
    rw [h0] at cz
    have hz := no_zero hy h0
    have hb0 : b ≠ 0 := by rcases hz with h | h <;> grind
    refine SCall.pureT (cq) (fun _ => rfl) ?_
    refine SDraw.mk (by kernel_rfl) ?_
    repeat refine SOp.mk _ _ (And.intro rfl rfl) rfl ?_
    refine SOp.mk _ _ (SCall.pure (rzero_ok) (And.intro rfl rfl)) rfl ?_
    refine SOp.mk _ _ (SCall.pure (cz) (And.intro rfl rfl)) rfl ?_
    repeat refine SOp.mk _ _ (And.intro rfl rfl) rfl ?_
    refine SCond.mk (fun h => by cases h) (fun _ => ?_)
    refine SDraw.mk (by kernel_rfl) ?_
    repeat refine SOp.mk _ _ (And.intro rfl rfl) rfl ?_
    refine SOp.mk _ _ (SCmp.yes (rfl) (And.intro rfl rfl)) rfl ?_
    repeat refine SOp.mk _ _ (And.intro rfl rfl) rfl ?_
    refine SOp.mk _ _ (SCall.pure (rover_ok a b hb0 ba bb (by omega)) (And.intro rfl rfl)) rfl ?_
    refine SOp.mk _ _ (SCall.pure (ivhas_in (quo_in hx hy a1 a2 b1 b2 hz) (ba.div bb) (by omega)) (And.intro rfl rfl)) rfl ?_
    repeat refine SOp.mk _ _ (And.intro rfl rfl) rfl ?_
    exact SRet.pure (.p _ (.bool _))
end Go.Proofs.YtacklcbgkigcaaaGreat
