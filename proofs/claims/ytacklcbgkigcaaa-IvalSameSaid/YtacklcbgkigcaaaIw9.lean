/- IvalNarrow, IvalSame: the walks. -/
import Derived.Test.YtacklcbgkigcaaaIw5
namespace Go.Proofs.Ytacklcbgkigcaaa
open Go
set_option linter.unusedVariables false
set_option linter.unusedSimpArgs false
set_option maxRecDepth 10000

theorem of_small {q : Rat} (hb : Bz q 1010) : ∃ u v, FinI (ofI q) u v ∧ u ≤ q ∧ q ≤ v ∧ ((ofI q).1 = (ofI q).2 ∨ nextF (ofI q).1 true = (ofI q).2) := by
  obtain ⟨lo, hi, g, u, v, e2, e3, _, f1, f2, h1, h2, alt⟩ := between_of hb
  have e : ofI q = (lo, hi) := by rw [ofI, e2, e3]
  rw [e]
  refine ⟨u, v, ⟨f1, f2, Rat.le_trans h1 h2⟩, h1, h2, ?_⟩
  rcases alt with ⟨h, _, _⟩ | ⟨_, _, h⟩
  · exact .inl h
  · exact .inr h
theorem of_fin {y : Nat} {q : Rat} (h : FinF y q) : ∃ z, ofI q = (z, z) ∧ FinF z q := by
  by_cases h0 : q = 0
  · subst h0
    have f : FinF 0 0 := FinF.zero (neg := false)
    exact ⟨0, by rw [ofI, ofF, ofF, if_pos rfl, if_pos rfl], f⟩
  · have hz : isZ y = false := by cases hz : isZ y with | false => rfl | true => exact absurd (h.isZ.1 hz) h0
    have e := fun m => rS_fvq h.lt h.nan h.inf hz m
    refine ⟨y, ?_, h⟩
    rw [h.val] at e
    rw [ofI, ofF, ofF, if_neg h0, if_neg h0, e, e]
theorem ivalNarrow_ok (neg mm mm' : Bool) (N D : List Nat) (hN : Lok N) (hD : Lok D) (f : Nat) (n : Int) (hf : f < 18446744073709551616) :
    CallP Try.prog 3 [rawP neg mm mm' N D, .int .u64 f, .int .i64 n] (.p (.bool true)) [] := by
  refine callG_of_vc (wr := wr0) Γok mixed Try.func3 (by kernel_rfl) rfl (by kernel_rfl) (le_of_ble rfl) (by simp) ?_
  refine SCall.pure (known4_ok) ?_
  refine SCmp.no (rfl) ?_
  have c1 := qmake_ok neg mm mm' N D hN hD
  have br := rawQ_bz neg hN hD
  obtain ⟨r, hrd⟩ : ∃ r, r = rawQ neg N D := ⟨_, rfl⟩
  rw [← hrd] at c1 br
  refine SCall.pure (c1) ?_
  refine SCall.pure (ivof_ok r br (by omega)) ?_
  refine SCall.pure (end4_ok f n hf) ?_
  have fe := endF_fin hf n
  have be := fe.bz
  obtain ⟨q, hq⟩ : ∃ q, q = fvq (endF f n) := ⟨_, rfl⟩
  rw [← hq] at fe be
  refine SCall.pureT (rfrat_fin fe) (fun _ => rfl) ?_
  obtain ⟨z, hz, fz⟩ := of_fin fe
  have c2 := ivof_ok q be (by omega)
  rw [hz] at c2
  refine SCall.pure (c2) ?_
  obtain ⟨u, v, hi, h1, h2, alt⟩ := of_small (br.mono (show 96 ≤ 1010 by omega))
  have cr := ivright_ok (ofI r) hi.ok
  rw [hi.right] at cr
  have ch := ivhas_in (hi.inI h1 h2) br (by omega)
  have hj : FinI (z, z) q q := ⟨fz, fz, Rat.le_refl⟩
  have cj := ivhas_in (hj.inI Rat.le_refl Rat.le_refl) be (by omega)
  have cn := rfnext_ok (ofI r).1 hi.lo.lt true
  obtain ⟨i, hid⟩ : ∃ i, i = ofI r := ⟨_, rfl⟩
  rw [← hid] at cr ch cn alt
  by_cases he : (ofI r).1 = (ofI r).2
  · refine SDraw.mk (by kernel_rfl) ?_
    repeat refine SOp.mk _ _ (And.intro rfl rfl) rfl ?_
    rw [hid] at cr ch
    refine SOp.mk _ _ (SCall.pure (cr) (And.intro rfl rfl)) rfl ?_
    repeat refine SOp.mk _ _ (And.intro rfl rfl) rfl ?_
    refine SOp.mk _ _ (SCall.pure (ch) (And.intro rfl rfl)) rfl ?_
    repeat refine SOp.mk _ _ (And.intro rfl rfl) rfl ?_
    refine SOp.mk _ _ (SCmp.yes (eqT (by rw [he])) (And.intro rfl rfl)) rfl ?_
    repeat refine SOp.mk _ _ (And.intro rfl rfl) rfl ?_
    refine SOp.mk _ _ (SCmp.yes (eqT rfl) (And.intro rfl rfl)) rfl ?_
    repeat refine SOp.mk _ _ (And.intro rfl rfl) rfl ?_
    refine SOp.mk _ _ (SCall.pure (cj) (And.intro rfl rfl)) rfl ?_
    repeat refine SOp.mk _ _ (And.intro rfl rfl) rfl ?_
    exact SRet.pure (.p _ (.bool _))
  · rw [hid] at cr ch cn alt
    have hnx := alt.resolve_left he
    rw [hnx] at cn
    refine SDraw.mk (by kernel_rfl) ?_
    repeat refine SOp.mk _ _ (And.intro rfl rfl) rfl ?_
    refine SOp.mk _ _ (SCall.pure (cr) (And.intro rfl rfl)) rfl ?_
    repeat refine SOp.mk _ _ (And.intro rfl rfl) rfl ?_
    refine SOp.mk _ _ (SCall.pure (ch) (And.intro rfl rfl)) rfl ?_
    repeat refine SOp.mk _ _ (And.intro rfl rfl) rfl ?_
    refine SOp.mk _ _ (SCmp.no (eqF (by omega)) (And.intro rfl rfl)) rfl ?_
    repeat refine SOp.mk _ _ (And.intro rfl rfl) rfl ?_
    refine SOp.mk _ _ (SCall.pure (cn) (And.intro rfl rfl)) rfl ?_
    repeat refine SOp.mk _ _ (And.intro rfl rfl) rfl ?_
    refine SOp.mk _ _ (SCmp.yes (eqT rfl) (And.intro rfl rfl)) rfl ?_
    repeat refine SOp.mk _ _ (And.intro rfl rfl) rfl ?_
    refine SOp.mk _ _ (SCmp.yes (eqT rfl) (And.intro rfl rfl)) rfl ?_
    repeat refine SOp.mk _ _ (And.intro rfl rfl) rfl ?_
    refine SOp.mk _ _ (SCall.pure (cj) (And.intro rfl rfl)) rfl ?_
    repeat refine SOp.mk _ _ (And.intro rfl rfl) rfl ?_
    exact SRet.pure (.p _ (.bool _))

theorem alike_ok (a b : IvT) (ha : IvOk a) (hb : IvOk b) (h1 : (cmpF a.1 b.1).1 = 0) (h2 : (cmpF a.2 b.2).1 = 0) : CallP Try.prog 21 [ivP a, ivP b] (.p (.bool true)) [] := by
  refine callG_of_vc (wr := wr0) Γok mixed Try.func21 (by kernel_rfl) rfl (by kernel_rfl) (le_of_ble rfl) (by simp) ?_
  have c1 := rfcmp_ok a.1 b.1 ha.lo hb.lo
  have c2 := rfcmp_ok a.2 b.2 ha.hi hb.hi
  obtain ⟨⟨o, p⟩, e1⟩ : ∃ r, r = cmpF a.1 b.1 := ⟨_, rfl⟩
  obtain ⟨⟨o', p'⟩, e2⟩ : ∃ r, r = cmpF a.2 b.2 := ⟨_, rfl⟩
  rw [← e1] at c1 h1
  rw [← e2] at c2 h2
  obtain rfl : o = 0 := h1
  obtain rfl : o' = 0 := h2
  refine SCall.pureT (c1) (fun _ => rfl) ?_
  refine SCall.pureT (c2) (fun _ => rfl) ?_
  refine SCmp.yes (rfl) ?_
  refine SCmp.yes (rfl) ?_
  exact SRet.pure (.tf _)
theorem cmpI_same {a b : Int} (h1 : a ≤ b) (h2 : b ≤ a) : cmpI a b = 0 := by unfold cmpI; rw [if_neg (by omega), if_neg (by omega)]
theorem mul_alike {x y : IvT} {A B C D : Rat} (hx : FinI x A B) (hy : FinI y C D) : (cmpF (mulI x y).1 (mulI y x).1).1 = 0 ∧ (cmpF (mulI x y).2 (mulI y x).2).1 = 0 := by
  have l1 := mul_lo hx hy
  have l2 := mul_lo hy hx
  have g1 := mul_hi hx hy
  have g2 := mul_hi hy hx
  have s1 : ∀ p ∈ [C * A, C * B, D * A, D * B], p ∈ [A * C, A * D, B * C, B * D] := fun p hp => by
    simp only [List.mem_cons, List.not_mem_nil, or_false] at hp ⊢
    rcases hp with e | e | e | e
    · left; rw [e, Rat.mul_comm]
    · right; right; left; rw [e, Rat.mul_comm]
    · right; left; rw [e, Rat.mul_comm]
    · right; right; right; rw [e, Rat.mul_comm]
  have s2 : ∀ p ∈ [A * C, A * D, B * C, B * D], p ∈ [C * A, C * B, D * A, D * B] := fun p hp => by
    simp only [List.mem_cons, List.not_mem_nil, or_false] at hp ⊢
    rcases hp with e | e | e | e
    · left; rw [e, Rat.mul_comm]
    · right; right; left; rw [e, Rat.mul_comm]
    · right; left; rw [e, Rat.mul_comm]
    · right; right; right; rw [e, Rat.mul_comm]
  rw [cmpF_num l1.num l2.num, cmpF_num g1.num g2.num]
  exact ⟨cmpI_same (l1.mono l2 fun p hp => ⟨p, s1 p hp, Rat.le_refl⟩) (l2.mono l1 fun p hp => ⟨p, s2 p hp, Rat.le_refl⟩),
    cmpI_same (g1.mono g2 fun p hp => ⟨p, s2 p hp, Rat.le_refl⟩) (g2.mono g1 fun p hp => ⟨p, s1 p hp, Rat.le_refl⟩)⟩
theorem addI_comm (x y : IvT) : addI x y = addI y x := by rw [addI, addI, addF_comm x.1, addF_comm x.2]
theorem negI_negI {x : IvT} (h : IvOk x) : negI (negI x) = x := by
  obtain ⟨a, b⟩ := x
  show (flip (flip a), flip (flip b)) = _
  rw [flip_flip h.lo, flip_flip h.hi]
theorem small_in (k : Int) : Bz (smallQ k) 1010 := (smallQ_bz k).mono (by omega)
theorem ivalSame_ok (i j : IvT) (n m k : Int) (hi : IvOk i) (hj : IvOk j) (hn : I64 n) (hm : I64 m) (hk : I64 k) :
    CallP Try.prog 4 [ivP i, ivP j, .int .i64 n, .int .i64 m, .int .i64 k] (.p (.bool true)) [] := by
  refine callG_of_vc (wr := wr0) Γok mixed Try.func4 (by kernel_rfl) rfl (by kernel_rfl) (le_of_ble rfl) (by simp) ?_
  refine SCall.pure (known4_ok) ?_
  refine SCmp.no (rfl) ?_
  have c1 := make4_ok i n hi hn
  have c2 := make4_ok j m hj hm
  obtain ⟨A, B, hx⟩ := makeI_fin hi.lo hi.hi n
  obtain ⟨C, E, hy⟩ := makeI_fin hj.lo hj.hi m
  obtain ⟨x, hxd⟩ : ∃ x, x = makeI i n := ⟨_, rfl⟩
  obtain ⟨y, hyd⟩ : ∃ y, y = makeI j m := ⟨_, rfl⟩
  rw [← hxd] at c1 hx
  rw [← hyd] at c2 hy
  refine SDraw.mkX (by kernel_rfl) ?_
  repeat refine SOp.mk _ _ (And.intro rfl rfl) rfl ?_
  refine SOp.mk _ _ (SCall.pure (c1) (And.intro rfl rfl)) rfl ?_
  repeat refine SOp.mk _ _ (And.intro rfl rfl) rfl ?_
  refine SOp.mk _ _ (SCall.pure (c2) (And.intro rfl rfl)) rfl ?_
  repeat refine SOp.mk _ _ (And.intro rfl rfl) rfl ?_
  refine SFin.mk (by kernel_rfl) ?_
  have c3 := small2_ok k hk
  have bq := small_in k
  obtain ⟨q, hq⟩ : ∃ q, q = smallQ k := ⟨_, rfl⟩
  rw [← hq] at c3 bq
  refine SCall.pure (c3) ?_
  refine SCall.pure (ivof_ok q bq (by omega)) ?_
  refine SCall.pure (ivmul_ok x y hx.ok hy.ok) ?_
  refine SCall.pure (ivmul_ok y x hy.ok hx.ok) ?_
  obtain ⟨u, v, hp, h1, h2, _⟩ := of_small bq
  obtain ⟨p, hpd⟩ : ∃ p, p = ofI q := ⟨_, rfl⟩
  have okm : IvOk (mulI x y) := NumI.ok (mul_lo hx hy).num (mul_hi hx hy).num
  have okm2 : IvOk (mulI y x) := NumI.ok (mul_lo hy hx).num (mul_hi hy hx).num
  obtain ⟨a1, a2⟩ := mul_alike hx hy
  have ca := alike_ok (mulI x y) (mulI y x) okm okm2 a1 a2
  have cadd := ivadd_ok y x hy.ok hx.ok
  rw [addI_comm y x] at cadd
  have cnn := ivneg_ok (negI x) (NegI.ok hx.ok)
  rw [negI_negI hx.ok] at cnn
  have s0 := sub_in hp hp h1 h2 h1 h2
  rw [show q - q = 0 by grind] at s0
  have okp : IvOk (subI (ofI q) (ofI q)) := NumI.ok s0.n1 s0.n2
  refine SDraw.mk (by kernel_rfl) ?_
  repeat refine SOp.mk _ _ (And.intro rfl rfl) rfl ?_
  refine SOp.mk _ _ (SCall.pure (ivadd_ok x y hx.ok hy.ok) (And.intro rfl rfl)) rfl ?_
  repeat refine SOp.mk _ _ (And.intro rfl rfl) rfl ?_
  refine SOp.mk _ _ (SCall.pure (cadd) (And.intro rfl rfl)) rfl ?_
  refine SOp.mk _ _ (SCmp.yes (by simp) (And.intro rfl rfl)) rfl ?_
  repeat refine SOp.mk _ _ (And.intro rfl rfl) rfl ?_
  refine SOp.mk _ _ (SCall.pure (ca) (And.intro rfl rfl)) rfl ?_
  repeat refine SOp.mk _ _ (And.intro rfl rfl) rfl ?_
  refine SOp.mk _ _ (SCall.pure (ivsub_ok x y hx.ok hy.ok) (And.intro rfl rfl)) rfl ?_
  repeat refine SOp.mk _ _ (And.intro rfl rfl) rfl ?_
  refine SOp.mk _ _ (SCall.pure (ivneg_ok y hy.ok) (And.intro rfl rfl)) rfl ?_
  refine SOp.mk _ _ (SCall.pure (ivadd_ok x (negI y) hx.ok (NegI.ok hy.ok)) (And.intro rfl rfl)) rfl ?_
  refine SOp.mk _ _ (SCmp.yes (by simp [subI]) (And.intro rfl rfl)) rfl ?_
  repeat refine SOp.mk _ _ (And.intro rfl rfl) rfl ?_
  refine SOp.mk _ _ (SCall.pure (ivneg_ok x hx.ok) (And.intro rfl rfl)) rfl ?_
  refine SOp.mk _ _ (SCall.pure (cnn) (And.intro rfl rfl)) rfl ?_
  repeat refine SOp.mk _ _ (And.intro rfl rfl) rfl ?_
  refine SOp.mk _ _ (SCmp.yes (by simp) (And.intro rfl rfl)) rfl ?_
  repeat refine SOp.mk _ _ (And.intro rfl rfl) rfl ?_
  refine SOp.mk _ _ (SCall.pure (ivsub_ok (ofI q) (ofI q) hp.ok hp.ok) (And.intro rfl rfl)) rfl ?_
  refine SOp.mk _ _ (SCall.pure (rzero_ok) (And.intro rfl rfl)) rfl ?_
  refine SOp.mk _ _ (SCall.pure (ivhas_in s0 (k := 1) ⟨by decide, by decide⟩ (by omega)) (And.intro rfl rfl)) rfl ?_
  repeat refine SOp.mk _ _ (And.intro rfl rfl) rfl ?_
  refine SOp.mk _ _ (SCall.pure (ivmul_ok (ofI q) (ofI q) hp.ok hp.ok) (And.intro rfl rfl)) rfl ?_
  repeat refine SOp.mk _ _ (And.intro rfl rfl) rfl ?_
  refine SOp.mk _ _ (SCall.pure (rmulq_ok q q bq bq (by omega)) (And.intro rfl rfl)) rfl ?_
  refine SOp.mk _ _ (SCall.pure (ivhas_in (mul_in hp hp h1 h2 h1 h2) (bq.mul bq) (by omega)) (And.intro rfl rfl)) rfl ?_
  repeat refine SOp.mk _ _ (And.intro rfl rfl) rfl ?_
  exact SRet.pure (.p _ (.bool _))
end Go.Proofs.Ytacklcbgkigcaaa
