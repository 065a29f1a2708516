/- CertNear: the walk. -/
import Derived.Test.YtacklcbgkigcaaaGreatCqn
namespace Go.Proofs.YtacklcbgkigcaaaGreat
open Go
set_option linter.unusedVariables false
set_option linter.unusedSimpArgs false
set_option maxRecDepth 10000

/-- A number of eighths. -/
def eighth (k : Int) : Rat := mkQ (decide (k < 0) != decide ((8 : Int) < 0)) k.natAbs (8 : Int).natAbs
theorem eighth_val (k : Int) : eighth k = (k : Rat) * p2 (-3) := by
  rw [eighth, mkQ_val, show p2 (-3) = 1 / 8 by decide +kernel]
  by_cases h : k < 0
  · rw [decide_eq_true h]
    have e : (k : Rat) = -((k.natAbs : Nat) : Rat) := by
      obtain ⟨m, hm⟩ : ∃ m : Nat, m = k.natAbs := ⟨_, rfl⟩
      rw [← hm]
      have : k = -(m : Int) := by omega
      rw [this, Rat.intCast_neg, Rat.intCast_natCast]
    rw [e]; simp; grind
  · rw [decide_eq_false h]
    have e : (k : Rat) = ((k.natAbs : Nat) : Rat) := by
      obtain ⟨m, hm⟩ : ∃ m : Nat, m = k.natAbs := ⟨_, rfl⟩
      rw [← hm]
      have : k = (m : Int) := by omega
      rw [this, Rat.intCast_natCast]
    rw [e]; simp; grind
theorem eighth_fin {k : Int} (h : k.natAbs ≤ 1000000) : FinF (codeQ (eighth k)) (eighth k) := (Dy.of (e := -3) ⟨by omega, by omega, k, by omega, eighth_val k⟩ 0).1
theorem eighth_bz {k : Int} (h : k.natAbs ≤ 1000) : Bz (eighth k) 10 := Bz.mkQ (by decide) (bitLen_le (Nat.lt_of_le_of_lt h (by decide))) (bitLen_le (by decide))
def nearK (vs : List Int) (i : Nat) : Int := if i < vs.length then vs.getD i 0 % 2001 - 1000 else i
theorem nearK_le (vs : List Int) {i : Nat} (h : i < 1000) : (nearK vs i).natAbs ≤ 1000 := by unfold nearK; split <;> omega
def nearV (vs : List Int) (i : Nat) : Rat := eighth (nearK vs i)
noncomputable def nearX (vs : List Int) (i : Nat) : Nat := codeQ (nearV vs i)
theorem near_fine (vs : List Int) {n : Nat} (h : n ≤ 1000) : (codesN n (nearX vs)).all fineF = true ∧ vals (codesN n (nearX vs)) = lst n (nearV vs) := by
  have hf : ∀ i, i < n → FinF (nearX vs i) (nearV vs i) := fun i hi => eighth_fin (Nat.le_trans (nearK_le vs (by omega)) (by decide))
  refine ⟨List.all_eq_true.2 fun f hm => ?_, ?_⟩
  · obtain ⟨i, hi, rfl⟩ := List.mem_map.1 hm
    have := hf i (List.mem_range.1 hi)
    simp [fineF, this.nan, this.inf]
  · rw [vals, codesN, lst, List.map_map]
    exact List.map_congr_left fun i hi => (hf i (List.mem_range.1 hi)).val
theorem sizeQ_bound {l : List Rat} {c : Rat} (hc : 0 ≤ c) (h : ∀ j, j < l.length → (l.getD j 0).abs ≤ c) : sizeQ l ≤ c := by
  have : ∀ i, i ≤ l.length → sizeQ (l.take i) ≤ c := by
    intro i
    induction i with
    | zero => intro _; exact hc
    | succ i ih =>
      intro hi
      rw [sizeQ_take l (by omega)]
      split
      · exact h i (by omega)
      · exact ih (by omega)
  have := this l.length (Nat.le_refl _)
  rwa [List.take_length] at this
/-- What is told exactly: nothing is left. -/
theorem near_exact (M : List (List Rat)) (v : List Rat) : sizeQ (leftQ M (lst M.length fun i => (appM M v).getD i 0) v) = 0 := by
  refine sizeQ_nought fun i hi => ?_
  rw [leftQ, lst_length] at hi
  rw [leftQ, lst_getD hi, leftG, lst_getD hi, Rat.sub_self]
/-- One more on the right side: one is left. -/
theorem near_one (M : List (List Rat)) (v : List Rat) (h0 : 0 < M.length) : sizeQ (leftQ M (lst M.length (upd (fun i => (appM M v).getD i 0) 0 ((appM M v).getD 0 0 + 1))) v) = 1 := by
  have at0 : (leftQ M (lst M.length (upd (fun i => (appM M v).getD i 0) 0 ((appM M v).getD 0 0 + 1))) v).getD 0 0 = -1 := by
    rw [leftQ, lst_getD h0, leftG, lst_getD h0, upd_same]; grind
  have hl : (leftQ M (lst M.length (upd (fun i => (appM M v).getD i 0) 0 ((appM M v).getD 0 0 + 1))) v).length = M.length := by rw [leftQ, lst_length]
  have h1 := sizeQ_at (leftQ M (lst M.length (upd (fun i => (appM M v).getD i 0) 0 ((appM M v).getD 0 0 + 1))) v) (j := 0) (by omega)
  rw [at0, show ((-1 : Rat)).abs = 1 by decide +kernel] at h1
  have h2 := sizeQ_bound (l := leftQ M (lst M.length (upd (fun i => (appM M v).getD i 0) 0 ((appM M v).getD 0 0 + 1))) v) (c := 1) (by decide) (fun j hj => by
    by_cases e : j = 0
    · subst e; rw [at0]; decide +kernel
    · rw [hl] at hj
      rw [leftQ, lst_getD hj, leftG, lst_getD hj, upd_other _ _ e, Rat.sub_self]; decide +kernel)
  exact Rat.le_antisymm h2 h1

theorem certNear_ok (m1 m2 : Bool) (n : Int) (ns vs : List Int) (hns : I64s ns) (hvs : I64s vs) :
    CallP Tryz.prog 8 [.int .i64 n, .sl m1 1 (intsP ns), .sl m2 1 (intsP vs)] (.p (.bool true)) [] := by
  refine callG_of_vc (wr := wr0) Γok mixed Tryz.func8 (by kernel_rfl) rfl (by kernel_rfl) (le_of_ble rfl) (by simp) ?_
  refine SCall.pure (known16_ok) ?_
  refine SCmp.no (rfl) ?_
  have w1 := within16_ok n 4 (by omega) (by omega)
  obtain ⟨N, hN⟩ : ∃ N : Nat, (N : Int) = 1 + n % 4 := ⟨(1 + n % 4).toNat, by omega⟩
  have hN1 : 0 < N := by omega
  have hN2 : N ≤ 6 := by omega
  have hN4 : N ≤ 4 := by omega
  refine SCall.pure (w1) ?_
  refine SWrap.i64z (N : Int) (by omega) (by omega) ?_
  refine SCall.pure (make7_ok m1 N (by omega) ns hns) ?_
  have bm := mkM_bm N ns
  have hs := mkM_sq N ns
  obtain ⟨M, hM⟩ : ∃ M, M = mkM N ns := ⟨_, rfl⟩
  rw [← hM] at bm hs ⊢
  have hl := hs.rows
  have hvb : ∀ i, i < N → Bz (nearV vs i) 10 := fun i hi => eighth_bz (nearK_le vs (by omega))
  refine SLoop.mkT Nat (fun i => ([(0, .p (.int .i64 N)), (2, .p (.sl m2 1 (intsP vs))), (7, .p (matM false false M)), (8, .vec 0 1 0 i), (9, .vec 1 3 0 i), (10, .p (.int .i64 i))], [.vec 22 1 (codesP (codesN i (nearX vs))), .vec 30 3 (rats (lst i (nearV vs)))]))
    (fun i => i ≤ N) (fun i => N - i) 0 [0, 1] _ _ (.step 8 22 1 rfl (.step 9 30 3 rfl (.done _ _))) (Nat.zero_le _) ⟨rfl, by simp, rfl, rfl, rfl, ⟨rfl, rfl, rfl, rfl, rfl, rfl, trivial⟩, ⟨rfl, rfl, trivial⟩⟩ ?_
  intro i h1
  have h1 : i ≤ N := h1
  by_cases hi : i < N
  · refine SCmp.yes (decide_eq_true (by omega)) ?_
    refine SZ.mk (vs.length : Int) (by simp) ?_
    have tail : ∀ K : Int, K = nearK vs i → True := fun _ _ => trivial
    by_cases hk : i < vs.length
    · refine SCmp.yes (decide_eq_true (by omega)) ?_
      refine SIdx.ib i rfl hk ?_
      refine SCall.pure (within16_ok (vs.getD i 0) 2001 (by omega) (by omega)) ?_
      have hK : nearK vs i = vs.getD i 0 % 2001 - 1000 := if_pos hk
      refine SWrap.i64z (nearK vs i) hK.symm (by omega) ?_
      have bq := hvb i hi
      have hq : nearV vs i = eighth (nearK vs i) := rfl
      have hle := nearK_le vs (i := i) (by omega)
      refine SCall.pureT (rof2_ok (nearK vs i) 8 (by omega) (by omega) (by omega)) (fun _ => rfl) ?_
      rw [show mkQ (decide (nearK vs i < 0) != decide ((8 : Int) < 0)) (nearK vs i).natAbs (8 : Int).natAbs = nearV vs i from rfl]
      refine SCall.pureT (rfof_ok (nearV vs i) 0 bq (by omega)) (fun _ => rfl) ?_
      refine SEqN.mk (by simp [lst]) ?_
      refine SView.all rfl ?_
      refine SRoom.mk (by simp [lst]; omega) (by simp [lst]; omega) ?_
      refine SEs.mk (rats (lst (i + 1) (nearV vs))) (by rw [← lst_snoc, rats, rats, List.map_append]; rfl) ?_
      refine SZN.mk (i + 1) (by simp [lst]) ?_
      refine SEqN.mk (by simp [codesP, codesN]) ?_
      refine SView.all rfl ?_
      refine SRoom.mk (by simp [codesP, codesN]; omega) (by simp [codesP, codesN]; omega) ?_
      refine SEs.mk _ (codesN_snoc i (nearX vs)) ?_
      refine SZN.mk (i + 1) (by simp [codesP, codesN]) ?_
      refine SWrap.i64z ((i + 1 : Nat) : Int) (by omega) (by omega) ?_
      exact ⟨i + 1, [6, 4], hi, by show N - (i + 1) < N - i; omega, ⟨rfl, by simp, rfl, rfl, rfl, ⟨rfl, rfl, rfl, rfl, rfl, rfl, trivial⟩, ⟨rfl, rfl, trivial⟩⟩⟩
    · refine SCmp.no (decide_eq_false (by omega)) ?_
      have hK : nearK vs i = i := if_neg hk
      rw [← hK]
      have bq := hvb i hi
      have hq : nearV vs i = eighth (nearK vs i) := rfl
      have hle := nearK_le vs (i := i) (by omega)
      refine SCall.pureT (rof2_ok (nearK vs i) 8 (by omega) (by omega) (by omega)) (fun _ => rfl) ?_
      rw [show mkQ (decide (nearK vs i < 0) != decide ((8 : Int) < 0)) (nearK vs i).natAbs (8 : Int).natAbs = nearV vs i from rfl]
      refine SCall.pureT (rfof_ok (nearV vs i) 0 bq (by omega)) (fun _ => rfl) ?_
      refine SEqN.mk (by simp [lst]) ?_
      refine SView.all rfl ?_
      refine SRoom.mk (by simp [lst]; omega) (by simp [lst]; omega) ?_
      refine SEs.mk (rats (lst (i + 1) (nearV vs))) (by rw [← lst_snoc, rats, rats, List.map_append]; rfl) ?_
      refine SZN.mk (i + 1) (by simp [lst]) ?_
      refine SEqN.mk (by simp [codesP, codesN]) ?_
      refine SView.all rfl ?_
      refine SRoom.mk (by simp [codesP, codesN]; omega) (by simp [codesP, codesN]; omega) ?_
      refine SEs.mk _ (codesN_snoc i (nearX vs)) ?_
      refine SZN.mk (i + 1) (by simp [codesP, codesN]) ?_
      refine SWrap.i64z ((i + 1 : Nat) : Int) (by omega) (by omega) ?_
      exact ⟨i + 1, [6, 4], hi, by show N - (i + 1) < N - i; omega, ⟨rfl, by simp, rfl, rfl, rfl, ⟨rfl, rfl, rfl, rfl, rfl, rfl, trivial⟩, ⟨rfl, rfl, trivial⟩⟩⟩
  · refine SCmp.no (decide_eq_false (by omega)) ?_
    have : i = N := by omega
    subst this
    obtain ⟨f1, f2⟩ := near_fine vs (n := i) (by omega)
    have hx : OkC (codesN i (nearX vs)) := codesN_ok fun j => codeQ_lt _
    have hxl := codesN_length i (nearX vs)
    have hvl : (lst i (nearV vs)).length = i := lst_length
    have bv : Bl (lst i (nearV vs)) 10 := Bl.lst hvb
    obtain ⟨xs, hxs⟩ : ∃ xs, xs = codesN i (nearX vs) := ⟨_, rfl⟩
    obtain ⟨v, hv⟩ : ∃ v, v = lst i (nearV vs) := ⟨_, rfl⟩
    rw [← hxs] at f1 f2 hx hxl ⊢
    rw [← hv] at f2 hvl bv ⊢
    have hcl : (codesP xs).length = i := by rw [codesP, List.length_map]; exact hxl
    have hA : (appM M v).length = i := by rw [appM_length, hl]
    have bA : ∀ t, t < i → Bz ((appM M v).getD t 0) 100 := fun t ht => by
      rw [appM_getD (by omega)]
      have hcl := hs.cols t ht
      exact (dotN_bz (a := 11) (b := 10) (n := i) (fun j hj => (bm t (by omega)).1 j (by omega)) (fun j hj => bv j (by omega)) v.length (by omega)).mono (by omega)
    refine SView.all (by simp [hvl]) ?_
    have a1 := rapply7_ok false false true M v hs bm hvl bv (by omega) hN1 (by omega)
    obtain ⟨g, hg⟩ : ∃ g : Nat → Rat, g = fun t => (appM M v).getD t 0 := ⟨_, rfl⟩
    have e1 : appM M v = lst i g := by rw [hg]; have := lst_of (appM M v); rwa [hA] at this
    have bg : ∀ t, t < i → Bz (g t) 100 := fun t ht => by rw [hg]; exact bA t ht
    have n1 : sizeQ (leftQ M (lst i g) v) = 0 := by have := near_exact M v; rwa [hl, ← hg] at this
    have n2 : sizeQ (leftQ M (lst i (upd g 0 (g 0 + 1))) v) = 1 := by
      have := near_one M v (by omega)
      rw [hl, ← hg] at this
      rwa [show g 0 = (appM M v).getD 0 0 by rw [hg]]
    rw [e1] at a1
    refine SCall.fresh a1 ?_
    have blg : Bl (lst i g) 300 := Bl.lst fun t ht => (bg t ht).mono (by omega)
    have blu : Bl (lst i (upd g 0 (g 0 + 1))) 300 := Bl.lst fun t ht => by
      by_cases e : t = 0
      · subst e; rw [upd_same]; exact ((bg 0 ht).add bz_one).mono (by omega)
      · rw [upd_other _ _ e]; exact (bg t ht).mono (by omega)
    have c1 := ceta_ok false false true true M (lst i g) xs hs bm lst_length blg hx hN1 hN2 (by omega)
    have c2 := ceta_ok false false true true M (lst i (upd g 0 (g 0 + 1))) xs hs bm lst_length blu hx hN1 hN2 (by omega)
    have t1 : etaA M (lst i g) xs = etaR (ratP 0) 0 := by
      unfold etaA
      rw [if_neg (by omega), f1, f2]
      simp only [n1]
      rw [if_pos trivial]
    have t2 : etaA M (lst i (upd g 0 (g 0 + 1))) xs = etaR (ratP (1 / wholeQ M (lst i (upd g 0 (g 0 + 1))) v)) 0 := by
      unfold etaA
      rw [if_neg (by omega), f1, f2]
      simp only [n2]
      rw [if_neg (by decide)]
    have hw : wholeQ M (lst i (upd g 0 (g 0 + 1))) v ≠ 0 := fun h => by have := whole_left h; rw [n2] at this; exact absurd this (by decide)
    rw [t1] at c1
    rw [t2] at c2
    have s1 := sizeQ_bz (sums_bl bm) (by omega) _ (Nat.le_refl _)
    have s2 := sizeQ_bz bv (by omega) _ (Nat.le_refl _)
    have s3 := sizeQ_bz blu (by omega) _ (Nat.le_refl _)
    rw [List.take_length] at s1 s2 s3
    have s1 : Bz (normQ M) 100 := s1.mono (by omega)
    have d1 := rnorm16_ok false false M bm (by omega) (by omega) (by omega)
    have d2 := rsize16_ok true v bv (by omega) (by omega) (by omega)
    have d3 := rsize16_ok true (lst i (upd g 0 (g 0 + 1))) blu (by omega) (by omega) (by rw [lst_length]; omega)
    have hwq : normQ M * sizeQ v + sizeQ (lst i (upd g 0 (g 0 + 1))) = wholeQ M (lst i (upd g 0 (g 0 + 1))) v := rfl
    have bw := (s1.mul s2).add s3
    have x1 := rmulq_ok (normQ M) (sizeQ v) s1 s2 (by omega)
    have x2 := raddq_ok (normQ M * sizeQ v) (sizeQ (lst i (upd g 0 (g 0 + 1)))) (s1.mul s2) s3 (by omega)
    rw [hwq] at bw x2
    obtain ⟨w, hwd⟩ : ∃ w, w = wholeQ M (lst i (upd g 0 (g 0 + 1))) v := ⟨_, rfl⟩
    rw [← hwd] at bw x2 hw c2
    have hone : 1 / w * w = ((1 : Int) : Rat) := by
      rw [Rat.div_mul_cancel hw]; rfl
    refine SView.rf ?_
    refine SView.all hcl.symm ?_
    refine SCall.pureT (c1) (fun _ => rfl) ?_
    refine SDraw.mk (by kernel_rfl) ?_
    repeat refine SOp.mk _ _ (And.intro rfl rfl) rfl ?_
    refine SOp.mk _ _ (SCmp.no rfl (And.intro rfl rfl)) rfl ?_
    repeat refine SOp.mk _ _ (And.intro rfl rfl) rfl ?_
    refine SOp.mk _ _ (SCall.pure (rzero_ok) (And.intro rfl rfl)) rfl ?_
    refine SOp.mk _ _ (SCall.pure (rsame_self bz_zero (by omega)) (And.intro rfl rfl)) rfl ?_
    repeat refine SOp.mk _ _ (And.intro rfl rfl) rfl ?_
    refine SOp.mk _ _ (SCmp.no rfl (And.intro rfl rfl)) rfl ?_
    repeat refine SOp.mk _ _ (And.intro rfl rfl) rfl ?_
    refine SDraw.mkX (by kernel_rfl) ?_
    repeat refine SOp.mk _ _ (And.intro rfl rfl) rfl ?_
    refine SOp.mk _ _ (SPos.mk 0 rfl hN1 (And.intro rfl rfl)) rfl ?_
    refine SOp.mk _ _ (SIdx.mk 0 _ rfl (ratsI (g := g) hN1) (And.intro rfl rfl)) rfl ?_
    refine SOp.mk _ _ (SCall.pure (rint_ok 1 (by omega)) (And.intro rfl rfl)) rfl ?_
    refine SOp.mk _ _ (SCall.pure (raddq_ok (g 0) ((1 : Int) : Rat) (bg 0 hN1) bz_one (by omega)) (And.intro rfl rfl)) rfl ?_
    refine SOp.mk _ _ (SPos.mk 0 rfl hN1 (And.intro rfl rfl)) rfl ?_
    refine SOp.mk _ _ (SLt.rf hN1 <| SEs.rf (And.intro rfl rfl)) rfl ?_
    repeat refine SOp.mk _ _ (And.intro rfl rfl) rfl ?_
    refine SFin.mk (by kernel_rfl) ?_
    refine SView.rf ?_
    refine SView.all hcl.symm ?_
    refine SCall.pureT (c2) (fun _ => rfl) ?_
    refine SCall.pure (d1) ?_
    refine SView.all (by simp [hvl]) ?_
    refine SCall.pure (d2) ?_
    refine SCall.pure (x1) ?_
    refine SView.rf ?_
    refine SCall.pure (d3) ?_
    refine SCall.pure (x2) ?_
    refine SCmp.yes (rfl) ?_
    refine SCall.pure (rnought_ok w) ?_
    rw [decide_eq_false hw]
    refine SCond.mk (fun h => by cases h) (fun _ => ?_)
    refine SCall.pure (rmulq_ok (1 / w) w (bz_one.div bw) bw (by omega)) ?_
    refine SCall.pure (rint_ok 1 (by omega)) ?_
    rw [hone]
    refine SCall.pure (rsame_self bz_one (by omega)) ?_
    exact SRet.pure (.p _ (.bool _))
end Go.Proofs.YtacklcbgkigcaaaGreat
