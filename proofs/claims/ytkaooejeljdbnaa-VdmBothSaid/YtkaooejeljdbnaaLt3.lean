/- VdmBoth. -/
import Derived.Test.YtkaooejeljdbnaaLt2
import Derived.Test.YtkaooejeljdbnaaMs2
namespace Go.Proofs.Ytkaooejeljdbnaa
open Go
set_option linter.unusedVariables false
set_option linter.unusedSimpArgs false
set_option maxRecDepth 10000

theorem vboth_ok (m m' m'' : Bool) (n : Int) (ns fs gs : List Int) (hn : I64 n) (hns : I64s ns) (hfs : I64s fs) (hgs : I64s gs) :
    CallP Try.prog 5 [.int .i64 n, .sl m 1 (intsP ns), .sl m' 1 (intsP fs), .sl m'' 1 (intsP gs)] (.p (.bool true)) [] := by
  refine callG_of_vc (wr := wr0) Γok mixed Try.func5 (by kernel_rfl) rfl (by kernel_rfl) (le_of_ble rfl) (by simp) ?_
  refine SCall.pure (known14_ok) ?_
  refine SCmp.no (rfl) ?_
  refine SCall.pure (within14_ok n 5 (by omega) (by omega)) ?_
  obtain ⟨N, hN⟩ : ∃ N : Nat, 1 + n % 5 = ((N + 1 : Nat) : Int) := ⟨(n % 5).toNat, by omega⟩
  have hN6 : N ≤ 4 := by omega
  refine SWrap.i64z ((N + 1 : Nat) : Int) hN (by omega) ?_
  refine SCall.pure (nodes14_ok m ns hns (N + 1) (by omega)) ?_
  refine SCall.pure (row2_ok m' fs hfs (N + 1) (by omega)) ?_
  refine SCall.pure (row2_ok m'' gs hgs (N + 1) (by omega)) ?_
  obtain ⟨x, hx⟩ : ∃ x, x = nodeG ns := ⟨_, rfl⟩
  obtain ⟨f, hf⟩ : ∃ f, f = rowG fs := ⟨_, rfl⟩
  obtain ⟨b, hb⟩ : ∃ b, b = rowG gs := ⟨_, rfl⟩
  have bx : ∀ i, i < N + 1 → Bz (x i) 6 := fun i hi => by rw [hx]; exact nodeG_bz ns (by omega)
  have bf : ∀ i, i < N + 1 → Bz (f i) 5 := fun i hi => by rw [hf]; exact rowG_bz fs i
  have bB : ∀ i, i < N + 1 → Bz (b i) 5 := fun i hi => by rw [hb]; exact rowG_bz gs i
  rw [← hx, ← hf, ← hb]
  have bsl : bs (2 * 6 + 2) 5 ((lst (N + 1) x).length + (lst (N + 1) x).length) ≤ 1048576 := Nat.le_trans (bs_mono (j := 12) (by rw [lst_length]; omega)) (by decide)
  have bsl2 : bs (4 * 6 + 4) 5 ((lst (N + 1) x).length + (lst (N + 1) x).length) ≤ 1048576 := Nat.le_trans (bs_mono (j := 12) (by rw [lst_length]; omega)) (by decide)
  have hT1 := Through_ok false false (lst (N + 1) x) (lst (N + 1) f) (s := 6) (b := 5) (Bl.lst bx) (Bl.lst bf) (by omega) bsl (by rw [lst_length]; omega)
  have hT2 := Moments_ok false false (lst (N + 1) x) (lst (N + 1) b) (s := 6) (b := 5) (Bl.lst bx) (Bl.lst bB) (by omega) bsl2 (by rw [lst_length]; omega)
  by_cases hd : Inj x (N + 1)
  · rw [if_pos (rightZ_lst.1 hd)] at hT1 hT2
    obtain ⟨w, hw, hw2, hwb⟩ := momL_spec hd bx bB
    obtain ⟨c, hc, hc2, hcb⟩ := thrL_spec hd bx bf
    rw [hc] at hT1
    rw [hw] at hT2
    have hwb : ∀ i, i < N + 1 → Bz (w i) 33764 := fun i hi => (hwb i hi).mono (Nat.le_trans (bs_mono (j := 10) (by omega)) (by decide))
    have hcb : ∀ i, i < N + 1 → Bz (c i) 33764 := fun i hi => (hcb i hi).mono (Nat.le_trans (bs_mono (j := 10) (by omega)) (by decide))
    have z1 : ∀ i, i < N + 1 → Bz (w i * f i) 33801 := fun i hi => ((hwb i hi).mul (bf i hi)).mono (by omega)
    have z2 : ∀ i, i < N + 1 → Bz (b i * c i) 33801 := fun i hi => ((bB i hi).mul (hcb i hi)).mono (by omega)
    have s1 := sm_bz z1
    have s2 := sm_bz z2
    have lim : ∀ k, k ≤ N + 1 → k * (33801 + 1) + 1 + 33801 + 1 ≤ 1048576 := fun k hk => Nat.le_trans (Nat.add_le_add_right (Nat.add_le_add_right (Nat.add_le_add_right (Nat.mul_le_mul_right (33801 + 1) (show k ≤ 5 by omega)) 1) 33801) 1) (by decide)
    refine SCall.pureT (hT1) (fun _ => rfl) ?_
    refine SCall.pureT (hT2) (fun _ => rfl) ?_
    refine SCmp.no (rfl) ?_
    refine SCmp.no (rfl) ?_
    refine SZ.mk ((N + 1 : Nat) : Int) (by simp [lst]) ?_
    refine SCmp.no (neF rfl) ?_
    refine SZ.mk ((N + 1 : Nat) : Int) (by simp [lst]) ?_
    refine SCmp.no (neF rfl) ?_
    refine SCall.pure (rzero_ok) ?_
    refine SCall.pure (rzero_ok) ?_
    refine SLoop.mk Nat (fun k => ([(0, .p (.int .i64 ((N + 1 : Nat) : Int))), (10, .p (ratsM false (lst (N + 1) f))), (11, .p (ratsM false (lst (N + 1) b))), (12, .p (ratsM false (lst (N + 1) c))), (14, .p (ratsM false (lst (N + 1) w))), (16, .bptr 0 0), (17, .bptr 1 0), (18, .p (.int .i64 k))],
        [.box 37 (bxQ (sm k fun i => w i * f i)), .box 37 (bxQ (sm k fun i => b i * c i))]))
      (fun k => k ≤ N + 1) (fun k => N + 1 - k) 0 [0, 1] (Nat.zero_le _) ⟨rfl, by simp, rfl, rfl, rfl, ⟨rfl, rfl, rfl, rfl, rfl, rfl, rfl, rfl, trivial⟩, ⟨rfl, rfl, trivial⟩⟩ ?_
    intro k hk
    have hk : k ≤ N + 1 := hk
    by_cases hkN : k < N + 1
    · refine SCmp.yes (decide_eq_true (by omega)) ?_
      refine SDraw.mkX (by kernel_rfl) ?_
      repeat refine SOp.mk _ _ (And.intro rfl rfl) rfl ?_
      refine SOp.mk _ _ (SIdx.rf k rfl hkN (And.intro rfl rfl)) rfl ?_
      repeat refine SOp.mk _ _ (And.intro rfl rfl) rfl ?_
      refine SOp.mk _ _ (SIdx.rf k rfl hkN (And.intro rfl rfl)) rfl ?_
      repeat refine SOp.mk _ _ (And.intro rfl rfl) rfl ?_
      refine SOp.mk _ _ (SCall.pure (rmulq_ok _ _ (hwb k hkN) (bf k hkN) (by omega)) (And.intro rfl rfl)) rfl ?_
      refine SOp.mk _ _ (SCall.pure (raddq_ok _ _ (s1 k hk) (z1 k hkN) (lim k hk)) (And.intro rfl rfl)) rfl ?_
      repeat refine SOp.mk _ _ (And.intro rfl rfl) rfl ?_
      refine SOp.mk _ _ (SIdx.rf k rfl hkN (And.intro rfl rfl)) rfl ?_
      repeat refine SOp.mk _ _ (And.intro rfl rfl) rfl ?_
      refine SOp.mk _ _ (SIdx.rf k rfl hkN (And.intro rfl rfl)) rfl ?_
      repeat refine SOp.mk _ _ (And.intro rfl rfl) rfl ?_
      refine SOp.mk _ _ (SCall.pure (rmulq_ok _ _ (bB k hkN) (hcb k hkN) (by omega)) (And.intro rfl rfl)) rfl ?_
      refine SOp.mk _ _ (SCall.pure (raddq_ok _ _ (s2 k hk) (z2 k hkN) (lim k hk)) (And.intro rfl rfl)) rfl ?_
      repeat refine SOp.mk _ _ (And.intro rfl rfl) rfl ?_
      refine SFin.mk (by kernel_rfl) ?_
      refine SWrap.i64z ((k + 1 : Nat) : Int) (by omega) (by omega) ?_
      exact ⟨k + 1, [0, 1], hkN, by show N + 1 - (k + 1) < N + 1 - k; omega, ⟨rfl, by simp, rfl, rfl, rfl, ⟨rfl, rfl, rfl, rfl, rfl, rfl, rfl, rfl, trivial⟩, ⟨rfl, rfl, trivial⟩⟩⟩
    · refine SCmp.no (decide_eq_false (by omega)) ?_
      obtain rfl : k = N + 1 := by omega
      have l2 : (N + 1) * (33801 + 1) + 1 ≤ 524288 := Nat.le_trans (Nat.add_le_add_right (Nat.mul_le_mul_right (33801 + 1) (show N + 1 ≤ 5 by omega)) 1) (by decide)
      have hS := rsame_ok (sm (N + 1) fun i => w i * f i) (sm (N + 1) fun i => b i * c i) (k := 524288) ((s1 _ (Nat.le_refl _)).mono l2) ((s2 _ (Nat.le_refl _)).mono l2) (by decide)
      rw [decide_eq_true (both hd hc2 hw2)] at hS
      refine SCall.pure (hS) ?_
      refine SCond.mk (fun _ => ?_) (fun h => by cases h)
      refine SCall.pure (rint_ok 1 (by decide)) ?_
      have hRk := rrank_ok true true 1 (fun _ _ => ((1 : Int) : Rat)) (R := bb 1) (.std (fun i k _ _ => bz_one) (Nat.le_refl _) (by decide)) (by decide)
      refine SLendR.mk [ratsM true (lst 1 fun _ => ((1 : Int) : Rat))] rfl rfl (fun i c p e1 e2 => ?_) ?_
      · match i, e1, e2 with
        | 0, e1, e2 =>
          cases e1; cases e2
          exact LendR.vec (T := 37) (es := [ratP ((1 : Int) : Rat)]) (off := 0) (len := 1) rfl (Nat.le_refl _)
        | i + 1, e1, e2 => simp at e1
      refine SCall.pure (pvs := [matP true true 1 1 fun _ _ => ((1 : Int) : Rat)]) hRk ?_
      refine SCmp.yes (rfl) ?_
      exact SRet.pure (.tf _)
  · rw [if_neg (by rw [rightZ_lst.2 hd]; decide), rightZ_lst.2 hd] at hT1 hT2
    refine SCall.pureT (hT1) (fun _ => rfl) ?_
    refine SCall.pureT (hT2) (fun _ => rfl) ?_
    refine SCmp.yes (rfl) ?_
    refine SCmp.yes (rfl) ?_
    refine SCmp.yes (rfl) ?_
    exact SRet.pure (.tf _)
end Go.Proofs.Ytkaooejeljdbnaa
