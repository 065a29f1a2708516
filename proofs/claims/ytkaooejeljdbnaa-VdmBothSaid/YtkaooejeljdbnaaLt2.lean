/- VdmMoments. -/
import Derived.Test.YtkaooejeljdbnaaLt1
namespace Go.Proofs.Ytkaooejeljdbnaa
open Go
set_option linter.unusedVariables false
set_option linter.unusedSimpArgs false
set_option maxRecDepth 10000

theorem sm_bz {F : Nat → Rat} {B n : Nat} (h : ∀ i, i < n → Bz (F i) B) : ∀ k, k ≤ n → Bz (sm k F) (k * (B + 1) + 1) := by
  intro k
  induction k with
  | zero => exact fun _ => bz_zero.mono (by omega)
  | succ k ih =>
    intro hk
    exact ((ih (by omega)).add (h k (by omega))).mono (by rw [Nat.succ_mul]; omega)

theorem vmoments_ok (m m' : Bool) (n : Int) (ns fs : List Int) (sh : Bool) (hn : I64 n) (hns : I64s ns) (hfs : I64s fs) :
    CallP Try.prog 4 [.int .i64 n, .sl m 1 (intsP ns), .sl m' 1 (intsP fs), .bool sh] (.p (.bool true)) [] := by
  refine callG_of_vc (wr := wr0) Γok mixed Try.func4 (by kernel_rfl) rfl (by kernel_rfl) (le_of_ble rfl) (by simp) ?_
  refine SCall.pure (known14_ok) ?_
  refine SCmp.no (rfl) ?_
  refine SCall.pure (within14_ok n 6 (by omega) (by omega)) ?_
  obtain ⟨N, hN⟩ : ∃ N : Nat, 1 + n % 6 = ((N + 1 : Nat) : Int) := ⟨(n % 6).toNat, by omega⟩
  have hN6 : N ≤ 5 := by omega
  refine SWrap.i64z ((N + 1 : Nat) : Int) hN (by omega) ?_
  refine SCall.pure (nodes14_ok m ns hns (N + 1) (by omega)) ?_
  obtain ⟨x, hx⟩ : ∃ x, x = nodeG ns := ⟨_, rfl⟩
  obtain ⟨f, hf⟩ : ∃ f, f = rowG fs := ⟨_, rfl⟩
  have bx : ∀ i, i < N + 1 → Bz (x i) 6 := fun i hi => by rw [hx]; exact nodeG_bz ns (by omega)
  have bf : ∀ i, i < N + 1 → Bz (f i) 5 := fun i hi => by rw [hf]; exact rowG_bz fs i
  rw [← hx]
  have bsl : bs (4 * 6 + 4) 5 ((lst (N + 1) x).length + (lst (N + 1) x).length) ≤ 1048576 := Nat.le_trans (bs_mono (j := 12) (by rw [lst_length]; omega)) (by decide)
  have hap := apart14_ok false (lst (N + 1) x) (Bl.lst bx) (by omega) (by rw [lst_length]; omega)
  cases sh with
  | true =>
    have hrow := row2v_ok m' fs hfs (N + 1) (by omega)
    rw [← hf] at hrow
    obtain ⟨g, hg⟩ : ∃ g : Nat → Rat, g = fun i => if i < N + 1 then f i else 1 := ⟨_, rfl⟩
    have ng : rats (lst (N + 1) f) ++ [ratP ((1 : Int) : Rat)] = rats (lst (N + 1 + 1) g) := by
      rw [show lst (N + 1) f = lst (N + 1) g from lst_congr fun i hi => by rw [hg]; simp [hi]]
      exact app_lst _ _ _ (by rw [hg]; simp)
    have bg : ∀ i, i < N + 1 + 1 → Bz (g i) 5 := fun i hi => by
      rw [hg]; dsimp only
      split
      · exact bf i (by assumption)
      · exact bz_one.mono (by omega)
    have hne : (lst (N + 1) x).length ≠ (lst (N + 1 + 1) g).length := by rw [lst_length, lst_length]; omega
    have hT1 := Moments_ok false true (lst (N + 1) x) (lst (N + 1 + 1) g) (s := 6) (b := 5) (Bl.lst bx) (Bl.lst bg) (by omega) bsl (by rw [lst_length]; omega)
    have hT2 := rmomLong_ok false true (lst (N + 1) x) (lst (N + 1 + 1) g) hne (by rw [lst_length]; omega) (by rw [lst_length]; omega)
    rw [rightZ_long hne, if_neg (by decide)] at hT1
    refine SCall.fresh (pvs := [.sl m' 1 (intsP fs), .int .i64 ((N + 1 : Nat) : Int)]) hrow ?_
    refine SCond.mk (fun _ => ?_) (fun h => by cases h)
    refine SCall.pure (rint_ok 1 (by decide)) ?_
    refine SEqN.mk (by simp [lst]) ?_
    refine SView.all rfl ?_
    refine SRoom.mk (by simp [lst]; omega) (by simp [lst]; omega) ?_
    refine SEs.mk _ ng ?_
    refine SZN.mk (N + 1 + 1) (by simp [lst]) ?_
    refine SView.rf ?_
    refine SCall.pureT (pvs := [ratsM false (lst (N + 1) x), ratsM true (lst (N + 1 + 1) g)]) hT1 (fun _ => rfl) ?_
    refine SView.rf ?_
    refine SCall.pureT (pvs := [ratsM false (lst (N + 1) x), ratsM true (lst (N + 1 + 1) g)]) hT2 (fun _ => rfl) ?_
    refine SCmp.no (neF rfl) ?_
    refine SCall.pure (rnil_ok) ?_
    refine SCmp.no (rfl) ?_
    refine SCond.mk (fun _ => ?_) (fun h => by cases h)
    refine SCmp.yes (rfl) ?_
    exact SRet.pure (.tf _)
  | false =>
    have hrow := row2_ok m' fs hfs (N + 1) (by omega)
    rw [← hf] at hrow
    refine SCall.pure (hrow) ?_
    refine SCond.mk (fun h => by cases h) (fun _ => ?_)
    have hT1 := Moments_ok false false (lst (N + 1) x) (lst (N + 1) f) (s := 6) (b := 5) (Bl.lst bx) (Bl.lst bf) (by omega) bsl (by rw [lst_length]; omega)
    have hT2 := rmom_ok false false N x f hN6 bx bf
    by_cases hd : Inj x (N + 1)
    · rw [if_pos (rightZ_lst.1 hd)] at hT1 hT2
      obtain ⟨w, hc, hw, hwb⟩ := momL_spec hd bx bf
      rw [hc] at hT1 hT2
      rw [decide_eq_true (nodup_lst.2 hd)] at hap
      have hwb : ∀ i, i < N + 1 → Bz (w i) 33764 := fun i hi => (hwb i hi).mono (Nat.le_trans (bs_mono (j := 10) (by omega)) (by decide))
      have hbc : Bl (lst (N + 1) w) 33764 := Bl.lst hwb
      have hR := rrows_ok false false (lst (N + 1) w) (lst (N + 1) w) hbc hbc (by decide) (by rw [lst_length]; omega)
      rw [decide_eq_true rfl] at hR
      refine SCall.pureT (hT1) (fun _ => rfl) ?_
      refine SCall.pureT (hT2) (fun _ => rfl) ?_
      refine SCmp.no (neF rfl) ?_
      refine SCall.pure (hR) ?_
      refine SCmp.no (rfl) ?_
      refine SCond.mk (fun h => by cases h) (fun _ => ?_)
      refine SCmp.no (rfl) ?_
      refine SLoop.mkT Nat (fun i => ([(0, .p (.int .i64 ((N + 1 : Nat) : Int))), (9, .p (ratsM false (lst (N + 1) x))), (10, .p (ratsM false (lst (N + 1) f))), (11, .p (ratsM false (lst (N + 1) w))), (15, .vec 0 3 0 i), (16, .p (.int .i64 i))], [.vec 37 3 (rats (lst i fun k => x k ^ 0))]))
        (fun i => i ≤ N + 1) (fun i => N + 1 - i) 0 [0] _ _ (.step 15 37 3 rfl (.done _ _)) (Nat.zero_le _) ⟨rfl, by simp, rfl, rfl, rfl, ⟨rfl, rfl, rfl, rfl, rfl, rfl, trivial⟩, ⟨rfl, trivial⟩⟩ ?_
      intro i h1
      have h1 : i ≤ N + 1 := h1
      by_cases hi : i < N + 1
      · refine SCmp.yes (decide_eq_true (by omega)) ?_
        refine SCall.pure (rint_ok 1 (by decide)) ?_
        refine SEqN.mk (by simp [lst]) <| SView.all rfl <| SRoom.mk (by simp [lst]; omega) (by simp [lst]; omega) <| SEs.mk (rats (lst (i + 1) (fun k => x k ^ 0))) (app_lst _ _ _ ((Rat.pow_zero _).symm)) <| SZN.mk (i + 1) (by simp [lst]) ?_
        refine SWrap.i64z ((i + 1 : Nat) : Int) (by omega) (by omega) ?_
        exact ⟨i + 1, [2], hi, by show N + 1 - (i + 1) < N + 1 - i; omega, ⟨rfl, by simp, rfl, rfl, rfl, ⟨rfl, rfl, rfl, rfl, rfl, rfl, trivial⟩, ⟨rfl, trivial⟩⟩⟩
      · refine SCmp.no (decide_eq_false (by omega)) ?_
        obtain rfl : i = N + 1 := by omega
        refine SLoop.mk Nat (fun j => ([(0, .p (.int .i64 ((N + 1 : Nat) : Int))), (9, .p (ratsM false (lst (N + 1) x))), (10, .p (ratsM false (lst (N + 1) f))), (11, .p (ratsM false (lst (N + 1) w))), (15, .vec 0 3 0 (N + 1)), (17, .p (.int .i64 j))], [.vec 37 3 (rats (lst (N + 1) fun k => x k ^ j))]))
          (fun j => j ≤ N + 1) (fun j => N + 1 - j) 0 [0] (Nat.zero_le _) ⟨rfl, by simp, rfl, rfl, rfl, ⟨rfl, rfl, rfl, rfl, rfl, rfl, trivial⟩, ⟨rfl, trivial⟩⟩ ?_
        intro j hj
        have hj : j ≤ N + 1 := hj
        by_cases hjN : j < N + 1
        · refine SCmp.yes (decide_eq_true (by omega)) ?_
          refine SCall.pure (rzero_ok) ?_
          have bp : ∀ i, i < N + 1 → Bz (x i ^ j) 37 := fun i hi => (bz_pow (bx i hi) j).mono (by omega)
          have bwp : ∀ i, i < N + 1 → Bz (w i * x i ^ j) 33801 := fun i hi => ((hwb i hi).mul (bp i hi)).mono (by omega)
          have bS := sm_bz bwp
          refine SLoop.mk (Nat × (Nat → Rat)) (fun (k, p) => ([(0, .p (.int .i64 ((N + 1 : Nat) : Int))), (9, .p (ratsM false (lst (N + 1) x))), (10, .p (ratsM false (lst (N + 1) f))), (11, .p (ratsM false (lst (N + 1) w))), (15, .vec 0 3 0 (N + 1)), (17, .p (.int .i64 j)), (18, .bptr 1 0), (19, .p (.int .i64 k))], [.vec 37 3 (rats (lst (N + 1) p)), .box 37 (bxQ (sm k fun i => w i * x i ^ j))]))
            (fun (k, p) => k ≤ N + 1 ∧ ∀ i, i < N + 1 → p i = if i < k then x i ^ (j + 1) else x i ^ j) (fun y => N + 1 - y.1) (0, fun k => x k ^ j) [0, 1] ⟨Nat.zero_le _, fun i _ => rfl⟩ ⟨rfl, by simp, rfl, rfl, rfl, ⟨rfl, rfl, rfl, rfl, rfl, rfl, rfl, rfl, trivial⟩, ⟨rfl, rfl, trivial⟩⟩ ?_
          intro ⟨k, p⟩ ⟨hk, hp⟩
          by_cases hkN : k < N + 1
          · refine SCmp.yes (decide_eq_true (by omega)) ?_
            have ep : p k = x k ^ j := by rw [hp k hkN, if_neg (by omega)]
            have bS1 := bS k (by omega)
            have lS : k * (33801 + 1) ≤ 5 * (33801 + 1) := Nat.mul_le_mul_right _ (by omega)
            have lS2 : k * (33801 + 1) + 1 + 33801 + 1 ≤ 1048576 := Nat.le_trans (Nat.add_le_add_right (Nat.add_le_add_right (Nat.add_le_add_right lS 1) 33801) 1) (by decide)
            refine SDraw.mkX (by kernel_rfl) ?_
            repeat refine SOp.mk _ _ (And.intro rfl rfl) rfl ?_
            refine SOp.mk _ _ (SIdx.rf k rfl hkN (And.intro rfl rfl)) rfl ?_
            repeat refine SOp.mk _ _ (And.intro rfl rfl) rfl ?_
            refine SOp.mk _ _ (SPos.mk k rfl hkN (And.intro rfl rfl)) rfl ?_
            refine SOp.mk _ _ (SIdx.rv (k + 0) (x k ^ j) rfl hkN ep (And.intro rfl rfl)) rfl ?_
            repeat refine SOp.mk _ _ (And.intro rfl rfl) rfl ?_
            refine SOp.mk _ _ (SCall.pure (rmulq_ok _ _ (hwb k hkN) (bp k hkN) (by omega)) (And.intro rfl rfl)) rfl ?_
            refine SOp.mk _ _ (SCall.pure (raddq_ok _ _ bS1 (bwp k hkN) lS2) (And.intro rfl rfl)) rfl ?_
            repeat refine SOp.mk _ _ (And.intro rfl rfl) rfl ?_
            refine SFin.mk (by kernel_rfl) ?_
            refine SDraw.mkX (by kernel_rfl) ?_
            repeat refine SOp.mk _ _ (And.intro rfl rfl) rfl ?_
            refine SOp.mk _ _ (SPos.mk k rfl hkN (And.intro rfl rfl)) rfl ?_
            refine SOp.mk _ _ (SIdx.rv (k + 0) (x k ^ j) rfl hkN ep (And.intro rfl rfl)) rfl ?_
            repeat refine SOp.mk _ _ (And.intro rfl rfl) rfl ?_
            refine SOp.mk _ _ (SIdx.rf k rfl hkN (And.intro rfl rfl)) rfl ?_
            repeat refine SOp.mk _ _ (And.intro rfl rfl) rfl ?_
            refine SOp.mk _ _ (SCall.pure (rmulq_ok _ _ (bp k hkN) (bx k hkN) (by omega)) (And.intro rfl rfl)) rfl ?_
            refine SOp.mk _ _ (SPos.mk k rfl hkN (And.intro rfl rfl)) rfl ?_
            refine SOp.mk _ _ (SLt.rf (show k + 0 < N + 1 by omega) <| SEs.rf (And.intro rfl rfl)) rfl ?_
            refine SFin.mk (by kernel_rfl) ?_
            refine SWrap.i64z ((k + 1 : Nat) : Int) (by omega) (by omega) ?_
            refine ⟨(k + 1, _), [0, 1], ⟨hkN, fun i hi => ?_⟩, by show N + 1 - (k + 1) < N + 1 - k; omega, ⟨rfl, by simp, rfl, rfl, rfl, ⟨rfl, rfl, rfl, rfl, rfl, rfl, rfl, rfl, trivial⟩, ⟨rfl, rfl, trivial⟩⟩⟩
            rw [Nat.add_zero]
            by_cases e : i = k
            · subst e; rw [upd_same, if_pos (by omega), Rat.pow_succ]
            · rw [upd_other _ _ e, hp i hi]
              by_cases e2 : i < k
              · rw [if_pos e2, if_pos (by omega)]
              · rw [if_neg e2, if_neg (by omega)]
          · refine SCmp.no (decide_eq_false (by omega)) ?_
            obtain rfl : k = N + 1 := by omega
            have eS : sm (N + 1) (fun i => w i * x i ^ j) = f j := by rw [← hw j hjN]; exact sm_congr fun i _ => Rat.mul_comm _ _
            have hS := rsame_ok (sm (N + 1) fun i => w i * x i ^ j) (f j) (k := 5) (by rw [eS]; exact bf j hjN) (bf j hjN) (by omega)
            rw [decide_eq_true eS] at hS
            refine SDraw.mk (by kernel_rfl) ?_
            repeat refine SOp.mk _ _ (And.intro rfl rfl) rfl ?_
            refine SOp.mk _ _ (SIdx.rf j rfl hjN (And.intro rfl rfl)) rfl ?_
            repeat refine SOp.mk _ _ (And.intro rfl rfl) rfl ?_
            refine SOp.mk _ _ (SCall.pure (hS) (And.intro rfl rfl)) rfl ?_
            refine SOp.mk _ _ (SCmp.no rfl (And.intro rfl rfl)) rfl ?_
            repeat refine SOp.mk _ _ (And.intro rfl rfl) rfl ?_
            refine SWrap.i64z ((j + 1 : Nat) : Int) (by omega) (by omega) ?_
            exact ⟨j + 1, [0], hjN, by show N + 1 - (j + 1) < N + 1 - j; omega, ⟨rfl, by simp, rfl, rfl, rfl, ⟨rfl, rfl, rfl, rfl, rfl, rfl, trivial⟩, ⟨congrArg _ (congrArg rats (lst_congr fun i hi => by rw [hp i hi, if_pos hi])), trivial⟩⟩⟩
        · refine SCmp.no (decide_eq_false (by omega)) ?_
          refine SCall.pure (hap) ?_
          exact SRet.pure (.p _ (.bool _))
    · rw [if_neg (by rw [rightZ_lst.2 hd]; decide), rightZ_lst.2 hd] at hT1 hT2
      rw [decide_eq_false (mt nodup_lst.1 hd)] at hap
      refine SCall.pureT (hT1) (fun _ => rfl) ?_
      refine SCall.pureT (hT2) (fun _ => rfl) ?_
      refine SCmp.no (neF rfl) ?_
      refine SCall.pure (rnil_ok) ?_
      refine SCmp.no (rfl) ?_
      refine SCond.mk (fun h => by cases h) (fun _ => ?_)
      refine SCmp.yes (rfl) ?_
      refine SCmp.yes (rfl) ?_
      refine SCall.pure (hap) ?_
      refine SCmp.yes (rfl) ?_
      exact SRet.pure (.tf _)
end Go.Proofs.Ytkaooejeljdbnaa
