/- VdmThrough. -/
import Derived.Test.YtkaooejeljdbnaaMv1
namespace Go.Proofs.Ytkaooejeljdbnaa
open Go
set_option linter.unusedVariables false
set_option linter.unusedSimpArgs false
set_option maxRecDepth 10000

theorem rightZ_long {x f : List Rat} (h : x.length ≠ f.length) : rightZ x f = 3 := by rw [rightZ, if_pos (.inr h)]
theorem rnil_ok : CallP Try.prog 22 [ratsM false [], ratsM false []] (.p (.bool true)) [] := by
  have hb0 : Bl [] 0 := fun i hi => absurd hi (Nat.not_lt_zero _)
  have hR := rrows_ok false false [] [] hb0 hb0 (by decide) (by simp)
  rw [decide_eq_true rfl] at hR
  exact hR
theorem take_lst {N : Nat} {f : Nat → Rat} : (rats (lst (N + 1) f)).take N = rats (lst N f) := by
  apply List.ext_getElem
  · simp [lst]
  · intro i h1 h2
    simp [lst, rats]
theorem vthrough_ok (m m' : Bool) (n : Int) (ns fs : List Int) (sh : Bool) (hn : I64 n) (hns : I64s ns) (hfs : I64s fs) :
    CallP Try.prog 3 [.int .i64 n, .sl m 1 (intsP ns), .sl m' 1 (intsP fs), .bool sh] (.p (.bool true)) [] := by
  refine callG_of_vc (wr := wr0) Γok mixed Try.func3 (by kernel_rfl) rfl (by kernel_rfl) (le_of_ble rfl) (by simp) ?_
  refine SCall.pure (known14_ok) ?_
  refine SCmp.no (rfl) ?_
  refine SCall.pure (within14_ok n 6 (by omega) (by omega)) ?_
  obtain ⟨N, hN⟩ : ∃ N : Nat, 1 + n % 6 = ((N + 1 : Nat) : Int) := ⟨(n % 6).toNat, by omega⟩
  have hN6 : N ≤ 5 := by omega
  refine SWrap.i64z ((N + 1 : Nat) : Int) hN (by omega) ?_
  refine SCall.pure (nodes14_ok m ns hns (N + 1) (by omega)) ?_
  refine SCall.pure (row2_ok m' fs hfs (N + 1) (by omega)) ?_
  obtain ⟨x, hx⟩ : ∃ x, x = nodeG ns := ⟨_, rfl⟩
  obtain ⟨f, hf⟩ : ∃ f, f = rowG fs := ⟨_, rfl⟩
  have bx : ∀ i, i < N + 1 → Bz (x i) 6 := fun i hi => by rw [hx]; exact nodeG_bz ns (by omega)
  have bf : ∀ i, i < N + 1 → Bz (f i) 5 := fun i hi => by rw [hf]; exact rowG_bz fs i
  rw [← hx, ← hf]
  have bsl : bs (2 * 6 + 2) 5 ((lst (N + 1) x).length + (lst (N + 1) x).length) ≤ 1048576 := Nat.le_trans (bs_mono (j := 12) (by rw [lst_length]; omega)) (by decide)
  have hap := apart14_ok false (lst (N + 1) x) (Bl.lst bx) (by omega) (by rw [lst_length]; omega)
  cases sh with
  | true =>
    have bfN : ∀ i, i < N → Bz (f i) 5 := fun i hi => bf i (by omega)
    have hne : (lst (N + 1) x).length ≠ (lst N f).length := by rw [lst_length, lst_length]; omega
    have hT1 := Through_ok false false (lst (N + 1) x) (lst N f) (s := 6) (b := 5) (Bl.lst bx) (Bl.lst bfN) (by omega) bsl (by rw [lst_length]; omega)
    have hT2 := rthrLong_ok false false (lst (N + 1) x) (lst N f) hne (by rw [lst_length]; omega) (by rw [lst_length]; omega)
    rw [rightZ_long hne, if_neg (by decide)] at hT1
    refine SCond.mk (fun _ => ?_) (fun h => by cases h)
    refine SWrap.i64z (N : Int) (by omega) (by omega) ?_
    refine SZ.mk (N : Int) rfl ?_
    refine SLt.mk (by simp) ?_
    refine SCut.mk 0 N rfl rfl (by omega) (by simp [lst]) ?_
    refine SEs.mk (rats (lst N f)) (by rw [List.drop_zero]; exact take_lst) ?_
    refine SCall.pureT (hT1) (fun _ => rfl) ?_
    refine SCall.pureT (hT2) (fun _ => rfl) ?_
    refine SCmp.no (neF rfl) ?_
    refine SCall.pure (rnil_ok) ?_
    refine SCmp.no (rfl) ?_
    refine SCond.mk (fun _ => ?_) (fun h => by cases h)
    refine SCmp.yes (rfl) ?_
    exact SRet.pure (.tf _)
  | false =>
    refine SCond.mk (fun h => by cases h) (fun _ => ?_)
    have hT1 := Through_ok false false (lst (N + 1) x) (lst (N + 1) f) (s := 6) (b := 5) (Bl.lst bx) (Bl.lst bf) (by omega) bsl (by rw [lst_length]; omega)
    have hT2 := rthr_ok false false N x f hN6 bx bf
    by_cases hd : Inj x (N + 1)
    · rw [if_pos (rightZ_lst.1 hd)] at hT1 hT2
      obtain ⟨c, hc, hc2, hcb⟩ := thrL_spec hd bx bf
      rw [hc] at hT1 hT2
      rw [decide_eq_true (nodup_lst.2 hd)] at hap
      have hbc : Bl (lst (N + 1) c) (bs (2 * 6 + 2) 5 10) := Bl.lst fun i hi => (hcb i hi).mono (bs_mono (by omega))
      have hR := rrows_ok false false (lst (N + 1) c) (lst (N + 1) c) hbc hbc (by decide) (by rw [lst_length]; omega)
      rw [decide_eq_true rfl] at hR
      refine SCall.pureT (hT1) (fun _ => rfl) ?_
      refine SCall.pureT (hT2) (fun _ => rfl) ?_
      refine SCmp.no (neF rfl) ?_
      refine SCall.pure (hR) ?_
      refine SCmp.no (rfl) ?_
      refine SCond.mk (fun h => by cases h) (fun _ => ?_)
      refine SCmp.no (rfl) ?_
      refine SLoop.mk Nat (fun i => ([(0, .p (.int .i64 ((N + 1 : Nat) : Int))), (9, .p (ratsM false (lst (N + 1) x))), (10, .p (ratsM false (lst (N + 1) f))), (11, .p (ratsM false (lst (N + 1) c))), (15, .p (.int .i64 i))], []))
        (fun i => i ≤ N + 1) (fun i => N + 1 - i) 0 [] (Nat.zero_le _) ⟨rfl, .nil, rfl, rfl, rfl, ⟨rfl, rfl, rfl, rfl, rfl, trivial⟩, trivial⟩ ?_
      intro i h1
      have h1 : i ≤ N + 1 := h1
      by_cases hi : i < N + 1
      · refine SCmp.yes (decide_eq_true (by omega)) ?_
        have hA := vat_ok false (lst (N + 1) c) (x i) hbc (bx i hi) (by have : ∀ N, N < 6 → (lst (N + 1) c).length * (6 + bs (2 * 6 + 2) 5 10 + 1) + 6 + bs (2 * 6 + 2) 5 10 + 2 ≤ 1048576 := (by intro N hN; rw [lst_length]; exact Nat.le_trans (Nat.add_le_add_right (Nat.add_le_add_right (Nat.add_le_add_right (Nat.mul_le_mul_right _ (show N + 1 ≤ 6 by omega)) _) _) _) (by decide)); exact this N (by omega)) (by rw [lst_length]; omega)
        rw [hor_lst, hc2 i (by omega)] at hA
        have hS := rsame_ok (f i) (f i) (bf i hi) (bf i hi) (by omega)
        rw [decide_eq_true rfl] at hS
        refine SDraw.mk (by kernel_rfl) ?_
        repeat refine SOp.mk _ _ (And.intro rfl rfl) rfl ?_
        refine SOp.mk _ _ (SIdx.rf i rfl hi (And.intro rfl rfl)) rfl ?_
        repeat refine SOp.mk _ _ (And.intro rfl rfl) rfl ?_
        refine SOp.mk _ _ (SCall.pure (hA) (And.intro rfl rfl)) rfl ?_
        repeat refine SOp.mk _ _ (And.intro rfl rfl) rfl ?_
        refine SOp.mk _ _ (SIdx.rf i rfl hi (And.intro rfl rfl)) rfl ?_
        repeat refine SOp.mk _ _ (And.intro rfl rfl) rfl ?_
        refine SOp.mk _ _ (SCall.pure (hS) (And.intro rfl rfl)) rfl ?_
        refine SOp.mk _ _ (SCmp.no rfl (And.intro rfl rfl)) rfl ?_
        repeat refine SOp.mk _ _ (And.intro rfl rfl) rfl ?_
        refine SWrap.i64z ((i + 1 : Nat) : Int) (by omega) (by omega) ?_
        exact ⟨i + 1, [], hi, by show N + 1 - (i + 1) < N + 1 - i; omega, ⟨rfl, .nil, rfl, rfl, rfl, ⟨rfl, rfl, rfl, rfl, rfl, trivial⟩, trivial⟩⟩
      · refine SCmp.no (decide_eq_false (by omega)) ?_
        refine SCall.pure (hap) ?_
        refine SCond.mk (fun _ => ?_) (fun h => by cases h)
        refine SZ.mk ((N + 1 : Nat) : Int) (by simp [lst]) ?_
        refine SCmp.yes (decide_eq_true rfl) ?_
        exact SRet.pure (.tf _)
    · rw [if_neg (by rw [rightZ_lst.2 hd]; decide), rightZ_lst.2 hd] at hT1 hT2
      rw [decide_eq_false (mt nodup_lst.1 hd)] at hap
      refine SCall.pureT (hT1) (fun _ => rfl) ?_
      refine SCall.pureT (hT2) (fun _ => rfl) ?_
      refine SCmp.no (neF rfl) ?_
      refine SCall.pure (rnil_ok) ?_
      refine SCmp.no (rfl) ?_
      refine SCond.mk (fun h => by cases h) (fun _ => ?_)
      refine SCmp.yes (rfl) ?_
      refine SCmp.yes (rfl) ?_
      refine SCall.pure (hap) ?_
      refine SCmp.yes (rfl) ?_
      exact SRet.pure (.tf _)
end Go.Proofs.Ytkaooejeljdbnaa
