/- Matrices of the document: powers of nodes, turned. -/
import Derived.Test.YtkaooejeljdbnaaMx
import Derived.Test.YtkaooejeljdbnaaVw3
namespace Go.Proofs.Ytkaooejeljdbnaa
open Go
set_option linter.unusedVariables false
set_option linter.unusedSimpArgs false
set_option maxRecDepth 10000

theorem bz_pow {q : Rat} {b : Nat} (h : Bz q b) : ∀ k, Bz (q ^ k) (b * k + 1)
  | 0 => by rw [Rat.pow_zero, Nat.mul_zero]; exact bz_one
  | k + 1 => by
    have := (bz_pow h k).mul h
    rw [Rat.pow_succ]
    exact this.mono (by rw [Nat.mul_succ]; omega)
theorem pow_step {q : Rat} {k : Nat} (h : 1 ≤ k) : q ^ (k - 1 + 0) * q = q ^ k := by
  rw [Nat.add_zero, ← Rat.pow_succ, Nat.sub_add_cancel h]

theorem rpowers_ok (m : Bool) (n : Nat) (x : Nat → Rat) {b : Nat} (hx : ∀ i, i < n → Bz (x i) b) (hb : (b + 1) * (n + 1) ≤ 1048576) (hn : n ≤ 1000) : CallP Try.prog 72 [ratsM m (lst n x)] (.p (matP false false n n fun i k => x i ^ k)) [] := by
  refine callG_of_vc (wr := wr0) Γok mixed Try.func72 (by kernel_rfl) rfl (by kernel_rfl) (le_of_ble rfl) (by simp) ?_
  refine SLoop.mkT Nat (fun i => ([(0, .p (ratsM m (lst n x))), (3, .vec 0 1 0 i), (4, .p (.int .i64 i))], [.rows 25 (plc 1 n i id), .pool 37 3 (plr i n fun i k => x i ^ k)]))
    (fun i => i ≤ n) (fun i => n - i) 0 [0, 1] _ _ (.rows 3 25 rfl (.pool 37 3 (.done _ _))) (Nat.zero_le _) ⟨rfl, by simp, rfl, rfl, rfl, ⟨rfl, rfl, rfl, trivial⟩, ⟨rfl, rfl, rows_in fun i hi => absurd hi (Nat.not_lt_zero _), trivial⟩⟩ ?_
  intro i hi
  have hi : i ≤ n := hi
  by_cases hin : i < n
  · refine SZ.mk (n : Int) (by simp [lst]) ?_
    refine SCmp.yes (decide_eq_true (by omega)) ?_
    refine SCall.pure (rint_ok 1 (by decide)) ?_
    refine SLoop.mk Nat (fun k => ([(0, .p (ratsM m (lst n x))), (3, .vec 0 1 0 i), (4, .p (.int .i64 i)), (5, .vec 2 3 0 k)], [.rows 25 (plc 1 n i id), .pool 37 3 (plr i n fun i k => x i ^ k), .vec 37 3 (rats (lst k fun j => x i ^ j))]))
      (fun k => 1 ≤ k ∧ k ≤ n) (fun k => n - k) 1 [0, 1, 2] ⟨Nat.le_refl _, by omega⟩ ⟨rfl, by simp, rfl, rfl, rfl, ⟨rfl, rfl, rfl, rfl, trivial⟩, ⟨congrArg _ (plc_ren 1 rfl (by decide)), rfl, congrArg (Blk.vec 37 3) (one_lst _ _ (Rat.pow_zero _).symm).symm, rows_in fun i hi => by simpa [plenAt] using hi, trivial⟩⟩ ?_
    intro k ⟨h1, h2⟩
    refine SZ.mk (k : Int) (by simp) ?_
    refine SZ.mk (n : Int) (by simp [lst]) ?_
    by_cases hk : k < n
    · refine SCmp.yes (decide_eq_true (by omega)) ?_
      have z1 := bz_pow (hx i hin) (k - 1)
      have hz : b * (k - 1) + 1 + b ≤ 1048576 := by
        have h1 : b * k + k ≤ (b + 1) * (n + 1) := by rw [Nat.succ_mul]; exact Nat.add_le_add (Nat.mul_le_mul_left _ (by omega)) (by omega)
        have h2 : b * (k - 1) + b = b * k := by rw [← Nat.mul_succ, Nat.succ_eq_add_one, Nat.sub_add_cancel (by omega)]
        omega
      refine SDraw.mkX (by kernel_rfl) ?_
      repeat refine SOp.mk _ _ (And.intro rfl rfl) rfl ?_
      refine SOp.mk _ _ (SZ.mk (k : Int) (by simp) (And.intro rfl rfl)) rfl ?_
      refine SOp.mk _ _ (SWrap.i64z ((k - 1 : Nat) : Int) (by omega) (by omega) (And.intro rfl rfl)) rfl ?_
      refine SOp.mk _ _ (SPos.mk (k - 1) rfl (by omega) (And.intro rfl rfl)) rfl ?_
      refine SOp.mk _ _ (SIdx.rf (k - 1 + 0) rfl (by omega) (And.intro rfl rfl)) rfl ?_
      repeat refine SOp.mk _ _ (And.intro rfl rfl) rfl ?_
      refine SOp.mk _ _ (SIdx.rf i rfl hin (And.intro rfl rfl)) rfl ?_
      repeat refine SOp.mk _ _ (And.intro rfl rfl) rfl ?_
      refine SOp.mk _ _ (SCall.pure (rmulq_ok _ _ z1 (hx i hin) hz) (And.intro rfl rfl)) rfl ?_
      repeat refine SOp.mk _ _ (And.intro rfl rfl) rfl ?_
      refine SOp.mk _ _ (SEqN.mk (by simp [lst]) <| SView.all rfl <| SRoom.mk (by simp [lst]; omega) (by simp [lst]; omega) <| SEs.mk (rats (lst (k + 1) (fun j => x i ^ j))) (app_lst _ _ _ ((pow_step (by omega)))) <| SZN.mk (k + 1) (by simp [lst]) (And.intro rfl rfl)) rfl ?_
      repeat refine SOp.mk _ _ (And.intro rfl rfl) rfl ?_
      refine SFin.mk (by kernel_rfl) ?_
      exact ⟨k + 1, [0, 1, 4], ⟨by omega, by omega⟩, by show n - (k + 1) < n - k; omega, ⟨rfl, by simp, rfl, rfl, rfl, ⟨rfl, rfl, rfl, rfl, trivial⟩, ⟨congrArg _ (plc_ren 1 rfl (by decide)), rfl, rfl, rows_in fun i hi => by simpa [plenAt] using hi, trivial⟩⟩⟩
    · refine SCmp.no (decide_eq_false (by omega)) ?_
      obtain rfl : k = n := by omega
      refine SEqN.mk (by simp) ?_
      refine SRoom.mk (by simp; omega) (by simp; omega) ?_
      refine SAs.mk _ rfl ?_
      refine SZN.mk (i + 1) (by simp) ?_
      refine SWrap.i64z ((i + 1 : Nat) : Int) (by omega) (by omega) ?_
      exact ⟨i + 1, [4, 3001], hin, by show k - (i + 1) < k - i; omega, ⟨rfl, by simp, rfl, rfl, rfl, ⟨rfl, rfl, rfl, trivial⟩, ⟨congrArg _ (plc_absorb rfl (by decide) (by simp [plenAt])), ⟨_, _, _, _, rfl, rfl, congrArg _ plr_snoc⟩, rows_in fun i hi => by simpa [plenAt] using hi, trivial⟩⟩⟩
  · obtain rfl : i = n := by omega
    refine SZ.mk (i : Int) (by simp [lst]) ?_
    refine SCmp.no (decide_eq_false (by omega)) ?_
    exact SRet.pure (frzM (H := [_, _]) (h := 0) (p := 1) rfl rfl fun i hi => hi)

theorem rturn_ok (m m' : Bool) (n : Nat) (A : Nat → Nat → Rat) {b : Nat} (hA : ∀ i k, i < n → k < n → Bz (A i k) b) (hb : b ≤ 1048576) (hn : n ≤ 1000) : CallP Try.prog 78 [matP m m' n n A] (.p (matP false false n n fun i k => A k i)) [] := by
  refine callG_of_vc (wr := wr0) Γok mixed Try.func78 (by kernel_rfl) rfl (by kernel_rfl) (le_of_ble rfl) (by simp) ?_
  refine SLoop.mkT Nat (fun j => ([(0, .p (matP m m' n n A)), (3, .vec 0 1 0 j), (4, .p (.int .i64 j))], [.rows 25 (plc 1 n j id), .pool 37 3 (plr j n fun i k => A k i)]))
    (fun j => j ≤ n) (fun j => n - j) 0 [0, 1] _ _ (.rows 3 25 rfl (.pool 37 3 (.done _ _))) (Nat.zero_le _) ⟨rfl, by simp, rfl, rfl, rfl, ⟨rfl, rfl, rfl, trivial⟩, ⟨rfl, rfl, rows_in fun i hi => absurd hi (Nat.not_lt_zero _), trivial⟩⟩ ?_
  intro j hj
  have hj : j ≤ n := hj
  refine SZ.mk (n : Int) (by simp) ?_
  by_cases hjn : j < n
  · refine SCmp.yes (decide_eq_true (by omega)) ?_
    refine SLoop.mkT Nat (fun i => ([(0, .p (matP m m' n n A)), (3, .vec 0 1 0 j), (4, .p (.int .i64 j)), (5, .vec 2 3 0 i), (6, .p (.int .i64 i))], [.rows 25 (plc 1 n j id), .pool 37 3 (plr j n fun i k => A k i), .vec 37 3 (rats (lst i fun k => A k j))]))
      (fun i => i ≤ n) (fun i => n - i) 0 [0, 1, 2] _ _ (.step 5 37 3 rfl (.done _ _)) (Nat.zero_le _) ⟨rfl, by simp, rfl, rfl, rfl, ⟨rfl, rfl, rfl, rfl, rfl, trivial⟩, ⟨congrArg _ (plc_ren 1 rfl (by decide)), rfl, rfl, rows_in fun i hi => by simpa [plenAt] using hi, trivial⟩⟩ ?_
    intro i hi
    have hi : i ≤ n := hi
    refine SZ.mk (n : Int) (by simp) ?_
    by_cases hin : i < n
    · refine SCmp.yes (decide_eq_true (by omega)) ?_
      refine SIdx.mf i rfl hin ?_
      refine SIdx.rf j rfl hjn ?_
      refine SCall.pure (rcopy_ok _ (hA i j hin hjn) (by omega)) ?_
      refine SEqN.mk (by simp [lst]) <| SView.all rfl <| SRoom.mk (by simp [lst]; omega) (by simp [lst]; omega) <| SEs.mk (rats (lst (i + 1) (fun k => A k j))) (app_lst _ _ _ (rfl)) <| SZN.mk (i + 1) (by simp [lst]) ?_
      refine SWrap.i64z ((i + 1 : Nat) : Int) (by omega) (by omega) ?_
      exact ⟨i + 1, [0, 1, 4], hin, by show n - (i + 1) < n - i; omega, ⟨rfl, by simp, rfl, rfl, rfl, ⟨rfl, rfl, rfl, rfl, rfl, trivial⟩, ⟨congrArg _ (plc_ren 1 rfl (by decide)), rfl, rfl, rows_in fun i hi => by simpa [plenAt] using hi, trivial⟩⟩⟩
    · refine SCmp.no (decide_eq_false (by omega)) ?_
      obtain rfl : i = n := by omega
      refine SEqN.mk (by simp) ?_
      refine SRoom.mk (by simp; omega) (by simp; omega) ?_
      refine SAs.mk _ rfl ?_
      refine SZN.mk (j + 1) (by simp) ?_
      refine SWrap.i64z ((j + 1 : Nat) : Int) (by omega) (by omega) ?_
      exact ⟨j + 1, [4, 3001], hjn, by show i - (j + 1) < i - j; omega, ⟨rfl, by simp, rfl, rfl, rfl, ⟨rfl, rfl, rfl, trivial⟩, ⟨congrArg _ (plc_absorb rfl (by decide) (by simp [plenAt])), ⟨_, _, _, _, rfl, rfl, congrArg _ plr_snoc⟩, rows_in fun i hi => by simpa [plenAt] using hi, trivial⟩⟩⟩
  · refine SCmp.no (decide_eq_false (by omega)) ?_
    obtain rfl : j = n := by omega
    exact SRet.pure (frzM (H := [_, _]) (h := 0) (p := 1) rfl rfl fun i hi => hi)
end Go.Proofs.Ytkaooejeljdbnaa
