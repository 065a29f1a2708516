/- FSSolves: what its proof needs, part 6. -/
import Derived.Test.YtjfcphohgicolaaGreatHSSolves5
set_option linter.unusedVariables false
set_option linter.unusedSimpArgs false
namespace Go.Proofs.YtjfcphohgicolaaGreat
open Go
set_option linter.unusedVariables false
set_option linter.unusedSimpArgs false
set_option maxRecDepth 10000
theorem gcheck1_ok (m : Nat → Bool) (n r : Nat) (A B G H : Nat → Rat) {b c : Nat} (h : Wf ⟨1, n, r, A, B, G, H⟩ b c) : CallP Tryz.prog 72 [genP m ⟨1, n, r, A, B, G, H⟩] (.p (.int .i64 0)) [] := by
  have n6 : n ≤ 6 := h.n6
  have n1 : 1 ≤ n := h.n1
  have r2 : r ≤ 2 := h.r2
  have hnr : n * r ≤ 12 := Nat.mul_le_mul n6 r2
  have hc4 := h.c4
  have hbc := h.bc
  have cc := cnt_le (k := 1) (r := r) n1 (show n ≤ 8 by omega) (show r ≤ 3 by omega)
  have cb : ∀ i : Nat, (if i = 0 then cntA 1 n else if i = 1 then cntB 1 n else cntH 1 n r) ≤ 24 := fun i => by split <;> (try split) <;> omega
  show CallP Tryz.prog 72 [.agg [.int .i64 ((1 : Nat) : Int), .int .i64 (n : Int), .int .i64 (r : Int), ratsM (m 0) (lst (cntA 1 n) A), ratsM (m 1) (lst (cntB 1 n) B), ratsM (m 2) (lst (cntH 1 n r) G), ratsM (m 3) (lst (cntH 1 n r) H)]] (.p (.int .i64 0)) []
  refine callG_of_vc (wr := wr0) Γok mixed Tryz.func72 (by kernel_rfl) rfl (by kernel_rfl) (le_of_ble rfl) (by simp) ?_
  refine SCmp.no (decide_eq_false (by omega)) ?_
  refine SCmp.no (decide_eq_false (by omega)) ?_
  refine SCall.pure (sized_ok m ⟨1, n, r, A, B, G, H⟩ h) ?_
  refine SCmp.no (rfl) ?_
  refine SCall.lent [genP m ⟨1, n, r, A, B, G, H⟩] _ rfl (genrows_ok m ⟨1, n, r, A, B, G, H⟩) ?_
  refine SCall.pure (counts_ok) ?_
  refine SLoop.mk Nat (fun i => ([(1, .bptr 0 0), (3, .bptr 1 0), (4, .p (.mp false cntM)), (28, .p (.agg [ratsM (m 0) (lst (cntA 1 n) A), ratsM (m 1) (lst (cntB 1 n) B), ratsM (m 2) (lst (cntH 1 n r) G), ratsM (m 3) (lst (cntH 1 n r) H)])), (29, .p (.int .i64 i))], [.box 26 [.p (.int .i64 ((1 : Nat) : Int)), .p (.int .i64 (n : Int)), .p (.int .i64 (r : Int)), .p (ratsM (m 0) (lst (cntA 1 n) A)), .p (ratsM (m 1) (lst (cntB 1 n) B)), .p (ratsM (m 2) (lst (cntH 1 n r) G)), .p (ratsM (m 3) (lst (cntH 1 n r) H))], .box 121 [.p (ratsM (m 0) (lst (cntA 1 n) A)), .p (ratsM (m 1) (lst (cntB 1 n) B)), .p (ratsM (m 2) (lst (cntH 1 n r) G)), .p (ratsM (m 3) (lst (cntH 1 n r) H))]]))
    (fun i => i ≤ 4) (fun i => 4 - i) 0 [0, 1] (Nat.zero_le _) ⟨rfl, by simp, rfl, rfl, rfl, ⟨rfl, rfl, rfl, rfl, rfl, trivial⟩, ⟨rfl, rfl, trivial⟩⟩ ?_
  intro i hi
  have hi : i ≤ 4 := hi
  rcases (show i = 0 ∨ i = 1 ∨ i = 2 ∨ i = 3 ∨ i = 4 by omega) with rfl | rfl | rfl | rfl | rfl
  · refine SCmp.yes (rfl) ?_
    refine SIdx.mk 0 _ rfl rfl ?_
    refine SKeys.all rfl <| SGet.at 0 _ rfl rfl rfl ?_
    refine SZ.mk ((cntA 1 n : Nat) : Int) (by simp [lst]) ?_
    refine SPos.mk 0 rfl (by decide) ?_
    refine SWrap.i64z ((2 * n : Nat) : Int) (by omega) (by omega) ?_
    refine SPos.mk 1 rfl (by decide) ?_
    refine SWrap.i64z ((0 * n : Nat) : Int) (by omega) (by omega) ?_
    refine SWrap.i64z ((0 : Nat) : Int) (by simp) (by omega) ?_
    refine SWrap.i64z ((2 * n + 0 : Nat) : Int) (by omega) (by omega) ?_
    refine SPos.mk 2 rfl (by decide) ?_
    refine SWrap.i64z ((cntA 1 n : Nat) : Int) (by simp [cntA, cntB, cntH] <;> omega) (by have := cnt_le (k := 1) (r := r) n1 (show n ≤ 8 by omega) (show r ≤ 3 by omega); omega) ?_
    refine SCmp.no (neF rfl) ?_
    refine SWrap.i64z ((0 + 1 : Nat) : Int) (by omega) (by omega) ?_
    exact ⟨0 + 1, [0, 1], by decide, by decide, ⟨rfl, by simp, rfl, rfl, rfl, ⟨rfl, rfl, rfl, rfl, rfl, trivial⟩, ⟨rfl, rfl, trivial⟩⟩⟩
  · refine SCmp.yes (rfl) ?_
    refine SIdx.mk 1 _ rfl rfl ?_
    refine SKeys.all rfl <| SGet.none rfl ?_
    refine SZ.mk ((cntB 1 n : Nat) : Int) (by simp [lst]) ?_
    refine SPos.mk 0 rfl (by decide) ?_
    refine SWrap.i64z ((0 * n : Nat) : Int) (by omega) (by omega) ?_
    refine SPos.mk 1 rfl (by decide) ?_
    refine SWrap.i64z ((0 * n : Nat) : Int) (by omega) (by omega) ?_
    refine SWrap.i64z ((0 : Nat) : Int) (by simp) (by omega) ?_
    refine SWrap.i64z ((0 * n + 0 : Nat) : Int) (by omega) (by omega) ?_
    refine SPos.mk 2 rfl (by decide) ?_
    refine SWrap.i64z ((cntB 1 n : Nat) : Int) (by simp [cntA, cntB, cntH] <;> omega) (by have := cnt_le (k := 1) (r := r) n1 (show n ≤ 8 by omega) (show r ≤ 3 by omega); omega) ?_
    refine SCmp.no (neF rfl) ?_
    refine SWrap.i64z ((1 + 1 : Nat) : Int) (by omega) (by omega) ?_
    exact ⟨1 + 1, [0, 1], by decide, by decide, ⟨rfl, by simp, rfl, rfl, rfl, ⟨rfl, rfl, rfl, rfl, rfl, trivial⟩, ⟨rfl, rfl, trivial⟩⟩⟩
  · refine SCmp.yes (rfl) ?_
    refine SIdx.mk 2 _ rfl rfl ?_
    refine SKeys.all rfl <| SGet.none rfl ?_
    refine SZ.mk ((cntH 1 n r : Nat) : Int) (by simp [lst]) ?_
    refine SPos.mk 0 rfl (by decide) ?_
    refine SWrap.i64z ((0 * n : Nat) : Int) (by omega) (by omega) ?_
    refine SPos.mk 1 rfl (by decide) ?_
    refine SWrap.i64z ((0 * n : Nat) : Int) (by omega) (by omega) ?_
    refine SWrap.i64z ((0 : Nat) : Int) (by simp) (by omega) ?_
    refine SWrap.i64z ((0 * n + 0 : Nat) : Int) (by omega) (by omega) ?_
    refine SPos.mk 2 rfl (by decide) ?_
    refine SWrap.i64z ((cntH 1 n r : Nat) : Int) (by simp [cntA, cntB, cntH] <;> omega) (by have := cnt_le (k := 1) (r := r) n1 (show n ≤ 8 by omega) (show r ≤ 3 by omega); omega) ?_
    refine SCmp.no (neF rfl) ?_
    refine SWrap.i64z ((2 + 1 : Nat) : Int) (by omega) (by omega) ?_
    exact ⟨2 + 1, [0, 1], by decide, by decide, ⟨rfl, by simp, rfl, rfl, rfl, ⟨rfl, rfl, rfl, rfl, rfl, trivial⟩, ⟨rfl, rfl, trivial⟩⟩⟩
  · refine SCmp.yes (rfl) ?_
    refine SIdx.mk 3 _ rfl rfl ?_
    refine SKeys.all rfl <| SGet.none rfl ?_
    refine SZ.mk ((cntH 1 n r : Nat) : Int) (by simp [lst]) ?_
    refine SPos.mk 0 rfl (by decide) ?_
    refine SWrap.i64z ((0 * n : Nat) : Int) (by omega) (by omega) ?_
    refine SPos.mk 1 rfl (by decide) ?_
    refine SWrap.i64z ((0 * n : Nat) : Int) (by omega) (by omega) ?_
    refine SWrap.i64z ((0 : Nat) : Int) (by simp) (by omega) ?_
    refine SWrap.i64z ((0 * n + 0 : Nat) : Int) (by omega) (by omega) ?_
    refine SPos.mk 2 rfl (by decide) ?_
    refine SWrap.i64z ((cntH 1 n r : Nat) : Int) (by simp [cntA, cntB, cntH] <;> omega) (by have := cnt_le (k := 1) (r := r) n1 (show n ≤ 8 by omega) (show r ≤ 3 by omega); omega) ?_
    refine SCmp.no (neF rfl) ?_
    refine SWrap.i64z ((3 + 1 : Nat) : Int) (by omega) (by omega) ?_
    exact ⟨3 + 1, [0, 1], by decide, by decide, ⟨rfl, by simp, rfl, rfl, rfl, ⟨rfl, rfl, rfl, rfl, rfl, trivial⟩, ⟨rfl, rfl, trivial⟩⟩⟩
  · refine SCmp.no (rfl) ?_
    refine SLoop.mk Nat (fun i => ([(1, .bptr 0 0), (60, .p (.agg [ratsM (m 0) (lst (cntA 1 n) A), ratsM (m 1) (lst (cntB 1 n) B), ratsM (m 2) (lst (cntH 1 n r) G), ratsM (m 3) (lst (cntH 1 n r) H)])), (61, .p (.int .i64 i))], [.box 26 [.p (.int .i64 ((1 : Nat) : Int)), .p (.int .i64 (n : Int)), .p (.int .i64 (r : Int)), .p (ratsM (m 0) (lst (cntA 1 n) A)), .p (ratsM (m 1) (lst (cntB 1 n) B)), .p (ratsM (m 2) (lst (cntH 1 n r) G)), .p (ratsM (m 3) (lst (cntH 1 n r) H))], .box 121 [.p (ratsM (m 0) (lst (cntA 1 n) A)), .p (ratsM (m 1) (lst (cntB 1 n) B)), .p (ratsM (m 2) (lst (cntH 1 n r) G)), .p (ratsM (m 3) (lst (cntH 1 n r) H))]]))
      (fun i => i ≤ 4) (fun i => 4 - i) 0 [0, 1] (Nat.zero_le _) ⟨rfl, by simp, rfl, rfl, rfl, ⟨rfl, rfl, rfl, trivial⟩, ⟨rfl, rfl, trivial⟩⟩ ?_
    intro i hi
    have hi : i ≤ 4 := hi
    rcases (show i = 0 ∨ i = 1 ∨ i = 2 ∨ i = 3 ∨ i = 4 by omega) with rfl | rfl | rfl | rfl | rfl
    · refine SCmp.yes (rfl) ?_
      refine SIdx.mk 0 _ rfl rfl ?_
      refine SCall.pure (none1_ok (m 0) (lst (cntA 1 n) A) (fun i hi => by rw [lst_length] at hi; rw [lst_getD hi]; exact check1_ok _ ((h.bA i hi).mono (by omega))) (by rw [lst_length]; exact Nat.le_trans (cb 0) (by decide))) ?_
      refine SCond.mk (fun h => by cases h) (fun _ => ?_)
      refine SWrap.i64z ((0 + 1 : Nat) : Int) (by omega) (by omega) ?_
      exact ⟨0 + 1, [0, 1], by decide, by decide, ⟨rfl, by simp, rfl, rfl, rfl, ⟨rfl, rfl, rfl, trivial⟩, ⟨rfl, rfl, trivial⟩⟩⟩
    · refine SCmp.yes (rfl) ?_
      refine SIdx.mk 1 _ rfl rfl ?_
      refine SCall.pure (none1_ok (m 1) (lst (cntB 1 n) B) (fun i hi => by rw [lst_length] at hi; rw [lst_getD hi]; exact check1_ok _ ((h.bB i hi).mono (by omega))) (by rw [lst_length]; exact Nat.le_trans (cb 1) (by decide))) ?_
      refine SCond.mk (fun h => by cases h) (fun _ => ?_)
      refine SWrap.i64z ((1 + 1 : Nat) : Int) (by omega) (by omega) ?_
      exact ⟨1 + 1, [0, 1], by decide, by decide, ⟨rfl, by simp, rfl, rfl, rfl, ⟨rfl, rfl, rfl, trivial⟩, ⟨rfl, rfl, trivial⟩⟩⟩
    · refine SCmp.yes (rfl) ?_
      refine SIdx.mk 2 _ rfl rfl ?_
      refine SCall.pure (none1_ok (m 2) (lst (cntH 1 n r) G) (fun i hi => by rw [lst_length] at hi; rw [lst_getD hi]; exact check1_ok _ ((h.bG i hi).mono (by omega))) (by rw [lst_length]; exact Nat.le_trans (cb 2) (by decide))) ?_
      refine SCond.mk (fun h => by cases h) (fun _ => ?_)
      refine SWrap.i64z ((2 + 1 : Nat) : Int) (by omega) (by omega) ?_
      exact ⟨2 + 1, [0, 1], by decide, by decide, ⟨rfl, by simp, rfl, rfl, rfl, ⟨rfl, rfl, rfl, trivial⟩, ⟨rfl, rfl, trivial⟩⟩⟩
    · refine SCmp.yes (rfl) ?_
      refine SIdx.mk 3 _ rfl rfl ?_
      refine SCall.pure (none1_ok (m 3) (lst (cntH 1 n r) H) (fun i hi => by rw [lst_length] at hi; rw [lst_getD hi]; exact check1_ok _ ((h.bH i hi).mono (by omega))) (by rw [lst_length]; exact Nat.le_trans (cb 3) (by decide))) ?_
      refine SCond.mk (fun h => by cases h) (fun _ => ?_)
      refine SWrap.i64z ((3 + 1 : Nat) : Int) (by omega) (by omega) ?_
      exact ⟨3 + 1, [0, 1], by decide, by decide, ⟨rfl, by simp, rfl, rfl, rfl, ⟨rfl, rfl, rfl, trivial⟩, ⟨rfl, rfl, trivial⟩⟩⟩
    · refine SCmp.no (rfl) ?_
      refine SZ.mk ((cntA 1 n : Nat) : Int) (by simp [lst]) ?_
      refine SLoop.mk Nat (fun i => ([(1, .bptr 0 0), (68, .p (ratsM (m 0) (lst (cntA 1 n) A))), (69, .p (.int .i64 ((cntA 1 n : Nat) : Int))), (70, .p (.int .i64 i))], [.box 26 [.p (.int .i64 ((1 : Nat) : Int)), .p (.int .i64 (n : Int)), .p (.int .i64 (r : Int)), .p (ratsM (m 0) (lst (cntA 1 n) A)), .p (ratsM (m 1) (lst (cntB 1 n) B)), .p (ratsM (m 2) (lst (cntH 1 n r) G)), .p (ratsM (m 3) (lst (cntH 1 n r) H))], .box 121 [.p (ratsM (m 0) (lst (cntA 1 n) A)), .p (ratsM (m 1) (lst (cntB 1 n) B)), .p (ratsM (m 2) (lst (cntH 1 n r) G)), .p (ratsM (m 3) (lst (cntH 1 n r) H))]]))
        (fun i => i ≤ cntA 1 n) (fun i => cntA 1 n - i) 0 [0, 1] (Nat.zero_le _) ⟨rfl, by simp, rfl, rfl, rfl, ⟨rfl, rfl, rfl, rfl, trivial⟩, ⟨rfl, rfl, trivial⟩⟩ ?_
      intro i hi
      have hi : i ≤ cntA 1 n := hi
      have cA := cb 0
      by_cases hia : i < cntA 1 n
      · refine SCmp.yes (decide_eq_true (by omega)) ?_
        refine SIdx.rf i rfl hia ?_
        have hz := (h.bA i hia).mono (show b ≤ c by omega)
        have hc2 := none2_ok (m 1) true (A i) (lst (cntB 1 n) B) (fun j hj => by
          rw [lst_length] at hj; rw [lst_getD hj]
          have := check2_ok true (A i) (B j) hz (h.bB j hj) (by omega)
          rw [decide_eq_false (h.ne i j hia hj)] at this
          exact this) (by rw [lst_length]; exact Nat.le_trans (cb 1) (by decide))
        refine SCall.pure (pvs := [ratsM (m 1) (lst (cntB 1 n) B), .fn 104 [.pel true (ratP (A i))]]) hc2 ?_
        refine SCond.mk (fun h => by cases h) (fun _ => ?_)
        refine SWrap.i64z ((i + 1 : Nat) : Int) (by omega) (by omega) ?_
        exact ⟨i + 1, [0, 1], hia, by show cntA 1 n - (i + 1) < cntA 1 n - i; omega, ⟨rfl, by simp, rfl, rfl, rfl, ⟨rfl, rfl, rfl, rfl, trivial⟩, ⟨rfl, rfl, trivial⟩⟩⟩
      · refine SCmp.no (decide_eq_false (by omega)) ?_
        exact SRet.pure (.p _ (.int _ _))
theorem gcheck2_ok (m : Nat → Bool) (n r : Nat) (A B G H : Nat → Rat) {b c : Nat} (h : Wf ⟨2, n, r, A, B, G, H⟩ b c) : CallP Tryz.prog 72 [genP m ⟨2, n, r, A, B, G, H⟩] (.p (.int .i64 0)) [] := by
  have n6 : n ≤ 6 := h.n6
  have n1 : 1 ≤ n := h.n1
  have r2 : r ≤ 2 := h.r2
  have hnr : n * r ≤ 12 := Nat.mul_le_mul n6 r2
  have hc4 := h.c4
  have hbc := h.bc
  have cc := cnt_le (k := 2) (r := r) n1 (show n ≤ 8 by omega) (show r ≤ 3 by omega)
  have cb : ∀ i : Nat, (if i = 0 then cntA 2 n else if i = 1 then cntB 2 n else cntH 2 n r) ≤ 24 := fun i => by split <;> (try split) <;> omega
  show CallP Tryz.prog 72 [.agg [.int .i64 ((2 : Nat) : Int), .int .i64 (n : Int), .int .i64 (r : Int), ratsM (m 0) (lst (cntA 2 n) A), ratsM (m 1) (lst (cntB 2 n) B), ratsM (m 2) (lst (cntH 2 n r) G), ratsM (m 3) (lst (cntH 2 n r) H)]] (.p (.int .i64 0)) []
  refine callG_of_vc (wr := wr0) Γok mixed Tryz.func72 (by kernel_rfl) rfl (by kernel_rfl) (le_of_ble rfl) (by simp) ?_
  refine SCmp.no (decide_eq_false (by omega)) ?_
  refine SCmp.no (decide_eq_false (by omega)) ?_
  refine SCall.pure (sized_ok m ⟨2, n, r, A, B, G, H⟩ h) ?_
  refine SCmp.no (rfl) ?_
  refine SCall.lent [genP m ⟨2, n, r, A, B, G, H⟩] _ rfl (genrows_ok m ⟨2, n, r, A, B, G, H⟩) ?_
  refine SCall.pure (counts_ok) ?_
  refine SLoop.mk Nat (fun i => ([(1, .bptr 0 0), (3, .bptr 1 0), (4, .p (.mp false cntM)), (28, .p (.agg [ratsM (m 0) (lst (cntA 2 n) A), ratsM (m 1) (lst (cntB 2 n) B), ratsM (m 2) (lst (cntH 2 n r) G), ratsM (m 3) (lst (cntH 2 n r) H)])), (29, .p (.int .i64 i))], [.box 26 [.p (.int .i64 ((2 : Nat) : Int)), .p (.int .i64 (n : Int)), .p (.int .i64 (r : Int)), .p (ratsM (m 0) (lst (cntA 2 n) A)), .p (ratsM (m 1) (lst (cntB 2 n) B)), .p (ratsM (m 2) (lst (cntH 2 n r) G)), .p (ratsM (m 3) (lst (cntH 2 n r) H))], .box 121 [.p (ratsM (m 0) (lst (cntA 2 n) A)), .p (ratsM (m 1) (lst (cntB 2 n) B)), .p (ratsM (m 2) (lst (cntH 2 n r) G)), .p (ratsM (m 3) (lst (cntH 2 n r) H))]]))
    (fun i => i ≤ 4) (fun i => 4 - i) 0 [0, 1] (Nat.zero_le _) ⟨rfl, by simp, rfl, rfl, rfl, ⟨rfl, rfl, rfl, rfl, rfl, trivial⟩, ⟨rfl, rfl, trivial⟩⟩ ?_
  intro i hi
  have hi : i ≤ 4 := hi
  rcases (show i = 0 ∨ i = 1 ∨ i = 2 ∨ i = 3 ∨ i = 4 by omega) with rfl | rfl | rfl | rfl | rfl
  · refine SCmp.yes (rfl) ?_
    refine SIdx.mk 0 _ rfl rfl ?_
    refine SKeys.all rfl <| SGet.at 1 _ rfl rfl rfl ?_
    refine SZ.mk ((cntA 2 n : Nat) : Int) (by simp [lst]) ?_
    refine SPos.mk 0 rfl (by decide) ?_
    refine SWrap.i64z ((2 * n : Nat) : Int) (by omega) (by omega) ?_
    refine SPos.mk 1 rfl (by decide) ?_
    refine SWrap.i64z ((0 * n : Nat) : Int) (by omega) (by omega) ?_
    refine SWrap.i64z ((0 : Nat) : Int) (by simp) (by omega) ?_
    refine SWrap.i64z ((2 * n + 0 : Nat) : Int) (by omega) (by omega) ?_
    refine SPos.mk 2 rfl (by decide) ?_
    refine SWrap.i64z ((cntA 2 n : Nat) : Int) (by simp [cntA, cntB, cntH] <;> omega) (by have := cnt_le (k := 2) (r := r) n1 (show n ≤ 8 by omega) (show r ≤ 3 by omega); omega) ?_
    refine SCmp.no (neF rfl) ?_
    refine SWrap.i64z ((0 + 1 : Nat) : Int) (by omega) (by omega) ?_
    exact ⟨0 + 1, [0, 1], by decide, by decide, ⟨rfl, by simp, rfl, rfl, rfl, ⟨rfl, rfl, rfl, rfl, rfl, trivial⟩, ⟨rfl, rfl, trivial⟩⟩⟩
  · refine SCmp.yes (rfl) ?_
    refine SIdx.mk 1 _ rfl rfl ?_
    refine SKeys.all rfl <| SGet.none rfl ?_
    refine SZ.mk ((cntB 2 n : Nat) : Int) (by simp [lst]) ?_
    refine SPos.mk 0 rfl (by decide) ?_
    refine SWrap.i64z ((0 * n : Nat) : Int) (by omega) (by omega) ?_
    refine SPos.mk 1 rfl (by decide) ?_
    refine SWrap.i64z ((0 * n : Nat) : Int) (by omega) (by omega) ?_
    refine SWrap.i64z ((0 : Nat) : Int) (by simp) (by omega) ?_
    refine SWrap.i64z ((0 * n + 0 : Nat) : Int) (by omega) (by omega) ?_
    refine SPos.mk 2 rfl (by decide) ?_
    refine SWrap.i64z ((cntB 2 n : Nat) : Int) (by simp [cntA, cntB, cntH] <;> omega) (by have := cnt_le (k := 2) (r := r) n1 (show n ≤ 8 by omega) (show r ≤ 3 by omega); omega) ?_
    refine SCmp.no (neF rfl) ?_
    refine SWrap.i64z ((1 + 1 : Nat) : Int) (by omega) (by omega) ?_
    exact ⟨1 + 1, [0, 1], by decide, by decide, ⟨rfl, by simp, rfl, rfl, rfl, ⟨rfl, rfl, rfl, rfl, rfl, trivial⟩, ⟨rfl, rfl, trivial⟩⟩⟩
  · refine SCmp.yes (rfl) ?_
    refine SIdx.mk 2 _ rfl rfl ?_
    refine SKeys.all rfl <| SGet.none rfl ?_
    refine SZ.mk ((cntH 2 n r : Nat) : Int) (by simp [lst]) ?_
    refine SPos.mk 0 rfl (by decide) ?_
    refine SWrap.i64z ((0 * n : Nat) : Int) (by omega) (by omega) ?_
    refine SPos.mk 1 rfl (by decide) ?_
    refine SWrap.i64z ((0 * n : Nat) : Int) (by omega) (by omega) ?_
    refine SWrap.i64z ((0 : Nat) : Int) (by simp) (by omega) ?_
    refine SWrap.i64z ((0 * n + 0 : Nat) : Int) (by omega) (by omega) ?_
    refine SPos.mk 2 rfl (by decide) ?_
    refine SWrap.i64z ((cntH 2 n r : Nat) : Int) (by simp [cntA, cntB, cntH] <;> omega) (by have := cnt_le (k := 2) (r := r) n1 (show n ≤ 8 by omega) (show r ≤ 3 by omega); omega) ?_
    refine SCmp.no (neF rfl) ?_
    refine SWrap.i64z ((2 + 1 : Nat) : Int) (by omega) (by omega) ?_
    exact ⟨2 + 1, [0, 1], by decide, by decide, ⟨rfl, by simp, rfl, rfl, rfl, ⟨rfl, rfl, rfl, rfl, rfl, trivial⟩, ⟨rfl, rfl, trivial⟩⟩⟩
  · refine SCmp.yes (rfl) ?_
    refine SIdx.mk 3 _ rfl rfl ?_
    refine SKeys.all rfl <| SGet.none rfl ?_
    refine SZ.mk ((cntH 2 n r : Nat) : Int) (by simp [lst]) ?_
    refine SPos.mk 0 rfl (by decide) ?_
    refine SWrap.i64z ((0 * n : Nat) : Int) (by omega) (by omega) ?_
    refine SPos.mk 1 rfl (by decide) ?_
    refine SWrap.i64z ((0 * n : Nat) : Int) (by omega) (by omega) ?_
    refine SWrap.i64z ((0 : Nat) : Int) (by simp) (by omega) ?_
    refine SWrap.i64z ((0 * n + 0 : Nat) : Int) (by omega) (by omega) ?_
    refine SPos.mk 2 rfl (by decide) ?_
    refine SWrap.i64z ((cntH 2 n r : Nat) : Int) (by simp [cntA, cntB, cntH] <;> omega) (by have := cnt_le (k := 2) (r := r) n1 (show n ≤ 8 by omega) (show r ≤ 3 by omega); omega) ?_
    refine SCmp.no (neF rfl) ?_
    refine SWrap.i64z ((3 + 1 : Nat) : Int) (by omega) (by omega) ?_
    exact ⟨3 + 1, [0, 1], by decide, by decide, ⟨rfl, by simp, rfl, rfl, rfl, ⟨rfl, rfl, rfl, rfl, rfl, trivial⟩, ⟨rfl, rfl, trivial⟩⟩⟩
  · refine SCmp.no (rfl) ?_
    refine SLoop.mk Nat (fun i => ([(1, .bptr 0 0), (60, .p (.agg [ratsM (m 0) (lst (cntA 2 n) A), ratsM (m 1) (lst (cntB 2 n) B), ratsM (m 2) (lst (cntH 2 n r) G), ratsM (m 3) (lst (cntH 2 n r) H)])), (61, .p (.int .i64 i))], [.box 26 [.p (.int .i64 ((2 : Nat) : Int)), .p (.int .i64 (n : Int)), .p (.int .i64 (r : Int)), .p (ratsM (m 0) (lst (cntA 2 n) A)), .p (ratsM (m 1) (lst (cntB 2 n) B)), .p (ratsM (m 2) (lst (cntH 2 n r) G)), .p (ratsM (m 3) (lst (cntH 2 n r) H))], .box 121 [.p (ratsM (m 0) (lst (cntA 2 n) A)), .p (ratsM (m 1) (lst (cntB 2 n) B)), .p (ratsM (m 2) (lst (cntH 2 n r) G)), .p (ratsM (m 3) (lst (cntH 2 n r) H))]]))
      (fun i => i ≤ 4) (fun i => 4 - i) 0 [0, 1] (Nat.zero_le _) ⟨rfl, by simp, rfl, rfl, rfl, ⟨rfl, rfl, rfl, trivial⟩, ⟨rfl, rfl, trivial⟩⟩ ?_
    intro i hi
    have hi : i ≤ 4 := hi
    rcases (show i = 0 ∨ i = 1 ∨ i = 2 ∨ i = 3 ∨ i = 4 by omega) with rfl | rfl | rfl | rfl | rfl
    · refine SCmp.yes (rfl) ?_
      refine SIdx.mk 0 _ rfl rfl ?_
      refine SCall.pure (none1_ok (m 0) (lst (cntA 2 n) A) (fun i hi => by rw [lst_length] at hi; rw [lst_getD hi]; exact check1_ok _ ((h.bA i hi).mono (by omega))) (by rw [lst_length]; exact Nat.le_trans (cb 0) (by decide))) ?_
      refine SCond.mk (fun h => by cases h) (fun _ => ?_)
      refine SWrap.i64z ((0 + 1 : Nat) : Int) (by omega) (by omega) ?_
      exact ⟨0 + 1, [0, 1], by decide, by decide, ⟨rfl, by simp, rfl, rfl, rfl, ⟨rfl, rfl, rfl, trivial⟩, ⟨rfl, rfl, trivial⟩⟩⟩
    · refine SCmp.yes (rfl) ?_
      refine SIdx.mk 1 _ rfl rfl ?_
      refine SCall.pure (none1_ok (m 1) (lst (cntB 2 n) B) (fun i hi => by rw [lst_length] at hi; rw [lst_getD hi]; exact check1_ok _ ((h.bB i hi).mono (by omega))) (by rw [lst_length]; exact Nat.le_trans (cb 1) (by decide))) ?_
      refine SCond.mk (fun h => by cases h) (fun _ => ?_)
      refine SWrap.i64z ((1 + 1 : Nat) : Int) (by omega) (by omega) ?_
      exact ⟨1 + 1, [0, 1], by decide, by decide, ⟨rfl, by simp, rfl, rfl, rfl, ⟨rfl, rfl, rfl, trivial⟩, ⟨rfl, rfl, trivial⟩⟩⟩
    · refine SCmp.yes (rfl) ?_
      refine SIdx.mk 2 _ rfl rfl ?_
      refine SCall.pure (none1_ok (m 2) (lst (cntH 2 n r) G) (fun i hi => by rw [lst_length] at hi; rw [lst_getD hi]; exact check1_ok _ ((h.bG i hi).mono (by omega))) (by rw [lst_length]; exact Nat.le_trans (cb 2) (by decide))) ?_
      refine SCond.mk (fun h => by cases h) (fun _ => ?_)
      refine SWrap.i64z ((2 + 1 : Nat) : Int) (by omega) (by omega) ?_
      exact ⟨2 + 1, [0, 1], by decide, by decide, ⟨rfl, by simp, rfl, rfl, rfl, ⟨rfl, rfl, rfl, trivial⟩, ⟨rfl, rfl, trivial⟩⟩⟩
    · refine SCmp.yes (rfl) ?_
      refine SIdx.mk 3 _ rfl rfl ?_
      refine SCall.pure (none1_ok (m 3) (lst (cntH 2 n r) H) (fun i hi => by rw [lst_length] at hi; rw [lst_getD hi]; exact check1_ok _ ((h.bH i hi).mono (by omega))) (by rw [lst_length]; exact Nat.le_trans (cb 3) (by decide))) ?_
      refine SCond.mk (fun h => by cases h) (fun _ => ?_)
      refine SWrap.i64z ((3 + 1 : Nat) : Int) (by omega) (by omega) ?_
      exact ⟨3 + 1, [0, 1], by decide, by decide, ⟨rfl, by simp, rfl, rfl, rfl, ⟨rfl, rfl, rfl, trivial⟩, ⟨rfl, rfl, trivial⟩⟩⟩
    · refine SCmp.no (rfl) ?_
      refine SZ.mk ((cntA 2 n : Nat) : Int) (by simp [lst]) ?_
      refine SLoop.mk Nat (fun i => ([(1, .bptr 0 0), (68, .p (ratsM (m 0) (lst (cntA 2 n) A))), (69, .p (.int .i64 ((cntA 2 n : Nat) : Int))), (70, .p (.int .i64 i))], [.box 26 [.p (.int .i64 ((2 : Nat) : Int)), .p (.int .i64 (n : Int)), .p (.int .i64 (r : Int)), .p (ratsM (m 0) (lst (cntA 2 n) A)), .p (ratsM (m 1) (lst (cntB 2 n) B)), .p (ratsM (m 2) (lst (cntH 2 n r) G)), .p (ratsM (m 3) (lst (cntH 2 n r) H))], .box 121 [.p (ratsM (m 0) (lst (cntA 2 n) A)), .p (ratsM (m 1) (lst (cntB 2 n) B)), .p (ratsM (m 2) (lst (cntH 2 n r) G)), .p (ratsM (m 3) (lst (cntH 2 n r) H))]]))
        (fun i => i ≤ cntA 2 n) (fun i => cntA 2 n - i) 0 [0, 1] (Nat.zero_le _) ⟨rfl, by simp, rfl, rfl, rfl, ⟨rfl, rfl, rfl, rfl, trivial⟩, ⟨rfl, rfl, trivial⟩⟩ ?_
      intro i hi
      have hi : i ≤ cntA 2 n := hi
      have cA := cb 0
      by_cases hia : i < cntA 2 n
      · refine SCmp.yes (decide_eq_true (by omega)) ?_
        refine SIdx.rf i rfl hia ?_
        have hz := (h.bA i hia).mono (show b ≤ c by omega)
        have hc2 := none2_ok (m 1) true (A i) (lst (cntB 2 n) B) (fun j hj => by
          rw [lst_length] at hj; rw [lst_getD hj]
          have := check2_ok true (A i) (B j) hz (h.bB j hj) (by omega)
          rw [decide_eq_false (h.ne i j hia hj)] at this
          exact this) (by rw [lst_length]; exact Nat.le_trans (cb 1) (by decide))
        refine SCall.pure (pvs := [ratsM (m 1) (lst (cntB 2 n) B), .fn 104 [.pel true (ratP (A i))]]) hc2 ?_
        refine SCond.mk (fun h => by cases h) (fun _ => ?_)
        refine SWrap.i64z ((i + 1 : Nat) : Int) (by omega) (by omega) ?_
        exact ⟨i + 1, [0, 1], hia, by show cntA 2 n - (i + 1) < cntA 2 n - i; omega, ⟨rfl, by simp, rfl, rfl, rfl, ⟨rfl, rfl, rfl, rfl, trivial⟩, ⟨rfl, rfl, trivial⟩⟩⟩
      · refine SCmp.no (decide_eq_false (by omega)) ?_
        exact SRet.pure (.p _ (.int _ _))
theorem gcheck3_ok (m : Nat → Bool) (n r : Nat) (A B G H : Nat → Rat) {b c : Nat} (h : Wf ⟨3, n, r, A, B, G, H⟩ b c) : CallP Tryz.prog 72 [genP m ⟨3, n, r, A, B, G, H⟩] (.p (.int .i64 0)) [] := by
  have n6 : n ≤ 6 := h.n6
  have n1 : 1 ≤ n := h.n1
  have r2 : r ≤ 2 := h.r2
  have hnr : n * r ≤ 12 := Nat.mul_le_mul n6 r2
  have hc4 := h.c4
  have hbc := h.bc
  have cc := cnt_le (k := 3) (r := r) n1 (show n ≤ 8 by omega) (show r ≤ 3 by omega)
  have cb : ∀ i : Nat, (if i = 0 then cntA 3 n else if i = 1 then cntB 3 n else cntH 3 n r) ≤ 24 := fun i => by split <;> (try split) <;> omega
  show CallP Tryz.prog 72 [.agg [.int .i64 ((3 : Nat) : Int), .int .i64 (n : Int), .int .i64 (r : Int), ratsM (m 0) (lst (cntA 3 n) A), ratsM (m 1) (lst (cntB 3 n) B), ratsM (m 2) (lst (cntH 3 n r) G), ratsM (m 3) (lst (cntH 3 n r) H)]] (.p (.int .i64 0)) []
  refine callG_of_vc (wr := wr0) Γok mixed Tryz.func72 (by kernel_rfl) rfl (by kernel_rfl) (le_of_ble rfl) (by simp) ?_
  refine SCmp.no (decide_eq_false (by omega)) ?_
  refine SCmp.no (decide_eq_false (by omega)) ?_
  refine SCall.pure (sized_ok m ⟨3, n, r, A, B, G, H⟩ h) ?_
  refine SCmp.no (rfl) ?_
  refine SCall.lent [genP m ⟨3, n, r, A, B, G, H⟩] _ rfl (genrows_ok m ⟨3, n, r, A, B, G, H⟩) ?_
  refine SCall.pure (counts_ok) ?_
  refine SLoop.mk Nat (fun i => ([(1, .bptr 0 0), (3, .bptr 1 0), (4, .p (.mp false cntM)), (28, .p (.agg [ratsM (m 0) (lst (cntA 3 n) A), ratsM (m 1) (lst (cntB 3 n) B), ratsM (m 2) (lst (cntH 3 n r) G), ratsM (m 3) (lst (cntH 3 n r) H)])), (29, .p (.int .i64 i))], [.box 26 [.p (.int .i64 ((3 : Nat) : Int)), .p (.int .i64 (n : Int)), .p (.int .i64 (r : Int)), .p (ratsM (m 0) (lst (cntA 3 n) A)), .p (ratsM (m 1) (lst (cntB 3 n) B)), .p (ratsM (m 2) (lst (cntH 3 n r) G)), .p (ratsM (m 3) (lst (cntH 3 n r) H))], .box 121 [.p (ratsM (m 0) (lst (cntA 3 n) A)), .p (ratsM (m 1) (lst (cntB 3 n) B)), .p (ratsM (m 2) (lst (cntH 3 n r) G)), .p (ratsM (m 3) (lst (cntH 3 n r) H))]]))
    (fun i => i ≤ 4) (fun i => 4 - i) 0 [0, 1] (Nat.zero_le _) ⟨rfl, by simp, rfl, rfl, rfl, ⟨rfl, rfl, rfl, rfl, rfl, trivial⟩, ⟨rfl, rfl, trivial⟩⟩ ?_
  intro i hi
  have hi : i ≤ 4 := hi
  rcases (show i = 0 ∨ i = 1 ∨ i = 2 ∨ i = 3 ∨ i = 4 by omega) with rfl | rfl | rfl | rfl | rfl
  · refine SCmp.yes (rfl) ?_
    refine SIdx.mk 0 _ rfl rfl ?_
    refine SKeys.all rfl <| SGet.at 2 _ rfl rfl rfl ?_
    refine SZ.mk ((cntA 3 n : Nat) : Int) (by simp [lst]) ?_
    refine SPos.mk 0 rfl (by decide) ?_
    refine SWrap.i64z ((1 * n : Nat) : Int) (by omega) (by omega) ?_
    refine SPos.mk 1 rfl (by decide) ?_
    refine SWrap.i64z ((0 * n : Nat) : Int) (by omega) (by omega) ?_
    refine SWrap.i64z ((0 : Nat) : Int) (by simp) (by omega) ?_
    refine SWrap.i64z ((1 * n + 0 : Nat) : Int) (by omega) (by omega) ?_
    refine SPos.mk 2 rfl (by decide) ?_
    refine SWrap.i64z ((cntA 3 n : Nat) : Int) (by simp [cntA, cntB, cntH] <;> omega) (by have := cnt_le (k := 3) (r := r) n1 (show n ≤ 8 by omega) (show r ≤ 3 by omega); omega) ?_
    refine SCmp.no (neF rfl) ?_
    refine SWrap.i64z ((0 + 1 : Nat) : Int) (by omega) (by omega) ?_
    exact ⟨0 + 1, [0, 1], by decide, by decide, ⟨rfl, by simp, rfl, rfl, rfl, ⟨rfl, rfl, rfl, rfl, rfl, trivial⟩, ⟨rfl, rfl, trivial⟩⟩⟩
  · refine SCmp.yes (rfl) ?_
    refine SIdx.mk 1 _ rfl rfl ?_
    refine SKeys.all rfl <| SGet.none rfl ?_
    refine SZ.mk ((cntB 3 n : Nat) : Int) (by simp [lst]) ?_
    refine SPos.mk 0 rfl (by decide) ?_
    refine SWrap.i64z ((0 * n : Nat) : Int) (by omega) (by omega) ?_
    refine SPos.mk 1 rfl (by decide) ?_
    refine SWrap.i64z ((0 * n : Nat) : Int) (by omega) (by omega) ?_
    refine SWrap.i64z ((0 : Nat) : Int) (by simp) (by omega) ?_
    refine SWrap.i64z ((0 * n + 0 : Nat) : Int) (by omega) (by omega) ?_
    refine SPos.mk 2 rfl (by decide) ?_
    refine SWrap.i64z ((cntB 3 n : Nat) : Int) (by simp [cntA, cntB, cntH] <;> omega) (by have := cnt_le (k := 3) (r := r) n1 (show n ≤ 8 by omega) (show r ≤ 3 by omega); omega) ?_
    refine SCmp.no (neF rfl) ?_
    refine SWrap.i64z ((1 + 1 : Nat) : Int) (by omega) (by omega) ?_
    exact ⟨1 + 1, [0, 1], by decide, by decide, ⟨rfl, by simp, rfl, rfl, rfl, ⟨rfl, rfl, rfl, rfl, rfl, trivial⟩, ⟨rfl, rfl, trivial⟩⟩⟩
  · refine SCmp.yes (rfl) ?_
    refine SIdx.mk 2 _ rfl rfl ?_
    refine SKeys.all rfl <| SGet.none rfl ?_
    refine SZ.mk ((cntH 3 n r : Nat) : Int) (by simp [lst]) ?_
    refine SPos.mk 0 rfl (by decide) ?_
    refine SWrap.i64z ((0 * n : Nat) : Int) (by omega) (by omega) ?_
    refine SPos.mk 1 rfl (by decide) ?_
    refine SWrap.i64z ((0 * n : Nat) : Int) (by omega) (by omega) ?_
    refine SWrap.i64z ((0 : Nat) : Int) (by simp) (by omega) ?_
    refine SWrap.i64z ((0 * n + 0 : Nat) : Int) (by omega) (by omega) ?_
    refine SPos.mk 2 rfl (by decide) ?_
    refine SWrap.i64z ((cntH 3 n r : Nat) : Int) (by simp [cntA, cntB, cntH] <;> omega) (by have := cnt_le (k := 3) (r := r) n1 (show n ≤ 8 by omega) (show r ≤ 3 by omega); omega) ?_
    refine SCmp.no (neF rfl) ?_
    refine SWrap.i64z ((2 + 1 : Nat) : Int) (by omega) (by omega) ?_
    exact ⟨2 + 1, [0, 1], by decide, by decide, ⟨rfl, by simp, rfl, rfl, rfl, ⟨rfl, rfl, rfl, rfl, rfl, trivial⟩, ⟨rfl, rfl, trivial⟩⟩⟩
  · refine SCmp.yes (rfl) ?_
    refine SIdx.mk 3 _ rfl rfl ?_
    refine SKeys.all rfl <| SGet.none rfl ?_
    refine SZ.mk ((cntH 3 n r : Nat) : Int) (by simp [lst]) ?_
    refine SPos.mk 0 rfl (by decide) ?_
    refine SWrap.i64z ((0 * n : Nat) : Int) (by omega) (by omega) ?_
    refine SPos.mk 1 rfl (by decide) ?_
    refine SWrap.i64z ((0 * n : Nat) : Int) (by omega) (by omega) ?_
    refine SWrap.i64z ((0 : Nat) : Int) (by simp) (by omega) ?_
    refine SWrap.i64z ((0 * n + 0 : Nat) : Int) (by omega) (by omega) ?_
    refine SPos.mk 2 rfl (by decide) ?_
    refine SWrap.i64z ((cntH 3 n r : Nat) : Int) (by simp [cntA, cntB, cntH] <;> omega) (by have := cnt_le (k := 3) (r := r) n1 (show n ≤ 8 by omega) (show r ≤ 3 by omega); omega) ?_
    refine SCmp.no (neF rfl) ?_
    refine SWrap.i64z ((3 + 1 : Nat) : Int) (by omega) (by omega) ?_
    exact ⟨3 + 1, [0, 1], by decide, by decide, ⟨rfl, by simp, rfl, rfl, rfl, ⟨rfl, rfl, rfl, rfl, rfl, trivial⟩, ⟨rfl, rfl, trivial⟩⟩⟩
  · refine SCmp.no (rfl) ?_
    refine SLoop.mk Nat (fun i => ([(1, .bptr 0 0), (60, .p (.agg [ratsM (m 0) (lst (cntA 3 n) A), ratsM (m 1) (lst (cntB 3 n) B), ratsM (m 2) (lst (cntH 3 n r) G), ratsM (m 3) (lst (cntH 3 n r) H)])), (61, .p (.int .i64 i))], [.box 26 [.p (.int .i64 ((3 : Nat) : Int)), .p (.int .i64 (n : Int)), .p (.int .i64 (r : Int)), .p (ratsM (m 0) (lst (cntA 3 n) A)), .p (ratsM (m 1) (lst (cntB 3 n) B)), .p (ratsM (m 2) (lst (cntH 3 n r) G)), .p (ratsM (m 3) (lst (cntH 3 n r) H))], .box 121 [.p (ratsM (m 0) (lst (cntA 3 n) A)), .p (ratsM (m 1) (lst (cntB 3 n) B)), .p (ratsM (m 2) (lst (cntH 3 n r) G)), .p (ratsM (m 3) (lst (cntH 3 n r) H))]]))
      (fun i => i ≤ 4) (fun i => 4 - i) 0 [0, 1] (Nat.zero_le _) ⟨rfl, by simp, rfl, rfl, rfl, ⟨rfl, rfl, rfl, trivial⟩, ⟨rfl, rfl, trivial⟩⟩ ?_
    intro i hi
    have hi : i ≤ 4 := hi
    rcases (show i = 0 ∨ i = 1 ∨ i = 2 ∨ i = 3 ∨ i = 4 by omega) with rfl | rfl | rfl | rfl | rfl
    · refine SCmp.yes (rfl) ?_
      refine SIdx.mk 0 _ rfl rfl ?_
      refine SCall.pure (none1_ok (m 0) (lst (cntA 3 n) A) (fun i hi => by rw [lst_length] at hi; rw [lst_getD hi]; exact check1_ok _ ((h.bA i hi).mono (by omega))) (by rw [lst_length]; exact Nat.le_trans (cb 0) (by decide))) ?_
      refine SCond.mk (fun h => by cases h) (fun _ => ?_)
      refine SWrap.i64z ((0 + 1 : Nat) : Int) (by omega) (by omega) ?_
      exact ⟨0 + 1, [0, 1], by decide, by decide, ⟨rfl, by simp, rfl, rfl, rfl, ⟨rfl, rfl, rfl, trivial⟩, ⟨rfl, rfl, trivial⟩⟩⟩
    · refine SCmp.yes (rfl) ?_
      refine SIdx.mk 1 _ rfl rfl ?_
      refine SCall.pure (none1_ok (m 1) (lst (cntB 3 n) B) (fun i hi => by rw [lst_length] at hi; rw [lst_getD hi]; exact check1_ok _ ((h.bB i hi).mono (by omega))) (by rw [lst_length]; exact Nat.le_trans (cb 1) (by decide))) ?_
      refine SCond.mk (fun h => by cases h) (fun _ => ?_)
      refine SWrap.i64z ((1 + 1 : Nat) : Int) (by omega) (by omega) ?_
      exact ⟨1 + 1, [0, 1], by decide, by decide, ⟨rfl, by simp, rfl, rfl, rfl, ⟨rfl, rfl, rfl, trivial⟩, ⟨rfl, rfl, trivial⟩⟩⟩
    · refine SCmp.yes (rfl) ?_
      refine SIdx.mk 2 _ rfl rfl ?_
      refine SCall.pure (none1_ok (m 2) (lst (cntH 3 n r) G) (fun i hi => by rw [lst_length] at hi; rw [lst_getD hi]; exact check1_ok _ ((h.bG i hi).mono (by omega))) (by rw [lst_length]; exact Nat.le_trans (cb 2) (by decide))) ?_
      refine SCond.mk (fun h => by cases h) (fun _ => ?_)
      refine SWrap.i64z ((2 + 1 : Nat) : Int) (by omega) (by omega) ?_
      exact ⟨2 + 1, [0, 1], by decide, by decide, ⟨rfl, by simp, rfl, rfl, rfl, ⟨rfl, rfl, rfl, trivial⟩, ⟨rfl, rfl, trivial⟩⟩⟩
    · refine SCmp.yes (rfl) ?_
      refine SIdx.mk 3 _ rfl rfl ?_
      refine SCall.pure (none1_ok (m 3) (lst (cntH 3 n r) H) (fun i hi => by rw [lst_length] at hi; rw [lst_getD hi]; exact check1_ok _ ((h.bH i hi).mono (by omega))) (by rw [lst_length]; exact Nat.le_trans (cb 3) (by decide))) ?_
      refine SCond.mk (fun h => by cases h) (fun _ => ?_)
      refine SWrap.i64z ((3 + 1 : Nat) : Int) (by omega) (by omega) ?_
      exact ⟨3 + 1, [0, 1], by decide, by decide, ⟨rfl, by simp, rfl, rfl, rfl, ⟨rfl, rfl, rfl, trivial⟩, ⟨rfl, rfl, trivial⟩⟩⟩
    · refine SCmp.no (rfl) ?_
      refine SZ.mk ((cntA 3 n : Nat) : Int) (by simp [lst]) ?_
      refine SLoop.mk Nat (fun i => ([(1, .bptr 0 0), (68, .p (ratsM (m 0) (lst (cntA 3 n) A))), (69, .p (.int .i64 ((cntA 3 n : Nat) : Int))), (70, .p (.int .i64 i))], [.box 26 [.p (.int .i64 ((3 : Nat) : Int)), .p (.int .i64 (n : Int)), .p (.int .i64 (r : Int)), .p (ratsM (m 0) (lst (cntA 3 n) A)), .p (ratsM (m 1) (lst (cntB 3 n) B)), .p (ratsM (m 2) (lst (cntH 3 n r) G)), .p (ratsM (m 3) (lst (cntH 3 n r) H))], .box 121 [.p (ratsM (m 0) (lst (cntA 3 n) A)), .p (ratsM (m 1) (lst (cntB 3 n) B)), .p (ratsM (m 2) (lst (cntH 3 n r) G)), .p (ratsM (m 3) (lst (cntH 3 n r) H))]]))
        (fun i => i ≤ cntA 3 n) (fun i => cntA 3 n - i) 0 [0, 1] (Nat.zero_le _) ⟨rfl, by simp, rfl, rfl, rfl, ⟨rfl, rfl, rfl, rfl, trivial⟩, ⟨rfl, rfl, trivial⟩⟩ ?_
      intro i hi
      have hi : i ≤ cntA 3 n := hi
      have cA := cb 0
      by_cases hia : i < cntA 3 n
      · refine SCmp.yes (decide_eq_true (by omega)) ?_
        refine SIdx.rf i rfl hia ?_
        have hz := (h.bA i hia).mono (show b ≤ c by omega)
        have hc2 := none2_ok (m 1) true (A i) (lst (cntB 3 n) B) (fun j hj => by
          rw [lst_length] at hj; rw [lst_getD hj]
          have := check2_ok true (A i) (B j) hz (h.bB j hj) (by omega)
          rw [decide_eq_false (h.ne i j hia hj)] at this
          exact this) (by rw [lst_length]; exact Nat.le_trans (cb 1) (by decide))
        refine SCall.pure (pvs := [ratsM (m 1) (lst (cntB 3 n) B), .fn 104 [.pel true (ratP (A i))]]) hc2 ?_
        refine SCond.mk (fun h => by cases h) (fun _ => ?_)
        refine SWrap.i64z ((i + 1 : Nat) : Int) (by omega) (by omega) ?_
        exact ⟨i + 1, [0, 1], hia, by show cntA 3 n - (i + 1) < cntA 3 n - i; omega, ⟨rfl, by simp, rfl, rfl, rfl, ⟨rfl, rfl, rfl, rfl, trivial⟩, ⟨rfl, rfl, trivial⟩⟩⟩
      · refine SCmp.no (decide_eq_false (by omega)) ?_
        exact SRet.pure (.p _ (.int _ _))
theorem gcheck4_ok (m : Nat → Bool) (n r : Nat) (A B G H : Nat → Rat) {b c : Nat} (h : Wf ⟨4, n, r, A, B, G, H⟩ b c) : CallP Tryz.prog 72 [genP m ⟨4, n, r, A, B, G, H⟩] (.p (.int .i64 0)) [] := by
  have n6 : n ≤ 6 := h.n6
  have n1 : 1 ≤ n := h.n1
  have r2 : r ≤ 2 := h.r2
  have hnr : n * r ≤ 12 := Nat.mul_le_mul n6 r2
  have hc4 := h.c4
  have hbc := h.bc
  have cc := cnt_le (k := 4) (r := r) n1 (show n ≤ 8 by omega) (show r ≤ 3 by omega)
  have cb : ∀ i : Nat, (if i = 0 then cntA 4 n else if i = 1 then cntB 4 n else cntH 4 n r) ≤ 24 := fun i => by split <;> (try split) <;> omega
  show CallP Tryz.prog 72 [.agg [.int .i64 ((4 : Nat) : Int), .int .i64 (n : Int), .int .i64 (r : Int), ratsM (m 0) (lst (cntA 4 n) A), ratsM (m 1) (lst (cntB 4 n) B), ratsM (m 2) (lst (cntH 4 n r) G), ratsM (m 3) (lst (cntH 4 n r) H)]] (.p (.int .i64 0)) []
  refine callG_of_vc (wr := wr0) Γok mixed Tryz.func72 (by kernel_rfl) rfl (by kernel_rfl) (le_of_ble rfl) (by simp) ?_
  refine SCmp.no (decide_eq_false (by omega)) ?_
  refine SCmp.no (decide_eq_false (by omega)) ?_
  refine SCall.pure (sized_ok m ⟨4, n, r, A, B, G, H⟩ h) ?_
  refine SCmp.no (rfl) ?_
  refine SCall.lent [genP m ⟨4, n, r, A, B, G, H⟩] _ rfl (genrows_ok m ⟨4, n, r, A, B, G, H⟩) ?_
  refine SCall.pure (counts_ok) ?_
  refine SLoop.mk Nat (fun i => ([(1, .bptr 0 0), (3, .bptr 1 0), (4, .p (.mp false cntM)), (28, .p (.agg [ratsM (m 0) (lst (cntA 4 n) A), ratsM (m 1) (lst (cntB 4 n) B), ratsM (m 2) (lst (cntH 4 n r) G), ratsM (m 3) (lst (cntH 4 n r) H)])), (29, .p (.int .i64 i))], [.box 26 [.p (.int .i64 ((4 : Nat) : Int)), .p (.int .i64 (n : Int)), .p (.int .i64 (r : Int)), .p (ratsM (m 0) (lst (cntA 4 n) A)), .p (ratsM (m 1) (lst (cntB 4 n) B)), .p (ratsM (m 2) (lst (cntH 4 n r) G)), .p (ratsM (m 3) (lst (cntH 4 n r) H))], .box 121 [.p (ratsM (m 0) (lst (cntA 4 n) A)), .p (ratsM (m 1) (lst (cntB 4 n) B)), .p (ratsM (m 2) (lst (cntH 4 n r) G)), .p (ratsM (m 3) (lst (cntH 4 n r) H))]]))
    (fun i => i ≤ 4) (fun i => 4 - i) 0 [0, 1] (Nat.zero_le _) ⟨rfl, by simp, rfl, rfl, rfl, ⟨rfl, rfl, rfl, rfl, rfl, trivial⟩, ⟨rfl, rfl, trivial⟩⟩ ?_
  intro i hi
  have hi : i ≤ 4 := hi
  rcases (show i = 0 ∨ i = 1 ∨ i = 2 ∨ i = 3 ∨ i = 4 by omega) with rfl | rfl | rfl | rfl | rfl
  · refine SCmp.yes (rfl) ?_
    refine SIdx.mk 0 _ rfl rfl ?_
    refine SKeys.all rfl <| SGet.at 3 _ rfl rfl rfl ?_
    refine SZ.mk ((cntA 4 n : Nat) : Int) (by simp [lst]) ?_
    refine SPos.mk 0 rfl (by decide) ?_
    refine SWrap.i64z ((1 * n : Nat) : Int) (by omega) (by omega) ?_
    refine SPos.mk 1 rfl (by decide) ?_
    refine SWrap.i64z ((0 * n : Nat) : Int) (by omega) (by omega) ?_
    refine SWrap.i64z ((0 : Nat) : Int) (by simp) (by omega) ?_
    refine SWrap.i64z ((1 * n + 0 : Nat) : Int) (by omega) (by omega) ?_
    refine SPos.mk 2 rfl (by decide) ?_
    refine SWrap.i64z ((cntA 4 n : Nat) : Int) (by simp [cntA, cntB, cntH] <;> omega) (by have := cnt_le (k := 4) (r := r) n1 (show n ≤ 8 by omega) (show r ≤ 3 by omega); omega) ?_
    refine SCmp.no (neF rfl) ?_
    refine SWrap.i64z ((0 + 1 : Nat) : Int) (by omega) (by omega) ?_
    exact ⟨0 + 1, [0, 1], by decide, by decide, ⟨rfl, by simp, rfl, rfl, rfl, ⟨rfl, rfl, rfl, rfl, rfl, trivial⟩, ⟨rfl, rfl, trivial⟩⟩⟩
  · refine SCmp.yes (rfl) ?_
    refine SIdx.mk 1 _ rfl rfl ?_
    refine SKeys.all rfl <| SGet.none rfl ?_
    refine SZ.mk ((cntB 4 n : Nat) : Int) (by simp [lst]) ?_
    refine SPos.mk 0 rfl (by decide) ?_
    refine SWrap.i64z ((0 * n : Nat) : Int) (by omega) (by omega) ?_
    refine SPos.mk 1 rfl (by decide) ?_
    refine SWrap.i64z ((0 * n : Nat) : Int) (by omega) (by omega) ?_
    refine SWrap.i64z ((0 : Nat) : Int) (by simp) (by omega) ?_
    refine SWrap.i64z ((0 * n + 0 : Nat) : Int) (by omega) (by omega) ?_
    refine SPos.mk 2 rfl (by decide) ?_
    refine SWrap.i64z ((cntB 4 n : Nat) : Int) (by simp [cntA, cntB, cntH] <;> omega) (by have := cnt_le (k := 4) (r := r) n1 (show n ≤ 8 by omega) (show r ≤ 3 by omega); omega) ?_
    refine SCmp.no (neF rfl) ?_
    refine SWrap.i64z ((1 + 1 : Nat) : Int) (by omega) (by omega) ?_
    exact ⟨1 + 1, [0, 1], by decide, by decide, ⟨rfl, by simp, rfl, rfl, rfl, ⟨rfl, rfl, rfl, rfl, rfl, trivial⟩, ⟨rfl, rfl, trivial⟩⟩⟩
  · refine SCmp.yes (rfl) ?_
    refine SIdx.mk 2 _ rfl rfl ?_
    refine SKeys.all rfl <| SGet.none rfl ?_
    refine SZ.mk ((cntH 4 n r : Nat) : Int) (by simp [lst]) ?_
    refine SPos.mk 0 rfl (by decide) ?_
    refine SWrap.i64z ((0 * n : Nat) : Int) (by omega) (by omega) ?_
    refine SPos.mk 1 rfl (by decide) ?_
    refine SWrap.i64z ((0 * n : Nat) : Int) (by omega) (by omega) ?_
    refine SWrap.i64z ((0 : Nat) : Int) (by simp) (by omega) ?_
    refine SWrap.i64z ((0 * n + 0 : Nat) : Int) (by omega) (by omega) ?_
    refine SPos.mk 2 rfl (by decide) ?_
    refine SWrap.i64z ((cntH 4 n r : Nat) : Int) (by simp [cntA, cntB, cntH] <;> omega) (by have := cnt_le (k := 4) (r := r) n1 (show n ≤ 8 by omega) (show r ≤ 3 by omega); omega) ?_
    refine SCmp.no (neF rfl) ?_
    refine SWrap.i64z ((2 + 1 : Nat) : Int) (by omega) (by omega) ?_
    exact ⟨2 + 1, [0, 1], by decide, by decide, ⟨rfl, by simp, rfl, rfl, rfl, ⟨rfl, rfl, rfl, rfl, rfl, trivial⟩, ⟨rfl, rfl, trivial⟩⟩⟩
  · refine SCmp.yes (rfl) ?_
    refine SIdx.mk 3 _ rfl rfl ?_
    refine SKeys.all rfl <| SGet.none rfl ?_
    refine SZ.mk ((cntH 4 n r : Nat) : Int) (by simp [lst]) ?_
    refine SPos.mk 0 rfl (by decide) ?_
    refine SWrap.i64z ((0 * n : Nat) : Int) (by omega) (by omega) ?_
    refine SPos.mk 1 rfl (by decide) ?_
    refine SWrap.i64z ((0 * n : Nat) : Int) (by omega) (by omega) ?_
    refine SWrap.i64z ((0 : Nat) : Int) (by simp) (by omega) ?_
    refine SWrap.i64z ((0 * n + 0 : Nat) : Int) (by omega) (by omega) ?_
    refine SPos.mk 2 rfl (by decide) ?_
    refine SWrap.i64z ((cntH 4 n r : Nat) : Int) (by simp [cntA, cntB, cntH] <;> omega) (by have := cnt_le (k := 4) (r := r) n1 (show n ≤ 8 by omega) (show r ≤ 3 by omega); omega) ?_
    refine SCmp.no (neF rfl) ?_
    refine SWrap.i64z ((3 + 1 : Nat) : Int) (by omega) (by omega) ?_
    exact ⟨3 + 1, [0, 1], by decide, by decide, ⟨rfl, by simp, rfl, rfl, rfl, ⟨rfl, rfl, rfl, rfl, rfl, trivial⟩, ⟨rfl, rfl, trivial⟩⟩⟩
  · refine SCmp.no (rfl) ?_
    refine SLoop.mk Nat (fun i => ([(1, .bptr 0 0), (60, .p (.agg [ratsM (m 0) (lst (cntA 4 n) A), ratsM (m 1) (lst (cntB 4 n) B), ratsM (m 2) (lst (cntH 4 n r) G), ratsM (m 3) (lst (cntH 4 n r) H)])), (61, .p (.int .i64 i))], [.box 26 [.p (.int .i64 ((4 : Nat) : Int)), .p (.int .i64 (n : Int)), .p (.int .i64 (r : Int)), .p (ratsM (m 0) (lst (cntA 4 n) A)), .p (ratsM (m 1) (lst (cntB 4 n) B)), .p (ratsM (m 2) (lst (cntH 4 n r) G)), .p (ratsM (m 3) (lst (cntH 4 n r) H))], .box 121 [.p (ratsM (m 0) (lst (cntA 4 n) A)), .p (ratsM (m 1) (lst (cntB 4 n) B)), .p (ratsM (m 2) (lst (cntH 4 n r) G)), .p (ratsM (m 3) (lst (cntH 4 n r) H))]]))
      (fun i => i ≤ 4) (fun i => 4 - i) 0 [0, 1] (Nat.zero_le _) ⟨rfl, by simp, rfl, rfl, rfl, ⟨rfl, rfl, rfl, trivial⟩, ⟨rfl, rfl, trivial⟩⟩ ?_
    intro i hi
    have hi : i ≤ 4 := hi
    rcases (show i = 0 ∨ i = 1 ∨ i = 2 ∨ i = 3 ∨ i = 4 by omega) with rfl | rfl | rfl | rfl | rfl
    · refine SCmp.yes (rfl) ?_
      refine SIdx.mk 0 _ rfl rfl ?_
      refine SCall.pure (none1_ok (m 0) (lst (cntA 4 n) A) (fun i hi => by rw [lst_length] at hi; rw [lst_getD hi]; exact check1_ok _ ((h.bA i hi).mono (by omega))) (by rw [lst_length]; exact Nat.le_trans (cb 0) (by decide))) ?_
      refine SCond.mk (fun h => by cases h) (fun _ => ?_)
      refine SWrap.i64z ((0 + 1 : Nat) : Int) (by omega) (by omega) ?_
      exact ⟨0 + 1, [0, 1], by decide, by decide, ⟨rfl, by simp, rfl, rfl, rfl, ⟨rfl, rfl, rfl, trivial⟩, ⟨rfl, rfl, trivial⟩⟩⟩
    · refine SCmp.yes (rfl) ?_
      refine SIdx.mk 1 _ rfl rfl ?_
      refine SCall.pure (none1_ok (m 1) (lst (cntB 4 n) B) (fun i hi => by rw [lst_length] at hi; rw [lst_getD hi]; exact check1_ok _ ((h.bB i hi).mono (by omega))) (by rw [lst_length]; exact Nat.le_trans (cb 1) (by decide))) ?_
      refine SCond.mk (fun h => by cases h) (fun _ => ?_)
      refine SWrap.i64z ((1 + 1 : Nat) : Int) (by omega) (by omega) ?_
      exact ⟨1 + 1, [0, 1], by decide, by decide, ⟨rfl, by simp, rfl, rfl, rfl, ⟨rfl, rfl, rfl, trivial⟩, ⟨rfl, rfl, trivial⟩⟩⟩
    · refine SCmp.yes (rfl) ?_
      refine SIdx.mk 2 _ rfl rfl ?_
      refine SCall.pure (none1_ok (m 2) (lst (cntH 4 n r) G) (fun i hi => by rw [lst_length] at hi; rw [lst_getD hi]; exact check1_ok _ ((h.bG i hi).mono (by omega))) (by rw [lst_length]; exact Nat.le_trans (cb 2) (by decide))) ?_
      refine SCond.mk (fun h => by cases h) (fun _ => ?_)
      refine SWrap.i64z ((2 + 1 : Nat) : Int) (by omega) (by omega) ?_
      exact ⟨2 + 1, [0, 1], by decide, by decide, ⟨rfl, by simp, rfl, rfl, rfl, ⟨rfl, rfl, rfl, trivial⟩, ⟨rfl, rfl, trivial⟩⟩⟩
    · refine SCmp.yes (rfl) ?_
      refine SIdx.mk 3 _ rfl rfl ?_
      refine SCall.pure (none1_ok (m 3) (lst (cntH 4 n r) H) (fun i hi => by rw [lst_length] at hi; rw [lst_getD hi]; exact check1_ok _ ((h.bH i hi).mono (by omega))) (by rw [lst_length]; exact Nat.le_trans (cb 3) (by decide))) ?_
      refine SCond.mk (fun h => by cases h) (fun _ => ?_)
      refine SWrap.i64z ((3 + 1 : Nat) : Int) (by omega) (by omega) ?_
      exact ⟨3 + 1, [0, 1], by decide, by decide, ⟨rfl, by simp, rfl, rfl, rfl, ⟨rfl, rfl, rfl, trivial⟩, ⟨rfl, rfl, trivial⟩⟩⟩
    · refine SCmp.no (rfl) ?_
      refine SZ.mk ((cntA 4 n : Nat) : Int) (by simp [lst]) ?_
      refine SLoop.mk Nat (fun i => ([(1, .bptr 0 0), (68, .p (ratsM (m 0) (lst (cntA 4 n) A))), (69, .p (.int .i64 ((cntA 4 n : Nat) : Int))), (70, .p (.int .i64 i))], [.box 26 [.p (.int .i64 ((4 : Nat) : Int)), .p (.int .i64 (n : Int)), .p (.int .i64 (r : Int)), .p (ratsM (m 0) (lst (cntA 4 n) A)), .p (ratsM (m 1) (lst (cntB 4 n) B)), .p (ratsM (m 2) (lst (cntH 4 n r) G)), .p (ratsM (m 3) (lst (cntH 4 n r) H))], .box 121 [.p (ratsM (m 0) (lst (cntA 4 n) A)), .p (ratsM (m 1) (lst (cntB 4 n) B)), .p (ratsM (m 2) (lst (cntH 4 n r) G)), .p (ratsM (m 3) (lst (cntH 4 n r) H))]]))
        (fun i => i ≤ cntA 4 n) (fun i => cntA 4 n - i) 0 [0, 1] (Nat.zero_le _) ⟨rfl, by simp, rfl, rfl, rfl, ⟨rfl, rfl, rfl, rfl, trivial⟩, ⟨rfl, rfl, trivial⟩⟩ ?_
      intro i hi
      have hi : i ≤ cntA 4 n := hi
      have cA := cb 0
      by_cases hia : i < cntA 4 n
      · refine SCmp.yes (decide_eq_true (by omega)) ?_
        refine SIdx.rf i rfl hia ?_
        have hz := (h.bA i hia).mono (show b ≤ c by omega)
        have hc2 := none2_ok (m 1) true (A i) (lst (cntB 4 n) B) (fun j hj => by
          rw [lst_length] at hj; rw [lst_getD hj]
          have := check2_ok true (A i) (B j) hz (h.bB j hj) (by omega)
          rw [decide_eq_false (h.ne i j hia hj)] at this
          exact this) (by rw [lst_length]; exact Nat.le_trans (cb 1) (by decide))
        refine SCall.pure (pvs := [ratsM (m 1) (lst (cntB 4 n) B), .fn 104 [.pel true (ratP (A i))]]) hc2 ?_
        refine SCond.mk (fun h => by cases h) (fun _ => ?_)
        refine SWrap.i64z ((i + 1 : Nat) : Int) (by omega) (by omega) ?_
        exact ⟨i + 1, [0, 1], hia, by show cntA 4 n - (i + 1) < cntA 4 n - i; omega, ⟨rfl, by simp, rfl, rfl, rfl, ⟨rfl, rfl, rfl, rfl, trivial⟩, ⟨rfl, rfl, trivial⟩⟩⟩
      · refine SCmp.no (decide_eq_false (by omega)) ?_
        exact SRet.pure (.p _ (.int _ _))
theorem gcheck5_ok (m : Nat → Bool) (n r : Nat) (A B G H : Nat → Rat) {b c : Nat} (h : Wf ⟨5, n, r, A, B, G, H⟩ b c) : CallP Tryz.prog 72 [genP m ⟨5, n, r, A, B, G, H⟩] (.p (.int .i64 0)) [] := by
  have n6 : n ≤ 6 := h.n6
  have n1 : 1 ≤ n := h.n1
  have r2 : r ≤ 2 := h.r2
  have hnr : n * r ≤ 12 := Nat.mul_le_mul n6 r2
  have hc4 := h.c4
  have hbc := h.bc
  have cc := cnt_le (k := 5) (r := r) n1 (show n ≤ 8 by omega) (show r ≤ 3 by omega)
  have cb : ∀ i : Nat, (if i = 0 then cntA 5 n else if i = 1 then cntB 5 n else cntH 5 n r) ≤ 24 := fun i => by split <;> (try split) <;> omega
  show CallP Tryz.prog 72 [.agg [.int .i64 ((5 : Nat) : Int), .int .i64 (n : Int), .int .i64 (r : Int), ratsM (m 0) (lst (cntA 5 n) A), ratsM (m 1) (lst (cntB 5 n) B), ratsM (m 2) (lst (cntH 5 n r) G), ratsM (m 3) (lst (cntH 5 n r) H)]] (.p (.int .i64 0)) []
  refine callG_of_vc (wr := wr0) Γok mixed Tryz.func72 (by kernel_rfl) rfl (by kernel_rfl) (le_of_ble rfl) (by simp) ?_
  refine SCmp.no (decide_eq_false (by omega)) ?_
  refine SCmp.no (decide_eq_false (by omega)) ?_
  refine SCall.pure (sized_ok m ⟨5, n, r, A, B, G, H⟩ h) ?_
  refine SCmp.no (rfl) ?_
  refine SCall.lent [genP m ⟨5, n, r, A, B, G, H⟩] _ rfl (genrows_ok m ⟨5, n, r, A, B, G, H⟩) ?_
  refine SCall.pure (counts_ok) ?_
  refine SLoop.mk Nat (fun i => ([(1, .bptr 0 0), (3, .bptr 1 0), (4, .p (.mp false cntM)), (28, .p (.agg [ratsM (m 0) (lst (cntA 5 n) A), ratsM (m 1) (lst (cntB 5 n) B), ratsM (m 2) (lst (cntH 5 n r) G), ratsM (m 3) (lst (cntH 5 n r) H)])), (29, .p (.int .i64 i))], [.box 26 [.p (.int .i64 ((5 : Nat) : Int)), .p (.int .i64 (n : Int)), .p (.int .i64 (r : Int)), .p (ratsM (m 0) (lst (cntA 5 n) A)), .p (ratsM (m 1) (lst (cntB 5 n) B)), .p (ratsM (m 2) (lst (cntH 5 n r) G)), .p (ratsM (m 3) (lst (cntH 5 n r) H))], .box 121 [.p (ratsM (m 0) (lst (cntA 5 n) A)), .p (ratsM (m 1) (lst (cntB 5 n) B)), .p (ratsM (m 2) (lst (cntH 5 n r) G)), .p (ratsM (m 3) (lst (cntH 5 n r) H))]]))
    (fun i => i ≤ 4) (fun i => 4 - i) 0 [0, 1] (Nat.zero_le _) ⟨rfl, by simp, rfl, rfl, rfl, ⟨rfl, rfl, rfl, rfl, rfl, trivial⟩, ⟨rfl, rfl, trivial⟩⟩ ?_
  intro i hi
  have hi : i ≤ 4 := hi
  rcases (show i = 0 ∨ i = 1 ∨ i = 2 ∨ i = 3 ∨ i = 4 by omega) with rfl | rfl | rfl | rfl | rfl
  · refine SCmp.yes (rfl) ?_
    refine SIdx.mk 0 _ rfl rfl ?_
    refine SKeys.all rfl <| SGet.at 4 _ rfl rfl rfl ?_
    refine SZ.mk ((cntA 5 n : Nat) : Int) (by simp [lst]) ?_
    refine SPos.mk 0 rfl (by decide) ?_
    refine SWrap.i64z ((1 * n : Nat) : Int) (by omega) (by omega) ?_
    refine SPos.mk 1 rfl (by decide) ?_
    refine SWrap.i64z ((0 * n : Nat) : Int) (by omega) (by omega) ?_
    refine SWrap.i64z ((0 : Nat) : Int) (by simp) (by omega) ?_
    refine SWrap.i64z ((1 * n + 0 : Nat) : Int) (by omega) (by omega) ?_
    refine SPos.mk 2 rfl (by decide) ?_
    refine SWrap.i64z ((cntA 5 n : Nat) : Int) (by simp [cntA, cntB, cntH] <;> omega) (by have := cnt_le (k := 5) (r := r) n1 (show n ≤ 8 by omega) (show r ≤ 3 by omega); omega) ?_
    refine SCmp.no (neF rfl) ?_
    refine SWrap.i64z ((0 + 1 : Nat) : Int) (by omega) (by omega) ?_
    exact ⟨0 + 1, [0, 1], by decide, by decide, ⟨rfl, by simp, rfl, rfl, rfl, ⟨rfl, rfl, rfl, rfl, rfl, trivial⟩, ⟨rfl, rfl, trivial⟩⟩⟩
  · refine SCmp.yes (rfl) ?_
    refine SIdx.mk 1 _ rfl rfl ?_
    refine SKeys.all rfl <| SGet.at 5 _ rfl rfl rfl ?_
    refine SZ.mk ((cntB 5 n : Nat) : Int) (by simp [lst]) ?_
    refine SPos.mk 0 rfl (by decide) ?_
    refine SWrap.i64z ((1 * n : Nat) : Int) (by omega) (by omega) ?_
    refine SPos.mk 1 rfl (by decide) ?_
    refine SWrap.i64z ((0 * n : Nat) : Int) (by omega) (by omega) ?_
    refine SWrap.i64z ((0 : Nat) : Int) (by simp) (by omega) ?_
    refine SWrap.i64z ((1 * n + 0 : Nat) : Int) (by omega) (by omega) ?_
    refine SPos.mk 2 rfl (by decide) ?_
    refine SWrap.i64z ((cntB 5 n : Nat) : Int) (by simp [cntA, cntB, cntH] <;> omega) (by have := cnt_le (k := 5) (r := r) n1 (show n ≤ 8 by omega) (show r ≤ 3 by omega); omega) ?_
    refine SCmp.no (neF rfl) ?_
    refine SWrap.i64z ((1 + 1 : Nat) : Int) (by omega) (by omega) ?_
    exact ⟨1 + 1, [0, 1], by decide, by decide, ⟨rfl, by simp, rfl, rfl, rfl, ⟨rfl, rfl, rfl, rfl, rfl, trivial⟩, ⟨rfl, rfl, trivial⟩⟩⟩
  · refine SCmp.yes (rfl) ?_
    refine SIdx.mk 2 _ rfl rfl ?_
    refine SKeys.all rfl <| SGet.none rfl ?_
    refine SZ.mk ((cntH 5 n r : Nat) : Int) (by simp [lst]) ?_
    refine SPos.mk 0 rfl (by decide) ?_
    refine SWrap.i64z ((0 * n : Nat) : Int) (by omega) (by omega) ?_
    refine SPos.mk 1 rfl (by decide) ?_
    refine SWrap.i64z ((0 * n : Nat) : Int) (by omega) (by omega) ?_
    refine SWrap.i64z ((0 : Nat) : Int) (by simp) (by omega) ?_
    refine SWrap.i64z ((0 * n + 0 : Nat) : Int) (by omega) (by omega) ?_
    refine SPos.mk 2 rfl (by decide) ?_
    refine SWrap.i64z ((cntH 5 n r : Nat) : Int) (by simp [cntA, cntB, cntH] <;> omega) (by have := cnt_le (k := 5) (r := r) n1 (show n ≤ 8 by omega) (show r ≤ 3 by omega); omega) ?_
    refine SCmp.no (neF rfl) ?_
    refine SWrap.i64z ((2 + 1 : Nat) : Int) (by omega) (by omega) ?_
    exact ⟨2 + 1, [0, 1], by decide, by decide, ⟨rfl, by simp, rfl, rfl, rfl, ⟨rfl, rfl, rfl, rfl, rfl, trivial⟩, ⟨rfl, rfl, trivial⟩⟩⟩
  · refine SCmp.yes (rfl) ?_
    refine SIdx.mk 3 _ rfl rfl ?_
    refine SKeys.all rfl <| SGet.none rfl ?_
    refine SZ.mk ((cntH 5 n r : Nat) : Int) (by simp [lst]) ?_
    refine SPos.mk 0 rfl (by decide) ?_
    refine SWrap.i64z ((0 * n : Nat) : Int) (by omega) (by omega) ?_
    refine SPos.mk 1 rfl (by decide) ?_
    refine SWrap.i64z ((0 * n : Nat) : Int) (by omega) (by omega) ?_
    refine SWrap.i64z ((0 : Nat) : Int) (by simp) (by omega) ?_
    refine SWrap.i64z ((0 * n + 0 : Nat) : Int) (by omega) (by omega) ?_
    refine SPos.mk 2 rfl (by decide) ?_
    refine SWrap.i64z ((cntH 5 n r : Nat) : Int) (by simp [cntA, cntB, cntH] <;> omega) (by have := cnt_le (k := 5) (r := r) n1 (show n ≤ 8 by omega) (show r ≤ 3 by omega); omega) ?_
    refine SCmp.no (neF rfl) ?_
    refine SWrap.i64z ((3 + 1 : Nat) : Int) (by omega) (by omega) ?_
    exact ⟨3 + 1, [0, 1], by decide, by decide, ⟨rfl, by simp, rfl, rfl, rfl, ⟨rfl, rfl, rfl, rfl, rfl, trivial⟩, ⟨rfl, rfl, trivial⟩⟩⟩
  · refine SCmp.no (rfl) ?_
    refine SLoop.mk Nat (fun i => ([(1, .bptr 0 0), (60, .p (.agg [ratsM (m 0) (lst (cntA 5 n) A), ratsM (m 1) (lst (cntB 5 n) B), ratsM (m 2) (lst (cntH 5 n r) G), ratsM (m 3) (lst (cntH 5 n r) H)])), (61, .p (.int .i64 i))], [.box 26 [.p (.int .i64 ((5 : Nat) : Int)), .p (.int .i64 (n : Int)), .p (.int .i64 (r : Int)), .p (ratsM (m 0) (lst (cntA 5 n) A)), .p (ratsM (m 1) (lst (cntB 5 n) B)), .p (ratsM (m 2) (lst (cntH 5 n r) G)), .p (ratsM (m 3) (lst (cntH 5 n r) H))], .box 121 [.p (ratsM (m 0) (lst (cntA 5 n) A)), .p (ratsM (m 1) (lst (cntB 5 n) B)), .p (ratsM (m 2) (lst (cntH 5 n r) G)), .p (ratsM (m 3) (lst (cntH 5 n r) H))]]))
      (fun i => i ≤ 4) (fun i => 4 - i) 0 [0, 1] (Nat.zero_le _) ⟨rfl, by simp, rfl, rfl, rfl, ⟨rfl, rfl, rfl, trivial⟩, ⟨rfl, rfl, trivial⟩⟩ ?_
    intro i hi
    have hi : i ≤ 4 := hi
    rcases (show i = 0 ∨ i = 1 ∨ i = 2 ∨ i = 3 ∨ i = 4 by omega) with rfl | rfl | rfl | rfl | rfl
    · refine SCmp.yes (rfl) ?_
      refine SIdx.mk 0 _ rfl rfl ?_
      refine SCall.pure (none1_ok (m 0) (lst (cntA 5 n) A) (fun i hi => by rw [lst_length] at hi; rw [lst_getD hi]; exact check1_ok _ ((h.bA i hi).mono (by omega))) (by rw [lst_length]; exact Nat.le_trans (cb 0) (by decide))) ?_
      refine SCond.mk (fun h => by cases h) (fun _ => ?_)
      refine SWrap.i64z ((0 + 1 : Nat) : Int) (by omega) (by omega) ?_
      exact ⟨0 + 1, [0, 1], by decide, by decide, ⟨rfl, by simp, rfl, rfl, rfl, ⟨rfl, rfl, rfl, trivial⟩, ⟨rfl, rfl, trivial⟩⟩⟩
    · refine SCmp.yes (rfl) ?_
      refine SIdx.mk 1 _ rfl rfl ?_
      refine SCall.pure (none1_ok (m 1) (lst (cntB 5 n) B) (fun i hi => by rw [lst_length] at hi; rw [lst_getD hi]; exact check1_ok _ ((h.bB i hi).mono (by omega))) (by rw [lst_length]; exact Nat.le_trans (cb 1) (by decide))) ?_
      refine SCond.mk (fun h => by cases h) (fun _ => ?_)
      refine SWrap.i64z ((1 + 1 : Nat) : Int) (by omega) (by omega) ?_
      exact ⟨1 + 1, [0, 1], by decide, by decide, ⟨rfl, by simp, rfl, rfl, rfl, ⟨rfl, rfl, rfl, trivial⟩, ⟨rfl, rfl, trivial⟩⟩⟩
    · refine SCmp.yes (rfl) ?_
      refine SIdx.mk 2 _ rfl rfl ?_
      refine SCall.pure (none1_ok (m 2) (lst (cntH 5 n r) G) (fun i hi => by rw [lst_length] at hi; rw [lst_getD hi]; exact check1_ok _ ((h.bG i hi).mono (by omega))) (by rw [lst_length]; exact Nat.le_trans (cb 2) (by decide))) ?_
      refine SCond.mk (fun h => by cases h) (fun _ => ?_)
      refine SWrap.i64z ((2 + 1 : Nat) : Int) (by omega) (by omega) ?_
      exact ⟨2 + 1, [0, 1], by decide, by decide, ⟨rfl, by simp, rfl, rfl, rfl, ⟨rfl, rfl, rfl, trivial⟩, ⟨rfl, rfl, trivial⟩⟩⟩
    · refine SCmp.yes (rfl) ?_
      refine SIdx.mk 3 _ rfl rfl ?_
      refine SCall.pure (none1_ok (m 3) (lst (cntH 5 n r) H) (fun i hi => by rw [lst_length] at hi; rw [lst_getD hi]; exact check1_ok _ ((h.bH i hi).mono (by omega))) (by rw [lst_length]; exact Nat.le_trans (cb 3) (by decide))) ?_
      refine SCond.mk (fun h => by cases h) (fun _ => ?_)
      refine SWrap.i64z ((3 + 1 : Nat) : Int) (by omega) (by omega) ?_
      exact ⟨3 + 1, [0, 1], by decide, by decide, ⟨rfl, by simp, rfl, rfl, rfl, ⟨rfl, rfl, rfl, trivial⟩, ⟨rfl, rfl, trivial⟩⟩⟩
    · refine SCmp.no (rfl) ?_
      refine SZ.mk ((cntA 5 n : Nat) : Int) (by simp [lst]) ?_
      refine SLoop.mk Nat (fun i => ([(1, .bptr 0 0), (68, .p (ratsM (m 0) (lst (cntA 5 n) A))), (69, .p (.int .i64 ((cntA 5 n : Nat) : Int))), (70, .p (.int .i64 i))], [.box 26 [.p (.int .i64 ((5 : Nat) : Int)), .p (.int .i64 (n : Int)), .p (.int .i64 (r : Int)), .p (ratsM (m 0) (lst (cntA 5 n) A)), .p (ratsM (m 1) (lst (cntB 5 n) B)), .p (ratsM (m 2) (lst (cntH 5 n r) G)), .p (ratsM (m 3) (lst (cntH 5 n r) H))], .box 121 [.p (ratsM (m 0) (lst (cntA 5 n) A)), .p (ratsM (m 1) (lst (cntB 5 n) B)), .p (ratsM (m 2) (lst (cntH 5 n r) G)), .p (ratsM (m 3) (lst (cntH 5 n r) H))]]))
        (fun i => i ≤ cntA 5 n) (fun i => cntA 5 n - i) 0 [0, 1] (Nat.zero_le _) ⟨rfl, by simp, rfl, rfl, rfl, ⟨rfl, rfl, rfl, rfl, trivial⟩, ⟨rfl, rfl, trivial⟩⟩ ?_
      intro i hi
      have hi : i ≤ cntA 5 n := hi
      have cA := cb 0
      by_cases hia : i < cntA 5 n
      · refine SCmp.yes (decide_eq_true (by omega)) ?_
        refine SIdx.rf i rfl hia ?_
        have hz := (h.bA i hia).mono (show b ≤ c by omega)
        have hc2 := none2_ok (m 1) true (A i) (lst (cntB 5 n) B) (fun j hj => by
          rw [lst_length] at hj; rw [lst_getD hj]
          have := check2_ok true (A i) (B j) hz (h.bB j hj) (by omega)
          rw [decide_eq_false (h.ne i j hia hj)] at this
          exact this) (by rw [lst_length]; exact Nat.le_trans (cb 1) (by decide))
        refine SCall.pure (pvs := [ratsM (m 1) (lst (cntB 5 n) B), .fn 104 [.pel true (ratP (A i))]]) hc2 ?_
        refine SCond.mk (fun h => by cases h) (fun _ => ?_)
        refine SWrap.i64z ((i + 1 : Nat) : Int) (by omega) (by omega) ?_
        exact ⟨i + 1, [0, 1], hia, by show cntA 5 n - (i + 1) < cntA 5 n - i; omega, ⟨rfl, by simp, rfl, rfl, rfl, ⟨rfl, rfl, rfl, rfl, trivial⟩, ⟨rfl, rfl, trivial⟩⟩⟩
      · refine SCmp.no (decide_eq_false (by omega)) ?_
        exact SRet.pure (.p _ (.int _ _))
theorem gcheck6_ok (m : Nat → Bool) (n r : Nat) (A B G H : Nat → Rat) {b c : Nat} (h : Wf ⟨6, n, r, A, B, G, H⟩ b c) : CallP Tryz.prog 72 [genP m ⟨6, n, r, A, B, G, H⟩] (.p (.int .i64 0)) [] := by
  have n6 : n ≤ 6 := h.n6
  have n1 : 1 ≤ n := h.n1
  have r2 : r ≤ 2 := h.r2
  have hnr : n * r ≤ 12 := Nat.mul_le_mul n6 r2
  have hc4 := h.c4
  have hbc := h.bc
  have cc := cnt_le (k := 6) (r := r) n1 (show n ≤ 8 by omega) (show r ≤ 3 by omega)
  have cb : ∀ i : Nat, (if i = 0 then cntA 6 n else if i = 1 then cntB 6 n else cntH 6 n r) ≤ 24 := fun i => by split <;> (try split) <;> omega
  show CallP Tryz.prog 72 [.agg [.int .i64 ((6 : Nat) : Int), .int .i64 (n : Int), .int .i64 (r : Int), ratsM (m 0) (lst (cntA 6 n) A), ratsM (m 1) (lst (cntB 6 n) B), ratsM (m 2) (lst (cntH 6 n r) G), ratsM (m 3) (lst (cntH 6 n r) H)]] (.p (.int .i64 0)) []
  refine callG_of_vc (wr := wr0) Γok mixed Tryz.func72 (by kernel_rfl) rfl (by kernel_rfl) (le_of_ble rfl) (by simp) ?_
  refine SCmp.no (decide_eq_false (by omega)) ?_
  refine SCmp.no (decide_eq_false (by omega)) ?_
  refine SCall.pure (sized_ok m ⟨6, n, r, A, B, G, H⟩ h) ?_
  refine SCmp.no (rfl) ?_
  refine SCall.lent [genP m ⟨6, n, r, A, B, G, H⟩] _ rfl (genrows_ok m ⟨6, n, r, A, B, G, H⟩) ?_
  refine SCall.pure (counts_ok) ?_
  refine SLoop.mk Nat (fun i => ([(1, .bptr 0 0), (3, .bptr 1 0), (4, .p (.mp false cntM)), (28, .p (.agg [ratsM (m 0) (lst (cntA 6 n) A), ratsM (m 1) (lst (cntB 6 n) B), ratsM (m 2) (lst (cntH 6 n r) G), ratsM (m 3) (lst (cntH 6 n r) H)])), (29, .p (.int .i64 i))], [.box 26 [.p (.int .i64 ((6 : Nat) : Int)), .p (.int .i64 (n : Int)), .p (.int .i64 (r : Int)), .p (ratsM (m 0) (lst (cntA 6 n) A)), .p (ratsM (m 1) (lst (cntB 6 n) B)), .p (ratsM (m 2) (lst (cntH 6 n r) G)), .p (ratsM (m 3) (lst (cntH 6 n r) H))], .box 121 [.p (ratsM (m 0) (lst (cntA 6 n) A)), .p (ratsM (m 1) (lst (cntB 6 n) B)), .p (ratsM (m 2) (lst (cntH 6 n r) G)), .p (ratsM (m 3) (lst (cntH 6 n r) H))]]))
    (fun i => i ≤ 4) (fun i => 4 - i) 0 [0, 1] (Nat.zero_le _) ⟨rfl, by simp, rfl, rfl, rfl, ⟨rfl, rfl, rfl, rfl, rfl, trivial⟩, ⟨rfl, rfl, trivial⟩⟩ ?_
  intro i hi
  have hi : i ≤ 4 := hi
  rcases (show i = 0 ∨ i = 1 ∨ i = 2 ∨ i = 3 ∨ i = 4 by omega) with rfl | rfl | rfl | rfl | rfl
  · refine SCmp.yes (rfl) ?_
    refine SIdx.mk 0 _ rfl rfl ?_
    refine SKeys.all rfl <| SGet.none rfl ?_
    refine SZ.mk ((cntA 6 n : Nat) : Int) (by simp [lst]) ?_
    refine SPos.mk 0 rfl (by decide) ?_
    refine SWrap.i64z ((0 * n : Nat) : Int) (by omega) (by omega) ?_
    refine SPos.mk 1 rfl (by decide) ?_
    refine SWrap.i64z ((0 * n : Nat) : Int) (by omega) (by omega) ?_
    refine SWrap.i64z ((0 : Nat) : Int) (by simp) (by omega) ?_
    refine SWrap.i64z ((0 * n + 0 : Nat) : Int) (by omega) (by omega) ?_
    refine SPos.mk 2 rfl (by decide) ?_
    refine SWrap.i64z ((cntA 6 n : Nat) : Int) (by simp [cntA, cntB, cntH] <;> omega) (by have := cnt_le (k := 6) (r := r) n1 (show n ≤ 8 by omega) (show r ≤ 3 by omega); omega) ?_
    refine SCmp.no (neF rfl) ?_
    refine SWrap.i64z ((0 + 1 : Nat) : Int) (by omega) (by omega) ?_
    exact ⟨0 + 1, [0, 1], by decide, by decide, ⟨rfl, by simp, rfl, rfl, rfl, ⟨rfl, rfl, rfl, rfl, rfl, trivial⟩, ⟨rfl, rfl, trivial⟩⟩⟩
  · refine SCmp.yes (rfl) ?_
    refine SIdx.mk 1 _ rfl rfl ?_
    refine SKeys.all rfl <| SGet.none rfl ?_
    refine SZ.mk ((cntB 6 n : Nat) : Int) (by simp [lst]) ?_
    refine SPos.mk 0 rfl (by decide) ?_
    refine SWrap.i64z ((0 * n : Nat) : Int) (by omega) (by omega) ?_
    refine SPos.mk 1 rfl (by decide) ?_
    refine SWrap.i64z ((0 * n : Nat) : Int) (by omega) (by omega) ?_
    refine SWrap.i64z ((0 : Nat) : Int) (by simp) (by omega) ?_
    refine SWrap.i64z ((0 * n + 0 : Nat) : Int) (by omega) (by omega) ?_
    refine SPos.mk 2 rfl (by decide) ?_
    refine SWrap.i64z ((cntB 6 n : Nat) : Int) (by simp [cntA, cntB, cntH] <;> omega) (by have := cnt_le (k := 6) (r := r) n1 (show n ≤ 8 by omega) (show r ≤ 3 by omega); omega) ?_
    refine SCmp.no (neF rfl) ?_
    refine SWrap.i64z ((1 + 1 : Nat) : Int) (by omega) (by omega) ?_
    exact ⟨1 + 1, [0, 1], by decide, by decide, ⟨rfl, by simp, rfl, rfl, rfl, ⟨rfl, rfl, rfl, rfl, rfl, trivial⟩, ⟨rfl, rfl, trivial⟩⟩⟩
  · refine SCmp.yes (rfl) ?_
    refine SIdx.mk 2 _ rfl rfl ?_
    refine SKeys.all rfl <| SGet.at 6 _ rfl rfl rfl ?_
    refine SZ.mk ((cntH 6 n r : Nat) : Int) (by simp [lst]) ?_
    refine SPos.mk 0 rfl (by decide) ?_
    refine SWrap.i64z ((0 * n : Nat) : Int) (by omega) (by omega) ?_
    refine SPos.mk 1 rfl (by decide) ?_
    refine SWrap.i64z ((1 * n : Nat) : Int) (by omega) (by omega) ?_
    refine SWrap.i64z ((n * r : Nat) : Int) (by rw [Int.natCast_mul]; simp) (by omega) ?_
    refine SWrap.i64z ((0 * n + n * r : Nat) : Int) (by omega) (by omega) ?_
    refine SPos.mk 2 rfl (by decide) ?_
    refine SWrap.i64z ((cntH 6 n r : Nat) : Int) (by simp [cntA, cntB, cntH] <;> omega) (by have := cnt_le (k := 6) (r := r) n1 (show n ≤ 8 by omega) (show r ≤ 3 by omega); omega) ?_
    refine SCmp.no (neF rfl) ?_
    refine SWrap.i64z ((2 + 1 : Nat) : Int) (by omega) (by omega) ?_
    exact ⟨2 + 1, [0, 1], by decide, by decide, ⟨rfl, by simp, rfl, rfl, rfl, ⟨rfl, rfl, rfl, rfl, rfl, trivial⟩, ⟨rfl, rfl, trivial⟩⟩⟩
  · refine SCmp.yes (rfl) ?_
    refine SIdx.mk 3 _ rfl rfl ?_
    refine SKeys.all rfl <| SGet.at 7 _ rfl rfl rfl ?_
    refine SZ.mk ((cntH 6 n r : Nat) : Int) (by simp [lst]) ?_
    refine SPos.mk 0 rfl (by decide) ?_
    refine SWrap.i64z ((0 * n : Nat) : Int) (by omega) (by omega) ?_
    refine SPos.mk 1 rfl (by decide) ?_
    refine SWrap.i64z ((1 * n : Nat) : Int) (by omega) (by omega) ?_
    refine SWrap.i64z ((n * r : Nat) : Int) (by rw [Int.natCast_mul]; simp) (by omega) ?_
    refine SWrap.i64z ((0 * n + n * r : Nat) : Int) (by omega) (by omega) ?_
    refine SPos.mk 2 rfl (by decide) ?_
    refine SWrap.i64z ((cntH 6 n r : Nat) : Int) (by simp [cntA, cntB, cntH] <;> omega) (by have := cnt_le (k := 6) (r := r) n1 (show n ≤ 8 by omega) (show r ≤ 3 by omega); omega) ?_
    refine SCmp.no (neF rfl) ?_
    refine SWrap.i64z ((3 + 1 : Nat) : Int) (by omega) (by omega) ?_
    exact ⟨3 + 1, [0, 1], by decide, by decide, ⟨rfl, by simp, rfl, rfl, rfl, ⟨rfl, rfl, rfl, rfl, rfl, trivial⟩, ⟨rfl, rfl, trivial⟩⟩⟩
  · refine SCmp.no (rfl) ?_
    refine SLoop.mk Nat (fun i => ([(1, .bptr 0 0), (60, .p (.agg [ratsM (m 0) (lst (cntA 6 n) A), ratsM (m 1) (lst (cntB 6 n) B), ratsM (m 2) (lst (cntH 6 n r) G), ratsM (m 3) (lst (cntH 6 n r) H)])), (61, .p (.int .i64 i))], [.box 26 [.p (.int .i64 ((6 : Nat) : Int)), .p (.int .i64 (n : Int)), .p (.int .i64 (r : Int)), .p (ratsM (m 0) (lst (cntA 6 n) A)), .p (ratsM (m 1) (lst (cntB 6 n) B)), .p (ratsM (m 2) (lst (cntH 6 n r) G)), .p (ratsM (m 3) (lst (cntH 6 n r) H))], .box 121 [.p (ratsM (m 0) (lst (cntA 6 n) A)), .p (ratsM (m 1) (lst (cntB 6 n) B)), .p (ratsM (m 2) (lst (cntH 6 n r) G)), .p (ratsM (m 3) (lst (cntH 6 n r) H))]]))
      (fun i => i ≤ 4) (fun i => 4 - i) 0 [0, 1] (Nat.zero_le _) ⟨rfl, by simp, rfl, rfl, rfl, ⟨rfl, rfl, rfl, trivial⟩, ⟨rfl, rfl, trivial⟩⟩ ?_
    intro i hi
    have hi : i ≤ 4 := hi
    rcases (show i = 0 ∨ i = 1 ∨ i = 2 ∨ i = 3 ∨ i = 4 by omega) with rfl | rfl | rfl | rfl | rfl
    · refine SCmp.yes (rfl) ?_
      refine SIdx.mk 0 _ rfl rfl ?_
      refine SCall.pure (none1_ok (m 0) (lst (cntA 6 n) A) (fun i hi => by rw [lst_length] at hi; rw [lst_getD hi]; exact check1_ok _ ((h.bA i hi).mono (by omega))) (by rw [lst_length]; exact Nat.le_trans (cb 0) (by decide))) ?_
      refine SCond.mk (fun h => by cases h) (fun _ => ?_)
      refine SWrap.i64z ((0 + 1 : Nat) : Int) (by omega) (by omega) ?_
      exact ⟨0 + 1, [0, 1], by decide, by decide, ⟨rfl, by simp, rfl, rfl, rfl, ⟨rfl, rfl, rfl, trivial⟩, ⟨rfl, rfl, trivial⟩⟩⟩
    · refine SCmp.yes (rfl) ?_
      refine SIdx.mk 1 _ rfl rfl ?_
      refine SCall.pure (none1_ok (m 1) (lst (cntB 6 n) B) (fun i hi => by rw [lst_length] at hi; rw [lst_getD hi]; exact check1_ok _ ((h.bB i hi).mono (by omega))) (by rw [lst_length]; exact Nat.le_trans (cb 1) (by decide))) ?_
      refine SCond.mk (fun h => by cases h) (fun _ => ?_)
      refine SWrap.i64z ((1 + 1 : Nat) : Int) (by omega) (by omega) ?_
      exact ⟨1 + 1, [0, 1], by decide, by decide, ⟨rfl, by simp, rfl, rfl, rfl, ⟨rfl, rfl, rfl, trivial⟩, ⟨rfl, rfl, trivial⟩⟩⟩
    · refine SCmp.yes (rfl) ?_
      refine SIdx.mk 2 _ rfl rfl ?_
      refine SCall.pure (none1_ok (m 2) (lst (cntH 6 n r) G) (fun i hi => by rw [lst_length] at hi; rw [lst_getD hi]; exact check1_ok _ ((h.bG i hi).mono (by omega))) (by rw [lst_length]; exact Nat.le_trans (cb 2) (by decide))) ?_
      refine SCond.mk (fun h => by cases h) (fun _ => ?_)
      refine SWrap.i64z ((2 + 1 : Nat) : Int) (by omega) (by omega) ?_
      exact ⟨2 + 1, [0, 1], by decide, by decide, ⟨rfl, by simp, rfl, rfl, rfl, ⟨rfl, rfl, rfl, trivial⟩, ⟨rfl, rfl, trivial⟩⟩⟩
    · refine SCmp.yes (rfl) ?_
      refine SIdx.mk 3 _ rfl rfl ?_
      refine SCall.pure (none1_ok (m 3) (lst (cntH 6 n r) H) (fun i hi => by rw [lst_length] at hi; rw [lst_getD hi]; exact check1_ok _ ((h.bH i hi).mono (by omega))) (by rw [lst_length]; exact Nat.le_trans (cb 3) (by decide))) ?_
      refine SCond.mk (fun h => by cases h) (fun _ => ?_)
      refine SWrap.i64z ((3 + 1 : Nat) : Int) (by omega) (by omega) ?_
      exact ⟨3 + 1, [0, 1], by decide, by decide, ⟨rfl, by simp, rfl, rfl, rfl, ⟨rfl, rfl, rfl, trivial⟩, ⟨rfl, rfl, trivial⟩⟩⟩
    · refine SCmp.no (rfl) ?_
      refine SZ.mk ((cntA 6 n : Nat) : Int) (by simp [lst]) ?_
      refine SLoop.mk Nat (fun i => ([(1, .bptr 0 0), (68, .p (ratsM (m 0) (lst (cntA 6 n) A))), (69, .p (.int .i64 ((cntA 6 n : Nat) : Int))), (70, .p (.int .i64 i))], [.box 26 [.p (.int .i64 ((6 : Nat) : Int)), .p (.int .i64 (n : Int)), .p (.int .i64 (r : Int)), .p (ratsM (m 0) (lst (cntA 6 n) A)), .p (ratsM (m 1) (lst (cntB 6 n) B)), .p (ratsM (m 2) (lst (cntH 6 n r) G)), .p (ratsM (m 3) (lst (cntH 6 n r) H))], .box 121 [.p (ratsM (m 0) (lst (cntA 6 n) A)), .p (ratsM (m 1) (lst (cntB 6 n) B)), .p (ratsM (m 2) (lst (cntH 6 n r) G)), .p (ratsM (m 3) (lst (cntH 6 n r) H))]]))
        (fun i => i ≤ cntA 6 n) (fun i => cntA 6 n - i) 0 [0, 1] (Nat.zero_le _) ⟨rfl, by simp, rfl, rfl, rfl, ⟨rfl, rfl, rfl, rfl, trivial⟩, ⟨rfl, rfl, trivial⟩⟩ ?_
      intro i hi
      have hi : i ≤ cntA 6 n := hi
      have cA := cb 0
      by_cases hia : i < cntA 6 n
      · refine SCmp.yes (decide_eq_true (by omega)) ?_
        refine SIdx.rf i rfl hia ?_
        have hz := (h.bA i hia).mono (show b ≤ c by omega)
        have hc2 := none2_ok (m 1) true (A i) (lst (cntB 6 n) B) (fun j hj => by
          rw [lst_length] at hj; rw [lst_getD hj]
          have := check2_ok true (A i) (B j) hz (h.bB j hj) (by omega)
          rw [decide_eq_false (h.ne i j hia hj)] at this
          exact this) (by rw [lst_length]; exact Nat.le_trans (cb 1) (by decide))
        refine SCall.pure (pvs := [ratsM (m 1) (lst (cntB 6 n) B), .fn 104 [.pel true (ratP (A i))]]) hc2 ?_
        refine SCond.mk (fun h => by cases h) (fun _ => ?_)
        refine SWrap.i64z ((i + 1 : Nat) : Int) (by omega) (by omega) ?_
        exact ⟨i + 1, [0, 1], hia, by show cntA 6 n - (i + 1) < cntA 6 n - i; omega, ⟨rfl, by simp, rfl, rfl, rfl, ⟨rfl, rfl, rfl, rfl, trivial⟩, ⟨rfl, rfl, trivial⟩⟩⟩
      · refine SCmp.no (decide_eq_false (by omega)) ?_
        exact SRet.pure (.p _ (.int _ _))
theorem gcheck7_ok (m : Nat → Bool) (n r : Nat) (A B G H : Nat → Rat) {b c : Nat} (h : Wf ⟨7, n, r, A, B, G, H⟩ b c) : CallP Tryz.prog 72 [genP m ⟨7, n, r, A, B, G, H⟩] (.p (.int .i64 0)) [] := by
  have n6 : n ≤ 6 := h.n6
  have n1 : 1 ≤ n := h.n1
  have r2 : r ≤ 2 := h.r2
  have hnr : n * r ≤ 12 := Nat.mul_le_mul n6 r2
  have hc4 := h.c4
  have hbc := h.bc
  have cc := cnt_le (k := 7) (r := r) n1 (show n ≤ 8 by omega) (show r ≤ 3 by omega)
  have cb : ∀ i : Nat, (if i = 0 then cntA 7 n else if i = 1 then cntB 7 n else cntH 7 n r) ≤ 24 := fun i => by split <;> (try split) <;> omega
  show CallP Tryz.prog 72 [.agg [.int .i64 ((7 : Nat) : Int), .int .i64 (n : Int), .int .i64 (r : Int), ratsM (m 0) (lst (cntA 7 n) A), ratsM (m 1) (lst (cntB 7 n) B), ratsM (m 2) (lst (cntH 7 n r) G), ratsM (m 3) (lst (cntH 7 n r) H)]] (.p (.int .i64 0)) []
  refine callG_of_vc (wr := wr0) Γok mixed Tryz.func72 (by kernel_rfl) rfl (by kernel_rfl) (le_of_ble rfl) (by simp) ?_
  refine SCmp.no (decide_eq_false (by omega)) ?_
  refine SCmp.no (decide_eq_false (by omega)) ?_
  refine SCall.pure (sized_ok m ⟨7, n, r, A, B, G, H⟩ h) ?_
  refine SCmp.no (rfl) ?_
  refine SCall.lent [genP m ⟨7, n, r, A, B, G, H⟩] _ rfl (genrows_ok m ⟨7, n, r, A, B, G, H⟩) ?_
  refine SCall.pure (counts_ok) ?_
  refine SLoop.mk Nat (fun i => ([(1, .bptr 0 0), (3, .bptr 1 0), (4, .p (.mp false cntM)), (28, .p (.agg [ratsM (m 0) (lst (cntA 7 n) A), ratsM (m 1) (lst (cntB 7 n) B), ratsM (m 2) (lst (cntH 7 n r) G), ratsM (m 3) (lst (cntH 7 n r) H)])), (29, .p (.int .i64 i))], [.box 26 [.p (.int .i64 ((7 : Nat) : Int)), .p (.int .i64 (n : Int)), .p (.int .i64 (r : Int)), .p (ratsM (m 0) (lst (cntA 7 n) A)), .p (ratsM (m 1) (lst (cntB 7 n) B)), .p (ratsM (m 2) (lst (cntH 7 n r) G)), .p (ratsM (m 3) (lst (cntH 7 n r) H))], .box 121 [.p (ratsM (m 0) (lst (cntA 7 n) A)), .p (ratsM (m 1) (lst (cntB 7 n) B)), .p (ratsM (m 2) (lst (cntH 7 n r) G)), .p (ratsM (m 3) (lst (cntH 7 n r) H))]]))
    (fun i => i ≤ 4) (fun i => 4 - i) 0 [0, 1] (Nat.zero_le _) ⟨rfl, by simp, rfl, rfl, rfl, ⟨rfl, rfl, rfl, rfl, rfl, trivial⟩, ⟨rfl, rfl, trivial⟩⟩ ?_
  intro i hi
  have hi : i ≤ 4 := hi
  rcases (show i = 0 ∨ i = 1 ∨ i = 2 ∨ i = 3 ∨ i = 4 by omega) with rfl | rfl | rfl | rfl | rfl
  · refine SCmp.yes (rfl) ?_
    refine SIdx.mk 0 _ rfl rfl ?_
    refine SKeys.all rfl <| SGet.at 8 _ rfl rfl rfl ?_
    refine SZ.mk ((cntA 7 n : Nat) : Int) (by simp [lst]) ?_
    refine SPos.mk 0 rfl (by decide) ?_
    refine SWrap.i64z ((1 * n : Nat) : Int) (by omega) (by omega) ?_
    refine SPos.mk 1 rfl (by decide) ?_
    refine SWrap.i64z ((0 * n : Nat) : Int) (by omega) (by omega) ?_
    refine SWrap.i64z ((0 : Nat) : Int) (by simp) (by omega) ?_
    refine SWrap.i64z ((1 * n + 0 : Nat) : Int) (by omega) (by omega) ?_
    refine SPos.mk 2 rfl (by decide) ?_
    refine SWrap.i64z ((cntA 7 n : Nat) : Int) (by simp [cntA, cntB, cntH] <;> omega) (by have := cnt_le (k := 7) (r := r) n1 (show n ≤ 8 by omega) (show r ≤ 3 by omega); omega) ?_
    refine SCmp.no (neF rfl) ?_
    refine SWrap.i64z ((0 + 1 : Nat) : Int) (by omega) (by omega) ?_
    exact ⟨0 + 1, [0, 1], by decide, by decide, ⟨rfl, by simp, rfl, rfl, rfl, ⟨rfl, rfl, rfl, rfl, rfl, trivial⟩, ⟨rfl, rfl, trivial⟩⟩⟩
  · refine SCmp.yes (rfl) ?_
    refine SIdx.mk 1 _ rfl rfl ?_
    refine SKeys.all rfl <| SGet.at 9 _ rfl rfl rfl ?_
    refine SZ.mk ((cntB 7 n : Nat) : Int) (by simp [lst]) ?_
    refine SPos.mk 0 rfl (by decide) ?_
    refine SWrap.i64z ((1 * n : Nat) : Int) (by omega) (by omega) ?_
    refine SPos.mk 1 rfl (by decide) ?_
    refine SWrap.i64z ((0 * n : Nat) : Int) (by omega) (by omega) ?_
    refine SWrap.i64z ((0 : Nat) : Int) (by simp) (by omega) ?_
    refine SWrap.i64z ((1 * n + 0 : Nat) : Int) (by omega) (by omega) ?_
    refine SPos.mk 2 rfl (by decide) ?_
    refine SWrap.i64z ((cntB 7 n : Nat) : Int) (by simp [cntA, cntB, cntH] <;> omega) (by have := cnt_le (k := 7) (r := r) n1 (show n ≤ 8 by omega) (show r ≤ 3 by omega); omega) ?_
    refine SCmp.no (neF rfl) ?_
    refine SWrap.i64z ((1 + 1 : Nat) : Int) (by omega) (by omega) ?_
    exact ⟨1 + 1, [0, 1], by decide, by decide, ⟨rfl, by simp, rfl, rfl, rfl, ⟨rfl, rfl, rfl, rfl, rfl, trivial⟩, ⟨rfl, rfl, trivial⟩⟩⟩
  · refine SCmp.yes (rfl) ?_
    refine SIdx.mk 2 _ rfl rfl ?_
    refine SKeys.all rfl <| SGet.at 10 _ rfl rfl rfl ?_
    refine SZ.mk ((cntH 7 n r : Nat) : Int) (by simp [lst]) ?_
    refine SPos.mk 0 rfl (by decide) ?_
    refine SWrap.i64z ((0 * n : Nat) : Int) (by omega) (by omega) ?_
    refine SPos.mk 1 rfl (by decide) ?_
    refine SWrap.i64z ((1 * n : Nat) : Int) (by omega) (by omega) ?_
    refine SWrap.i64z ((n * r : Nat) : Int) (by rw [Int.natCast_mul]; simp) (by omega) ?_
    refine SWrap.i64z ((0 * n + n * r : Nat) : Int) (by omega) (by omega) ?_
    refine SPos.mk 2 rfl (by decide) ?_
    refine SWrap.i64z ((cntH 7 n r : Nat) : Int) (by simp [cntA, cntB, cntH] <;> omega) (by have := cnt_le (k := 7) (r := r) n1 (show n ≤ 8 by omega) (show r ≤ 3 by omega); omega) ?_
    refine SCmp.no (neF rfl) ?_
    refine SWrap.i64z ((2 + 1 : Nat) : Int) (by omega) (by omega) ?_
    exact ⟨2 + 1, [0, 1], by decide, by decide, ⟨rfl, by simp, rfl, rfl, rfl, ⟨rfl, rfl, rfl, rfl, rfl, trivial⟩, ⟨rfl, rfl, trivial⟩⟩⟩
  · refine SCmp.yes (rfl) ?_
    refine SIdx.mk 3 _ rfl rfl ?_
    refine SKeys.all rfl <| SGet.at 11 _ rfl rfl rfl ?_
    refine SZ.mk ((cntH 7 n r : Nat) : Int) (by simp [lst]) ?_
    refine SPos.mk 0 rfl (by decide) ?_
    refine SWrap.i64z ((0 * n : Nat) : Int) (by omega) (by omega) ?_
    refine SPos.mk 1 rfl (by decide) ?_
    refine SWrap.i64z ((1 * n : Nat) : Int) (by omega) (by omega) ?_
    refine SWrap.i64z ((n * r : Nat) : Int) (by rw [Int.natCast_mul]; simp) (by omega) ?_
    refine SWrap.i64z ((0 * n + n * r : Nat) : Int) (by omega) (by omega) ?_
    refine SPos.mk 2 rfl (by decide) ?_
    refine SWrap.i64z ((cntH 7 n r : Nat) : Int) (by simp [cntA, cntB, cntH] <;> omega) (by have := cnt_le (k := 7) (r := r) n1 (show n ≤ 8 by omega) (show r ≤ 3 by omega); omega) ?_
    refine SCmp.no (neF rfl) ?_
    refine SWrap.i64z ((3 + 1 : Nat) : Int) (by omega) (by omega) ?_
    exact ⟨3 + 1, [0, 1], by decide, by decide, ⟨rfl, by simp, rfl, rfl, rfl, ⟨rfl, rfl, rfl, rfl, rfl, trivial⟩, ⟨rfl, rfl, trivial⟩⟩⟩
  · refine SCmp.no (rfl) ?_
    refine SLoop.mk Nat (fun i => ([(1, .bptr 0 0), (60, .p (.agg [ratsM (m 0) (lst (cntA 7 n) A), ratsM (m 1) (lst (cntB 7 n) B), ratsM (m 2) (lst (cntH 7 n r) G), ratsM (m 3) (lst (cntH 7 n r) H)])), (61, .p (.int .i64 i))], [.box 26 [.p (.int .i64 ((7 : Nat) : Int)), .p (.int .i64 (n : Int)), .p (.int .i64 (r : Int)), .p (ratsM (m 0) (lst (cntA 7 n) A)), .p (ratsM (m 1) (lst (cntB 7 n) B)), .p (ratsM (m 2) (lst (cntH 7 n r) G)), .p (ratsM (m 3) (lst (cntH 7 n r) H))], .box 121 [.p (ratsM (m 0) (lst (cntA 7 n) A)), .p (ratsM (m 1) (lst (cntB 7 n) B)), .p (ratsM (m 2) (lst (cntH 7 n r) G)), .p (ratsM (m 3) (lst (cntH 7 n r) H))]]))
      (fun i => i ≤ 4) (fun i => 4 - i) 0 [0, 1] (Nat.zero_le _) ⟨rfl, by simp, rfl, rfl, rfl, ⟨rfl, rfl, rfl, trivial⟩, ⟨rfl, rfl, trivial⟩⟩ ?_
    intro i hi
    have hi : i ≤ 4 := hi
    rcases (show i = 0 ∨ i = 1 ∨ i = 2 ∨ i = 3 ∨ i = 4 by omega) with rfl | rfl | rfl | rfl | rfl
    · refine SCmp.yes (rfl) ?_
      refine SIdx.mk 0 _ rfl rfl ?_
      refine SCall.pure (none1_ok (m 0) (lst (cntA 7 n) A) (fun i hi => by rw [lst_length] at hi; rw [lst_getD hi]; exact check1_ok _ ((h.bA i hi).mono (by omega))) (by rw [lst_length]; exact Nat.le_trans (cb 0) (by decide))) ?_
      refine SCond.mk (fun h => by cases h) (fun _ => ?_)
      refine SWrap.i64z ((0 + 1 : Nat) : Int) (by omega) (by omega) ?_
      exact ⟨0 + 1, [0, 1], by decide, by decide, ⟨rfl, by simp, rfl, rfl, rfl, ⟨rfl, rfl, rfl, trivial⟩, ⟨rfl, rfl, trivial⟩⟩⟩
    · refine SCmp.yes (rfl) ?_
      refine SIdx.mk 1 _ rfl rfl ?_
      refine SCall.pure (none1_ok (m 1) (lst (cntB 7 n) B) (fun i hi => by rw [lst_length] at hi; rw [lst_getD hi]; exact check1_ok _ ((h.bB i hi).mono (by omega))) (by rw [lst_length]; exact Nat.le_trans (cb 1) (by decide))) ?_
      refine SCond.mk (fun h => by cases h) (fun _ => ?_)
      refine SWrap.i64z ((1 + 1 : Nat) : Int) (by omega) (by omega) ?_
      exact ⟨1 + 1, [0, 1], by decide, by decide, ⟨rfl, by simp, rfl, rfl, rfl, ⟨rfl, rfl, rfl, trivial⟩, ⟨rfl, rfl, trivial⟩⟩⟩
    · refine SCmp.yes (rfl) ?_
      refine SIdx.mk 2 _ rfl rfl ?_
      refine SCall.pure (none1_ok (m 2) (lst (cntH 7 n r) G) (fun i hi => by rw [lst_length] at hi; rw [lst_getD hi]; exact check1_ok _ ((h.bG i hi).mono (by omega))) (by rw [lst_length]; exact Nat.le_trans (cb 2) (by decide))) ?_
      refine SCond.mk (fun h => by cases h) (fun _ => ?_)
      refine SWrap.i64z ((2 + 1 : Nat) : Int) (by omega) (by omega) ?_
      exact ⟨2 + 1, [0, 1], by decide, by decide, ⟨rfl, by simp, rfl, rfl, rfl, ⟨rfl, rfl, rfl, trivial⟩, ⟨rfl, rfl, trivial⟩⟩⟩
    · refine SCmp.yes (rfl) ?_
      refine SIdx.mk 3 _ rfl rfl ?_
      refine SCall.pure (none1_ok (m 3) (lst (cntH 7 n r) H) (fun i hi => by rw [lst_length] at hi; rw [lst_getD hi]; exact check1_ok _ ((h.bH i hi).mono (by omega))) (by rw [lst_length]; exact Nat.le_trans (cb 3) (by decide))) ?_
      refine SCond.mk (fun h => by cases h) (fun _ => ?_)
      refine SWrap.i64z ((3 + 1 : Nat) : Int) (by omega) (by omega) ?_
      exact ⟨3 + 1, [0, 1], by decide, by decide, ⟨rfl, by simp, rfl, rfl, rfl, ⟨rfl, rfl, rfl, trivial⟩, ⟨rfl, rfl, trivial⟩⟩⟩
    · refine SCmp.no (rfl) ?_
      refine SZ.mk ((cntA 7 n : Nat) : Int) (by simp [lst]) ?_
      refine SLoop.mk Nat (fun i => ([(1, .bptr 0 0), (68, .p (ratsM (m 0) (lst (cntA 7 n) A))), (69, .p (.int .i64 ((cntA 7 n : Nat) : Int))), (70, .p (.int .i64 i))], [.box 26 [.p (.int .i64 ((7 : Nat) : Int)), .p (.int .i64 (n : Int)), .p (.int .i64 (r : Int)), .p (ratsM (m 0) (lst (cntA 7 n) A)), .p (ratsM (m 1) (lst (cntB 7 n) B)), .p (ratsM (m 2) (lst (cntH 7 n r) G)), .p (ratsM (m 3) (lst (cntH 7 n r) H))], .box 121 [.p (ratsM (m 0) (lst (cntA 7 n) A)), .p (ratsM (m 1) (lst (cntB 7 n) B)), .p (ratsM (m 2) (lst (cntH 7 n r) G)), .p (ratsM (m 3) (lst (cntH 7 n r) H))]]))
        (fun i => i ≤ cntA 7 n) (fun i => cntA 7 n - i) 0 [0, 1] (Nat.zero_le _) ⟨rfl, by simp, rfl, rfl, rfl, ⟨rfl, rfl, rfl, rfl, trivial⟩, ⟨rfl, rfl, trivial⟩⟩ ?_
      intro i hi
      have hi : i ≤ cntA 7 n := hi
      have cA := cb 0
      by_cases hia : i < cntA 7 n
      · refine SCmp.yes (decide_eq_true (by omega)) ?_
        refine SIdx.rf i rfl hia ?_
        have hz := (h.bA i hia).mono (show b ≤ c by omega)
        have hc2 := none2_ok (m 1) true (A i) (lst (cntB 7 n) B) (fun j hj => by
          rw [lst_length] at hj; rw [lst_getD hj]
          have := check2_ok true (A i) (B j) hz (h.bB j hj) (by omega)
          rw [decide_eq_false (h.ne i j hia hj)] at this
          exact this) (by rw [lst_length]; exact Nat.le_trans (cb 1) (by decide))
        refine SCall.pure (pvs := [ratsM (m 1) (lst (cntB 7 n) B), .fn 104 [.pel true (ratP (A i))]]) hc2 ?_
        refine SCond.mk (fun h => by cases h) (fun _ => ?_)
        refine SWrap.i64z ((i + 1 : Nat) : Int) (by omega) (by omega) ?_
        exact ⟨i + 1, [0, 1], hia, by show cntA 7 n - (i + 1) < cntA 7 n - i; omega, ⟨rfl, by simp, rfl, rfl, rfl, ⟨rfl, rfl, rfl, rfl, trivial⟩, ⟨rfl, rfl, trivial⟩⟩⟩
      · refine SCmp.no (decide_eq_false (by omega)) ?_
        exact SRet.pure (.p _ (.int _ _))
theorem gcheck_ok (m : Nat → Bool) (g : GV) {b c : Nat} (h : Wf g b c) : CallP Tryz.prog 72 [genP m g] (.p (.int .i64 0)) [] := by
  obtain ⟨k, n, r, A, B, G, H⟩ := g
  rcases k_cases h.k1 h.k7 with e | e | e | e | e | e | e <;> (have e : k = _ := e; subst e)
  · exact gcheck1_ok m n r A B G H h
  · exact gcheck2_ok m n r A B G H h
  · exact gcheck3_ok m n r A B G H h
  · exact gcheck4_ok m n r A B G H h
  · exact gcheck5_ok m n r A B G H h
  · exact gcheck6_ok m n r A B G H h
  · exact gcheck7_ok m n r A B G H h
end Go.Proofs.YtjfcphohgicolaaGreat

namespace Go.Proofs.YtjfcphohgicolaaGreat
open Go
set_option linter.unusedVariables false
set_option linter.unusedSimpArgs false
set_option maxRecDepth 10000
theorem ratP_one' : ratP 1 = .agg [.bool false, natP 1, natP 1] := rfl
theorem gzero_ok : CallP Tryz.prog 106 [] (.p (ratP 0)) [] := by
  refine callG_of_vc (wr := wr0) Γok mixed Tryz.func106 (by kernel_rfl) rfl (by kernel_rfl) (le_of_ble rfl) (by simp) ?_
  refine SRet.pure ?_
  rw [ratP_zero]
  exact conv3 ⟨rfl, rfl, rfl⟩ (.p _ (.bool _)) (.p _ (.sl _ _ (fun e he => by simp at he))) (frz1 rfl)
theorem gone_ok : CallP Tryz.prog 109 [] (.p (ratP 1)) [] := by
  refine callG_of_vc (wr := wr0) Γok mixed Tryz.func109 (by kernel_rfl) rfl (by kernel_rfl) (le_of_ble rfl) (by simp) ?_
  refine SRet.pure ?_
  rw [ratP_one']
  exact conv3 ⟨rfl, rfl, rfl⟩ (.p _ (.bool _)) (frz1 rfl) (frz1 rfl)
theorem gdot_ok (m : Nat → Bool) (g : GV) {b c : Nat} (h : Wf g b c) (hk : g.k = 6 ∨ g.k = 7) (i j : Nat) (hi : i < g.n) (hj : j < g.n) :
    CallP Tryz.prog 110 [genP m g, .int .i64 i, .int .i64 j] (.p (ratP (rowS g i j))) [] := by
  have h8 := h.n6
  have h2 := h.r2
  have h4 := h.c4
  have h5 := h.bc
  have hlh := h.lh hk
  have zP := h.prod hk hi hj
  have zS := sm_bz' zP
  have i0 : i * g.r ≤ 16 := Nat.mul_le_mul (show i ≤ 8 by omega) h2
  have j0 : j * g.r ≤ 16 := Nat.mul_le_mul (show j ≤ 8 by omega) h2
  have ic : ((i * g.r : Nat) : Int) = (i : Int) * (g.r : Int) := Int.natCast_mul i g.r
  have jc : ((j * g.r : Nat) : Int) = (j : Int) * (g.r : Int) := Int.natCast_mul j g.r
  refine callG_of_vc (wr := wr0) Γok mixed Tryz.func110 (by kernel_rfl) rfl (by kernel_rfl) (le_of_ble rfl) (by simp) ?_
  refine SCall.pure (gzero_ok) ?_
  refine SLoop.mk Nat (fun t => ([(1, .p (.int .i64 i)), (2, .p (.int .i64 j)), (3, .bptr 0 0), (6, .bptr 1 0), (7, .bptr 2 0), (11, .p (.int .i64 g.r)), (12, .p (.int .i64 t))], [.box 26 (genA m g), .box 31 zratA, .box 31 (bxQ (sm t fun t => g.G (i * g.r + t) * g.H (j * g.r + t)))]))
    (fun t => t ≤ g.r) (fun t => g.r - t) 0 [0, 1, 2] (Nat.zero_le _) ⟨rfl, by simp, rfl, rfl, rfl, ⟨rfl, rfl, rfl, rfl, rfl, rfl, rfl, trivial⟩, ⟨rfl, rfl, rfl, trivial⟩⟩ ?_
  intro t ht
  have ht : t ≤ g.r := ht
  by_cases htr : t < g.r
  · refine SCmp.yes (decide_eq_true (by omega)) ?_
    have l1 := row_lt hi htr
    have l2 := row_lt hj htr
    have lt : t * (2 * b + 1) ≤ 2 * (2 * b + 1) := Nat.mul_le_mul_right _ (by omega)
    refine SDraw.mkX (by kernel_rfl) ?_
    repeat refine SOp.mk _ _ (And.intro rfl rfl) rfl ?_
    refine SOp.mk _ _ (SWrap.i64z ((i * g.r : Nat) : Int) (by omega) (by omega) (And.intro rfl rfl)) rfl ?_
    repeat refine SOp.mk _ _ (And.intro rfl rfl) rfl ?_
    refine SOp.mk _ _ (SWrap.i64z ((i * g.r + t : Nat) : Int) (by omega) (by omega) (And.intro rfl rfl)) rfl ?_
    refine SOp.mk _ _ (SIdx.rf (i * g.r + t) rfl (by omega) (And.intro rfl rfl)) rfl ?_
    repeat refine SOp.mk _ _ (And.intro rfl rfl) rfl ?_
    refine SOp.mk _ _ (SWrap.i64z ((j * g.r : Nat) : Int) (by omega) (by omega) (And.intro rfl rfl)) rfl ?_
    repeat refine SOp.mk _ _ (And.intro rfl rfl) rfl ?_
    refine SOp.mk _ _ (SWrap.i64z ((j * g.r + t : Nat) : Int) (by omega) (by omega) (And.intro rfl rfl)) rfl ?_
    refine SOp.mk _ _ (SIdx.rf (j * g.r + t) rfl (by omega) (And.intro rfl rfl)) rfl ?_
    repeat refine SOp.mk _ _ (And.intro rfl rfl) rfl ?_
    refine SOp.mk _ _ (SCall.pure (ratmul_ok _ _ (h.bG _ (by omega)).sz (h.bH _ (by omega)).sz (by omega)) (And.intro rfl rfl)) rfl ?_
    refine SOp.mk _ _ (SCall.pure (ratadd_ok _ _ (zS t ht).sz (zP t htr).sz (by omega)) (And.intro rfl rfl)) rfl ?_
    repeat refine SOp.mk _ _ (And.intro rfl rfl) rfl ?_
    refine SFin.mk (by kernel_rfl) ?_
    refine SWrap.i64z ((t + 1 : Nat) : Int) (by omega) (by omega) ?_
    exact ⟨t + 1, [0, 1, 2], htr, by show g.r - (t + 1) < g.r - t; omega, ⟨rfl, by simp, rfl, rfl, rfl, ⟨rfl, rfl, rfl, rfl, rfl, rfl, rfl, trivial⟩, ⟨rfl, rfl, rfl, trivial⟩⟩⟩
  · refine SCmp.no (decide_eq_false (by omega)) ?_
    obtain rfl : t = g.r := by omega
    exact SRet.pure (.p _ (pers_rat _ _ _))
theorem gover_ok (m : Nat → Bool) (g : GV) {b c : Nat} (h : Wf g b c) (a : Rat) {d : Nat} (ha : Bz a d) (hd : d ≤ 1000) (hk : g.k = 5 ∨ g.k = 7) (i j : Nat) (hi : i < g.n) (hj : j < g.n) :
    CallP Tryz.prog 108 [genP m g, ratP a, .int .i64 i, .int .i64 j] (.p (ratP (a / (g.A i - g.B j)))) [] := by
  have h4 := h.c4
  have h5 := h.bc
  have hl := h.la3 (by omega)
  have hl2 := h.lb5 hk
  have hdf := h.dif (i := i) (j := j) (by omega) (by omega)
  refine callG_of_vc (wr := wr0) Γok mixed Tryz.func108 (by kernel_rfl) rfl (by kernel_rfl) (le_of_ble rfl) (by simp) ?_
  refine SDraw.mkX (by kernel_rfl) ?_
  repeat refine SOp.mk _ _ (And.intro rfl rfl) rfl ?_
  refine SOp.mk _ _ (SIdx.rf i rfl (by omega) (And.intro rfl rfl)) rfl ?_
  repeat refine SOp.mk _ _ (And.intro rfl rfl) rfl ?_
  refine SOp.mk _ _ (SIdx.rf j rfl (by omega) (And.intro rfl rfl)) rfl ?_
  repeat refine SOp.mk _ _ (And.intro rfl rfl) rfl ?_
  refine SOp.mk _ _ (SCall.pure (ratsub_ok _ _ (h.bA i (by omega)).sz (h.bB j (by omega)).sz (by omega)) (And.intro rfl rfl)) rfl ?_
  refine SOp.mk _ _ (SCall.pureT (quo_ok a _ hdf.2 ha.sz hdf.1.sz (by omega)) (fun _ => rfl) (And.intro rfl rfl)) rfl ?_
  repeat refine SOp.mk _ _ (And.intro rfl rfl) rfl ?_
  refine SFin.mk (by kernel_rfl) ?_
  exact SRet.pure (.p _ (pers_rat _ _ _))
theorem gpower_ok (a : Rat) {b : Nat} (ha : Bz a b) (hb : b ≤ 100) (j : Nat) (hj : j ≤ 8) : CallP Tryz.prog 107 [ratP a, .int .i64 j] (.p (ratP (a ^ j))) [] := by
  refine callG_of_vc (wr := wr0) Γok mixed Tryz.func107 (by kernel_rfl) rfl (by kernel_rfl) (le_of_ble rfl) (by simp) ?_
  refine SCall.pure (gone_ok) ?_
  refine SLoop.mk (Nat × Rat) (fun (t, q) => ([(2, .bptr 0 0), (4, .bptr 1 0), (5, .bptr 2 0), (7, .p (.int .i64 j)), (8, .p (.int .i64 t))], [.box 31 (bxQ a), .box 31 zratA, .box 31 (bxQ q)]))
    (fun (t, q) => t ≤ j ∧ q = a ^ t) (fun x => j - x.1) (0, 1) [0, 1, 2] ⟨Nat.zero_le _, (Rat.pow_zero _).symm⟩ ⟨rfl, by simp, rfl, rfl, rfl, ⟨rfl, rfl, rfl, rfl, rfl, trivial⟩, ⟨rfl, rfl, rfl, trivial⟩⟩ ?_
  intro ⟨t, q⟩ ⟨ht, hq⟩
  by_cases htj : t < j
  · refine SCmp.yes (decide_eq_true (by omega)) ?_
    have zq : Bz q (b * t + 1) := by rw [hq]; exact bz_pow ha t
    have hbt : b * t ≤ b * 8 := Nat.mul_le_mul_left _ (by omega)
    refine SCall.pure (ratmul_ok _ _ zq.sz ha.sz (by omega)) ?_
    refine SWrap.i64z ((t + 1 : Nat) : Int) (by omega) (by omega) ?_
    exact ⟨(t + 1, q * a), [0, 1, 2], ⟨htj, by rw [hq, Rat.pow_succ]⟩, by show j - (t + 1) < j - t; omega, ⟨rfl, by simp, rfl, rfl, rfl, ⟨rfl, rfl, rfl, rfl, rfl, trivial⟩, ⟨rfl, rfl, rfl, trivial⟩⟩⟩
  · refine SCmp.no (decide_eq_false (by omega)) ?_
    obtain rfl : t = j := by omega
    rw [← hq]
    exact SRet.pure (.p _ (pers_rat _ _ _))
end Go.Proofs.YtjfcphohgicolaaGreat

namespace Go.Proofs.YtjfcphohgicolaaGreat
open Go
set_option linter.unusedVariables false
set_option linter.unusedSimpArgs false
set_option maxRecDepth 10000
theorem gcopy_ok {q : Rat} {k : Nat} (h : Bz q k) (hk : k ≤ 1000000) : CallP Tryz.prog 78 [ratP q, ratP 0] (.p (ratP q)) [] := by
  have := ratadd_ok q 0 h.sz bz_zero.sz (by omega)
  rw [Rat.add_zero] at this; exact this
theorem gentry_ok (m : Nat → Bool) (g : GV) {b c : Nat} (h : Wf g b c) (i j : Nat) (hi : i < g.n) (hj : j < g.n) :
    CallP Tryz.prog 73 [genP m g, .int .i64 i, .int .i64 j] (.p (ratP (ent g i j))) [] := by
  have h8 := h.n6
  have h2 := h.r2
  have h4 := h.c4
  have h5 := h.bc
  rcases k_cases h.k1 h.k7 with e | e | e | e | e | e | e
  · have hl := h.la12 (.inl e)
    have hE : ent g i j = g.A (i + g.n - 1 - j) := by unfold ent; rw [if_pos e]
    rw [hE]
    refine callG_of_vc (wr := wr0) Γok mixed Tryz.func73 (by kernel_rfl) rfl (by kernel_rfl) (le_of_ble rfl) (by simp) ?_
    refine SCmp.yes (decide_eq_true (by omega)) ?_
    refine SDraw.mkX (by kernel_rfl) ?_
    repeat refine SOp.mk _ _ (And.intro rfl rfl) rfl ?_
    refine SOp.mk _ _ (SWrap.i64z ((i : Int) - j) rfl (by omega) (And.intro rfl rfl)) rfl ?_
    repeat refine SOp.mk _ _ (And.intro rfl rfl) rfl ?_
    refine SOp.mk _ _ (SWrap.i64z ((i + g.n - j : Nat) : Int) (by omega) (by omega) (And.intro rfl rfl)) rfl ?_
    refine SOp.mk _ _ (SWrap.i64z ((i + g.n - 1 - j : Nat) : Int) (by omega) (by omega) (And.intro rfl rfl)) rfl ?_
    refine SOp.mk _ _ (SIdx.rf (i + g.n - 1 - j) rfl (by omega) (And.intro rfl rfl)) rfl ?_
    repeat refine SOp.mk _ _ (And.intro rfl rfl) rfl ?_
    refine SOp.mk _ _ (SCall.pure (gzero_ok) (And.intro rfl rfl)) rfl ?_
    refine SOp.mk _ _ (SCall.pure (gcopy_ok (h.bA (i + g.n - 1 - j) (by omega)) (by omega)) (And.intro rfl rfl)) rfl ?_
    repeat refine SOp.mk _ _ (And.intro rfl rfl) rfl ?_
    refine SFin.mk (by kernel_rfl) ?_
    exact SRet.pure (.p _ (pers_rat _ _ _))
  · have hl := h.la12 (.inr e)
    have hE : ent g i j = g.A (i + j) := by unfold ent; rw [if_neg (by omega), if_pos e]
    rw [hE]
    refine callG_of_vc (wr := wr0) Γok mixed Tryz.func73 (by kernel_rfl) rfl (by kernel_rfl) (le_of_ble rfl) (by simp) ?_
    refine SCmp.no (decide_eq_false (by omega)) ?_
    refine SCmp.yes (decide_eq_true (by omega)) ?_
    refine SDraw.mkX (by kernel_rfl) ?_
    repeat refine SOp.mk _ _ (And.intro rfl rfl) rfl ?_
    refine SOp.mk _ _ (SWrap.i64z ((i + j : Nat) : Int) (by omega) (by omega) (And.intro rfl rfl)) rfl ?_
    refine SOp.mk _ _ (SIdx.rf (i + j) rfl (by omega) (And.intro rfl rfl)) rfl ?_
    repeat refine SOp.mk _ _ (And.intro rfl rfl) rfl ?_
    refine SOp.mk _ _ (SCall.pure (gzero_ok) (And.intro rfl rfl)) rfl ?_
    refine SOp.mk _ _ (SCall.pure (gcopy_ok (h.bA (i + j) (by omega)) (by omega)) (And.intro rfl rfl)) rfl ?_
    repeat refine SOp.mk _ _ (And.intro rfl rfl) rfl ?_
    refine SFin.mk (by kernel_rfl) ?_
    exact SRet.pure (.p _ (pers_rat _ _ _))
  · have hl := h.la3 (by omega)
    have hE : ent g i j = g.A ((i + g.n - j) % g.n) := by unfold ent; rw [if_neg (by omega), if_neg (by omega), if_pos e]
    have hm : (i + g.n - j) % g.n < g.n := Nat.mod_lt _ (by omega)
    rw [hE]
    refine callG_of_vc (wr := wr0) Γok mixed Tryz.func73 (by kernel_rfl) rfl (by kernel_rfl) (le_of_ble rfl) (by simp) ?_
    refine SCmp.no (decide_eq_false (by omega)) ?_
    refine SCmp.no (decide_eq_false (by omega)) ?_
    refine SCmp.yes (decide_eq_true (by omega)) ?_
    refine SDraw.mkX (by kernel_rfl) ?_
    repeat refine SOp.mk _ _ (And.intro rfl rfl) rfl ?_
    refine SOp.mk _ _ (SWrap.i64z ((i : Int) - j) rfl (by omega) (And.intro rfl rfl)) rfl ?_
    repeat refine SOp.mk _ _ (And.intro rfl rfl) rfl ?_
    refine SOp.mk _ _ (SWrap.i64z ((i + g.n - j : Nat) : Int) (by omega) (by omega) (And.intro rfl rfl)) rfl ?_
    repeat refine SOp.mk _ _ (And.intro rfl rfl) rfl ?_
    refine SOp.mk _ _ (SRem (b := g.n) (by omega) rfl (And.intro rfl rfl)) rfl ?_
    refine SOp.mk _ _ (SIdx.rf ((i + g.n - j) % g.n) rfl (by omega) (And.intro rfl rfl)) rfl ?_
    repeat refine SOp.mk _ _ (And.intro rfl rfl) rfl ?_
    refine SOp.mk _ _ (SCall.pure (gzero_ok) (And.intro rfl rfl)) rfl ?_
    refine SOp.mk _ _ (SCall.pure (gcopy_ok (h.bA ((i + g.n - j) % g.n) (by omega)) (by omega)) (And.intro rfl rfl)) rfl ?_
    repeat refine SOp.mk _ _ (And.intro rfl rfl) rfl ?_
    refine SFin.mk (by kernel_rfl) ?_
    exact SRet.pure (.p _ (pers_rat _ _ _))
  · have hl := h.la3 (by omega)
    have hE : ent g i j = g.A i ^ j := by unfold ent; rw [if_neg (by omega), if_neg (by omega), if_neg (by omega), if_pos e]
    rw [hE]
    refine callG_of_vc (wr := wr0) Γok mixed Tryz.func73 (by kernel_rfl) rfl (by kernel_rfl) (le_of_ble rfl) (by simp) ?_
    refine SCmp.no (decide_eq_false (by omega)) ?_
    refine SCmp.no (decide_eq_false (by omega)) ?_
    refine SCmp.no (decide_eq_false (by omega)) ?_
    refine SCmp.yes (decide_eq_true (by omega)) ?_
    refine SIdx.rf i rfl (by omega) ?_
    refine SCall.pure (gpower_ok _ (h.bA i (by omega)) (by omega) j (by omega)) ?_
    exact SRet.pure (.p _ (pers_rat _ _ _))
  · have hE : ent g i j = 1 / (g.A i - g.B j) := by unfold ent; rw [if_neg (by omega), if_neg (by omega), if_neg (by omega), if_neg (by omega), if_pos e]
    rw [hE]
    refine callG_of_vc (wr := wr0) Γok mixed Tryz.func73 (by kernel_rfl) rfl (by kernel_rfl) (le_of_ble rfl) (by simp) ?_
    refine SCmp.no (decide_eq_false (by omega)) ?_
    refine SCmp.no (decide_eq_false (by omega)) ?_
    refine SCmp.no (decide_eq_false (by omega)) ?_
    refine SCmp.no (decide_eq_false (by omega)) ?_
    refine SCmp.yes (decide_eq_true (by omega)) ?_
    refine SDraw.mkX (by kernel_rfl) ?_
    repeat refine SOp.mk _ _ (And.intro rfl rfl) rfl ?_
    refine SOp.mk _ _ (SCall.pure (gone_ok) (And.intro rfl rfl)) rfl ?_
    repeat refine SOp.mk _ _ (And.intro rfl rfl) rfl ?_
    refine SOp.mk _ _ (SCall.pure (gover_ok m g h 1 bz_one (by omega) (.inl e) i j hi hj) (And.intro rfl rfl)) rfl ?_
    repeat refine SOp.mk _ _ (And.intro rfl rfl) rfl ?_
    refine SFin.mk (by kernel_rfl) ?_
    exact SRet.pure (.p _ (pers_rat _ _ _))
  · have hE : ent g i j = sm (min i j + 1) fun m => rowS g (i - m) (j - m) := by unfold ent; rw [if_neg (by omega), if_neg (by omega), if_neg (by omega), if_neg (by omega), if_neg (by omega), if_pos e]
    rw [hE]
    have zS := h.bSum (.inl e) hi hj
    refine callG_of_vc (wr := wr0) Γok mixed Tryz.func73 (by kernel_rfl) rfl (by kernel_rfl) (le_of_ble rfl) (by simp) ?_
    refine SCmp.no (decide_eq_false (by omega)) ?_
    refine SCmp.no (decide_eq_false (by omega)) ?_
    refine SCmp.no (decide_eq_false (by omega)) ?_
    refine SCmp.no (decide_eq_false (by omega)) ?_
    refine SCmp.no (decide_eq_false (by omega)) ?_
    refine SCmp.no (decide_eq_false (by omega)) ?_
    refine SCall.pure (gzero_ok) ?_
    refine SLoop.mk Nat (fun t => ([(1, .p (.int .i64 i)), (2, .p (.int .i64 j)), (3, .bptr 0 0), (6, .bptr 1 0), (7, .bptr 2 0), (8, .p (.int .i64 t))], [.box 26 (genA m g), .box 31 zratA, .box 31 (bxQ (sm t fun m => rowS g (i - m) (j - m)))]))
      (fun t => t ≤ min i j + 1) (fun t => min i j + 1 - t) 0 [0, 1, 2] (Nat.zero_le _) ⟨rfl, by simp, rfl, rfl, rfl, ⟨rfl, rfl, rfl, rfl, rfl, rfl, trivial⟩, ⟨rfl, rfl, rfl, trivial⟩⟩ ?_
    intro t ht
    have ht : t ≤ min i j + 1 := ht
    refine SZ.mk ((min i j : Nat) : Int) (by show (if (j : Int) < (i : Int) then (j : Int) else (i : Int)) = _; split <;> omega) ?_
    by_cases htj : t < min i j + 1
    · refine SCmp.yes (decide_eq_true (by omega)) ?_
      have lt : t * (2 * (2 * b + 1) + 1 + 1) ≤ 6 * (2 * (2 * b + 1) + 1 + 1) := Nat.mul_le_mul_right _ (by omega)
      refine SDraw.mkX (by kernel_rfl) ?_
      repeat refine SOp.mk _ _ (And.intro rfl rfl) rfl ?_
      refine SOp.mk _ _ (SWrap.i64z ((i - t : Nat) : Int) (by omega) (by omega) (And.intro rfl rfl)) rfl ?_
      repeat refine SOp.mk _ _ (And.intro rfl rfl) rfl ?_
      refine SOp.mk _ _ (SWrap.i64z ((j - t : Nat) : Int) (by omega) (by omega) (And.intro rfl rfl)) rfl ?_
      refine SOp.mk _ _ (SCall.pure (gdot_ok m g h (.inl e) (i - t) (j - t) (by omega) (by omega)) (And.intro rfl rfl)) rfl ?_
      refine SOp.mk _ _ (SCall.pure (ratadd_ok _ _ (zS t ht).sz (h.bRow (.inl e) (i := i - t) (j := j - t) (by omega) (by omega)).sz (by omega)) (And.intro rfl rfl)) rfl ?_
      repeat refine SOp.mk _ _ (And.intro rfl rfl) rfl ?_
      refine SFin.mk (by kernel_rfl) ?_
      refine SWrap.i64z ((t + 1 : Nat) : Int) (by omega) (by omega) ?_
      exact ⟨t + 1, [0, 1, 2], htj, by show min i j + 1 - (t + 1) < min i j + 1 - t; omega, ⟨rfl, by simp, rfl, rfl, rfl, ⟨rfl, rfl, rfl, rfl, rfl, rfl, trivial⟩, ⟨rfl, rfl, rfl, trivial⟩⟩⟩
    · refine SCmp.no (decide_eq_false (by omega)) ?_
      obtain rfl : t = min i j + 1 := by omega
      exact SRet.pure (.p _ (pers_rat _ _ _))
  · have hE : ent g i j = rowS g i j / (g.A i - g.B j) := by unfold ent; rw [if_neg (by omega), if_neg (by omega), if_neg (by omega), if_neg (by omega), if_neg (by omega), if_neg (by omega)]
    rw [hE]
    refine callG_of_vc (wr := wr0) Γok mixed Tryz.func73 (by kernel_rfl) rfl (by kernel_rfl) (le_of_ble rfl) (by simp) ?_
    refine SCmp.no (decide_eq_false (by omega)) ?_
    refine SCmp.no (decide_eq_false (by omega)) ?_
    refine SCmp.no (decide_eq_false (by omega)) ?_
    refine SCmp.no (decide_eq_false (by omega)) ?_
    refine SCmp.no (decide_eq_false (by omega)) ?_
    refine SCmp.yes (decide_eq_true (by omega)) ?_
    refine SDraw.mkX (by kernel_rfl) ?_
    repeat refine SOp.mk _ _ (And.intro rfl rfl) rfl ?_
    refine SOp.mk _ _ (SCall.pure (gdot_ok m g h (.inr e) i j hi hj) (And.intro rfl rfl)) rfl ?_
    repeat refine SOp.mk _ _ (And.intro rfl rfl) rfl ?_
    refine SOp.mk _ _ (SCall.pure (gover_ok m g h (rowS g i j) (h.bRow (.inr e) hi hj) (by omega) (.inr e) i j hi hj) (And.intro rfl rfl)) rfl ?_
    repeat refine SOp.mk _ _ (And.intro rfl rfl) rfl ?_
    refine SFin.mk (by kernel_rfl) ?_
    exact SRet.pure (.p _ (pers_rat _ _ _))
end Go.Proofs.YtjfcphohgicolaaGreat

namespace Go.Proofs.YtjfcphohgicolaaGreat
open Go
set_option linter.unusedVariables false
set_option linter.unusedSimpArgs false
abbrev half (p c n k : Nat) : List AV := fl n fun i => if i < k then .vec (.r p i) 3 0 c else .emp
abbrev halq (p c n k q : Nat) : List AV := fl n fun i => if i < k then .vec (.r p i) 3 0 c else if i = k then .vec (.t q) 3 0 c else .emp
theorem half_full {p c n : Nat} : half p c n n = plc p c n id := fl_congr fun i hi => if_pos hi
theorem half_set {p c n k q : Nat} : (half p c n k).set k (.vec (.t q) 3 0 c) = halq p c n k q := by
  rw [fl_set]
  refine fl_congr fun i _ => ?_
  unfold upd
  by_cases e : i = k
  · rw [if_pos e, if_neg (by omega), if_pos e]
  · rw [if_neg e]
    show (if i < k then AV.vec (.r p i) 3 0 c else .emp) = _
    by_cases e2 : i < k
    · rw [if_pos e2, if_pos e2]
    · rw [if_neg e2, if_neg e2, if_neg e]
theorem halq_get {p c n k q : Nat} (h : k < n) : (halq p c n k q)[k]? = some (.vec (.t q) 3 0 c) := by
  rw [fl_get h, if_neg (Nat.lt_irrefl k), if_pos rfl]
theorem halq_ren {hs : List Nat} {P : Hp} {p c n k q : Nat} (p' q' : Nat) (hp : hs.getD p 0 = p') (hp' : p' < 1000) (hq : hs.getD q 0 = q') (hq' : q' < 1000) : AV.renL (renW hs P) (halq p c n k q) = halq p' c n k q' := by
  rw [renL_fl]
  refine fl_congr fun i hi => ?_
  have eb : Nat.blt p' 1000 = true := blt_iff.2 hp'
  have ec : Nat.blt q' 1000 = true := blt_iff.2 hq'
  by_cases e : i < k
  · rw [if_pos e, if_pos e]; simp only [AV.ren, renW, hp, eb, cond_true]
  · rw [if_neg e, if_neg e]
    by_cases e2 : i = k
    · rw [if_pos e2, if_pos e2]; simp only [AV.ren, renW, hq, ec, cond_true]; rw [show ptop q' = q' from Nat.mod_eq_of_lt hq']
    · rw [if_neg e2, if_neg e2]; simp only [AV.ren]
/-- The pool takes in the row that is filled. -/
theorem half_absorb {hs : List Nat} {P : Hp} {p p' q c n k : Nat} (hp : hs.getD p 0 = p' + 1000 * (q + 1)) (hp' : p' < 1000) (hl : plenAt P p = k + 1) : AV.renL (renW hs P) (half p c n (k + 1)) = halq p' c n k q := by
  rw [renL_fl]
  have eb : Nat.blt (hs.getD p 0) 1000 = false := by
    cases hb : Nat.blt (hs.getD p 0) 1000 with
    | false => rfl
    | true => have := blt_iff.1 hb; omega
  have e1 : hs.getD p 0 % 1000 = p' := by omega
  have e2 : hs.getD p 0 / 1000 - 1 = q := by omega
  refine fl_congr fun i hi => ?_
  by_cases h1 : i < k
  · have e4 : Nat.blt (i + 1) (k + 1) = true := blt_iff.2 (by omega)
    rw [if_pos (by omega), if_pos h1]
    simp only [AV.ren, renW, eb, hl, e4, cond_false, cond_true, e1]
  · by_cases h2 : i = k
    · have e4 : Nat.blt (i + 1) (k + 1) = false := by
        cases hb : Nat.blt (i + 1) (k + 1) with
        | false => rfl
        | true => have := blt_iff.1 hb; omega
      rw [if_pos (by omega), if_neg h1, if_pos h2]
      simp only [AV.ren, renW, eb, hl, e4, cond_false, e2]
    · rw [if_neg (by omega), if_neg h1, if_neg h2]; simp only [AV.ren]
theorem half_in {P : Hp} {p c n k : Nat} (h : ∀ i, i < k → i < plenAt P p) : ∀ x ∈ half p c n k, ∀ h, x.men h → look P h ≠ .free := by
  intro x hx g hg
  obtain ⟨i, hi, rfl⟩ := fl_mem hx
  by_cases e : i < k
  · rw [if_pos e] at hg
    simp only [AV.men] at hg
    subst hg
    exact look_row (h i e)
  · rw [if_neg e] at hg; exact hg.elim
theorem halq_in {P : Hp} {p c n k q : Nat} (h : ∀ i, i < k → i < plenAt P p) (hq : look P (.t q) ≠ .free) : ∀ x ∈ halq p c n k q, ∀ h, x.men h → look P h ≠ .free := by
  intro x hx g hg
  obtain ⟨i, hi, rfl⟩ := fl_mem hx
  by_cases e : i < k
  · rw [if_pos e] at hg
    simp only [AV.men] at hg
    subst hg
    exact look_row (h i e)
  · rw [if_neg e] at hg
    by_cases e2 : i = k
    · rw [if_pos e2] at hg
      simp only [AV.men] at hg
      subst hg; exact hq
    · rw [if_neg e2] at hg; exact hg.elim
theorem half_ren0 {ρ : Hd → Hd} {p c n : Nat} : AV.renL ρ (half p c n 0) = List.replicate n .emp := by
  rw [renL_fl, replicate_fl]
  refine fl_congr fun i _ => ?_
  rw [if_neg (Nat.not_lt_zero i)]; simp only [AV.ren]
end Go.Proofs.YtjfcphohgicolaaGreat

namespace Go.Proofs.YtjfcphohgicolaaGreat
open Go
set_option linter.unusedVariables false
set_option linter.unusedSimpArgs false
set_option maxRecDepth 10000
theorem row_step {n j : Nat} {f : Nat → Rat} (h : j < n) : (fl n fun k => if k < j then ratP (f k) else rat0).set (j + 0) (ratP (f j)) = fl n fun k => if k < j + 1 then ratP (f k) else rat0 := by
  rw [fl_set]
  refine fl_congr fun k hk => ?_
  simp only [upd, Nat.add_zero]
  by_cases e : k = j
  · rw [if_pos e, if_pos (by omega), e]
  · rw [if_neg e]
    by_cases e2 : k < j
    · rw [if_pos e2, if_pos (by omega)]
    · rw [if_neg e2, if_neg (by omega)]
theorem row_full {n : Nat} {f : Nat → Rat} : rats (lst n f) = fl n fun k => if k < n then ratP (f k) else rat0 := by
  rw [rats, lst_fl, fl_map]; exact fl_congr fun k hk => (if_pos hk).symm
theorem gexpand_ok (m : Nat → Bool) (g : GV) {b c : Nat} (h : Wf g b c) : CallP Tryz.prog 39 [genP m g] (.p (matP false false g.n g.n (ent g))) [] := by
  have h6 := h.n6
  have n1 := h.n1
  refine callG_of_vc (wr := wr0) Γok mixed Tryz.func39 (by kernel_rfl) rfl (by kernel_rfl) (le_of_ble rfl) (by simp) ?_
  refine SCall.pure (gcheck_ok m g h) ?_
  refine SCmp.no (rfl) ?_
  refine SZ.mk (g.n : Int) rfl ?_
  refine SLt.mk (by simp) ?_
  refine SMake.mk g.n rfl (by simp; omega) (by omega) ?_
  refine SMk.rows ?_
  refine SZ.mk (g.n : Int) rfl ?_
  refine SLoop.mkT Nat (fun i => ([(1, .bptr 0 0), (3, .vec 1 1 0 g.n), (13, .p (.int .i64 g.n)), (14, .p (.int .i64 i))], [.box 26 (genA m g), .rows 24 (half 2 g.n g.n i), .pool 31 3 (plr i g.n (ent g))]))
    (fun i => i ≤ g.n) (fun i => g.n - i) 0 [0, 1, 2] _ _ (.pool 31 3 (.done _ _)) (Nat.zero_le _) ⟨rfl, by simp, rfl, rfl, rfl, ⟨rfl, rfl, rfl, rfl, trivial⟩, ⟨rfl, congrArg _ half_ren0, rfl, half_in fun i hi => absurd hi (Nat.not_lt_zero _), trivial⟩⟩ ?_
  intro i hi
  have hi : i ≤ g.n := hi
  by_cases hin : i < g.n
  · refine SCmp.yes (decide_eq_true (by omega)) ?_
    refine SZ.mk (g.n : Int) rfl ?_
    refine SLt.mk (by simp) ?_
    refine SMake.rat g.n rfl (by omega) ?_
    refine SPos.mk i rfl hin ?_
    refine SLt.mk (by simp; omega) ?_
    refine SAs.mk (halq 2 g.n g.n i 3) half_set ?_
    refine SPos.mk i rfl hin ?_
    refine SIdxA.mk i _ rfl (halq_get hin) ?_
    refine SZ.mk (g.n : Int) rfl ?_
    refine SLoop.mk (Nat × (Nat → Rat)) (fun (j, F) => ([(1, .bptr 0 0), (3, .vec 1 1 0 g.n), (4, .p (.int .i64 i)), (13, .p (.int .i64 g.n)), (14, .p (.int .i64 i)), (27, .p (.int .i64 g.n)), (28, .p (.int .i64 j))], [.box 26 (genA m g), .rows 24 (halq 2 g.n g.n i 3), .pool 31 3 (plr i g.n (ent g)), .vec 31 3 (fl g.n fun k => if k < j then ratP (ent g i k) else rat0)]))
      (fun (j, F) => j ≤ g.n) (fun x => g.n - x.1) (0, ent g i) [0, 1, 2, 3] (Nat.zero_le _) ⟨rfl, by simp, rfl, rfl, rfl, ⟨rfl, rfl, rfl, rfl, rfl, rfl, rfl, trivial⟩, ⟨rfl, congrArg _ (halq_ren 2 3 rfl (by decide) rfl (by decide)), rfl, congrArg _ ((fl_congr fun k hk => if_neg (by omega)).trans (replicate_fl g.n rat0).symm), halq_in (fun i hi => by simpa [plenAt] using hi) (fun e => by cases e), trivial⟩⟩ ?_
    intro ⟨j, F⟩ hj
    have hj : j ≤ g.n := hj
    by_cases hjn : j < g.n
    · refine SCmp.yes (decide_eq_true (by omega)) ?_
      refine SDraw.mkX (by kernel_rfl) ?_
      repeat refine SOp.mk _ _ (And.intro rfl rfl) rfl ?_
      refine SOp.mk _ _ (SPos.mk i rfl hin (And.intro rfl rfl)) rfl ?_
      refine SOp.mk _ _ (SIdxA.mk i _ rfl (halq_get hin) (And.intro rfl rfl)) rfl ?_
      repeat refine SOp.mk _ _ (And.intro rfl rfl) rfl ?_
      refine SOp.mk _ _ (SCall.pure (gentry_ok m g h i j hin hjn) (And.intro rfl rfl)) rfl ?_
      refine SOp.mk _ _ (SPos.mk j rfl hjn (And.intro rfl rfl)) rfl ?_
      refine SOp.mk _ _ (SLt.mk (by simp; omega) <| SEs.mk _ (row_step hjn) (And.intro rfl rfl)) rfl ?_
      repeat refine SOp.mk _ _ (And.intro rfl rfl) rfl ?_
      refine SFin.mk (by kernel_rfl) ?_
      refine SWrap.i64z ((j + 1 : Nat) : Int) (by omega) (by omega) ?_
      exact ⟨(j + 1, F), [0, 1, 2, 3], hjn, by show g.n - (j + 1) < g.n - j; omega, ⟨rfl, by simp, rfl, rfl, rfl, ⟨rfl, rfl, rfl, rfl, rfl, rfl, rfl, trivial⟩, ⟨rfl, congrArg _ (halq_ren 2 3 rfl (by decide) rfl (by decide)), rfl, rfl, halq_in (fun i hi => by simpa [plenAt] using hi) (fun e => by cases e), trivial⟩⟩⟩
    · refine SCmp.no (decide_eq_false (by omega)) ?_
      obtain rfl : j = g.n := by omega
      refine SWrap.i64z ((i + 1 : Nat) : Int) (by omega) (by omega) ?_
      exact ⟨i + 1, [0, 1, 4002], hin, by show g.n - (i + 1) < g.n - i; omega, ⟨rfl, by simp, rfl, rfl, rfl, ⟨rfl, rfl, rfl, rfl, trivial⟩, ⟨rfl, congrArg _ (half_absorb rfl (by decide) (by simp [plenAt])), ⟨_, _, _, _, rfl, rfl, congrArg _ (plr_snoc.trans (congrArg (fun r => plr i g.n (ent g) ++ [some r]) row_full))⟩, half_in fun i hi => by simpa [plenAt] using hi, trivial⟩⟩⟩
  · refine SCmp.no (decide_eq_false (by omega)) ?_
    obtain rfl : i = g.n := by omega
    exact SRet.pure (frzM (H := [_, _, _]) (h := 1) (p := 2) (congrArg (Blk.rows _) half_full) rfl fun i hi => hi)
end Go.Proofs.YtjfcphohgicolaaGreat

namespace Go.Proofs.YtjfcphohgicolaaGreat
open Go
set_option linter.unusedVariables false
set_option linter.unusedSimpArgs false
set_option maxRecDepth 10000
theorem szero_ok : CallP Tryz.prog 93 [] (.p (ratP 0)) [] := by
  refine callG_of_vc (wr := wr0) Γok mixed Tryz.func93 (by kernel_rfl) rfl (by kernel_rfl) (le_of_ble rfl) (by simp) ?_
  refine SRet.pure ?_
  rw [ratP_zero]
  exact conv3 ⟨rfl, rfl, rfl⟩ (.p _ (.bool _)) (.p _ (.sl _ _ (fun e he => by simp at he))) (frz1 rfl)
theorem sone_ok : CallP Tryz.prog 95 [] (.p (ratP 1)) [] := by
  refine callG_of_vc (wr := wr0) Γok mixed Tryz.func95 (by kernel_rfl) rfl (by kernel_rfl) (le_of_ble rfl) (by simp) ?_
  refine SRet.pure ?_
  rw [ratP_one']
  exact conv3 ⟨rfl, rfl, rfl⟩ (.p _ (.bool _)) (frz1 rfl) (frz1 rfl)
theorem corner_ok (i k : Nat) : CallP Tryz.prog 94 [pairP i k] (.p (.bool (decide (i = k)))) [] := by
  refine callG_of_vc (wr := wr0) Γok mixed Tryz.func94 (by kernel_rfl) rfl (by kernel_rfl) (le_of_ble rfl) (by simp) ?_
  refine SPos.mk 0 rfl (by decide) ?_
  refine SPos.mk 0 rfl (by decide) ?_
  refine SCmp.sym ?_
  have : (((i : Int) == (i : Int)) && (((k : Int) == (i : Int)) && true)) = decide (i = k) := by
    by_cases e : i = k
    · subst e; simp
    · rw [decide_eq_false e, beq_eq_false_iff_ne.2 (show (k : Int) ≠ i by omega)]; simp
  rw [this]
  exact SRet.pure (.p _ (.bool _))
def tkV (A : Nat → Nat → Rat) (i j : Nat) : Rat := gs A j i j / gs A j j j
abbrev tkE (A : Nat → Nat → Rat) (k d : Nat) : PV × PV := (pairP (k + 1 + d) k, ratP (tkV A (k + 1 + d) k))
def tkL (A : Nat → Nat → Rat) (n : Nat) : Nat → List (PV × PV)
  | 0 => []
  | k + 1 => tkL A n k ++ fl (n - 1 - k) (tkE A k)
theorem tk_mem {A : Nat → Nat → Rat} {n : Nat} : ∀ k, k ≤ n → ∀ e ∈ tkL A n k, ∃ i j, e = (pairP i j, ratP (tkV A i j)) ∧ j < k ∧ j < i ∧ i < n := by
  intro k
  induction k with
  | zero => intro _ e he; simp [tkL] at he
  | succ k ih =>
    intro hk e he
    rcases List.mem_append.1 he with he | he
    · obtain ⟨i, j, h1, h2, h3, h4⟩ := ih (by omega) e he
      exact ⟨i, j, h1, by omega, h3, h4⟩
    · obtain ⟨d, hd, rfl⟩ := fl_mem he
      exact ⟨k + 1 + d, k, rfl, by omega, by omega, by omega⟩
theorem tk_get {A : Nat → Nat → Rat} {n i j : Nat} (hji : j < i) (hin : i < n) : ∀ k, k ≤ n → j < k → ∃ a : Nat, (tkL A n k)[a]? = some (pairP i j, ratP (tkV A i j)) ∧ ∀ (b : Nat) e', b ≠ a → (tkL A n k)[b]? = some e' → PV.keq (pairP i j) e'.1 = false := by
  intro k
  induction k with
  | zero => intro _ h; exact absurd h (Nat.not_lt_zero _)
  | succ k ih =>
    intro hk hj
    simp only [tkL]
    by_cases e : j = k
    · subst e
      refine ⟨(tkL A n j).length + (i - (j + 1)), ?_, fun b e' hb he => ?_⟩
      · rw [List.getElem?_append_right (by omega), show (tkL A n j).length + (i - (j + 1)) - (tkL A n j).length = i - (j + 1) by omega, fl_get (by omega)]
        simp only [tkE]
        rw [show j + 1 + (i - (j + 1)) = i by omega]
      · by_cases hl : b < (tkL A n j).length
        · rw [List.getElem?_append_left hl] at he
          obtain ⟨i', j', rfl, h2, _, _⟩ := tk_mem j (by omega) e' (List.mem_of_getElem? he)
          rw [keq_pair]; exact decide_eq_false fun h => by omega
        · rw [List.getElem?_append_right (by omega)] at he
          obtain ⟨hd, rfl⟩ := fl_get_iff.1 he
          rw [keq_pair]; exact decide_eq_false fun h => by omega
    · obtain ⟨a, h1, h2⟩ := ih (by omega) (by omega)
      have hl := (List.getElem?_eq_some_iff.1 h1).1
      refine ⟨a, by rw [List.getElem?_append_left hl]; exact h1, fun b e' hb he => ?_⟩
      by_cases hl : b < (tkL A n k).length
      · rw [List.getElem?_append_left hl] at he; exact h2 b e' hb he
      · rw [List.getElem?_append_right (by omega)] at he
        obtain ⟨hd, rfl⟩ := fl_get_iff.1 he
        rw [keq_pair]; exact decide_eq_false fun h => by omega
theorem SKeys.tk {b : PV → Bool} {A : Nat → Nat → Rat} {n k d : Nat} {K : Prop} (hk : k ≤ n) (hb : ∀ i k : Nat, b (pairP i k) = true) (hK : K) : SKeys b (tkL A n k ++ fl d (tkE A k)) K :=
  .mk (fun e he => by
    rcases List.mem_append.1 he with he | he
    · obtain ⟨i, j, rfl, _⟩ := tk_mem k hk e he; exact hb _ _
    · obtain ⟨d, hd, rfl⟩ := fl_mem he; exact hb _ _) hK
theorem SPut.tk {A : Nat → Nat → Rat} {n k d : Nat} {v : PV} {K : List (PV × PV) → Prop} (hk : k ≤ n) (hv : v = ratP (tkV A (k + 1 + d) k)) (hK : K (tkL A n k ++ fl (d + 1) (tkE A k))) : SPut (tkL A n k ++ fl d (tkE A k)) (pairP (k + 1 + d) k) v K := by
  subst hv
  refine .new _ (fun e he => ?_) (by rw [List.append_assoc, fl_snoc]) hK
  rcases List.mem_append.1 he with he | he
  · obtain ⟨i, j, rfl, h2, _, _⟩ := tk_mem k hk e he
    rw [keq_pair]; exact decide_eq_false fun h => by omega
  · obtain ⟨d', hd, rfl⟩ := fl_mem he
    rw [keq_pair]; exact decide_eq_false fun h => by omega
theorem pers_tk {A : Nat → Nat → Rat} {n k : Nat} (hk : k ≤ n) : ∀ e ∈ tkL A n k, Pers e.1 ∧ Pers e.2 := fun e he => by
  obtain ⟨i, j, rfl, _⟩ := tk_mem k hk e he
  exact ⟨pers_pair _ _, pers_rat _ _ _⟩
theorem tabF_congr {n : Nat} {f g : Nat → Nat → Rat} (h : ∀ i k, i < n → k < n → f i k = g i k) : tabF n f (n * n) = tabF n g (n * n) := fl_congr fun t ht => by
  have n0 : 0 < n := by rcases Nat.eq_zero_or_pos n with h | h; rw [h] at ht; simp at ht; exact h
  rw [h _ _ (Nat.div_lt_of_lt_mul ht) (Nat.mod_lt _ n0)]
abbrev wkA (n : Nat) (l t : Nat) : List AV := [.p (.int .i64 (n : Int)), .map (.t l), .map (.t t)]
abbrev wkB (n : Nat) (left took : List (PV × PV)) : List Blk := [.box 100 (wkA n 1 2), .map left, .map took]
theorem sof_ok (m m' : Bool) (n : Nat) (A : Nat → Nat → Rat) (hn : n ≤ 1000) : CallP Tryz.prog 63 [matP m m' n n A] (.bptr 0 0) (wkB n (tabF n A (n * n)) []) := by
  refine callG_of_vc (wr := wr0) Γok mixed Tryz.func63 (by kernel_rfl) rfl (by kernel_rfl) (le_of_ble rfl) (by simp) ?_
  refine SZ.mk (n : Int) (by simp) ?_
  refine SZ.mk (n : Int) (by simp) ?_
  refine SLoop.mk Nat (fun i => ([(3, .bptr 2 0), (14, .p (matP m m' n n A)), (15, .p (.int .i64 n)), (16, .p (.int .i64 i))], [.map (tabF n A (i * n)), .map [], .box 100 (wkA n 0 1)]))
    (fun i => i ≤ n) (fun i => n - i) 0 [0, 1, 2] (Nat.zero_le _) ⟨rfl, by simp, rfl, rfl, rfl, ⟨rfl, rfl, rfl, rfl, trivial⟩, ⟨by rw [Nat.zero_mul]; rfl, rfl, rfl, trivial⟩⟩ ?_
  intro i hi
  have hi : i ≤ n := hi
  by_cases hin : i < n
  · refine SCmp.yes (decide_eq_true (by omega)) ?_
    refine SIdx.mf i rfl hin ?_
    refine SZ.mk (n : Int) (by simp [lst]) ?_
    refine SLoop.mk Nat (fun k => ([(3, .bptr 2 0), (4, .p (.int .i64 i)), (14, .p (matP m m' n n A)), (15, .p (.int .i64 n)), (16, .p (.int .i64 i)), (21, .p (ratsM m' (lst n (A i)))), (22, .p (.int .i64 n)), (23, .p (.int .i64 k))], [.map (tabF n A (i * n + k)), .map [], .box 100 (wkA n 0 1)]))
      (fun k => k ≤ n) (fun k => n - k) 0 [0, 1, 2] (Nat.zero_le _) ⟨rfl, by simp, rfl, rfl, rfl, ⟨rfl, rfl, rfl, rfl, rfl, rfl, rfl, rfl, trivial⟩, ⟨rfl, rfl, rfl, trivial⟩⟩ ?_
    intro k hk
    have hk : k ≤ n := hk
    by_cases hkn : k < n
    · refine SCmp.yes (decide_eq_true (by omega)) ?_
      refine SIdx.rf k rfl hkn ?_
      refine SDraw.mkX (by kernel_rfl) ?_
      repeat refine SOp.mk _ _ (And.intro rfl rfl) rfl ?_
      refine SOp.mk _ _ (SKeys.tab (fun _ _ => rfl) <| SPut.tab hkn rfl (And.intro rfl rfl)) rfl ?_
      refine SFin.mk (by kernel_rfl) ?_
      refine SWrap.i64z ((k + 1 : Nat) : Int) (by omega) (by omega) ?_
      exact ⟨k + 1, [0, 1, 2], hkn, by show n - (k + 1) < n - k; omega, ⟨rfl, by simp, rfl, rfl, rfl, ⟨rfl, rfl, rfl, rfl, rfl, rfl, rfl, rfl, trivial⟩, ⟨rfl, rfl, rfl, trivial⟩⟩⟩
    · refine SCmp.no (decide_eq_false (by omega)) ?_
      obtain rfl : k = n := by omega
      refine SWrap.i64z ((i + 1 : Nat) : Int) (by omega) (by omega) ?_
      exact ⟨i + 1, [0, 1, 2], hin, by show k - (i + 1) < k - i; omega, ⟨rfl, by simp, rfl, rfl, rfl, ⟨rfl, rfl, rfl, rfl, trivial⟩, ⟨congrArg (fun q => Blk.map (tabF k A q)) (Nat.succ_mul i k), rfl, rfl, trivial⟩⟩⟩
  · refine SCmp.no (decide_eq_false (by omega)) ?_
    obtain rfl : i = n := by omega
    refine SRet.mk [2, 0, 1] rfl (by decide) rfl (Nat.zero_le _) (fun h hl => by rw [look_nil] at hl; exact hl.elim) (fun h hl => absurd (look_nil h) hl) (fun a h B e1 e2 => ?_) (.bptr rfl)
    match a, e1, e2 with
    | 0, e1, e2 =>
      cases e1; cases e2
      refine .box (cs := wkA i 0 1) (fun d hd => by simp only [wkA, List.mem_cons, List.not_mem_nil, or_false] at hd; rcases hd with rfl | rfl | rfl <;> rfl) rfl fun b c d e1 e2 => ?_
      match b, e1, e2 with
      | 0, e1, e2 => cases e1; cases e2; exact .p _ (.int _ _)
      | 1, e1, e2 => cases e1; cases e2; exact .map rfl
      | 2, e1, e2 => cases e1; cases e2; exact .map rfl
    | 1, e1, e2 => cases e1; cases e2; exact .map pers_tab
    | 2, e1, e2 => cases e1; cases e2; exact .map (fun e he => by simp at he)
end Go.Proofs.YtjfcphohgicolaaGreat

namespace Go.Proofs.YtjfcphohgicolaaGreat
open Go
set_option linter.unusedVariables false
set_option linter.unusedSimpArgs false
set_option maxRecDepth 10000
theorem quoZ_ok (p : Rat) {j : Nat} (hp : Sz p j) (h : j ≤ 137438953472) : CallP Tryz.prog 46 [ratP p, ratP 0] (.tup [.p rat0, .p (.int .i64 5)]) [] := by
  have h1 := hp.n
  have h2 := hp.d
  have z0 := (bz_zero.mono (show 1 ≤ 1 by decide)).sz
  have z1 := z0.n
  have z2 := z0.d
  have hl := make0_ok (decide (p.num < 0) != decide ((0 : Rat).num < 0)) false false (p.num.natAbs * (0 : Rat).den)
  refine callG_of_vc (wr := wr0) Γok mixed Tryz.func46 (by kernel_rfl) rfl (by kernel_rfl) (le_of_ble rfl) (by simp) ?_
  refine SDraw.mk (by kernel_rfl) ?_
  repeat refine SOp.mk _ _ (And.intro rfl rfl) rfl ?_
  refine SOp.mk _ _ (SCmp.sym (And.intro rfl rfl)) rfl ?_
  repeat refine SOp.mk _ _ (And.intro rfl rfl) rfl ?_
  refine SOp.mk _ _ (SCall.pure (mul_ok false false p.num.natAbs (0 : Rat).den (by omega) (by omega)) (And.intro rfl rfl)) rfl ?_
  repeat refine SOp.mk _ _ (And.intro rfl rfl) rfl ?_
  refine SOp.mk _ _ (SCall.pure (mul_ok false false p.den (0 : Rat).num.natAbs (by omega) (by omega)) (And.intro rfl rfl)) rfl ?_
  refine SOp.mk _ _ (SCall.pureT hl (fun _ => rfl) (And.intro rfl rfl)) rfl ?_
  repeat refine SOp.mk _ _ (And.intro rfl rfl) rfl ?_
  exact SRet.pure (.tup rfl fun i c d e1 e2 => by
    match i, e1, e2 with
    | 0, e1, e2 => cases e1; cases e2; exact .p _ (by have := pers_rat false 0 0; rw [natP_zero] at this; exact this)
    | 1, e1, e2 => cases e1; cases e2; exact .p _ (.int _ _))
theorem sb_bz {a x : Nat → Rat} {s : Rat} {lo bs ba bx : Nat} {d : Nat} (hs : Bz s bs) (ha : ∀ j, lo ≤ j → j < lo + d → Bz (a j) ba) (hx : ∀ j, lo ≤ j → j < lo + d → Bz (x j) bx) : Bz (sb a x s lo d) (bs + d * (ba + bx + 1)) := by
  induction d with
  | zero => exact hs.mono (by omega)
  | succ d ih =>
    have ih := ih (fun j h1 h2 => ha j h1 (by omega)) fun j h1 h2 => hx j h1 (by omega)
    exact (ih.sub ((ha (lo + d) (by omega) (by omega)).mul (hx (lo + d) (by omega) (by omega)))).mono (by rw [Nat.succ_mul]; omega)
/-- What is left of a number, behind so many products; of x, the ones that are read alone need be known. -/
theorem left_ok (m : Bool) (mx : Bool) (s : Rat) (n : Nat) (a x : Nat → Rat) (g : Nat → PV) (lo hi : Nat) {bs ba bx : Nat} (hn : n ≤ 1000) (hlh : lo ≤ hi) (hhn : hi ≤ n) (hg : ∀ j, lo ≤ j → j < hi → g j = ratP (x j))
    (hs : Bz s bs) (ha : ∀ j, lo ≤ j → j < hi → Bz (a j) ba) (hx : ∀ j, lo ≤ j → j < hi → Bz (x j) bx) (hb : bs + n * (ba + bx + 1) + ba + bx ≤ 100000000000) :
    CallP Tryz.prog 69 [ratP s, ratsM m (lst n a), .sl mx 3 (fl n g), .int .i64 lo, .int .i64 hi] (.p (ratP (sb a x s lo (hi - lo)))) [] := by
  have h0 : s + 0 = s := by grind
  refine callG_of_vc (wr := wr0) Γok mixed Tryz.func69 (by kernel_rfl) rfl (by kernel_rfl) (le_of_ble rfl) (by simp) ?_
  refine SDraw.mkX (by kernel_rfl) ?_
  repeat refine SOp.mk _ _ (And.intro rfl rfl) rfl ?_
  refine SOp.mk _ _ (SCall.pure (szero_ok) (And.intro rfl rfl)) rfl ?_
  refine SOp.mk _ _ (SCall.pure (ratadd_ok s 0 hs.sz (bz_zero.mono (show 1 ≤ 1 by decide)).sz (by omega)) (And.intro rfl rfl)) rfl ?_
  repeat refine SOp.mk _ _ (And.intro rfl rfl) rfl ?_
  refine SFin.mk (by kernel_rfl) ?_
  rw [h0]
  refine SLoop.mk Nat (fun d => ([(1, .p (ratsM m (lst n a))), (2, .p (.sl mx 3 (fl n g))), (4, .p (.int .i64 hi)), (5, .bptr 0 0), (10, .bptr 1 0), (11, .p (.int .i64 ((lo + d : Nat) : Int)))], [.box 31 (bxQ (sb a x s lo d)), .box 31 [.p (.bool false), .p (.sl false 1 []), .p (.sl false 1 [])]]))
    (fun d => lo + d ≤ hi) (fun d => hi - d) 0 [0, 1] (by omega) ⟨rfl, by simp, rfl, rfl, rfl, ⟨rfl, rfl, rfl, rfl, rfl, rfl, trivial⟩, ⟨rfl, rfl, trivial⟩⟩ ?_
  intro d hd
  have hd : lo + d ≤ hi := hd
  by_cases hdh : lo + d < hi
  · refine SCmp.yes (decide_eq_true (by omega)) ?_
    have z1 := sb_bz (d := d) hs (fun j h1 h2 => ha j h1 (by omega)) fun j h1 h2 => hx j h1 (by omega)
    have z2 := (ha (lo + d) (by omega) hdh).mul (hx (lo + d) (by omega) hdh)
    have zd : d * (ba + bx + 1) ≤ n * (ba + bx + 1) := Nat.mul_le_mul_right _ (by omega)
    refine SDraw.mkX (by kernel_rfl) ?_
    repeat refine SOp.mk _ _ (And.intro rfl rfl) rfl ?_
    refine SOp.mk _ _ (SIdx.rf (lo + d) rfl (by omega) (And.intro rfl rfl)) rfl ?_
    repeat refine SOp.mk _ _ (And.intro rfl rfl) rfl ?_
    refine SOp.mk _ _ (SIdx.fl (lo + d) (ratP (x (lo + d))) rfl (by omega) (hg (lo + d) (by omega) hdh) (And.intro rfl rfl)) rfl ?_
    repeat refine SOp.mk _ _ (And.intro rfl rfl) rfl ?_
    refine SOp.mk _ _ (SCall.pure (ratmul_ok _ _ (ha (lo + d) (by omega) hdh).sz (hx (lo + d) (by omega) hdh).sz (by omega)) (And.intro rfl rfl)) rfl ?_
    refine SOp.mk _ _ (SCall.pure (ratsub_ok _ _ z1.sz z2.sz (by omega)) (And.intro rfl rfl)) rfl ?_
    repeat refine SOp.mk _ _ (And.intro rfl rfl) rfl ?_
    refine SFin.mk (by kernel_rfl) ?_
    refine SWrap.i64z ((lo + (d + 1) : Nat) : Int) (by omega) (by omega) ?_
    exact ⟨d + 1, [0, 1], hdh, by show hi - (d + 1) < hi - d; omega, ⟨rfl, by simp, rfl, rfl, rfl, ⟨rfl, rfl, rfl, rfl, rfl, rfl, trivial⟩, ⟨rfl, rfl, trivial⟩⟩⟩
  · refine SCmp.no (decide_eq_false (by omega)) ?_
    obtain rfl : d = hi - lo := by omega
    exact SRet.pure (.p _ (pers_rat _ _ _))
/-- Is a system's shape right? -/
def rowsF (A : Nat → Nat → Rat) (y : Nat → Rat) : Nat → Nat → Rat
  | 0 => y
  | i + 1 => A i
def rowsQ (m q : Bool) (n : Nat) (A : Nat → Nat → Rat) (y : Nat → Rat) (i : Nat) : PV := ratsM (if i = 0 then q else m) (lst n (rowsF A y i))
theorem rowsQ_fl {m q : Bool} {n k : Nat} {A : Nat → Nat → Rat} {y : Nat → Rat} : [ratsM q (lst n y)] ++ (fl k fun i => ratsM m (lst n (A i))) = fl (k + 1) (rowsQ m q n A y) := by
  apply List.ext_getElem?
  intro i
  match i with
  | 0 => rw [fl_get (by omega)]; rfl
  | i + 1 =>
    rw [List.getElem?_append_right (by simp)]
    show (fl k _)[i + 1 - 1]? = _
    rw [Nat.add_sub_cancel]
    by_cases h : i < k
    · rw [fl_get h, fl_get (by omega)]; rfl
    · rw [List.getElem?_eq_none (by simp; omega), List.getElem?_eq_none (by simp; omega)]
theorem shaped_ok (m m' q : Bool) (n : Nat) (A : Nat → Nat → Rat) (y : Nat → Rat) {b : Nat} (hn : n ≤ 900) (hA : ∀ i j, i < n → j < n → Bz (A i j) b) (hy : ∀ i, i < n → Bz (y i) b) (hb : b ≤ 100000000000) :
    CallP Tryz.prog 68 [matP m m' n n A, ratsM q (lst n y)] (.p (.bool true)) [] := by
  have zR : ∀ i j, i < n + 1 → j < n → Bz (rowsF A y i j) b := fun i j hi hj => by
    match i with
    | 0 => exact hy j hj
    | i + 1 => exact hA i j (by omega) hj
  refine callG_of_vc (wr := wr0) Γok mixed Tryz.func68 (by kernel_rfl) rfl (by kernel_rfl) (le_of_ble rfl) (by simp) ?_
  refine SEqN.mk (by simp) ?_
  refine SRoom.mk (by simp; omega) (by simp; omega) ?_
  refine SEs.mk (fl (n + 1) (rowsQ m' q n A y)) rowsQ_fl ?_
  refine SZN.mk (n + 1) (by simp; omega) ?_
  refine SZ.mk ((n + 1 : Nat) : Int) rfl ?_
  refine SLoop.mk Nat (fun i => ([(0, .p (matP m m' n n A)), (14, .vec 0 1 0 (n + 1)), (15, .p (.int .i64 ((n + 1 : Nat) : Int))), (16, .p (.int .i64 i))], [.vec 24 1 (fl (n + 1) (rowsQ m' q n A y))]))
    (fun i => i ≤ n + 1) (fun i => n + 1 - i) 0 [1] (Nat.zero_le _) ⟨rfl, by simp, rfl, rfl, rfl, ⟨rfl, rfl, rfl, rfl, trivial⟩, ⟨rfl, trivial⟩⟩ ?_
  intro i hi
  have hi : i ≤ n + 1 := hi
  by_cases hin : i < n + 1
  · refine SCmp.yes (decide_eq_true (by omega)) ?_
    refine SPos.mk i rfl hin ?_
    refine SIdx.fl (i + 0) (ratsM (if i = 0 then q else m') (lst n (rowsF A y i))) rfl (by omega) rfl ?_
    generalize (if i = 0 then q else m') = f
    refine SZ.mk (n : Int) (by simp [lst]) ?_
    refine SZ.mk (n : Int) (by simp) ?_
    refine SCmp.no (neF rfl) ?_
    refine SZ.mk (n : Int) (by simp [lst]) ?_
    refine SLoop.mk Nat (fun j => ([(0, .p (matP m m' n n A)), (14, .vec 0 1 0 (n + 1)), (15, .p (.int .i64 ((n + 1 : Nat) : Int))), (16, .p (.int .i64 i)), (25, .p (ratsM f (lst n (rowsF A y i)))), (26, .p (.int .i64 n)), (27, .p (.int .i64 j))], [.vec 24 1 (fl (n + 1) (rowsQ m' q n A y))]))
      (fun j => j ≤ n) (fun j => n - j) 0 [0] (Nat.zero_le _) ⟨rfl, by simp, rfl, rfl, rfl, ⟨rfl, rfl, rfl, rfl, rfl, rfl, rfl, trivial⟩, ⟨rfl, trivial⟩⟩ ?_
    intro j hj
    have hj : j ≤ n := hj
    by_cases hjn : j < n
    · refine SCmp.yes (decide_eq_true (by omega)) ?_
      refine SIdx.rf j rfl hjn ?_
      refine SCall.pure (ratright_ok (rowsF A y i j) (zR i j hin hjn).sz (by omega)) ?_
      refine SCmp.no (rfl) ?_
      refine SWrap.i64z ((j + 1 : Nat) : Int) (by omega) (by omega) ?_
      exact ⟨j + 1, [0], hjn, by show n - (j + 1) < n - j; omega, ⟨rfl, by simp, rfl, rfl, rfl, ⟨rfl, rfl, rfl, rfl, rfl, rfl, rfl, trivial⟩, ⟨rfl, trivial⟩⟩⟩
    · refine SCmp.no (decide_eq_false (by omega)) ?_
      refine SWrap.i64z ((i + 1 : Nat) : Int) (by omega) (by omega) ?_
      exact ⟨i + 1, [0], hin, by show n + 1 - (i + 1) < n + 1 - i; omega, ⟨rfl, by simp, rfl, rfl, rfl, ⟨rfl, rfl, rfl, rfl, trivial⟩, ⟨rfl, trivial⟩⟩⟩
  · refine SCmp.no (decide_eq_false (by omega)) ?_
    exact SRet.pure (.tf _)
/-- What a lower triangle's system comes to, so far. -/
def lxF (L : Nat → Nat → Rat) (b : Nat → Rat) : Nat → Nat → Rat
  | 0 => fun _ => 0
  | k + 1 => upd (lxF L b k) k (sb (L k) (lxF L b k) (b k) 0 k)
theorem row_full' {n : Nat} {f : Nat → Rat} : rats (lst n f) = fl n fun k => if k < n then ratP (f k) else rat0 := by
  rw [rats, lst_fl, fl_map]; exact fl_congr fun k hk => (if_pos hk).symm
theorem lx_step {L : Nat → Nat → Rat} {b : Nat → Rat} {n i : Nat} (hi : i < n) :
    (fl n fun k => if k < i then ratP (lxF L b i k) else rat0).set (i + 0) (ratP (sb (L i) (lxF L b i) (b i) 0 (i - 0))) = fl n fun k => if k < i + 1 then ratP (lxF L b (i + 1) k) else rat0 := by
  rw [fl_set]
  refine fl_congr fun k hk => ?_
  simp only [upd, lxF, Nat.add_zero, Nat.sub_zero]
  by_cases e : k = i
  · rw [if_pos e, if_pos (by omega), if_pos e]
  · rw [if_neg e, if_neg e]
    by_cases e2 : k < i
    · rw [if_pos e2, if_pos (by omega)]
    · rw [if_neg e2, if_neg (by omega)]
theorem slowerS_ok (m m' q : Bool) (n : Nat) (L : Nat → Nat → Rat) (b : Nat → Rat) {D X : Nat} (hn : n ≤ 900) (hL : ∀ i j, i < n → j < n → Bz (L i j) D) (hb : ∀ i, i < n → Bz (b i) D) (hX : ∀ k, k ≤ n → ∀ i, i < k → Bz (lxF L b k i) X) (hD : D + n * (D + X + 1) + D + X ≤ 100000000000) :
    CallP Tryz.prog 33 [matP m m' n n L, ratsM q (lst n b)] (.p (ratsM false (lst n (lxF L b n)))) [] := by
  refine callG_of_vc (wr := wr0) Γok mixed Tryz.func33 (by kernel_rfl) rfl (by kernel_rfl) (le_of_ble rfl) (by simp) ?_
  refine SCall.pure (shaped_ok m m' q n L b hn hL hb (by omega)) ?_
  refine SCmp.no (rfl) ?_
  refine SZ.mk (n : Int) (by simp [lst]) ?_
  refine SZ.mk (n : Int) rfl ?_
  refine SLt.mk (by simp) ?_
  refine SMake.rat n rfl (by omega) ?_
  refine SZ.mk (n : Int) rfl ?_
  refine SLoop.mk Nat (fun i => ([(0, .p (matP m m' n n L)), (1, .p (ratsM q (lst n b))), (5, .vec 0 3 0 n), (15, .p (.int .i64 n)), (16, .p (.int .i64 i))], [.vec 31 3 (fl n fun k => if k < i then ratP (lxF L b i k) else rat0)]))
    (fun i => i ≤ n) (fun i => n - i) 0 [0] (Nat.zero_le _) ⟨rfl, by simp, rfl, rfl, rfl, ⟨rfl, rfl, rfl, rfl, rfl, trivial⟩, ⟨congrArg _ ((fl_congr fun k hk => if_neg (by omega)).trans (replicate_fl n rat0).symm), trivial⟩⟩ ?_
  intro i hi
  have hi : i ≤ n := hi
  by_cases hin : i < n
  · refine SCmp.yes (decide_eq_true (by omega)) ?_
    have hl := left_ok m' true (b i) n (L i) (lxF L b i) (fun k => if k < i then ratP (lxF L b i k) else rat0) 0 i (by omega) (Nat.zero_le _) hi (fun j _ h => if_pos h) (hb i hin) (fun j _ h => hL i j hin (by omega)) (fun j _ h => hX i hi j h) hD
    refine SDraw.mkX (by kernel_rfl) ?_
    repeat refine SOp.mk _ _ (And.intro rfl rfl) rfl ?_
    refine SOp.mk _ _ (SIdx.rf i rfl hin (And.intro rfl rfl)) rfl ?_
    repeat refine SOp.mk _ _ (And.intro rfl rfl) rfl ?_
    refine SOp.mk _ _ (SIdx.mf i rfl hin (And.intro rfl rfl)) rfl ?_
    repeat refine SOp.mk _ _ (And.intro rfl rfl) rfl ?_
    refine SOp.mk _ _ (SView.all (by simp) <| SCall.pure (pvs := [ratP (b i), ratsM m' (lst n (L i)), .sl true 3 (fl n fun k => if k < i then ratP (lxF L b i k) else rat0), .int .i64 0, .int .i64 i]) hl (And.intro rfl rfl)) rfl ?_
    refine SOp.mk _ _ (SPos.mk i rfl hin (And.intro rfl rfl)) rfl ?_
    refine SOp.mk _ _ (SLt.mk (by simp; omega) <| SEs.mk _ (lx_step hin) (And.intro rfl rfl)) rfl ?_
    repeat refine SOp.mk _ _ (And.intro rfl rfl) rfl ?_
    refine SFin.mk (by kernel_rfl) ?_
    refine SWrap.i64z ((i + 1 : Nat) : Int) (by omega) (by omega) ?_
    exact ⟨i + 1, [0], hin, by show n - (i + 1) < n - i; omega, ⟨rfl, by simp, rfl, rfl, rfl, ⟨rfl, rfl, rfl, rfl, rfl, trivial⟩, ⟨rfl, trivial⟩⟩⟩
  · refine SCmp.no (decide_eq_false (by omega)) ?_
    obtain rfl : n = i := by omega
    exact SRet.pure (frzR (h := 0) (l := lst n (lxF L b n)) (congrArg (Blk.vec 31 3) row_full'.symm) (by simp [lst]))
end Go.Proofs.YtjfcphohgicolaaGreat

namespace Go.Proofs.YtjfcphohgicolaaGreat
open Go
set_option linter.unusedVariables false
set_option linter.unusedSimpArgs false
set_option maxRecDepth 10000
/-- What an upper triangle's system comes to, from the last row on, so far. -/
def uxF (U : Nat → Nat → Rat) (b : Nat → Rat) (n : Nat) : Nat → Nat → Rat
  | 0 => fun _ => 0
  | t + 1 => upd (uxF U b n t) (n - 1 - t) (sb (U (n - 1 - t)) (uxF U b n t) (b (n - 1 - t)) (n - t) t / U (n - 1 - t) (n - 1 - t))
theorem ux_step {U : Nat → Nat → Rat} {b : Nat → Rat} {n t : Nat} (ht : t < n) :
    (fl n fun k => if n ≤ k + t then ratP (uxF U b n t k) else rat0).set (n - 1 - t + 0) (ratP (sb (U (n - 1 - t)) (uxF U b n t) (b (n - 1 - t)) (n - t) t / U (n - 1 - t) (n - 1 - t))) = fl n fun k => if n ≤ k + (t + 1) then ratP (uxF U b n (t + 1) k) else rat0 := by
  rw [fl_set]
  refine fl_congr fun k hk => ?_
  simp only [upd, uxF, Nat.add_zero]
  by_cases e : k = n - 1 - t
  · rw [if_pos e, if_pos (by omega), if_pos e]
  · rw [if_neg e, if_neg e]
    by_cases e2 : n ≤ k + t
    · rw [if_pos e2, if_pos (by omega)]
    · rw [if_neg e2, if_neg (by omega)]
theorem supperS_ok (m m' q : Bool) (n K : Nat) (U : Nat → Nat → Rat) (b : Nat → Rat) {D X : Nat} (hn : n ≤ 900) (hU : ∀ i j, i < n → j < n → Bz (U i j) D) (hb : ∀ i, i < n → Bz (b i) D) (hX : ∀ t, t ≤ K → ∀ i, n ≤ i + t → i < n → Bz (uxF U b n t i) X) (hD : D + n * (D + X + 1) + D + X ≤ 100000000000)
    (hK : K ≤ n) (hp : ∀ t, t < K → U (n - 1 - t) (n - 1 - t) ≠ 0) (hz : K < n → U (n - 1 - K) (n - 1 - K) = 0)
    (R : AV) (h1 : K < n → R = .tup [.p (ratsM false []), .p (.int .i64 5)]) (h2 : K = n → R = .tup [.p (ratsM false (lst n (uxF U b n n))), .p (.int .i64 0)]) :
    CallP Tryz.prog 32 [matP m m' n n U, ratsM q (lst n b)] R [] := by
  refine callG_of_vc (wr := wr0) Γok mixed Tryz.func32 (by kernel_rfl) rfl (by kernel_rfl) (le_of_ble rfl) (by simp) ?_
  refine SCall.pure (shaped_ok m m' q n U b hn hU hb (by omega)) ?_
  refine SCmp.no (rfl) ?_
  refine SZ.mk (n : Int) (by simp [lst]) ?_
  refine SZ.mk (n : Int) rfl ?_
  refine SLt.mk (by simp) ?_
  refine SMake.rat n rfl (by omega) ?_
  refine SZ.mk (n : Int) (by simp [lst]) ?_
  refine SWrap.i64z ((n : Int) - 1 - (0 : Nat)) (by omega) (by omega) ?_
  refine SLoop.mk Nat (fun t => ([(0, .p (matP m m' n n U)), (1, .p (ratsM q (lst n b))), (6, .vec 0 3 0 n), (7, .p (.int .i64 ((n : Int) - 1 - (t : Nat))))], [.vec 31 3 (fl n fun k => if n ≤ k + t then ratP (uxF U b n t k) else rat0)]))
    (fun t => t ≤ K) (fun t => n - t) 0 [0] (Nat.zero_le _) ⟨rfl, by simp, rfl, rfl, rfl, ⟨rfl, rfl, rfl, rfl, trivial⟩, ⟨congrArg _ ((fl_congr fun k hk => if_neg (by omega)).trans (replicate_fl n rat0).symm), trivial⟩⟩ ?_
  intro t ht
  have ht : t ≤ K := ht
  by_cases htn : t < n
  · refine SCmp.yes (decide_eq_true (by omega)) ?_
    have hl := left_ok m' true (b (n - 1 - t)) n (U (n - 1 - t)) (uxF U b n t) (fun k => if n ≤ k + t then ratP (uxF U b n t k) else rat0) (n - t) n (by omega) (by omega) (Nat.le_refl _) (fun j h _ => if_pos (by omega)) (hb _ (by omega)) (fun j _ h => hU _ j (by omega) h) (fun j h1 h2 => hX t ht j (by omega) h2) (by omega)
    rw [show n - (n - t) = t by omega] at hl
    have zs := sb_bz (a := U (n - 1 - t)) (x := uxF U b n t) (lo := n - t) (d := t) (hb (n - 1 - t) (by omega)) (fun j h1 h2 => hU (n - 1 - t) j (by omega) (by omega)) (fun j h1 h2 => hX t ht j (by omega) (by omega))
    have zt : t * (D + X + 1) ≤ n * (D + X + 1) := Nat.mul_le_mul_right _ (by omega)
    have zu := hU (n - 1 - t) (n - 1 - t) (by omega) (by omega)
    by_cases htK : t < K
    · have hq := quo_ok (sb (U (n - 1 - t)) (uxF U b n t) (b (n - 1 - t)) (n - t) t) (U (n - 1 - t) (n - 1 - t)) (hp t htK) zs.sz zu.sz (by omega)
      refine SDraw.mkX (by kernel_rfl) ?_
      repeat refine SOp.mk _ _ (And.intro rfl rfl) rfl ?_
      refine SOp.mk _ _ (SIdx.rf (n - 1 - t) (by omega) (by omega) (And.intro rfl rfl)) rfl ?_
      repeat refine SOp.mk _ _ (And.intro rfl rfl) rfl ?_
      refine SOp.mk _ _ (SIdx.mf (n - 1 - t) (by omega) (by omega) (And.intro rfl rfl)) rfl ?_
      repeat refine SOp.mk _ _ (And.intro rfl rfl) rfl ?_
      refine SOp.mk _ _ (SWrap.i64z ((n - t : Nat) : Int) (by omega) (by omega) (And.intro rfl rfl)) rfl ?_
      repeat refine SOp.mk _ _ (And.intro rfl rfl) rfl ?_
      refine SOp.mk _ _ (SZ.mk (n : Int) (by simp [lst]) (And.intro rfl rfl)) rfl ?_
      repeat refine SOp.mk _ _ (And.intro rfl rfl) rfl ?_
      refine SOp.mk _ _ (SView.all (by simp) <| SCall.pure (pvs := [ratP (b (n - 1 - t)), ratsM m' (lst n (U (n - 1 - t))), .sl true 3 (fl n fun k => if n ≤ k + t then ratP (uxF U b n t k) else rat0), .int .i64 ((n - t : Nat) : Int), .int .i64 n]) hl (And.intro rfl rfl)) rfl ?_
      repeat refine SOp.mk _ _ (And.intro rfl rfl) rfl ?_
      refine SOp.mk _ _ (SIdx.mf (n - 1 - t) (by omega) (by omega) (And.intro rfl rfl)) rfl ?_
      repeat refine SOp.mk _ _ (And.intro rfl rfl) rfl ?_
      refine SOp.mk _ _ (SIdx.rf (n - 1 - t) (by omega) (by omega) (And.intro rfl rfl)) rfl ?_
      repeat refine SOp.mk _ _ (And.intro rfl rfl) rfl ?_
      refine SOp.mk _ _ (SCall.pureT (hq) (fun _ => rfl) (And.intro rfl rfl)) rfl ?_
      repeat refine SOp.mk _ _ (And.intro rfl rfl) rfl ?_
      refine SFin.mk (by kernel_rfl) ?_
      refine SCmp.no (rfl) ?_
      refine SPos.mk (n - 1 - t) (by omega) (by omega) ?_
      refine SLt.mk (by simp; omega) ?_
      refine SEs.mk _ (ux_step htn) ?_
      refine SWrap.i64z ((n : Int) - 1 - ((t + 1 : Nat) : Int)) (by omega) (by omega) ?_
      exact ⟨t + 1, [0], htK, by show n - (t + 1) < n - t; omega, ⟨rfl, by simp, rfl, rfl, rfl, ⟨rfl, rfl, rfl, rfl, trivial⟩, ⟨rfl, trivial⟩⟩⟩
    · obtain rfl : t = K := by omega
      have hq := quoZ_ok (sb (U (n - 1 - t)) (uxF U b n t) (b (n - 1 - t)) (n - t) t) zs.sz (by omega)
      rw [← hz htn] at hq
      have e := h1 htn
      subst e
      refine SDraw.mkX (by kernel_rfl) ?_
      repeat refine SOp.mk _ _ (And.intro rfl rfl) rfl ?_
      refine SOp.mk _ _ (SIdx.rf (n - 1 - t) (by omega) (by omega) (And.intro rfl rfl)) rfl ?_
      repeat refine SOp.mk _ _ (And.intro rfl rfl) rfl ?_
      refine SOp.mk _ _ (SIdx.mf (n - 1 - t) (by omega) (by omega) (And.intro rfl rfl)) rfl ?_
      repeat refine SOp.mk _ _ (And.intro rfl rfl) rfl ?_
      refine SOp.mk _ _ (SWrap.i64z ((n - t : Nat) : Int) (by omega) (by omega) (And.intro rfl rfl)) rfl ?_
      repeat refine SOp.mk _ _ (And.intro rfl rfl) rfl ?_
      refine SOp.mk _ _ (SZ.mk (n : Int) (by simp [lst]) (And.intro rfl rfl)) rfl ?_
      repeat refine SOp.mk _ _ (And.intro rfl rfl) rfl ?_
      refine SOp.mk _ _ (SView.all (by simp) <| SCall.pure (pvs := [ratP (b (n - 1 - t)), ratsM m' (lst n (U (n - 1 - t))), .sl true 3 (fl n fun k => if n ≤ k + t then ratP (uxF U b n t k) else rat0), .int .i64 ((n - t : Nat) : Int), .int .i64 n]) hl (And.intro rfl rfl)) rfl ?_
      repeat refine SOp.mk _ _ (And.intro rfl rfl) rfl ?_
      refine SOp.mk _ _ (SIdx.mf (n - 1 - t) (by omega) (by omega) (And.intro rfl rfl)) rfl ?_
      repeat refine SOp.mk _ _ (And.intro rfl rfl) rfl ?_
      refine SOp.mk _ _ (SIdx.rf (n - 1 - t) (by omega) (by omega) (And.intro rfl rfl)) rfl ?_
      repeat refine SOp.mk _ _ (And.intro rfl rfl) rfl ?_
      refine SOp.mk _ _ (SCall.pureT (hq) (fun _ => rfl) (And.intro rfl rfl)) rfl ?_
      repeat refine SOp.mk _ _ (And.intro rfl rfl) rfl ?_
      refine SFin.mk (by kernel_rfl) ?_
      refine SCmp.yes (rfl) ?_
      exact SRet.pure (.tup rfl fun i c d e1 e2 => by
        match i, e1, e2 with
        | 0, e1, e2 => cases e1; cases e2; exact .emp 3
        | 1, e1, e2 => cases e1; cases e2; exact .p _ (.int _ _))
  · refine SCmp.no (decide_eq_false (by omega)) ?_
    obtain rfl : n = t := by omega
    have e := h2 (by omega)
    subst e
    refine SRet.pure (.tup rfl fun a c d e1 e2 => ?_)
    match a, e1, e2 with
    | 0, e1, e2 => cases e1; cases e2; exact frzR (h := 0) (l := lst n (uxF U b n n)) (congrArg (Blk.vec 31 3) ((fl_congr fun k hk => by rw [if_pos (show n ≤ k + n by omega), if_pos hk]).trans row_full'.symm)) (by simp [lst])
    | 1, e1, e2 => cases e1; cases e2; exact .p _ (.int _ _)
end Go.Proofs.YtjfcphohgicolaaGreat

namespace Go.Proofs.YtjfcphohgicolaaGreat
open Go
set_option linter.unusedVariables false
set_option linter.unusedSimpArgs false
set_option maxRecDepth 10000
theorem gs_bz {A : Nat → Nat → Rat} {n b : Nat} (hA : ∀ i j, i < n → j < n → Bz (A i j) b) : ∀ k, k ≤ n → ∀ i j, i < n → j < n → Bz (gs A k i j) (bb b k) := by
  intro k
  induction k with
  | zero => intro _ i j hi hj; exact hA i j hi hj
  | succ k ih =>
    intro hk i j hi hj
    have ih := ih (by omega)
    by_cases c : k < i ∧ k ≤ j
    · rw [gs_gt c.1 c.2]
      exact ((ih i j hi hj).sub (((ih i k hi (by omega)).div (ih k k (by omega) (by omega))).mul (ih k j (by omega) hj))).mono (by simp only [bb]; omega)
    · rw [gs_le (by omega)]; exact (ih i j hi hj).mono (by simp only [bb]; omega)
theorem bb_mono {b j k : Nat} (h : j ≤ k) : bb b j ≤ bb b k := Rmono (fun k => bb_step k) h
/-- All that is left at any step has so many digits. -/
def GsB (A : Nat → Nat → Rat) (n D : Nat) : Prop := ∀ k, k ≤ n → ∀ i j, i < n → j < n → Bz (gs A k i j) D
theorem GsB.of {A : Nat → Nat → Rat} {n b : Nat} (hA : ∀ i j, i < n → j < n → Bz (A i j) b) : GsB A n (bb b n) := fun k hk i j hi hj => (gs_bz hA k hk i j hi hj).mono (bb_mono hk)
theorem nlen0 {q : Rat} (h : q = 0) : nlen q.num.natAbs = 0 := by rw [h]; exact nlen_zero_iff.2 rfl
theorem nlen1 {q : Rat} (h : q ≠ 0) : nlen q.num.natAbs ≠ 0 := fun e => h (Rat.num_eq_zero.1 (by have := nlen_zero_iff.1 e; omega))
theorem stepZ_ok (A : Nat → Nat → Rat) (n k : Nat) (hk : k < n) (hn : n ≤ 1000) (hp : piv A k = 0) :
    CallG Tryz.prog 64 [.bptr 0 0, .p (.int .i64 k)] (wkB n (tabF n (gs A k) (n * n)) (tkL A n k)) (.p (.bool false)) (wkB n (tabF n (gs A k) (n * n)) (tkL A n k)) := by
  refine callG_of_vc (wr := wr0) Γok mixed Tryz.func64 (by kernel_rfl) rfl (by kernel_rfl) (le_of_ble rfl) (by simp) ?_
  refine SKeys.tab (fun _ _ => rfl) <| SGet.tab hk hk ?_
  refine SZ.mk (nlen (gs A k k k).num.natAbs : Int) (by simp) ?_
  refine SCmp.yes (eqT (by rw [nlen0 (show gs A k k k = 0 from hp)]; rfl)) ?_
  refine SRet.keep rfl
    (fun B hB k => by simp only [wkB, List.mem_cons, List.not_mem_nil, or_false] at hB; rcases hB with rfl | rfl | rfl <;> rfl) (fun i hi => by
      match i, hi with
      | 0, _ => exact trivial
      | 1, _ => exact trivial
      | 2, _ => exact trivial)
    (fun a B e1 => by
      match a, e1 with
      | 0, e1 =>
        cases e1
        refine .box (cs := wkA n 1 2) (fun d hd => by simp only [wkA, List.mem_cons, List.not_mem_nil, or_false] at hd; rcases hd with rfl | rfl | rfl <;> rfl) rfl fun b c d e1 e2 => ?_
        match b, e1, e2 with
        | 0, e1, e2 => cases e1; cases e2; exact .p _ (.int _ _)
        | 1, e1, e2 => cases e1; cases e2; exact .map rfl
        | 2, e1, e2 => cases e1; cases e2; exact .map rfl
      | 1, e1 => cases e1; exact .map pers_tab
      | 2, e1 => cases e1; exact .map (pers_tk (by omega))) (.tf _)
theorem step_ok (A : Nat → Nat → Rat) (n k : Nat) {D : Nat} (hk : k < n) (hn : n ≤ 1000) (hp : piv A k ≠ 0) (hB : GsB A n D) (hD : 4 * D ≤ 1048576) :
    CallG Tryz.prog 64 [.bptr 0 0, .p (.int .i64 k)] (wkB n (tabF n (gs A k) (n * n)) (tkL A n k)) (.p (.bool true)) (wkB n (tabF n (gs A (k + 1)) (n * n)) (tkL A n (k + 1))) := by
  have nz := nlen1 hp
  refine callG_of_vc (wr := wr0) Γok mixed Tryz.func64 (by kernel_rfl) rfl (by kernel_rfl) (le_of_ble rfl) (by simp) ?_
  refine SKeys.tab (fun _ _ => rfl) <| SGet.tab hk hk ?_
  refine SZ.mk (nlen (gs A k k k).num.natAbs : Int) (by simp) ?_
  refine SCmp.no (eqF (by have : nlen (gs A k k k).num.natAbs ≠ 0 := nz; omega)) ?_
  refine SWrap.i64z ((k + 1 + 0 : Nat) : Int) (by omega) (by omega) ?_
  refine SLoop.mk (Nat × (Nat → Nat → Rat)) (fun (d, F) => ([(0, .bptr 0 0), (1, .p (.int .i64 k)), (5, .bptr 3 0), (6, .p (.int .i64 ((k + 1 + d : Nat) : Int)))], [.box 100 (wkA n 1 2), .map (tabF n F (n * n)), .map (tkL A n k ++ fl d (tkE A k)), .box 31 (bxQ (gs A k k k))]))
    (fun (d, F) => k + 1 + d ≤ n ∧ ∀ a b, a < n → b < n → F a b = if a < k + 1 + d then gs A (k + 1) a b else gs A k a b) (fun x => n - x.1) (0, gs A k) [0, 1, 2, 3]
    ⟨by omega, fun a b _ _ => by
      split
      · exact (gs_le (.inl (by omega))).symm
      · rfl⟩ ⟨rfl, by simp, rfl, rfl, rfl, ⟨rfl, rfl, rfl, rfl, trivial⟩, ⟨rfl, rfl, congrArg Blk.map (List.append_nil _), rfl, trivial⟩⟩ ?_
  intro ⟨d, F⟩ ⟨hd, hF⟩
  by_cases hin : k + 1 + d < n
  · refine SCmp.yes (decide_eq_true (by omega)) ?_
    obtain ⟨i, hi⟩ : ∃ i, i = k + 1 + d := ⟨_, rfl⟩
    have hFi : ∀ b, b < n → F (k + 1 + d) b = gs A k (k + 1 + d) b := fun b hb => by rw [hF _ b hin hb, if_neg (Nat.lt_irrefl _)]
    have hFk : ∀ b, b < n → F k b = gs A k k b := fun b hb => by rw [hF k b hk hb, if_pos (by omega)]; exact gs_le (.inl (Nat.le_refl _))
    have zi : ∀ b, b < n → Bz (F (k + 1 + d) b) D := fun b hb => by rw [hFi b hb]; exact hB k (by omega) _ b hin hb
    have zk : ∀ b, b < n → Bz (F k b) D := fun b hb => by rw [hFk b hb]; exact hB k (by omega) _ b hk hb
    have zp : Bz (gs A k k k) D := hB k (by omega) k k hk hk
    obtain ⟨Q, hQ⟩ : ∃ Q, Q = F (k + 1 + d) k / gs A k k k := ⟨_, rfl⟩
    have zQ : Bz Q (D + D) := by rw [hQ]; exact (zi k hk).div zp
    have hq := quo_ok (F (k + 1 + d) k) (gs A k k k) hp (zi k hk).sz zp.sz (by omega)
    rw [← hQ] at hq
    have hQv : Q = tkV A (k + 1 + d) k := by rw [hQ, hFi k hk]; rfl
    refine SDraw.mkX (by kernel_rfl) ?_
    repeat refine SOp.mk _ _ (And.intro rfl rfl) rfl ?_
    refine SOp.mk _ _ (SKeys.tab (fun _ _ => rfl) <| SGet.tab hin hk (And.intro rfl rfl)) rfl ?_
    repeat refine SOp.mk _ _ (And.intro rfl rfl) rfl ?_
    refine SOp.mk _ _ (SCall.pureT (hq) (fun _ => rfl) (And.intro rfl rfl)) rfl ?_
    repeat refine SOp.mk _ _ (And.intro rfl rfl) rfl ?_
    refine SFin.mk (by kernel_rfl) ?_
    refine SDraw.mkX (by kernel_rfl) ?_
    repeat refine SOp.mk _ _ (And.intro rfl rfl) rfl ?_
    refine SOp.mk _ _ (SKeys.tk (by omega) (fun _ _ => rfl) <| SPut.tk (by omega) (congrArg ratP hQv) (And.intro rfl rfl)) rfl ?_
    refine SFin.mk (by kernel_rfl) ?_
    refine SLoop.mk (Nat × (Nat → Nat → Rat)) (fun (j, G) => ([(0, .bptr 0 0), (1, .p (.int .i64 k)), (5, .bptr 3 0), (6, .p (.int .i64 ((k + 1 + d : Nat) : Int))), (7, .bptr 4 0), (9, .p (.int .i64 j))], [.box 100 (wkA n 1 2), .map (tabF n G (n * n)), .map (tkL A n k ++ fl (d + 1) (tkE A k)), .box 31 (bxQ (gs A k k k)), .box 31 (bxQ Q)]))
      (fun (j, G) => k ≤ j ∧ j ≤ n ∧ ∀ a b, a < n → b < n → G a b = if a = k + 1 + d ∧ k ≤ b ∧ b < j then F (k + 1 + d) b - Q * F k b else F a b) (fun x => n - x.1) (k, F) [0, 1, 2, 3, 4]
      ⟨Nat.le_refl _, by omega, fun a b _ _ => by rw [if_neg (by omega)]⟩ ⟨rfl, by simp, rfl, rfl, rfl, ⟨rfl, rfl, rfl, rfl, rfl, rfl, trivial⟩, ⟨rfl, rfl, rfl, rfl, rfl, trivial⟩⟩ ?_
    intro ⟨j, G⟩ ⟨hkj, hj, hG⟩
    by_cases hjn : j < n
    · refine SCmp.yes (decide_eq_true (by omega)) ?_
      have gi : G (k + 1 + d) j = F (k + 1 + d) j := by rw [hG _ j hin hjn, if_neg (by omega)]
      have gk : G k j = F k j := by rw [hG k j hk hjn, if_neg (by omega)]
      have z1 : Bz (G (k + 1 + d) j) D := by rw [gi]; exact zi j hjn
      have z2 : Bz (G k j) D := by rw [gk]; exact zk j hjn
      refine SDraw.mkX (by kernel_rfl) ?_
      repeat refine SOp.mk _ _ (And.intro rfl rfl) rfl ?_
      refine SOp.mk _ _ (SKeys.tab (fun _ _ => rfl) <| SGet.tab hin hjn (And.intro rfl rfl)) rfl ?_
      repeat refine SOp.mk _ _ (And.intro rfl rfl) rfl ?_
      refine SOp.mk _ _ (SKeys.tab (fun _ _ => rfl) <| SGet.tab hk hjn (And.intro rfl rfl)) rfl ?_
      repeat refine SOp.mk _ _ (And.intro rfl rfl) rfl ?_
      refine SOp.mk _ _ (SCall.pure (ratmul_ok _ _ zQ.sz z2.sz (by omega)) (And.intro rfl rfl)) rfl ?_
      refine SOp.mk _ _ (SCall.pure (ratsub_ok _ _ z1.sz (zQ.mul z2).sz (by omega)) (And.intro rfl rfl)) rfl ?_
      refine SOp.mk _ _ (SKeys.tab (fun _ _ => rfl) <| SPut.tabset hin hjn (And.intro rfl rfl)) rfl ?_
      refine SFin.mk (by kernel_rfl) ?_
      refine SWrap.i64z ((j + 1 : Nat) : Int) (by omega) (by omega) ?_
      refine ⟨(j + 1, _), [0, 1, 2, 3, 4], ⟨by omega, hjn, fun a b ha hb => ?_⟩, by show n - (j + 1) < n - j; omega, ⟨rfl, by simp, rfl, rfl, rfl, ⟨rfl, rfl, rfl, rfl, rfl, rfl, trivial⟩, ⟨rfl, rfl, rfl, rfl, rfl, trivial⟩⟩⟩
      by_cases e : a = k + 1 + d ∧ b = j
      · rw [if_pos e, if_pos ⟨e.1, by omega, by omega⟩, gi, gk, e.2]
      · rw [if_neg e, hG a b ha hb]
        by_cases c : a = k + 1 + d ∧ k ≤ b ∧ b < j
        · rw [if_pos c, if_pos ⟨c.1, c.2.1, by omega⟩]
        · rw [if_neg c, if_neg (by omega)]
    · refine SCmp.no (decide_eq_false (by omega)) ?_
      obtain rfl : j = n := by omega
      refine SWrap.i64z ((k + 1 + (d + 1) : Nat) : Int) (by omega) (by omega) ?_
      refine ⟨(d + 1, G), [0, 1, 2, 3], ⟨by omega, fun a b ha hb => ?_⟩, by show j - (d + 1) < j - d; omega, ⟨rfl, by simp, rfl, rfl, rfl, ⟨rfl, rfl, rfl, rfl, trivial⟩, ⟨rfl, rfl, rfl, rfl, trivial⟩⟩⟩
      rw [hG a b ha hb]
      by_cases c : a = k + 1 + d ∧ k ≤ b ∧ b < j
      · rw [if_pos c, if_pos (by omega), c.1, gs_gt (by omega) c.2.1, hQ, hFi b hb, hFk b hb, hFi k hk]
      · rw [if_neg c, hF a b ha hb]
        by_cases c2 : a = k + 1 + d
        · rw [if_neg (by omega), if_pos (by omega), gs_le (.inr (by omega))]
        · by_cases c3 : a < k + 1 + d
          · rw [if_pos c3, if_pos (by omega)]
          · rw [if_neg c3, if_neg (by omega)]
  · refine SCmp.no (decide_eq_false (by omega)) ?_
    have e1 : tabF n F (n * n) = tabF n (gs A (k + 1)) (n * n) := tabF_congr fun a b ha hb => by rw [hF a b ha hb, if_pos (by omega)]
    have e2 : tkL A n k ++ fl d (tkE A k) = tkL A n (k + 1) := by simp only [tkL]; rw [show d = n - 1 - k by omega]
    rw [← e1, ← e2]
    refine SRet.keep rfl
      (fun B hB k => by simp only [wkB, List.mem_cons, List.not_mem_nil, or_false] at hB; rcases hB with rfl | rfl | rfl <;> rfl) (fun i hi => by
        match i, hi with
        | 0, _ => exact trivial
        | 1, _ => exact trivial
        | 2, _ => exact trivial)
      (fun a B e1 => by
        match a, e1 with
        | 0, e1 =>
          cases e1
          refine .box (cs := wkA n 1 2) (fun d hd => by simp only [wkA, List.mem_cons, List.not_mem_nil, or_false] at hd; rcases hd with rfl | rfl | rfl <;> rfl) rfl fun b c d e1 e2 => ?_
          match b, e1, e2 with
          | 0, e1, e2 => cases e1; cases e2; exact .p _ (.int _ _)
          | 1, e1, e2 => cases e1; cases e2; exact .map rfl
          | 2, e1, e2 => cases e1; cases e2; exact .map rfl
        | 1, e1 => cases e1; exact .map pers_tab
        | 2, e1 => cases e1; exact .map (by rw [e2]; exact pers_tk (by omega))) (.tf _)
end Go.Proofs.YtjfcphohgicolaaGreat

namespace Go.Proofs.YtjfcphohgicolaaGreat
open Go
set_option linter.unusedVariables false
set_option linter.unusedSimpArgs false
set_option maxRecDepth 10000
theorem rexpand5_ok (m : Nat → Bool) (g : GV) {b c : Nat} (h : Wf g b c) : CallP Tryz.prog 16 [genP m g] (.p (matP false false g.n g.n (ent g))) [] := by
  have h8 := h.n6
  refine callG_of_vc (wr := wr0) Γok mixed Tryz.func16 (by kernel_rfl) rfl (by kernel_rfl) (le_of_ble rfl) (by simp) ?_
  refine SLoop.mkT Nat (fun i => ([(1, .bptr 0 0), (3, .vec 1 1 0 i), (4, .p (.int .i64 i))], [.box 26 (genA m g), .rows 24 (plc 2 g.n i id), .pool 31 3 (plr i g.n (ent g))]))
    (fun i => i ≤ g.n) (fun i => g.n - i) 0 [0, 1, 2] _ _ (.rows 3 24 rfl (.pool 31 3 (.done _ _))) (Nat.zero_le _) ⟨rfl, by simp, rfl, rfl, rfl, ⟨rfl, rfl, rfl, trivial⟩, ⟨rfl, rfl, rfl, rows_in fun i hi => absurd hi (Nat.not_lt_zero _), trivial⟩⟩ ?_
  intro i hi
  have hi : i ≤ g.n := hi
  by_cases hin : i < g.n
  · refine SCmp.yes (decide_eq_true (by omega)) ?_
    refine SLoop.mkT Nat (fun j => ([(1, .bptr 0 0), (3, .vec 1 1 0 i), (4, .p (.int .i64 i)), (5, .vec 3 3 0 j), (6, .p (.int .i64 j))], [.box 26 (genA m g), .rows 24 (plc 2 g.n i id), .pool 31 3 (plr i g.n (ent g)), .vec 31 3 (rats (lst j (ent g i)))]))
      (fun j => j ≤ g.n) (fun j => g.n - j) 0 [0, 1, 2, 3] _ _ (.step 5 31 3 rfl (.done _ _)) (Nat.zero_le _) ⟨rfl, by simp, rfl, rfl, rfl, ⟨rfl, rfl, rfl, rfl, rfl, trivial⟩, ⟨rfl, congrArg _ (plc_ren 2 rfl (by decide)), rfl, rfl, rows_in fun i hi => by simpa [plenAt] using hi, trivial⟩⟩ ?_
    intro j hj
    have hj : j ≤ g.n := hj
    by_cases hjn : j < g.n
    · refine SCmp.yes (decide_eq_true (by omega)) ?_
      refine SCall.pure (rentry5_ok m g h i j hin hjn) ?_
      refine SEqN.mk (by simp [lst]) <| SView.all rfl <| SRoom.mk (by simp [lst]; omega) (by simp [lst]; omega) <| SEs.mk (rats (lst (j + 1) (ent g i))) (app_lst _ _ _ (rfl)) <| SZN.mk (j + 1) (by simp [lst]) ?_
      refine SWrap.i64z ((j + 1 : Nat) : Int) (by omega) (by omega) ?_
      exact ⟨j + 1, [0, 1, 2, 5], hjn, by show g.n - (j + 1) < g.n - j; omega, ⟨rfl, by simp, rfl, rfl, rfl, ⟨rfl, rfl, rfl, rfl, rfl, trivial⟩, ⟨rfl, congrArg _ (plc_ren 2 rfl (by decide)), rfl, rfl, rows_in fun i hi => by simpa [plenAt] using hi, trivial⟩⟩⟩
    · refine SCmp.no (decide_eq_false (by omega)) ?_
      obtain rfl : j = g.n := by omega
      refine SEqN.mk (by simp) ?_
      refine SRoom.mk (by simp; omega) (by simp; omega) ?_
      refine SAs.mk _ rfl ?_
      refine SZN.mk (i + 1) (by simp) ?_
      refine SWrap.i64z ((i + 1 : Nat) : Int) (by omega) (by omega) ?_
      exact ⟨i + 1, [0, 5, 4002], hin, by show g.n - (i + 1) < g.n - i; omega, ⟨rfl, by simp, rfl, rfl, rfl, ⟨rfl, rfl, rfl, trivial⟩, ⟨rfl, congrArg _ (plc_absorb rfl (by decide) (by simp [plenAt])), ⟨_, _, _, _, rfl, rfl, congrArg _ plr_snoc⟩, rows_in fun i hi => by simpa [plenAt] using hi, trivial⟩⟩⟩
  · refine SCmp.no (decide_eq_false (by omega)) ?_
    obtain rfl : i = g.n := by omega
    exact SRet.pure (frzM (H := [_, _, _]) (h := 1) (p := 2) rfl rfl fun i hi => hi)
end Go.Proofs.YtjfcphohgicolaaGreat

namespace Go.Proofs.YtjfcphohgicolaaGreat
open Go
set_option linter.unusedVariables false
set_option maxRecDepth 10000
theorem sb_congr {a a' x : Nat → Rat} {s : Rat} {lo : Nat} : ∀ d, (∀ j, lo ≤ j → j < lo + d → a j = a' j) → sb a x s lo d = sb a' x s lo d := by
  intro d
  induction d with
  | zero => intro _; rfl
  | succ d ih =>
    intro h
    simp only [sb]
    rw [ih fun j h1 h2 => h j h1 (by omega), h (lo + d) (by omega) (by omega)]
theorem ux_bk {U : Nat → Nat → Rat} {b : Nat → Rat} {n : Nat} : ∀ t, t ≤ n → uxF U b n t = bk (augM n U b) n t := by
  intro t
  induction t with
  | zero => intro _; rfl
  | succ t ih =>
    intro ht
    simp only [uxF, bk]
    rw [ih (by omega)]
    have e1 : augM n U b (n - 1 - t) n = b (n - 1 - t) := if_neg (Nat.lt_irrefl n)
    have e2 : augM n U b (n - 1 - t) (n - 1 - t) = U (n - 1 - t) (n - 1 - t) := if_pos (by omega)
    rw [e1, e2, sb_congr (a := U (n - 1 - t)) (a' := augM n U b (n - 1 - t)) t fun j h1 h2 => (if_pos (by omega)).symm]
theorem lx_keep {L : Nat → Nat → Rat} {b : Nat → Rat} {i : Nat} : ∀ d, lxF L b (i + 1 + d) i = lxF L b (i + 1) i := by
  intro d
  induction d with
  | zero => rfl
  | succ d ih => rw [← ih, ← Nat.add_assoc]; simp only [lxF]; exact upd_other _ _ (by omega)
theorem lx_keep' {L : Nat → Nat → Rat} {b : Nat → Rat} {i k : Nat} (h : i < k) : lxF L b k i = lxF L b (i + 1) i := by
  obtain ⟨d, rfl⟩ : ∃ d, k = i + 1 + d := ⟨k - (i + 1), by omega⟩
  exact lx_keep d
theorem sb_sm {a x : Nat → Rat} {s : Rat} : ∀ d, sb a x s 0 d + sm d (fun k => a k * x k) = s := by
  intro d
  induction d with
  | zero => show s + 0 = s; grind
  | succ d ih =>
    show (sb a x s 0 d - a (0 + d) * x (0 + d)) + (sm d _ + a d * x d) = s
    rw [Nat.zero_add, ← ih]; grind
theorem lx_ok {L : Nat → Nat → Rat} {b : Nat → Rat} {n : Nat} (h1 : ∀ i, i < n → L i i = 1) (h0 : ∀ i j, i < j → j < n → L i j = 0) : ∀ i, i < n → apl n L (lxF L b n) i = b i := by
  intro i hi
  show sm n (fun k => L i k * lxF L b n k) = b i
  obtain ⟨d, hd⟩ : ∃ d, n = (i + 1) + d := ⟨n - (i + 1), by omega⟩
  have e : sm n (fun k => L i k * lxF L b n k) = sm (i + 1) (fun k => L i k * lxF L b n k) := by
    conv => lhs; rw [hd]
    rw [sm_split, sm_zero (n := d) fun e he => by rw [h0 i (i + 1 + e) (by omega) (by omega)]; exact Rat.zero_mul _]
    rw [← hd]; exact Rat.add_zero _
  rw [e]
  show sm i (fun k => L i k * lxF L b n k) + L i i * lxF L b n i = b i
  have e2 : lxF L b n i = sb (L i) (lxF L b i) (b i) 0 i := by rw [lx_keep' hi]; simp only [lxF]; exact upd_same _ _ _
  rw [h1 i hi, e2, sm_congr (g := fun k => L i k * lxF L b i k) fun k hk => by rw [lx_keep' (show k < n by omega), lx_keep' (show k < i by omega)]]
  have := sb_sm (a := L i) (x := lxF L b i) (s := b i) i
  rw [← this]; grind
def ubD (D : Nat) : Nat → Nat
  | 0 => 2 * D
  | i + 1 => 2 * D + (i + 1) * (D + 1 + ubD D i)
theorem ub_mono {D i j : Nat} (h : i ≤ j) : ubD D i ≤ ubD D j := by
  induction j with
  | zero => rw [Nat.le_zero.1 h]; exact Nat.le_refl _
  | succ j ih =>
    by_cases e : i = j + 1
    · rw [e]; exact Nat.le_refl _
    · have h1 := ih (by omega)
      have h2 : 1 * (D + 1 + ubD D j) ≤ (j + 1) * (D + 1 + ubD D j) := Nat.mul_le_mul_right _ (by omega)
      simp only [ubD]; omega
theorem lx_bz {L : Nat → Nat → Rat} {b : Nat → Rat} {n D : Nat} (hL : ∀ i j, i < n → j < n → Bz (L i j) D) (hb : ∀ i, i < n → Bz (b i) D) : ∀ k, k ≤ n → ∀ i, i < k → Bz (lxF L b k i) (ubD D i) := by
  intro k
  induction k with
  | zero => exact fun _ i hi => absurd hi (Nat.not_lt_zero _)
  | succ k ih =>
    intro hk i hi
    have ih := ih (by omega)
    simp only [lxF]
    by_cases e : i = k
    · rw [e, upd_same]
      cases k with
      | zero => exact (hb 0 (by omega)).mono (by simp only [ubD]; omega)
      | succ k =>
        have := sb_bz (a := L (k + 1)) (x := lxF L b (k + 1)) (lo := 0) (d := k + 1) (bx := ubD D k) (hb (k + 1) (by omega)) (fun j _ h => hL (k + 1) j (by omega) (by omega)) (fun j _ h => (ih j (by omega)).mono (ub_mono (by omega)))
        refine this.mono ?_
        simp only [ubD]
        have : D + ubD D k + 1 = D + 1 + ubD D k := by omega
        rw [this]; omega
    · rw [upd_other _ _ e]; exact ih i (by omega)
theorem ux_bz {U : Nat → Nat → Rat} {b : Nat → Rat} {n D : Nat} (hU : ∀ i j, i < n → j < n → Bz (U i j) D) (hb : ∀ i, i < n → Bz (b i) D) : ∀ t, t ≤ n → ∀ i, n ≤ i + t → i < n → Bz (uxF U b n t i) (ubD D (n - 1 - i)) := by
  intro t
  induction t with
  | zero => exact fun _ i h1 h2 => absurd h2 (by omega)
  | succ t ih =>
    intro ht i h1 h2
    have ih := ih (by omega)
    simp only [uxF]
    by_cases e : i = n - 1 - t
    · subst e
      rw [upd_same, show n - 1 - (n - 1 - t) = t by omega]
      have hd := hU (n - 1 - t) (n - 1 - t) h2 h2
      cases t with
      | zero => exact ((hb _ h2).div hd).mono (by simp only [ubD]; omega)
      | succ t =>
        have := sb_bz (a := U (n - 1 - (t + 1))) (x := uxF U b n (t + 1)) (lo := n - (t + 1)) (d := t + 1) (bx := ubD D t) (hb _ h2) (fun j _ h => hU _ j h2 (by omega)) (fun j h h' => (ih j (by omega) (by omega)).mono (ub_mono (by omega)))
        refine (this.div hd).mono ?_
        simp only [ubD]
        have : D + ubD D t + 1 = D + 1 + ubD D t := by omega
        rw [this]; omega
    · rw [upd_other _ _ e]; exact ih i (by omega) h2
end Go.Proofs.YtjfcphohgicolaaGreat

namespace Go.Proofs.YtjfcphohgicolaaGreat
open Go
set_option linter.unusedVariables false
set_option linter.unusedSimpArgs false
set_option maxRecDepth 10000
theorem SKeys.tkn {b : PV → Bool} {A : Nat → Nat → Rat} {n k : Nat} {K : Prop} (hk : k ≤ n) (hb : ∀ i k : Nat, b (pairP i k) = true) (hK : K) : SKeys b (tkL A n k) K :=
  .mk (fun e he => by obtain ⟨i, j, rfl, _⟩ := tk_mem k hk e he; exact hb _ _) hK
theorem SGet.tk {A : Nat → Nat → Rat} {n i j : Nat} {K : Option PV → Prop} (hji : j < i) (hin : i < n) (hK : K (some (ratP (tkV A i j)))) : SGet (tkL A n n) (pairP i j) K := by
  obtain ⟨a, h1, h2⟩ := tk_get hji hin n (Nat.le_refl _) (show j < n by omega)
  exact .yes a _ h1 (by rw [keq_pair]; exact decide_eq_true ⟨rfl, rfl⟩) h2 hK
theorem SGet.tkno {A : Nat → Nat → Rat} {n i j : Nat} {K : Option PV → Prop} (hij : i ≤ j) (hK : K Option.none) : SGet (tkL A n n) (pairP i j) K :=
  .no (fun e he => by
    obtain ⟨i', j', rfl, _, h3, _⟩ := tk_mem n (Nat.le_refl _) e he
    rw [keq_pair]; exact decide_eq_false fun h => by omega) hK
/-- A matrix that was gone through, lent. -/
abbrev wkP (n : Nat) (A : Nat → Nat → Rat) : PV := .pel true (.agg [.int .i64 (n : Int), .mp true (tabF n (gs A n) (n * n)), .mp true (tkL A n n)])
theorem slower_ok (A : Nat → Nat → Rat) (n i j : Nat) (hi : i < n) (hj : j < n) : CallP Tryz.prog 66 [wkP n A, pairP i j] (.p (ratP (lowM A i j))) [] := by
  have hc := corner_ok i j
  by_cases e : i = j
  · rw [decide_eq_true e] at hc
    have : lowM A i j = 1 := if_pos e
    rw [this]
    refine callG_of_vc (wr := wr0) Γok mixed Tryz.func66 (by kernel_rfl) rfl (by kernel_rfl) (le_of_ble rfl) (by simp) ?_
    refine SCall.pure (hc) ?_
    refine SCond.mk (fun _ => ?_) (fun h => by cases h)
    refine SCall.pure (sone_ok) ?_
    exact SRet.pure (.p _ (pers_rat _ _ _))
  · rw [decide_eq_false e] at hc
    by_cases c : j < i
    · have : lowM A i j = tkV A i j := by unfold lowM; rw [if_neg e, if_pos c]; rfl
      rw [this]
      refine callG_of_vc (wr := wr0) Γok mixed Tryz.func66 (by kernel_rfl) rfl (by kernel_rfl) (le_of_ble rfl) (by simp) ?_
      refine SCall.pure (hc) ?_
      refine SCond.mk (fun h => by cases h) (fun _ => ?_)
      refine SDraw.mkX (by kernel_rfl) ?_
      repeat refine SOp.mk _ _ (And.intro rfl rfl) rfl ?_
      refine SOp.mk _ _ (SKeys.tkn (Nat.le_refl _) (fun _ _ => rfl) <| SGet.tk c hi (And.intro rfl rfl)) rfl ?_
      repeat refine SOp.mk _ _ (And.intro rfl rfl) rfl ?_
      refine SFin.mk (by kernel_rfl) ?_
      exact SRet.pure (.p _ (pers_rat _ _ _))
    · have : lowM A i j = 0 := by unfold lowM; rw [if_neg e, if_neg c]
      rw [this]
      refine callG_of_vc (wr := wr0) Γok mixed Tryz.func66 (by kernel_rfl) rfl (by kernel_rfl) (le_of_ble rfl) (by simp) ?_
      refine SCall.pure (hc) ?_
      refine SCond.mk (fun h => by cases h) (fun _ => ?_)
      refine SDraw.mkX (by kernel_rfl) ?_
      repeat refine SOp.mk _ _ (And.intro rfl rfl) rfl ?_
      refine SOp.mk _ _ (SKeys.tkn (Nat.le_refl _) (fun _ _ => rfl) <| SGet.tkno (by omega) (And.intro rfl rfl)) rfl ?_
      repeat refine SOp.mk _ _ (And.intro rfl rfl) rfl ?_
      refine SFin.mk (by kernel_rfl) ?_
      refine SCall.pure (szero_ok) ?_
      exact SRet.pure (.p _ (pers_rat _ _ _))
theorem supper_ok (A : Nat → Nat → Rat) (n i j : Nat) (hi : i < n) (hj : j < n) : CallP Tryz.prog 67 [wkP n A, pairP i j] (.p (ratP (uppM A i j))) [] := by
  by_cases c : j < i
  · have : uppM A i j = 0 := if_pos c
    rw [this]
    refine callG_of_vc (wr := wr0) Γok mixed Tryz.func67 (by kernel_rfl) rfl (by kernel_rfl) (le_of_ble rfl) (by simp) ?_
    refine SPos.mk 0 rfl (by decide) ?_
    refine SPos.mk 1 rfl (by decide) ?_
    refine SCmp.yes (decide_eq_true (by omega)) ?_
    refine SCall.pure (szero_ok) ?_
    exact SRet.pure (.p _ (pers_rat _ _ _))
  · have : uppM A i j = gs A n i j := by unfold uppM; rw [if_neg c]; exact (gs_row' (by omega)).symm
    rw [this]
    refine callG_of_vc (wr := wr0) Γok mixed Tryz.func67 (by kernel_rfl) rfl (by kernel_rfl) (le_of_ble rfl) (by simp) ?_
    refine SPos.mk 0 rfl (by decide) ?_
    refine SPos.mk 1 rfl (by decide) ?_
    refine SCmp.no (decide_eq_false (by omega)) ?_
    refine SDraw.mkX (by kernel_rfl) ?_
    repeat refine SOp.mk _ _ (And.intro rfl rfl) rfl ?_
    refine SOp.mk _ _ (SKeys.tab (fun _ _ => rfl) <| SGet.tab hi hj (And.intro rfl rfl)) rfl ?_
    repeat refine SOp.mk _ _ (And.intro rfl rfl) rfl ?_
    refine SFin.mk (by kernel_rfl) ?_
    exact SRet.pure (.p _ (pers_rat _ _ _))
theorem smade_ok (f : FuncId) (p : PV) (n : Nat) (F : Nat → Nat → Rat) {b : Nat} (hF : ∀ i j, i < n → j < n → CallP Tryz.prog f [p, pairP i j] (.p (ratP (F i j))) []) (hB : ∀ i j, i < n → j < n → Bz (F i j) b) (hb : b ≤ 1000000) (hn : n ≤ 1000) :
    CallP Tryz.prog 65 [.int .i64 n, .mfn f [p]] (.p (matP false false n n F)) [] := by
  refine callG_of_vc (wr := wr0) Γok mixed Tryz.func65 (by kernel_rfl) rfl (by kernel_rfl) (le_of_ble rfl) (by simp) ?_
  refine SZ.mk (n : Int) rfl ?_
  refine SLt.mk (by simp) ?_
  refine SMake.mk n rfl (by simp; omega) (by omega) ?_
  refine SMk.rows ?_
  refine SZ.mk (n : Int) rfl ?_
  refine SLoop.mkT Nat (fun i => ([(0, .p (.int .i64 n)), (1, .p (.mfn f [p])), (5, .vec 0 1 0 n), (11, .p (.int .i64 n)), (12, .p (.int .i64 i))], [.rows 24 (half 1 n n i), .pool 31 3 (plr i n F)]))
    (fun i => i ≤ n) (fun i => n - i) 0 [0, 1] _ _ (.pool 31 3 (.done _ _)) (Nat.zero_le _) ⟨rfl, by simp, rfl, rfl, rfl, ⟨rfl, rfl, rfl, rfl, rfl, trivial⟩, ⟨congrArg _ half_ren0, rfl, half_in fun i hi => absurd hi (Nat.not_lt_zero _), trivial⟩⟩ ?_
  intro i hi
  have hi : i ≤ n := hi
  by_cases hin : i < n
  · refine SCmp.yes (decide_eq_true (by omega)) ?_
    refine SZ.mk (n : Int) rfl ?_
    refine SLt.mk (by simp) ?_
    refine SMake.rat n rfl (by omega) ?_
    refine SPos.mk i rfl hin ?_
    refine SLt.mk (by simp; omega) ?_
    refine SAs.mk (halq 1 n n i 2) half_set ?_
    refine SPos.mk i rfl hin ?_
    refine SIdxA.mk i _ rfl (halq_get hin) ?_
    refine SZ.mk (n : Int) rfl ?_
    refine SLoop.mk Nat (fun j => ([(0, .p (.int .i64 n)), (1, .p (.mfn f [p])), (5, .vec 0 1 0 n), (6, .p (.int .i64 i)), (11, .p (.int .i64 n)), (12, .p (.int .i64 i)), (24, .p (.int .i64 n)), (25, .p (.int .i64 j))], [.rows 24 (halq 1 n n i 2), .pool 31 3 (plr i n F), .vec 31 3 (fl n fun k => if k < j then ratP (F i k) else rat0)]))
      (fun j => j ≤ n) (fun j => n - j) 0 [0, 1, 2] (Nat.zero_le _) ⟨rfl, by simp, rfl, rfl, rfl, ⟨rfl, rfl, rfl, rfl, rfl, rfl, rfl, rfl, trivial⟩, ⟨congrArg _ (halq_ren 1 2 rfl (by decide) rfl (by decide)), rfl, congrArg _ ((fl_congr fun k hk => if_neg (by omega)).trans (replicate_fl n rat0).symm), halq_in (fun i hi => by simpa [plenAt] using hi) (fun e => by cases e), trivial⟩⟩ ?_
    intro j hj
    have hj : j ≤ n := hj
    by_cases hjn : j < n
    · refine SCmp.yes (decide_eq_true (by omega)) ?_
      have hFij := hF i j hin hjn
      refine SDraw.mkX (by kernel_rfl) ?_
      repeat refine SOp.mk _ _ (And.intro rfl rfl) rfl ?_
      refine SOp.mk _ _ (SPos.mk i rfl hin (And.intro rfl rfl)) rfl ?_
      refine SOp.mk _ _ (SIdxA.mk i _ rfl (halq_get hin) (And.intro rfl rfl)) rfl ?_
      repeat refine SOp.mk _ _ (And.intro rfl rfl) rfl ?_
      refine SOp.mk _ _ (SCall.pure (pvs := [p, pairP i j]) hFij (And.intro rfl rfl)) rfl ?_
      refine SOp.mk _ _ (SCall.pure (szero_ok) (And.intro rfl rfl)) rfl ?_
      refine SOp.mk _ _ (SCall.pure (gcopy_ok (hB i j hin hjn) hb) (And.intro rfl rfl)) rfl ?_
      refine SOp.mk _ _ (SPos.mk j rfl hjn (And.intro rfl rfl)) rfl ?_
      refine SOp.mk _ _ (SLt.mk (by simp; omega) <| SEs.mk _ (row_step hjn) (And.intro rfl rfl)) rfl ?_
      repeat refine SOp.mk _ _ (And.intro rfl rfl) rfl ?_
      refine SFin.mk (by kernel_rfl) ?_
      refine SWrap.i64z ((j + 1 : Nat) : Int) (by omega) (by omega) ?_
      exact ⟨j + 1, [0, 1, 2], hjn, by show n - (j + 1) < n - j; omega, ⟨rfl, by simp, rfl, rfl, rfl, ⟨rfl, rfl, rfl, rfl, rfl, rfl, rfl, rfl, trivial⟩, ⟨congrArg _ (halq_ren 1 2 rfl (by decide) rfl (by decide)), rfl, rfl, halq_in (fun i hi => by simpa [plenAt] using hi) (fun e => by cases e), trivial⟩⟩⟩
    · refine SCmp.no (decide_eq_false (by omega)) ?_
      obtain rfl : j = n := by omega
      refine SWrap.i64z ((i + 1 : Nat) : Int) (by omega) (by omega) ?_
      exact ⟨i + 1, [0, 3001], hin, by show j - (i + 1) < j - i; omega, ⟨rfl, by simp, rfl, rfl, rfl, ⟨rfl, rfl, rfl, rfl, rfl, trivial⟩, ⟨congrArg _ (half_absorb rfl (by decide) (by simp [plenAt])), ⟨_, _, _, _, rfl, rfl, congrArg _ (plr_snoc.trans (congrArg (fun r => plr i j F ++ [some r]) row_full))⟩, half_in fun i hi => by simpa [plenAt] using hi, trivial⟩⟩⟩
  · refine SCmp.no (decide_eq_false (by omega)) ?_
    obtain rfl : i = n := by omega
    exact SRet.pure (frzM (H := [_, _]) (h := 0) (p := 1) (congrArg (Blk.rows _) half_full) rfl fun i hi => hi)
abbrev wrS : FuncId → Bool := fun f => Nat.beq f 64
theorem sfactorZ_ok (m : Nat → Bool) (g : GV) {b c D : Nat} (h : Wf g b c) (hB : GsB (ent g) g.n D) (hD : 4 * D ≤ 1048576) (hz : brkN (ent g) g.n < g.n) :
    CallP Tryz.prog 31 [genP m g] (.tup [.p (.sl false 1 []), .p (.sl false 1 []), .p (.int .i64 ((brkN (ent g) g.n + 1 : Nat) : Int)), .p (.int .i64 8)]) [] := by
  have h6 := h.n6
  have n1 := h.n1
  obtain ⟨b1, b2, b3⟩ := brkN_spec (ent g) g.n
  obtain ⟨K, hK⟩ : ∃ K, K = brkN (ent g) g.n := ⟨_, rfl⟩
  rw [← hK] at b1 b2 b3 hz ⊢
  have b3 := b3 hz
  refine callG_of_vc (wr := wrS) Γok mixed Tryz.func31 (by kernel_rfl) rfl (by kernel_rfl) (le_of_ble rfl) (by simp) ?_
  refine SCall.pure (gexpand_ok m g h) ?_
  refine SNil.mk (fun _ => ?_) (fun h => absurd h (by simp; omega))
  refine SCall.news (sof_ok false false g.n (ent g) (by omega)) (fun B hB => by simp only [wkB, List.mem_cons, List.not_mem_nil, or_false] at hB; rcases hB with rfl | rfl | rfl <;> exact fun e => by cases e) ?_
  refine SLoop.mk Nat (fun k => ([(7, .bptr 0 0), (18, .p (.int .i64 g.n)), (19, .p (.int .i64 k))], wkB g.n (tabF g.n (gs (ent g) k) (g.n * g.n)) (tkL (ent g) g.n k)))
    (fun k => k ≤ K) (fun k => g.n - k) 0 [1, 2, 3] (Nat.zero_le _) ⟨rfl, by simp, rfl, rfl, rfl, ⟨rfl, rfl, rfl, trivial⟩, ⟨rfl, rfl, rfl, trivial⟩⟩ ?_
  intro k hk
  have hk : k ≤ K := hk
  refine SCmp.yes (decide_eq_true (by omega)) ?_
  by_cases e : k < K
  · refine SCall.three 0 1 2 (step_ok (ent g) g.n k (by omega) (by omega) (b2 k e) hB hD)
      (by decide) (by decide) (by decide) (by decide) rfl ⟨rfl, fun _ => rfl⟩ ⟨rfl, fun _ => rfl⟩ ⟨rfl, fun _ => rfl⟩
        (fun B hB => by simp only [List.mem_cons, List.not_mem_nil, or_false] at hB; rcases hB with rfl | rfl | rfl <;> exact ⟨fun e => by (cases e), fun e => by (cases e)⟩)
        (fun B hB k hk => by
          simp only [List.mem_cons, List.not_mem_nil, or_false] at hB
          rcases hB with rfl | rfl | rfl
          · simp only [Blk.men, AV.menL, AV.men, or_false, false_or] at hk
            rcases hk with rfl | rfl <;> decide
          · exact hk.elim
          · exact hk.elim)
        (fun B hB => by simp only [List.mem_cons, List.not_mem_nil, or_false] at hB; rcases hB with rfl | rfl | rfl <;> exact fun e => by (cases e))
        (fun a ha k hk => by
          simp only [List.mem_cons, List.not_mem_nil, or_false] at ha
          rcases ha with rfl | rfl
          · simp only [AV.men] at hk; subst hk; decide
          · simp only [AV.men] at hk) ?_
    refine SCmp.no (rfl) ?_
    refine SWrap.i64z ((k + 1 : Nat) : Int) (by omega) (by omega) ?_
    exact ⟨k + 1, [0, 1, 2], e, by show g.n - (k + 1) < g.n - k; omega, ⟨rfl, by simp, rfl, rfl, rfl, ⟨rfl, rfl, rfl, trivial⟩, ⟨rfl, rfl, rfl, trivial⟩⟩⟩
  · obtain rfl : k = K := by omega
    refine SCall.three 0 1 2 (stepZ_ok (ent g) g.n k (by omega) (by omega) b3)
      (by decide) (by decide) (by decide) (by decide) rfl ⟨rfl, fun _ => rfl⟩ ⟨rfl, fun _ => rfl⟩ ⟨rfl, fun _ => rfl⟩
        (fun B hB => by simp only [List.mem_cons, List.not_mem_nil, or_false] at hB; rcases hB with rfl | rfl | rfl <;> exact ⟨fun e => by (cases e), fun e => by (cases e)⟩)
        (fun B hB k hk => by
          simp only [List.mem_cons, List.not_mem_nil, or_false] at hB
          rcases hB with rfl | rfl | rfl
          · simp only [Blk.men, AV.menL, AV.men, or_false, false_or] at hk
            rcases hk with rfl | rfl <;> decide
          · exact hk.elim
          · exact hk.elim)
        (fun B hB => by simp only [List.mem_cons, List.not_mem_nil, or_false] at hB; rcases hB with rfl | rfl | rfl <;> exact fun e => by (cases e))
        (fun a ha k hk => by
          simp only [List.mem_cons, List.not_mem_nil, or_false] at ha
          rcases ha with rfl | rfl
          · simp only [AV.men] at hk; subst hk; decide
          · simp only [AV.men] at hk) ?_
    refine SCmp.yes (rfl) ?_
    refine SWrap.i64z ((k + 1 : Nat) : Int) (by omega) (by omega) ?_
    exact SRet.pure (.tup rfl fun i c d e1 e2 => by
      match i, e1, e2 with
      | 0, e1, e2 => cases e1; cases e2; exact .emp 1
      | 1, e1, e2 => cases e1; cases e2; exact .emp 1
      | 2, e1, e2 => cases e1; cases e2; exact .p _ (.int _ _)
      | 3, e1, e2 => cases e1; cases e2; exact .p _ (.int _ _))
theorem sfactor_ok (m : Nat → Bool) (g : GV) {b c D : Nat} (h : Wf g b c) (hB : GsB (ent g) g.n D) (hD : 4 * D ≤ 1000000) (hp : ∀ t, t < g.n → piv (ent g) t ≠ 0) :
    CallP Tryz.prog 31 [genP m g] (.tup [.p (matP false false g.n g.n (lowM (ent g))), .p (matP false false g.n g.n (uppM (ent g))), .p (.int .i64 0), .p (.int .i64 0)]) [] := by
  have h6 := h.n6
  have n1 := h.n1
  have zL : ∀ i j, i < g.n → j < g.n → Bz (lowM (ent g) i j) (D + D + 1) := fun i j hi hj => by
    unfold lowM
    split
    · exact bz_one.mono (by omega)
    · split
      · exact ((hB j (by omega) i j hi hj).div (hB j (by omega) j j hj hj)).mono (by omega)
      · exact bz_zero.mono (by omega)
  have zU : ∀ i j, i < g.n → j < g.n → Bz (uppM (ent g) i j) (D + D + 1) := fun i j hi hj => by
    unfold uppM
    split
    · exact bz_zero.mono (by omega)
    · exact (hB i (by omega) i j hi hj).mono (by omega)
  refine callG_of_vc (wr := wrS) Γok mixed Tryz.func31 (by kernel_rfl) rfl (by kernel_rfl) (le_of_ble rfl) (by simp) ?_
  refine SCall.pure (gexpand_ok m g h) ?_
  refine SNil.mk (fun _ => ?_) (fun h => absurd h (by simp; omega))
  refine SCall.news (sof_ok false false g.n (ent g) (by omega)) (fun B hB => by simp only [wkB, List.mem_cons, List.not_mem_nil, or_false] at hB; rcases hB with rfl | rfl | rfl <;> exact fun e => by cases e) ?_
  refine SLoop.mk Nat (fun k => ([(7, .bptr 0 0), (18, .p (.int .i64 g.n)), (19, .p (.int .i64 k))], wkB g.n (tabF g.n (gs (ent g) k) (g.n * g.n)) (tkL (ent g) g.n k)))
    (fun k => k ≤ g.n) (fun k => g.n - k) 0 [1, 2, 3] (Nat.zero_le _) ⟨rfl, by simp, rfl, rfl, rfl, ⟨rfl, rfl, rfl, trivial⟩, ⟨rfl, rfl, rfl, trivial⟩⟩ ?_
  intro k hk
  have hk : k ≤ g.n := hk
  by_cases hkn : k < g.n
  · refine SCmp.yes (decide_eq_true (by omega)) ?_
    refine SCall.three 0 1 2 (step_ok (ent g) g.n k hkn (by omega) (hp k hkn) hB (by omega))
      (by decide) (by decide) (by decide) (by decide) rfl ⟨rfl, fun _ => rfl⟩ ⟨rfl, fun _ => rfl⟩ ⟨rfl, fun _ => rfl⟩
        (fun B hB => by simp only [List.mem_cons, List.not_mem_nil, or_false] at hB; rcases hB with rfl | rfl | rfl <;> exact ⟨fun e => by (cases e), fun e => by (cases e)⟩)
        (fun B hB k hk => by
          simp only [List.mem_cons, List.not_mem_nil, or_false] at hB
          rcases hB with rfl | rfl | rfl
          · simp only [Blk.men, AV.menL, AV.men, or_false, false_or] at hk
            rcases hk with rfl | rfl <;> decide
          · exact hk.elim
          · exact hk.elim)
        (fun B hB => by simp only [List.mem_cons, List.not_mem_nil, or_false] at hB; rcases hB with rfl | rfl | rfl <;> exact fun e => by (cases e))
        (fun a ha k hk => by
          simp only [List.mem_cons, List.not_mem_nil, or_false] at ha
          rcases ha with rfl | rfl
          · simp only [AV.men] at hk; subst hk; decide
          · simp only [AV.men] at hk) ?_
    refine SCmp.no (rfl) ?_
    refine SWrap.i64z ((k + 1 : Nat) : Int) (by omega) (by omega) ?_
    exact ⟨k + 1, [0, 1, 2], hkn, by show g.n - (k + 1) < g.n - k; omega, ⟨rfl, by simp, rfl, rfl, rfl, ⟨rfl, rfl, rfl, trivial⟩, ⟨rfl, rfl, rfl, trivial⟩⟩⟩
  · refine SCmp.no (decide_eq_false (by omega)) ?_
    obtain rfl : k = g.n := by omega
    have c1 := smade_ok 66 (wkP g.n (ent g)) g.n (lowM (ent g)) (fun i j hi hj => slower_ok (ent g) g.n i j hi hj) zL (by omega) (by omega)
    have c2 := smade_ok 67 (wkP g.n (ent g)) g.n (uppM (ent g)) (fun i j hi hj => supper_ok (ent g) g.n i j hi hj) zU (by omega) (by omega)
    refine SDraw.mkX (by kernel_rfl) ?_
    repeat refine SOp.mk _ _ (And.intro rfl rfl) rfl ?_
    refine SOp.mk _ _ (SCall.pure (c1) (And.intro rfl rfl)) rfl ?_
    repeat refine SOp.mk _ _ (And.intro rfl rfl) rfl ?_
    refine SOp.mk _ _ (SCall.pure (c2) (And.intro rfl rfl)) rfl ?_
    repeat refine SOp.mk _ _ (And.intro rfl rfl) rfl ?_
    refine SFin.mk (by kernel_rfl) ?_
    exact SRet.pure (.tup rfl fun i c d e1 e2 => by
      match i, e1, e2 with
      | 0, e1, e2 => cases e1; cases e2; exact .p _ pers_matP
      | 1, e1, e2 => cases e1; cases e2; exact .p _ pers_matP
      | 2, e1, e2 => cases e1; cases e2; exact .p _ (.int _ _)
      | 3, e1, e2 => cases e1; cases e2; exact .p _ (.int _ _))
end Go.Proofs.YtjfcphohgicolaaGreat

namespace Go.Proofs.YtjfcphohgicolaaGreat
open Go
set_option linter.unusedVariables false
set_option linter.unusedSimpArgs false
theorem wf_mkG {k n r : Nat} {ns : List Int} (k1 : 1 ≤ k) (k7 : k ≤ 7) (n1 : 1 ≤ n) (n6 : n ≤ 6) (r1 : k = 6 ∨ k = 7 → 1 ≤ r) (r2 : r ≤ 2) (r0 : k ≤ 5 → r = 0) : Wf (mkG k n r (rowG ns)) 5 13 := by
  have hf : ∀ i, -20 ≤ rowG ns i ∧ rowG ns i ≤ 20 := fun i => smallQ_range _
  have hc := cnt_le (k := k) (r := r) n1 (show n ≤ 8 by omega) (show r ≤ 3 by omega)
  exact {
    k1 := k1, k7 := k7, n1 := n1, n6 := n6, r2 := r2, r1 := r1, r0 := r0
    bA := fun i _ => rowG_bz ns i
    bB := fun i hi => bfix_bz hf (by have hi : i < cntB k n := hi; omega) (hf _) (rowG_bz ns _) _
    bG := fun i _ => rowG_bz ns _
    bH := fun i _ => rowG_bz ns _
    ne := fun i j hi hj => bfix_ne hf (hf _) (show i < cntA k n from hi)
    bc := by omega
    c4 := by omega }
theorem gmR_ok {k : Nat} (n : Int) : (k = 6 ∨ k = 7 → 1 ≤ gmR k n) ∧ gmR k n ≤ 2 ∧ (k ≤ 5 → gmR k n = 0) := by
  unfold gmR
  refine ⟨fun h => by rw [if_pos h]; omega, by split <;> omega, fun h => if_neg (by omega)⟩
theorem gmN_ok (n most : Int) (h1 : 1 ≤ most) : 1 ≤ gmN n most ∧ (gmN n most : Int) ≤ most := by
  have := Int.emod_nonneg n (show most ≠ 0 by omega)
  have := Int.emod_lt_of_pos n (show (0 : Int) < most by omega)
  unfold gmN
  omega
theorem gmK_ok (kind : Int) : 1 ≤ gmK kind ∧ gmK kind ≤ 7 := by unfold gmK; omega
theorem wf_make (kind n most : Int) (ns : List Int) (h1 : 1 ≤ most) (h6 : most ≤ 6) : Wf (mkG (gmK kind) (gmN n most) (gmR (gmK kind) n) (rowG ns)) 5 13 := by
  obtain ⟨r1, r2, r0⟩ := gmR_ok (k := gmK kind) n
  have hn := gmN_ok n most h1
  exact wf_mkG (gmK_ok kind).1 (gmK_ok kind).2 hn.1 (by omega) r1 r2 r0
end Go.Proofs.YtjfcphohgicolaaGreat

namespace Go.Proofs.YtjfcphohgicolaaGreat
open Go
set_option linter.unusedVariables false
set_option linter.unusedSimpArgs false
set_option maxRecDepth 10000
theorem within10_ok (a n : Int) (hn : 0 < n) (hn' : n < 4611686018427387904) : CallP Tryz.prog 91 [.int .i64 a, .int .i64 n] (.p (.int .i64 (a % n))) [] := by
  refine callG_of_vc (wr := wr0) Γok mixed Tryz.func91 (by kernel_rfl) rfl (by kernel_rfl) (le_of_ble rfl) (by simp) ?_
  have hw := within_aux (a := a) hn
  have hb := tmod_bd a hn
  obtain ⟨r, hr⟩ : ∃ r, r = a.tmod n := ⟨_, rfl⟩
  rw [← hr] at hw hb
  refine SNe.mk (by omega) ?_
  refine SZ.mk r hr.symm ?_
  by_cases h : r < 0
  · refine SCmp.yes (decide_eq_true (by omega)) ?_
    refine SWrap.i64z (r + n) rfl (by omega) ?_
    rw [if_pos h] at hw
    rw [← hw]
    exact SRet.pure (.p _ (.int _ _))
  · refine SCmp.no (decide_eq_false (by omega)) ?_
    rw [if_neg h] at hw
    rw [← hw]
    exact SRet.pure (.p _ (.int _ _))
theorem within11_ok (a n : Int) (hn : 0 < n) (hn' : n < 4611686018427387904) : CallP Tryz.prog 60 [.int .i64 a, .int .i64 n] (.p (.int .i64 (a % n))) [] := by
  refine callG_of_vc (wr := wr0) Γok mixed Tryz.func60 (by kernel_rfl) rfl (by kernel_rfl) (le_of_ble rfl) (by simp) ?_
  have hw := within_aux (a := a) hn
  have hb := tmod_bd a hn
  obtain ⟨r, hr⟩ : ∃ r, r = a.tmod n := ⟨_, rfl⟩
  rw [← hr] at hw hb
  refine SNe.mk (by omega) ?_
  refine SZ.mk r hr.symm ?_
  by_cases h : r < 0
  · refine SCmp.yes (decide_eq_true (by omega)) ?_
    refine SWrap.i64z (r + n) rfl (by omega) ?_
    rw [if_pos h] at hw
    rw [← hw]
    exact SRet.pure (.p _ (.int _ _))
  · refine SCmp.no (decide_eq_false (by omega)) ?_
    rw [if_neg h] at hw
    rw [← hw]
    exact SRet.pure (.p _ (.int _ _))
/-- The raw number that a diagonal's small number is made of. -/
def k10 (ns : List Int) (i : Nat) : Int := if i < ns.length then (ns.getD i 0).tdiv 2 else (i : Int)
def a10 (ns : List Int) (i : Nat) : Rat := ((k10 ns i % 3 - 1 : Int) : Rat)
theorem a10_bz (ns : List Int) (i : Nat) : Bz (a10 ns i) 5 := by
  refine int_bz ?_ (by decide)
  have h1 := Int.emod_nonneg (k10 ns i) (show (3 : Int) ≠ 0 by decide)
  have h2 := Int.emod_lt_of_pos (k10 ns i) (show (0 : Int) < 3 by decide)
  exact bitLen_le (by omega)
def g10 (n most : Int) (ns : List Int) : GV :=
  if 0 < ns.length ∧ ns.getD 0 0 % 2 = 0 then { mkG 1 (gmN n most) 0 (rowG ns) with A := a10 ns } else mkG 1 (gmN n most) 0 (rowG ns)
theorem wf_g10 (n most : Int) (ns : List Int) (h1 : 1 ≤ most) (h6 : most ≤ 6) : Wf (g10 n most ns) 5 13 := by
  have hn := gmN_ok n most h1
  have h : Wf (mkG 1 (gmN n most) 0 (rowG ns)) 5 13 := wf_mkG (by decide) (by decide) hn.1 (by omega) (fun h => by omega) (by decide) (fun _ => rfl)
  unfold g10
  split
  · exact { h with
      bA := fun i _ => a10_bz ns i
      ne := fun i j _ hj => absurd hj (Nat.not_lt_zero _) }
  · exact h
theorem g10_n {n most : Int} {ns : List Int} : (g10 n most ns).n = gmN n most := by unfold g10; split <;> rfl
theorem lmake10_ok (m : Bool) (n most : Int) (ns : List Int) (hn : I64 n) (hns : I64s ns) (hm1 : 1 ≤ most) (hm8 : most ≤ 8) :
    CallP Tryz.prog 61 [.int .i64 n, .sl m 1 (intsP ns), .int .i64 most] (.p (genP noF (g10 n most ns))) [] := by
  have hm := lmake5_ok m 0 n most ns (by unfold I64; omega) hn hns hm1 hm8
  have e1 : gmK 0 = 1 := by decide
  have e2 : gmR 1 n = 0 := if_neg (by decide)
  rw [e1, e2] at hm
  have hN := gmN_ok n most hm1
  unfold g10
  generalize gmN n most = N at hm hN
  refine callG_of_vc (wr := wr0) Γok mixed Tryz.func61 (by kernel_rfl) rfl (by kernel_rfl) (le_of_ble rfl) (by simp) ?_
  refine SCall.pure (hm) ?_
  refine SZ.mk (ns.length : Int) (by simp) ?_
  by_cases h0 : 0 < ns.length
  · refine SCmp.yes (decide_eq_true (by omega)) ?_
    refine SIdx.ib 0 rfl h0 ?_
    refine SCall.pure (within10_ok (ns.getD 0 0) 2 (by omega) (by omega)) ?_
    by_cases h1 : ns.getD 0 0 % 2 = 0
    · rw [if_pos ⟨h0, h1⟩]
      refine SCmp.yes (eqT h1) ?_
      refine SEmp.e ?_
      refine SLoop.mk Nat (fun i => match i with
          | 0 => ([(0, .p (.int .i64 n)), (1, .p (.sl m 1 (intsP ns))), (6, .bptr 0 0), (7, .bptr 1 0), (8, .p (.int .i64 0))], [.box 26 zgen, .box 26 [.p (.int .i64 1), .p (.int .i64 N), .p (.int .i64 0), .emp, .p (ratsM false []), .p (ratsM false []), .p (ratsM false [])]])
          | j + 1 => ([(0, .p (.int .i64 n)), (1, .p (.sl m 1 (intsP ns))), (6, .bptr 0 0), (7, .bptr 1 0), (8, .p (.int .i64 ((j + 1 : Nat) : Int)))], [.box 26 zgen, .box 26 [.p (.int .i64 1), .p (.int .i64 N), .p (.int .i64 0), .vec 2 3 0 (j + 1), .p (ratsM false []), .p (ratsM false []), .p (ratsM false [])], .vec 31 3 (rats (lst (j + 1) (a10 ns)))]))
        (fun i => i ≤ 2 * N - 1) (fun i => 2 * N - i) 0 [0, 1] (Nat.zero_le _) ⟨rfl, by simp, rfl, rfl, rfl, ⟨rfl, rfl, rfl, rfl, rfl, trivial⟩, ⟨rfl, rfl, trivial⟩⟩ ?_
      intro i hi
      match i, hi with
      | 0, hi =>
        have hi : 0 ≤ 2 * N - 1 := hi
        refine SWrap.i64z ((2 * N : Nat) : Int) (by omega) (by omega) ?_
        refine SWrap.i64z ((2 * N - 1 : Nat) : Int) (by omega) (by omega) ?_
        refine SCmp.yes (decide_eq_true (by omega)) ?_
        have b1 := Int.emod_nonneg (k10 ns (0)) (show (3 : Int) ≠ 0 by decide)
        have b2 := Int.emod_lt_of_pos (k10 ns (0)) (show (0 : Int) < 3 by decide)
        refine SZ.mk (ns.length : Int) (by simp) ?_
        by_cases hs : 0 < ns.length
        · refine SCmp.yes (decide_eq_true (by omega)) ?_
          have ek : k10 ns (0) = (ns.getD (0) 0).tdiv 2 := if_pos hs
          have hq := hns (0)
          have hq2 : -9223372036854775808 ≤ (ns.getD (0) 0).tdiv 2 ∧ (ns.getD (0) 0).tdiv 2 < 9223372036854775808 := by
            unfold I64 at hq
            rw [Int.tdiv_eq_ediv, show Int.sign 2 = 1 from rfl]; split <;> omega
          refine SIdx.ib (0) rfl hs ?_
          refine SNe.mk (by omega) ?_
          refine SWrap.i64z (k10 ns (0)) ek.symm (by omega) ?_
          refine SDraw.mkX (by kernel_rfl) ?_
          repeat refine SOp.mk _ _ (And.intro rfl rfl) rfl ?_
          refine SOp.mk _ _ (SCall.pure (within10_ok (k10 ns (0)) 3 (by omega) (by omega)) (And.intro rfl rfl)) rfl ?_
          refine SOp.mk _ _ (SWrap.i64z (k10 ns (0) % 3 - 1) rfl (by omega) (And.intro rfl rfl)) rfl ?_
          refine SOp.mk _ _ (SCall.pure (rint_ok (k10 ns (0) % 3 - 1) (by omega)) (And.intro rfl rfl)) rfl ?_
          repeat refine SOp.mk _ _ (And.intro rfl rfl) rfl ?_
          refine SOp.mk _ _ (SView.all rfl <| SRoom.mk (by simp) (by simp) (And.intro rfl rfl)) rfl ?_
          repeat refine SOp.mk _ _ (And.intro rfl rfl) rfl ?_
          refine SFin.mk (by kernel_rfl) ?_
          refine SWrap.i64z (((0) + 1 : Nat) : Int) (by omega) (by omega) ?_
          exact ⟨(0) + 1, [0, 1, 3], by omega, by show 2 * N - ((0) + 1) < 2 * N - (0); omega, ⟨rfl, by simp, rfl, rfl, rfl, ⟨rfl, rfl, rfl, rfl, rfl, trivial⟩, ⟨rfl, rfl, rfl, trivial⟩⟩⟩
        · refine SCmp.no (decide_eq_false (by omega)) ?_
          have ek : k10 ns (0) = ((0 : Nat) : Int) := if_neg hs
          have hc : CallP Tryz.prog 91 [.int .i64 0, .int .i64 3] (.p (.int .i64 (k10 ns (0) % 3))) [] := by
            rw [ek]; exact within10_ok _ 3 (by omega) (by omega)
          refine SDraw.mkX (by kernel_rfl) ?_
          repeat refine SOp.mk _ _ (And.intro rfl rfl) rfl ?_
          refine SOp.mk _ _ (SCall.pure (hc) (And.intro rfl rfl)) rfl ?_
          refine SOp.mk _ _ (SWrap.i64z (k10 ns (0) % 3 - 1) rfl (by omega) (And.intro rfl rfl)) rfl ?_
          refine SOp.mk _ _ (SCall.pure (rint_ok (k10 ns (0) % 3 - 1) (by omega)) (And.intro rfl rfl)) rfl ?_
          repeat refine SOp.mk _ _ (And.intro rfl rfl) rfl ?_
          refine SOp.mk _ _ (SView.all rfl <| SRoom.mk (by simp) (by simp) (And.intro rfl rfl)) rfl ?_
          repeat refine SOp.mk _ _ (And.intro rfl rfl) rfl ?_
          refine SFin.mk (by kernel_rfl) ?_
          refine SWrap.i64z (((0) + 1 : Nat) : Int) (by omega) (by omega) ?_
          exact ⟨(0) + 1, [0, 1, 3], by omega, by show 2 * N - ((0) + 1) < 2 * N - (0); omega, ⟨rfl, by simp, rfl, rfl, rfl, ⟨rfl, rfl, rfl, rfl, rfl, trivial⟩, ⟨rfl, rfl, rfl, trivial⟩⟩⟩
      | j + 1, hi =>
        have hi : j + 1 ≤ 2 * N - 1 := hi
        refine SWrap.i64z ((2 * N : Nat) : Int) (by omega) (by omega) ?_
        refine SWrap.i64z ((2 * N - 1 : Nat) : Int) (by omega) (by omega) ?_
        by_cases hin : j + 1 < 2 * N - 1
        · refine SCmp.yes (decide_eq_true (by omega)) ?_
          have b1 := Int.emod_nonneg (k10 ns (j + 1)) (show (3 : Int) ≠ 0 by decide)
          have b2 := Int.emod_lt_of_pos (k10 ns (j + 1)) (show (0 : Int) < 3 by decide)
          refine SZ.mk (ns.length : Int) (by simp) ?_
          by_cases hs : j + 1 < ns.length
          · refine SCmp.yes (decide_eq_true (by omega)) ?_
            have ek : k10 ns (j + 1) = (ns.getD (j + 1) 0).tdiv 2 := if_pos hs
            have hq := hns (j + 1)
            have hq2 : -9223372036854775808 ≤ (ns.getD (j + 1) 0).tdiv 2 ∧ (ns.getD (j + 1) 0).tdiv 2 < 9223372036854775808 := by
              unfold I64 at hq
              rw [Int.tdiv_eq_ediv, show Int.sign 2 = 1 from rfl]; split <;> omega
            refine SIdx.ib (j + 1) rfl hs ?_
            refine SNe.mk (by omega) ?_
            refine SWrap.i64z (k10 ns (j + 1)) ek.symm (by omega) ?_
            refine SDraw.mkX (by kernel_rfl) ?_
            repeat refine SOp.mk _ _ (And.intro rfl rfl) rfl ?_
            refine SOp.mk _ _ (SCall.pure (within10_ok (k10 ns (j + 1)) 3 (by omega) (by omega)) (And.intro rfl rfl)) rfl ?_
            refine SOp.mk _ _ (SWrap.i64z (k10 ns (j + 1) % 3 - 1) rfl (by omega) (And.intro rfl rfl)) rfl ?_
            refine SOp.mk _ _ (SCall.pure (rint_ok (k10 ns (j + 1) % 3 - 1) (by omega)) (And.intro rfl rfl)) rfl ?_
            repeat refine SOp.mk _ _ (And.intro rfl rfl) rfl ?_
            refine SOp.mk _ _ (SEqN.mk (by simp [lst]) <| SView.all rfl <| SRoom.mk (by simp [lst]; omega) (by simp [lst]; omega) <| SEs.mk _ (app_lst (j + 1) (a10 ns) _ rfl) <| SZN.mk (j + 1 + 1) (by simp [lst]) (And.intro rfl rfl)) rfl ?_
            repeat refine SOp.mk _ _ (And.intro rfl rfl) rfl ?_
            refine SFin.mk (by kernel_rfl) ?_
            refine SWrap.i64z (((j + 1) + 1 : Nat) : Int) (by omega) (by omega) ?_
            exact ⟨(j + 1) + 1, [0, 1, 4], by omega, by show 2 * N - ((j + 1) + 1) < 2 * N - (j + 1); omega, ⟨rfl, by simp, rfl, rfl, rfl, ⟨rfl, rfl, rfl, rfl, rfl, trivial⟩, ⟨rfl, rfl, rfl, trivial⟩⟩⟩
          · refine SCmp.no (decide_eq_false (by omega)) ?_
            have ek : k10 ns (j + 1) = ((j + 1 : Nat) : Int) := if_neg hs
            have hc : CallP Tryz.prog 91 [.int .i64 ((j + 1 : Nat) : Int), .int .i64 3] (.p (.int .i64 (k10 ns (j + 1) % 3))) [] := by
              rw [ek]; exact within10_ok _ 3 (by omega) (by omega)
            refine SDraw.mkX (by kernel_rfl) ?_
            repeat refine SOp.mk _ _ (And.intro rfl rfl) rfl ?_
            refine SOp.mk _ _ (SCall.pure (hc) (And.intro rfl rfl)) rfl ?_
            refine SOp.mk _ _ (SWrap.i64z (k10 ns (j + 1) % 3 - 1) rfl (by omega) (And.intro rfl rfl)) rfl ?_
            refine SOp.mk _ _ (SCall.pure (rint_ok (k10 ns (j + 1) % 3 - 1) (by omega)) (And.intro rfl rfl)) rfl ?_
            repeat refine SOp.mk _ _ (And.intro rfl rfl) rfl ?_
            refine SOp.mk _ _ (SEqN.mk (by simp [lst]) <| SView.all rfl <| SRoom.mk (by simp [lst]; omega) (by simp [lst]; omega) <| SEs.mk _ (app_lst (j + 1) (a10 ns) _ rfl) <| SZN.mk (j + 1 + 1) (by simp [lst]) (And.intro rfl rfl)) rfl ?_
            repeat refine SOp.mk _ _ (And.intro rfl rfl) rfl ?_
            refine SFin.mk (by kernel_rfl) ?_
            refine SWrap.i64z (((j + 1) + 1 : Nat) : Int) (by omega) (by omega) ?_
            exact ⟨(j + 1) + 1, [0, 1, 4], by omega, by show 2 * N - ((j + 1) + 1) < 2 * N - (j + 1); omega, ⟨rfl, by simp, rfl, rfl, rfl, ⟨rfl, rfl, rfl, rfl, rfl, trivial⟩, ⟨rfl, rfl, rfl, trivial⟩⟩⟩
        · refine SCmp.no (decide_eq_false (by omega)) ?_
          have hl : cntA 1 N = 2 * N - 1 := if_pos (.inl rfl)
          refine SRet.pure (.aggp (ps := genC noF { mkG 1 N 0 (rowG ns) with A := a10 ns }) (fun d hd => by simp at hd; rcases hd with rfl | rfl | rfl | rfl | rfl | rfl | rfl <;> rfl) rfl fun i c d e1 e2 => ?_)
          match i, e1, e2 with
          | 0, e1, e2 => cases e1; cases e2; exact .p _ (.int _ _)
          | 1, e1, e2 => cases e1; cases e2; exact .p _ (.int _ _)
          | 2, e1, e2 => cases e1; cases e2; exact .p _ (.int _ _)
          | 3, e1, e2 => cases e1; cases e2; exact frzS (N := j + 1) (F := a10 ns) rfl (by omega) (by show j + 1 = cntA 1 N; omega) fun t _ => by rw [Nat.zero_add]
          | 4, e1, e2 => cases e1; cases e2; exact .p _ (.sl _ _ (pers_rats _))
          | 5, e1, e2 => cases e1; cases e2; exact .p _ (.sl _ _ (pers_rats _))
          | 6, e1, e2 => cases e1; cases e2; exact .p _ (.sl _ _ (pers_rats _))
    · rw [if_neg fun h => h1 h.2]
      refine SCmp.no (eqF h1) ?_
      exact SRet.pure (.p _ (pers_gen _))
  · rw [if_neg fun h => h0 h.1]
    refine SCmp.no (decide_eq_false (by omega)) ?_
    exact SRet.pure (.p _ (pers_gen _))
end Go.Proofs.YtjfcphohgicolaaGreat

namespace Go.Proofs.YtjfcphohgicolaaGreat
open Go
set_option linter.unusedVariables false
set_option linter.unusedSimpArgs false
set_option maxRecDepth 10000
theorem rall_ok (m m' q q' : Bool) (n w : Nat) (A : Nat → Nat → Rat) {a : Nat} (hA : ∀ i k, i < n → k < w → Bz (A i k) a) (ha : a + a ≤ 1048576) (hn : n ≤ 1000) (hw : w ≤ 1000) :
    CallP Tryz.prog 37 [matP m m' n w A, matP q q' n w A] (.p (.bool true)) [] := by
  refine callG_of_vc (wr := wr0) Γok mixed Tryz.func37 (by kernel_rfl) rfl (by kernel_rfl) (le_of_ble rfl) (by simp) ?_
  refine SZ.mk (n : Int) (by simp) ?_
  refine SZ.mk (n : Int) (by simp) ?_
  refine SCmp.no (neF rfl) ?_
  refine SLoop.mk Nat (fun i => ([(0, .p (matP m m' n w A)), (1, .p (matP q q' n w A)), (5, .p (.int .i64 i))], []))
    (fun i => i ≤ n) (fun i => n - i) 0 [] (Nat.zero_le _) ⟨rfl, .nil, rfl, rfl, rfl, ⟨rfl, rfl, rfl, trivial⟩, trivial⟩ ?_
  intro i hi
  have hi : i ≤ n := hi
  refine SZ.mk (n : Int) (by simp) ?_
  by_cases hin : i < n
  · refine SCmp.yes (decide_eq_true (by omega)) ?_
    have hl : Bl (lst w (A i)) a := Bl.lst fun k hk => hA i k hin hk
    have hR := rrows_ok m' q' (lst w (A i)) (lst w (A i)) hl hl ha (by rw [lst_length]; omega)
    rw [decide_eq_true rfl] at hR
    refine SDraw.mk (by kernel_rfl) ?_
    repeat refine SOp.mk _ _ (And.intro rfl rfl) rfl ?_
    refine SOp.mk _ _ (SIdx.mf i rfl hin (And.intro rfl rfl)) rfl ?_
    repeat refine SOp.mk _ _ (And.intro rfl rfl) rfl ?_
    refine SOp.mk _ _ (SIdx.mf i rfl hin (And.intro rfl rfl)) rfl ?_
    repeat refine SOp.mk _ _ (And.intro rfl rfl) rfl ?_
    refine SOp.mk _ _ (SCall.pure (hR) (And.intro rfl rfl)) rfl ?_
    refine SOp.mk _ _ (SCmp.no rfl (And.intro rfl rfl)) rfl ?_
    refine SWrap.i64z ((i + 1 : Nat) : Int) (by omega) (by omega) ?_
    exact ⟨i + 1, [], hin, by show n - (i + 1) < n - i; omega, ⟨rfl, .nil, rfl, rfl, rfl, ⟨rfl, rfl, rfl, trivial⟩, trivial⟩⟩
  · refine SCmp.no (decide_eq_false (by omega)) ?_
    exact SRet.pure (.tf _)
/-- What is told of a tree is told of another one. -/
def PRle (p' p : PV) : Prop := ∀ w FB v, PR w FB p' v → PR w FB p v
theorem PRle.refl (p : PV) : PRle p p := fun _ _ _ h => h
theorem PRle.nil (m : Bool) (W : Nat) : PRle (.raw (.slice none 0 0)) (.sl m W []) := fun w FB v h => by cases h; exact .nil _ _ _
theorem PRle.agg {cs' cs : List PV} (hl : cs'.length = cs.length) (ho : ∀ c ∈ cs, c.one = true) (h : ∀ (i : Nat) c' c, cs'[i]? = some c' → cs[i]? = some c → PRle c' c) : PRle (.agg cs') (.agg cs) := fun w FB v hv => by
  cases hv with
  | agg _ vs hone hl' h' =>
    refine .agg cs vs ho (by rw [hl', hl]) fun i c v e1 e2 => ?_
    have hi : i < cs'.length := by rw [hl]; exact (List.getElem?_eq_some_iff.1 e1).1
    exact h i cs'[i] c (List.getElem?_eq_getElem hi) e1 _ _ _ (h' i _ v (List.getElem?_eq_getElem hi) e2)
theorem CallG.weak {P : Program} {f : FuncId} {pvs pvs' : List PV} {r : AV} {nb : List Blk} (hc : CallP P f pvs r nb) (hl : pvs'.length = pvs.length) (h : ∀ (i : Nat) p' p, pvs'[i]? = some p' → pvs[i]? = some p → PRle p' p) : CallP P f pvs' r nb :=
  ⟨hc.fn, fun w F Bor β vs ha => hc.run w F Bor β vs { ha with
    len := by rw [ha.len, List.length_map, List.length_map, hl]
    rel := fun i a v e1 e2 => by
      rw [List.getElem?_map] at e1
      cases e : pvs[i]? with
      | none => rw [e] at e1; cases e1
      | some p =>
        rw [e] at e1; cases e1
        have hi : i < pvs'.length := by rw [hl]; exact (List.getElem?_eq_some_iff.1 e).1
        have e' : pvs'[i]? = some pvs'[i] := List.getElem?_eq_getElem hi
        have := ha.rel i (.p pvs'[i]) v (by rw [List.getElem?_map, e']; rfl) e2
        exact .p (h i _ p e' e _ _ _ this.pOf)
    ma := fun a ha k hk => by obtain ⟨v, _, rfl⟩ := List.mem_map.1 ha; simp only [AV.men] at hk }⟩
end Go.Proofs.YtjfcphohgicolaaGreat

namespace Go.Proofs.YtjfcphohgicolaaGreat
/-- The product of all differences of two of either row. -/
def cUp (a b : Nat → Rat) (n : Nat) : Rat := pm n fun i => pm i fun k => (a i - a k) * (b k - b i)
/-- The product of all differences of one of each. -/
def cDn (a b : Nat → Rat) (m n : Nat) : Rat := pm m fun i => pm n fun k => a i - b k
def cDet (a b : Nat → Rat) (n : Nat) : Rat := cUp a b n / cDn a b n n
theorem cDn_ne {a b : Nat → Rat} {m n : Nat} (h : ∀ i k, i < m → k < n → a i ≠ b k) : cDn a b m n ≠ 0 := pm_ne fun i hi => pm_ne fun k hk => rsub_ne (h i k hi hk)
theorem pm_mul {f g : Nat → Rat} : ∀ n, pm n (fun i => f i * g i) = pm n f * pm n g := by
  intro n
  induction n with
  | zero => simp only [pm]; grind
  | succ n ih => simp only [pm]; rw [ih]; grind
theorem cDn_succ {a b : Nat → Rat} {m n : Nat} : cDn a b m (n + 1) = cDn a b m n * pm m fun i => a i - b n := by
  unfold cDn; simp only [pm]; exact pm_mul m
theorem cUp_zero {a b : Nat → Rat} {n : Nat} : cUp a b n = 0 ↔ ¬ (Inj a n ∧ Inj b n) := by
  constructor
  · intro h ⟨ha, hb⟩
    refine pm_ne (fun i hi => pm_ne fun k hk => ?_) h
    intro e
    rcases Rat.mul_eq_zero.1 e with e | e
    · have := ha i k hi (by omega) (by grind); omega
    · have := hb k i (by omega) hi (by grind); omega
  · intro h
    have tw : ∀ (i k : Nat), i < n → k < i → (a i = a k ∨ b i = b k) → cUp a b n = 0 := fun i k hi hk e =>
      pm_zero hi (pm_zero hk (by rcases e with e | e <;> (rw [e]; grind)))
    apply Classical.byContradiction
    intro hc
    refine h ⟨fun i k hi hk e => ?_, fun i k hi hk e => ?_⟩
    · rcases Nat.lt_trichotomy i k with c | c | c
      · exact absurd (tw k i hk c (.inl e.symm)) hc
      · exact c
      · exact absurd (tw i k hi c (.inl e)) hc
    · rcases Nat.lt_trichotomy i k with c | c | c
      · exact absurd (tw k i hk c (.inr e.symm)) hc
      · exact c
      · exact absurd (tw i k hi c (.inr e)) hc
theorem cDet_zero {a b : Nat → Rat} {n : Nat} (h : ∀ i k, i < n → k < n → a i ≠ b k) : cDet a b n = 0 ↔ ¬ (Inj a n ∧ Inj b n) := by
  rw [← cUp_zero]
  have := cDn_ne h
  unfold cDet
  constructor
  · intro e; generalize cUp a b n = u at e; generalize cDn a b n n = d at e this; grind
  · intro e; rw [e]; grind
abbrev cauM (a b : Nat → Rat) : Nat → Nat → Rat := fun i k => 1 / (a i - b k)
def cU (a b : Nat → Rat) (k i : Nat) : Rat := pm k fun t => (a i - a t) / (a i - b t)
def cV (a b : Nat → Rat) (k j : Nat) : Rat := pm k fun t => (b t - b j) / (a t - b j)
def cS (a b : Nat → Rat) (k i j : Nat) : Rat := 1 / (a i - b j) * (cU a b k i * cV a b k j)
theorem div_ne {a b : Rat} (ha : a ≠ 0) (hb : b ≠ 0) : a / b ≠ 0 := fun e => ha (by have : a = a / b * b := by grind
                                                                                    rw [this, e]; grind)
theorem cS_ne {n : Nat} {a b : Nat → Rat} (h : CauH n a b) {k : Nat} (hk : k < n) : cS a b k k k ≠ 0 := by
  have h1 : cU a b k k ≠ 0 := pm_ne fun t ht => div_ne (h.da hk (by omega) (by omega)) (h.dx hk (by omega))
  have h2 : cV a b k k ≠ 0 := pm_ne fun t ht => div_ne (h.db (by omega) hk (by omega)) (h.dx (by omega) hk)
  have h3 := h.dx hk hk
  intro e
  rcases Rat.mul_eq_zero.1 e with e | e
  · exact div_ne (by decide) h3 e
  · rcases Rat.mul_eq_zero.1 e with e | e
    · exact h1 e
    · exact h2 e
theorem frac_mul {a b c d : Rat} (hb : b ≠ 0) (hd : d ≠ 0) : a / b * (c / d) = a * c / (b * d) := by
  have := rmul_ne hb hd
  grind
theorem frac1 {x y z w : Rat} (hx : x ≠ 0) (hz : z ≠ 0) (hw : w ≠ 0) (e : x = z + w - y) : 1 / x - y / (z * w) = 1 / x * ((z - y) / z) * ((w - y) / w) := by
  have hzw := rmul_ne hz hw
  have hxz := rmul_ne hx hzw
  have e1 : 1 / x = z * w / (x * (z * w)) := by generalize z * w = v at hzw hxz; grind
  have e2 : y / (z * w) = y * x / (x * (z * w)) := by generalize z * w = v at hzw hxz; grind
  have e3 : 1 / x * ((z - y) / z) * ((w - y) / w) = (z - y) * (w - y) / (x * (z * w)) := by
    generalize z - y = p
    generalize w - y = q
    grind
  rw [e3, e2]
  conv => lhs; rw [e1]
  have e4 : (z - y) * (w - y) = z * w - y * x := by rw [e]; grind
  rw [e4]
  generalize z * w = v
  generalize y * x = t
  generalize x * v = r
  grind
theorem frac2 {x2 x1 x3 p q u v : Rat} (h2 : x2 ≠ 0) (h1 : x1 ≠ 0) (h3 : x3 ≠ 0) (hu : u ≠ 0) (hv : v ≠ 0) : 1 / x2 * (p * v) / (1 / x1 * (u * v)) * (1 / x3 * (u * q)) = x1 / (x2 * x3) * (p * q) := by
  have h23 := rmul_ne h2 h3
  have huv := rmul_ne hu hv
  have e1 : 1 / x1 * (u * v) = u * v / x1 := by grind
  have e2 : 1 / x2 * (p * v) / (u * v / x1) = p * x1 / (x2 * u) := by
    have := rmul_ne h2 hu
    have : u * v / x1 ≠ 0 := div_ne huv h1
    grind
  rw [e1, e2]
  have := rmul_ne h2 hu
  grind
theorem cS_step {n : Nat} {a b : Nat → Rat} (h : CauH n a b) {k i j : Nat} (hk : k < n) (hi : i < n) (hj : j < n) : cS a b k i j - cS a b k i k / cS a b k k k * cS a b k k j = cS a b (k + 1) i j := by
  have h1 : cU a b k k ≠ 0 := pm_ne fun t ht => div_ne (h.da hk (by omega) (by omega)) (h.dx hk (by omega))
  have h2 : cV a b k k ≠ 0 := pm_ne fun t ht => div_ne (h.db (by omega) hk (by omega)) (h.dx (by omega) hk)
  have x1 := h.dx hk hk
  have x2 := h.dx hi hk
  have x3 := h.dx hk hj
  have x4 := h.dx hi hj
  show _ = 1 / (a i - b j) * (cU a b k i * ((a i - a k) / (a i - b k)) * (cV a b k j * ((b k - b j) / (a k - b j))))
  unfold cS
  generalize cU a b k k = u at h1
  generalize cV a b k k = v at h2
  generalize cU a b k i = p
  generalize cV a b k j = q
  rw [frac2 x2 x1 x3 h1 h2]
  have e2 := frac1 (x := a i - b j) (y := a k - b k) x4 x2 x3 (by grind)
  have f1 : a i - b k - (a k - b k) = a i - a k := by grind
  have f2 : a k - b j - (a k - b k) = b k - b j := by grind
  rw [f1, f2] at e2
  generalize (a i - a k) / (a i - b k) = s at e2
  generalize (b k - b j) / (a k - b j) = t at e2
  generalize (a k - b k) / ((a i - b k) * (a k - b j)) = d at e2
  generalize 1 / (a i - b j) = c at e2
  have : c * (p * q) - d * (p * q) = (c - d) * (p * q) := by grind
  rw [this, e2]
  grind
theorem cau_elim {n : Nat} {a b : Nat → Rat} (h : CauH n a b) : ∀ j, j ≤ n → (elim n (cauM a b) j).r = j ∧ (elim n (cauM a b) j).det = pm j (fun t => cS a b t t t) ∧ ∀ i k, i < n → k < n → j ≤ i → j ≤ k → (elim n (cauM a b) j).A i k = cS a b j i k := by
  intro j
  induction j with
  | zero =>
    refine fun _ => ⟨rfl, rfl, fun i k _ _ _ _ => ?_⟩
    show 1 / (a i - b k) = 1 / (a i - b k) * (1 * 1)
    grind
  | succ j ih =>
    intro hj
    obtain ⟨h1, h2, h3⟩ := ih (by omega)
    have d := h3 j j (by omega) (by omega) (Nat.le_refl _) (Nat.le_refl _)
    have nz := cS_ne h (show j < n by omega)
    have hp : pv (elim n (cauM a b) j).A j n j = j := pv_eq (Nat.le_refl _) (by omega) (fun i h1 h2 => by omega) (.inr (by rw [d]; exact nz))
    rw [elim_next h1 (by rw [hp]; omega), hp]
    refine ⟨rfl, ?_, fun i k hi hk hji hjk => ?_⟩
    · show (if j = j then _ else _) * _ = _
      rw [if_pos rfl, d, h2]; rfl
    · show redM (swpM _ j j) j j i k = _
      rw [swpM_self, redM_gt (by omega) (by omega), h3 i k hi hk (by omega) (by omega), h3 i j hi (by omega) (by omega) (Nat.le_refl _), d, h3 j k (by omega) hk (Nat.le_refl _) (by omega)]
      exact cS_step h (by omega) hi hk
theorem cS_det {n : Nat} {a b : Nat → Rat} (h : CauH n a b) : ∀ m, m ≤ n → pm m (fun t => cS a b t t t) = cDet a b m := by
  intro m
  induction m with
  | zero => intro _; unfold cDet cUp cDn; simp only [pm]; grind
  | succ m ih =>
    intro hm
    have e1 : cUp a b (m + 1) = cUp a b m * pm m fun k => (a m - a k) * (b k - b m) := rfl
    have e2 : cDn a b (m + 1) (m + 1) = cDn a b m m * (pm m fun i => a i - b m) * ((pm m fun k => a m - b k) * (a m - b m)) := by
      show cDn a b m (m + 1) * _ = _
      rw [cDn_succ]; rfl
    have n0 : cDn a b m m ≠ 0 := cDn_ne fun i k hi hk => h.ne i k (by omega) (by omega)
    have n1 : pm m (fun i => a i - b m) ≠ 0 := pm_ne fun i hi => h.dx (by omega) (by omega)
    have n2 : pm m (fun k => a m - b k) ≠ 0 := pm_ne fun i hi => h.dx (by omega) (by omega)
    have n3 := h.dx (show m < n by omega) (show m < n by omega)
    have dv : ∀ (f g : Nat → Rat) (q : Nat), (∀ i, i < q → g i ≠ 0) → pm q (fun t => f t / g t) = pm q f / pm q g := by
      intro f g q
      induction q with
      | zero => intro _; simp only [pm]; grind
      | succ q ih =>
        intro hq
        have z := hq q (by omega)
        have z2 : pm q g ≠ 0 := pm_ne fun i hi => hq i (by omega)
        simp only [pm]; rw [ih fun i hi => hq i (by omega)]
        grind
    simp only [pm]
    rw [ih (by omega)]
    unfold cDet
    rw [e1, e2, pm_mul]
    unfold cS cU cV
    rw [dv _ _ m fun t ht => h.dx (by omega) (by omega), dv _ _ m fun t ht => h.dx (by omega) (by omega)]
    generalize cDn a b m m = d at n0
    generalize pm m (fun i => a i - b m) = x at n1
    generalize pm m (fun k => a m - b k) = y at n2
    generalize pm m (fun t => a m - a t) = u
    generalize pm m (fun t => b t - b m) = v
    generalize a m - b m = z at n3
    generalize cUp a b m = p
    rw [frac_mul n2 n1, frac_mul n3 (rmul_ne n2 n1), frac_mul n0 (rmul_ne n3 (rmul_ne n2 n1))]
    congr 1
    · grind
    · grind
/-- The determinant is the product of differences. -/
theorem cau_det {n : Nat} {a b : Nat → Rat} (h : ∀ i k, i < n → k < n → a i ≠ b k) : (elim n (cauM a b) n).det = cDet a b n := by
  by_cases c : Inj a n ∧ Inj b n
  · have H : CauH n a b := ⟨c.1, c.2, h⟩
    rw [(cau_elim H n (Nat.le_refl _)).2.1, cS_det H n (Nat.le_refl _)]
  · rw [(cDet_zero h).2 c]
    apply Classical.byContradiction
    intro hd
    refine c ⟨fun i k hi hk e => ?_, fun i k hi hk e => ?_⟩
    · apply Classical.byContradiction
      intro hne
      have s1 := slv_ok (y := fun t => if t = i then 1 else 0) hd i hi
      have s2 := slv_ok (y := fun t => if t = i then 1 else 0) hd k hk
      have : (fun t => cauM a b i t * bk (elim n (augM n (cauM a b) fun t => if t = i then 1 else 0) n).A n n t) = fun t => cauM a b k t * bk (elim n (augM n (cauM a b) fun t => if t = i then 1 else 0) n).A n n t := by
        funext t; show 1 / (a i - b t) * _ = 1 / (a k - b t) * _; rw [e]
      rw [this, s2, if_pos rfl, if_neg (Ne.symm hne)] at s1
      exact absurd s1 (by decide)
    · apply Classical.byContradiction
      intro hne
      have hK : Ker n n (cauM a b) fun t => (if t = i then 1 else 0) - (if t = k then 1 else 0) := fun r hr => by
        have : (fun t => cauM a b r t * ((if t = i then 1 else 0) - (if t = k then 1 else 0))) = fun t => cauM a b r t * (if t = i then 1 else 0) - cauM a b r t * (if t = k then 1 else 0) := by funext t; grind
        rw [this, sm_sub, sm_one hi, sm_one hk]
        show 1 / (a r - b i) - 1 / (a r - b k) = 0
        rw [e]; grind
      have := ker1 hd hK i hi
      rw [if_pos rfl, if_neg hne] at this
      grind
end Go.Proofs.YtjfcphohgicolaaGreat

namespace Go.Proofs.YtjfcphohgicolaaGreat
open Go
set_option linter.unusedVariables false
set_option linter.unusedSimpArgs false
set_option maxRecDepth 10000
structure CauG (g : GV) (b c : Nat) : Prop extends Wf g b c where
  k5 : g.k = 5
theorem CauG.la {g : GV} {b c : Nat} (h : CauG g b c) : g.la = g.n := h.toWf.la3 (by have := h.k5; omega)
theorem CauG.lb {g : GV} {b c : Nat} (h : CauG g b c) : g.lb = g.n := h.toWf.lb5 (by have := h.k5; omega)
theorem CauG.nab {g : GV} {b c : Nat} (h : CauG g b c) {i k : Nat} (hi : i < g.n) (hk : k < g.n) : g.A i ≠ g.B k := h.ne i k (by rw [h.la]; exact hi) (by rw [h.lb]; exact hk)
end Go.Proofs.YtjfcphohgicolaaGreat

namespace Go.Proofs.YtjfcphohgicolaaGreat
open Go
set_option linter.unusedVariables false
set_option linter.unusedSimpArgs false
set_option maxRecDepth 10000
theorem PRle.gen {m : Nat → Bool} {g : GV} {k n r : Int} {a b c d : PV} (hk : k = g.k) (hn : n = g.n) (hr : r = g.r) (ha : PRle a (ratsM (m 0) (lst g.la g.A))) (hb : PRle b (ratsM (m 1) (lst g.lb g.B))) (hc : PRle c (ratsM (m 2) (lst g.lh g.G))) (hd : PRle d (ratsM (m 3) (lst g.lh g.H))) :
    PRle (.agg [.int .i64 k, .int .i64 n, .int .i64 r, a, b, c, d]) (genP m g) := by
  subst hk; subst hn; subst hr
  refine PRle.agg rfl (fun c hc => ?_) fun i c' c e1 e2 => ?_
  · simp only [genC, List.mem_cons, List.not_mem_nil, or_false] at hc
    rcases hc with rfl | rfl | rfl | rfl | rfl | rfl | rfl <;> rfl
  · match i, e1, e2 with
    | 0, e1, e2 => cases e1; cases e2; exact .refl _
    | 1, e1, e2 => cases e1; cases e2; exact .refl _
    | 2, e1, e2 => cases e1; cases e2; exact .refl _
    | 3, e1, e2 => cases e1; cases e2; exact ha
    | 4, e1, e2 => cases e1; cases e2; exact hb
    | 5, e1, e2 => cases e1; cases e2; exact hc
    | 6, e1, e2 => cases e1; cases e2; exact hd
theorem CallG.weak1 {P : Program} {f : FuncId} {p p' : PV} {r : AV} {nb : List Blk} (hc : CallP P f [p] r nb) (h : PRle p' p) : CallP P f [p'] r nb :=
  CallG.weak hc rfl fun i p1 p2 e1 e2 => by
    match i, e1, e2 with
    | 0, e1, e2 => cases e1; cases e2; exact h
end Go.Proofs.YtjfcphohgicolaaGreat

namespace Go.Proofs.YtjfcphohgicolaaGreat
open Go
set_option linter.unusedVariables false
set_option linter.unusedSimpArgs false
set_option maxRecDepth 10000
def m11 : Nat → Bool
  | 0 => true
  | _ => false
def g11 : GV := ⟨1, 1, 0, fun _ => ((4 : Int) : Rat), fun _ => 0, fun _ => 0, fun _ => 0⟩
theorem wf_g11 : Wf g11 5 13 where
  k1 := by decide
  k7 := by decide
  n1 := by decide
  n6 := by decide
  r2 := by decide
  r1 := fun h => by rcases h with h | h <;> cases h
  r0 := fun _ => rfl
  bA := fun i _ => int_bz (by decide) (by decide)
  bB := fun i _ => bz_zero.mono (by decide)
  bG := fun i _ => bz_zero.mono (by decide)
  bH := fun i _ => bz_zero.mono (by decide)
  ne := fun i j _ hj => absurd hj (Nat.not_lt_zero _)
  bc := by decide
  c4 := by decide
/-- The last step changes no row. -/
theorem GsB.of' {A : Nat → Nat → Rat} {n b : Nat} (n1 : 1 ≤ n) (hA : ∀ i j, i < n → j < n → Bz (A i j) b) : GsB A n (bb b (n - 1)) := fun k hk i j hi hj => by
  by_cases e : k = n
  · obtain ⟨d, rfl⟩ : ∃ d, n = d + 1 := ⟨n - 1, by omega⟩
    rw [e, gs_le (.inl (by omega))]
    exact (gs_bz hA d (by omega) i j hi hj)
  · exact (gs_bz hA k hk i j hi hj).mono (bb_mono (by omega))
/-- Digits of what is left behind any step, of a Gen of the statements. -/
theorem gsB_wf {g : GV} (h : Wf g 5 13) (h5 : g.n ≤ 5) : GsB (ent g) g.n 42100 := fun k hk i j hi hj =>
  (GsB.of' (b := 163) h.n1 (fun i j hi hj => h.bEnt hi hj) k hk i j hi hj).mono (Nat.le_trans (bb_mono (show g.n - 1 ≤ 4 by omega)) (by decide +kernel))
/-- One row, of one number, made anew. -/
theorem all1_ok (A : Nat → Nat → Rat) {a : Nat} (hA : Bz (A 0 0) a) (ha : a + a ≤ 1048576) : CallP Tryz.prog 37 [matP false false 1 1 A, .sl true 1 [ratsM true (lst 1 fun _ => A 0 0)]] (.p (.bool true)) [] := by
  have h := rall_ok false false true true 1 1 A (a := a) (fun i k hi hk => by
    obtain rfl : i = 0 := by omega
    obtain rfl : k = 0 := by omega
    exact hA) ha (by decide) (by decide)
  exact h
theorem known11_ok : CallP Tryz.prog 28 [] (.p (.bool true)) [] := by
  have hf := sfactor_ok m11 g11 wf_g11 (gsB_wf wf_g11 (by decide)) (by decide) (fun t ht => by
    obtain rfl : t = 0 := by have : t < 1 := ht; omega
    show ent g11 0 0 ≠ 0
    decide +kernel)
  have e1 : lowM (ent g11) 0 0 = ((1 : Int) : Rat) := by decide +kernel
  have e2 : uppM (ent g11) 0 0 = ((4 : Int) : Rat) := by decide +kernel
  have a1 := all1_ok (lowM (ent g11)) (a := 5) (by rw [e1]; exact int_bz (by decide) (by decide)) (by decide)
  have a2 := all1_ok (uppM (ent g11)) (a := 5) (by rw [e2]; exact int_bz (by decide) (by decide)) (by decide)
  rw [e1] at a1
  rw [e2] at a2
  refine callG_of_vc (wr := wr0) Γok mixed Tryz.func28 (by kernel_rfl) rfl (by kernel_rfl) (le_of_ble rfl) (by simp) ?_
  refine SCall.pure (rint_ok 4 (by decide)) ?_
  refine SView.all rfl <| SCall.pureT (pvs := [.agg [.int .i64 1, .int .i64 1, .int .i64 0, ratsM true (lst 1 g11.A), znil, znil, znil]]) (CallG.weak1 hf (.gen rfl rfl rfl (.refl _) (.nil _ _) (.nil _ _) (.nil _ _))) (fun _ => rfl) ?_
  refine SCmp.yes (rfl) ?_
  refine SCmp.yes (rfl) ?_
  refine SCall.pure (rint_ok 1 (by decide)) ?_
  refine SLendR.mk [ratsM true (lst 1 fun _ => ((1 : Int) : Rat))] rfl rfl (fun i c p e1 e2 => ?_) ?_
  · match i, e1, e2 with
    | 0, e1, e2 => cases e1; cases e2; exact .vec (es := rats (lst 1 fun _ => ((1 : Int) : Rat))) rfl (by decide)
  refine SCall.pure (a1) ?_
  refine SCond.mk (fun _ => ?_) (fun h => by cases h)
  refine SCall.pure (rint_ok 4 (by decide)) ?_
  refine SLendR.mk [ratsM true (lst 1 fun _ => ((4 : Int) : Rat))] rfl rfl (fun i c p e1 e2 => ?_) ?_
  · match i, e1, e2 with
    | 0, e1, e2 => cases e1; cases e2; exact .vec (es := rats (lst 1 fun _ => ((4 : Int) : Rat))) rfl (by decide)
  refine SCall.pure (a2) ?_
  exact SRet.pure (.p _ (.bool _))
theorem lmake11_ok (m : Bool) (kind n : Int) (ns : List Int) (hk : I64 kind) (hn : I64 n) (hns : I64s ns) :
    ∃ g, CallP Tryz.prog 29 [.int .i64 kind, .int .i64 n, .sl m 1 (intsP ns)] (.p (genP noF g)) [] ∧ Wf g 5 13 ∧ g.n ≤ 5 := by
  have w2 := within11_ok kind 2 (by omega) (by omega)
  by_cases c : kind % 2 = 0
  · have hN := gmN_ok n 5 (by omega)
    refine ⟨g10 n 5 ns, ?_, wf_g10 n 5 ns (by omega) (by omega), by rw [g10_n]; omega⟩
    have hm := lmake10_ok m n 5 ns hn hns (by omega) (by omega)
    refine callG_of_vc (wr := wr0) Γok mixed Tryz.func29 (by kernel_rfl) rfl (by kernel_rfl) (le_of_ble rfl) (by simp) ?_
    refine SCall.pure (w2) ?_
    refine SCmp.yes (eqT c) ?_
    refine SCall.pure (hm) ?_
    exact SRet.pure (.p _ (pers_gen _))
  · have hq : -9223372036854775808 ≤ kind.tdiv 2 ∧ kind.tdiv 2 < 9223372036854775808 := by
      unfold I64 at hk
      rw [Int.tdiv_eq_ediv, show Int.sign 2 = 1 from rfl]; split <;> omega
    refine ⟨mkG (gmK (kind.tdiv 2)) (gmN n 5) (gmR (gmK (kind.tdiv 2)) n) (rowG ns), ?_, wf_make _ n 5 ns (by omega) (by omega), by have hN := gmN_ok n 5 (by omega); show gmN n 5 ≤ 5; omega⟩
    have hm := lmake5_ok m (kind.tdiv 2) n 5 ns hq hn hns (by omega) (by omega)
    refine callG_of_vc (wr := wr0) Γok mixed Tryz.func29 (by kernel_rfl) rfl (by kernel_rfl) (le_of_ble rfl) (by simp) ?_
    refine SCall.pure (w2) ?_
    refine SCmp.no (eqF c) ?_
    refine SNe.mk (by omega) ?_
    refine SWrap.i64z (kind.tdiv 2) rfl hq ?_
    refine SCall.pure (hm) ?_
    exact SRet.pure (.p _ (pers_gen _))
/-- Of what both triangles' numbers are made: few digits. -/
theorem low_bz {g : GV} (h : Wf g 5 13) (h5 : g.n ≤ 5) {i j : Nat} (hi : i < g.n) (hj : j < g.n) : Bz (lowM (ent g) i j) 84201 := by
  have hB := gsB_wf h h5
  unfold lowM
  split
  · exact bz_one.mono (by omega)
  · split
    · exact ((hB j (by omega) i j hi hj).div (hB j (by omega) j j hj hj)).mono (by omega)
    · exact bz_zero.mono (by omega)
theorem upp_bz {g : GV} (h : Wf g 5 13) (h5 : g.n ≤ 5) {i j : Nat} (hi : i < g.n) (hj : j < g.n) : Bz (uppM (ent g) i j) 42101 := by
  unfold uppM
  split
  · exact bz_zero.mono (by omega)
  · exact (gsB_wf h h5 i (by omega) i j hi hj).mono (by omega)
end Go.Proofs.YtjfcphohgicolaaGreat

namespace Go.Proofs.YtjfcphohgicolaaGreat
open Go
set_option linter.unusedVariables false
set_option linter.unusedSimpArgs false
set_option maxRecDepth 10000
theorem ux_ok {U : Nat → Nat → Rat} {b : Nat → Rat} {n : Nat} (hu : ∀ i j, i < n → j < i → U i j = 0) (hd : ∀ i, i < n → U i i ≠ 0) : ∀ i, i < n → apl n U (uxF U b n n) i = b i := by
  intro i hi
  have h := bk_ok (A := augM n U b) (n := n) (fun i k hi hk => by show (if k < n then U i k else b i) = 0; rw [if_pos (by omega)]; exact hu i k hi hk) (fun i hi => by show (if i < n then U i i else b i) ≠ 0; rw [if_pos hi]; exact hd i hi) n (Nat.le_refl _) i (by omega) hi
  rw [show augM n U b i n = b i from if_neg (Nat.lt_irrefl n)] at h
  rw [← h, ux_bk n (Nat.le_refl _)]
  exact sm_congr fun k hk => by rw [show augM n U b i k = U i k from if_pos hk]
end Go.Proofs.YtjfcphohgicolaaGreat

namespace Go.Proofs.YtjfcphohgicolaaGreat
open Go
set_option linter.unusedVariables false
def lastS (i n k : Nat) : Nat := if k = i then n - 1 else if k = n - 1 then i else k
theorem lastS_lt {i n k : Nat} (hi : i < n) (hk : k < n) : lastS i n k < n := by
  unfold lastS
  split
  · omega
  · split <;> omega
theorem lastS_inv {i n k : Nat} (hi : i < n) : lastS i n (lastS i n k) = k := by
  unfold lastS
  by_cases a : k = i
  · by_cases b : n - 1 = i
    · rw [if_pos a, if_pos b]; omega
    · rw [if_pos a, if_neg b, if_pos rfl]; exact a.symm
  · by_cases b : k = n - 1
    · rw [if_neg a, if_pos b, if_pos rfl]; exact b.symm
    · rw [if_neg a, if_neg b, if_neg a, if_neg b]
theorem sm_upd {f : Nat → Rat} {v : Rat} {i : Nat} : ∀ m, i < m → sm m (upd f i v) + f i = sm m f + v := by
  intro m
  induction m with
  | zero => intro h; exact absurd h (Nat.not_lt_zero _)
  | succ m ih =>
    intro h
    show sm m (upd f i v) + upd f i v m + f i = sm m f + f m + v
    by_cases e : i = m
    · subst e
      rw [upd_same, sm_congr (g := f) fun k hk => upd_other _ _ (by omega)]; grind
    · have := ih (by omega)
      rw [upd_other _ _ (Ne.symm e)]; grind
theorem sm_last {f : Nat → Rat} {i n : Nat} (hi : i < n) : sm n (fun k => f (lastS i n k)) = sm n f := by
  obtain ⟨m, rfl⟩ : ∃ m, n = m + 1 := ⟨n - 1, by omega⟩
  show sm m (fun k => f (lastS i (m + 1) k)) + f (lastS i (m + 1) m) = sm m f + f m
  by_cases e : i = m
  · subst e
    rw [sm_congr (g := f) fun k hk => by unfold lastS; rw [if_neg (by omega), if_neg (by omega)]]
    have : lastS i (i + 1) i = i := by unfold lastS; rw [if_pos rfl]; omega
    rw [this]
  · have h := sm_upd (f := f) (v := f m) (i := i) m (by omega)
    rw [sm_congr (g := upd f i (f m)) fun k hk => by
      unfold lastS upd
      by_cases e2 : k = i
      · rw [if_pos e2, if_pos e2]; congr 1
      · rw [if_neg e2, if_neg e2, if_neg (by omega)]]
    have e3 : lastS i (m + 1) m = i := by unfold lastS; rw [if_neg (Ne.symm e), if_pos (by omega)]
    rw [e3, h]
theorem bk_last {E : Nat → Nat → Rat} {n : Nat} (n1 : 1 ≤ n) : ∀ t, t + 1 ≤ n → bk E n (t + 1) (n - 1) = E (n - 1) n / E (n - 1) (n - 1) := by
  intro t
  induction t with
  | zero =>
    intro _
    simp only [bk, Nat.sub_zero, sb]
    exact upd_same _ _ _
  | succ t ih => intro h; rw [bk_keep (by omega) (by omega)]; exact ih (by omega)
theorem sol_bz {n : Nat} {A : Nat → Nat → Rat} {x y : Nat → Rat} {R : Nat → Nat} (hd : (elim n A n).det ≠ 0) (hx : ∀ r, r < n → sm n (fun k => A r k * x k) = y r) {i : Nat} (hi : i < n)
    (hRB : RB R n (n + 1) (augM n (fun r k => A r (lastS i n k)) y)) : Bz (x i) (R (n - 1) + R (n - 1)) := by
  have hd' : (elim n (fun r k => A r (lastS i n k)) n).det ≠ 0 := fun e => by
    obtain ⟨v, ⟨k, hk, hv⟩, hker⟩ := ker0 e
    have : Ker n n A fun k => v (lastS i n k) := fun r hr => by
      show sm n (fun k => A r k * v (lastS i n k)) = 0
      rw [← sm_last (f := fun k => A r k * v (lastS i n k)) hi, ← hker r hr]
      exact sm_congr fun k hk => by rw [lastS_inv hi]
    have := ker1 hd this (lastS i n k) (lastS_lt hi hk)
    rw [lastS_inv hi] at this
    exact hv this
  have h1 : ∀ r, r < n → sm n (fun k => A r (lastS i n k) * x (lastS i n k)) = y r := fun r hr => by
    rw [sm_last (f := fun k => A r k * x k) hi]; exact hx r hr
  have h2 := slv_one hd' (u := fun k => x (lastS i n k)) (v := bk (elim n (augM n (fun r k => A r (lastS i n k)) y) n).A n n) (fun r hr => (h1 r hr).trans (slv_ok hd' r hr).symm) (n - 1) (by omega)
  obtain ⟨m, rfl⟩ : ∃ m, n = m + 1 := ⟨n - 1, by omega⟩
  rw [bk_last (by omega) m (Nat.le_refl _)] at h2
  have e : lastS i (m + 1) (m + 1 - 1) = i := by
    unfold lastS
    by_cases c : m + 1 - 1 = i
    · rw [if_pos c]; exact c
    · rw [if_neg c, if_pos rfl]
  have h2 : x (lastS i (m + 1) (m + 1 - 1)) = _ := h2
  rw [e] at h2
  rw [h2]
  have hB := hRB.row (m + 1) (Nat.le_refl _)
  have b1 := hB (m + 1 - 1) (m + 1) (by omega) (by omega)
  have b2 := hB (m + 1 - 1) (m + 1 - 1) (by omega) (by omega)
  have hmin := Rmono hRB.mono (Nat.min_le_left (m + 1 - 1) (elim (m + 1) (augM (m + 1) (fun r k => A r (lastS i (m + 1) k)) y) (m + 1)).r)
  exact (b1.mono hmin).div (b2.mono hmin)
end Go.Proofs.YtjfcphohgicolaaGreat

namespace Go.Proofs.YtjfcphohgicolaaGreat
open Go
set_option linter.unusedVariables false
set_option linter.unusedSimpArgs false
set_option maxRecDepth 10000
theorem ent5 {g : GV} (h : g.k = 5) (i k : Nat) : ent g i k = cauM g.A g.B i k := by
  unfold ent; rw [if_neg (by omega), if_neg (by omega), if_neg (by omega), if_neg (by omega), if_pos h]
theorem CauG.det {g : GV} {b c : Nat} (h : CauG g b c) : (elim g.n (ent g) g.n).det = cDet g.A g.B g.n := by
  rw [(elim_congr (fun i k _ _ => ent5 h.k5 i k) g.n (Nat.le_refl _)).1, cau_det fun i k hi hk => h.nab hi hk]
end Go.Proofs.YtjfcphohgicolaaGreat

namespace Go.Proofs.YtjfcphohgicolaaGreat
set_option linter.unusedVariables false
theorem pev_sm : ∀ (n : Nat) (c : Nat → Rat) (X : Rat), sm (n + 1) (fun k => X ^ k * c k) = pev n c X := by
  intro n
  induction n with
  | zero => intro c X; show (0 : Rat) + X ^ 0 * c 0 = c 0; rw [Rat.pow_zero]; grind
  | succ n ih =>
    intro c X
    rw [sm_first, pev, ← ih, ← sm_smul, Rat.pow_zero, Rat.one_mul]
    congr 1
    exact sm_congr fun k _ => by rw [Rat.pow_succ]; grind
theorem pw_eq (X : Rat) : ∀ j, pw X j = X ^ j
  | 0 => (Rat.pow_zero ..).symm
  | j + 1 => by rw [pw, pw_eq X j, Rat.pow_succ]; grind
theorem mom_ker {n : Nat} {x w : Nat → Rat} (h : Inj x (n + 1)) (hK : ∀ j, j < n + 1 → sm (n + 1) (fun i => x i ^ j * w i) = 0) : ∀ i, i < n + 1 → w i = 0 := by
  intro l hl
  -- every polynomial's values, weighed, come to nought
  have h2 : ∀ c : Nat → Rat, sm (n + 1) (fun i => w i * pev n c (x i)) = 0 := by
    intro c
    have : ∀ m, m ≤ n + 1 → sm (n + 1) (fun i => w i * sm m (fun k => x i ^ k * c k)) = 0 := by
      intro m
      induction m with
      | zero => intro _; exact sm_zero fun i _ => Rat.mul_zero _
      | succ m ih =>
        intro hm
        have e : (fun i => w i * sm (m + 1) (fun k => x i ^ k * c k)) = fun i => w i * sm m (fun k => x i ^ k * c k) + c m * (x i ^ m * w i) := by
          funext i; show w i * (sm m _ + x i ^ m * c m) = _; grind
        rw [e, sm_add, ih (by omega), sm_smul, hK m (by omega)]; grind
    rw [← this (n + 1) (Nat.le_refl _)]
    exact sm_congr fun i _ => by rw [pev_sm]
  have h3 := h2 (thrC x n fun i => if i = l then 1 else 0)
  rw [sm_congr (g := fun i => w i * (if i = l then 1 else 0)) fun i hi => by rw [thr_interp x _ h (by omega)], sm_one hl] at h3
  exact h3
theorem mom_det {n : Nat} {x : Nat → Rat} : (elim (n + 1) (fun i k => x k ^ i) (n + 1)).det ≠ 0 ↔ Inj x (n + 1) := by
  constructor
  · intro h i j hi hj e
    by_cases e2 : i = j
    · exact e2
    · have := ker1 (v := fun k => if k = i then 1 else if k = j then -1 else 0) h (fun q hq => by
        have e3 : (fun k => x k ^ q * (if k = i then (1 : Rat) else if k = j then -1 else 0)) = fun k => x k ^ q * (if k = i then 1 else 0) - x k ^ q * (if k = j then 1 else 0) := by
          funext k
          by_cases c : k = i
          · rw [if_pos c, if_pos c, if_neg (by omega)]; grind
          · rw [if_neg c, if_neg c]
            split <;> grind
        show sm (n + 1) (fun k => x k ^ q * (if k = i then (1 : Rat) else if k = j then -1 else 0)) = 0
        rw [e3, sm_sub, sm_one hi (fun k => x k ^ q), sm_one hj (fun k => x k ^ q), e]; grind) i hi
      rw [if_pos rfl] at this
      exact absurd this (by decide)
  · intro h e
    obtain ⟨v, ⟨k, hk, hv⟩, hK⟩ := ker0 e
    exact hv (mom_ker h hK k hk)
theorem both {n : Nat} {x f b c w : Nat → Rat} (h : Inj x (n + 1)) (hc : ∀ l, l ≤ n → pev n c (x l) = f l) (hw : ∀ j, j < n + 1 → sm (n + 1) (fun i => x i ^ j * w i) = b j) :
    sm (n + 1) (fun i => w i * f i) = sm (n + 1) (fun i => b i * c i) := by
  have h1 : ∀ i, i < n + 1 → thrC x n f i = c i := fun i hi => thr_unique h hc i (by omega)
  have h2 : ∀ i, i < n + 1 → momC x n b i = w i := fun i hi => slv_one (A := fun i k => x k ^ i) (mom_det.2 h) (fun j hj => by
    rw [hw j hj, ← mom_ok b h (show j ≤ n by omega)]
    exact sm_congr fun i hi => by rw [pw_eq]; grind) i hi
  have := dual x n b f
  rw [sm_congr (g := fun i => b i * c i) fun i hi => by rw [h1 i hi], sm_congr (f := fun i => momC x n b i * f i) (g := fun i => w i * f i) fun i hi => by rw [h2 i hi]] at this
  exact this.symm
/-- What stands on the diagonal. -/
theorem slv_diag {n : Nat} {A : Nat → Nat → Rat} (h : (elim n A n).det ≠ 0) : ∀ i, i < n → (elim n A n).A i i ≠ 0 :=
  elim_diag n ((elim_det n (Nat.le_refl _)).1 h)
end Go.Proofs.YtjfcphohgicolaaGreat

namespace Go.Proofs.YtjfcphohgicolaaGreat
open Go
set_option linter.unusedVariables false
set_option linter.unusedSimpArgs false
set_option maxRecDepth 10000
theorem slv_val {n : Nat} {A : Nat → Nat → Rat} {y x : Nat → Rat} (hd : (elim n A n).det ≠ 0) (hx : ∀ i, i < n → sm n (fun k => A i k * x k) = y i) : slvP n A y = ratsM false (lst n x) ∧ slvE n A y = 0 := by
  unfold slvP slvE
  rw [if_neg (by rw [aug_det]; exact hd), if_neg (by rw [aug_det]; exact hd)]
  refine ⟨?_, rfl⟩
  rw [lst_congr (slv_one hd fun i hi => (slv_ok hd i hi).trans (hx i hi).symm)]
theorem xs203 {n : Nat} (hn : n ≤ 5) : ∀ t, t < n → 2 * bb 203 (n - 1 - t) + t * (bb 203 (n - 1 - t) + 1) + xs (bb 203) n t ≤ 1048576 := by
  have : ∀ n, n < 6 → ∀ t, t < n → 2 * bb 203 (n - 1 - t) + t * (bb 203 (n - 1 - t) + 1) + xs (bb 203) n t ≤ 1048576 := by decide +kernel
  exact this n (by omega)
theorem rb203a {n : Nat} {A : Nat → Nat → Rat} {y : Nat → Rat} (hn : n ≤ 5) (hA : ∀ i k, i < n → k < n → Bz (A i k) 203) (hy : ∀ i, i < n → Bz (y i) 203) : RB (bb 203) n (n + 1) (augM n A y) :=
  RB.std (fun i k hi hk => by
    unfold augM
    split
    · rename_i h; exact hA i k hi h
    · exact hy i hi) (by omega) (Nat.le_trans (dR_mono (j := 6) (by omega)) (by decide +kernel))
/-- A system, solved by the document's way. -/
theorem rsolve203 (m m' m'' : Bool) {n : Nat} {A : Nat → Nat → Rat} {y : Nat → Rat} (hn : n ≤ 5) (hA : ∀ i k, i < n → k < n → Bz (A i k) 203) (hy : ∀ i, i < n → Bz (y i) 203) :
    CallP Tryz.prog 34 [matP m m' n n A, ratsM m'' (lst n y)] (.tup [.p (slvP n A y), .p (.int .i64 (slvE n A y))]) [] :=
  rsolve_ok m m' m'' n A y (rb203a hn hA hy) (by omega) slv_diag (xs203 hn)
end Go.Proofs.YtjfcphohgicolaaGreat

namespace Go.Proofs.YtjfcphohgicolaaGreat
open Go
set_option linter.unusedVariables false
set_option linter.unusedSimpArgs false
set_option maxRecDepth 10000
theorem apl_mul {n : Nat} {L U : Nat → Nat → Rat} {x : Nat → Rat} (i : Nat) : sm n (fun k => mulM n L U i k * x k) = sm n fun t => L i t * apl n U x t := by
  show sm n (fun k => sm n (fun t => U t k * L i t) * x k) = sm n fun t => L i t * sm n fun k => U t k * x k
  have e1 : (fun k => sm n (fun t => U t k * L i t) * x k) = fun k => sm n fun t => x k * (U t k * L i t) := by
    funext k; rw [sm_smul]; exact Rat.mul_comm _ _
  have e2 : (fun t => L i t * sm n fun k => U t k * x k) = fun t => sm n fun k => x k * (U t k * L i t) := by
    funext t; rw [← sm_smul]; exact sm_congr fun k _ => by grind
  rw [e1, e2, sm_comm]
set_option maxHeartbeats 1000000 in
theorem schurSolves_ok (m m' : Bool) (kind n : Int) (ns bs : List Int) (hk : I64 kind) (hn : I64 n) (hns : I64s ns) (hbs : I64s bs) : CallP Tryz.prog 7 [.int .i64 kind, .int .i64 n, .sl m 1 (intsP ns), .sl m' 1 (intsP bs)] (.p (.bool true)) [] := by
  obtain ⟨g, hm, H, h5⟩ := lmake11_ok m kind n ns hk hn hns
  have h6 := H.n6
  have n1 := H.n1
  have hB := gsB_wf H h5
  have hrow := row2_ok m' bs hbs g.n (by omega)
  obtain ⟨b, hb⟩ : ∃ b, b = rowG bs := ⟨_, rfl⟩
  have zb : ∀ i, Bz (b i) 5 := fun i => by rw [hb]; exact rowG_bz bs i
  rw [← hb] at hrow
  obtain ⟨b1, b2, b3⟩ := brkN_spec (ent g) g.n
  by_cases hz : brkN (ent g) g.n < g.n
  · have f1 := sfactorZ_ok noF g H hB (by decide) hz
    refine callG_of_vc (wr := wr0) Γok mixed Tryz.func7 (by kernel_rfl) rfl (by kernel_rfl) (le_of_ble rfl) (by simp) ?_
    refine SCall.pure (known11_ok) ?_
    refine SCmp.no (rfl) ?_
    refine SCall.pure (hm) ?_
    refine SCall.pure (hrow) ?_
    refine SCall.pureT (f1) (fun _ => rfl) ?_
    refine SCmp.yes (rfl) ?_
    refine SCmp.yes (rfl) ?_
    exact SRet.pure (.tf _)
  · have hp : ∀ t, t < g.n → piv (ent g) t ≠ 0 := fun t ht => b2 t (by omega)
    have f1 := sfactor_ok noF g H hB (by decide) hp
    have zL : ∀ i j, i < g.n → j < g.n → Bz (lowM (ent g) i j) 84201 := fun i j hi hj => low_bz H h5 hi hj
    have zU : ∀ i j, i < g.n → j < g.n → Bz (uppM (ent g) i j) 20000000 := fun i j hi hj => (upp_bz H h5 hi hj).mono (by omega)
    have e1 : ubD 84201 4 ≤ 20000000 := by decide +kernel
    have e2 : ubD 20000000 4 ≤ 4000000000 := by decide +kernel
    have lX : ∀ k, k ≤ g.n → ∀ i, i < k → Bz (lxF (lowM (ent g)) b k i) 20000000 := fun k hk i hi => (lx_bz zL (fun i _ => (zb i).mono (by omega)) k hk i hi).mono (Nat.le_trans (ub_mono (by omega)) e1)
    obtain ⟨z, hzz⟩ : ∃ z, z = lxF (lowM (ent g)) b g.n := ⟨_, rfl⟩
    have hlo := slowerS_ok false false false g.n (lowM (ent g)) b (by omega) zL (fun i _ => (zb i).mono (by omega)) lX (by omega)
    have zz : ∀ i, i < g.n → Bz (z i) 20000000 := fun i hi => by rw [hzz]; exact lX g.n (Nat.le_refl _) i hi
    have lok : ∀ i, i < g.n → apl g.n (lowM (ent g)) z i = b i := by rw [hzz]; exact lx_ok (fun i _ => if_pos rfl) (fun i j h _ => by unfold lowM; rw [if_neg (by omega), if_neg (by omega)])
    rw [← hzz] at hlo
    have uX : ∀ t, t ≤ g.n → ∀ i, g.n ≤ i + t → i < g.n → Bz (uxF (uppM (ent g)) z g.n t i) 4000000000 := fun t ht i h1 h2 => (ux_bz zU zz t ht i h1 h2).mono (Nat.le_trans (ub_mono (by omega)) e2)
    have hd : ∀ i, i < g.n → uppM (ent g) i i ≠ 0 := fun i hi => by rw [upp_diag]; exact hp i hi
    have hup := supperS_ok false false false g.n g.n (uppM (ent g)) z (by omega) zU zz uX (by omega) (Nat.le_refl _) (fun t ht => hd _ (by omega)) (fun h => absurd h (Nat.lt_irrefl _)) _ (fun h => absurd h (Nat.lt_irrefl _)) (fun _ => rfl)
    have uok : ∀ i, i < g.n → apl g.n (uppM (ent g)) (uxF (uppM (ent g)) z g.n g.n) i = z i := ux_ok (fun i j _ h => if_pos h) hd
    obtain ⟨x, hx⟩ : ∃ x, x = uxF (uppM (ent g)) z g.n g.n := ⟨_, rfl⟩
    rw [← hx] at hup uok
    have sol : ∀ i, i < g.n → sm g.n (fun k => ent g i k * x k) = b i := fun i hi => by
      rw [sm_congr (g := fun k => mulM g.n (lowM (ent g)) (uppM (ent g)) i k * x k) fun k hk => by rw [lu_mul hp hi hk], apl_mul, sm_congr (g := fun t => lowM (ent g) i t * z t) fun t ht => by rw [uok t ht]]
      exact lok i hi
    have hdet : (elim g.n (ent g) g.n).det ≠ 0 := by rw [lead_det hp]; exact pm_ne hp
    have hS := rsolve203 false false false (y := b) h5 (fun i k hi hk => (H.bEnt hi hk).mono (by decide)) (fun i _ => (zb i).mono (by decide))
    have sv := slv_val hdet sol
    rw [sv.1, sv.2] at hS
    have zx : ∀ i, i < g.n → Bz (x i) 200000 := fun i hi => (sol_bz hdet sol hi (rb203a h5 (fun r k hr hk => (H.bEnt hr (lastS_lt hi hk)).mono (by decide)) (fun i _ => (zb i).mono (by decide)))).mono (by
      have := bb_mono (b := 203) (show g.n - 1 ≤ 4 by omega)
      have e : bb 203 4 ≤ 100000 := by decide +kernel
      omega)
    have q := rrows_ok false false (lst g.n x) (lst g.n x) (Bl.lst zx) (Bl.lst zx) (by omega) (by rw [lst_length]; omega)
    rw [decide_eq_true rfl] at q
    refine callG_of_vc (wr := wr0) Γok mixed Tryz.func7 (by kernel_rfl) rfl (by kernel_rfl) (le_of_ble rfl) (by simp) ?_
    refine SCall.pure (known11_ok) ?_
    refine SCmp.no (rfl) ?_
    refine SCall.pure (hm) ?_
    refine SCall.pure (hrow) ?_
    refine SCall.pureT (f1) (fun _ => rfl) ?_
    refine SCmp.no (neF rfl) ?_
    refine SCall.pure (hlo) ?_
    refine SCall.pureT (hup) (fun _ => rfl) ?_
    refine SCall.pure (rexpand5_ok noF g H) ?_
    refine SCall.pureT (hS) (fun _ => rfl) ?_
    refine SCmp.yes (rfl) ?_
    refine SCmp.yes (rfl) ?_
    refine SCall.pure (q) ?_
    exact SRet.pure (.p _ (.bool _))
end Go.Proofs.YtjfcphohgicolaaGreat

namespace Go.Proofs.YtjfcphohgicolaaGreat
open Go Go.ChangeShapes Go.WideShapes Go.ChangeAt Go.RowKit Go.WideElems
set_option linter.unusedVariables false
set_option linter.unusedSimpArgs false
theorem Tryz.own : ownKnob Tryz.prog.godebug = none := by kernel_rfl
theorem Tryz.laidOut : laidOutB Tryz.prog = true := by kernel_rfl
theorem Tryz.cells3 : Tryz.prog.cellsOf 3 = 1 := by kernel_rfl
abbrev oldF (W : World) : Nat → Prop := fun b => b < W.heap.size
theorem law_call {P : Program} {f : FuncId} {pvs : List PV} (hc : CallP P f pvs (.p (.bool true)) []) {W : World} {vs : List Value} (hl : vs.length = pvs.length) (hv : ∀ (i : Nat) p v, pvs[i]? = some p → vs[i]? = some v → PR W (FBof noBor (oldF W)) p v) :
    Calls P f vs.toArray W fun e W' => e = .returned (.bool true) ∧ Below W.heap.size W W' := by
  refine (hc.run W (oldF W) noBor (fun _ => (none, 0)) vs ⟨by simp [hl], fun i a v e1 e2 => ?_, fun h => by rw [look_nil]; trivial, fun b h => h, fun b h => h.elim, fun h b hl => ?_, fun h h' b hl => ?_, fun a ha k hk => ?_, fun h k hk => ?_⟩).mono ?_
  · rw [List.getElem?_map] at e1
    cases hp : pvs[i]? with
    | none => rw [hp] at e1; cases e1
    | some p => rw [hp] at e1; cases e1; exact .p (hv i p v hp e2)
  · rw [look_nil] at hl; exact hl.elim
  · rw [look_nil] at hl; exact hl.elim
  · obtain ⟨p, _, rfl⟩ := List.mem_map.1 ha; simp only [AV.men] at hk
  · rw [look_nil] at hk; exact hk.elim
  · intro e W' ⟨v, F', β', he, hr⟩
    subst he
    refine ⟨?_, hr.os, hr.tape, hr.output, hr.size, fun b hb => hr.same b hb fun h hl => ?_⟩
    · have := hr.rel
      cases this with | p h => cases h; rfl
    · rw [look_nil] at hl; exact hl.elim
section
variable {H : Type} {enc : TypeId × Value → H} {P : Program} {W : World} {base : Nat} {sp : Nat → Bool} {held : Bool}
theorem openInt {t : TypeId} {r : Go.Reach} {b0 : Nat} {v : Value} {d : DataW H} {ps : List MemPlace} (ht : P.underlying t = some (.int .i64)) (hval : Value.okWide P W r b0 t v) (hd : DataW.Trod enc P W base sp held t v d ps) :
    ∃ n, v = .int .i64 n ∧ I64 n := by
  obtain ⟨n, h1, h2, h3, h4⟩ := open_int ht hval hd
  refine ⟨n, h1, ?_⟩
  simp [Lit.wf, IntKind.min, IntKind.max, IntKind.signed, IntKind.bits] at h4
  exact ⟨by omega, by omega⟩
theorem openInts {t e : TypeId} {r : Go.Reach} {b0 : Nat} {v : Value} {d : DataW H} {ps : List MemPlace} (ht : P.underlying t = some (.slice e)) (he : P.underlying e = some (.int .i64)) (hc : P.cellsOf e = 1) (hval : Value.okWide P W r b0 t v)
    (hd : DataW.Trod enc P W base sp held t v d ps) (hlt : ∀ x ∈ ps, x.block < W.heap.size) : ∃ zs : List Int, I64s zs ∧ PR W (FBof noBor (oldF W)) (.sl false 1 (intsP zs)) v := by
  obtain ⟨a0, len, cap, rfl⟩ := okWide_slice ht hval
  obtain ⟨fuel, hf⟩ := hd
  rcases open_ints ht he hc hf with ⟨hcs, hx⟩ | ⟨a, len', cap', zs, hcs, _, hl, hm, hz, hx, hcell, hwz⟩
  · simp [Value.cells] at hcs
    obtain ⟨rfl, rfl, rfl⟩ := hcs
    exact ⟨[], fun i => by simp [I64], .nil _ _ _⟩
  · simp [Value.cells] at hcs
    obtain ⟨rfl, rfl, rfl⟩ := hcs
    simp only [Prod.mk.injEq] at hx
    obtain ⟨_, rfl⟩ := hx
    have hlen : len ≤ zs.length := by rw [hz]; split <;> omega
    have hspot : a.spot = none := by
      simp only [Value.okWide, ht, Cell.okWide] at hval
      simp [Cell.ok, World.has] at hval
      first | exact hval.1.2.1 | exact hval.2.1 | (have := hval; simp_all)
    obtain ⟨b, off, spot⟩ := a
    simp only at hspot
    subst hspot
    refine ⟨zs.take len, fun i => ?_, ?_⟩
    · by_cases hi : i < (zs.take len).length
      · have hm : (zs.take len).getD i 0 ∈ zs := by
          have : (zs.take len).getD i 0 = (zs.take len)[i] := by simp only [List.getD, List.getElem?_eq_getElem hi, Option.getD_some]
          rw [this]
          exact List.mem_of_mem_take (List.getElem_mem hi)
        have h4 := hwz _ hm
        generalize (zs.take len).getD i 0 = q at h4 ⊢
        simp [Lit.wf, IntKind.min, IntKind.max, IntKind.signed, IntKind.bits] at h4
        exact ⟨by omega, by omega⟩
      · rw [getD_ge _ 0 (by omega)]; simp [I64]
    · have hll : (intsP (zs.take len)).length = len := by simp; omega
      have h := PR.sl (w := W) (FB := FBof noBor (oldF W)) false 1 (intsP (zs.take len)) b off cap (fun i _ => .int .i64 (zs.getD i 0)) (by rw [hll]; exact hl) (fun hne => ?_) (fun e he => ?_) (fun e he c hc => ?_) (fun i e j c e1 e2 => ?_) (fun i e j c e1 e2 => ?_)
      · rw [hll] at h; exact h
      · have hpos : 0 < zs.length := by
          rcases Nat.eq_zero_or_pos zs.length with h0 | h0
          · exact (hne (by rw [List.length_eq_zero_iff.1 h0]; simp)).elim
          · exact h0
        exact hlt (.cell b off) (MemPlace.mem_row.2 ⟨0, hpos, by simp⟩)
      · obtain ⟨z, _, rfl⟩ := List.mem_map.1 he; rfl
      · obtain ⟨z, _, rfl⟩ := List.mem_map.1 he
        have hc : c ∈ [PV.int .i64 z] := hc
        simp at hc; subst hc; rfl
      all_goals
        have hi : i < len := by have := (List.getElem?_eq_some_iff.1 e1).1; rwa [hll] at this
        have he : e = .int .i64 (zs.getD i 0) := by
          rw [List.getElem?_map, List.getElem?_take_of_lt hi, List.getElem?_eq_getElem (show i < zs.length by omega)] at e1
          simp at e1
          simp [List.getD, show i < zs.length by omega, ← e1]
        subst he
        have hj : j = 0 := by
          have := (List.getElem?_eq_some_iff.1 e2).1
          simpa [PV.cells] using this
        subst hj
        first
          | (have := hcell i (by omega)
             rw [show off + i * 1 + 0 = off + i by omega]
             rwa [Addr.add_lit] at this)
          | (have hcv : c = .int .i64 (zs.getD i 0) := by simpa [PV.cells] using e2.symm
             subst hcv
             exact .int _ _)
end
end Go.Proofs.YtjfcphohgicolaaGreat

