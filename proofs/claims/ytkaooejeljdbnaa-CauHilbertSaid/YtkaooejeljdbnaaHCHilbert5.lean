/- FCHilbert: what its proof needs, part 5. -/
import Derived.Test.YtkaooejeljdbnaaHCHilbert4
set_option linter.unusedVariables false
set_option linter.unusedSimpArgs false
namespace Go.Proofs.Ytkaooejeljdbnaa
open Go
set_option linter.unusedVariables false
set_option linter.unusedSimpArgs false
set_option maxRecDepth 10000
theorem gcheck1_ok (m : Nat → Bool) (n r : Nat) (A B G H : Nat → Rat) {b c : Nat} (h : Wf ⟨1, n, r, A, B, G, H⟩ b c) : CallP Try.prog 150 [genP m ⟨1, n, r, A, B, G, H⟩] (.p (.int .i64 0)) [] := by
  have n6 : n ≤ 6 := h.n6
  have n1 : 1 ≤ n := h.n1
  have r2 : r ≤ 2 := h.r2
  have hnr : n * r ≤ 12 := Nat.mul_le_mul n6 r2
  have hc4 := h.c4
  have hbc := h.bc
  have cc := cnt_le (k := 1) (r := r) n1 (show n ≤ 8 by omega) (show r ≤ 3 by omega)
  have cb : ∀ i : Nat, (if i = 0 then cntA 1 n else if i = 1 then cntB 1 n else cntH 1 n r) ≤ 24 := fun i => by split <;> (try split) <;> omega
  show CallP Try.prog 150 [.agg [.int .i64 ((1 : Nat) : Int), .int .i64 (n : Int), .int .i64 (r : Int), ratsM (m 0) (lst (cntA 1 n) A), ratsM (m 1) (lst (cntB 1 n) B), ratsM (m 2) (lst (cntH 1 n r) G), ratsM (m 3) (lst (cntH 1 n r) H)]] (.p (.int .i64 0)) []
  refine callG_of_vc (wr := wr0) Γok mixed Try.func150 (by kernel_rfl) rfl (by kernel_rfl) (le_of_ble rfl) (by simp) ?_
  refine SCmp.no (decide_eq_false (by omega)) ?_
  refine SCmp.no (decide_eq_false (by omega)) ?_
  refine SCall.pure (sized_ok m ⟨1, n, r, A, B, G, H⟩ h) ?_
  refine SCmp.no (rfl) ?_
  refine SCall.lent [genP m ⟨1, n, r, A, B, G, H⟩] _ rfl (genrows_ok m ⟨1, n, r, A, B, G, H⟩) ?_
  refine SCall.pure (counts_ok) ?_
  refine SLoop.mk Nat (fun i => ([(1, .bptr 0 0), (3, .bptr 1 0), (4, .p (.mp false cntM)), (28, .p (.agg [ratsM (m 0) (lst (cntA 1 n) A), ratsM (m 1) (lst (cntB 1 n) B), ratsM (m 2) (lst (cntH 1 n r) G), ratsM (m 3) (lst (cntH 1 n r) H)])), (29, .p (.int .i64 i))], [.box 59 [.p (.int .i64 ((1 : Nat) : Int)), .p (.int .i64 (n : Int)), .p (.int .i64 (r : Int)), .p (ratsM (m 0) (lst (cntA 1 n) A)), .p (ratsM (m 1) (lst (cntB 1 n) B)), .p (ratsM (m 2) (lst (cntH 1 n r) G)), .p (ratsM (m 3) (lst (cntH 1 n r) H))], .box 189 [.p (ratsM (m 0) (lst (cntA 1 n) A)), .p (ratsM (m 1) (lst (cntB 1 n) B)), .p (ratsM (m 2) (lst (cntH 1 n r) G)), .p (ratsM (m 3) (lst (cntH 1 n r) H))]]))
    (fun i => i ≤ 4) (fun i => 4 - i) 0 [0, 1] (Nat.zero_le _) ⟨rfl, by simp, rfl, rfl, rfl, ⟨rfl, rfl, rfl, rfl, rfl, trivial⟩, ⟨rfl, rfl, trivial⟩⟩ ?_
  intro i hi
  have hi : i ≤ 4 := hi
  rcases (show i = 0 ∨ i = 1 ∨ i = 2 ∨ i = 3 ∨ i = 4 by omega) with rfl | rfl | rfl | rfl | rfl
  · refine SCmp.yes (rfl) ?_
    refine SIdx.mk 0 _ rfl rfl ?_
    refine SKeys.all rfl <| SGet.at 0 _ rfl rfl rfl ?_
    refine SZ.mk ((cntA 1 n : Nat) : Int) (by simp [lst]) ?_
    refine SPos.mk 0 rfl (by decide) ?_
    refine SWrap.i64z ((2 * n : Nat) : Int) (by omega) (by omega) ?_
    refine SPos.mk 1 rfl (by decide) ?_
    refine SWrap.i64z ((0 * n : Nat) : Int) (by omega) (by omega) ?_
    refine SWrap.i64z ((0 : Nat) : Int) (by simp) (by omega) ?_
    refine SWrap.i64z ((2 * n + 0 : Nat) : Int) (by omega) (by omega) ?_
    refine SPos.mk 2 rfl (by decide) ?_
    refine SWrap.i64z ((cntA 1 n : Nat) : Int) (by simp [cntA, cntB, cntH] <;> omega) (by have := cnt_le (k := 1) (r := r) n1 (show n ≤ 8 by omega) (show r ≤ 3 by omega); omega) ?_
    refine SCmp.no (neF rfl) ?_
    refine SWrap.i64z ((0 + 1 : Nat) : Int) (by omega) (by omega) ?_
    exact ⟨0 + 1, [0, 1], by decide, by decide, ⟨rfl, by simp, rfl, rfl, rfl, ⟨rfl, rfl, rfl, rfl, rfl, trivial⟩, ⟨rfl, rfl, trivial⟩⟩⟩
  · refine SCmp.yes (rfl) ?_
    refine SIdx.mk 1 _ rfl rfl ?_
    refine SKeys.all rfl <| SGet.none rfl ?_
    refine SZ.mk ((cntB 1 n : Nat) : Int) (by simp [lst]) ?_
    refine SPos.mk 0 rfl (by decide) ?_
    refine SWrap.i64z ((0 * n : Nat) : Int) (by omega) (by omega) ?_
    refine SPos.mk 1 rfl (by decide) ?_
    refine SWrap.i64z ((0 * n : Nat) : Int) (by omega) (by omega) ?_
    refine SWrap.i64z ((0 : Nat) : Int) (by simp) (by omega) ?_
    refine SWrap.i64z ((0 * n + 0 : Nat) : Int) (by omega) (by omega) ?_
    refine SPos.mk 2 rfl (by decide) ?_
    refine SWrap.i64z ((cntB 1 n : Nat) : Int) (by simp [cntA, cntB, cntH] <;> omega) (by have := cnt_le (k := 1) (r := r) n1 (show n ≤ 8 by omega) (show r ≤ 3 by omega); omega) ?_
    refine SCmp.no (neF rfl) ?_
    refine SWrap.i64z ((1 + 1 : Nat) : Int) (by omega) (by omega) ?_
    exact ⟨1 + 1, [0, 1], by decide, by decide, ⟨rfl, by simp, rfl, rfl, rfl, ⟨rfl, rfl, rfl, rfl, rfl, trivial⟩, ⟨rfl, rfl, trivial⟩⟩⟩
  · refine SCmp.yes (rfl) ?_
    refine SIdx.mk 2 _ rfl rfl ?_
    refine SKeys.all rfl <| SGet.none rfl ?_
    refine SZ.mk ((cntH 1 n r : Nat) : Int) (by simp [lst]) ?_
    refine SPos.mk 0 rfl (by decide) ?_
    refine SWrap.i64z ((0 * n : Nat) : Int) (by omega) (by omega) ?_
    refine SPos.mk 1 rfl (by decide) ?_
    refine SWrap.i64z ((0 * n : Nat) : Int) (by omega) (by omega) ?_
    refine SWrap.i64z ((0 : Nat) : Int) (by simp) (by omega) ?_
    refine SWrap.i64z ((0 * n + 0 : Nat) : Int) (by omega) (by omega) ?_
    refine SPos.mk 2 rfl (by decide) ?_
    refine SWrap.i64z ((cntH 1 n r : Nat) : Int) (by simp [cntA, cntB, cntH] <;> omega) (by have := cnt_le (k := 1) (r := r) n1 (show n ≤ 8 by omega) (show r ≤ 3 by omega); omega) ?_
    refine SCmp.no (neF rfl) ?_
    refine SWrap.i64z ((2 + 1 : Nat) : Int) (by omega) (by omega) ?_
    exact ⟨2 + 1, [0, 1], by decide, by decide, ⟨rfl, by simp, rfl, rfl, rfl, ⟨rfl, rfl, rfl, rfl, rfl, trivial⟩, ⟨rfl, rfl, trivial⟩⟩⟩
  · refine SCmp.yes (rfl) ?_
    refine SIdx.mk 3 _ rfl rfl ?_
    refine SKeys.all rfl <| SGet.none rfl ?_
    refine SZ.mk ((cntH 1 n r : Nat) : Int) (by simp [lst]) ?_
    refine SPos.mk 0 rfl (by decide) ?_
    refine SWrap.i64z ((0 * n : Nat) : Int) (by omega) (by omega) ?_
    refine SPos.mk 1 rfl (by decide) ?_
    refine SWrap.i64z ((0 * n : Nat) : Int) (by omega) (by omega) ?_
    refine SWrap.i64z ((0 : Nat) : Int) (by simp) (by omega) ?_
    refine SWrap.i64z ((0 * n + 0 : Nat) : Int) (by omega) (by omega) ?_
    refine SPos.mk 2 rfl (by decide) ?_
    refine SWrap.i64z ((cntH 1 n r : Nat) : Int) (by simp [cntA, cntB, cntH] <;> omega) (by have := cnt_le (k := 1) (r := r) n1 (show n ≤ 8 by omega) (show r ≤ 3 by omega); omega) ?_
    refine SCmp.no (neF rfl) ?_
    refine SWrap.i64z ((3 + 1 : Nat) : Int) (by omega) (by omega) ?_
    exact ⟨3 + 1, [0, 1], by decide, by decide, ⟨rfl, by simp, rfl, rfl, rfl, ⟨rfl, rfl, rfl, rfl, rfl, trivial⟩, ⟨rfl, rfl, trivial⟩⟩⟩
  · refine SCmp.no (rfl) ?_
    refine SLoop.mk Nat (fun i => ([(1, .bptr 0 0), (60, .p (.agg [ratsM (m 0) (lst (cntA 1 n) A), ratsM (m 1) (lst (cntB 1 n) B), ratsM (m 2) (lst (cntH 1 n r) G), ratsM (m 3) (lst (cntH 1 n r) H)])), (61, .p (.int .i64 i))], [.box 59 [.p (.int .i64 ((1 : Nat) : Int)), .p (.int .i64 (n : Int)), .p (.int .i64 (r : Int)), .p (ratsM (m 0) (lst (cntA 1 n) A)), .p (ratsM (m 1) (lst (cntB 1 n) B)), .p (ratsM (m 2) (lst (cntH 1 n r) G)), .p (ratsM (m 3) (lst (cntH 1 n r) H))], .box 189 [.p (ratsM (m 0) (lst (cntA 1 n) A)), .p (ratsM (m 1) (lst (cntB 1 n) B)), .p (ratsM (m 2) (lst (cntH 1 n r) G)), .p (ratsM (m 3) (lst (cntH 1 n r) H))]]))
      (fun i => i ≤ 4) (fun i => 4 - i) 0 [0, 1] (Nat.zero_le _) ⟨rfl, by simp, rfl, rfl, rfl, ⟨rfl, rfl, rfl, trivial⟩, ⟨rfl, rfl, trivial⟩⟩ ?_
    intro i hi
    have hi : i ≤ 4 := hi
    rcases (show i = 0 ∨ i = 1 ∨ i = 2 ∨ i = 3 ∨ i = 4 by omega) with rfl | rfl | rfl | rfl | rfl
    · refine SCmp.yes (rfl) ?_
      refine SIdx.mk 0 _ rfl rfl ?_
      refine SCall.pure (none1_ok (m 0) (lst (cntA 1 n) A) (fun i hi => by rw [lst_length] at hi; rw [lst_getD hi]; exact check1_ok _ ((h.bA i hi).mono (by omega))) (by rw [lst_length]; exact Nat.le_trans (cb 0) (by decide))) ?_
      refine SCond.mk (fun h => by cases h) (fun _ => ?_)
      refine SWrap.i64z ((0 + 1 : Nat) : Int) (by omega) (by omega) ?_
      exact ⟨0 + 1, [0, 1], by decide, by decide, ⟨rfl, by simp, rfl, rfl, rfl, ⟨rfl, rfl, rfl, trivial⟩, ⟨rfl, rfl, trivial⟩⟩⟩
    · refine SCmp.yes (rfl) ?_
      refine SIdx.mk 1 _ rfl rfl ?_
      refine SCall.pure (none1_ok (m 1) (lst (cntB 1 n) B) (fun i hi => by rw [lst_length] at hi; rw [lst_getD hi]; exact check1_ok _ ((h.bB i hi).mono (by omega))) (by rw [lst_length]; exact Nat.le_trans (cb 1) (by decide))) ?_
      refine SCond.mk (fun h => by cases h) (fun _ => ?_)
      refine SWrap.i64z ((1 + 1 : Nat) : Int) (by omega) (by omega) ?_
      exact ⟨1 + 1, [0, 1], by decide, by decide, ⟨rfl, by simp, rfl, rfl, rfl, ⟨rfl, rfl, rfl, trivial⟩, ⟨rfl, rfl, trivial⟩⟩⟩
    · refine SCmp.yes (rfl) ?_
      refine SIdx.mk 2 _ rfl rfl ?_
      refine SCall.pure (none1_ok (m 2) (lst (cntH 1 n r) G) (fun i hi => by rw [lst_length] at hi; rw [lst_getD hi]; exact check1_ok _ ((h.bG i hi).mono (by omega))) (by rw [lst_length]; exact Nat.le_trans (cb 2) (by decide))) ?_
      refine SCond.mk (fun h => by cases h) (fun _ => ?_)
      refine SWrap.i64z ((2 + 1 : Nat) : Int) (by omega) (by omega) ?_
      exact ⟨2 + 1, [0, 1], by decide, by decide, ⟨rfl, by simp, rfl, rfl, rfl, ⟨rfl, rfl, rfl, trivial⟩, ⟨rfl, rfl, trivial⟩⟩⟩
    · refine SCmp.yes (rfl) ?_
      refine SIdx.mk 3 _ rfl rfl ?_
      refine SCall.pure (none1_ok (m 3) (lst (cntH 1 n r) H) (fun i hi => by rw [lst_length] at hi; rw [lst_getD hi]; exact check1_ok _ ((h.bH i hi).mono (by omega))) (by rw [lst_length]; exact Nat.le_trans (cb 3) (by decide))) ?_
      refine SCond.mk (fun h => by cases h) (fun _ => ?_)
      refine SWrap.i64z ((3 + 1 : Nat) : Int) (by omega) (by omega) ?_
      exact ⟨3 + 1, [0, 1], by decide, by decide, ⟨rfl, by simp, rfl, rfl, rfl, ⟨rfl, rfl, rfl, trivial⟩, ⟨rfl, rfl, trivial⟩⟩⟩
    · refine SCmp.no (rfl) ?_
      refine SZ.mk ((cntA 1 n : Nat) : Int) (by simp [lst]) ?_
      refine SLoop.mk Nat (fun i => ([(1, .bptr 0 0), (68, .p (ratsM (m 0) (lst (cntA 1 n) A))), (69, .p (.int .i64 ((cntA 1 n : Nat) : Int))), (70, .p (.int .i64 i))], [.box 59 [.p (.int .i64 ((1 : Nat) : Int)), .p (.int .i64 (n : Int)), .p (.int .i64 (r : Int)), .p (ratsM (m 0) (lst (cntA 1 n) A)), .p (ratsM (m 1) (lst (cntB 1 n) B)), .p (ratsM (m 2) (lst (cntH 1 n r) G)), .p (ratsM (m 3) (lst (cntH 1 n r) H))], .box 189 [.p (ratsM (m 0) (lst (cntA 1 n) A)), .p (ratsM (m 1) (lst (cntB 1 n) B)), .p (ratsM (m 2) (lst (cntH 1 n r) G)), .p (ratsM (m 3) (lst (cntH 1 n r) H))]]))
        (fun i => i ≤ cntA 1 n) (fun i => cntA 1 n - i) 0 [0, 1] (Nat.zero_le _) ⟨rfl, by simp, rfl, rfl, rfl, ⟨rfl, rfl, rfl, rfl, trivial⟩, ⟨rfl, rfl, trivial⟩⟩ ?_
      intro i hi
      have hi : i ≤ cntA 1 n := hi
      have cA := cb 0
      by_cases hia : i < cntA 1 n
      · refine SCmp.yes (decide_eq_true (by omega)) ?_
        refine SIdx.rf i rfl hia ?_
        have hz := (h.bA i hia).mono (show b ≤ c by omega)
        have hc2 := none2_ok (m 1) true (A i) (lst (cntB 1 n) B) (fun j hj => by
          rw [lst_length] at hj; rw [lst_getD hj]
          have := check2_ok true (A i) (B j) hz (h.bB j hj) (by omega)
          rw [decide_eq_false (h.ne i j hia hj)] at this
          exact this) (by rw [lst_length]; exact Nat.le_trans (cb 1) (by decide))
        refine SCall.pure (pvs := [ratsM (m 1) (lst (cntB 1 n) B), .fn 189 [.pel true (ratP (A i))]]) hc2 ?_
        refine SCond.mk (fun h => by cases h) (fun _ => ?_)
        refine SWrap.i64z ((i + 1 : Nat) : Int) (by omega) (by omega) ?_
        exact ⟨i + 1, [0, 1], hia, by show cntA 1 n - (i + 1) < cntA 1 n - i; omega, ⟨rfl, by simp, rfl, rfl, rfl, ⟨rfl, rfl, rfl, rfl, trivial⟩, ⟨rfl, rfl, trivial⟩⟩⟩
      · refine SCmp.no (decide_eq_false (by omega)) ?_
        exact SRet.pure (.p _ (.int _ _))
theorem gcheck2_ok (m : Nat → Bool) (n r : Nat) (A B G H : Nat → Rat) {b c : Nat} (h : Wf ⟨2, n, r, A, B, G, H⟩ b c) : CallP Try.prog 150 [genP m ⟨2, n, r, A, B, G, H⟩] (.p (.int .i64 0)) [] := by
  have n6 : n ≤ 6 := h.n6
  have n1 : 1 ≤ n := h.n1
  have r2 : r ≤ 2 := h.r2
  have hnr : n * r ≤ 12 := Nat.mul_le_mul n6 r2
  have hc4 := h.c4
  have hbc := h.bc
  have cc := cnt_le (k := 2) (r := r) n1 (show n ≤ 8 by omega) (show r ≤ 3 by omega)
  have cb : ∀ i : Nat, (if i = 0 then cntA 2 n else if i = 1 then cntB 2 n else cntH 2 n r) ≤ 24 := fun i => by split <;> (try split) <;> omega
  show CallP Try.prog 150 [.agg [.int .i64 ((2 : Nat) : Int), .int .i64 (n : Int), .int .i64 (r : Int), ratsM (m 0) (lst (cntA 2 n) A), ratsM (m 1) (lst (cntB 2 n) B), ratsM (m 2) (lst (cntH 2 n r) G), ratsM (m 3) (lst (cntH 2 n r) H)]] (.p (.int .i64 0)) []
  refine callG_of_vc (wr := wr0) Γok mixed Try.func150 (by kernel_rfl) rfl (by kernel_rfl) (le_of_ble rfl) (by simp) ?_
  refine SCmp.no (decide_eq_false (by omega)) ?_
  refine SCmp.no (decide_eq_false (by omega)) ?_
  refine SCall.pure (sized_ok m ⟨2, n, r, A, B, G, H⟩ h) ?_
  refine SCmp.no (rfl) ?_
  refine SCall.lent [genP m ⟨2, n, r, A, B, G, H⟩] _ rfl (genrows_ok m ⟨2, n, r, A, B, G, H⟩) ?_
  refine SCall.pure (counts_ok) ?_
  refine SLoop.mk Nat (fun i => ([(1, .bptr 0 0), (3, .bptr 1 0), (4, .p (.mp false cntM)), (28, .p (.agg [ratsM (m 0) (lst (cntA 2 n) A), ratsM (m 1) (lst (cntB 2 n) B), ratsM (m 2) (lst (cntH 2 n r) G), ratsM (m 3) (lst (cntH 2 n r) H)])), (29, .p (.int .i64 i))], [.box 59 [.p (.int .i64 ((2 : Nat) : Int)), .p (.int .i64 (n : Int)), .p (.int .i64 (r : Int)), .p (ratsM (m 0) (lst (cntA 2 n) A)), .p (ratsM (m 1) (lst (cntB 2 n) B)), .p (ratsM (m 2) (lst (cntH 2 n r) G)), .p (ratsM (m 3) (lst (cntH 2 n r) H))], .box 189 [.p (ratsM (m 0) (lst (cntA 2 n) A)), .p (ratsM (m 1) (lst (cntB 2 n) B)), .p (ratsM (m 2) (lst (cntH 2 n r) G)), .p (ratsM (m 3) (lst (cntH 2 n r) H))]]))
    (fun i => i ≤ 4) (fun i => 4 - i) 0 [0, 1] (Nat.zero_le _) ⟨rfl, by simp, rfl, rfl, rfl, ⟨rfl, rfl, rfl, rfl, rfl, trivial⟩, ⟨rfl, rfl, trivial⟩⟩ ?_
  intro i hi
  have hi : i ≤ 4 := hi
  rcases (show i = 0 ∨ i = 1 ∨ i = 2 ∨ i = 3 ∨ i = 4 by omega) with rfl | rfl | rfl | rfl | rfl
  · refine SCmp.yes (rfl) ?_
    refine SIdx.mk 0 _ rfl rfl ?_
    refine SKeys.all rfl <| SGet.at 1 _ rfl rfl rfl ?_
    refine SZ.mk ((cntA 2 n : Nat) : Int) (by simp [lst]) ?_
    refine SPos.mk 0 rfl (by decide) ?_
    refine SWrap.i64z ((2 * n : Nat) : Int) (by omega) (by omega) ?_
    refine SPos.mk 1 rfl (by decide) ?_
    refine SWrap.i64z ((0 * n : Nat) : Int) (by omega) (by omega) ?_
    refine SWrap.i64z ((0 : Nat) : Int) (by simp) (by omega) ?_
    refine SWrap.i64z ((2 * n + 0 : Nat) : Int) (by omega) (by omega) ?_
    refine SPos.mk 2 rfl (by decide) ?_
    refine SWrap.i64z ((cntA 2 n : Nat) : Int) (by simp [cntA, cntB, cntH] <;> omega) (by have := cnt_le (k := 2) (r := r) n1 (show n ≤ 8 by omega) (show r ≤ 3 by omega); omega) ?_
    refine SCmp.no (neF rfl) ?_
    refine SWrap.i64z ((0 + 1 : Nat) : Int) (by omega) (by omega) ?_
    exact ⟨0 + 1, [0, 1], by decide, by decide, ⟨rfl, by simp, rfl, rfl, rfl, ⟨rfl, rfl, rfl, rfl, rfl, trivial⟩, ⟨rfl, rfl, trivial⟩⟩⟩
  · refine SCmp.yes (rfl) ?_
    refine SIdx.mk 1 _ rfl rfl ?_
    refine SKeys.all rfl <| SGet.none rfl ?_
    refine SZ.mk ((cntB 2 n : Nat) : Int) (by simp [lst]) ?_
    refine SPos.mk 0 rfl (by decide) ?_
    refine SWrap.i64z ((0 * n : Nat) : Int) (by omega) (by omega) ?_
    refine SPos.mk 1 rfl (by decide) ?_
    refine SWrap.i64z ((0 * n : Nat) : Int) (by omega) (by omega) ?_
    refine SWrap.i64z ((0 : Nat) : Int) (by simp) (by omega) ?_
    refine SWrap.i64z ((0 * n + 0 : Nat) : Int) (by omega) (by omega) ?_
    refine SPos.mk 2 rfl (by decide) ?_
    refine SWrap.i64z ((cntB 2 n : Nat) : Int) (by simp [cntA, cntB, cntH] <;> omega) (by have := cnt_le (k := 2) (r := r) n1 (show n ≤ 8 by omega) (show r ≤ 3 by omega); omega) ?_
    refine SCmp.no (neF rfl) ?_
    refine SWrap.i64z ((1 + 1 : Nat) : Int) (by omega) (by omega) ?_
    exact ⟨1 + 1, [0, 1], by decide, by decide, ⟨rfl, by simp, rfl, rfl, rfl, ⟨rfl, rfl, rfl, rfl, rfl, trivial⟩, ⟨rfl, rfl, trivial⟩⟩⟩
  · refine SCmp.yes (rfl) ?_
    refine SIdx.mk 2 _ rfl rfl ?_
    refine SKeys.all rfl <| SGet.none rfl ?_
    refine SZ.mk ((cntH 2 n r : Nat) : Int) (by simp [lst]) ?_
    refine SPos.mk 0 rfl (by decide) ?_
    refine SWrap.i64z ((0 * n : Nat) : Int) (by omega) (by omega) ?_
    refine SPos.mk 1 rfl (by decide) ?_
    refine SWrap.i64z ((0 * n : Nat) : Int) (by omega) (by omega) ?_
    refine SWrap.i64z ((0 : Nat) : Int) (by simp) (by omega) ?_
    refine SWrap.i64z ((0 * n + 0 : Nat) : Int) (by omega) (by omega) ?_
    refine SPos.mk 2 rfl (by decide) ?_
    refine SWrap.i64z ((cntH 2 n r : Nat) : Int) (by simp [cntA, cntB, cntH] <;> omega) (by have := cnt_le (k := 2) (r := r) n1 (show n ≤ 8 by omega) (show r ≤ 3 by omega); omega) ?_
    refine SCmp.no (neF rfl) ?_
    refine SWrap.i64z ((2 + 1 : Nat) : Int) (by omega) (by omega) ?_
    exact ⟨2 + 1, [0, 1], by decide, by decide, ⟨rfl, by simp, rfl, rfl, rfl, ⟨rfl, rfl, rfl, rfl, rfl, trivial⟩, ⟨rfl, rfl, trivial⟩⟩⟩
  · refine SCmp.yes (rfl) ?_
    refine SIdx.mk 3 _ rfl rfl ?_
    refine SKeys.all rfl <| SGet.none rfl ?_
    refine SZ.mk ((cntH 2 n r : Nat) : Int) (by simp [lst]) ?_
    refine SPos.mk 0 rfl (by decide) ?_
    refine SWrap.i64z ((0 * n : Nat) : Int) (by omega) (by omega) ?_
    refine SPos.mk 1 rfl (by decide) ?_
    refine SWrap.i64z ((0 * n : Nat) : Int) (by omega) (by omega) ?_
    refine SWrap.i64z ((0 : Nat) : Int) (by simp) (by omega) ?_
    refine SWrap.i64z ((0 * n + 0 : Nat) : Int) (by omega) (by omega) ?_
    refine SPos.mk 2 rfl (by decide) ?_
    refine SWrap.i64z ((cntH 2 n r : Nat) : Int) (by simp [cntA, cntB, cntH] <;> omega) (by have := cnt_le (k := 2) (r := r) n1 (show n ≤ 8 by omega) (show r ≤ 3 by omega); omega) ?_
    refine SCmp.no (neF rfl) ?_
    refine SWrap.i64z ((3 + 1 : Nat) : Int) (by omega) (by omega) ?_
    exact ⟨3 + 1, [0, 1], by decide, by decide, ⟨rfl, by simp, rfl, rfl, rfl, ⟨rfl, rfl, rfl, rfl, rfl, trivial⟩, ⟨rfl, rfl, trivial⟩⟩⟩
  · refine SCmp.no (rfl) ?_
    refine SLoop.mk Nat (fun i => ([(1, .bptr 0 0), (60, .p (.agg [ratsM (m 0) (lst (cntA 2 n) A), ratsM (m 1) (lst (cntB 2 n) B), ratsM (m 2) (lst (cntH 2 n r) G), ratsM (m 3) (lst (cntH 2 n r) H)])), (61, .p (.int .i64 i))], [.box 59 [.p (.int .i64 ((2 : Nat) : Int)), .p (.int .i64 (n : Int)), .p (.int .i64 (r : Int)), .p (ratsM (m 0) (lst (cntA 2 n) A)), .p (ratsM (m 1) (lst (cntB 2 n) B)), .p (ratsM (m 2) (lst (cntH 2 n r) G)), .p (ratsM (m 3) (lst (cntH 2 n r) H))], .box 189 [.p (ratsM (m 0) (lst (cntA 2 n) A)), .p (ratsM (m 1) (lst (cntB 2 n) B)), .p (ratsM (m 2) (lst (cntH 2 n r) G)), .p (ratsM (m 3) (lst (cntH 2 n r) H))]]))
      (fun i => i ≤ 4) (fun i => 4 - i) 0 [0, 1] (Nat.zero_le _) ⟨rfl, by simp, rfl, rfl, rfl, ⟨rfl, rfl, rfl, trivial⟩, ⟨rfl, rfl, trivial⟩⟩ ?_
    intro i hi
    have hi : i ≤ 4 := hi
    rcases (show i = 0 ∨ i = 1 ∨ i = 2 ∨ i = 3 ∨ i = 4 by omega) with rfl | rfl | rfl | rfl | rfl
    · refine SCmp.yes (rfl) ?_
      refine SIdx.mk 0 _ rfl rfl ?_
      refine SCall.pure (none1_ok (m 0) (lst (cntA 2 n) A) (fun i hi => by rw [lst_length] at hi; rw [lst_getD hi]; exact check1_ok _ ((h.bA i hi).mono (by omega))) (by rw [lst_length]; exact Nat.le_trans (cb 0) (by decide))) ?_
      refine SCond.mk (fun h => by cases h) (fun _ => ?_)
      refine SWrap.i64z ((0 + 1 : Nat) : Int) (by omega) (by omega) ?_
      exact ⟨0 + 1, [0, 1], by decide, by decide, ⟨rfl, by simp, rfl, rfl, rfl, ⟨rfl, rfl, rfl, trivial⟩, ⟨rfl, rfl, trivial⟩⟩⟩
    · refine SCmp.yes (rfl) ?_
      refine SIdx.mk 1 _ rfl rfl ?_
      refine SCall.pure (none1_ok (m 1) (lst (cntB 2 n) B) (fun i hi => by rw [lst_length] at hi; rw [lst_getD hi]; exact check1_ok _ ((h.bB i hi).mono (by omega))) (by rw [lst_length]; exact Nat.le_trans (cb 1) (by decide))) ?_
      refine SCond.mk (fun h => by cases h) (fun _ => ?_)
      refine SWrap.i64z ((1 + 1 : Nat) : Int) (by omega) (by omega) ?_
      exact ⟨1 + 1, [0, 1], by decide, by decide, ⟨rfl, by simp, rfl, rfl, rfl, ⟨rfl, rfl, rfl, trivial⟩, ⟨rfl, rfl, trivial⟩⟩⟩
    · refine SCmp.yes (rfl) ?_
      refine SIdx.mk 2 _ rfl rfl ?_
      refine SCall.pure (none1_ok (m 2) (lst (cntH 2 n r) G) (fun i hi => by rw [lst_length] at hi; rw [lst_getD hi]; exact check1_ok _ ((h.bG i hi).mono (by omega))) (by rw [lst_length]; exact Nat.le_trans (cb 2) (by decide))) ?_
      refine SCond.mk (fun h => by cases h) (fun _ => ?_)
      refine SWrap.i64z ((2 + 1 : Nat) : Int) (by omega) (by omega) ?_
      exact ⟨2 + 1, [0, 1], by decide, by decide, ⟨rfl, by simp, rfl, rfl, rfl, ⟨rfl, rfl, rfl, trivial⟩, ⟨rfl, rfl, trivial⟩⟩⟩
    · refine SCmp.yes (rfl) ?_
      refine SIdx.mk 3 _ rfl rfl ?_
      refine SCall.pure (none1_ok (m 3) (lst (cntH 2 n r) H) (fun i hi => by rw [lst_length] at hi; rw [lst_getD hi]; exact check1_ok _ ((h.bH i hi).mono (by omega))) (by rw [lst_length]; exact Nat.le_trans (cb 3) (by decide))) ?_
      refine SCond.mk (fun h => by cases h) (fun _ => ?_)
      refine SWrap.i64z ((3 + 1 : Nat) : Int) (by omega) (by omega) ?_
      exact ⟨3 + 1, [0, 1], by decide, by decide, ⟨rfl, by simp, rfl, rfl, rfl, ⟨rfl, rfl, rfl, trivial⟩, ⟨rfl, rfl, trivial⟩⟩⟩
    · refine SCmp.no (rfl) ?_
      refine SZ.mk ((cntA 2 n : Nat) : Int) (by simp [lst]) ?_
      refine SLoop.mk Nat (fun i => ([(1, .bptr 0 0), (68, .p (ratsM (m 0) (lst (cntA 2 n) A))), (69, .p (.int .i64 ((cntA 2 n : Nat) : Int))), (70, .p (.int .i64 i))], [.box 59 [.p (.int .i64 ((2 : Nat) : Int)), .p (.int .i64 (n : Int)), .p (.int .i64 (r : Int)), .p (ratsM (m 0) (lst (cntA 2 n) A)), .p (ratsM (m 1) (lst (cntB 2 n) B)), .p (ratsM (m 2) (lst (cntH 2 n r) G)), .p (ratsM (m 3) (lst (cntH 2 n r) H))], .box 189 [.p (ratsM (m 0) (lst (cntA 2 n) A)), .p (ratsM (m 1) (lst (cntB 2 n) B)), .p (ratsM (m 2) (lst (cntH 2 n r) G)), .p (ratsM (m 3) (lst (cntH 2 n r) H))]]))
        (fun i => i ≤ cntA 2 n) (fun i => cntA 2 n - i) 0 [0, 1] (Nat.zero_le _) ⟨rfl, by simp, rfl, rfl, rfl, ⟨rfl, rfl, rfl, rfl, trivial⟩, ⟨rfl, rfl, trivial⟩⟩ ?_
      intro i hi
      have hi : i ≤ cntA 2 n := hi
      have cA := cb 0
      by_cases hia : i < cntA 2 n
      · refine SCmp.yes (decide_eq_true (by omega)) ?_
        refine SIdx.rf i rfl hia ?_
        have hz := (h.bA i hia).mono (show b ≤ c by omega)
        have hc2 := none2_ok (m 1) true (A i) (lst (cntB 2 n) B) (fun j hj => by
          rw [lst_length] at hj; rw [lst_getD hj]
          have := check2_ok true (A i) (B j) hz (h.bB j hj) (by omega)
          rw [decide_eq_false (h.ne i j hia hj)] at this
          exact this) (by rw [lst_length]; exact Nat.le_trans (cb 1) (by decide))
        refine SCall.pure (pvs := [ratsM (m 1) (lst (cntB 2 n) B), .fn 189 [.pel true (ratP (A i))]]) hc2 ?_
        refine SCond.mk (fun h => by cases h) (fun _ => ?_)
        refine SWrap.i64z ((i + 1 : Nat) : Int) (by omega) (by omega) ?_
        exact ⟨i + 1, [0, 1], hia, by show cntA 2 n - (i + 1) < cntA 2 n - i; omega, ⟨rfl, by simp, rfl, rfl, rfl, ⟨rfl, rfl, rfl, rfl, trivial⟩, ⟨rfl, rfl, trivial⟩⟩⟩
      · refine SCmp.no (decide_eq_false (by omega)) ?_
        exact SRet.pure (.p _ (.int _ _))
theorem gcheck3_ok (m : Nat → Bool) (n r : Nat) (A B G H : Nat → Rat) {b c : Nat} (h : Wf ⟨3, n, r, A, B, G, H⟩ b c) : CallP Try.prog 150 [genP m ⟨3, n, r, A, B, G, H⟩] (.p (.int .i64 0)) [] := by
  have n6 : n ≤ 6 := h.n6
  have n1 : 1 ≤ n := h.n1
  have r2 : r ≤ 2 := h.r2
  have hnr : n * r ≤ 12 := Nat.mul_le_mul n6 r2
  have hc4 := h.c4
  have hbc := h.bc
  have cc := cnt_le (k := 3) (r := r) n1 (show n ≤ 8 by omega) (show r ≤ 3 by omega)
  have cb : ∀ i : Nat, (if i = 0 then cntA 3 n else if i = 1 then cntB 3 n else cntH 3 n r) ≤ 24 := fun i => by split <;> (try split) <;> omega
  show CallP Try.prog 150 [.agg [.int .i64 ((3 : Nat) : Int), .int .i64 (n : Int), .int .i64 (r : Int), ratsM (m 0) (lst (cntA 3 n) A), ratsM (m 1) (lst (cntB 3 n) B), ratsM (m 2) (lst (cntH 3 n r) G), ratsM (m 3) (lst (cntH 3 n r) H)]] (.p (.int .i64 0)) []
  refine callG_of_vc (wr := wr0) Γok mixed Try.func150 (by kernel_rfl) rfl (by kernel_rfl) (le_of_ble rfl) (by simp) ?_
  refine SCmp.no (decide_eq_false (by omega)) ?_
  refine SCmp.no (decide_eq_false (by omega)) ?_
  refine SCall.pure (sized_ok m ⟨3, n, r, A, B, G, H⟩ h) ?_
  refine SCmp.no (rfl) ?_
  refine SCall.lent [genP m ⟨3, n, r, A, B, G, H⟩] _ rfl (genrows_ok m ⟨3, n, r, A, B, G, H⟩) ?_
  refine SCall.pure (counts_ok) ?_
  refine SLoop.mk Nat (fun i => ([(1, .bptr 0 0), (3, .bptr 1 0), (4, .p (.mp false cntM)), (28, .p (.agg [ratsM (m 0) (lst (cntA 3 n) A), ratsM (m 1) (lst (cntB 3 n) B), ratsM (m 2) (lst (cntH 3 n r) G), ratsM (m 3) (lst (cntH 3 n r) H)])), (29, .p (.int .i64 i))], [.box 59 [.p (.int .i64 ((3 : Nat) : Int)), .p (.int .i64 (n : Int)), .p (.int .i64 (r : Int)), .p (ratsM (m 0) (lst (cntA 3 n) A)), .p (ratsM (m 1) (lst (cntB 3 n) B)), .p (ratsM (m 2) (lst (cntH 3 n r) G)), .p (ratsM (m 3) (lst (cntH 3 n r) H))], .box 189 [.p (ratsM (m 0) (lst (cntA 3 n) A)), .p (ratsM (m 1) (lst (cntB 3 n) B)), .p (ratsM (m 2) (lst (cntH 3 n r) G)), .p (ratsM (m 3) (lst (cntH 3 n r) H))]]))
    (fun i => i ≤ 4) (fun i => 4 - i) 0 [0, 1] (Nat.zero_le _) ⟨rfl, by simp, rfl, rfl, rfl, ⟨rfl, rfl, rfl, rfl, rfl, trivial⟩, ⟨rfl, rfl, trivial⟩⟩ ?_
  intro i hi
  have hi : i ≤ 4 := hi
  rcases (show i = 0 ∨ i = 1 ∨ i = 2 ∨ i = 3 ∨ i = 4 by omega) with rfl | rfl | rfl | rfl | rfl
  · refine SCmp.yes (rfl) ?_
    refine SIdx.mk 0 _ rfl rfl ?_
    refine SKeys.all rfl <| SGet.at 2 _ rfl rfl rfl ?_
    refine SZ.mk ((cntA 3 n : Nat) : Int) (by simp [lst]) ?_
    refine SPos.mk 0 rfl (by decide) ?_
    refine SWrap.i64z ((1 * n : Nat) : Int) (by omega) (by omega) ?_
    refine SPos.mk 1 rfl (by decide) ?_
    refine SWrap.i64z ((0 * n : Nat) : Int) (by omega) (by omega) ?_
    refine SWrap.i64z ((0 : Nat) : Int) (by simp) (by omega) ?_
    refine SWrap.i64z ((1 * n + 0 : Nat) : Int) (by omega) (by omega) ?_
    refine SPos.mk 2 rfl (by decide) ?_
    refine SWrap.i64z ((cntA 3 n : Nat) : Int) (by simp [cntA, cntB, cntH] <;> omega) (by have := cnt_le (k := 3) (r := r) n1 (show n ≤ 8 by omega) (show r ≤ 3 by omega); omega) ?_
    refine SCmp.no (neF rfl) ?_
    refine SWrap.i64z ((0 + 1 : Nat) : Int) (by omega) (by omega) ?_
    exact ⟨0 + 1, [0, 1], by decide, by decide, ⟨rfl, by simp, rfl, rfl, rfl, ⟨rfl, rfl, rfl, rfl, rfl, trivial⟩, ⟨rfl, rfl, trivial⟩⟩⟩
  · refine SCmp.yes (rfl) ?_
    refine SIdx.mk 1 _ rfl rfl ?_
    refine SKeys.all rfl <| SGet.none rfl ?_
    refine SZ.mk ((cntB 3 n : Nat) : Int) (by simp [lst]) ?_
    refine SPos.mk 0 rfl (by decide) ?_
    refine SWrap.i64z ((0 * n : Nat) : Int) (by omega) (by omega) ?_
    refine SPos.mk 1 rfl (by decide) ?_
    refine SWrap.i64z ((0 * n : Nat) : Int) (by omega) (by omega) ?_
    refine SWrap.i64z ((0 : Nat) : Int) (by simp) (by omega) ?_
    refine SWrap.i64z ((0 * n + 0 : Nat) : Int) (by omega) (by omega) ?_
    refine SPos.mk 2 rfl (by decide) ?_
    refine SWrap.i64z ((cntB 3 n : Nat) : Int) (by simp [cntA, cntB, cntH] <;> omega) (by have := cnt_le (k := 3) (r := r) n1 (show n ≤ 8 by omega) (show r ≤ 3 by omega); omega) ?_
    refine SCmp.no (neF rfl) ?_
    refine SWrap.i64z ((1 + 1 : Nat) : Int) (by omega) (by omega) ?_
    exact ⟨1 + 1, [0, 1], by decide, by decide, ⟨rfl, by simp, rfl, rfl, rfl, ⟨rfl, rfl, rfl, rfl, rfl, trivial⟩, ⟨rfl, rfl, trivial⟩⟩⟩
  · refine SCmp.yes (rfl) ?_
    refine SIdx.mk 2 _ rfl rfl ?_
    refine SKeys.all rfl <| SGet.none rfl ?_
    refine SZ.mk ((cntH 3 n r : Nat) : Int) (by simp [lst]) ?_
    refine SPos.mk 0 rfl (by decide) ?_
    refine SWrap.i64z ((0 * n : Nat) : Int) (by omega) (by omega) ?_
    refine SPos.mk 1 rfl (by decide) ?_
    refine SWrap.i64z ((0 * n : Nat) : Int) (by omega) (by omega) ?_
    refine SWrap.i64z ((0 : Nat) : Int) (by simp) (by omega) ?_
    refine SWrap.i64z ((0 * n + 0 : Nat) : Int) (by omega) (by omega) ?_
    refine SPos.mk 2 rfl (by decide) ?_
    refine SWrap.i64z ((cntH 3 n r : Nat) : Int) (by simp [cntA, cntB, cntH] <;> omega) (by have := cnt_le (k := 3) (r := r) n1 (show n ≤ 8 by omega) (show r ≤ 3 by omega); omega) ?_
    refine SCmp.no (neF rfl) ?_
    refine SWrap.i64z ((2 + 1 : Nat) : Int) (by omega) (by omega) ?_
    exact ⟨2 + 1, [0, 1], by decide, by decide, ⟨rfl, by simp, rfl, rfl, rfl, ⟨rfl, rfl, rfl, rfl, rfl, trivial⟩, ⟨rfl, rfl, trivial⟩⟩⟩
  · refine SCmp.yes (rfl) ?_
    refine SIdx.mk 3 _ rfl rfl ?_
    refine SKeys.all rfl <| SGet.none rfl ?_
    refine SZ.mk ((cntH 3 n r : Nat) : Int) (by simp [lst]) ?_
    refine SPos.mk 0 rfl (by decide) ?_
    refine SWrap.i64z ((0 * n : Nat) : Int) (by omega) (by omega) ?_
    refine SPos.mk 1 rfl (by decide) ?_
    refine SWrap.i64z ((0 * n : Nat) : Int) (by omega) (by omega) ?_
    refine SWrap.i64z ((0 : Nat) : Int) (by simp) (by omega) ?_
    refine SWrap.i64z ((0 * n + 0 : Nat) : Int) (by omega) (by omega) ?_
    refine SPos.mk 2 rfl (by decide) ?_
    refine SWrap.i64z ((cntH 3 n r : Nat) : Int) (by simp [cntA, cntB, cntH] <;> omega) (by have := cnt_le (k := 3) (r := r) n1 (show n ≤ 8 by omega) (show r ≤ 3 by omega); omega) ?_
    refine SCmp.no (neF rfl) ?_
    refine SWrap.i64z ((3 + 1 : Nat) : Int) (by omega) (by omega) ?_
    exact ⟨3 + 1, [0, 1], by decide, by decide, ⟨rfl, by simp, rfl, rfl, rfl, ⟨rfl, rfl, rfl, rfl, rfl, trivial⟩, ⟨rfl, rfl, trivial⟩⟩⟩
  · refine SCmp.no (rfl) ?_
    refine SLoop.mk Nat (fun i => ([(1, .bptr 0 0), (60, .p (.agg [ratsM (m 0) (lst (cntA 3 n) A), ratsM (m 1) (lst (cntB 3 n) B), ratsM (m 2) (lst (cntH 3 n r) G), ratsM (m 3) (lst (cntH 3 n r) H)])), (61, .p (.int .i64 i))], [.box 59 [.p (.int .i64 ((3 : Nat) : Int)), .p (.int .i64 (n : Int)), .p (.int .i64 (r : Int)), .p (ratsM (m 0) (lst (cntA 3 n) A)), .p (ratsM (m 1) (lst (cntB 3 n) B)), .p (ratsM (m 2) (lst (cntH 3 n r) G)), .p (ratsM (m 3) (lst (cntH 3 n r) H))], .box 189 [.p (ratsM (m 0) (lst (cntA 3 n) A)), .p (ratsM (m 1) (lst (cntB 3 n) B)), .p (ratsM (m 2) (lst (cntH 3 n r) G)), .p (ratsM (m 3) (lst (cntH 3 n r) H))]]))
      (fun i => i ≤ 4) (fun i => 4 - i) 0 [0, 1] (Nat.zero_le _) ⟨rfl, by simp, rfl, rfl, rfl, ⟨rfl, rfl, rfl, trivial⟩, ⟨rfl, rfl, trivial⟩⟩ ?_
    intro i hi
    have hi : i ≤ 4 := hi
    rcases (show i = 0 ∨ i = 1 ∨ i = 2 ∨ i = 3 ∨ i = 4 by omega) with rfl | rfl | rfl | rfl | rfl
    · refine SCmp.yes (rfl) ?_
      refine SIdx.mk 0 _ rfl rfl ?_
      refine SCall.pure (none1_ok (m 0) (lst (cntA 3 n) A) (fun i hi => by rw [lst_length] at hi; rw [lst_getD hi]; exact check1_ok _ ((h.bA i hi).mono (by omega))) (by rw [lst_length]; exact Nat.le_trans (cb 0) (by decide))) ?_
      refine SCond.mk (fun h => by cases h) (fun _ => ?_)
      refine SWrap.i64z ((0 + 1 : Nat) : Int) (by omega) (by omega) ?_
      exact ⟨0 + 1, [0, 1], by decide, by decide, ⟨rfl, by simp, rfl, rfl, rfl, ⟨rfl, rfl, rfl, trivial⟩, ⟨rfl, rfl, trivial⟩⟩⟩
    · refine SCmp.yes (rfl) ?_
      refine SIdx.mk 1 _ rfl rfl ?_
      refine SCall.pure (none1_ok (m 1) (lst (cntB 3 n) B) (fun i hi => by rw [lst_length] at hi; rw [lst_getD hi]; exact check1_ok _ ((h.bB i hi).mono (by omega))) (by rw [lst_length]; exact Nat.le_trans (cb 1) (by decide))) ?_
      refine SCond.mk (fun h => by cases h) (fun _ => ?_)
      refine SWrap.i64z ((1 + 1 : Nat) : Int) (by omega) (by omega) ?_
      exact ⟨1 + 1, [0, 1], by decide, by decide, ⟨rfl, by simp, rfl, rfl, rfl, ⟨rfl, rfl, rfl, trivial⟩, ⟨rfl, rfl, trivial⟩⟩⟩
    · refine SCmp.yes (rfl) ?_
      refine SIdx.mk 2 _ rfl rfl ?_
      refine SCall.pure (none1_ok (m 2) (lst (cntH 3 n r) G) (fun i hi => by rw [lst_length] at hi; rw [lst_getD hi]; exact check1_ok _ ((h.bG i hi).mono (by omega))) (by rw [lst_length]; exact Nat.le_trans (cb 2) (by decide))) ?_
      refine SCond.mk (fun h => by cases h) (fun _ => ?_)
      refine SWrap.i64z ((2 + 1 : Nat) : Int) (by omega) (by omega) ?_
      exact ⟨2 + 1, [0, 1], by decide, by decide, ⟨rfl, by simp, rfl, rfl, rfl, ⟨rfl, rfl, rfl, trivial⟩, ⟨rfl, rfl, trivial⟩⟩⟩
    · refine SCmp.yes (rfl) ?_
      refine SIdx.mk 3 _ rfl rfl ?_
      refine SCall.pure (none1_ok (m 3) (lst (cntH 3 n r) H) (fun i hi => by rw [lst_length] at hi; rw [lst_getD hi]; exact check1_ok _ ((h.bH i hi).mono (by omega))) (by rw [lst_length]; exact Nat.le_trans (cb 3) (by decide))) ?_
      refine SCond.mk (fun h => by cases h) (fun _ => ?_)
      refine SWrap.i64z ((3 + 1 : Nat) : Int) (by omega) (by omega) ?_
      exact ⟨3 + 1, [0, 1], by decide, by decide, ⟨rfl, by simp, rfl, rfl, rfl, ⟨rfl, rfl, rfl, trivial⟩, ⟨rfl, rfl, trivial⟩⟩⟩
    · refine SCmp.no (rfl) ?_
      refine SZ.mk ((cntA 3 n : Nat) : Int) (by simp [lst]) ?_
      refine SLoop.mk Nat (fun i => ([(1, .bptr 0 0), (68, .p (ratsM (m 0) (lst (cntA 3 n) A))), (69, .p (.int .i64 ((cntA 3 n : Nat) : Int))), (70, .p (.int .i64 i))], [.box 59 [.p (.int .i64 ((3 : Nat) : Int)), .p (.int .i64 (n : Int)), .p (.int .i64 (r : Int)), .p (ratsM (m 0) (lst (cntA 3 n) A)), .p (ratsM (m 1) (lst (cntB 3 n) B)), .p (ratsM (m 2) (lst (cntH 3 n r) G)), .p (ratsM (m 3) (lst (cntH 3 n r) H))], .box 189 [.p (ratsM (m 0) (lst (cntA 3 n) A)), .p (ratsM (m 1) (lst (cntB 3 n) B)), .p (ratsM (m 2) (lst (cntH 3 n r) G)), .p (ratsM (m 3) (lst (cntH 3 n r) H))]]))
        (fun i => i ≤ cntA 3 n) (fun i => cntA 3 n - i) 0 [0, 1] (Nat.zero_le _) ⟨rfl, by simp, rfl, rfl, rfl, ⟨rfl, rfl, rfl, rfl, trivial⟩, ⟨rfl, rfl, trivial⟩⟩ ?_
      intro i hi
      have hi : i ≤ cntA 3 n := hi
      have cA := cb 0
      by_cases hia : i < cntA 3 n
      · refine SCmp.yes (decide_eq_true (by omega)) ?_
        refine SIdx.rf i rfl hia ?_
        have hz := (h.bA i hia).mono (show b ≤ c by omega)
        have hc2 := none2_ok (m 1) true (A i) (lst (cntB 3 n) B) (fun j hj => by
          rw [lst_length] at hj; rw [lst_getD hj]
          have := check2_ok true (A i) (B j) hz (h.bB j hj) (by omega)
          rw [decide_eq_false (h.ne i j hia hj)] at this
          exact this) (by rw [lst_length]; exact Nat.le_trans (cb 1) (by decide))
        refine SCall.pure (pvs := [ratsM (m 1) (lst (cntB 3 n) B), .fn 189 [.pel true (ratP (A i))]]) hc2 ?_
        refine SCond.mk (fun h => by cases h) (fun _ => ?_)
        refine SWrap.i64z ((i + 1 : Nat) : Int) (by omega) (by omega) ?_
        exact ⟨i + 1, [0, 1], hia, by show cntA 3 n - (i + 1) < cntA 3 n - i; omega, ⟨rfl, by simp, rfl, rfl, rfl, ⟨rfl, rfl, rfl, rfl, trivial⟩, ⟨rfl, rfl, trivial⟩⟩⟩
      · refine SCmp.no (decide_eq_false (by omega)) ?_
        exact SRet.pure (.p _ (.int _ _))
theorem gcheck4_ok (m : Nat → Bool) (n r : Nat) (A B G H : Nat → Rat) {b c : Nat} (h : Wf ⟨4, n, r, A, B, G, H⟩ b c) : CallP Try.prog 150 [genP m ⟨4, n, r, A, B, G, H⟩] (.p (.int .i64 0)) [] := by
  have n6 : n ≤ 6 := h.n6
  have n1 : 1 ≤ n := h.n1
  have r2 : r ≤ 2 := h.r2
  have hnr : n * r ≤ 12 := Nat.mul_le_mul n6 r2
  have hc4 := h.c4
  have hbc := h.bc
  have cc := cnt_le (k := 4) (r := r) n1 (show n ≤ 8 by omega) (show r ≤ 3 by omega)
  have cb : ∀ i : Nat, (if i = 0 then cntA 4 n else if i = 1 then cntB 4 n else cntH 4 n r) ≤ 24 := fun i => by split <;> (try split) <;> omega
  show CallP Try.prog 150 [.agg [.int .i64 ((4 : Nat) : Int), .int .i64 (n : Int), .int .i64 (r : Int), ratsM (m 0) (lst (cntA 4 n) A), ratsM (m 1) (lst (cntB 4 n) B), ratsM (m 2) (lst (cntH 4 n r) G), ratsM (m 3) (lst (cntH 4 n r) H)]] (.p (.int .i64 0)) []
  refine callG_of_vc (wr := wr0) Γok mixed Try.func150 (by kernel_rfl) rfl (by kernel_rfl) (le_of_ble rfl) (by simp) ?_
  refine SCmp.no (decide_eq_false (by omega)) ?_
  refine SCmp.no (decide_eq_false (by omega)) ?_
  refine SCall.pure (sized_ok m ⟨4, n, r, A, B, G, H⟩ h) ?_
  refine SCmp.no (rfl) ?_
  refine SCall.lent [genP m ⟨4, n, r, A, B, G, H⟩] _ rfl (genrows_ok m ⟨4, n, r, A, B, G, H⟩) ?_
  refine SCall.pure (counts_ok) ?_
  refine SLoop.mk Nat (fun i => ([(1, .bptr 0 0), (3, .bptr 1 0), (4, .p (.mp false cntM)), (28, .p (.agg [ratsM (m 0) (lst (cntA 4 n) A), ratsM (m 1) (lst (cntB 4 n) B), ratsM (m 2) (lst (cntH 4 n r) G), ratsM (m 3) (lst (cntH 4 n r) H)])), (29, .p (.int .i64 i))], [.box 59 [.p (.int .i64 ((4 : Nat) : Int)), .p (.int .i64 (n : Int)), .p (.int .i64 (r : Int)), .p (ratsM (m 0) (lst (cntA 4 n) A)), .p (ratsM (m 1) (lst (cntB 4 n) B)), .p (ratsM (m 2) (lst (cntH 4 n r) G)), .p (ratsM (m 3) (lst (cntH 4 n r) H))], .box 189 [.p (ratsM (m 0) (lst (cntA 4 n) A)), .p (ratsM (m 1) (lst (cntB 4 n) B)), .p (ratsM (m 2) (lst (cntH 4 n r) G)), .p (ratsM (m 3) (lst (cntH 4 n r) H))]]))
    (fun i => i ≤ 4) (fun i => 4 - i) 0 [0, 1] (Nat.zero_le _) ⟨rfl, by simp, rfl, rfl, rfl, ⟨rfl, rfl, rfl, rfl, rfl, trivial⟩, ⟨rfl, rfl, trivial⟩⟩ ?_
  intro i hi
  have hi : i ≤ 4 := hi
  rcases (show i = 0 ∨ i = 1 ∨ i = 2 ∨ i = 3 ∨ i = 4 by omega) with rfl | rfl | rfl | rfl | rfl
  · refine SCmp.yes (rfl) ?_
    refine SIdx.mk 0 _ rfl rfl ?_
    refine SKeys.all rfl <| SGet.at 3 _ rfl rfl rfl ?_
    refine SZ.mk ((cntA 4 n : Nat) : Int) (by simp [lst]) ?_
    refine SPos.mk 0 rfl (by decide) ?_
    refine SWrap.i64z ((1 * n : Nat) : Int) (by omega) (by omega) ?_
    refine SPos.mk 1 rfl (by decide) ?_
    refine SWrap.i64z ((0 * n : Nat) : Int) (by omega) (by omega) ?_
    refine SWrap.i64z ((0 : Nat) : Int) (by simp) (by omega) ?_
    refine SWrap.i64z ((1 * n + 0 : Nat) : Int) (by omega) (by omega) ?_
    refine SPos.mk 2 rfl (by decide) ?_
    refine SWrap.i64z ((cntA 4 n : Nat) : Int) (by simp [cntA, cntB, cntH] <;> omega) (by have := cnt_le (k := 4) (r := r) n1 (show n ≤ 8 by omega) (show r ≤ 3 by omega); omega) ?_
    refine SCmp.no (neF rfl) ?_
    refine SWrap.i64z ((0 + 1 : Nat) : Int) (by omega) (by omega) ?_
    exact ⟨0 + 1, [0, 1], by decide, by decide, ⟨rfl, by simp, rfl, rfl, rfl, ⟨rfl, rfl, rfl, rfl, rfl, trivial⟩, ⟨rfl, rfl, trivial⟩⟩⟩
  · refine SCmp.yes (rfl) ?_
    refine SIdx.mk 1 _ rfl rfl ?_
    refine SKeys.all rfl <| SGet.none rfl ?_
    refine SZ.mk ((cntB 4 n : Nat) : Int) (by simp [lst]) ?_
    refine SPos.mk 0 rfl (by decide) ?_
    refine SWrap.i64z ((0 * n : Nat) : Int) (by omega) (by omega) ?_
    refine SPos.mk 1 rfl (by decide) ?_
    refine SWrap.i64z ((0 * n : Nat) : Int) (by omega) (by omega) ?_
    refine SWrap.i64z ((0 : Nat) : Int) (by simp) (by omega) ?_
    refine SWrap.i64z ((0 * n + 0 : Nat) : Int) (by omega) (by omega) ?_
    refine SPos.mk 2 rfl (by decide) ?_
    refine SWrap.i64z ((cntB 4 n : Nat) : Int) (by simp [cntA, cntB, cntH] <;> omega) (by have := cnt_le (k := 4) (r := r) n1 (show n ≤ 8 by omega) (show r ≤ 3 by omega); omega) ?_
    refine SCmp.no (neF rfl) ?_
    refine SWrap.i64z ((1 + 1 : Nat) : Int) (by omega) (by omega) ?_
    exact ⟨1 + 1, [0, 1], by decide, by decide, ⟨rfl, by simp, rfl, rfl, rfl, ⟨rfl, rfl, rfl, rfl, rfl, trivial⟩, ⟨rfl, rfl, trivial⟩⟩⟩
  · refine SCmp.yes (rfl) ?_
    refine SIdx.mk 2 _ rfl rfl ?_
    refine SKeys.all rfl <| SGet.none rfl ?_
    refine SZ.mk ((cntH 4 n r : Nat) : Int) (by simp [lst]) ?_
    refine SPos.mk 0 rfl (by decide) ?_
    refine SWrap.i64z ((0 * n : Nat) : Int) (by omega) (by omega) ?_
    refine SPos.mk 1 rfl (by decide) ?_
    refine SWrap.i64z ((0 * n : Nat) : Int) (by omega) (by omega) ?_
    refine SWrap.i64z ((0 : Nat) : Int) (by simp) (by omega) ?_
    refine SWrap.i64z ((0 * n + 0 : Nat) : Int) (by omega) (by omega) ?_
    refine SPos.mk 2 rfl (by decide) ?_
    refine SWrap.i64z ((cntH 4 n r : Nat) : Int) (by simp [cntA, cntB, cntH] <;> omega) (by have := cnt_le (k := 4) (r := r) n1 (show n ≤ 8 by omega) (show r ≤ 3 by omega); omega) ?_
    refine SCmp.no (neF rfl) ?_
    refine SWrap.i64z ((2 + 1 : Nat) : Int) (by omega) (by omega) ?_
    exact ⟨2 + 1, [0, 1], by decide, by decide, ⟨rfl, by simp, rfl, rfl, rfl, ⟨rfl, rfl, rfl, rfl, rfl, trivial⟩, ⟨rfl, rfl, trivial⟩⟩⟩
  · refine SCmp.yes (rfl) ?_
    refine SIdx.mk 3 _ rfl rfl ?_
    refine SKeys.all rfl <| SGet.none rfl ?_
    refine SZ.mk ((cntH 4 n r : Nat) : Int) (by simp [lst]) ?_
    refine SPos.mk 0 rfl (by decide) ?_
    refine SWrap.i64z ((0 * n : Nat) : Int) (by omega) (by omega) ?_
    refine SPos.mk 1 rfl (by decide) ?_
    refine SWrap.i64z ((0 * n : Nat) : Int) (by omega) (by omega) ?_
    refine SWrap.i64z ((0 : Nat) : Int) (by simp) (by omega) ?_
    refine SWrap.i64z ((0 * n + 0 : Nat) : Int) (by omega) (by omega) ?_
    refine SPos.mk 2 rfl (by decide) ?_
    refine SWrap.i64z ((cntH 4 n r : Nat) : Int) (by simp [cntA, cntB, cntH] <;> omega) (by have := cnt_le (k := 4) (r := r) n1 (show n ≤ 8 by omega) (show r ≤ 3 by omega); omega) ?_
    refine SCmp.no (neF rfl) ?_
    refine SWrap.i64z ((3 + 1 : Nat) : Int) (by omega) (by omega) ?_
    exact ⟨3 + 1, [0, 1], by decide, by decide, ⟨rfl, by simp, rfl, rfl, rfl, ⟨rfl, rfl, rfl, rfl, rfl, trivial⟩, ⟨rfl, rfl, trivial⟩⟩⟩
  · refine SCmp.no (rfl) ?_
    refine SLoop.mk Nat (fun i => ([(1, .bptr 0 0), (60, .p (.agg [ratsM (m 0) (lst (cntA 4 n) A), ratsM (m 1) (lst (cntB 4 n) B), ratsM (m 2) (lst (cntH 4 n r) G), ratsM (m 3) (lst (cntH 4 n r) H)])), (61, .p (.int .i64 i))], [.box 59 [.p (.int .i64 ((4 : Nat) : Int)), .p (.int .i64 (n : Int)), .p (.int .i64 (r : Int)), .p (ratsM (m 0) (lst (cntA 4 n) A)), .p (ratsM (m 1) (lst (cntB 4 n) B)), .p (ratsM (m 2) (lst (cntH 4 n r) G)), .p (ratsM (m 3) (lst (cntH 4 n r) H))], .box 189 [.p (ratsM (m 0) (lst (cntA 4 n) A)), .p (ratsM (m 1) (lst (cntB 4 n) B)), .p (ratsM (m 2) (lst (cntH 4 n r) G)), .p (ratsM (m 3) (lst (cntH 4 n r) H))]]))
      (fun i => i ≤ 4) (fun i => 4 - i) 0 [0, 1] (Nat.zero_le _) ⟨rfl, by simp, rfl, rfl, rfl, ⟨rfl, rfl, rfl, trivial⟩, ⟨rfl, rfl, trivial⟩⟩ ?_
    intro i hi
    have hi : i ≤ 4 := hi
    rcases (show i = 0 ∨ i = 1 ∨ i = 2 ∨ i = 3 ∨ i = 4 by omega) with rfl | rfl | rfl | rfl | rfl
    · refine SCmp.yes (rfl) ?_
      refine SIdx.mk 0 _ rfl rfl ?_
      refine SCall.pure (none1_ok (m 0) (lst (cntA 4 n) A) (fun i hi => by rw [lst_length] at hi; rw [lst_getD hi]; exact check1_ok _ ((h.bA i hi).mono (by omega))) (by rw [lst_length]; exact Nat.le_trans (cb 0) (by decide))) ?_
      refine SCond.mk (fun h => by cases h) (fun _ => ?_)
      refine SWrap.i64z ((0 + 1 : Nat) : Int) (by omega) (by omega) ?_
      exact ⟨0 + 1, [0, 1], by decide, by decide, ⟨rfl, by simp, rfl, rfl, rfl, ⟨rfl, rfl, rfl, trivial⟩, ⟨rfl, rfl, trivial⟩⟩⟩
    · refine SCmp.yes (rfl) ?_
      refine SIdx.mk 1 _ rfl rfl ?_
      refine SCall.pure (none1_ok (m 1) (lst (cntB 4 n) B) (fun i hi => by rw [lst_length] at hi; rw [lst_getD hi]; exact check1_ok _ ((h.bB i hi).mono (by omega))) (by rw [lst_length]; exact Nat.le_trans (cb 1) (by decide))) ?_
      refine SCond.mk (fun h => by cases h) (fun _ => ?_)
      refine SWrap.i64z ((1 + 1 : Nat) : Int) (by omega) (by omega) ?_
      exact ⟨1 + 1, [0, 1], by decide, by decide, ⟨rfl, by simp, rfl, rfl, rfl, ⟨rfl, rfl, rfl, trivial⟩, ⟨rfl, rfl, trivial⟩⟩⟩
    · refine SCmp.yes (rfl) ?_
      refine SIdx.mk 2 _ rfl rfl ?_
      refine SCall.pure (none1_ok (m 2) (lst (cntH 4 n r) G) (fun i hi => by rw [lst_length] at hi; rw [lst_getD hi]; exact check1_ok _ ((h.bG i hi).mono (by omega))) (by rw [lst_length]; exact Nat.le_trans (cb 2) (by decide))) ?_
      refine SCond.mk (fun h => by cases h) (fun _ => ?_)
      refine SWrap.i64z ((2 + 1 : Nat) : Int) (by omega) (by omega) ?_
      exact ⟨2 + 1, [0, 1], by decide, by decide, ⟨rfl, by simp, rfl, rfl, rfl, ⟨rfl, rfl, rfl, trivial⟩, ⟨rfl, rfl, trivial⟩⟩⟩
    · refine SCmp.yes (rfl) ?_
      refine SIdx.mk 3 _ rfl rfl ?_
      refine SCall.pure (none1_ok (m 3) (lst (cntH 4 n r) H) (fun i hi => by rw [lst_length] at hi; rw [lst_getD hi]; exact check1_ok _ ((h.bH i hi).mono (by omega))) (by rw [lst_length]; exact Nat.le_trans (cb 3) (by decide))) ?_
      refine SCond.mk (fun h => by cases h) (fun _ => ?_)
      refine SWrap.i64z ((3 + 1 : Nat) : Int) (by omega) (by omega) ?_
      exact ⟨3 + 1, [0, 1], by decide, by decide, ⟨rfl, by simp, rfl, rfl, rfl, ⟨rfl, rfl, rfl, trivial⟩, ⟨rfl, rfl, trivial⟩⟩⟩
    · refine SCmp.no (rfl) ?_
      refine SZ.mk ((cntA 4 n : Nat) : Int) (by simp [lst]) ?_
      refine SLoop.mk Nat (fun i => ([(1, .bptr 0 0), (68, .p (ratsM (m 0) (lst (cntA 4 n) A))), (69, .p (.int .i64 ((cntA 4 n : Nat) : Int))), (70, .p (.int .i64 i))], [.box 59 [.p (.int .i64 ((4 : Nat) : Int)), .p (.int .i64 (n : Int)), .p (.int .i64 (r : Int)), .p (ratsM (m 0) (lst (cntA 4 n) A)), .p (ratsM (m 1) (lst (cntB 4 n) B)), .p (ratsM (m 2) (lst (cntH 4 n r) G)), .p (ratsM (m 3) (lst (cntH 4 n r) H))], .box 189 [.p (ratsM (m 0) (lst (cntA 4 n) A)), .p (ratsM (m 1) (lst (cntB 4 n) B)), .p (ratsM (m 2) (lst (cntH 4 n r) G)), .p (ratsM (m 3) (lst (cntH 4 n r) H))]]))
        (fun i => i ≤ cntA 4 n) (fun i => cntA 4 n - i) 0 [0, 1] (Nat.zero_le _) ⟨rfl, by simp, rfl, rfl, rfl, ⟨rfl, rfl, rfl, rfl, trivial⟩, ⟨rfl, rfl, trivial⟩⟩ ?_
      intro i hi
      have hi : i ≤ cntA 4 n := hi
      have cA := cb 0
      by_cases hia : i < cntA 4 n
      · refine SCmp.yes (decide_eq_true (by omega)) ?_
        refine SIdx.rf i rfl hia ?_
        have hz := (h.bA i hia).mono (show b ≤ c by omega)
        have hc2 := none2_ok (m 1) true (A i) (lst (cntB 4 n) B) (fun j hj => by
          rw [lst_length] at hj; rw [lst_getD hj]
          have := check2_ok true (A i) (B j) hz (h.bB j hj) (by omega)
          rw [decide_eq_false (h.ne i j hia hj)] at this
          exact this) (by rw [lst_length]; exact Nat.le_trans (cb 1) (by decide))
        refine SCall.pure (pvs := [ratsM (m 1) (lst (cntB 4 n) B), .fn 189 [.pel true (ratP (A i))]]) hc2 ?_
        refine SCond.mk (fun h => by cases h) (fun _ => ?_)
        refine SWrap.i64z ((i + 1 : Nat) : Int) (by omega) (by omega) ?_
        exact ⟨i + 1, [0, 1], hia, by show cntA 4 n - (i + 1) < cntA 4 n - i; omega, ⟨rfl, by simp, rfl, rfl, rfl, ⟨rfl, rfl, rfl, rfl, trivial⟩, ⟨rfl, rfl, trivial⟩⟩⟩
      · refine SCmp.no (decide_eq_false (by omega)) ?_
        exact SRet.pure (.p _ (.int _ _))
theorem gcheck5_ok (m : Nat → Bool) (n r : Nat) (A B G H : Nat → Rat) {b c : Nat} (h : Wf ⟨5, n, r, A, B, G, H⟩ b c) : CallP Try.prog 150 [genP m ⟨5, n, r, A, B, G, H⟩] (.p (.int .i64 0)) [] := by
  have n6 : n ≤ 6 := h.n6
  have n1 : 1 ≤ n := h.n1
  have r2 : r ≤ 2 := h.r2
  have hnr : n * r ≤ 12 := Nat.mul_le_mul n6 r2
  have hc4 := h.c4
  have hbc := h.bc
  have cc := cnt_le (k := 5) (r := r) n1 (show n ≤ 8 by omega) (show r ≤ 3 by omega)
  have cb : ∀ i : Nat, (if i = 0 then cntA 5 n else if i = 1 then cntB 5 n else cntH 5 n r) ≤ 24 := fun i => by split <;> (try split) <;> omega
  show CallP Try.prog 150 [.agg [.int .i64 ((5 : Nat) : Int), .int .i64 (n : Int), .int .i64 (r : Int), ratsM (m 0) (lst (cntA 5 n) A), ratsM (m 1) (lst (cntB 5 n) B), ratsM (m 2) (lst (cntH 5 n r) G), ratsM (m 3) (lst (cntH 5 n r) H)]] (.p (.int .i64 0)) []
  refine callG_of_vc (wr := wr0) Γok mixed Try.func150 (by kernel_rfl) rfl (by kernel_rfl) (le_of_ble rfl) (by simp) ?_
  refine SCmp.no (decide_eq_false (by omega)) ?_
  refine SCmp.no (decide_eq_false (by omega)) ?_
  refine SCall.pure (sized_ok m ⟨5, n, r, A, B, G, H⟩ h) ?_
  refine SCmp.no (rfl) ?_
  refine SCall.lent [genP m ⟨5, n, r, A, B, G, H⟩] _ rfl (genrows_ok m ⟨5, n, r, A, B, G, H⟩) ?_
  refine SCall.pure (counts_ok) ?_
  refine SLoop.mk Nat (fun i => ([(1, .bptr 0 0), (3, .bptr 1 0), (4, .p (.mp false cntM)), (28, .p (.agg [ratsM (m 0) (lst (cntA 5 n) A), ratsM (m 1) (lst (cntB 5 n) B), ratsM (m 2) (lst (cntH 5 n r) G), ratsM (m 3) (lst (cntH 5 n r) H)])), (29, .p (.int .i64 i))], [.box 59 [.p (.int .i64 ((5 : Nat) : Int)), .p (.int .i64 (n : Int)), .p (.int .i64 (r : Int)), .p (ratsM (m 0) (lst (cntA 5 n) A)), .p (ratsM (m 1) (lst (cntB 5 n) B)), .p (ratsM (m 2) (lst (cntH 5 n r) G)), .p (ratsM (m 3) (lst (cntH 5 n r) H))], .box 189 [.p (ratsM (m 0) (lst (cntA 5 n) A)), .p (ratsM (m 1) (lst (cntB 5 n) B)), .p (ratsM (m 2) (lst (cntH 5 n r) G)), .p (ratsM (m 3) (lst (cntH 5 n r) H))]]))
    (fun i => i ≤ 4) (fun i => 4 - i) 0 [0, 1] (Nat.zero_le _) ⟨rfl, by simp, rfl, rfl, rfl, ⟨rfl, rfl, rfl, rfl, rfl, trivial⟩, ⟨rfl, rfl, trivial⟩⟩ ?_
  intro i hi
  have hi : i ≤ 4 := hi
  rcases (show i = 0 ∨ i = 1 ∨ i = 2 ∨ i = 3 ∨ i = 4 by omega) with rfl | rfl | rfl | rfl | rfl
  · refine SCmp.yes (rfl) ?_
    refine SIdx.mk 0 _ rfl rfl ?_
    refine SKeys.all rfl <| SGet.at 4 _ rfl rfl rfl ?_
    refine SZ.mk ((cntA 5 n : Nat) : Int) (by simp [lst]) ?_
    refine SPos.mk 0 rfl (by decide) ?_
    refine SWrap.i64z ((1 * n : Nat) : Int) (by omega) (by omega) ?_
    refine SPos.mk 1 rfl (by decide) ?_
    refine SWrap.i64z ((0 * n : Nat) : Int) (by omega) (by omega) ?_
    refine SWrap.i64z ((0 : Nat) : Int) (by simp) (by omega) ?_
    refine SWrap.i64z ((1 * n + 0 : Nat) : Int) (by omega) (by omega) ?_
    refine SPos.mk 2 rfl (by decide) ?_
    refine SWrap.i64z ((cntA 5 n : Nat) : Int) (by simp [cntA, cntB, cntH] <;> omega) (by have := cnt_le (k := 5) (r := r) n1 (show n ≤ 8 by omega) (show r ≤ 3 by omega); omega) ?_
    refine SCmp.no (neF rfl) ?_
    refine SWrap.i64z ((0 + 1 : Nat) : Int) (by omega) (by omega) ?_
    exact ⟨0 + 1, [0, 1], by decide, by decide, ⟨rfl, by simp, rfl, rfl, rfl, ⟨rfl, rfl, rfl, rfl, rfl, trivial⟩, ⟨rfl, rfl, trivial⟩⟩⟩
  · refine SCmp.yes (rfl) ?_
    refine SIdx.mk 1 _ rfl rfl ?_
    refine SKeys.all rfl <| SGet.at 5 _ rfl rfl rfl ?_
    refine SZ.mk ((cntB 5 n : Nat) : Int) (by simp [lst]) ?_
    refine SPos.mk 0 rfl (by decide) ?_
    refine SWrap.i64z ((1 * n : Nat) : Int) (by omega) (by omega) ?_
    refine SPos.mk 1 rfl (by decide) ?_
    refine SWrap.i64z ((0 * n : Nat) : Int) (by omega) (by omega) ?_
    refine SWrap.i64z ((0 : Nat) : Int) (by simp) (by omega) ?_
    refine SWrap.i64z ((1 * n + 0 : Nat) : Int) (by omega) (by omega) ?_
    refine SPos.mk 2 rfl (by decide) ?_
    refine SWrap.i64z ((cntB 5 n : Nat) : Int) (by simp [cntA, cntB, cntH] <;> omega) (by have := cnt_le (k := 5) (r := r) n1 (show n ≤ 8 by omega) (show r ≤ 3 by omega); omega) ?_
    refine SCmp.no (neF rfl) ?_
    refine SWrap.i64z ((1 + 1 : Nat) : Int) (by omega) (by omega) ?_
    exact ⟨1 + 1, [0, 1], by decide, by decide, ⟨rfl, by simp, rfl, rfl, rfl, ⟨rfl, rfl, rfl, rfl, rfl, trivial⟩, ⟨rfl, rfl, trivial⟩⟩⟩
  · refine SCmp.yes (rfl) ?_
    refine SIdx.mk 2 _ rfl rfl ?_
    refine SKeys.all rfl <| SGet.none rfl ?_
    refine SZ.mk ((cntH 5 n r : Nat) : Int) (by simp [lst]) ?_
    refine SPos.mk 0 rfl (by decide) ?_
    refine SWrap.i64z ((0 * n : Nat) : Int) (by omega) (by omega) ?_
    refine SPos.mk 1 rfl (by decide) ?_
    refine SWrap.i64z ((0 * n : Nat) : Int) (by omega) (by omega) ?_
    refine SWrap.i64z ((0 : Nat) : Int) (by simp) (by omega) ?_
    refine SWrap.i64z ((0 * n + 0 : Nat) : Int) (by omega) (by omega) ?_
    refine SPos.mk 2 rfl (by decide) ?_
    refine SWrap.i64z ((cntH 5 n r : Nat) : Int) (by simp [cntA, cntB, cntH] <;> omega) (by have := cnt_le (k := 5) (r := r) n1 (show n ≤ 8 by omega) (show r ≤ 3 by omega); omega) ?_
    refine SCmp.no (neF rfl) ?_
    refine SWrap.i64z ((2 + 1 : Nat) : Int) (by omega) (by omega) ?_
    exact ⟨2 + 1, [0, 1], by decide, by decide, ⟨rfl, by simp, rfl, rfl, rfl, ⟨rfl, rfl, rfl, rfl, rfl, trivial⟩, ⟨rfl, rfl, trivial⟩⟩⟩
  · refine SCmp.yes (rfl) ?_
    refine SIdx.mk 3 _ rfl rfl ?_
    refine SKeys.all rfl <| SGet.none rfl ?_
    refine SZ.mk ((cntH 5 n r : Nat) : Int) (by simp [lst]) ?_
    refine SPos.mk 0 rfl (by decide) ?_
    refine SWrap.i64z ((0 * n : Nat) : Int) (by omega) (by omega) ?_
    refine SPos.mk 1 rfl (by decide) ?_
    refine SWrap.i64z ((0 * n : Nat) : Int) (by omega) (by omega) ?_
    refine SWrap.i64z ((0 : Nat) : Int) (by simp) (by omega) ?_
    refine SWrap.i64z ((0 * n + 0 : Nat) : Int) (by omega) (by omega) ?_
    refine SPos.mk 2 rfl (by decide) ?_
    refine SWrap.i64z ((cntH 5 n r : Nat) : Int) (by simp [cntA, cntB, cntH] <;> omega) (by have := cnt_le (k := 5) (r := r) n1 (show n ≤ 8 by omega) (show r ≤ 3 by omega); omega) ?_
    refine SCmp.no (neF rfl) ?_
    refine SWrap.i64z ((3 + 1 : Nat) : Int) (by omega) (by omega) ?_
    exact ⟨3 + 1, [0, 1], by decide, by decide, ⟨rfl, by simp, rfl, rfl, rfl, ⟨rfl, rfl, rfl, rfl, rfl, trivial⟩, ⟨rfl, rfl, trivial⟩⟩⟩
  · refine SCmp.no (rfl) ?_
    refine SLoop.mk Nat (fun i => ([(1, .bptr 0 0), (60, .p (.agg [ratsM (m 0) (lst (cntA 5 n) A), ratsM (m 1) (lst (cntB 5 n) B), ratsM (m 2) (lst (cntH 5 n r) G), ratsM (m 3) (lst (cntH 5 n r) H)])), (61, .p (.int .i64 i))], [.box 59 [.p (.int .i64 ((5 : Nat) : Int)), .p (.int .i64 (n : Int)), .p (.int .i64 (r : Int)), .p (ratsM (m 0) (lst (cntA 5 n) A)), .p (ratsM (m 1) (lst (cntB 5 n) B)), .p (ratsM (m 2) (lst (cntH 5 n r) G)), .p (ratsM (m 3) (lst (cntH 5 n r) H))], .box 189 [.p (ratsM (m 0) (lst (cntA 5 n) A)), .p (ratsM (m 1) (lst (cntB 5 n) B)), .p (ratsM (m 2) (lst (cntH 5 n r) G)), .p (ratsM (m 3) (lst (cntH 5 n r) H))]]))
      (fun i => i ≤ 4) (fun i => 4 - i) 0 [0, 1] (Nat.zero_le _) ⟨rfl, by simp, rfl, rfl, rfl, ⟨rfl, rfl, rfl, trivial⟩, ⟨rfl, rfl, trivial⟩⟩ ?_
    intro i hi
    have hi : i ≤ 4 := hi
    rcases (show i = 0 ∨ i = 1 ∨ i = 2 ∨ i = 3 ∨ i = 4 by omega) with rfl | rfl | rfl | rfl | rfl
    · refine SCmp.yes (rfl) ?_
      refine SIdx.mk 0 _ rfl rfl ?_
      refine SCall.pure (none1_ok (m 0) (lst (cntA 5 n) A) (fun i hi => by rw [lst_length] at hi; rw [lst_getD hi]; exact check1_ok _ ((h.bA i hi).mono (by omega))) (by rw [lst_length]; exact Nat.le_trans (cb 0) (by decide))) ?_
      refine SCond.mk (fun h => by cases h) (fun _ => ?_)
      refine SWrap.i64z ((0 + 1 : Nat) : Int) (by omega) (by omega) ?_
      exact ⟨0 + 1, [0, 1], by decide, by decide, ⟨rfl, by simp, rfl, rfl, rfl, ⟨rfl, rfl, rfl, trivial⟩, ⟨rfl, rfl, trivial⟩⟩⟩
    · refine SCmp.yes (rfl) ?_
      refine SIdx.mk 1 _ rfl rfl ?_
      refine SCall.pure (none1_ok (m 1) (lst (cntB 5 n) B) (fun i hi => by rw [lst_length] at hi; rw [lst_getD hi]; exact check1_ok _ ((h.bB i hi).mono (by omega))) (by rw [lst_length]; exact Nat.le_trans (cb 1) (by decide))) ?_
      refine SCond.mk (fun h => by cases h) (fun _ => ?_)
      refine SWrap.i64z ((1 + 1 : Nat) : Int) (by omega) (by omega) ?_
      exact ⟨1 + 1, [0, 1], by decide, by decide, ⟨rfl, by simp, rfl, rfl, rfl, ⟨rfl, rfl, rfl, trivial⟩, ⟨rfl, rfl, trivial⟩⟩⟩
    · refine SCmp.yes (rfl) ?_
      refine SIdx.mk 2 _ rfl rfl ?_
      refine SCall.pure (none1_ok (m 2) (lst (cntH 5 n r) G) (fun i hi => by rw [lst_length] at hi; rw [lst_getD hi]; exact check1_ok _ ((h.bG i hi).mono (by omega))) (by rw [lst_length]; exact Nat.le_trans (cb 2) (by decide))) ?_
      refine SCond.mk (fun h => by cases h) (fun _ => ?_)
      refine SWrap.i64z ((2 + 1 : Nat) : Int) (by omega) (by omega) ?_
      exact ⟨2 + 1, [0, 1], by decide, by decide, ⟨rfl, by simp, rfl, rfl, rfl, ⟨rfl, rfl, rfl, trivial⟩, ⟨rfl, rfl, trivial⟩⟩⟩
    · refine SCmp.yes (rfl) ?_
      refine SIdx.mk 3 _ rfl rfl ?_
      refine SCall.pure (none1_ok (m 3) (lst (cntH 5 n r) H) (fun i hi => by rw [lst_length] at hi; rw [lst_getD hi]; exact check1_ok _ ((h.bH i hi).mono (by omega))) (by rw [lst_length]; exact Nat.le_trans (cb 3) (by decide))) ?_
      refine SCond.mk (fun h => by cases h) (fun _ => ?_)
      refine SWrap.i64z ((3 + 1 : Nat) : Int) (by omega) (by omega) ?_
      exact ⟨3 + 1, [0, 1], by decide, by decide, ⟨rfl, by simp, rfl, rfl, rfl, ⟨rfl, rfl, rfl, trivial⟩, ⟨rfl, rfl, trivial⟩⟩⟩
    · refine SCmp.no (rfl) ?_
      refine SZ.mk ((cntA 5 n : Nat) : Int) (by simp [lst]) ?_
      refine SLoop.mk Nat (fun i => ([(1, .bptr 0 0), (68, .p (ratsM (m 0) (lst (cntA 5 n) A))), (69, .p (.int .i64 ((cntA 5 n : Nat) : Int))), (70, .p (.int .i64 i))], [.box 59 [.p (.int .i64 ((5 : Nat) : Int)), .p (.int .i64 (n : Int)), .p (.int .i64 (r : Int)), .p (ratsM (m 0) (lst (cntA 5 n) A)), .p (ratsM (m 1) (lst (cntB 5 n) B)), .p (ratsM (m 2) (lst (cntH 5 n r) G)), .p (ratsM (m 3) (lst (cntH 5 n r) H))], .box 189 [.p (ratsM (m 0) (lst (cntA 5 n) A)), .p (ratsM (m 1) (lst (cntB 5 n) B)), .p (ratsM (m 2) (lst (cntH 5 n r) G)), .p (ratsM (m 3) (lst (cntH 5 n r) H))]]))
        (fun i => i ≤ cntA 5 n) (fun i => cntA 5 n - i) 0 [0, 1] (Nat.zero_le _) ⟨rfl, by simp, rfl, rfl, rfl, ⟨rfl, rfl, rfl, rfl, trivial⟩, ⟨rfl, rfl, trivial⟩⟩ ?_
      intro i hi
      have hi : i ≤ cntA 5 n := hi
      have cA := cb 0
      by_cases hia : i < cntA 5 n
      · refine SCmp.yes (decide_eq_true (by omega)) ?_
        refine SIdx.rf i rfl hia ?_
        have hz := (h.bA i hia).mono (show b ≤ c by omega)
        have hc2 := none2_ok (m 1) true (A i) (lst (cntB 5 n) B) (fun j hj => by
          rw [lst_length] at hj; rw [lst_getD hj]
          have := check2_ok true (A i) (B j) hz (h.bB j hj) (by omega)
          rw [decide_eq_false (h.ne i j hia hj)] at this
          exact this) (by rw [lst_length]; exact Nat.le_trans (cb 1) (by decide))
        refine SCall.pure (pvs := [ratsM (m 1) (lst (cntB 5 n) B), .fn 189 [.pel true (ratP (A i))]]) hc2 ?_
        refine SCond.mk (fun h => by cases h) (fun _ => ?_)
        refine SWrap.i64z ((i + 1 : Nat) : Int) (by omega) (by omega) ?_
        exact ⟨i + 1, [0, 1], hia, by show cntA 5 n - (i + 1) < cntA 5 n - i; omega, ⟨rfl, by simp, rfl, rfl, rfl, ⟨rfl, rfl, rfl, rfl, trivial⟩, ⟨rfl, rfl, trivial⟩⟩⟩
      · refine SCmp.no (decide_eq_false (by omega)) ?_
        exact SRet.pure (.p _ (.int _ _))
theorem gcheck6_ok (m : Nat → Bool) (n r : Nat) (A B G H : Nat → Rat) {b c : Nat} (h : Wf ⟨6, n, r, A, B, G, H⟩ b c) : CallP Try.prog 150 [genP m ⟨6, n, r, A, B, G, H⟩] (.p (.int .i64 0)) [] := by
  have n6 : n ≤ 6 := h.n6
  have n1 : 1 ≤ n := h.n1
  have r2 : r ≤ 2 := h.r2
  have hnr : n * r ≤ 12 := Nat.mul_le_mul n6 r2
  have hc4 := h.c4
  have hbc := h.bc
  have cc := cnt_le (k := 6) (r := r) n1 (show n ≤ 8 by omega) (show r ≤ 3 by omega)
  have cb : ∀ i : Nat, (if i = 0 then cntA 6 n else if i = 1 then cntB 6 n else cntH 6 n r) ≤ 24 := fun i => by split <;> (try split) <;> omega
  show CallP Try.prog 150 [.agg [.int .i64 ((6 : Nat) : Int), .int .i64 (n : Int), .int .i64 (r : Int), ratsM (m 0) (lst (cntA 6 n) A), ratsM (m 1) (lst (cntB 6 n) B), ratsM (m 2) (lst (cntH 6 n r) G), ratsM (m 3) (lst (cntH 6 n r) H)]] (.p (.int .i64 0)) []
  refine callG_of_vc (wr := wr0) Γok mixed Try.func150 (by kernel_rfl) rfl (by kernel_rfl) (le_of_ble rfl) (by simp) ?_
  refine SCmp.no (decide_eq_false (by omega)) ?_
  refine SCmp.no (decide_eq_false (by omega)) ?_
  refine SCall.pure (sized_ok m ⟨6, n, r, A, B, G, H⟩ h) ?_
  refine SCmp.no (rfl) ?_
  refine SCall.lent [genP m ⟨6, n, r, A, B, G, H⟩] _ rfl (genrows_ok m ⟨6, n, r, A, B, G, H⟩) ?_
  refine SCall.pure (counts_ok) ?_
  refine SLoop.mk Nat (fun i => ([(1, .bptr 0 0), (3, .bptr 1 0), (4, .p (.mp false cntM)), (28, .p (.agg [ratsM (m 0) (lst (cntA 6 n) A), ratsM (m 1) (lst (cntB 6 n) B), ratsM (m 2) (lst (cntH 6 n r) G), ratsM (m 3) (lst (cntH 6 n r) H)])), (29, .p (.int .i64 i))], [.box 59 [.p (.int .i64 ((6 : Nat) : Int)), .p (.int .i64 (n : Int)), .p (.int .i64 (r : Int)), .p (ratsM (m 0) (lst (cntA 6 n) A)), .p (ratsM (m 1) (lst (cntB 6 n) B)), .p (ratsM (m 2) (lst (cntH 6 n r) G)), .p (ratsM (m 3) (lst (cntH 6 n r) H))], .box 189 [.p (ratsM (m 0) (lst (cntA 6 n) A)), .p (ratsM (m 1) (lst (cntB 6 n) B)), .p (ratsM (m 2) (lst (cntH 6 n r) G)), .p (ratsM (m 3) (lst (cntH 6 n r) H))]]))
    (fun i => i ≤ 4) (fun i => 4 - i) 0 [0, 1] (Nat.zero_le _) ⟨rfl, by simp, rfl, rfl, rfl, ⟨rfl, rfl, rfl, rfl, rfl, trivial⟩, ⟨rfl, rfl, trivial⟩⟩ ?_
  intro i hi
  have hi : i ≤ 4 := hi
  rcases (show i = 0 ∨ i = 1 ∨ i = 2 ∨ i = 3 ∨ i = 4 by omega) with rfl | rfl | rfl | rfl | rfl
  · refine SCmp.yes (rfl) ?_
    refine SIdx.mk 0 _ rfl rfl ?_
    refine SKeys.all rfl <| SGet.none rfl ?_
    refine SZ.mk ((cntA 6 n : Nat) : Int) (by simp [lst]) ?_
    refine SPos.mk 0 rfl (by decide) ?_
    refine SWrap.i64z ((0 * n : Nat) : Int) (by omega) (by omega) ?_
    refine SPos.mk 1 rfl (by decide) ?_
    refine SWrap.i64z ((0 * n : Nat) : Int) (by omega) (by omega) ?_
    refine SWrap.i64z ((0 : Nat) : Int) (by simp) (by omega) ?_
    refine SWrap.i64z ((0 * n + 0 : Nat) : Int) (by omega) (by omega) ?_
    refine SPos.mk 2 rfl (by decide) ?_
    refine SWrap.i64z ((cntA 6 n : Nat) : Int) (by simp [cntA, cntB, cntH] <;> omega) (by have := cnt_le (k := 6) (r := r) n1 (show n ≤ 8 by omega) (show r ≤ 3 by omega); omega) ?_
    refine SCmp.no (neF rfl) ?_
    refine SWrap.i64z ((0 + 1 : Nat) : Int) (by omega) (by omega) ?_
    exact ⟨0 + 1, [0, 1], by decide, by decide, ⟨rfl, by simp, rfl, rfl, rfl, ⟨rfl, rfl, rfl, rfl, rfl, trivial⟩, ⟨rfl, rfl, trivial⟩⟩⟩
  · refine SCmp.yes (rfl) ?_
    refine SIdx.mk 1 _ rfl rfl ?_
    refine SKeys.all rfl <| SGet.none rfl ?_
    refine SZ.mk ((cntB 6 n : Nat) : Int) (by simp [lst]) ?_
    refine SPos.mk 0 rfl (by decide) ?_
    refine SWrap.i64z ((0 * n : Nat) : Int) (by omega) (by omega) ?_
    refine SPos.mk 1 rfl (by decide) ?_
    refine SWrap.i64z ((0 * n : Nat) : Int) (by omega) (by omega) ?_
    refine SWrap.i64z ((0 : Nat) : Int) (by simp) (by omega) ?_
    refine SWrap.i64z ((0 * n + 0 : Nat) : Int) (by omega) (by omega) ?_
    refine SPos.mk 2 rfl (by decide) ?_
    refine SWrap.i64z ((cntB 6 n : Nat) : Int) (by simp [cntA, cntB, cntH] <;> omega) (by have := cnt_le (k := 6) (r := r) n1 (show n ≤ 8 by omega) (show r ≤ 3 by omega); omega) ?_
    refine SCmp.no (neF rfl) ?_
    refine SWrap.i64z ((1 + 1 : Nat) : Int) (by omega) (by omega) ?_
    exact ⟨1 + 1, [0, 1], by decide, by decide, ⟨rfl, by simp, rfl, rfl, rfl, ⟨rfl, rfl, rfl, rfl, rfl, trivial⟩, ⟨rfl, rfl, trivial⟩⟩⟩
  · refine SCmp.yes (rfl) ?_
    refine SIdx.mk 2 _ rfl rfl ?_
    refine SKeys.all rfl <| SGet.at 6 _ rfl rfl rfl ?_
    refine SZ.mk ((cntH 6 n r : Nat) : Int) (by simp [lst]) ?_
    refine SPos.mk 0 rfl (by decide) ?_
    refine SWrap.i64z ((0 * n : Nat) : Int) (by omega) (by omega) ?_
    refine SPos.mk 1 rfl (by decide) ?_
    refine SWrap.i64z ((1 * n : Nat) : Int) (by omega) (by omega) ?_
    refine SWrap.i64z ((n * r : Nat) : Int) (by rw [Int.natCast_mul]; simp) (by omega) ?_
    refine SWrap.i64z ((0 * n + n * r : Nat) : Int) (by omega) (by omega) ?_
    refine SPos.mk 2 rfl (by decide) ?_
    refine SWrap.i64z ((cntH 6 n r : Nat) : Int) (by simp [cntA, cntB, cntH] <;> omega) (by have := cnt_le (k := 6) (r := r) n1 (show n ≤ 8 by omega) (show r ≤ 3 by omega); omega) ?_
    refine SCmp.no (neF rfl) ?_
    refine SWrap.i64z ((2 + 1 : Nat) : Int) (by omega) (by omega) ?_
    exact ⟨2 + 1, [0, 1], by decide, by decide, ⟨rfl, by simp, rfl, rfl, rfl, ⟨rfl, rfl, rfl, rfl, rfl, trivial⟩, ⟨rfl, rfl, trivial⟩⟩⟩
  · refine SCmp.yes (rfl) ?_
    refine SIdx.mk 3 _ rfl rfl ?_
    refine SKeys.all rfl <| SGet.at 7 _ rfl rfl rfl ?_
    refine SZ.mk ((cntH 6 n r : Nat) : Int) (by simp [lst]) ?_
    refine SPos.mk 0 rfl (by decide) ?_
    refine SWrap.i64z ((0 * n : Nat) : Int) (by omega) (by omega) ?_
    refine SPos.mk 1 rfl (by decide) ?_
    refine SWrap.i64z ((1 * n : Nat) : Int) (by omega) (by omega) ?_
    refine SWrap.i64z ((n * r : Nat) : Int) (by rw [Int.natCast_mul]; simp) (by omega) ?_
    refine SWrap.i64z ((0 * n + n * r : Nat) : Int) (by omega) (by omega) ?_
    refine SPos.mk 2 rfl (by decide) ?_
    refine SWrap.i64z ((cntH 6 n r : Nat) : Int) (by simp [cntA, cntB, cntH] <;> omega) (by have := cnt_le (k := 6) (r := r) n1 (show n ≤ 8 by omega) (show r ≤ 3 by omega); omega) ?_
    refine SCmp.no (neF rfl) ?_
    refine SWrap.i64z ((3 + 1 : Nat) : Int) (by omega) (by omega) ?_
    exact ⟨3 + 1, [0, 1], by decide, by decide, ⟨rfl, by simp, rfl, rfl, rfl, ⟨rfl, rfl, rfl, rfl, rfl, trivial⟩, ⟨rfl, rfl, trivial⟩⟩⟩
  · refine SCmp.no (rfl) ?_
    refine SLoop.mk Nat (fun i => ([(1, .bptr 0 0), (60, .p (.agg [ratsM (m 0) (lst (cntA 6 n) A), ratsM (m 1) (lst (cntB 6 n) B), ratsM (m 2) (lst (cntH 6 n r) G), ratsM (m 3) (lst (cntH 6 n r) H)])), (61, .p (.int .i64 i))], [.box 59 [.p (.int .i64 ((6 : Nat) : Int)), .p (.int .i64 (n : Int)), .p (.int .i64 (r : Int)), .p (ratsM (m 0) (lst (cntA 6 n) A)), .p (ratsM (m 1) (lst (cntB 6 n) B)), .p (ratsM (m 2) (lst (cntH 6 n r) G)), .p (ratsM (m 3) (lst (cntH 6 n r) H))], .box 189 [.p (ratsM (m 0) (lst (cntA 6 n) A)), .p (ratsM (m 1) (lst (cntB 6 n) B)), .p (ratsM (m 2) (lst (cntH 6 n r) G)), .p (ratsM (m 3) (lst (cntH 6 n r) H))]]))
      (fun i => i ≤ 4) (fun i => 4 - i) 0 [0, 1] (Nat.zero_le _) ⟨rfl, by simp, rfl, rfl, rfl, ⟨rfl, rfl, rfl, trivial⟩, ⟨rfl, rfl, trivial⟩⟩ ?_
    intro i hi
    have hi : i ≤ 4 := hi
    rcases (show i = 0 ∨ i = 1 ∨ i = 2 ∨ i = 3 ∨ i = 4 by omega) with rfl | rfl | rfl | rfl | rfl
    · refine SCmp.yes (rfl) ?_
      refine SIdx.mk 0 _ rfl rfl ?_
      refine SCall.pure (none1_ok (m 0) (lst (cntA 6 n) A) (fun i hi => by rw [lst_length] at hi; rw [lst_getD hi]; exact check1_ok _ ((h.bA i hi).mono (by omega))) (by rw [lst_length]; exact Nat.le_trans (cb 0) (by decide))) ?_
      refine SCond.mk (fun h => by cases h) (fun _ => ?_)
      refine SWrap.i64z ((0 + 1 : Nat) : Int) (by omega) (by omega) ?_
      exact ⟨0 + 1, [0, 1], by decide, by decide, ⟨rfl, by simp, rfl, rfl, rfl, ⟨rfl, rfl, rfl, trivial⟩, ⟨rfl, rfl, trivial⟩⟩⟩
    · refine SCmp.yes (rfl) ?_
      refine SIdx.mk 1 _ rfl rfl ?_
      refine SCall.pure (none1_ok (m 1) (lst (cntB 6 n) B) (fun i hi => by rw [lst_length] at hi; rw [lst_getD hi]; exact check1_ok _ ((h.bB i hi).mono (by omega))) (by rw [lst_length]; exact Nat.le_trans (cb 1) (by decide))) ?_
      refine SCond.mk (fun h => by cases h) (fun _ => ?_)
      refine SWrap.i64z ((1 + 1 : Nat) : Int) (by omega) (by omega) ?_
      exact ⟨1 + 1, [0, 1], by decide, by decide, ⟨rfl, by simp, rfl, rfl, rfl, ⟨rfl, rfl, rfl, trivial⟩, ⟨rfl, rfl, trivial⟩⟩⟩
    · refine SCmp.yes (rfl) ?_
      refine SIdx.mk 2 _ rfl rfl ?_
      refine SCall.pure (none1_ok (m 2) (lst (cntH 6 n r) G) (fun i hi => by rw [lst_length] at hi; rw [lst_getD hi]; exact check1_ok _ ((h.bG i hi).mono (by omega))) (by rw [lst_length]; exact Nat.le_trans (cb 2) (by decide))) ?_
      refine SCond.mk (fun h => by cases h) (fun _ => ?_)
      refine SWrap.i64z ((2 + 1 : Nat) : Int) (by omega) (by omega) ?_
      exact ⟨2 + 1, [0, 1], by decide, by decide, ⟨rfl, by simp, rfl, rfl, rfl, ⟨rfl, rfl, rfl, trivial⟩, ⟨rfl, rfl, trivial⟩⟩⟩
    · refine SCmp.yes (rfl) ?_
      refine SIdx.mk 3 _ rfl rfl ?_
      refine SCall.pure (none1_ok (m 3) (lst (cntH 6 n r) H) (fun i hi => by rw [lst_length] at hi; rw [lst_getD hi]; exact check1_ok _ ((h.bH i hi).mono (by omega))) (by rw [lst_length]; exact Nat.le_trans (cb 3) (by decide))) ?_
      refine SCond.mk (fun h => by cases h) (fun _ => ?_)
      refine SWrap.i64z ((3 + 1 : Nat) : Int) (by omega) (by omega) ?_
      exact ⟨3 + 1, [0, 1], by decide, by decide, ⟨rfl, by simp, rfl, rfl, rfl, ⟨rfl, rfl, rfl, trivial⟩, ⟨rfl, rfl, trivial⟩⟩⟩
    · refine SCmp.no (rfl) ?_
      refine SZ.mk ((cntA 6 n : Nat) : Int) (by simp [lst]) ?_
      refine SLoop.mk Nat (fun i => ([(1, .bptr 0 0), (68, .p (ratsM (m 0) (lst (cntA 6 n) A))), (69, .p (.int .i64 ((cntA 6 n : Nat) : Int))), (70, .p (.int .i64 i))], [.box 59 [.p (.int .i64 ((6 : Nat) : Int)), .p (.int .i64 (n : Int)), .p (.int .i64 (r : Int)), .p (ratsM (m 0) (lst (cntA 6 n) A)), .p (ratsM (m 1) (lst (cntB 6 n) B)), .p (ratsM (m 2) (lst (cntH 6 n r) G)), .p (ratsM (m 3) (lst (cntH 6 n r) H))], .box 189 [.p (ratsM (m 0) (lst (cntA 6 n) A)), .p (ratsM (m 1) (lst (cntB 6 n) B)), .p (ratsM (m 2) (lst (cntH 6 n r) G)), .p (ratsM (m 3) (lst (cntH 6 n r) H))]]))
        (fun i => i ≤ cntA 6 n) (fun i => cntA 6 n - i) 0 [0, 1] (Nat.zero_le _) ⟨rfl, by simp, rfl, rfl, rfl, ⟨rfl, rfl, rfl, rfl, trivial⟩, ⟨rfl, rfl, trivial⟩⟩ ?_
      intro i hi
      have hi : i ≤ cntA 6 n := hi
      have cA := cb 0
      by_cases hia : i < cntA 6 n
      · refine SCmp.yes (decide_eq_true (by omega)) ?_
        refine SIdx.rf i rfl hia ?_
        have hz := (h.bA i hia).mono (show b ≤ c by omega)
        have hc2 := none2_ok (m 1) true (A i) (lst (cntB 6 n) B) (fun j hj => by
          rw [lst_length] at hj; rw [lst_getD hj]
          have := check2_ok true (A i) (B j) hz (h.bB j hj) (by omega)
          rw [decide_eq_false (h.ne i j hia hj)] at this
          exact this) (by rw [lst_length]; exact Nat.le_trans (cb 1) (by decide))
        refine SCall.pure (pvs := [ratsM (m 1) (lst (cntB 6 n) B), .fn 189 [.pel true (ratP (A i))]]) hc2 ?_
        refine SCond.mk (fun h => by cases h) (fun _ => ?_)
        refine SWrap.i64z ((i + 1 : Nat) : Int) (by omega) (by omega) ?_
        exact ⟨i + 1, [0, 1], hia, by show cntA 6 n - (i + 1) < cntA 6 n - i; omega, ⟨rfl, by simp, rfl, rfl, rfl, ⟨rfl, rfl, rfl, rfl, trivial⟩, ⟨rfl, rfl, trivial⟩⟩⟩
      · refine SCmp.no (decide_eq_false (by omega)) ?_
        exact SRet.pure (.p _ (.int _ _))
theorem gcheck7_ok (m : Nat → Bool) (n r : Nat) (A B G H : Nat → Rat) {b c : Nat} (h : Wf ⟨7, n, r, A, B, G, H⟩ b c) : CallP Try.prog 150 [genP m ⟨7, n, r, A, B, G, H⟩] (.p (.int .i64 0)) [] := by
  have n6 : n ≤ 6 := h.n6
  have n1 : 1 ≤ n := h.n1
  have r2 : r ≤ 2 := h.r2
  have hnr : n * r ≤ 12 := Nat.mul_le_mul n6 r2
  have hc4 := h.c4
  have hbc := h.bc
  have cc := cnt_le (k := 7) (r := r) n1 (show n ≤ 8 by omega) (show r ≤ 3 by omega)
  have cb : ∀ i : Nat, (if i = 0 then cntA 7 n else if i = 1 then cntB 7 n else cntH 7 n r) ≤ 24 := fun i => by split <;> (try split) <;> omega
  show CallP Try.prog 150 [.agg [.int .i64 ((7 : Nat) : Int), .int .i64 (n : Int), .int .i64 (r : Int), ratsM (m 0) (lst (cntA 7 n) A), ratsM (m 1) (lst (cntB 7 n) B), ratsM (m 2) (lst (cntH 7 n r) G), ratsM (m 3) (lst (cntH 7 n r) H)]] (.p (.int .i64 0)) []
  refine callG_of_vc (wr := wr0) Γok mixed Try.func150 (by kernel_rfl) rfl (by kernel_rfl) (le_of_ble rfl) (by simp) ?_
  refine SCmp.no (decide_eq_false (by omega)) ?_
  refine SCmp.no (decide_eq_false (by omega)) ?_
  refine SCall.pure (sized_ok m ⟨7, n, r, A, B, G, H⟩ h) ?_
  refine SCmp.no (rfl) ?_
  refine SCall.lent [genP m ⟨7, n, r, A, B, G, H⟩] _ rfl (genrows_ok m ⟨7, n, r, A, B, G, H⟩) ?_
  refine SCall.pure (counts_ok) ?_
  refine SLoop.mk Nat (fun i => ([(1, .bptr 0 0), (3, .bptr 1 0), (4, .p (.mp false cntM)), (28, .p (.agg [ratsM (m 0) (lst (cntA 7 n) A), ratsM (m 1) (lst (cntB 7 n) B), ratsM (m 2) (lst (cntH 7 n r) G), ratsM (m 3) (lst (cntH 7 n r) H)])), (29, .p (.int .i64 i))], [.box 59 [.p (.int .i64 ((7 : Nat) : Int)), .p (.int .i64 (n : Int)), .p (.int .i64 (r : Int)), .p (ratsM (m 0) (lst (cntA 7 n) A)), .p (ratsM (m 1) (lst (cntB 7 n) B)), .p (ratsM (m 2) (lst (cntH 7 n r) G)), .p (ratsM (m 3) (lst (cntH 7 n r) H))], .box 189 [.p (ratsM (m 0) (lst (cntA 7 n) A)), .p (ratsM (m 1) (lst (cntB 7 n) B)), .p (ratsM (m 2) (lst (cntH 7 n r) G)), .p (ratsM (m 3) (lst (cntH 7 n r) H))]]))
    (fun i => i ≤ 4) (fun i => 4 - i) 0 [0, 1] (Nat.zero_le _) ⟨rfl, by simp, rfl, rfl, rfl, ⟨rfl, rfl, rfl, rfl, rfl, trivial⟩, ⟨rfl, rfl, trivial⟩⟩ ?_
  intro i hi
  have hi : i ≤ 4 := hi
  rcases (show i = 0 ∨ i = 1 ∨ i = 2 ∨ i = 3 ∨ i = 4 by omega) with rfl | rfl | rfl | rfl | rfl
  · refine SCmp.yes (rfl) ?_
    refine SIdx.mk 0 _ rfl rfl ?_
    refine SKeys.all rfl <| SGet.at 8 _ rfl rfl rfl ?_
    refine SZ.mk ((cntA 7 n : Nat) : Int) (by simp [lst]) ?_
    refine SPos.mk 0 rfl (by decide) ?_
    refine SWrap.i64z ((1 * n : Nat) : Int) (by omega) (by omega) ?_
    refine SPos.mk 1 rfl (by decide) ?_
    refine SWrap.i64z ((0 * n : Nat) : Int) (by omega) (by omega) ?_
    refine SWrap.i64z ((0 : Nat) : Int) (by simp) (by omega) ?_
    refine SWrap.i64z ((1 * n + 0 : Nat) : Int) (by omega) (by omega) ?_
    refine SPos.mk 2 rfl (by decide) ?_
    refine SWrap.i64z ((cntA 7 n : Nat) : Int) (by simp [cntA, cntB, cntH] <;> omega) (by have := cnt_le (k := 7) (r := r) n1 (show n ≤ 8 by omega) (show r ≤ 3 by omega); omega) ?_
    refine SCmp.no (neF rfl) ?_
    refine SWrap.i64z ((0 + 1 : Nat) : Int) (by omega) (by omega) ?_
    exact ⟨0 + 1, [0, 1], by decide, by decide, ⟨rfl, by simp, rfl, rfl, rfl, ⟨rfl, rfl, rfl, rfl, rfl, trivial⟩, ⟨rfl, rfl, trivial⟩⟩⟩
  · refine SCmp.yes (rfl) ?_
    refine SIdx.mk 1 _ rfl rfl ?_
    refine SKeys.all rfl <| SGet.at 9 _ rfl rfl rfl ?_
    refine SZ.mk ((cntB 7 n : Nat) : Int) (by simp [lst]) ?_
    refine SPos.mk 0 rfl (by decide) ?_
    refine SWrap.i64z ((1 * n : Nat) : Int) (by omega) (by omega) ?_
    refine SPos.mk 1 rfl (by decide) ?_
    refine SWrap.i64z ((0 * n : Nat) : Int) (by omega) (by omega) ?_
    refine SWrap.i64z ((0 : Nat) : Int) (by simp) (by omega) ?_
    refine SWrap.i64z ((1 * n + 0 : Nat) : Int) (by omega) (by omega) ?_
    refine SPos.mk 2 rfl (by decide) ?_
    refine SWrap.i64z ((cntB 7 n : Nat) : Int) (by simp [cntA, cntB, cntH] <;> omega) (by have := cnt_le (k := 7) (r := r) n1 (show n ≤ 8 by omega) (show r ≤ 3 by omega); omega) ?_
    refine SCmp.no (neF rfl) ?_
    refine SWrap.i64z ((1 + 1 : Nat) : Int) (by omega) (by omega) ?_
    exact ⟨1 + 1, [0, 1], by decide, by decide, ⟨rfl, by simp, rfl, rfl, rfl, ⟨rfl, rfl, rfl, rfl, rfl, trivial⟩, ⟨rfl, rfl, trivial⟩⟩⟩
  · refine SCmp.yes (rfl) ?_
    refine SIdx.mk 2 _ rfl rfl ?_
    refine SKeys.all rfl <| SGet.at 10 _ rfl rfl rfl ?_
    refine SZ.mk ((cntH 7 n r : Nat) : Int) (by simp [lst]) ?_
    refine SPos.mk 0 rfl (by decide) ?_
    refine SWrap.i64z ((0 * n : Nat) : Int) (by omega) (by omega) ?_
    refine SPos.mk 1 rfl (by decide) ?_
    refine SWrap.i64z ((1 * n : Nat) : Int) (by omega) (by omega) ?_
    refine SWrap.i64z ((n * r : Nat) : Int) (by rw [Int.natCast_mul]; simp) (by omega) ?_
    refine SWrap.i64z ((0 * n + n * r : Nat) : Int) (by omega) (by omega) ?_
    refine SPos.mk 2 rfl (by decide) ?_
    refine SWrap.i64z ((cntH 7 n r : Nat) : Int) (by simp [cntA, cntB, cntH] <;> omega) (by have := cnt_le (k := 7) (r := r) n1 (show n ≤ 8 by omega) (show r ≤ 3 by omega); omega) ?_
    refine SCmp.no (neF rfl) ?_
    refine SWrap.i64z ((2 + 1 : Nat) : Int) (by omega) (by omega) ?_
    exact ⟨2 + 1, [0, 1], by decide, by decide, ⟨rfl, by simp, rfl, rfl, rfl, ⟨rfl, rfl, rfl, rfl, rfl, trivial⟩, ⟨rfl, rfl, trivial⟩⟩⟩
  · refine SCmp.yes (rfl) ?_
    refine SIdx.mk 3 _ rfl rfl ?_
    refine SKeys.all rfl <| SGet.at 11 _ rfl rfl rfl ?_
    refine SZ.mk ((cntH 7 n r : Nat) : Int) (by simp [lst]) ?_
    refine SPos.mk 0 rfl (by decide) ?_
    refine SWrap.i64z ((0 * n : Nat) : Int) (by omega) (by omega) ?_
    refine SPos.mk 1 rfl (by decide) ?_
    refine SWrap.i64z ((1 * n : Nat) : Int) (by omega) (by omega) ?_
    refine SWrap.i64z ((n * r : Nat) : Int) (by rw [Int.natCast_mul]; simp) (by omega) ?_
    refine SWrap.i64z ((0 * n + n * r : Nat) : Int) (by omega) (by omega) ?_
    refine SPos.mk 2 rfl (by decide) ?_
    refine SWrap.i64z ((cntH 7 n r : Nat) : Int) (by simp [cntA, cntB, cntH] <;> omega) (by have := cnt_le (k := 7) (r := r) n1 (show n ≤ 8 by omega) (show r ≤ 3 by omega); omega) ?_
    refine SCmp.no (neF rfl) ?_
    refine SWrap.i64z ((3 + 1 : Nat) : Int) (by omega) (by omega) ?_
    exact ⟨3 + 1, [0, 1], by decide, by decide, ⟨rfl, by simp, rfl, rfl, rfl, ⟨rfl, rfl, rfl, rfl, rfl, trivial⟩, ⟨rfl, rfl, trivial⟩⟩⟩
  · refine SCmp.no (rfl) ?_
    refine SLoop.mk Nat (fun i => ([(1, .bptr 0 0), (60, .p (.agg [ratsM (m 0) (lst (cntA 7 n) A), ratsM (m 1) (lst (cntB 7 n) B), ratsM (m 2) (lst (cntH 7 n r) G), ratsM (m 3) (lst (cntH 7 n r) H)])), (61, .p (.int .i64 i))], [.box 59 [.p (.int .i64 ((7 : Nat) : Int)), .p (.int .i64 (n : Int)), .p (.int .i64 (r : Int)), .p (ratsM (m 0) (lst (cntA 7 n) A)), .p (ratsM (m 1) (lst (cntB 7 n) B)), .p (ratsM (m 2) (lst (cntH 7 n r) G)), .p (ratsM (m 3) (lst (cntH 7 n r) H))], .box 189 [.p (ratsM (m 0) (lst (cntA 7 n) A)), .p (ratsM (m 1) (lst (cntB 7 n) B)), .p (ratsM (m 2) (lst (cntH 7 n r) G)), .p (ratsM (m 3) (lst (cntH 7 n r) H))]]))
      (fun i => i ≤ 4) (fun i => 4 - i) 0 [0, 1] (Nat.zero_le _) ⟨rfl, by simp, rfl, rfl, rfl, ⟨rfl, rfl, rfl, trivial⟩, ⟨rfl, rfl, trivial⟩⟩ ?_
    intro i hi
    have hi : i ≤ 4 := hi
    rcases (show i = 0 ∨ i = 1 ∨ i = 2 ∨ i = 3 ∨ i = 4 by omega) with rfl | rfl | rfl | rfl | rfl
    · refine SCmp.yes (rfl) ?_
      refine SIdx.mk 0 _ rfl rfl ?_
      refine SCall.pure (none1_ok (m 0) (lst (cntA 7 n) A) (fun i hi => by rw [lst_length] at hi; rw [lst_getD hi]; exact check1_ok _ ((h.bA i hi).mono (by omega))) (by rw [lst_length]; exact Nat.le_trans (cb 0) (by decide))) ?_
      refine SCond.mk (fun h => by cases h) (fun _ => ?_)
      refine SWrap.i64z ((0 + 1 : Nat) : Int) (by omega) (by omega) ?_
      exact ⟨0 + 1, [0, 1], by decide, by decide, ⟨rfl, by simp, rfl, rfl, rfl, ⟨rfl, rfl, rfl, trivial⟩, ⟨rfl, rfl, trivial⟩⟩⟩
    · refine SCmp.yes (rfl) ?_
      refine SIdx.mk 1 _ rfl rfl ?_
      refine SCall.pure (none1_ok (m 1) (lst (cntB 7 n) B) (fun i hi => by rw [lst_length] at hi; rw [lst_getD hi]; exact check1_ok _ ((h.bB i hi).mono (by omega))) (by rw [lst_length]; exact Nat.le_trans (cb 1) (by decide))) ?_
      refine SCond.mk (fun h => by cases h) (fun _ => ?_)
      refine SWrap.i64z ((1 + 1 : Nat) : Int) (by omega) (by omega) ?_
      exact ⟨1 + 1, [0, 1], by decide, by decide, ⟨rfl, by simp, rfl, rfl, rfl, ⟨rfl, rfl, rfl, trivial⟩, ⟨rfl, rfl, trivial⟩⟩⟩
    · refine SCmp.yes (rfl) ?_
      refine SIdx.mk 2 _ rfl rfl ?_
      refine SCall.pure (none1_ok (m 2) (lst (cntH 7 n r) G) (fun i hi => by rw [lst_length] at hi; rw [lst_getD hi]; exact check1_ok _ ((h.bG i hi).mono (by omega))) (by rw [lst_length]; exact Nat.le_trans (cb 2) (by decide))) ?_
      refine SCond.mk (fun h => by cases h) (fun _ => ?_)
      refine SWrap.i64z ((2 + 1 : Nat) : Int) (by omega) (by omega) ?_
      exact ⟨2 + 1, [0, 1], by decide, by decide, ⟨rfl, by simp, rfl, rfl, rfl, ⟨rfl, rfl, rfl, trivial⟩, ⟨rfl, rfl, trivial⟩⟩⟩
    · refine SCmp.yes (rfl) ?_
      refine SIdx.mk 3 _ rfl rfl ?_
      refine SCall.pure (none1_ok (m 3) (lst (cntH 7 n r) H) (fun i hi => by rw [lst_length] at hi; rw [lst_getD hi]; exact check1_ok _ ((h.bH i hi).mono (by omega))) (by rw [lst_length]; exact Nat.le_trans (cb 3) (by decide))) ?_
      refine SCond.mk (fun h => by cases h) (fun _ => ?_)
      refine SWrap.i64z ((3 + 1 : Nat) : Int) (by omega) (by omega) ?_
      exact ⟨3 + 1, [0, 1], by decide, by decide, ⟨rfl, by simp, rfl, rfl, rfl, ⟨rfl, rfl, rfl, trivial⟩, ⟨rfl, rfl, trivial⟩⟩⟩
    · refine SCmp.no (rfl) ?_
      refine SZ.mk ((cntA 7 n : Nat) : Int) (by simp [lst]) ?_
      refine SLoop.mk Nat (fun i => ([(1, .bptr 0 0), (68, .p (ratsM (m 0) (lst (cntA 7 n) A))), (69, .p (.int .i64 ((cntA 7 n : Nat) : Int))), (70, .p (.int .i64 i))], [.box 59 [.p (.int .i64 ((7 : Nat) : Int)), .p (.int .i64 (n : Int)), .p (.int .i64 (r : Int)), .p (ratsM (m 0) (lst (cntA 7 n) A)), .p (ratsM (m 1) (lst (cntB 7 n) B)), .p (ratsM (m 2) (lst (cntH 7 n r) G)), .p (ratsM (m 3) (lst (cntH 7 n r) H))], .box 189 [.p (ratsM (m 0) (lst (cntA 7 n) A)), .p (ratsM (m 1) (lst (cntB 7 n) B)), .p (ratsM (m 2) (lst (cntH 7 n r) G)), .p (ratsM (m 3) (lst (cntH 7 n r) H))]]))
        (fun i => i ≤ cntA 7 n) (fun i => cntA 7 n - i) 0 [0, 1] (Nat.zero_le _) ⟨rfl, by simp, rfl, rfl, rfl, ⟨rfl, rfl, rfl, rfl, trivial⟩, ⟨rfl, rfl, trivial⟩⟩ ?_
      intro i hi
      have hi : i ≤ cntA 7 n := hi
      have cA := cb 0
      by_cases hia : i < cntA 7 n
      · refine SCmp.yes (decide_eq_true (by omega)) ?_
        refine SIdx.rf i rfl hia ?_
        have hz := (h.bA i hia).mono (show b ≤ c by omega)
        have hc2 := none2_ok (m 1) true (A i) (lst (cntB 7 n) B) (fun j hj => by
          rw [lst_length] at hj; rw [lst_getD hj]
          have := check2_ok true (A i) (B j) hz (h.bB j hj) (by omega)
          rw [decide_eq_false (h.ne i j hia hj)] at this
          exact this) (by rw [lst_length]; exact Nat.le_trans (cb 1) (by decide))
        refine SCall.pure (pvs := [ratsM (m 1) (lst (cntB 7 n) B), .fn 189 [.pel true (ratP (A i))]]) hc2 ?_
        refine SCond.mk (fun h => by cases h) (fun _ => ?_)
        refine SWrap.i64z ((i + 1 : Nat) : Int) (by omega) (by omega) ?_
        exact ⟨i + 1, [0, 1], hia, by show cntA 7 n - (i + 1) < cntA 7 n - i; omega, ⟨rfl, by simp, rfl, rfl, rfl, ⟨rfl, rfl, rfl, rfl, trivial⟩, ⟨rfl, rfl, trivial⟩⟩⟩
      · refine SCmp.no (decide_eq_false (by omega)) ?_
        exact SRet.pure (.p _ (.int _ _))
theorem gcheck_ok (m : Nat → Bool) (g : GV) {b c : Nat} (h : Wf g b c) : CallP Try.prog 150 [genP m g] (.p (.int .i64 0)) [] := by
  obtain ⟨k, n, r, A, B, G, H⟩ := g
  rcases k_cases h.k1 h.k7 with e | e | e | e | e | e | e <;> (have e : k = _ := e; subst e)
  · exact gcheck1_ok m n r A B G H h
  · exact gcheck2_ok m n r A B G H h
  · exact gcheck3_ok m n r A B G H h
  · exact gcheck4_ok m n r A B G H h
  · exact gcheck5_ok m n r A B G H h
  · exact gcheck6_ok m n r A B G H h
  · exact gcheck7_ok m n r A B G H h
end Go.Proofs.Ytkaooejeljdbnaa

namespace Go.Proofs.Ytkaooejeljdbnaa
open Go
set_option linter.unusedVariables false
set_option linter.unusedSimpArgs false
set_option maxRecDepth 10000
theorem ratP_one' : ratP 1 = .agg [.bool false, natP 1, natP 1] := rfl
end Go.Proofs.Ytkaooejeljdbnaa

namespace Go.Proofs.Ytkaooejeljdbnaa
/-- The first place from p on, among so many, with no nought in column j. -/
def pvG (A : Nat → Nat → Rat) (j : Nat) : Nat → Nat → Nat
  | 0, p => p
  | d + 1, p => if A p j = 0 then pvG A j d (p + 1) else p
def pv (A : Nat → Nat → Rat) (j n r : Nat) : Nat := pvG A j (n - r) r
theorem pvG_eq {A : Nat → Nat → Rat} {j : Nat} : ∀ (d r p : Nat), r ≤ p → p ≤ r + d → (∀ i, r ≤ i → i < p → A i j = 0) → (p = r + d ∨ A p j ≠ 0) → pvG A j d r = p := by
  intro d
  induction d with
  | zero => intro r p h1 h2 _ _; simp only [pvG]; omega
  | succ d ih =>
    intro r p h1 h2 h3 h4
    simp only [pvG]
    by_cases e : r = p
    · subst e
      rcases h4 with h4 | h4
      · omega
      · rw [if_neg h4]
    · rw [if_pos (h3 r (Nat.le_refl _) (by omega))]
      exact ih (r + 1) p (by omega) (by omega) (fun i hi => h3 i (by omega)) (h4.imp (fun h => by omega) id)
theorem pv_eq {A : Nat → Nat → Rat} {j n r p : Nat} (h1 : r ≤ p) (h2 : p ≤ n) (h3 : ∀ i, r ≤ i → i < p → A i j = 0) (h4 : p = n ∨ A p j ≠ 0) : pv A j n r = p :=
  pvG_eq _ _ _ h1 (by omega) h3 (h4.imp (fun h => by omega) id)
theorem pvG_spec {A : Nat → Nat → Rat} {j : Nat} : ∀ (d r : Nat), r ≤ pvG A j d r ∧ pvG A j d r ≤ r + d ∧ (∀ i, r ≤ i → i < pvG A j d r → A i j = 0) ∧ (pvG A j d r = r + d ∨ A (pvG A j d r) j ≠ 0) := by
  intro d
  induction d with
  | zero => intro r; simp only [pvG]; exact ⟨Nat.le_refl _, Nat.le_refl _, fun i h1 h2 => by omega, .inl rfl⟩
  | succ d ih =>
    intro r
    simp only [pvG]
    by_cases e : A r j = 0
    · rw [if_pos e]
      obtain ⟨h1, h2, h3, h4⟩ := ih (r + 1)
      refine ⟨by omega, by omega, fun i hi hi2 => ?_, h4.imp (fun h => by omega) id⟩
      by_cases ei : i = r
      · subst ei; exact e
      · exact h3 i (by omega) hi2
    · rw [if_neg e]; exact ⟨Nat.le_refl _, by omega, fun i h1 h2 => by omega, .inr e⟩
theorem pv_spec {A : Nat → Nat → Rat} {j n r : Nat} (h : r ≤ n) : r ≤ pv A j n r ∧ pv A j n r ≤ n ∧ (∀ i, r ≤ i → i < pv A j n r → A i j = 0) ∧ (pv A j n r = n ∨ A (pv A j n r) j ≠ 0) := by
  obtain ⟨h1, h2, h3, h4⟩ := pvG_spec (A := A) (j := j) (n - r) r
  have e : r + (n - r) = n := by omega
  rw [e] at h2 h4
  exact ⟨h1, h2, h3, h4⟩
def swpM (A : Nat → Nat → Rat) (p r : Nat) : Nat → Nat → Rat := fun i => A (if i = p then r else if i = r then p else i)
/-- Column j is cleared below row r. -/
def redM (B : Nat → Nat → Rat) (r j : Nat) : Nat → Nat → Rat := fun i k => if r < i ∧ j ≤ k then B i k - B i j / B r j * B r k else B i k
structure ElS where
  A : Nat → Nat → Rat
  det : Rat
  r : Nat
/-- The round of column j. -/
def elS (n j : Nat) (s : ElS) : ElS :=
  if n ≤ pv s.A j n s.r then ⟨s.A, 0, s.r⟩ else
    ⟨redM (swpM s.A (pv s.A j n s.r) s.r) s.r j, (if pv s.A j n s.r = s.r then s.det else -s.det) * swpM s.A (pv s.A j n s.r) s.r s.r j, s.r + 1⟩
def elim (n : Nat) (A : Nat → Nat → Rat) (j : Nat) : ElS := iter (elS n) j ⟨A, 1, 0⟩
theorem elim_succ {n : Nat} {A : Nat → Nat → Rat} {j : Nat} : elim n A (j + 1) = elS n j (elim n A j) := rfl
theorem elim_r_n {n : Nat} {A : Nat → Nat → Rat} : ∀ j, (elim n A j).r ≤ n := by
  intro j
  induction j with
  | zero => exact Nat.zero_le _
  | succ j ih =>
    rw [elim_succ]; unfold elS
    split
    · exact ih
    · rename_i h
      have := (pv_spec (A := (elim n A j).A) (j := j) ih).1
      show (elim n A j).r + 1 ≤ n; omega
/-- How many digits there may be in a row that was turned so often; in the determinant. -/
def bb (b : Nat) : Nat → Nat
  | 0 => b
  | k + 1 => 4 * bb b k + 1
/-- The same, where the first round is known to be a mild one. -/
def b1 (b c : Nat) : Nat → Nat
  | 0 => b
  | k + 1 => bb c k
def dR (R : Nat → Nat) : Nat → Nat
  | 0 => 1
  | k + 1 => dR R k + R k
theorem Rmono {R : Nat → Nat} (h : ∀ k, R k ≤ R (k + 1)) {i j : Nat} (hij : i ≤ j) : R i ≤ R j := by
  induction j with
  | zero => rw [Nat.le_zero.1 hij]; exact Nat.le_refl _
  | succ j ih =>
    by_cases e : i = j + 1
    · rw [e]; exact Nat.le_refl _
    · exact Nat.le_trans (ih (by omega)) (h j)
theorem dR_mono {R : Nat → Nat} {i j : Nat} (h : i ≤ j) : dR R i ≤ dR R j := Rmono (fun k => Nat.le_add_right _ _) h
theorem dR_pos {R : Nat → Nat} {k : Nat} : 1 ≤ dR R k := dR_mono (R := R) (Nat.zero_le k)
theorem dR_lt {R : Nat → Nat} {k n : Nat} (h : k < n) : R k + 1 ≤ dR R n := by
  have h1 := dR_mono (R := R) (show k + 1 ≤ n from h)
  have h2 := dR_pos (R := R) (k := k)
  simp only [dR] at h1; omega
/-- The rows' digits. -/
def RowB (R : Nat → Nat) (n w : Nat) (A : Nat → Nat → Rat) (r : Nat) : Prop := ∀ i k, i < n → k < w → Bz (A i k) (R (min i r))
theorem RowB.swp {R : Nat → Nat} {n w : Nat} {A : Nat → Nat → Rat} {r p : Nat} (h : RowB R n w A r) (hp : r ≤ p) (hpn : p < n) : RowB R n w (swpM A p r) r := by
  intro i k hi hk
  unfold swpM
  by_cases e1 : i = p
  · rw [if_pos e1]
    have := h r k (by omega) hk
    rw [Nat.min_self] at this
    rw [Nat.min_eq_right (by omega)]; exact this
  · rw [if_neg e1]
    by_cases e2 : i = r
    · rw [if_pos e2]
      have := h p k hpn hk
      rw [Nat.min_eq_right hp] at this
      rw [e2, Nat.min_self]; exact this
    · rw [if_neg e2]; exact h i k hi hk
theorem RowB.quo {R : Nat → Nat} {n w : Nat} {B : Nat → Nat → Rat} {r : Nat} (h : RowB R n w B r) {i j : Nat} (hi : i < n) (hr : r < i) (hj : j < w) : Bz (B i j / B r j) (R r + R r) := by
  have h1 := h i j hi hj
  have h2 := h r j (by omega) hj
  rw [Nat.min_eq_right (by omega)] at h1
  rw [Nat.min_self] at h2
  exact h1.div h2
theorem RowB.red {R : Nat → Nat} {n w : Nat} {B : Nat → Nat → Rat} {r j : Nat} (hR : 4 * R r + 1 ≤ R (r + 1)) (hm : ∀ k, R k ≤ R (k + 1)) (h : RowB R n w B r) (hj : j < w) : RowB R n w (redM B r j) (r + 1) := by
  intro i k hi hk
  unfold redM
  by_cases c : r < i ∧ j ≤ k
  · rw [if_pos c]
    have h1 := h i k hi hk
    have h2 := h r k (by omega) hk
    have h3 := h.quo hi c.1 hj
    rw [Nat.min_eq_right (by omega)] at h1
    rw [Nat.min_self] at h2
    rw [Nat.min_eq_right (by omega)]
    exact (h1.sub (h3.mul h2)).mono (by omega)
  · rw [if_neg c]
    exact (h i k hi hk).mono (Rmono hm (by omega))
theorem swpM_self {A : Nat → Nat → Rat} {r : Nat} : swpM A r r = A := by
  funext i
  unfold swpM
  by_cases e : i = r
  · rw [if_pos e, e]
  · rw [if_neg e, if_neg e]
theorem redM_le {B : Nat → Nat → Rat} {r j i k : Nat} (h : i ≤ r ∨ k < j) : redM B r j i k = B i k := if_neg (by omega)
theorem redM_gt {B : Nat → Nat → Rat} {r j i k : Nat} (h1 : r < i) (h2 : j ≤ k) : redM B r j i k = B i k - B i j / B r j * B r k := if_pos ⟨h1, h2⟩
/-- What is known of the digits, all the way down. -/
structure RB (R : Nat → Nat) (n w : Nat) (A : Nat → Nat → Rat) : Prop where
  row : ∀ j, j ≤ n → RowB R n w (elim n A j).A (elim n A j).r
  mono : ∀ k, R k ≤ R (k + 1)
  lim : ∀ k, k + 1 < n → 4 * R k + 1 ≤ 1048576
  dlim : dR R n ≤ 1048576
theorem RB.det {R : Nat → Nat} {n w : Nat} {A : Nat → Nat → Rat} (h : RB R n w A) (hw : n ≤ w) : ∀ j, j ≤ n → Bz (elim n A j).det (dR R (elim n A j).r) := by
  intro j
  induction j with
  | zero => exact fun _ => bz_one
  | succ j ih =>
    intro hj
    have h2 := ih (by omega)
    have h1 := h.row j (by omega)
    have hr := elim_r_n (n := n) (A := A) j
    rw [elim_succ]
    unfold elS
    split
    · exact bz_zero.mono dR_pos
    · rename_i hp
      obtain ⟨p1, p2, _, _⟩ := pv_spec (A := (elim n A j).A) (j := j) hr
      have h3 := h1.swp p1 (by omega)
      have h4 := h3 (elim n A j).r j (by omega) (by omega)
      rw [Nat.min_self] at h4
      have h5 : Bz (if pv (elim n A j).A j n (elim n A j).r = (elim n A j).r then (elim n A j).det else -(elim n A j).det) (dR R (elim n A j).r) := by
        split
        · exact h2
        · exact h2.neg
      exact (h5.mul h4).mono (by simp only [dR]; omega)
/-- From the round m on. -/
theorem elim_b {R : Nat → Nat} {n w : Nat} {A : Nat → Nat → Rat} (m : Nat) (hm : ∀ k, R k ≤ R (k + 1)) (h4 : ∀ k, m ≤ k → 4 * R k + 1 ≤ R (k + 1)) (hw : n ≤ w)
    (h0 : ∀ j, j ≤ m → j ≤ n → RowB R n w (elim n A j).A (elim n A j).r) (hrm : m ≤ n → (elim n A m).r = m) : ∀ j, j ≤ n → RowB R n w (elim n A j).A (elim n A j).r ∧ (m ≤ j → m ≤ (elim n A j).r) := by
  intro j
  induction j with
  | zero => intro hj; exact ⟨h0 0 (Nat.zero_le _) hj, fun e => by omega⟩
  | succ j ih =>
    intro hj
    by_cases hjm : j + 1 ≤ m
    · refine ⟨h0 _ hjm hj, fun e => ?_⟩
      have e : m = j + 1 := by omega
      rw [← e, hrm (by omega)]; exact Nat.le_refl _
    obtain ⟨h1, h2⟩ := ih (by omega)
    have h2 := h2 (by omega)
    have hr := elim_r_n (n := n) (A := A) j
    rw [elim_succ]
    unfold elS
    split
    · exact ⟨h1, fun _ => h2⟩
    · rename_i hp
      obtain ⟨p1, p2, _, _⟩ := pv_spec (A := (elim n A j).A) (j := j) hr
      have h3 := h1.swp p1 (by omega)
      exact ⟨h3.red (h4 _ h2) hm (by omega), fun _ => Nat.le_succ_of_le h2⟩
theorem bb_step {b : Nat} (k : Nat) : bb b k ≤ bb b (k + 1) := by simp only [bb]; omega
/-- Where the first place is no nought. -/
theorem RB.one {n w b c : Nat} {A : Nat → Nat → Rat} (hA : ∀ i k, i < n → k < w → Bz (A i k) b) (hw : n ≤ w) (hbc : b ≤ c) (hc : 4 * b + 1 ≤ 1048576) (hb : dR (b1 b c) n ≤ 1048576) (h00 : A 0 0 ≠ 0)
    (h1 : ∀ i k, 0 < i → i < n → k < w → Bz (A i k - A i 0 / A 0 0 * A 0 k) c) : RB (b1 b c) n w A where
  row := fun j hj => (elim_b 1 (fun k => by cases k with
      | zero => exact hbc
      | succ k => exact bb_step k) (fun k hk => by cases k with
      | zero => omega
      | succ k => exact Nat.le_refl _) hw (fun j hj1 hjn => by
    have h0 : RowB (b1 b c) n w A 0 := fun i k hi hk => by rw [Nat.min_zero]; exact hA i k hi hk
    by_cases e : j = 0
    · subst e; exact h0
    · obtain rfl : j = 1 := by omega
      have hpv : pv A 0 n 0 = 0 := pv_eq (Nat.le_refl _) (Nat.zero_le _) (fun i h1 h2 => absurd h2 (Nat.not_lt_zero _)) (.inr h00)
      show RowB (b1 b c) n w (elS n 0 ⟨A, 1, 0⟩).A (elS n 0 ⟨A, 1, 0⟩).r
      unfold elS
      dsimp only
      rw [hpv, if_neg (by omega), swpM_self]
      intro i k hi hk
      show Bz (redM A 0 0 i k) _
      by_cases hi0 : 0 < i
      · rw [redM_gt hi0 (Nat.zero_le _), Nat.min_eq_right hi0]; exact h1 i k hi0 hi hk
      · rw [redM_le (.inl (by omega)), Nat.min_eq_left (by show i ≤ 0 + 1; omega)]
        obtain rfl : i = 0 := by omega
        exact hA 0 k hi hk) (fun hn => by
      have hpv : pv A 0 n 0 = 0 := pv_eq (Nat.le_refl _) (Nat.zero_le _) (fun i h1 h2 => absurd h2 (Nat.not_lt_zero _)) (.inr h00)
      show (elS n 0 ⟨A, 1, 0⟩).r = 1
      unfold elS
      dsimp only
      rw [hpv, if_neg (by omega)]) j hj).1
  mono := fun k => by cases k with
      | zero => exact hbc
      | succ k => exact bb_step k
  lim := fun k hk => by
    cases k with
    | zero => exact hc
    | succ k => have := dR_lt (R := b1 b c) hk; simp only [b1, bb] at this ⊢; omega
  dlim := hb
end Go.Proofs.Ytkaooejeljdbnaa

namespace Go.Proofs.Ytkaooejeljdbnaa
open Go
set_option linter.unusedVariables false
set_option linter.unusedSimpArgs false
set_option maxRecDepth 10000
/-- s0, less so many products. -/
def sb (a x : Nat → Rat) (s0 : Rat) (from' : Nat) : Nat → Rat
  | 0 => s0
  | d + 1 => sb a x s0 from' d - a (from' + d) * x (from' + d)
/-- What is known behind so many rounds, from the last row on. -/
def bk (A : Nat → Nat → Rat) (n : Nat) : Nat → Nat → Rat
  | 0 => fun _ => 0
  | t + 1 => upd (bk A n t) (n - 1 - t) (sb (A (n - 1 - t)) (bk A n t) (A (n - 1 - t) n) (n - t) t / A (n - 1 - t) (n - 1 - t))
/-- Digits, added up. -/
def xs (R : Nat → Nat) (n : Nat) : Nat → Nat
  | 0 => 0
  | t + 1 => xs R n t + (2 * R (n - 1 - t) + t * (R (n - 1 - t) + 1) + xs R n t)
theorem SIdx.fl {n : Nat} {f : Nat → PV} {i : Int} {K : Nat → PV → Prop} (j : Nat) (v : PV) (hi : i = j) (hj : j < n) (hv : f j = v) (hk : K j v) : SIdx (fl n f) i K := by
  subst hv; exact .mk j _ hi (fl_get hj) hk
theorem replicate_fl {α : Type} (n : Nat) (z : α) : List.replicate n z = fl n fun _ => z := by
  apply List.ext_getElem (by simp)
  intro i h1 h2
  simp [Go.Proofs.Ytkaooejeljdbnaa.fl]
end Go.Proofs.Ytkaooejeljdbnaa

namespace Go.Proofs.Ytkaooejeljdbnaa
open Go
set_option linter.unusedVariables false
set_option linter.unusedSimpArgs false
abbrev half (p c n k : Nat) : List AV := fl n fun i => if i < k then .vec (.r p i) 3 0 c else .emp
abbrev halq (p c n k q : Nat) : List AV := fl n fun i => if i < k then .vec (.r p i) 3 0 c else if i = k then .vec (.t q) 3 0 c else .emp
theorem half_full {p c n : Nat} : half p c n n = plc p c n id := fl_congr fun i hi => if_pos hi
/-- The pool takes in the row that is filled. -/
theorem half_absorb {hs : List Nat} {P : Hp} {p p' q c n k : Nat} (hp : hs.getD p 0 = p' + 1000 * (q + 1)) (hp' : p' < 1000) (hl : plenAt P p = k + 1) : AV.renL (renW hs P) (half p c n (k + 1)) = halq p' c n k q := by
  rw [renL_fl]
  have eb : Nat.blt (hs.getD p 0) 1000 = false := by
    cases hb : Nat.blt (hs.getD p 0) 1000 with
    | false => rfl
    | true => have := blt_iff.1 hb; omega
  have e1 : hs.getD p 0 % 1000 = p' := by omega
  have e2 : hs.getD p 0 / 1000 - 1 = q := by omega
  refine fl_congr fun i hi => ?_
  by_cases h1 : i < k
  · have e4 : Nat.blt (i + 1) (k + 1) = true := blt_iff.2 (by omega)
    rw [if_pos (by omega), if_pos h1]
    simp only [AV.ren, renW, eb, hl, e4, cond_false, cond_true, e1]
  · by_cases h2 : i = k
    · have e4 : Nat.blt (i + 1) (k + 1) = false := by
        cases hb : Nat.blt (i + 1) (k + 1) with
        | false => rfl
        | true => have := blt_iff.1 hb; omega
      rw [if_pos (by omega), if_neg h1, if_pos h2]
      simp only [AV.ren, renW, eb, hl, e4, cond_false, e2]
    · rw [if_neg (by omega), if_neg h1, if_neg h2]; simp only [AV.ren]
theorem half_in {P : Hp} {p c n k : Nat} (h : ∀ i, i < k → i < plenAt P p) : ∀ x ∈ half p c n k, ∀ h, x.men h → look P h ≠ .free := by
  intro x hx g hg
  obtain ⟨i, hi, rfl⟩ := fl_mem hx
  by_cases e : i < k
  · rw [if_pos e] at hg
    simp only [AV.men] at hg
    subst hg
    exact look_row (h i e)
  · rw [if_neg e] at hg; exact hg.elim
theorem half_ren0 {ρ : Hd → Hd} {p c n : Nat} : AV.renL ρ (half p c n 0) = List.replicate n .emp := by
  rw [renL_fl, replicate_fl]
  refine fl_congr fun i _ => ?_
  rw [if_neg (Nat.not_lt_zero i)]; simp only [AV.ren]
end Go.Proofs.Ytkaooejeljdbnaa

namespace Go.Proofs.Ytkaooejeljdbnaa
def Ker (n w : Nat) (A : Nat → Nat → Rat) (v : Nat → Rat) : Prop := ∀ i, i < n → sm w (fun k => A i k * v k) = 0
theorem Ker.swp {n w p r : Nat} {A : Nat → Nat → Rat} {v : Nat → Rat} (hp : p < n) (hr : r < n) : Ker n w (swpM A p r) v ↔ Ker n w A v := by
  constructor
  · intro h i hi
    by_cases e1 : i = p
    · have := h r hr
      unfold swpM at this
      by_cases e2 : r = p
      · rw [if_pos e2] at this; rw [e1, ← e2]; exact this
      · rw [if_neg e2, if_pos rfl] at this; rw [e1]; exact this
    · by_cases e2 : i = r
      · have := h p hp
        unfold swpM at this
        rw [if_pos rfl] at this; rw [e2]; exact this
      · have := h i hi
        unfold swpM at this
        rw [if_neg e1, if_neg e2] at this; exact this
  · intro h i hi
    unfold swpM
    split
    · exact h r hr
    · split
      · exact h p hp
      · exact h i hi
theorem red_row {B : Nat → Nat → Rat} {r j i : Nat} (hz : ∀ k, k < j → B r k = 0) (hi : r < i) (k : Nat) : redM B r j i k = B i k - B i j / B r j * B r k := by
  by_cases e : j ≤ k
  · exact redM_gt hi e
  · rw [redM_le (.inr (by omega)), hz k (by omega)]; grind
theorem Ker.red {n w r j : Nat} {B : Nat → Nat → Rat} {v : Nat → Rat} (hz : ∀ k, k < j → B r k = 0) (hr : r < n) : Ker n w (redM B r j) v ↔ Ker n w B v := by
  have row : ∀ i, r < i → sm w (fun k => redM B r j i k * v k) = sm w (fun k => B i k * v k) - B i j / B r j * sm w (fun k => B r k * v k) := by
    intro i hi
    rw [← sm_smul, ← sm_sub]
    refine sm_congr fun k _ => ?_
    rw [red_row hz hi]; grind
  have low : ∀ i, ¬ r < i → (fun k => redM B r j i k * v k) = fun k => B i k * v k := by
    intro i hi
    funext k
    rw [redM_le (.inl (by omega))]
  constructor
  · intro h i hi
    have h0 : sm w (fun k => B r k * v k) = 0 := by have := h r hr; rw [low r (Nat.lt_irrefl r)] at this; exact this
    have := h i hi
    by_cases e : r < i
    · rw [row i e, h0] at this; grind
    · rw [low i e] at this; exact this
  · intro h i hi
    by_cases e : r < i
    · rw [row i e, h i hi, h r hr]; grind
    · rw [low i e]; exact h i hi
end Go.Proofs.Ytkaooejeljdbnaa

namespace Go.Proofs.Ytkaooejeljdbnaa
def pm : Nat → (Nat → Rat) → Rat
  | 0, _ => 1
  | n + 1, f => pm n f * f n
def pmx (n k : Nat) (f : Nat → Rat) : Rat := pm n fun t => if t = k then 1 else f t
theorem pm_congr {f g : Nat → Rat} : ∀ {n : Nat}, (∀ i, i < n → f i = g i) → pm n f = pm n g := by
  intro n
  induction n with
  | zero => exact fun _ => rfl
  | succ n ih => intro h; simp only [pm]; rw [ih fun i hi => h i (by omega), h n (by omega)]
theorem pm_ne {f : Nat → Rat} : ∀ {n : Nat}, (∀ i, i < n → f i ≠ 0) → pm n f ≠ 0 := by
  intro n
  induction n with
  | zero => intro _; simp only [pm]; decide
  | succ n ih =>
    intro h e
    rcases Rat.mul_eq_zero.1 e with e | e
    · exact ih (fun i hi => h i (by omega)) e
    · exact h n (by omega) e
theorem pm_zero {f : Nat → Rat} {k : Nat} : ∀ {n : Nat}, k < n → f k = 0 → pm n f = 0 := by
  intro n
  induction n with
  | zero => intro h; exact absurd h (Nat.not_lt_zero _)
  | succ n ih =>
    intro h e
    simp only [pm]
    by_cases c : k = n
    · rw [← c, e]; exact Rat.mul_zero _
    · rw [ih (by omega) e]; exact Rat.zero_mul _
theorem pmx_ne {f : Nat → Rat} {n k : Nat} (h : ∀ i, i < n → i ≠ k → f i ≠ 0) : pmx n k f ≠ 0 :=
  pm_ne fun i hi => by
    by_cases e : i = k
    · rw [if_pos e]; decide
    · rw [if_neg e]; exact h i hi e
theorem pmx_zero {f : Nat → Rat} {n k l : Nat} (hl : l < n) (hk : l ≠ k) (h : f l = 0) : pmx n k f = 0 := pm_zero hl (by rw [if_neg hk]; exact h)
theorem pmx_ge {f : Nat → Rat} {n k : Nat} (h : n ≤ k) : pmx n k f = pm n f := pm_congr fun i hi => if_neg (by omega)
theorem pmx_succ {f : Nat → Rat} {n k : Nat} (h : n ≠ k) : pmx (n + 1) k f = pmx n k f * f n := by
  show pm n _ * (if n = k then 1 else f n) = _
  rw [if_neg h]; rfl
theorem pmx_self {f : Nat → Rat} {n : Nat} : pmx (n + 1) n f = pm n f := by
  show pm n _ * (if n = n then 1 else f n) = _
  rw [if_pos rfl, Rat.mul_one]; exact pmx_ge (Nat.le_refl n)
theorem pm_split {f : Nat → Rat} {k : Nat} : ∀ {n : Nat}, k < n → pm n f = f k * pmx n k f := by
  intro n
  induction n with
  | zero => intro h; exact absurd h (Nat.not_lt_zero _)
  | succ n ih =>
    intro h
    by_cases c : k = n
    · subst c; rw [pmx_self]; simp only [pm]; exact Rat.mul_comm _ _
    · rw [pmx_succ (by omega)]; simp only [pm]; rw [ih (by omega)]; grind
def PolE (k : Nat) (g : Rat → Rat) : Prop := ∃ c : Nat → Rat, ∀ X, pev k c X = g X
theorem PolE.zero (k : Nat) : PolE k fun _ => 0 := ⟨fun i => 0 * (0 : Rat), fun X => by rw [pev_smul k 0 (fun _ => 0) X]; exact Rat.zero_mul _⟩
theorem PolE.add {k : Nat} {g h : Rat → Rat} (hg : PolE k g) (hh : PolE k h) : PolE k fun X => g X + h X := by
  obtain ⟨c, hc⟩ := hg
  obtain ⟨d, hd⟩ := hh
  exact ⟨fun i => c i + d i, fun X => by rw [pev_add, hc, hd]⟩
theorem PolE.smul {k : Nat} {g : Rat → Rat} (b : Rat) (hg : PolE k g) : PolE k fun X => b * g X := by
  obtain ⟨c, hc⟩ := hg
  exact ⟨fun i => b * c i, fun X => by rw [pev_smul, hc]⟩
theorem PolE.mulX {k : Nat} {g : Rat → Rat} (hg : PolE k g) (r : Rat) : PolE (k + 1) fun X => g X * (r - X) := by
  obtain ⟨c, hc⟩ := hg
  obtain ⟨d, _, hd⟩ := (Pol.mulX (g := g) ⟨c, rfl, hc⟩ r).smul (-1)
  exact ⟨d, fun X => by rw [hd]; grind⟩
theorem PolE.pm (a : Nat → Rat) : ∀ n, PolE n fun X => pm n fun t => a t - X := by
  intro n
  induction n with
  | zero => exact ⟨fun _ => 1, fun X => rfl⟩
  | succ n ih => exact ih.mulX (a n)
theorem PolE.pmx (a : Nat → Rat) (j : Nat) : ∀ n, j < n + 1 → PolE n fun X => pmx (n + 1) j fun t => a t - X := by
  intro n
  induction n with
  | zero =>
    intro h
    obtain rfl : j = 0 := by omega
    have : (fun X : Rat => Go.Proofs.Ytkaooejeljdbnaa.pmx (0 + 1) 0 fun t => a t - X) = fun X => Go.Proofs.Ytkaooejeljdbnaa.pm 0 fun t => a t - X := by funext X; exact pmx_self
    rw [this]; exact PolE.pm a 0
  | succ n ih =>
    intro h
    by_cases e : j = n + 1
    · subst e
      have : (fun X : Rat => Go.Proofs.Ytkaooejeljdbnaa.pmx (n + 1 + 1) (n + 1) fun t => a t - X) = fun X => Go.Proofs.Ytkaooejeljdbnaa.pm (n + 1) fun t => a t - X := by funext X; exact pmx_self
      rw [this]; exact PolE.pm a (n + 1)
    · have : (fun X : Rat => Go.Proofs.Ytkaooejeljdbnaa.pmx (n + 1 + 1) j fun t => a t - X) = fun X => (Go.Proofs.Ytkaooejeljdbnaa.pmx (n + 1) j fun t => a t - X) * (a (n + 1) - X) := by funext X; exact pmx_succ (by omega)
      rw [this]; exact (ih (by omega)).mulX _
theorem PolE.sum {k : Nat} {G : Nat → Rat → Rat} : ∀ m, (∀ t, t < m → PolE k (G t)) → PolE k fun X => sm m fun t => G t X := by
  intro m
  induction m with
  | zero => exact fun _ => PolE.zero k
  | succ m ih => intro h; exact (ih fun t ht => h t (by omega)).add (h m (by omega))
theorem PolE.eq {k : Nat} {g h : Rat → Rat} {r : Nat → Rat} (hg : PolE k g) (hh : PolE k h) (hi : Inj r (k + 1)) (he : ∀ l, l < k + 1 → g (r l) = h (r l)) (X : Rat) : g X = h X := by
  obtain ⟨c, hc⟩ := hg
  obtain ⟨d, hd⟩ := hh
  rw [← hc, ← hd]
  exact pev_congr k X (pev_eq hi fun l hl => by rw [hc, hd]; exact he l hl)
/-- An entry of what undoes it, as the program comes to it: i of the second row of nodes, k of the first. -/
def cuF (a b : Nat → Rat) (i k : Nat) : Nat → Rat
  | 0 => 1 / (a k - b i)
  | m + 1 => if m = i then (if m = k then cuF a b i k m * ((a k - b m) * (a m - b i)) else cuF a b i k m * ((a k - b m) * (a m - b i)) / (a k - a m))
    else (if m = k then cuF a b i k m * ((a k - b m) * (a m - b i)) else cuF a b i k m * ((a k - b m) * (a m - b i)) / (a k - a m)) / (b m - b i)
structure CauH (n : Nat) (a b : Nat → Rat) : Prop where
  ia : Inj a n
  ib : Inj b n
  ne : ∀ i k, i < n → k < n → a i ≠ b k
theorem rsub_ne {a b : Rat} (h : a ≠ b) : a - b ≠ 0 := fun e => h (by grind)
theorem CauH.da {n : Nat} {a b : Nat → Rat} (h : CauH n a b) {i k : Nat} (hi : i < n) (hk : k < n) (e : i ≠ k) : a i - a k ≠ 0 := rsub_ne fun c => e (h.ia i k hi hk c)
theorem CauH.dx {n : Nat} {a b : Nat → Rat} (h : CauH n a b) {i k : Nat} (hi : i < n) (hk : k < n) : a i - b k ≠ 0 := rsub_ne (h.ne i k hi hk)
theorem CauH.db {n : Nat} {a b : Nat → Rat} (h : CauH n a b) {i k : Nat} (hi : i < n) (hk : k < n) (e : i ≠ k) : b i - b k ≠ 0 := rsub_ne fun c => e (h.ib i k hi hk c)
/-- Parts of a quotient of polynomials. -/
theorem parts {n : Nat} {b : Nat → Rat} (hb : Inj b n) {g : Rat → Rat} (hn : 1 ≤ n) (hg : PolE (n - 1) g) {x : Rat} (hx : ∀ k, k < n → x ≠ b k) :
    sm n (fun k => 1 / (x - b k) * (g (b k) / pmx n k fun t => b t - b k)) = -(g x / pm n fun t => b t - x) := by
  obtain ⟨m, rfl⟩ : ∃ m, n = m + 1 := ⟨n - 1, by omega⟩
  have hnz : ∀ k, k < m + 1 → (pmx (m + 1) k fun t => b t - b k) ≠ 0 := fun k hk => pmx_ne fun t ht e => rsub_ne fun c => e (hb t k ht hk c)
  have key := PolE.eq (g := fun X => sm (m + 1) fun k => g (b k) / (pmx (m + 1) k fun t => b t - b k) * pmx (m + 1) k fun t => b t - X) (PolE.sum (m + 1) fun k hk => (PolE.pmx b k m hk).smul _) hg hb (fun l hl => by
    show (sm (m + 1) fun k => g (b k) / (pmx (m + 1) k fun t => b t - b k) * pmx (m + 1) k fun t => b t - b l) = g (b l)
    have : (sm (m + 1) fun k => g (b k) / (pmx (m + 1) k fun t => b t - b k) * pmx (m + 1) k fun t => b t - b l) = sm (m + 1) fun k => g (b k) * (if k = l then 1 else 0) := sm_congr fun k hk => by
      by_cases e : k = l
      · subst e; rw [if_pos rfl]; have := hnz k hk; grind
      · rw [if_neg e, pmx_zero (f := fun t => b t - b l) (l := l) hl (Ne.symm e) (by grind)]; grind
    rw [this]; exact sm_one hl _) x
  have hp : pm (m + 1) (fun t => b t - x) ≠ 0 := pm_ne fun t ht => rsub_ne fun c => hx t ht c.symm
  have key : (sm (m + 1) fun k => g (b k) / (pmx (m + 1) k fun t => b t - b k) * pmx (m + 1) k fun t => b t - x) = g x := key
  rw [← key]
  have : (sm (m + 1) fun k => g (b k) / (pmx (m + 1) k fun t => b t - b k) * pmx (m + 1) k fun t => b t - x) = -(pm (m + 1) fun t => b t - x) * sm (m + 1) (fun k => 1 / (x - b k) * (g (b k) / pmx (m + 1) k fun t => b t - b k)) := by
    rw [← sm_smul]
    refine sm_congr fun k hk => ?_
    rw [pm_split hk]
    have h1 := hnz k hk
    have h2 : x - b k ≠ 0 := rsub_ne (hx k hk)
    generalize (pmx (m + 1) k fun t => b t - x) = u
    generalize (pmx (m + 1) k fun t => b t - b k) = v at h1
    generalize g (b k) = y
    generalize b k = z at h2
    grind
  rw [this]
  generalize (sm (m + 1) fun k => 1 / (x - b k) * (g (b k) / pmx (m + 1) k fun t => b t - b k)) = S
  generalize pm (m + 1) (fun t => b t - x) = p at hp
  grind
end Go.Proofs.Ytkaooejeljdbnaa

namespace Go.Proofs.Ytkaooejeljdbnaa
/-- The product of all differences of two of either row. -/
def cUp (a b : Nat → Rat) (n : Nat) : Rat := pm n fun i => pm i fun k => (a i - a k) * (b k - b i)
/-- The product of all differences of one of each. -/
def cDn (a b : Nat → Rat) (m n : Nat) : Rat := pm m fun i => pm n fun k => a i - b k
def cDet (a b : Nat → Rat) (n : Nat) : Rat := cUp a b n / cDn a b n n
end Go.Proofs.Ytkaooejeljdbnaa

namespace Go.Proofs.Ytkaooejeljdbnaa
open Go
set_option linter.unusedVariables false
set_option linter.unusedSimpArgs false
set_option maxRecDepth 10000
theorem cone_ok : CallP Try.prog 100 [] (.p (ratP 1)) [] := by
  refine callG_of_vc (wr := wr0) Γok mixed Try.func100 (by kernel_rfl) rfl (by kernel_rfl) (le_of_ble rfl) (by simp) ?_
  refine SRet.pure ?_
  rw [ratP_one']
  exact conv3 ⟨rfl, rfl, rfl⟩ (.p _ (.bool _)) (frz1 rfl) (frz1 rfl)
theorem cover_ok (p q : Rat) (hq0 : q ≠ 0) {j k : Nat} (hp : Bz p j) (hq : Bz q k) (h : j + k ≤ 137438953472) : CallP Try.prog 101 [ratP p, ratP q] (.p (ratP (p / q))) [] := by
  refine callG_of_vc (wr := wr0) Γok mixed Try.func101 (by kernel_rfl) rfl (by kernel_rfl) (le_of_ble rfl) (by simp) ?_
  refine SCall.pureT (quo_ok p q hq0 hp.sz hq.sz h) (fun _ => rfl) ?_
  exact SRet.pure (.p _ (pers_rat _ _ _))
theorem twins_ok (i k : Nat) : CallP Try.prog 190 [pairP i k] (.p (.bool (decide (i = k)))) [] := by
  refine callG_of_vc (wr := wr0) Γok mixed Try.func190 (by kernel_rfl) rfl (by kernel_rfl) (le_of_ble rfl) (by simp) ?_
  refine SCmp.sym ?_
  have : (((i : Int) == (k : Int)) && (((k : Int) == (i : Int)) && true)) = decide (i = k) := by
    by_cases e : i = k
    · subst e; simp
    · rw [decide_eq_false e, beq_eq_false_iff_ne.2 (show (i : Int) ≠ k by omega)]; rfl
  rw [this]
  exact SRet.pure (.p _ (.bool _))
abbrev mapP (n : Nat) (f : Nat → Nat → Rat) : PV := .mp false (tabF n f (n * n))
theorem cof_ok (m m' : Bool) (n : Nat) (x y : Nat → Rat) {b c : Nat} (hx : ∀ i, i < n → Bz (x i) b) (hy : ∀ i, i < n → Bz (y i) c) (hb : b + c ≤ 1048576) (hn : n ≤ 1000) :
    CallP Try.prog 151 [ratsM m (lst n x), ratsM m' (lst n y)] (.p (mapP n fun i k => x i - y k)) [] := by
  refine callG_of_vc (wr := wr0) Γok mixed Try.func151 (by kernel_rfl) rfl (by kernel_rfl) (le_of_ble rfl) (by simp) ?_
  refine SZ.mk (n : Int) (by simp [lst]) ?_
  refine SLoop.mk Nat (fun i => ([(1, .p (ratsM m' (lst n y))), (5, .map 0), (11, .p (ratsM m (lst n x))), (12, .p (.int .i64 n)), (13, .p (.int .i64 i))], [.map (tabF n (fun i k => x i - y k) (i * n))]))
    (fun i => i ≤ n) (fun i => n - i) 0 [0] (Nat.zero_le _) ⟨rfl, by simp, rfl, rfl, rfl, ⟨rfl, rfl, rfl, rfl, rfl, trivial⟩, ⟨by rw [Nat.zero_mul]; rfl, trivial⟩⟩ ?_
  intro i hi
  have hi : i ≤ n := hi
  by_cases hin : i < n
  · refine SCmp.yes (decide_eq_true (by omega)) ?_
    refine SIdx.rf i rfl hin ?_
    refine SZ.mk (n : Int) (by simp [lst]) ?_
    refine SLoop.mk Nat (fun k => ([(1, .p (ratsM m' (lst n y))), (5, .map 0), (6, .p (.int .i64 i)), (7, .bptr 1 0), (11, .p (ratsM m (lst n x))), (12, .p (.int .i64 n)), (13, .p (.int .i64 i)), (18, .p (ratsM m' (lst n y))), (19, .p (.int .i64 n)), (20, .p (.int .i64 k))], [.map (tabF n (fun i k => x i - y k) (i * n + k)), .box 37 (bxQ (x i))]))
      (fun k => k ≤ n) (fun k => n - k) 0 [0, 1] (Nat.zero_le _) ⟨rfl, by simp, rfl, rfl, rfl, ⟨rfl, rfl, rfl, rfl, rfl, rfl, rfl, rfl, rfl, rfl, trivial⟩, ⟨rfl, rfl, trivial⟩⟩ ?_
    intro k hk
    have hk : k ≤ n := hk
    by_cases hkn : k < n
    · refine SCmp.yes (decide_eq_true (by omega)) ?_
      refine SIdx.rf k rfl hkn ?_
      refine SCall.pure (ratsub_ok _ _ (hx i hin).sz (hy k hkn).sz (by omega)) ?_
      refine SKeys.tab (fun _ _ => rfl) <| SPut.tab hkn rfl ?_
      refine SWrap.i64z ((k + 1 : Nat) : Int) (by omega) (by omega) ?_
      exact ⟨k + 1, [0, 1], hkn, by show n - (k + 1) < n - k; omega, ⟨rfl, by simp, rfl, rfl, rfl, ⟨rfl, rfl, rfl, rfl, rfl, rfl, rfl, rfl, rfl, rfl, trivial⟩, ⟨rfl, rfl, trivial⟩⟩⟩
    · refine SCmp.no (decide_eq_false (by omega)) ?_
      obtain rfl : k = n := by omega
      refine SWrap.i64z ((i + 1 : Nat) : Int) (by omega) (by omega) ?_
      exact ⟨i + 1, [0], hin, by show k - (i + 1) < k - i; omega, ⟨rfl, by simp, rfl, rfl, rfl, ⟨rfl, rfl, rfl, rfl, rfl, trivial⟩, ⟨congrArg (fun q => Blk.map (tabF k (fun i k => x i - y k) q)) (Nat.succ_mul i k), trivial⟩⟩⟩
  · refine SCmp.no (decide_eq_false (by omega)) ?_
    obtain rfl : i = n := by omega
    exact SRet.pure (.frzmap (es := tabF i (fun a k => x a - y k) (i * i)) rfl (by simp) (List.Perm.refl _) pers_tab)
/-- Is there a nought that isn't beside itself? -/
def twinT (n : Nat) (f : Nat → Nat → Rat) : Prop := ∃ i k, i < n ∧ k < n ∧ i ≠ k ∧ f i k = 0
theorem pairP_inj {a c a' c' : Nat} {u v : PV} (h : (pairP a c, u) = (pairP a' c', v)) : a = a' ∧ c = c' := by
  simp only [Prod.mk.injEq, PV.agg.injEq, List.cons.injEq, PV.int.injEq, and_true, true_and] at h
  omega
theorem same_ok (n : Nat) (f : Nat → Nat → Rat) {b : Nat} (hf : ∀ i k, i < n → k < n → Bz (f i k) b) (hb : b ≤ 1048576) (hn : n ≤ 1000) (r : Bool) (hr : r = true ↔ twinT n f) : CallP Try.prog 152 [mapP n f] (.p (.bool r)) [] := by
  refine callG_of_vc (wr := wr0) Γok mixed Try.func152 (by kernel_rfl) rfl (by kernel_rfl) (le_of_ble rfl) (by simp) ?_
  intro es0 hp
  have hent : ∀ (i : Nat) (e : PV × PV), es0[i]? = some e → ∃ a c, a < n ∧ c < n ∧ e = (pairP a c, ratP (f a c)) := fun i e he => by
    obtain ⟨t, ht, rfl⟩ := tabF_key (hp.mem_iff.1 (List.mem_of_getElem? he))
    have n0 : 0 < n := by rcases Nat.eq_zero_or_pos n with h | h; rw [h] at ht; simp at ht; exact h
    exact ⟨t / n, t % n, Nat.div_lt_of_lt_mul ht, Nat.mod_lt _ n0, rfl⟩
  have hlen : es0.length = n * n := by rw [hp.length_eq]; simp
  refine SLoop.mk (List Nat) (fun s => ([(6, .bptr 0 0)], [.iter false es0 s]))
    (fun s => ∀ j ∈ s, ∀ a c, es0[j]? = some (pairP a c, ratP (f a c)) → a = c ∨ f a c ≠ 0) (fun s => unseen s (n * n)) [] [0] (fun j hj => by simp at hj) ⟨rfl, by simp, rfl, rfl, rfl, ⟨rfl, trivial⟩, ⟨rfl, trivial⟩⟩ ?_
  intro s hs
  refine SNext.mk (fun j e hj hjs => ?_) (fun hend => ?_)
  · obtain ⟨a, c, ha, hc, rfl⟩ := hent j e hj
    have hz := hf a c ha hc
    have go : (a = c ∨ f a c ≠ 0) → ∀ i ∈ s ++ [j], ∀ a c, es0[i]? = some (pairP a c, ratP (f a c)) → a = c ∨ f a c ≠ 0 := fun h i hi a' c' he => by
      rcases List.mem_append.1 hi with hi | hi
      · exact hs i hi a' c' he
      · rw [List.mem_singleton.1 hi, hj] at he
        obtain ⟨rfl, rfl⟩ := pairP_inj (Option.some.inj he)
        exact h
    have hlt : unseen (s ++ [j]) (n * n) < unseen s (n * n) := unseen_lt hjs (by rw [← hlen]; exact (List.getElem?_eq_some_iff.1 hj).1)
    refine SEntry.mk j _ (by simp) hj ?_
    have ht := twins_ok a c
    by_cases e1 : a = c
    · rw [decide_eq_true e1] at ht
      refine SCall.pure (ht) ?_
      refine SCmp.no (rfl) ?_
      exact ⟨s ++ [j], [0], go (.inl e1), hlt, ⟨rfl, by simp, rfl, rfl, rfl, ⟨rfl, trivial⟩, ⟨rfl, trivial⟩⟩⟩
    · rw [decide_eq_false e1] at ht
      refine SCall.pure (ht) ?_
      refine SCmp.yes (rfl) ?_
      refine SZ.mk (nlen (f a c).num.natAbs : Int) (by simp) ?_
      by_cases e2 : f a c = 0
      · refine SCmp.yes (eqT (by rw [e2, show (0 : Rat).num.natAbs = 0 from rfl, nlen_zero_iff.2 rfl]; rfl)) ?_
        obtain rfl : r = true := hr.2 ⟨a, c, ha, hc, e1, e2⟩
        exact SRet.pure (.tf _)
      · have : nlen (f a c).num.natAbs ≠ 0 := fun h => e2 (Rat.num_eq_zero.1 (by have := nlen_zero_iff.1 h; omega))
        refine SCmp.no (eqF (by omega)) ?_
        exact ⟨s ++ [j], [0], go (.inr e2), hlt, ⟨rfl, by simp, rfl, rfl, rfl, ⟨rfl, trivial⟩, ⟨rfl, trivial⟩⟩⟩
  · obtain rfl : r = false := by
      cases r with
      | false => rfl
      | true =>
        obtain ⟨a, c, ha, hc, e1, e2⟩ := hr.1 rfl
        have hm : (pairP a c, ratP (f a c)) ∈ es0 := hp.mem_iff.2 (List.mem_of_getElem? (i := a * n + c) (by rw [fl_get (at_lt ha hc), at_div hc, at_mod hc]))
        obtain ⟨i, hi⟩ := List.getElem?_of_mem hm
        rcases hs i (hend i (List.getElem?_eq_some_iff.1 hi).1) a c hi with h | h
        · exact absurd h e1
        · exact absurd e2 h
    exact SRet.pure (.tf _)
end Go.Proofs.Ytkaooejeljdbnaa

namespace Go.Proofs.Ytkaooejeljdbnaa
open Go
set_option linter.unusedVariables false
set_option linter.unusedSimpArgs false
set_option maxRecDepth 10000
theorem twin_inj {n : Nat} {x : Nat → Rat} : twinT n (fun i k => x i - x k) ↔ ¬ Inj x n := by
  constructor
  · rintro ⟨i, k, hi, hk, e, h⟩ hI
    exact e (hI i k hi hk (by grind))
  · intro h
    apply Classical.byContradiction
    intro hc
    refine h fun i k hi hk e => ?_
    apply Classical.byContradiction
    intro hne
    exact hc ⟨i, k, hi, hk, hne, by show x i - x k = 0; rw [e]; grind⟩
/-- Are two of a row's nodes the same? -/
noncomputable def notInj (x : Nat → Rat) (n : Nat) : Bool := @decide (¬ Inj x n) (Classical.propDecidable _)
theorem notInj_iff {x : Nat → Rat} {n : Nat} : notInj x n = true ↔ ¬ Inj x n := by unfold notInj; simp
theorem notInj_ff {x : Nat → Rat} {n : Nat} (h : Inj x n) : notInj x n = false := by
  cases e : notInj x n with
  | false => rfl
  | true => exact absurd h (notInj_iff.1 e)
abbrev sidesL (n : Nat) (a b : Nat → Rat) (tA tB : Bool) : List PV := [.int .i64 (n : Int), mapP n fun i k => a i - a k, mapP n fun i k => b i - b k, mapP n fun i k => a i - b k, .bool tA, .bool tB]
abbrev sidesA (n : Nat) (a b : Nat → Rat) (tA tB : Bool) : List AV := [.p (.int .i64 (n : Int)), .p (mapP n fun i k => a i - a k), .p (mapP n fun i k => b i - b k), .p (mapP n fun i k => a i - b k), .p (.bool tA), .p (.bool tB)]
noncomputable abbrev sidesP (g : GV) : PV := .agg (sidesL g.n g.A g.B (notInj g.A g.n) (notInj g.B g.n))
theorem pers_map {n : Nat} {f : Nat → Nat → Rat} : Pers (mapP n f) := .mp _ (fun e he => (pers_tab e he).1) fun e he => (pers_tab e he).2
theorem pers_sides {n : Nat} {a b : Nat → Rat} {tA tB : Bool} : Pers (.agg (sidesL n a b tA tB)) := .agg _ fun c hc => by
  simp only [sidesL, List.mem_cons, List.not_mem_nil, or_false] at hc
  rcases hc with rfl | rfl | rfl | rfl | rfl | rfl <;> first | exact .int _ _ | exact .bool _ | exact pers_map
structure CauG (g : GV) (b c : Nat) : Prop extends Wf g b c where
  k5 : g.k = 5
theorem CauG.la {g : GV} {b c : Nat} (h : CauG g b c) : g.la = g.n := h.toWf.la3 (by have := h.k5; omega)
theorem CauG.lb {g : GV} {b c : Nat} (h : CauG g b c) : g.lb = g.n := h.toWf.lb5 (by have := h.k5; omega)
theorem CauG.za {g : GV} {b c : Nat} (h : CauG g b c) {i : Nat} (hi : i < g.n) : Bz (g.A i) 100 := (h.bA i (by rw [h.la]; exact hi)).mono (Nat.le_trans h.bc h.c4)
theorem CauG.zb {g : GV} {b c : Nat} (h : CauG g b c) {i : Nat} (hi : i < g.n) : Bz (g.B i) 100 := (h.bB i (by rw [h.lb]; exact hi)).mono h.c4
theorem CauG.daa {g : GV} {b c : Nat} (h : CauG g b c) {i k : Nat} (hi : i < g.n) (hk : k < g.n) : Bz (g.A i - g.A k) 201 := (h.za hi).sub (h.za hk)
theorem CauG.dbb {g : GV} {b c : Nat} (h : CauG g b c) {i k : Nat} (hi : i < g.n) (hk : k < g.n) : Bz (g.B i - g.B k) 201 := (h.zb hi).sub (h.zb hk)
theorem CauG.dab {g : GV} {b c : Nat} (h : CauG g b c) {i k : Nat} (hi : i < g.n) (hk : k < g.n) : Bz (g.A i - g.B k) 201 := (h.za hi).sub (h.zb hk)
theorem CauG.nab {g : GV} {b c : Nat} (h : CauG g b c) {i k : Nat} (hi : i < g.n) (hk : k < g.n) : g.A i ≠ g.B k := h.ne i k (by rw [h.la]; exact hi) (by rw [h.lb]; exact hk)
theorem begun_ok (m : Nat → Bool) (g : GV) {b c : Nat} (h : CauG g b c) : CallP Try.prog 99 [genP m g] (.tup [.p (sidesP g), .p (.int .i64 0)]) [] := by
  have h6 := h.n6
  have hk := h.k5
  have eA : lst g.la g.A = lst g.n g.A := by rw [h.la]
  have eB : lst g.lb g.B = lst g.n g.B := by rw [h.lb]
  have c1 := cof_ok (m 0) (m 0) g.n g.A g.A (fun i hi => h.za hi) (fun i hi => h.za hi) (by decide) (by omega)
  have c2 := cof_ok (m 1) (m 1) g.n g.B g.B (fun i hi => h.zb hi) (fun i hi => h.zb hi) (by decide) (by omega)
  have c3 := cof_ok (m 0) (m 1) g.n g.A g.B (fun i hi => h.za hi) (fun i hi => h.zb hi) (by decide) (by omega)
  rw [← eA] at c1 c3
  rw [← eB] at c2 c3
  have s1 := same_ok g.n (fun i k => g.A i - g.A k) (b := 201) (fun i k hi hk => h.daa hi hk) (by omega) (by omega) (notInj g.A g.n) (notInj_iff.trans twin_inj.symm)
  have s2 := same_ok g.n (fun i k => g.B i - g.B k) (b := 201) (fun i k hi hk => h.dbb hi hk) (by omega) (by omega) (notInj g.B g.n) (notInj_iff.trans twin_inj.symm)
  refine callG_of_vc (wr := wr0) Γok mixed Try.func99 (by kernel_rfl) rfl (by kernel_rfl) (le_of_ble rfl) (by simp) ?_
  refine SCmp.no (neF (by omega)) ?_
  refine SCall.pure (gcheck_ok m g h.toWf) ?_
  refine SCmp.no (rfl) ?_
  refine SDraw.mkX (by kernel_rfl) ?_
  repeat refine SOp.mk _ _ (And.intro rfl rfl) rfl ?_
  refine SOp.mk _ _ (SCall.pure (c1) (And.intro rfl rfl)) rfl ?_
  repeat refine SOp.mk _ _ (And.intro rfl rfl) rfl ?_
  refine SOp.mk _ _ (SCall.pure (c2) (And.intro rfl rfl)) rfl ?_
  repeat refine SOp.mk _ _ (And.intro rfl rfl) rfl ?_
  refine SOp.mk _ _ (SCall.pure (c3) (And.intro rfl rfl)) rfl ?_
  repeat refine SOp.mk _ _ (And.intro rfl rfl) rfl ?_
  refine SFin.mk (by kernel_rfl) ?_
  refine SDraw.mkX (by kernel_rfl) ?_
  repeat refine SOp.mk _ _ (And.intro rfl rfl) rfl ?_
  refine SOp.mk _ _ (SCall.pure (s1) (And.intro rfl rfl)) rfl ?_
  repeat refine SOp.mk _ _ (And.intro rfl rfl) rfl ?_
  refine SOp.mk _ _ (SCall.pure (s2) (And.intro rfl rfl)) rfl ?_
  repeat refine SOp.mk _ _ (And.intro rfl rfl) rfl ?_
  refine SFin.mk (by kernel_rfl) ?_
  exact SRet.pure (.tup rfl fun i c d e1 e2 => by
    match i, e1, e2 with
    | 0, e1, e2 => cases e1; cases e2; exact .p _ pers_sides
    | 1, e1, e2 => cases e1; cases e2; exact .p _ (.int _ _))
theorem div_div {a x y : Rat} : a / x / y = a / (x * y) := by
  rw [Rat.div_def, Rat.div_def, Rat.div_def, Rat.inv_mul_rev]; grind
theorem cdet_ok (m : Nat → Bool) (g : GV) {b c : Nat} (h : CauG g b c) : CallP Try.prog 45 [genP m g] (.tup [.p (ratP (cDet g.A g.B g.n)), .p (.int .i64 0)]) [] := by
  have h6 := h.n6
  refine callG_of_vc (wr := wr0) Γok mixed Try.func45 (by kernel_rfl) rfl (by kernel_rfl) (le_of_ble rfl) (by simp) ?_
  refine SCall.pureT (begun_ok m g h) (fun _ => rfl) ?_
  refine SCmp.no (rfl) ?_
  refine SCall.pure (cone_ok) ?_
  refine SLoop.mk (Nat × Rat) (fun (i, q) => ([(2, .bptr 0 0), (4, .bptr 1 0), (6, .bptr 2 0), (22, .p (.int .i64 g.n)), (23, .p (.int .i64 i))], [.box 37 zratA, .box 119 (sidesA g.n g.A g.B (notInj g.A g.n) (notInj g.B g.n)), .box 37 (bxQ q)]))
    (fun (i, q) => i ≤ g.n ∧ q = cUp g.A g.B i ∧ Bz q (1 + i * 6 * 403)) (fun x => g.n - x.1) (0, 1) [1, 2, 3] ⟨Nat.zero_le _, rfl, bz_one⟩ ⟨rfl, by simp, rfl, rfl, rfl, ⟨rfl, rfl, rfl, rfl, rfl, trivial⟩, ⟨rfl, rfl, rfl, trivial⟩⟩ ?_
  intro ⟨i, q⟩ ⟨hi, hq, hz⟩
  by_cases hin : i < g.n
  · refine SCmp.yes (decide_eq_true (by omega)) ?_
    refine SLoop.mk (Nat × Rat) (fun (k, q) => ([(2, .bptr 0 0), (4, .bptr 1 0), (6, .bptr 2 0), (7, .p (.int .i64 i)), (22, .p (.int .i64 g.n)), (23, .p (.int .i64 i)), (26, .p (.int .i64 i)), (27, .p (.int .i64 k))], [.box 37 zratA, .box 119 (sidesA g.n g.A g.B (notInj g.A g.n) (notInj g.B g.n)), .box 37 (bxQ q)]))
      (fun (k, q) => k ≤ i ∧ q = cUp g.A g.B i * pm k (fun k => (g.A i - g.A k) * (g.B k - g.B i)) ∧ Bz q (1 + i * 6 * 403 + k * 403)) (fun x => i - x.1) (0, q) [0, 1, 2] ⟨Nat.zero_le _, by rw [hq]; exact (Rat.mul_one _).symm, hz.mono (by omega)⟩ ⟨rfl, by simp, rfl, rfl, rfl, ⟨rfl, rfl, rfl, rfl, rfl, rfl, rfl, rfl, trivial⟩, ⟨rfl, rfl, rfl, trivial⟩⟩ ?_
    intro ⟨k, q⟩ ⟨hk, hq, hz⟩
    by_cases hki : k < i
    · refine SCmp.yes (decide_eq_true (by omega)) ?_
      have hkn : k < g.n := by omega
      have z1 := (h.daa hin hkn).mul (h.dbb hkn hin)
      refine SDraw.mkX (by kernel_rfl) ?_
      repeat refine SOp.mk _ _ (And.intro rfl rfl) rfl ?_
      refine SOp.mk _ _ (SKeys.tab (fun _ _ => rfl) <| SGet.tab hin hkn (And.intro rfl rfl)) rfl ?_
      repeat refine SOp.mk _ _ (And.intro rfl rfl) rfl ?_
      refine SOp.mk _ _ (SKeys.tab (fun _ _ => rfl) <| SGet.tab hkn hin (And.intro rfl rfl)) rfl ?_
      repeat refine SOp.mk _ _ (And.intro rfl rfl) rfl ?_
      refine SOp.mk _ _ (SCall.pure (ratmul_ok _ _ (h.daa hin hkn).sz (h.dbb hkn hin).sz (by omega)) (And.intro rfl rfl)) rfl ?_
      refine SOp.mk _ _ (SCall.pure (ratmul_ok _ _ hz.sz z1.sz (by omega)) (And.intro rfl rfl)) rfl ?_
      repeat refine SOp.mk _ _ (And.intro rfl rfl) rfl ?_
      refine SFin.mk (by kernel_rfl) ?_
      refine SWrap.i64z ((k + 1 : Nat) : Int) (by omega) (by omega) ?_
      exact ⟨(k + 1, _), [0, 1, 2], ⟨hki, by rw [hq, Rat.mul_assoc]; rfl, (hz.mul z1).mono (by omega)⟩, by show i - (k + 1) < i - k; omega, ⟨rfl, by simp, rfl, rfl, rfl, ⟨rfl, rfl, rfl, rfl, rfl, rfl, rfl, rfl, trivial⟩, ⟨rfl, rfl, rfl, trivial⟩⟩⟩
    · refine SCmp.no (decide_eq_false (by omega)) ?_
      obtain rfl : k = i := by omega
      refine SWrap.i64z ((k + 1 : Nat) : Int) (by omega) (by omega) ?_
      exact ⟨(k + 1, q), [0, 1, 2], ⟨hin, hq, hz.mono (by omega)⟩, by show g.n - (k + 1) < g.n - k; omega, ⟨rfl, by simp, rfl, rfl, rfl, ⟨rfl, rfl, rfl, rfl, rfl, trivial⟩, ⟨rfl, rfl, rfl, trivial⟩⟩⟩
  · refine SCmp.no (decide_eq_false (by omega)) ?_
    obtain rfl : i = g.n := by omega
    have hz0 : Bz q 15000 := hz.mono (by omega)
    refine SLoop.mk (Nat × Rat) (fun (i, q) => ([(2, .bptr 0 0), (4, .bptr 1 0), (6, .bptr 2 0), (48, .p (.int .i64 g.n)), (49, .p (.int .i64 i))], [.box 37 zratA, .box 119 (sidesA g.n g.A g.B (notInj g.A g.n) (notInj g.B g.n)), .box 37 (bxQ q)]))
      (fun (i, q) => i ≤ g.n ∧ q = cUp g.A g.B g.n / cDn g.A g.B i g.n ∧ Bz q (15000 + i * 6 * 201)) (fun x => g.n - x.1) (0, q) [0, 1, 2] ⟨Nat.zero_le _, by rw [hq]; show _ = _ / 1; grind, hz0.mono (by omega)⟩ ⟨rfl, by simp, rfl, rfl, rfl, ⟨rfl, rfl, rfl, rfl, rfl, trivial⟩, ⟨rfl, rfl, rfl, trivial⟩⟩ ?_
    intro ⟨i, q⟩ ⟨hi, hq, hz⟩
    by_cases hin : i < g.n
    · refine SCmp.yes (decide_eq_true (by omega)) ?_
      refine SLoop.mk (Nat × Rat) (fun (k, q) => ([(2, .bptr 0 0), (4, .bptr 1 0), (6, .bptr 2 0), (9, .p (.int .i64 i)), (48, .p (.int .i64 g.n)), (49, .p (.int .i64 i)), (53, .p (.int .i64 g.n)), (54, .p (.int .i64 k))], [.box 37 zratA, .box 119 (sidesA g.n g.A g.B (notInj g.A g.n) (notInj g.B g.n)), .box 37 (bxQ q)]))
        (fun (k, q) => k ≤ g.n ∧ q = cUp g.A g.B g.n / (cDn g.A g.B i g.n * pm k (fun k => g.A i - g.B k)) ∧ Bz q (15000 + i * 6 * 201 + k * 201)) (fun x => g.n - x.1) (0, q) [0, 1, 2] ⟨Nat.zero_le _, by rw [hq]; show _ = _ / (_ * 1); rw [Rat.mul_one], hz.mono (by omega)⟩ ⟨rfl, by simp, rfl, rfl, rfl, ⟨rfl, rfl, rfl, rfl, rfl, rfl, rfl, rfl, trivial⟩, ⟨rfl, rfl, rfl, trivial⟩⟩ ?_
      intro ⟨k, q⟩ ⟨hk, hq, hz⟩
      by_cases hkn : k < g.n
      · refine SCmp.yes (decide_eq_true (by omega)) ?_
        refine SDraw.mkX (by kernel_rfl) ?_
        repeat refine SOp.mk _ _ (And.intro rfl rfl) rfl ?_
        refine SOp.mk _ _ (SKeys.tab (fun _ _ => rfl) <| SGet.tab hin hkn (And.intro rfl rfl)) rfl ?_
        repeat refine SOp.mk _ _ (And.intro rfl rfl) rfl ?_
        refine SOp.mk _ _ (SCall.pure (cover_ok _ _ (rsub_ne (h.nab hin hkn)) hz (h.dab hin hkn) (by omega)) (And.intro rfl rfl)) rfl ?_
        repeat refine SOp.mk _ _ (And.intro rfl rfl) rfl ?_
        refine SFin.mk (by kernel_rfl) ?_
        refine SWrap.i64z ((k + 1 : Nat) : Int) (by omega) (by omega) ?_
        exact ⟨(k + 1, _), [0, 1, 2], ⟨hkn, by rw [hq, div_div, Rat.mul_assoc]; rfl, (hz.div (h.dab hin hkn)).mono (by omega)⟩, by show g.n - (k + 1) < g.n - k; omega, ⟨rfl, by simp, rfl, rfl, rfl, ⟨rfl, rfl, rfl, rfl, rfl, rfl, rfl, rfl, trivial⟩, ⟨rfl, rfl, rfl, trivial⟩⟩⟩
      · refine SCmp.no (decide_eq_false (by omega)) ?_
        obtain rfl : k = g.n := by omega
        refine SWrap.i64z ((i + 1 : Nat) : Int) (by omega) (by omega) ?_
        exact ⟨(i + 1, q), [0, 1, 2], ⟨hin, hq, hz.mono (by omega)⟩, by show g.n - (i + 1) < g.n - i; omega, ⟨rfl, by simp, rfl, rfl, rfl, ⟨rfl, rfl, rfl, rfl, rfl, trivial⟩, ⟨rfl, rfl, rfl, trivial⟩⟩⟩
    · refine SCmp.no (decide_eq_false (by omega)) ?_
      obtain rfl : i = g.n := by omega
      have hq : q = cDet g.A g.B g.n := hq
      rw [← hq]
      exact SRet.pure (.tup rfl fun i c d e1 e2 => by
        match i, e1, e2 with
        | 0, e1, e2 => cases e1; cases e2; exact .p _ (pers_rat _ _ _)
        | 1, e1, e2 => cases e1; cases e2; exact .p _ (.int _ _))
end Go.Proofs.Ytkaooejeljdbnaa

namespace Go.Proofs.Ytkaooejeljdbnaa
open Go
set_option linter.unusedVariables false
set_option linter.unusedSimpArgs false
set_option maxRecDepth 10000
/-- What is told of a tree is told of another one. -/
def PRle (p' p : PV) : Prop := ∀ w FB v, PR w FB p' v → PR w FB p v
theorem PRle.refl (p : PV) : PRle p p := fun _ _ _ h => h
theorem PRle.nil (m : Bool) (W : Nat) : PRle (.raw (.slice none 0 0)) (.sl m W []) := fun w FB v h => by cases h; exact .nil _ _ _
theorem PRle.agg {cs' cs : List PV} (hl : cs'.length = cs.length) (ho : ∀ c ∈ cs, c.one = true) (h : ∀ (i : Nat) c' c, cs'[i]? = some c' → cs[i]? = some c → PRle c' c) : PRle (.agg cs') (.agg cs) := fun w FB v hv => by
  cases hv with
  | agg _ vs hone hl' h' =>
    refine .agg cs vs ho (by rw [hl', hl]) fun i c v e1 e2 => ?_
    have hi : i < cs'.length := by rw [hl]; exact (List.getElem?_eq_some_iff.1 e1).1
    exact h i cs'[i] c (List.getElem?_eq_getElem hi) e1 _ _ _ (h' i _ v (List.getElem?_eq_getElem hi) e2)
theorem CallG.weak {P : Program} {f : FuncId} {pvs pvs' : List PV} {r : AV} {nb : List Blk} (hc : CallP P f pvs r nb) (hl : pvs'.length = pvs.length) (h : ∀ (i : Nat) p' p, pvs'[i]? = some p' → pvs[i]? = some p → PRle p' p) : CallP P f pvs' r nb :=
  ⟨hc.fn, fun w F Bor β vs ha => hc.run w F Bor β vs { ha with
    len := by rw [ha.len, List.length_map, List.length_map, hl]
    rel := fun i a v e1 e2 => by
      rw [List.getElem?_map] at e1
      cases e : pvs[i]? with
      | none => rw [e] at e1; cases e1
      | some p =>
        rw [e] at e1; cases e1
        have hi : i < pvs'.length := by rw [hl]; exact (List.getElem?_eq_some_iff.1 e).1
        have e' : pvs'[i]? = some pvs'[i] := List.getElem?_eq_getElem hi
        have := ha.rel i (.p pvs'[i]) v (by rw [List.getElem?_map, e']; rfl) e2
        exact .p (h i _ p e' e _ _ _ this.pOf)
    ma := fun a ha k hk => by obtain ⟨v, _, rfl⟩ := List.mem_map.1 ha; simp only [AV.men] at hk }⟩
end Go.Proofs.Ytkaooejeljdbnaa

namespace Go.Proofs.Ytkaooejeljdbnaa
open Go
set_option linter.unusedVariables false
set_option linter.unusedSimpArgs false
set_option maxRecDepth 10000
/-- Both rows of nodes are lent. -/
def m15 : Nat → Bool
  | 0 => true
  | 1 => true
  | _ => false
def g15 : GV := ⟨5, 1, 0, fun _ => ((3 : Int) : Rat), fun _ => ((1 : Int) : Rat), fun _ => 0, fun _ => 0⟩
theorem cau15 : CauG g15 5 5 where
  k1 := by decide
  k7 := by decide
  n1 := by decide
  n6 := by decide
  r2 := by decide
  r1 := fun h => by rcases h with h | h <;> cases h
  r0 := fun _ => rfl
  bA := fun i _ => int_bz (by decide) (by decide)
  bB := fun i _ => int_bz (by decide) (by decide)
  bG := fun i _ => bz_zero.mono (by decide)
  bH := fun i _ => bz_zero.mono (by decide)
  ne := fun i j _ _ => by show ((3 : Int) : Rat) ≠ ((1 : Int) : Rat); decide
  bc := by decide
  c4 := by decide
  k5 := rfl
theorem PRle.gen {m : Nat → Bool} {g : GV} {k n r : Int} {a b c d : PV} (hk : k = g.k) (hn : n = g.n) (hr : r = g.r) (ha : PRle a (ratsM (m 0) (lst g.la g.A))) (hb : PRle b (ratsM (m 1) (lst g.lb g.B))) (hc : PRle c (ratsM (m 2) (lst g.lh g.G))) (hd : PRle d (ratsM (m 3) (lst g.lh g.H))) :
    PRle (.agg [.int .i64 k, .int .i64 n, .int .i64 r, a, b, c, d]) (genP m g) := by
  subst hk; subst hn; subst hr
  refine PRle.agg rfl (fun c hc => ?_) fun i c' c e1 e2 => ?_
  · simp only [genC, List.mem_cons, List.not_mem_nil, or_false] at hc
    rcases hc with rfl | rfl | rfl | rfl | rfl | rfl | rfl <;> rfl
  · match i, e1, e2 with
    | 0, e1, e2 => cases e1; cases e2; exact .refl _
    | 1, e1, e2 => cases e1; cases e2; exact .refl _
    | 2, e1, e2 => cases e1; cases e2; exact .refl _
    | 3, e1, e2 => cases e1; cases e2; exact ha
    | 4, e1, e2 => cases e1; cases e2; exact hb
    | 5, e1, e2 => cases e1; cases e2; exact hc
    | 6, e1, e2 => cases e1; cases e2; exact hd
theorem CallG.weak1 {P : Program} {f : FuncId} {p p' : PV} {r : AV} {nb : List Blk} (hc : CallP P f [p] r nb) (h : PRle p' p) : CallP P f [p'] r nb :=
  CallG.weak hc rfl fun i p1 p2 e1 e2 => by
    match i, e1, e2 with
    | 0, e1, e2 => cases e1; cases e2; exact h
theorem half15_ok : CallP Try.prog 58 [.int .i64 1, .int .i64 2] (.tup [.p (ratP (1 / 2)), .p (.int .i64 0)]) [] := by
  have h := rof2_ok 1 2 (by omega) (by omega) (by omega)
  have e : mkQ (decide ((1 : Int) < 0) != decide ((2 : Int) < 0)) (1 : Int).natAbs (2 : Int).natAbs = 1 / 2 := by decide +kernel
  rwa [e] at h
theorem known15_ok : CallP Try.prog 42 [] (.p (.bool true)) [] := by
  have hd := cdet_ok m15 g15 cau15
  have e : cDet g15.A g15.B g15.n = 1 / 2 := by decide +kernel
  rw [e] at hd
  have hb : Bz (1 / 2 : Rat) 2 := ⟨by decide +kernel, by decide +kernel⟩
  have hs := rsame_ok (1 / 2) (1 / 2) hb hb (by decide)
  rw [decide_eq_true rfl] at hs
  refine callG_of_vc (wr := wr0) Γok mixed Try.func42 (by kernel_rfl) rfl (by kernel_rfl) (le_of_ble rfl) (by simp) ?_
  refine SCall.pure (rint_ok 3 (by decide)) ?_
  refine SCall.pure (rint_ok 1 (by decide)) ?_
  refine SView.all rfl <| SView.all rfl <| SCall.pureT (pvs := [.agg [.int .i64 5, .int .i64 1, .int .i64 0, ratsM true (lst 1 g15.A), ratsM true (lst 1 g15.B), znil, znil]]) (CallG.weak1 hd (.gen rfl rfl rfl (.refl _) (.refl _) (.nil _ _) (.nil _ _))) (fun _ => rfl) ?_
  refine SCall.pureT (half15_ok) (fun _ => rfl) ?_
  refine SCmp.yes (rfl) ?_
  refine SCall.pure (hs) ?_
  exact SRet.pure (.p _ (.bool _))
end Go.Proofs.Ytkaooejeljdbnaa

namespace Go.Proofs.Ytkaooejeljdbnaa
open Go
set_option linter.unusedVariables false
set_option linter.unusedSimpArgs false
set_option maxRecDepth 10000
theorem CauG.cauH {g : GV} {b c : Nat} (h : CauG g b c) (ha : Inj g.A g.n) (hb : Inj g.B g.n) : CauH g.n g.A g.B := ⟨ha, hb, fun i k hi hk => h.nab hi hk⟩
theorem cuF_bz {g : GV} {b c : Nat} (h : CauG g b c) {i k : Nat} (hi : i < g.n) (hk : k < g.n) : ∀ m, m ≤ g.n → Bz (cuF g.A g.B i k m) (300 + m * 850) := by
  intro m
  induction m with
  | zero => intro _; simp only [cuF]; exact (bz_one.div (h.dab hk hi)).mono (by omega)
  | succ m ih =>
    intro hm
    have zm := (ih (by omega)).mul ((h.dab hk (show m < g.n by omega)).mul (h.dab (show m < g.n by omega) hi))
    simp only [cuF]
    have z1 := zm.div (h.daa hk (show m < g.n by omega))
    have z2 := z1.div (h.dbb (show m < g.n by omega) hi)
    have z3 := zm.div (h.dbb (show m < g.n by omega) hi)
    split <;> split
    · exact zm.mono (by omega)
    · exact z1.mono (by omega)
    · exact z3.mono (by omega)
    · exact z2.mono (by omega)
theorem undone_ok (g : GV) {b c : Nat} (h : CauG g b c) (ha : Inj g.A g.n) (hb : Inj g.B g.n) (i k : Nat) (hi : i < g.n) (hk : k < g.n) :
    CallP Try.prog 102 [.agg (sidesL g.n g.A g.B false false), .int .i64 i, .int .i64 k] (.p (ratP (cuF g.A g.B i k g.n))) [] := by
  have h6 := h.n6
  have H := h.cauH ha hb
  refine callG_of_vc (wr := wr0) Γok mixed Try.func102 (by kernel_rfl) rfl (by kernel_rfl) (le_of_ble rfl) (by simp) ?_
  refine SDraw.mkX (by kernel_rfl) ?_
  repeat refine SOp.mk _ _ (And.intro rfl rfl) rfl ?_
  refine SOp.mk _ _ (SCall.pure (cone_ok) (And.intro rfl rfl)) rfl ?_
  repeat refine SOp.mk _ _ (And.intro rfl rfl) rfl ?_
  refine SOp.mk _ _ (SKeys.tab (fun _ _ => rfl) <| SGet.tab hk hi (And.intro rfl rfl)) rfl ?_
  repeat refine SOp.mk _ _ (And.intro rfl rfl) rfl ?_
  refine SOp.mk _ _ (SCall.pure (cover_ok _ _ (H.dx hk hi) bz_one (h.dab hk hi) (by omega)) (And.intro rfl rfl)) rfl ?_
  repeat refine SOp.mk _ _ (And.intro rfl rfl) rfl ?_
  refine SFin.mk (by kernel_rfl) ?_
  refine SLoop.mk (Nat × Rat) (fun (m, q) => ([(1, .p (.int .i64 i)), (2, .p (.int .i64 k)), (3, .bptr 0 0), (6, .bptr 1 0), (7, .bptr 2 0), (18, .p (.int .i64 g.n)), (19, .p (.int .i64 m))], [.box 119 (sidesA g.n g.A g.B false false), .box 37 zratA, .box 37 (bxQ q)]))
    (fun (m, q) => m ≤ g.n ∧ q = cuF g.A g.B i k m) (fun x => g.n - x.1) (0, _) [0, 1, 2] ⟨Nat.zero_le _, rfl⟩ ⟨rfl, by simp, rfl, rfl, rfl, ⟨rfl, rfl, rfl, rfl, rfl, rfl, rfl, trivial⟩, ⟨rfl, rfl, rfl, trivial⟩⟩ ?_
  intro ⟨m, q⟩ ⟨hm, hq⟩
  by_cases hmn : m < g.n
  · refine SCmp.yes (decide_eq_true (by omega)) ?_
    have zq : Bz q (300 + m * 850) := by rw [hq]; exact cuF_bz h hi hk m hm
    have z1 := (h.dab hk hmn).mul (h.dab hmn hi)
    have z2 := zq.mul z1
    refine SDraw.mkX (by kernel_rfl) ?_
    repeat refine SOp.mk _ _ (And.intro rfl rfl) rfl ?_
    refine SOp.mk _ _ (SKeys.tab (fun _ _ => rfl) <| SGet.tab hk hmn (And.intro rfl rfl)) rfl ?_
    repeat refine SOp.mk _ _ (And.intro rfl rfl) rfl ?_
    refine SOp.mk _ _ (SKeys.tab (fun _ _ => rfl) <| SGet.tab hmn hi (And.intro rfl rfl)) rfl ?_
    repeat refine SOp.mk _ _ (And.intro rfl rfl) rfl ?_
    refine SOp.mk _ _ (SCall.pure (ratmul_ok _ _ (h.dab hk hmn).sz (h.dab hmn hi).sz (by omega)) (And.intro rfl rfl)) rfl ?_
    refine SOp.mk _ _ (SCall.pure (ratmul_ok _ _ zq.sz z1.sz (by omega)) (And.intro rfl rfl)) rfl ?_
    repeat refine SOp.mk _ _ (And.intro rfl rfl) rfl ?_
    refine SFin.mk (by kernel_rfl) ?_
    by_cases e2 : m = k
    · refine SCmp.no (neF (by omega)) ?_
      by_cases e1 : m = i
      · refine SCmp.no (neF (by omega)) ?_
        refine SWrap.i64z ((m + 1 : Nat) : Int) (by omega) (by omega) ?_
        exact ⟨(m + 1, _), [0, 1, 2], ⟨hmn, by rw [hq]; simp only [cuF]; rw [if_pos e1, if_pos e2]⟩, by show g.n - (m + 1) < g.n - m; omega, ⟨rfl, by simp, rfl, rfl, rfl, ⟨rfl, rfl, rfl, rfl, rfl, rfl, rfl, trivial⟩, ⟨rfl, rfl, rfl, trivial⟩⟩⟩
      · refine SCmp.yes (neT (by omega)) ?_
        refine SDraw.mkX (by kernel_rfl) ?_
        repeat refine SOp.mk _ _ (And.intro rfl rfl) rfl ?_
        refine SOp.mk _ _ (SKeys.tab (fun _ _ => rfl) <| SGet.tab hmn hi (And.intro rfl rfl)) rfl ?_
        repeat refine SOp.mk _ _ (And.intro rfl rfl) rfl ?_
        refine SOp.mk _ _ (SCall.pure (cover_ok _ _ (H.db hmn hi e1) z2 (h.dbb hmn hi) (by omega)) (And.intro rfl rfl)) rfl ?_
        repeat refine SOp.mk _ _ (And.intro rfl rfl) rfl ?_
        refine SFin.mk (by kernel_rfl) ?_
        refine SWrap.i64z ((m + 1 : Nat) : Int) (by omega) (by omega) ?_
        exact ⟨(m + 1, _), [0, 1, 2], ⟨hmn, by rw [hq]; simp only [cuF]; rw [if_neg e1, if_pos e2]⟩, by show g.n - (m + 1) < g.n - m; omega, ⟨rfl, by simp, rfl, rfl, rfl, ⟨rfl, rfl, rfl, rfl, rfl, rfl, rfl, trivial⟩, ⟨rfl, rfl, rfl, trivial⟩⟩⟩
    · refine SCmp.yes (neT (by omega)) ?_
      refine SDraw.mkX (by kernel_rfl) ?_
      repeat refine SOp.mk _ _ (And.intro rfl rfl) rfl ?_
      refine SOp.mk _ _ (SKeys.tab (fun _ _ => rfl) <| SGet.tab hk hmn (And.intro rfl rfl)) rfl ?_
      repeat refine SOp.mk _ _ (And.intro rfl rfl) rfl ?_
      refine SOp.mk _ _ (SCall.pure (cover_ok _ _ (H.da hk hmn (Ne.symm e2)) z2 (h.daa hk hmn) (by omega)) (And.intro rfl rfl)) rfl ?_
      repeat refine SOp.mk _ _ (And.intro rfl rfl) rfl ?_
      refine SFin.mk (by kernel_rfl) ?_
      by_cases e1 : m = i
      · refine SCmp.no (neF (by omega)) ?_
        refine SWrap.i64z ((m + 1 : Nat) : Int) (by omega) (by omega) ?_
        exact ⟨(m + 1, _), [0, 1, 2], ⟨hmn, by rw [hq]; simp only [cuF]; rw [if_pos e1, if_neg e2]⟩, by show g.n - (m + 1) < g.n - m; omega, ⟨rfl, by simp, rfl, rfl, rfl, ⟨rfl, rfl, rfl, rfl, rfl, rfl, rfl, trivial⟩, ⟨rfl, rfl, rfl, trivial⟩⟩⟩
      · refine SCmp.yes (neT (by omega)) ?_
        have z3 := z2.div (h.daa hk hmn)
        refine SDraw.mkX (by kernel_rfl) ?_
        repeat refine SOp.mk _ _ (And.intro rfl rfl) rfl ?_
        refine SOp.mk _ _ (SKeys.tab (fun _ _ => rfl) <| SGet.tab hmn hi (And.intro rfl rfl)) rfl ?_
        repeat refine SOp.mk _ _ (And.intro rfl rfl) rfl ?_
        refine SOp.mk _ _ (SCall.pure (cover_ok _ _ (H.db hmn hi e1) z3 (h.dbb hmn hi) (by omega)) (And.intro rfl rfl)) rfl ?_
        repeat refine SOp.mk _ _ (And.intro rfl rfl) rfl ?_
        refine SFin.mk (by kernel_rfl) ?_
        refine SWrap.i64z ((m + 1 : Nat) : Int) (by omega) (by omega) ?_
        exact ⟨(m + 1, _), [0, 1, 2], ⟨hmn, by rw [hq]; simp only [cuF]; rw [if_neg e1, if_neg e2]⟩, by show g.n - (m + 1) < g.n - m; omega, ⟨rfl, by simp, rfl, rfl, rfl, ⟨rfl, rfl, rfl, rfl, rfl, rfl, rfl, trivial⟩, ⟨rfl, rfl, rfl, trivial⟩⟩⟩
  · refine SCmp.no (decide_eq_false (by omega)) ?_
    obtain rfl : m = g.n := by omega
    rw [← hq]
    exact SRet.pure (.p _ (pers_rat _ _ _))
end Go.Proofs.Ytkaooejeljdbnaa

namespace Go.Proofs.Ytkaooejeljdbnaa
open Go
set_option linter.unusedVariables false
set_option linter.unusedSimpArgs false
set_option maxRecDepth 10000
/-- Rows that are full, one that is being filled, and empty ones. -/
abbrev halr (p c n k q l : Nat) : List AV := fl n fun i => if i < k then .vec (.r p i) 3 0 c else if i = k then .vec (.t q) 3 0 l else .emp
theorem halr_set0 {p c n k q l : Nat} : (half p c n k).set k (.vec (.t q) 3 0 l) = halr p c n k q l := by
  rw [fl_set]
  refine fl_congr fun i _ => ?_
  unfold upd
  by_cases e : i = k
  · rw [if_pos e, if_neg (by omega), if_pos e]
  · rw [if_neg e]
    show (if i < k then AV.vec (.r p i) 3 0 c else .emp) = _
    by_cases e2 : i < k
    · rw [if_pos e2, if_pos e2]
    · rw [if_neg e2, if_neg e2, if_neg e]
theorem halr_set {p c n k q l q' l' : Nat} : (halr p c n k q l).set k (.vec (.t q') 3 0 l') = halr p c n k q' l' := by
  rw [fl_set]
  refine fl_congr fun i _ => ?_
  unfold upd
  by_cases e : i = k
  · rw [if_pos e, if_neg (by omega), if_pos e]
  · rw [if_neg e]
    show (if i < k then AV.vec (.r p i) 3 0 c else if i = k then _ else .emp) = _
    by_cases e2 : i < k
    · rw [if_pos e2, if_pos e2]
    · rw [if_neg e2, if_neg e2, if_neg e, if_neg e]
theorem halr_get {p c n k q l : Nat} (h : k < n) : (halr p c n k q l)[k]? = some (.vec (.t q) 3 0 l) := by
  rw [fl_get h, if_neg (Nat.lt_irrefl k), if_pos rfl]
theorem half_get {p c n k : Nat} (h : k < n) : (half p c n k)[k]? = some .emp := by
  rw [fl_get h, if_neg (Nat.lt_irrefl k)]
theorem half_ren {hs : List Nat} {P : Hp} {p c n k : Nat} (p' : Nat) (hp : hs.getD p 0 = p') (hp' : p' < 1000) : AV.renL (renW hs P) (half p c n k) = half p' c n k := by
  rw [renL_fl]
  refine fl_congr fun i hi => ?_
  have eb : Nat.blt p' 1000 = true := blt_iff.2 hp'
  by_cases e : i < k
  · rw [if_pos e, if_pos e]; simp only [AV.ren, renW, hp, eb, cond_true]
  · rw [if_neg e, if_neg e]; simp only [AV.ren]
theorem halr_ren {hs : List Nat} {P : Hp} {p c n k q l : Nat} (p' q' : Nat) (hp : hs.getD p 0 = p') (hp' : p' < 1000) (hq : hs.getD q 0 = q') (hq' : q' < 1000) : AV.renL (renW hs P) (halr p c n k q l) = halr p' c n k q' l := by
  rw [renL_fl]
  refine fl_congr fun i hi => ?_
  have eb : Nat.blt p' 1000 = true := blt_iff.2 hp'
  have ec : Nat.blt q' 1000 = true := blt_iff.2 hq'
  by_cases e : i < k
  · rw [if_pos e, if_pos e]; simp only [AV.ren, renW, hp, eb, cond_true]
  · rw [if_neg e, if_neg e]
    by_cases e2 : i = k
    · rw [if_pos e2, if_pos e2]; simp only [AV.ren, renW, hq, ec, cond_true]; rw [show ptop q' = q' from Nat.mod_eq_of_lt hq']
    · rw [if_neg e2, if_neg e2]; simp only [AV.ren]
theorem halr_in {P : Hp} {p c n k q l : Nat} (h : ∀ i, i < k → i < plenAt P p) (hq : look P (.t q) ≠ .free) : ∀ x ∈ halr p c n k q l, ∀ h, x.men h → look P h ≠ .free := by
  intro x hx g hg
  obtain ⟨i, hi, rfl⟩ := fl_mem hx
  by_cases e : i < k
  · rw [if_pos e] at hg
    simp only [AV.men] at hg
    subst hg
    exact look_row (h i e)
  · rw [if_neg e] at hg
    by_cases e2 : i = k
    · rw [if_pos e2] at hg
      simp only [AV.men] at hg
      subst hg; exact hq
    · rw [if_neg e2] at hg; exact hg.elim
abbrev cuM (g : GV) : Nat → Nat → Rat := fun i k => cuF g.A g.B i k g.n
theorem cinv_ok (m : Nat → Bool) (g : GV) {b c : Nat} (h : CauG g b c) (ha : Inj g.A g.n) (hb : Inj g.B g.n) : CallP Try.prog 46 [genP m g] (.tup [.p (matP false false g.n g.n (cuM g)), .p (.int .i64 0)]) [] := by
  have h6 := h.n6
  have n1 := h.n1
  have hbg := begun_ok m g h
  rw [show sidesP g = .agg (sidesL g.n g.A g.B false false) by rw [sidesP, notInj_ff ha, notInj_ff hb]] at hbg
  refine callG_of_vc (wr := wr0) Γok mixed Try.func46 (by kernel_rfl) rfl (by kernel_rfl) (le_of_ble rfl) (by simp) ?_
  refine SCall.pureT (hbg) (fun _ => rfl) ?_
  refine SCmp.yes (rfl) ?_
  refine SCond.mk (fun h => by cases h) (fun _ => ?_)
  refine SCond.mk (fun h => by cases h) (fun _ => ?_)
  refine SCmp.no (rfl) ?_
  refine SZ.mk (g.n : Int) rfl ?_
  refine SLt.mk (by simp) ?_
  refine SMake.mk g.n rfl (by simp; omega) (by omega) ?_
  refine SMk.rows ?_
  refine SZ.mk (g.n : Int) rfl ?_
  refine SLoop.mkT Nat (fun i => ([(4, .bptr 0 0), (6, .vec 1 1 0 g.n), (31, .p (.int .i64 g.n)), (32, .p (.int .i64 i))], [.box 119 (sidesA g.n g.A g.B false false), .rows 25 (half 2 g.n g.n i), .pool 37 3 (plr i g.n (cuM g))]))
    (fun i => i ≤ g.n) (fun i => g.n - i) 0 [1, 2, 3] _ _ (.pool 37 3 (.done _ _)) (Nat.zero_le _) ⟨rfl, by simp, rfl, rfl, rfl, ⟨rfl, rfl, rfl, rfl, trivial⟩, ⟨rfl, congrArg _ half_ren0, rfl, half_in fun i hi => absurd hi (Nat.not_lt_zero _), trivial⟩⟩ ?_
  intro i hi
  have hi : i ≤ g.n := hi
  by_cases hin : i < g.n
  · refine SCmp.yes (decide_eq_true (by omega)) ?_
    refine SLoop.mk Nat (fun k => match k with
      | 0 => ([(4, .bptr 0 0), (6, .vec 1 1 0 g.n), (7, .p (.int .i64 i)), (31, .p (.int .i64 g.n)), (32, .p (.int .i64 i)), (36, .p (.int .i64 g.n)), (37, .p (.int .i64 (0 : Nat)))], [.box 119 (sidesA g.n g.A g.B false false), .rows 25 (half 2 g.n g.n i), .pool 37 3 (plr i g.n (cuM g))])
      | k + 1 => ([(4, .bptr 0 0), (6, .vec 1 1 0 g.n), (7, .p (.int .i64 i)), (31, .p (.int .i64 g.n)), (32, .p (.int .i64 i)), (36, .p (.int .i64 g.n)), (37, .p (.int .i64 ((k + 1 : Nat) : Int)))], [.box 119 (sidesA g.n g.A g.B false false), .rows 25 (halr 2 g.n g.n i 3 (k + 1)), .pool 37 3 (plr i g.n (cuM g)), .vec 37 3 (rats (lst (k + 1) (cuM g i)))]))
      (fun k => k ≤ g.n) (fun k => g.n - k) 0 [0, 1, 2] (Nat.zero_le _) ⟨rfl, by simp, rfl, rfl, rfl, ⟨rfl, rfl, rfl, rfl, rfl, rfl, rfl, trivial⟩, ⟨rfl, congrArg _ (half_ren 2 rfl (by decide)), rfl, half_in fun i hi => by simpa [plenAt] using hi, trivial⟩⟩ ?_
    intro k hk
    have hk : k ≤ g.n := hk
    cases k with
    | zero =>
      have hkn : 0 < g.n := n1
      refine SCmp.yes (decide_eq_true (by omega)) ?_
      refine SDraw.mkX (by kernel_rfl) ?_
      repeat refine SOp.mk _ _ (And.intro rfl rfl) rfl ?_
      refine SOp.mk _ _ (SPos.mk i rfl hin (And.intro rfl rfl)) rfl ?_
      refine SOp.mk _ _ (SIdxA.mk i _ rfl (half_get hin) (And.intro rfl rfl)) rfl ?_
      repeat refine SOp.mk _ _ (And.intro rfl rfl) rfl ?_
      refine SOp.mk _ _ (SCall.pure (undone_ok g h ha hb i 0 hin hkn) (And.intro rfl rfl)) rfl ?_
      repeat refine SOp.mk _ _ (And.intro rfl rfl) rfl ?_
      refine SOp.mk _ _ (SView.all rfl <| SRoom.mk (by simp) (by simp) (And.intro rfl rfl)) rfl ?_
      refine SOp.mk _ _ (SPos.mk i rfl hin (And.intro rfl rfl)) rfl ?_
      refine SOp.mk _ _ (SLt.mk (by simp; omega) <| SAs.mk (halr 2 g.n g.n i 4 1) halr_set0 (And.intro rfl rfl)) rfl ?_
      repeat refine SOp.mk _ _ (And.intro rfl rfl) rfl ?_
      refine SFin.mk (by kernel_rfl) ?_
      refine SWrap.i64z ((0 + 1 : Nat) : Int) (by omega) (by omega) ?_
      exact ⟨0 + 1, [0, 1, 2, 4], hkn, by show g.n - (0 + 1) < g.n - 0; omega, ⟨rfl, by simp, rfl, rfl, rfl, ⟨rfl, rfl, rfl, rfl, rfl, rfl, rfl, trivial⟩, ⟨rfl, congrArg _ (halr_ren 2 4 rfl (by decide) rfl (by decide)), rfl, rfl, halr_in (fun i hi => by simpa [plenAt] using hi) (fun e => by cases e), trivial⟩⟩⟩
    | succ k =>
      by_cases hkn : k + 1 < g.n
      · refine SCmp.yes (decide_eq_true (by omega)) ?_
        refine SDraw.mkX (by kernel_rfl) ?_
        repeat refine SOp.mk _ _ (And.intro rfl rfl) rfl ?_
        refine SOp.mk _ _ (SPos.mk i rfl hin (And.intro rfl rfl)) rfl ?_
        refine SOp.mk _ _ (SIdxA.mk i _ rfl (halr_get hin) (And.intro rfl rfl)) rfl ?_
        repeat refine SOp.mk _ _ (And.intro rfl rfl) rfl ?_
        refine SOp.mk _ _ (SCall.pure (undone_ok g h ha hb i (k + 1) hin hkn) (And.intro rfl rfl)) rfl ?_
        repeat refine SOp.mk _ _ (And.intro rfl rfl) rfl ?_
        refine SOp.mk _ _ (SEqN.mk (by simp [lst]) <| SView.all rfl <| SRoom.mk (by simp [lst]; omega) (by simp [lst]; omega) <| SEs.mk (rats (lst (k + 1 + 1) (cuM g i))) (app_lst _ _ _ (rfl)) <| SZN.mk (k + 1 + 1) (by simp [lst]) (And.intro rfl rfl)) rfl ?_
        refine SOp.mk _ _ (SPos.mk i rfl hin (And.intro rfl rfl)) rfl ?_
        refine SOp.mk _ _ (SLt.mk (by simp; omega) <| SAs.mk (halr 2 g.n g.n i 5 (k + 1 + 1)) halr_set (And.intro rfl rfl)) rfl ?_
        repeat refine SOp.mk _ _ (And.intro rfl rfl) rfl ?_
        refine SFin.mk (by kernel_rfl) ?_
        refine SWrap.i64z ((k + 1 + 1 : Nat) : Int) (by omega) (by omega) ?_
        exact ⟨k + 1 + 1, [0, 1, 2, 5], hkn, by show g.n - (k + 1 + 1) < g.n - (k + 1); omega, ⟨rfl, by simp, rfl, rfl, rfl, ⟨rfl, rfl, rfl, rfl, rfl, rfl, rfl, trivial⟩, ⟨rfl, congrArg _ (halr_ren 2 5 rfl (by decide) rfl (by decide)), rfl, rfl, halr_in (fun i hi => by simpa [plenAt] using hi) (fun e => by cases e), trivial⟩⟩⟩
      · refine SCmp.no (decide_eq_false (by omega)) ?_
        have hkn : k + 1 = g.n := by omega
        have e1 : halr 2 g.n g.n i 3 (k + 1) = halq 2 g.n g.n i 3 := by rw [hkn]
        have e2 : rats (lst (k + 1) (cuM g i)) = rats (lst g.n (cuM g i)) := by rw [hkn]
        refine SWrap.i64z ((i + 1 : Nat) : Int) (by omega) (by omega) ?_
        exact ⟨i + 1, [0, 1, 4002], hin, by show g.n - (i + 1) < g.n - i; omega, ⟨rfl, by simp, rfl, rfl, rfl, ⟨rfl, rfl, rfl, rfl, trivial⟩, ⟨rfl, congrArg _ ((half_absorb rfl (by decide) (by simp [plenAt])).trans e1.symm), ⟨_, _, _, _, rfl, rfl, congrArg _ (plr_snoc.trans (congrArg (fun r => plr i g.n (cuM g) ++ [some r]) e2.symm))⟩, half_in fun i hi => by simpa [plenAt] using hi, trivial⟩⟩⟩
  · refine SCmp.no (decide_eq_false (by omega)) ?_
    obtain rfl : i = g.n := by omega
    exact SRet.pure (.tup rfl fun i c d e1 e2 => by
      match i, e1, e2 with
      | 0, e1, e2 => cases e1; cases e2; exact frzM (H := [_, _, _]) (h := 1) (p := 2) (congrArg (Blk.rows _) half_full) rfl fun i hi => hi
      | 1, e1, e2 => cases e1; cases e2; exact .p _ (.int _ _))
end Go.Proofs.Ytkaooejeljdbnaa

namespace Go.Proofs.Ytkaooejeljdbnaa
open Go
set_option linter.unusedVariables false
set_option linter.unusedSimpArgs false
set_option maxRecDepth 10000
theorem cuM_bz {g : GV} {b c : Nat} (h : CauG g b c) {i k : Nat} (hi : i < g.n) (hk : k < g.n) : Bz (cuM g i k) 5400 := (cuF_bz h hi hk g.n (Nat.le_refl _)).mono (by have := h.n6; omega)
end Go.Proofs.Ytkaooejeljdbnaa

namespace Go.Proofs.Ytkaooejeljdbnaa
open Go
set_option linter.unusedVariables false
set_option linter.unusedSimpArgs false
set_option maxRecDepth 10000
theorem within15_ok (a n : Int) (hn : 0 < n) (hn' : n < 4611686018427387904) : CallP Try.prog 51 [.int .i64 a, .int .i64 n] (.p (.int .i64 (a % n))) [] := by
  refine callG_of_vc (wr := wr0) Γok mixed Try.func51 (by kernel_rfl) rfl (by kernel_rfl) (le_of_ble rfl) (by simp) ?_
  have hw := within_aux (a := a) hn
  have hb := tmod_bd a hn
  obtain ⟨r, hr⟩ : ∃ r, r = a.tmod n := ⟨_, rfl⟩
  rw [← hr] at hw hb
  refine SNe.mk (by omega) ?_
  refine SZ.mk r hr.symm ?_
  by_cases h : r < 0
  · refine SCmp.yes (decide_eq_true (by omega)) ?_
    refine SWrap.i64z (r + n) rfl (by omega) ?_
    rw [if_pos h] at hw
    rw [← hw]
    exact SRet.pure (.p _ (.int _ _))
  · refine SCmp.no (decide_eq_false (by omega)) ?_
    rw [if_neg h] at hw
    rw [← hw]
    exact SRet.pure (.p _ (.int _ _))
end Go.Proofs.Ytkaooejeljdbnaa

namespace Go.Proofs.Ytkaooejeljdbnaa
open Go
set_option linter.unusedVariables false
set_option linter.unusedSimpArgs false
set_option maxRecDepth 10000
def hA (i : Nat) : Rat := (((i + 1 : Nat) : Int) : Rat)
def hB (i : Nat) : Rat := ((-(i : Int) : Int) : Rat)
def hG (n : Nat) : GV := ⟨5, n, 0, hA, hB, fun _ => 0, fun _ => 0⟩
abbrev hM (n i k : Nat) : Rat := cuF hA hB i k n
theorem hil_ok : ∀ n, n < 7 → ∀ i, i < n → ∀ k, k < n → (hM n i k).den = 1 ∧ decide ((hM n i k).num < 0) = decide ((i + k) % 2 = 1) ∧ hM n i k = hM n k i := by decide +kernel
theorem hil_det : ∀ n, n < 7 → (cDet hA hB n).num = 1 := by decide +kernel
theorem hil_one : ∀ n, n < 7 → 0 < n → hM n 0 0 = (((n * n : Nat) : Int) : Rat) := by decide +kernel
theorem bits7 {a : Nat} (h : a < 8) : bitLen a ≤ 3 := bitLen_le (by omega)
theorem hG_ok {n : Nat} (h1 : 1 ≤ n) (h6 : n ≤ 6) : CauG (hG n) 3 3 where
  k1 := by show 1 ≤ 5; decide
  k7 := by show 5 ≤ 7; decide
  n1 := h1
  n6 := h6
  r2 := by show 0 ≤ 2; decide
  r1 := fun h => by rcases h with h | h <;> cases h
  r0 := fun _ => rfl
  bA := fun i hi => int_bz (bits7 (by have hi : i < n := hi; omega)) (by decide)
  bB := fun i hi => int_bz (bits7 (by have hi : i < n := hi; omega)) (by decide)
  bG := fun i _ => bz_zero.mono (by decide)
  bH := fun i _ => bz_zero.mono (by decide)
  ne := fun i j _ _ => by
    show (((i + 1 : Nat) : Int) : Rat) ≠ ((-(j : Int) : Int) : Rat)
    intro e
    have := Rat.intCast_inj.1 e
    omega
  bc := by decide
  c4 := by decide
  k5 := rfl
theorem hA_inj (n : Nat) : Inj hA n := fun i j _ _ e => by have := Rat.intCast_inj.1 e; omega
theorem hB_inj (n : Nat) : Inj hB n := fun i j _ _ e => by have := Rat.intCast_inj.1 e; omega
set_option maxHeartbeats 2000000 in
theorem cauHilbert_ok (n : Int) (hn : I64 n) : CallP Try.prog 9 [.int .i64 n] (.p (.bool true)) [] := by
  have w6 := within15_ok n 6 (by omega) (by omega)
  obtain ⟨N, hN, h1, h6⟩ : ∃ N : Nat, 1 + n % 6 = N ∧ 1 ≤ N ∧ N ≤ 6 := ⟨(1 + n % 6).toNat, by omega, by omega, by omega⟩
  have H := hG_ok h1 h6
  have facts := hil_ok N (by omega)
  have hle : PRle (.agg [.int .i64 5, .int .i64 (N : Int), .int .i64 0, ratsM true (lst N hA), ratsM true (lst N hB), znil, znil]) (genP m15 (hG N)) := .gen rfl rfl rfl (.refl _) (.refl _) (.nil _ _) (.nil _ _)
  have hi := CallG.weak1 (cinv_ok m15 (hG N) H (hA_inj N) (hB_inj N)) hle
  have hd := CallG.weak1 (cdet_ok m15 (hG N) H) hle
  have ed : ratP (cDet (hG N).A (hG N).B (hG N).n) = .agg [.bool false, .sl false 1 [.int .u32 1], natP (cDet hA hB N).den] := by
    show PV.agg [.bool (decide ((cDet hA hB N).num < 0)), natP (cDet hA hB N).num.natAbs, natP (cDet hA hB N).den] = _
    rw [hil_det N (by omega)]
    show PV.agg [.bool (decide ((1 : Int) < 0)), .sl false 1 (limbs (nl 1)), natP (cDet hA hB N).den] = _
    rw [nl_one]; rfl
  rw [ed] at hd
  refine callG_of_vc (wr := wr0) Γok mixed Try.func9 (by kernel_rfl) rfl (by kernel_rfl) (le_of_ble rfl) (by simp) ?_
  refine SCall.pure (known15_ok) ?_
  refine SCmp.no (rfl) ?_
  refine SCall.pure (w6) ?_
  refine SWrap.i64z (N : Int) hN (by omega) ?_
  refine SLoop.mk Nat (fun i => match i with
      | 0 => ([(0, .p (.int .i64 N)), (3, .bptr 0 0), (4, .p (.int .i64 (0 : Nat)))], [.box 59 [.p (.int .i64 5), .p (.int .i64 N), .p (.int .i64 0), .p znil, .p znil, .p znil, .p znil]])
      | i + 1 => ([(0, .p (.int .i64 N)), (3, .bptr 0 0), (4, .p (.int .i64 ((i + 1 : Nat) : Int)))], [.box 59 [.p (.int .i64 5), .p (.int .i64 N), .p (.int .i64 0), .vec 1 3 0 (i + 1), .vec 2 3 0 (i + 1), .p znil, .p znil], .vec 37 3 (rats (lst (i + 1) hA)), .vec 37 3 (rats (lst (i + 1) hB))]))
    (fun i => i ≤ N) (fun i => N - i) 0 [0] (Nat.zero_le _) ⟨rfl, by simp, rfl, rfl, rfl, ⟨rfl, rfl, rfl, trivial⟩, ⟨rfl, trivial⟩⟩ ?_
  intro i hi'
  have hi' : i ≤ N := hi'
  cases i with
  | zero =>
    refine SCmp.yes (decide_eq_true (by omega)) ?_
    refine SDraw.mkX (by kernel_rfl) ?_
    repeat refine SOp.mk _ _ (And.intro rfl rfl) rfl ?_
    refine SOp.mk _ _ (SWrap.i64z ((0 + 1 : Nat) : Int) (by omega) (by omega) (And.intro rfl rfl)) rfl ?_
    refine SOp.mk _ _ (SCall.pure (rint_ok ((0 + 1 : Nat) : Int) (by omega)) (And.intro rfl rfl)) rfl ?_
    repeat refine SOp.mk _ _ (And.intro rfl rfl) rfl ?_
    refine SOp.mk _ _ (SView.all rfl <| SRoom.mk (by simp) (by simp) (And.intro rfl rfl)) rfl ?_
    repeat refine SOp.mk _ _ (And.intro rfl rfl) rfl ?_
    refine SOp.mk _ _ (SWrap.i64z (-((0 : Nat) : Int)) (by omega) (by omega) (And.intro rfl rfl)) rfl ?_
    refine SOp.mk _ _ (SCall.pure (rint_ok (-((0 : Nat) : Int)) (by omega)) (And.intro rfl rfl)) rfl ?_
    repeat refine SOp.mk _ _ (And.intro rfl rfl) rfl ?_
    refine SOp.mk _ _ (SView.all rfl <| SRoom.mk (by simp) (by simp) (And.intro rfl rfl)) rfl ?_
    repeat refine SOp.mk _ _ (And.intro rfl rfl) rfl ?_
    refine SFin.mk (by kernel_rfl) ?_
    refine SWrap.i64z ((0 + 1 : Nat) : Int) (by omega) (by omega) ?_
    exact ⟨0 + 1, [0, 2, 4], h1, by show N - (0 + 1) < N - 0; omega, ⟨rfl, by simp, rfl, rfl, rfl, ⟨rfl, rfl, rfl, trivial⟩, ⟨rfl, congrArg (Blk.vec 37 3) (one_lst hA _ rfl).symm, congrArg (Blk.vec 37 3) (one_lst hB _ rfl).symm, trivial⟩⟩⟩
  | succ i =>
    by_cases hin : i + 1 < N
    · refine SCmp.yes (decide_eq_true (by omega)) ?_
      refine SDraw.mkX (by kernel_rfl) ?_
      repeat refine SOp.mk _ _ (And.intro rfl rfl) rfl ?_
      refine SOp.mk _ _ (SWrap.i64z ((i + 1 + 1 : Nat) : Int) (by omega) (by omega) (And.intro rfl rfl)) rfl ?_
      refine SOp.mk _ _ (SCall.pure (rint_ok ((i + 1 + 1 : Nat) : Int) (by omega)) (And.intro rfl rfl)) rfl ?_
      repeat refine SOp.mk _ _ (And.intro rfl rfl) rfl ?_
      refine SOp.mk _ _ (SEqN.mk (by simp [lst]) <| SView.all rfl <| SRoom.mk (by simp [lst]; omega) (by simp [lst]; omega) <| SEs.mk (rats (lst (i + 1 + 1) (hA))) (app_lst _ _ _ (rfl)) <| SZN.mk (i + 1 + 1) (by simp [lst]) (And.intro rfl rfl)) rfl ?_
      repeat refine SOp.mk _ _ (And.intro rfl rfl) rfl ?_
      refine SOp.mk _ _ (SWrap.i64z (-((i + 1 : Nat) : Int)) (by omega) (by omega) (And.intro rfl rfl)) rfl ?_
      refine SOp.mk _ _ (SCall.pure (rint_ok (-((i + 1 : Nat) : Int)) (by omega)) (And.intro rfl rfl)) rfl ?_
      repeat refine SOp.mk _ _ (And.intro rfl rfl) rfl ?_
      refine SOp.mk _ _ (SEqN.mk (by simp [lst]) <| SView.all rfl <| SRoom.mk (by simp [lst]; omega) (by simp [lst]; omega) <| SEs.mk (rats (lst (i + 1 + 1) (hB))) (app_lst _ _ _ (rfl)) <| SZN.mk (i + 1 + 1) (by simp [lst]) (And.intro rfl rfl)) rfl ?_
      repeat refine SOp.mk _ _ (And.intro rfl rfl) rfl ?_
      refine SFin.mk (by kernel_rfl) ?_
      refine SWrap.i64z ((i + 1 + 1 : Nat) : Int) (by omega) (by omega) ?_
      exact ⟨i + 1 + 1, [0, 4, 6], hin, by show N - (i + 1 + 1) < N - (i + 1); omega, ⟨rfl, by simp, rfl, rfl, rfl, ⟨rfl, rfl, rfl, trivial⟩, ⟨rfl, rfl, rfl, trivial⟩⟩⟩
    · refine SCmp.no (decide_eq_false (by omega)) ?_
      obtain rfl : N = i + 1 := by omega
      have sg : ∀ i' k, i' < i + 1 → k < i + 1 → CallP Try.prog 24 [ratP (hM (i + 1) i' k), ratP (hM (i + 1) k i')] (.p (.bool true)) [] := fun i' k h1 h2 => by
        have := rsame_ok (hM (i + 1) i' k) (hM (i + 1) k i') (cuM_bz (g := hG (i + 1)) H h1 h2) (cuM_bz (g := hG (i + 1)) H h2 h1) (by decide)
        rw [decide_eq_true (facts i' h1 k h2).2.2] at this
        exact this
      have hNN : (i + 1) * (i + 1) ≤ 36 := Nat.mul_le_mul h6 h6
      have zNN : Bz ((((i + 1) * (i + 1) : Nat) : Int) : Rat) 7 := int_bz (bitLen_le (by rw [Int.natAbs_natCast]; omega)) (by decide)
      have s0 := rsame_ok (hM (i + 1) 0 0) ((((i + 1) * (i + 1) : Nat) : Int) : Rat) (cuM_bz (g := hG (i + 1)) H h1 h1) zNN (by decide)
      rw [decide_eq_true (hil_one (i + 1) (by omega) h1)] at s0
      refine SView.all (by simp [lst]) <| SView.all (by simp [lst]) <| SCall.pureT (pvs := [.agg [.int .i64 5, .int .i64 ((i + 1 : Nat) : Int), .int .i64 0, ratsM true (lst (i + 1) hA), ratsM true (lst (i + 1) hB), znil, znil]]) hi (fun _ => rfl) ?_
      refine SView.all (by simp [lst]) <| SView.all (by simp [lst]) <| SCall.pureT (pvs := [.agg [.int .i64 5, .int .i64 ((i + 1 : Nat) : Int), .int .i64 0, ratsM true (lst (i + 1) hA), ratsM true (lst (i + 1) hB), znil, znil]]) hd (fun _ => rfl) ?_
      refine SCmp.no (rfl) ?_
      refine SCmp.no (rfl) ?_
      refine SZ.mk ((i + 1 : Nat) : Int) (by simp <;> rfl) ?_
      refine SCmp.no (neF rfl) ?_
      refine SZ.mk 1 rfl ?_
      refine SCmp.no (rfl) ?_
      refine SIdx.mk 0 _ rfl rfl ?_
      refine SCmp.no (rfl) ?_
      refine SCond.mk (fun h => by cases h) (fun _ => ?_)
      refine SLoop.mk Nat (fun a => ([(0, .p (.int .i64 ((i + 1 : Nat) : Int))), (5, .p (matP false false (i + 1) (i + 1) (hM (i + 1)))), (9, .p (.int .i64 a))], []))
        (fun a => a ≤ i + 1) (fun a => i + 1 - a) 0 [] (Nat.zero_le _) ⟨rfl, .nil, rfl, rfl, rfl, ⟨rfl, rfl, rfl, trivial⟩, trivial⟩ ?_
      intro a ha
      have ha : a ≤ i + 1 := ha
      by_cases han : a < i + 1
      · refine SCmp.yes (decide_eq_true (by omega)) ?_
        refine SIdx.mf a rfl han ?_
        refine SZ.mk ((i + 1 : Nat) : Int) (by simp [lst]) ?_
        refine SCmp.no (neF rfl) ?_
        refine SWrap.i64z ((a + 1 : Nat) : Int) (by omega) (by omega) ?_
        exact ⟨a + 1, [], han, by show i + 1 - (a + 1) < i + 1 - a; omega, ⟨rfl, .nil, rfl, rfl, rfl, ⟨rfl, rfl, rfl, trivial⟩, trivial⟩⟩
      · refine SCmp.no (decide_eq_false (by omega)) ?_
        refine SLoop.mk Nat (fun a => ([(0, .p (.int .i64 ((i + 1 : Nat) : Int))), (5, .p (matP false false (i + 1) (i + 1) (hM (i + 1)))), (10, .p (.int .i64 a))], []))
          (fun a => a ≤ i + 1) (fun a => i + 1 - a) 0 [] (Nat.zero_le _) ⟨rfl, .nil, rfl, rfl, rfl, ⟨rfl, rfl, rfl, trivial⟩, trivial⟩ ?_
        intro a ha
        have ha : a ≤ i + 1 := ha
        by_cases han : a < i + 1
        · refine SCmp.yes (decide_eq_true (by omega)) ?_
          refine SLoop.mk Nat (fun b => ([(0, .p (.int .i64 ((i + 1 : Nat) : Int))), (5, .p (matP false false (i + 1) (i + 1) (hM (i + 1)))), (10, .p (.int .i64 a)), (11, .p (.int .i64 b))], []))
            (fun b => b ≤ i + 1) (fun b => i + 1 - b) 0 [] (Nat.zero_le _) ⟨rfl, .nil, rfl, rfl, rfl, ⟨rfl, rfl, rfl, rfl, trivial⟩, trivial⟩ ?_
          intro b hb
          have hb : b ≤ i + 1 := hb
          by_cases hbn : b < i + 1
          · refine SCmp.yes (decide_eq_true (by omega)) ?_
            obtain ⟨fd, fs, _⟩ := facts a han b hbn
            have nd : nlen (hM (i + 1) a b).den = 1 := by rw [fd]; show (nl 1).length = 1; rw [nl_one]; rfl
            have gd : (nl (hM (i + 1) a b).den).getD 0 0 = 1 := by rw [fd, nl_one]; rfl
            have hS := sg a b han hbn
            refine SDraw.mk (by kernel_rfl) ?_
            repeat refine SOp.mk _ _ (And.intro rfl rfl) rfl ?_
            refine SOp.mk _ _ (SIdx.mf a rfl han (And.intro rfl rfl)) rfl ?_
            repeat refine SOp.mk _ _ (And.intro rfl rfl) rfl ?_
            refine SOp.mk _ _ (SIdx.rf b rfl hbn (And.intro rfl rfl)) rfl ?_
            repeat refine SOp.mk _ _ (And.intro rfl rfl) rfl ?_
            refine SOp.mk _ _ (SZ.mk (nlen (hM (i + 1) a b).den : Int) (by simp) (And.intro rfl rfl)) rfl ?_
            refine SOp.mk _ _ (SCmp.no (neF (by omega)) (And.intro rfl rfl)) rfl ?_
            repeat refine SOp.mk _ _ (And.intro rfl rfl) rfl ?_
            refine SOp.mk _ _ (SIdx.mf a rfl han (And.intro rfl rfl)) rfl ?_
            repeat refine SOp.mk _ _ (And.intro rfl rfl) rfl ?_
            refine SOp.mk _ _ (SIdx.rf b rfl hbn (And.intro rfl rfl)) rfl ?_
            repeat refine SOp.mk _ _ (And.intro rfl rfl) rfl ?_
            refine SOp.mk _ _ (SIdx.lb 0 rfl (by show 0 < nlen (hM (i + 1) a b).den; omega) (And.intro rfl rfl)) rfl ?_
            repeat refine SOp.mk _ _ (And.intro rfl rfl) rfl ?_
            refine SOp.mk _ _ (SCmp.no (neF (by rw [gd]; rfl)) (And.intro rfl rfl)) rfl ?_
            repeat refine SOp.mk _ _ (And.intro rfl rfl) rfl ?_
            refine SOp.mk _ _ (SIdx.mf a rfl han (And.intro rfl rfl)) rfl ?_
            repeat refine SOp.mk _ _ (And.intro rfl rfl) rfl ?_
            refine SOp.mk _ _ (SIdx.rf b rfl hbn (And.intro rfl rfl)) rfl ?_
            repeat refine SOp.mk _ _ (And.intro rfl rfl) rfl ?_
            refine SOp.mk _ _ (SWrap.i64z ((a + b : Nat) : Int) (by omega) (by omega) (And.intro rfl rfl)) rfl ?_
            refine SOp.mk _ _ (SRem (b := 2) (by omega) rfl (And.intro rfl rfl)) rfl ?_
            by_cases par : (a + b) % 2 = 1
            · rw [decide_eq_true par] at fs
              refine SOp.mk _ _ (SCmp.yes (eqT (by omega)) (And.intro rfl rfl)) rfl ?_
              refine SOp.mk _ _ (SCmp.no (by rw [fs]; rfl) (And.intro rfl rfl)) rfl ?_
              repeat refine SOp.mk _ _ (And.intro rfl rfl) rfl ?_
              refine SOp.mk _ _ (SIdx.mf a rfl han (And.intro rfl rfl)) rfl ?_
              repeat refine SOp.mk _ _ (And.intro rfl rfl) rfl ?_
              refine SOp.mk _ _ (SIdx.rf b rfl hbn (And.intro rfl rfl)) rfl ?_
              repeat refine SOp.mk _ _ (And.intro rfl rfl) rfl ?_
              refine SOp.mk _ _ (SIdx.mf b rfl hbn (And.intro rfl rfl)) rfl ?_
              repeat refine SOp.mk _ _ (And.intro rfl rfl) rfl ?_
              refine SOp.mk _ _ (SIdx.rf a rfl han (And.intro rfl rfl)) rfl ?_
              repeat refine SOp.mk _ _ (And.intro rfl rfl) rfl ?_
              refine SOp.mk _ _ (SCall.pure (hS) (And.intro rfl rfl)) rfl ?_
              refine SOp.mk _ _ (SCmp.no rfl (And.intro rfl rfl)) rfl ?_
              repeat refine SOp.mk _ _ (And.intro rfl rfl) rfl ?_
              refine SWrap.i64z ((b + 1 : Nat) : Int) (by omega) (by omega) ?_
              exact ⟨b + 1, [], hbn, by show i + 1 - (b + 1) < i + 1 - b; omega, ⟨rfl, .nil, rfl, rfl, rfl, ⟨rfl, rfl, rfl, rfl, trivial⟩, trivial⟩⟩
            · rw [decide_eq_false par] at fs
              refine SOp.mk _ _ (SCmp.no (eqF (by omega)) (And.intro rfl rfl)) rfl ?_
              refine SOp.mk _ _ (SCmp.no (by rw [fs]; rfl) (And.intro rfl rfl)) rfl ?_
              repeat refine SOp.mk _ _ (And.intro rfl rfl) rfl ?_
              refine SOp.mk _ _ (SIdx.mf a rfl han (And.intro rfl rfl)) rfl ?_
              repeat refine SOp.mk _ _ (And.intro rfl rfl) rfl ?_
              refine SOp.mk _ _ (SIdx.rf b rfl hbn (And.intro rfl rfl)) rfl ?_
              repeat refine SOp.mk _ _ (And.intro rfl rfl) rfl ?_
              refine SOp.mk _ _ (SIdx.mf b rfl hbn (And.intro rfl rfl)) rfl ?_
              repeat refine SOp.mk _ _ (And.intro rfl rfl) rfl ?_
              refine SOp.mk _ _ (SIdx.rf a rfl han (And.intro rfl rfl)) rfl ?_
              repeat refine SOp.mk _ _ (And.intro rfl rfl) rfl ?_
              refine SOp.mk _ _ (SCall.pure (hS) (And.intro rfl rfl)) rfl ?_
              refine SOp.mk _ _ (SCmp.no rfl (And.intro rfl rfl)) rfl ?_
              repeat refine SOp.mk _ _ (And.intro rfl rfl) rfl ?_
              refine SWrap.i64z ((b + 1 : Nat) : Int) (by omega) (by omega) ?_
              exact ⟨b + 1, [], hbn, by show i + 1 - (b + 1) < i + 1 - b; omega, ⟨rfl, .nil, rfl, rfl, rfl, ⟨rfl, rfl, rfl, rfl, trivial⟩, trivial⟩⟩
          · refine SCmp.no (decide_eq_false (by omega)) ?_
            obtain rfl : b = i + 1 := by omega
            refine SWrap.i64z ((a + 1 : Nat) : Int) (by omega) (by omega) ?_
            exact ⟨a + 1, [], han, by show i + 1 - (a + 1) < i + 1 - a; omega, ⟨rfl, .nil, rfl, rfl, rfl, ⟨rfl, rfl, rfl, trivial⟩, trivial⟩⟩
        · refine SCmp.no (decide_eq_false (by omega)) ?_
          refine SDraw.mk (by kernel_rfl) ?_
          repeat refine SOp.mk _ _ (And.intro rfl rfl) rfl ?_
          refine SOp.mk _ _ (SIdx.mf 0 rfl h1 (And.intro rfl rfl)) rfl ?_
          repeat refine SOp.mk _ _ (And.intro rfl rfl) rfl ?_
          refine SOp.mk _ _ (SIdx.rf 0 rfl h1 (And.intro rfl rfl)) rfl ?_
          repeat refine SOp.mk _ _ (And.intro rfl rfl) rfl ?_
          refine SOp.mk _ _ (SWrap.i64z (((i + 1) * (i + 1) : Nat) : Int) (Int.natCast_mul _ _).symm (by omega) (And.intro rfl rfl)) rfl ?_
          refine SOp.mk _ _ (SCall.pure (rint_ok (((i + 1) * (i + 1) : Nat) : Int) (by omega)) (And.intro rfl rfl)) rfl ?_
          refine SOp.mk _ _ (SCall.pure (s0) (And.intro rfl rfl)) rfl ?_
          repeat refine SOp.mk _ _ (And.intro rfl rfl) rfl ?_
          exact SRet.pure (.p _ (.bool _))
end Go.Proofs.Ytkaooejeljdbnaa

namespace Go.Proofs.Ytkaooejeljdbnaa
open Go Go.ChangeShapes Go.WideShapes Go.ChangeAt Go.RowKit Go.WideElems
set_option linter.unusedVariables false
set_option linter.unusedSimpArgs false
theorem Try.own : ownKnob Try.prog.godebug = none := by kernel_rfl
theorem Try.laidOut : laidOutB Try.prog = true := by kernel_rfl
abbrev oldF (W : World) : Nat → Prop := fun b => b < W.heap.size
theorem law_call {P : Program} {f : FuncId} {pvs : List PV} (hc : CallP P f pvs (.p (.bool true)) []) {W : World} {vs : List Value} (hl : vs.length = pvs.length) (hv : ∀ (i : Nat) p v, pvs[i]? = some p → vs[i]? = some v → PR W (FBof noBor (oldF W)) p v) :
    Calls P f vs.toArray W fun e W' => e = .returned (.bool true) ∧ Below W.heap.size W W' := by
  refine (hc.run W (oldF W) noBor (fun _ => (none, 0)) vs ⟨by simp [hl], fun i a v e1 e2 => ?_, fun h => by rw [look_nil]; trivial, fun b h => h, fun b h => h.elim, fun h b hl => ?_, fun h h' b hl => ?_, fun a ha k hk => ?_, fun h k hk => ?_⟩).mono ?_
  · rw [List.getElem?_map] at e1
    cases hp : pvs[i]? with
    | none => rw [hp] at e1; cases e1
    | some p => rw [hp] at e1; cases e1; exact .p (hv i p v hp e2)
  · rw [look_nil] at hl; exact hl.elim
  · rw [look_nil] at hl; exact hl.elim
  · obtain ⟨p, _, rfl⟩ := List.mem_map.1 ha; simp only [AV.men] at hk
  · rw [look_nil] at hk; exact hk.elim
  · intro e W' ⟨v, F', β', he, hr⟩
    subst he
    refine ⟨?_, hr.os, hr.tape, hr.output, hr.size, fun b hb => hr.same b hb fun h hl => ?_⟩
    · have := hr.rel
      cases this with | p h => cases h; rfl
    · rw [look_nil] at hl; exact hl.elim
section
variable {H : Type} {enc : TypeId × Value → H} {P : Program} {W : World} {base : Nat} {sp : Nat → Bool} {held : Bool}
theorem openInt {t : TypeId} {r : Go.Reach} {b0 : Nat} {v : Value} {d : DataW H} {ps : List MemPlace} (ht : P.underlying t = some (.int .i64)) (hval : Value.okWide P W r b0 t v) (hd : DataW.Trod enc P W base sp held t v d ps) :
    ∃ n, v = .int .i64 n ∧ I64 n := by
  obtain ⟨n, h1, h2, h3, h4⟩ := open_int ht hval hd
  refine ⟨n, h1, ?_⟩
  simp [Lit.wf, IntKind.min, IntKind.max, IntKind.signed, IntKind.bits] at h4
  exact ⟨by omega, by omega⟩
end
end Go.Proofs.Ytkaooejeljdbnaa

