/- The document's systems: what is behind the triangle; the walk. -/
import Derived.Test.YtkaooejeljdbnaaMt2
namespace Go.Proofs.Ytkaooejeljdbnaa
open Go
set_option linter.unusedVariables false
set_option linter.unusedSimpArgs false
set_option maxRecDepth 10000

/-- s0, less so many products. -/
def sb (a x : Nat → Rat) (s0 : Rat) (from' : Nat) : Nat → Rat
  | 0 => s0
  | d + 1 => sb a x s0 from' d - a (from' + d) * x (from' + d)
/-- What is known behind so many rounds, from the last row on. -/
def bk (A : Nat → Nat → Rat) (n : Nat) : Nat → Nat → Rat
  | 0 => fun _ => 0
  | t + 1 => upd (bk A n t) (n - 1 - t) (sb (A (n - 1 - t)) (bk A n t) (A (n - 1 - t) n) (n - t) t / A (n - 1 - t) (n - 1 - t))
/-- Digits, added up. -/
def xs (R : Nat → Nat) (n : Nat) : Nat → Nat
  | 0 => 0
  | t + 1 => xs R n t + (2 * R (n - 1 - t) + t * (R (n - 1 - t) + 1) + xs R n t)
theorem xs_mono {R : Nat → Nat} {n i j : Nat} (h : i ≤ j) : xs R n i ≤ xs R n j := by
  induction j with
  | zero => rw [Nat.le_zero.1 h]; exact Nat.le_refl _
  | succ j ih =>
    by_cases e : i = j + 1
    · rw [e]; exact Nat.le_refl _
    · have := ih (by omega); simp only [xs]; omega
theorem bk_keep {A : Nat → Nat → Rat} {n t k : Nat} (h : n ≤ k + t) (ht : t < n) : bk A n (t + 1) k = bk A n t k := by
  simp only [bk]; exact upd_other _ _ (by omega)

def augM (n : Nat) (A : Nat → Nat → Rat) (y : Nat → Rat) : Nat → Nat → Rat := fun i k => if k < n then A i k else y i
theorem aug_row (n : Nat) (A : Nat → Nat → Rat) (y : Nat → Rat) (i : Nat) : rats (lst n (A i)) ++ [ratP (y i)] = rats (lst (n + 1) (augM n A y i)) := by
  rw [← app_lst n (augM n A y i) (y i) (by unfold augM; rw [if_neg (Nat.lt_irrefl n)])]
  rw [lst_congr (g := augM n A y i) (h := A i) fun k hk => by unfold augM; rw [if_pos hk]]
theorem SIdx.fl {n : Nat} {f : Nat → PV} {i : Int} {K : Nat → PV → Prop} (j : Nat) (v : PV) (hi : i = j) (hj : j < n) (hv : f j = v) (hk : K j v) : SIdx (fl n f) i K := by
  subst hv; exact .mk j _ hi (fl_get hj) hk
theorem replicate_fl {α : Type} (n : Nat) (z : α) : List.replicate n z = fl n fun _ => z := by
  apply List.ext_getElem (by simp)
  intro i h1 h2
  simp [Go.Proofs.Ytkaooejeljdbnaa.fl]

theorem bk_step {A : Nat → Nat → Rat} {n t : Nat} (ht : t < n) :
    (fl n fun k => if n ≤ k + t then ratP (bk A n t k) else rat0).set (n - 1 - t + 0) (ratP (sb (A (n - 1 - t)) (bk A n t) (A (n - 1 - t) n) (n - t) t / A (n - 1 - t) (n - 1 - t))) = fl n fun k => if n ≤ k + (t + 1) then ratP (bk A n (t + 1) k) else rat0 := by
  rw [fl_set]
  refine fl_congr fun k hk => ?_
  simp only [upd, bk, Nat.add_zero]
  by_cases e : k = n - 1 - t
  · rw [if_pos e, if_pos (by omega), if_pos e]
  · rw [if_neg e, if_neg e]
    by_cases e2 : n ≤ k + t
    · rw [if_pos e2, if_pos (by omega)]
    · rw [if_neg e2, if_neg (by omega)]
/-- What a system's answer is. -/
def slvP (n : Nat) (A : Nat → Nat → Rat) (y : Nat → Rat) : PV :=
  ratsM false (if (elim n (augM n A y) n).det = 0 then [] else lst n (bk (elim n (augM n A y) n).A n n))
def slvE (n : Nat) (A : Nat → Nat → Rat) (y : Nat → Rat) : Int := if (elim n (augM n A y) n).det = 0 then 9 else 0

set_option maxHeartbeats 2000000 in
theorem rsolve_ok (m m' m'' : Bool) (n : Nat) (A : Nat → Nat → Rat) (y : Nat → Rat) {R : Nat → Nat} (hRB : RB R n (n + 1) (augM n A y)) (hn : n ≤ 900)
    (hdet : (elim n (augM n A y) n).det ≠ 0 → ∀ i, i < n → (elim n (augM n A y) n).A i i ≠ 0)
    (hx : ∀ t, t < n → 2 * R (n - 1 - t) + t * (R (n - 1 - t) + 1) + xs R n t ≤ 1048576) :
    CallP Try.prog 71 [matP m m' n n A, ratsM m'' (lst n y)] (.tup [.p (slvP n A y), .p (.int .i64 (slvE n A y))]) [] := by
  refine callG_of_vc (wr := wr0) Γok mixed Try.func71 (by kernel_rfl) rfl (by kernel_rfl) (le_of_ble rfl) (by simp) ?_
  refine SZ.mk (n : Int) (by simp) ?_
  refine SLoop.mkT Nat (fun i => ([(0, .p (matP m m' n n A)), (1, .p (ratsM m'' (lst n y))), (6, .p (.int .i64 n)), (7, .vec 0 1 0 i), (8, .p (.int .i64 i))], [.rows 25 (plc 1 (n + 1) i id), .pool 37 3 (plr i (n + 1) (augM n A y))]))
    (fun i => i ≤ n) (fun i => n - i) 0 [0, 1] _ _ (.rows 7 25 rfl (.pool 37 3 (.done _ _))) (Nat.zero_le _) ⟨rfl, by simp, rfl, rfl, rfl, ⟨rfl, rfl, rfl, rfl, rfl, trivial⟩, ⟨rfl, rfl, rows_in fun i hi => absurd hi (Nat.not_lt_zero _), trivial⟩⟩ ?_
  intro i hi
  have hi : i ≤ n := hi
  by_cases hin : i < n
  · refine SCmp.yes (decide_eq_true (by omega)) ?_
    refine SDraw.mkX (by kernel_rfl) ?_
    repeat refine SOp.mk _ _ (And.intro rfl rfl) rfl ?_
    refine SOp.mk _ _ (SIdx.mf i rfl hin (And.intro rfl rfl)) rfl ?_
    repeat refine SOp.mk _ _ (And.intro rfl rfl) rfl ?_
    refine SOp.mk _ _ (SRoom.mk (by simp [lst]; omega) (by simp [lst]; omega) (And.intro rfl rfl)) rfl ?_
    repeat refine SOp.mk _ _ (And.intro rfl rfl) rfl ?_
    refine SOp.mk _ _ (SIdx.rf i rfl hin (And.intro rfl rfl)) rfl ?_
    repeat refine SOp.mk _ _ (And.intro rfl rfl) rfl ?_
    refine SOp.mk _ _ (SEqN.mk (by simp [lst]) <| SView.all rfl <| SRoom.mk (by simp [lst]; omega) (by simp [lst]; omega) <| SEs.mk _ (aug_row n A y i) <| SZN.mk (n + 1) (by simp [lst]) (And.intro rfl rfl)) rfl ?_
    repeat refine SOp.mk _ _ (And.intro rfl rfl) rfl ?_
    refine SOp.mk _ _ (SEqN.mk (by simp) <| SRoom.mk (by simp; omega) (by simp; omega) <| SAs.mk _ rfl <| SZN.mk (i + 1) (by simp) (And.intro rfl rfl)) rfl ?_
    repeat refine SOp.mk _ _ (And.intro rfl rfl) rfl ?_
    refine SFin.mk (by kernel_rfl) ?_
    refine SWrap.i64z ((i + 1 : Nat) : Int) (by omega) (by omega) ?_
    exact ⟨i + 1, [6, 5001], hin, by show n - (i + 1) < n - i; omega, ⟨rfl, by simp, rfl, rfl, rfl, ⟨rfl, rfl, rfl, rfl, rfl, trivial⟩, ⟨congrArg _ (plc_absorb rfl (by decide) (by simp [plenAt])), ⟨_, _, _, _, rfl, rfl, congrArg _ plr_snoc⟩, rows_in fun i hi => by simpa [plenAt] using hi, trivial⟩⟩⟩
  · refine SCmp.no (decide_eq_false (by omega)) ?_
    obtain rfl : i = n := by omega
    have htr := rtriangle_ok true true i (i + 1) (augM i A y) hRB (by omega) (by omega)
    have hB := hRB.row i (Nat.le_refl _)
    unfold slvP slvE
    generalize elim i (augM i A y) i = E at htr hB hdet
    have hR : ∀ q k, q < i → k < i + 1 → Bz (E.A q k) (R q) := fun q k hq hk => (hB q k hq hk).mono (Rmono hRB.mono (Nat.min_le_left _ _))
    refine SLendR.plc (G := augM i A y) rfl (fun q hq => hq) ?_
    refine SCall.pureT (htr) (fun _ => rfl) ?_
    refine SCall.pure (rnought_ok E.det) ?_
    by_cases hz : E.det = 0
    · rw [decide_eq_true hz]
      refine SCond.mk (fun _ => ?_) (fun h => by cases h)
      rw [if_pos hz, if_pos hz]
      refine SRet.pure (.tup rfl fun a c d e1 e2 => ?_)
      match a, e1, e2 with
      | 0, e1, e2 => cases e1; cases e2; exact .emp 3
      | 1, e1, e2 => cases e1; cases e2; exact .p _ (.int _ _)
    · rw [decide_eq_false hz]
      refine SCond.mk (fun h => by cases h) (fun _ => ?_)
      rw [if_neg hz, if_neg hz]
      have hd := hdet hz
      refine SZ.mk (i : Int) rfl ?_
      refine SLt.mk (by simp) ?_
      refine SMake.rat i rfl (by omega) ?_
      refine SWrap.i64z ((i : Int) - 1 - (0 : Nat)) (by omega) (by omega) ?_
      refine SLoop.mk Nat (fun t => ([(6, .p (.int .i64 i)), (9, .p (matP false false i (i + 1) E.A)), (12, .vec 0 3 0 i), (13, .p (.int .i64 ((i : Int) - 1 - (t : Nat))))], [.vec 37 3 (fl i fun k => if i ≤ k + t then ratP (bk E.A i t k) else rat0)]))
        (fun t => t ≤ i ∧ ∀ u, u < t → Bz (bk E.A i t (i - 1 - u)) (xs R i (u + 1) - xs R i u)) (fun t => i - t) 0 [3] ⟨Nat.zero_le _, fun u hu => absurd hu (Nat.not_lt_zero _)⟩
        ⟨rfl, by simp, rfl, rfl, rfl, ⟨rfl, rfl, rfl, rfl, trivial⟩, ⟨congrArg _ ((fl_congr fun k hk => if_neg (by omega)).trans (replicate_fl i rat0).symm), trivial⟩⟩ ?_
      intro t ⟨t1, t2⟩
      by_cases ht : t < i
      · refine SCmp.yes (decide_eq_true (by omega)) ?_
        refine SIdx.mf (i - 1 - t) (by omega) (by omega) ?_
        refine SIdx.rf i rfl (by omega) ?_
        refine SWrap.i64z ((i - t + 0 : Nat) : Int) (by omega) (by omega) ?_
        refine SLoop.mk Nat (fun d => ([(6, .p (.int .i64 i)), (9, .p (matP false false i (i + 1) E.A)), (12, .vec 0 3 0 i), (13, .p (.int .i64 ((i : Int) - 1 - (t : Nat)))), (14, .bptr 1 0), (15, .p (.int .i64 ((i - t + d : Nat) : Int)))],
            [.vec 37 3 (fl i fun k => if i ≤ k + t then ratP (bk E.A i t k) else rat0), .box 37 (bxQ (sb (E.A (i - 1 - t)) (bk E.A i t) (E.A (i - 1 - t) i) (i - t) d))]))
          (fun d => d ≤ t ∧ Bz (sb (E.A (i - 1 - t)) (bk E.A i t) (E.A (i - 1 - t) i) (i - t) d) (R (i - 1 - t) + d * (R (i - 1 - t) + 1) + (xs R i t - xs R i (t - d)))) (fun d => t - d) 0 [0, 1]
          ⟨Nat.zero_le _, by rw [Nat.zero_mul, Nat.sub_zero, Nat.sub_self]; exact hR _ _ (by omega) (by omega)⟩
          ⟨rfl, by simp, rfl, rfl, rfl, ⟨rfl, rfl, rfl, rfl, rfl, rfl, trivial⟩, ⟨rfl, rfl, trivial⟩⟩ ?_
        intro d ⟨d1, d2⟩
        have lim := hx t ht
        have hd1 : d * (R (i - 1 - t) + 1) ≤ t * (R (i - 1 - t) + 1) := Nat.mul_le_mul_right _ d1
        have hs1 := hd1
        by_cases hdt : d < t
        · refine SCmp.yes (decide_eq_true (by omega)) ?_
          have ha := hR (i - 1 - t) (i - t + d) (by omega) (by omega)
          have hxd : Bz (bk E.A i t (i - t + d)) (xs R i (t - 1 - d + 1) - xs R i (t - 1 - d)) := by
            have := t2 (t - 1 - d) (by omega)
            rw [show i - 1 - (t - 1 - d) = i - t + d by omega] at this; exact this
          have e1 : t - 1 - d + 1 = t - d := by omega
          have e2 : t - 1 - d = t - (d + 1) := by omega
          rw [e1, e2] at hxd
          have m1 := xs_mono (R := R) (n := i) (show t - d ≤ t by omega)
          have m2 := xs_mono (R := R) (n := i) (show t - (d + 1) ≤ t - d by omega)
          have hm : (d + 1) * (R (i - 1 - t) + 1) ≤ t * (R (i - 1 - t) + 1) := Nat.mul_le_mul_right _ hdt
          rw [Nat.succ_mul] at hm
          have z := ha.mul hxd
          refine SDraw.mkX (by kernel_rfl) ?_
          repeat refine SOp.mk _ _ (And.intro rfl rfl) rfl ?_
          refine SOp.mk _ _ (SIdx.mf (i - 1 - t) (by omega) (by omega) (And.intro rfl rfl)) rfl ?_
          repeat refine SOp.mk _ _ (And.intro rfl rfl) rfl ?_
          refine SOp.mk _ _ (SIdx.rf (i - t + d) rfl (by omega) (And.intro rfl rfl)) rfl ?_
          repeat refine SOp.mk _ _ (And.intro rfl rfl) rfl ?_
          refine SOp.mk _ _ (SPos.mk (i - t + d) rfl (by omega) (And.intro rfl rfl)) rfl ?_
          refine SOp.mk _ _ (SIdx.fl (i - t + d + 0) (ratP (bk E.A i t (i - t + d))) rfl (by omega) (if_pos (by omega)) (And.intro rfl rfl)) rfl ?_
          refine SOp.mk _ _ (SCall.pure (rmulq_ok _ _ ha hxd (by omega)) (And.intro rfl rfl)) rfl ?_
          refine SOp.mk _ _ (SCall.pure (rsubq_ok _ _ d2 z (by omega)) (And.intro rfl rfl)) rfl ?_
          repeat refine SOp.mk _ _ (And.intro rfl rfl) rfl ?_
          refine SFin.mk (by kernel_rfl) ?_
          refine SWrap.i64z ((i - t + (d + 1) : Nat) : Int) (by omega) (by omega) ?_
          exact ⟨d + 1, [0, 1], ⟨hdt, (d2.sub z).mono (by rw [Nat.succ_mul]; omega)⟩, by show t - (d + 1) < t - d; omega, ⟨rfl, by simp, rfl, rfl, rfl, ⟨rfl, rfl, rfl, rfl, rfl, rfl, trivial⟩, ⟨rfl, rfl, trivial⟩⟩⟩
        · refine SCmp.no (decide_eq_false (by omega)) ?_
          obtain rfl : d = t := by omega
          rw [Nat.sub_self] at d2
          have ha := hR (i - 1 - d) (i - 1 - d) (by omega) (by omega)
          refine SDraw.mkX (by kernel_rfl) ?_
          repeat refine SOp.mk _ _ (And.intro rfl rfl) rfl ?_
          refine SOp.mk _ _ (SIdx.mf (i - 1 - d) (by omega) (by omega) (And.intro rfl rfl)) rfl ?_
          repeat refine SOp.mk _ _ (And.intro rfl rfl) rfl ?_
          refine SOp.mk _ _ (SIdx.rf (i - 1 - d) (by omega) (by omega) (And.intro rfl rfl)) rfl ?_
          repeat refine SOp.mk _ _ (And.intro rfl rfl) rfl ?_
          refine SOp.mk _ _ (SCall.pure (rover_ok _ _ (hd (i - 1 - d) (by omega)) d2 ha (by simp only [xs] at d2 ⊢; omega)) (And.intro rfl rfl)) rfl ?_
          refine SOp.mk _ _ (SPos.mk (i - 1 - d) (by omega) (by omega) (And.intro rfl rfl)) rfl ?_
          refine SOp.mk _ _ (SLt.mk (by simp; omega) <| SEs.mk _ (bk_step (by omega)) (And.intro rfl rfl)) rfl ?_
          refine SFin.mk (by kernel_rfl) ?_
          refine SWrap.i64z ((i : Int) - 1 - ((d + 1 : Nat) : Int)) (by omega) (by omega) ?_
          refine ⟨d + 1, [0], ⟨ht, fun u hu => ?_⟩, by show i - (d + 1) < i - d; omega, ⟨rfl, by simp, rfl, rfl, rfl, ⟨rfl, rfl, rfl, rfl, trivial⟩, ⟨rfl, trivial⟩⟩⟩
          by_cases e : u = d
          · subst e
            have : bk E.A i (u + 1) (i - 1 - u) = sb (E.A (i - 1 - u)) (bk E.A i u) (E.A (i - 1 - u) i) (i - u) u / E.A (i - 1 - u) (i - 1 - u) := by simp only [bk]; exact upd_same _ _ _
            rw [this]
            exact (d2.div ha).mono (by simp only [xs]; omega)
          · rw [bk_keep (by omega) ht]; exact t2 u (by omega)
      · refine SCmp.no (decide_eq_false (by omega)) ?_
        obtain rfl : t = i := by omega
        have e : (fl t fun k => if t ≤ k + t then ratP (bk E.A t t k) else rat0) = rats (lst t (bk E.A t t)) := by
          rw [rats, lst_fl, fl_map]; exact fl_congr fun k hk => if_pos (by omega)
        refine SRet.pure (.tup rfl fun a c d e1 e2 => ?_)
        match a, e1, e2 with
        | 0, e1, e2 => cases e1; cases e2; exact frzR (h := 0) (l := lst t (bk E.A t t)) (congrArg (Blk.vec 37 3) e) (by simp [lst])
        | 1, e1, e2 => cases e1; cases e2; exact .p _ (.int _ _)
end Go.Proofs.Ytkaooejeljdbnaa
