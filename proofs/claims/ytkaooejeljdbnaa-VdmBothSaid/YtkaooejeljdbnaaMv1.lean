/- The document's polynomial through points, its weights: the walks. -/
import Derived.Test.YtkaooejeljdbnaaMp2
namespace Go.Proofs.Ytkaooejeljdbnaa
open Go
set_option linter.unusedVariables false
set_option linter.unusedSimpArgs false
set_option maxRecDepth 10000

theorem rthrLong_ok (m m' : Bool) (x f : List Rat) (hne : x.length ≠ f.length) (hx : x.length ≤ 1000) (hf : f.length ≤ 1000) :
    CallP Try.prog 21 [ratsM m x, ratsM m' f] (.tup [.p (ratsM false []), .p (.int .i64 3)]) [] := by
  refine callG_of_vc (wr := wr0) Γok mixed Try.func21 (by kernel_rfl) rfl (by kernel_rfl) (le_of_ble rfl) (by simp) ?_
  refine SZ.mk (x.length : Int) (by simp) ?_
  refine SZ.mk (f.length : Int) (by simp) ?_
  refine SCmp.yes (neT (by omega)) ?_
  refine SRet.pure (.tup rfl fun a c d e1 e2 => ?_)
  match a, e1, e2 with
  | 0, e1, e2 => cases e1; cases e2; exact .emp 3
  | 1, e1, e2 => cases e1; cases e2; exact .p _ (.int _ _)
theorem rmomLong_ok (m m' : Bool) (x f : List Rat) (hne : x.length ≠ f.length) (hx : x.length ≤ 1000) (hf : f.length ≤ 1000) :
    CallP Try.prog 28 [ratsM m x, ratsM m' f] (.tup [.p (ratsM false []), .p (.int .i64 3)]) [] := by
  refine callG_of_vc (wr := wr0) Γok mixed Try.func28 (by kernel_rfl) rfl (by kernel_rfl) (le_of_ble rfl) (by simp) ?_
  refine SZ.mk (x.length : Int) (by simp) ?_
  refine SZ.mk (f.length : Int) (by simp) ?_
  refine SCmp.yes (neT (by omega)) ?_
  refine SRet.pure (.tup rfl fun a c d e1 e2 => ?_)
  match a, e1, e2 with
  | 0, e1, e2 => cases e1; cases e2; exact .emp 3
  | 1, e1, e2 => cases e1; cases e2; exact .p _ (.int _ _)
theorem rthr_ok (m m' : Bool) (n : Nat) (x f : Nat → Rat) (hn : n ≤ 5) (hx : ∀ i, i < n + 1 → Bz (x i) 6) (hf : ∀ i, i < n + 1 → Bz (f i) 5) :
    CallP Try.prog 21 [ratsM m (lst (n + 1) x), ratsM m' (lst (n + 1) f)] (if rightZ (lst (n + 1) x) (lst (n + 1) f) = 0 then .tup [.p (ratsM false (thrL (lst (n + 1) x) (lst (n + 1) f))), .p (.int .i64 0)] else .tup [.p (ratsM false []), .p (.int .i64 (rightZ (lst (n + 1) x) (lst (n + 1) f)))]) [] := by
  have hS := rsolve_ok false false m' (n + 1) (fun i k => x i ^ k) f (thr_rb hn hx hf) (by omega) slv_diag (vdm_xs hn)
  have hP := rpowers_ok m (n + 1) x hx (by have : (6 + 1) * (n + 1 + 1) ≤ (6 + 1) * 8 := Nat.mul_le_mul_left _ (by omega)
                                           omega) (by omega)
  have hR : (if rightZ (lst (n + 1) x) (lst (n + 1) f) = 0 then AV.tup [.p (ratsM false (thrL (lst (n + 1) x) (lst (n + 1) f))), .p (.int .i64 0)] else .tup [.p (ratsM false []), .p (.int .i64 (rightZ (lst (n + 1) x) (lst (n + 1) f)))]) = .tup [.p (slvP (n + 1) (fun i k => x i ^ k) f), .p (.int .i64 (slvE (n + 1) (fun i k => x i ^ k) f))] := by
    unfold slvP slvE
    rw [aug_det]
    by_cases hd : Inj x (n + 1)
    · rw [if_pos (rightZ_lst.1 hd), if_neg (thr_det.2 hd), if_neg (thr_det.2 hd), thr_slv hd]
    · have e := Classical.not_not.1 (mt thr_det.1 hd)
      rw [if_neg (by rw [rightZ_lst.2 hd]; decide), rightZ_lst.2 hd, if_pos e, if_pos e]
  rw [hR]
  refine callG_of_vc (wr := wr0) Γok mixed Try.func21 (by kernel_rfl) rfl (by kernel_rfl) (le_of_ble rfl) (by simp) ?_
  refine SZ.mk ((n + 1 : Nat) : Int) (by simp [lst]) ?_
  refine SZ.mk ((n + 1 : Nat) : Int) (by simp [lst]) ?_
  refine SCmp.no (neF rfl) ?_
  refine SZ.mk ((n + 1 : Nat) : Int) (by simp [lst]) ?_
  refine SCmp.no (decide_eq_false (by omega)) ?_
  refine SCall.pure (hP) ?_
  refine SCall.pureT (hS) (fun _ => rfl) ?_
  exact SRet.pure (.tup rfl fun i c d e1 e2 => by
    match i, e1, e2 with
    | 0, e1, e2 => cases e1; cases e2; exact .p _ (show Pers (slvP _ _ _) from .sl _ _ (pers_rats _))
    | 1, e1, e2 => cases e1; cases e2; exact .p _ (.int _ _))
theorem rmom_ok (m m' : Bool) (n : Nat) (x f : Nat → Rat) (hn : n ≤ 5) (hx : ∀ i, i < n + 1 → Bz (x i) 6) (hf : ∀ i, i < n + 1 → Bz (f i) 5) :
    CallP Try.prog 28 [ratsM m (lst (n + 1) x), ratsM m' (lst (n + 1) f)] (if rightZ (lst (n + 1) x) (lst (n + 1) f) = 0 then .tup [.p (ratsM false (momL (lst (n + 1) x) (lst (n + 1) f))), .p (.int .i64 0)] else .tup [.p (ratsM false []), .p (.int .i64 (rightZ (lst (n + 1) x) (lst (n + 1) f)))]) [] := by
  have hS := rsolve_ok false false m' (n + 1) (fun i k => x k ^ i) f (mom_rb hn hx hf) (by omega) slv_diag (vdm_xs hn)
  have hP := rpowers_ok m (n + 1) x hx (by have : (6 + 1) * (n + 1 + 1) ≤ (6 + 1) * 8 := Nat.mul_le_mul_left _ (by omega)
                                           omega) (by omega)
  have hT := rturn_ok false false (n + 1) (fun i k => x i ^ k) (b := 31) (fun i k hi hk => (bz_pow (hx i hi) k).mono (by omega)) (by omega) (by omega)
  have hR : (if rightZ (lst (n + 1) x) (lst (n + 1) f) = 0 then AV.tup [.p (ratsM false (momL (lst (n + 1) x) (lst (n + 1) f))), .p (.int .i64 0)] else .tup [.p (ratsM false []), .p (.int .i64 (rightZ (lst (n + 1) x) (lst (n + 1) f)))]) = .tup [.p (slvP (n + 1) (fun i k => x k ^ i) f), .p (.int .i64 (slvE (n + 1) (fun i k => x k ^ i) f))] := by
    unfold slvP slvE
    rw [aug_det]
    by_cases hd : Inj x (n + 1)
    · rw [if_pos (rightZ_lst.1 hd), if_neg (mom_det.2 hd), if_neg (mom_det.2 hd), mom_slv hd hx hf]
    · have e := Classical.not_not.1 (mt mom_det.1 hd)
      rw [if_neg (by rw [rightZ_lst.2 hd]; decide), rightZ_lst.2 hd, if_pos e, if_pos e]
  rw [hR]
  refine callG_of_vc (wr := wr0) Γok mixed Try.func28 (by kernel_rfl) rfl (by kernel_rfl) (le_of_ble rfl) (by simp) ?_
  refine SZ.mk ((n + 1 : Nat) : Int) (by simp [lst]) ?_
  refine SZ.mk ((n + 1 : Nat) : Int) (by simp [lst]) ?_
  refine SCmp.no (neF rfl) ?_
  refine SZ.mk ((n + 1 : Nat) : Int) (by simp [lst]) ?_
  refine SCmp.no (decide_eq_false (by omega)) ?_
  refine SCall.pure (hP) ?_
  refine SCall.pure (hT) ?_
  refine SCall.pureT (hS) (fun _ => rfl) ?_
  exact SRet.pure (.tup rfl fun i c d e1 e2 => by
    match i, e1, e2 with
    | 0, e1, e2 => cases e1; cases e2; exact .p _ (show Pers (slvP _ _ _) from .sl _ _ (pers_rats _))
    | 1, e1, e2 => cases e1; cases e2; exact .p _ (.int _ _))
end Go.Proofs.Ytkaooejeljdbnaa
