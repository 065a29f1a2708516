/- FCSolves: what its proof needs, part 6. -/
import Derived.Test.YtkaooejeljdbnaaHSolves5
set_option linter.unusedVariables false
set_option linter.unusedSimpArgs false
namespace Go.Proofs.Ytkaooejeljdbnaa
open Go
set_option linter.unusedVariables false
set_option linter.unusedSimpArgs false
set_option maxRecDepth 10000
/-- Numbers that are known, one that grows, and none. -/
abbrev xsF (n : Nat) (F : Nat → Rat) (i : Nat) (s : Rat) : List PV := fl n fun j => if j < i then ratP (F j) else if j = i then ratP s else rat0
theorem xsF_set0 {n i : Nat} {F : Nat → Rat} {s : Rat} : (fl n fun j => if j < i then ratP (F j) else rat0).set (i + 0) (ratP s) = xsF n F i s := by
  rw [fl_set]
  refine fl_congr fun j _ => ?_
  simp only [upd, Nat.add_zero]
  by_cases e : j = i
  · rw [if_pos e, if_neg (by omega), if_pos e]
  · rw [if_neg e]
    by_cases e2 : j < i
    · rw [if_pos e2, if_pos e2]
    · rw [if_neg e2, if_neg e2, if_neg e]
theorem xsF_set {n i : Nat} {F : Nat → Rat} {s s' : Rat} : (xsF n F i s).set (i + 0) (ratP s') = xsF n F i s' := by
  rw [fl_set]
  refine fl_congr fun j _ => ?_
  simp only [upd, Nat.add_zero]
  by_cases e : j = i
  · rw [if_pos e, if_neg (by omega), if_pos e]
  · rw [if_neg e]
    by_cases e2 : j < i
    · rw [if_pos e2, if_pos e2]
    · rw [if_neg e2, if_neg e2, if_neg e, if_neg e]
theorem xsF_next {n i : Nat} {F : Nat → Rat} : xsF n F i (F i) = fl n fun j => if j < i + 1 then ratP (F j) else rat0 := fl_congr fun j _ => by
  by_cases e : j = i
  · rw [if_neg (by omega), if_pos e, if_pos (by omega), e]
  · by_cases e2 : j < i
    · rw [if_pos e2, if_pos (by omega)]
    · rw [if_neg e2, if_neg e, if_neg (by omega)]
theorem xsF_get {n i : Nat} {F : Nat → Rat} {s : Rat} (h : i < n) : (xsF n F i s)[i + 0]? = some (ratP s) := by
  rw [Nat.add_zero, fl_get h, if_neg (Nat.lt_irrefl i), if_pos rfl]
theorem xsF_full {n : Nat} {F : Nat → Rat} : (fl n fun j => if j < n then ratP (F j) else rat0) = rats (lst n F) := by
  rw [rats, lst_fl, fl_map]; exact fl_congr fun j hj => if_pos hj
def cuX (g : GV) (y : Nat → Rat) (i : Nat) : Rat := sm g.n fun k => cuM g i k * y k
theorem csolveOne_ok (m : Nat → Bool) (m' : Bool) (g : GV) {b c : Nat} (h : CauG g b c) (y : Nat → Rat) (ht : ¬ (Inj g.A g.n ∧ Inj g.B g.n)) : CallP Try.prog 53 [genP m g, ratsM m' (lst g.n y)] (.tup [.p (ratsM false []), .p (.int .i64 9)]) [] := by
  have hk := h.k5
  have h6 := h.n6
  refine callG_of_vc (wr := wr0) Γok mixed Try.func53 (by kernel_rfl) rfl (by kernel_rfl) (le_of_ble rfl) (by simp) ?_
  refine SCmp.yes (eqT (by omega)) ?_
  refine SZ.mk (g.n : Int) (by simp [lst]) ?_
  refine SCmp.no (neF rfl) ?_
  refine SCall.pureT (cinvOne_ok m g h ht) (fun _ => rfl) ?_
  refine SCmp.yes (rfl) ?_
  exact SRet.pure (.tup rfl fun i c d e1 e2 => by
    match i, e1, e2 with
    | 0, e1, e2 => cases e1; cases e2; exact .emp 3
    | 1, e1, e2 => cases e1; cases e2; exact .p _ (.int _ _))
theorem cuM_bz {g : GV} {b c : Nat} (h : CauG g b c) {i k : Nat} (hi : i < g.n) (hk : k < g.n) : Bz (cuM g i k) 5400 := (cuF_bz h hi hk g.n (Nat.le_refl _)).mono (by have := h.n6; omega)
theorem csolve_ok (m : Nat → Bool) (m' : Bool) (g : GV) {b c : Nat} (h : CauG g b c) (ha : Inj g.A g.n) (hb : Inj g.B g.n) (y : Nat → Rat) (hy : ∀ i, i < g.n → Bz (y i) 100) :
    CallP Try.prog 53 [genP m g, ratsM m' (lst g.n y)] (.tup [.p (ratsM false (lst g.n (cuX g y))), .p (.int .i64 0)]) [] := by
  have hk := h.k5
  have h6 := h.n6
  have n1 := h.n1
  refine callG_of_vc (wr := wr0) Γok mixed Try.func53 (by kernel_rfl) rfl (by kernel_rfl) (le_of_ble rfl) (by simp) ?_
  refine SCmp.yes (eqT (by omega)) ?_
  refine SZ.mk (g.n : Int) (by simp [lst]) ?_
  refine SCmp.no (neF rfl) ?_
  refine SCall.pureT (cinv_ok m g h ha hb) (fun _ => rfl) ?_
  refine SCmp.no (rfl) ?_
  refine SZ.mk (g.n : Int) (by simp) ?_
  refine SZ.mk (g.n : Int) rfl ?_
  refine SLt.mk (by simp) ?_
  refine SMake.rat g.n rfl (by omega) ?_
  refine SZ.mk (g.n : Int) (by simp) ?_
  refine SLoop.mk Nat (fun i => ([(1, .p (ratsM m' (lst g.n y))), (6, .p (matP false false g.n g.n (cuM g))), (8, .vec 0 3 0 g.n), (34, .p (.int .i64 g.n)), (35, .p (.int .i64 i))], [.vec 37 3 (fl g.n fun j => if j < i then ratP (cuX g y j) else rat0)]))
    (fun i => i ≤ g.n) (fun i => g.n - i) 0 [1] (Nat.zero_le _) ⟨rfl, by simp, rfl, rfl, rfl, ⟨rfl, rfl, rfl, rfl, rfl, trivial⟩, ⟨congrArg _ ((fl_congr fun k hk => if_neg (by omega)).trans (replicate_fl g.n rat0).symm), trivial⟩⟩ ?_
  intro i hi
  have hi : i ≤ g.n := hi
  by_cases hin : i < g.n
  · refine SCmp.yes (decide_eq_true (by omega)) ?_
    refine SCall.pure (czero_ok) ?_
    refine SPos.mk i rfl hin ?_
    refine SLt.mk (by simp; omega) <| SEs.mk _ xsF_set0 ?_
    refine SIdx.mf i rfl hin ?_
    refine SZ.mk (g.n : Int) (by simp [lst]) ?_
    refine SLoop.mk (Nat × Rat) (fun (k, s) => ([(1, .p (ratsM m' (lst g.n y))), (6, .p (matP false false g.n g.n (cuM g))), (8, .vec 0 3 0 g.n), (9, .p (.int .i64 i)), (34, .p (.int .i64 g.n)), (35, .p (.int .i64 i)), (45, .p (ratsM false (lst g.n (cuM g i)))), (46, .p (.int .i64 g.n)), (47, .p (.int .i64 k))], [.vec 37 3 (xsF g.n (cuX g y) i s)]))
      (fun (k, s) => k ≤ g.n ∧ s = sm k (fun k => cuM g i k * y k) ∧ Bz s (1 + k * 5600)) (fun x => g.n - x.1) (0, 0) [0] ⟨Nat.zero_le _, rfl, bz_zero⟩ ⟨rfl, by simp, rfl, rfl, rfl, ⟨rfl, rfl, rfl, rfl, rfl, rfl, rfl, rfl, rfl, trivial⟩, ⟨rfl, trivial⟩⟩ ?_
    intro ⟨k, s⟩ ⟨hk, hs, zs⟩
    by_cases hkn : k < g.n
    · refine SCmp.yes (decide_eq_true (by omega)) ?_
      refine SIdx.rf k rfl hkn ?_
      have z1 := (cuM_bz h hin hkn).mul (hy k hkn)
      refine SDraw.mkX (by kernel_rfl) ?_
      repeat refine SOp.mk _ _ (And.intro rfl rfl) rfl ?_
      refine SOp.mk _ _ (SPos.mk i rfl hin (And.intro rfl rfl)) rfl ?_
      refine SOp.mk _ _ (SIdx.mk (i + 0) _ rfl (xsF_get hin) (And.intro rfl rfl)) rfl ?_
      repeat refine SOp.mk _ _ (And.intro rfl rfl) rfl ?_
      refine SOp.mk _ _ (SIdx.rf k rfl hkn (And.intro rfl rfl)) rfl ?_
      repeat refine SOp.mk _ _ (And.intro rfl rfl) rfl ?_
      refine SOp.mk _ _ (SCall.pure (ratmul_ok _ _ (cuM_bz h hin hkn).sz (hy k hkn).sz (by omega)) (And.intro rfl rfl)) rfl ?_
      refine SOp.mk _ _ (SCall.pure (ratadd_ok _ _ zs.sz z1.sz (by omega)) (And.intro rfl rfl)) rfl ?_
      refine SOp.mk _ _ (SPos.mk i rfl hin (And.intro rfl rfl)) rfl ?_
      refine SOp.mk _ _ (SLt.mk (by simp; omega) <| SEs.mk _ xsF_set (And.intro rfl rfl)) rfl ?_
      repeat refine SOp.mk _ _ (And.intro rfl rfl) rfl ?_
      refine SFin.mk (by kernel_rfl) ?_
      refine SWrap.i64z ((k + 1 : Nat) : Int) (by omega) (by omega) ?_
      exact ⟨(k + 1, _), [0], ⟨hkn, by rw [hs]; rfl, (zs.add z1).mono (by omega)⟩, by show g.n - (k + 1) < g.n - k; omega, ⟨rfl, by simp, rfl, rfl, rfl, ⟨rfl, rfl, rfl, rfl, rfl, rfl, rfl, rfl, rfl, trivial⟩, ⟨rfl, trivial⟩⟩⟩
    · refine SCmp.no (decide_eq_false (by omega)) ?_
      obtain rfl : k = g.n := by omega
      have hs : s = cuX g y i := hs
      subst hs
      refine SWrap.i64z ((i + 1 : Nat) : Int) (by omega) (by omega) ?_
      exact ⟨i + 1, [0], hin, by show g.n - (i + 1) < g.n - i; omega, ⟨rfl, by simp, rfl, rfl, rfl, ⟨rfl, rfl, rfl, rfl, rfl, trivial⟩, ⟨congrArg _ xsF_next.symm, trivial⟩⟩⟩
  · refine SCmp.no (decide_eq_false (by omega)) ?_
    obtain rfl : i = g.n := by omega
    exact SRet.pure (.tup rfl fun i c d e1 e2 => by
      match i, e1, e2 with
      | 0, e1, e2 => cases e1; cases e2; exact frzR (h := 0) (l := lst g.n (cuX g y)) (congrArg (Blk.vec 37 3) xsF_full) (by simp [lst])
      | 1, e1, e2 => cases e1; cases e2; exact .p _ (.int _ _))
end Go.Proofs.Ytkaooejeljdbnaa

namespace Go.Proofs.Ytkaooejeljdbnaa
open Go
set_option linter.unusedVariables false
set_option linter.unusedSimpArgs false
set_option maxRecDepth 10000
def apl (w : Nat) (A : Nat → Nat → Rat) (y : Nat → Rat) (i : Nat) : Rat := sm w fun k => A i k * y k
theorem apl_bz {w : Nat} {A : Nat → Nat → Rat} {y : Nat → Rat} {a b i : Nat} (hA : ∀ k, k < w → Bz (A i k) a) (hy : ∀ k, k < w → Bz (y k) b) : ∀ k, k ≤ w → Bz (sm k fun k => A i k * y k) (k * (a + b + 1) + 1) := by
  intro k
  induction k with
  | zero => exact fun _ => bz_zero.mono (by omega)
  | succ k ih =>
    intro hk
    exact ((ih (by omega)).add ((hA k (by omega)).mul (hy k (by omega)))).mono (by rw [Nat.succ_mul]; omega)
theorem rapplyM_ok (m m' m'' : Bool) (n w : Nat) (A : Nat → Nat → Rat) (y : Nat → Rat) {a b : Nat} (hA : ∀ i k, i < n → k < w → Bz (A i k) a) (hy : ∀ k, k < w → Bz (y k) b) (hn : n ≤ 1000) (hw : w ≤ 1000) (hb : w * (a + b + 1) + 1 + (a + b) + 1 ≤ 1048576) :
    CallP Try.prog 54 [matP m m' n w A, ratsM m'' (lst w y)] (.p (ratsM false (lst n (apl w A y)))) [] := by
  refine callG_of_vc (wr := wr0) Γok mixed Try.func54 (by kernel_rfl) rfl (by kernel_rfl) (le_of_ble rfl) (by simp) ?_
  refine SLoop.mkT Nat (fun i => ([(0, .p (matP m m' n w A)), (1, .p (ratsM m'' (lst w y))), (5, .vec 0 3 0 i), (6, .p (.int .i64 i))], [.vec 37 3 (rats (lst i (apl w A y)))]))
    (fun i => i ≤ n) (fun i => n - i) 0 [0] _ _ (.step 5 37 3 rfl (.done _ _)) (Nat.zero_le _) ⟨rfl, by simp, rfl, rfl, rfl, ⟨rfl, rfl, rfl, rfl, trivial⟩, ⟨rfl, trivial⟩⟩ ?_
  intro i hi
  have hi : i ≤ n := hi
  refine SZ.mk (n : Int) (by simp) ?_
  by_cases hin : i < n
  · refine SCmp.yes (decide_eq_true (by omega)) ?_
    refine SCall.pure (rzero_ok) ?_
    refine SLoop.mk (Nat × Rat) (fun (k, s) => ([(0, .p (matP m m' n w A)), (1, .p (ratsM m'' (lst w y))), (5, .vec 0 3 0 i), (6, .p (.int .i64 i)), (7, .bptr 1 0), (8, .p (.int .i64 k))], [.vec 37 3 (rats (lst i (apl w A y))), .box 37 (bxQ s)]))
      (fun (k, s) => k ≤ w ∧ s = sm k fun k => A i k * y k) (fun x => w - x.1) (0, 0) [0, 1] ⟨Nat.zero_le _, rfl⟩ ⟨rfl, by simp, rfl, rfl, rfl, ⟨rfl, rfl, rfl, rfl, rfl, rfl, trivial⟩, ⟨rfl, rfl, trivial⟩⟩ ?_
    intro ⟨k, s⟩ ⟨hk, hs⟩
    have zs : Bz s (k * (a + b + 1) + 1) := by rw [hs]; exact apl_bz (fun k hk => hA i k hin hk) hy k hk
    have hkw : k * (a + b + 1) ≤ w * (a + b + 1) := Nat.mul_le_mul_right _ hk
    refine SZ.mk (w : Int) (by simp [lst]) ?_
    by_cases hkn : k < w
    · refine SCmp.yes (decide_eq_true (by omega)) ?_
      have z1 := (hA i k hin hkn).mul (hy k hkn)
      refine SDraw.mkX (by kernel_rfl) ?_
      repeat refine SOp.mk _ _ (And.intro rfl rfl) rfl ?_
      refine SOp.mk _ _ (SIdx.mf i rfl hin (And.intro rfl rfl)) rfl ?_
      repeat refine SOp.mk _ _ (And.intro rfl rfl) rfl ?_
      refine SOp.mk _ _ (SIdx.rf k rfl hkn (And.intro rfl rfl)) rfl ?_
      repeat refine SOp.mk _ _ (And.intro rfl rfl) rfl ?_
      refine SOp.mk _ _ (SIdx.rf k rfl hkn (And.intro rfl rfl)) rfl ?_
      repeat refine SOp.mk _ _ (And.intro rfl rfl) rfl ?_
      refine SOp.mk _ _ (SCall.pure (rmulq_ok _ _ (hA i k hin hkn) (hy k hkn) (by omega)) (And.intro rfl rfl)) rfl ?_
      refine SOp.mk _ _ (SCall.pure (raddq_ok _ _ zs z1 (by omega)) (And.intro rfl rfl)) rfl ?_
      repeat refine SOp.mk _ _ (And.intro rfl rfl) rfl ?_
      refine SFin.mk (by kernel_rfl) ?_
      refine SWrap.i64z ((k + 1 : Nat) : Int) (by omega) (by omega) ?_
      exact ⟨(k + 1, _), [0, 1], ⟨hkn, by rw [hs]; rfl⟩, by show w - (k + 1) < w - k; omega, ⟨rfl, by simp, rfl, rfl, rfl, ⟨rfl, rfl, rfl, rfl, rfl, rfl, trivial⟩, ⟨rfl, rfl, trivial⟩⟩⟩
    · refine SCmp.no (decide_eq_false (by omega)) ?_
      obtain rfl : k = w := by omega
      refine SEqN.mk (by simp [lst]) <| SView.all rfl <| SRoom.mk (by simp [lst]; omega) (by simp [lst]; omega) <| SEs.mk (rats (lst (i + 1) (apl k A y))) (app_lst _ _ _ (hs)) <| SZN.mk (i + 1) (by simp [lst]) ?_
      refine SWrap.i64z ((i + 1 : Nat) : Int) (by omega) (by omega) ?_
      exact ⟨i + 1, [3], hin, by show n - (i + 1) < n - i; omega, ⟨rfl, by simp, rfl, rfl, rfl, ⟨rfl, rfl, rfl, rfl, trivial⟩, ⟨rfl, trivial⟩⟩⟩
  · refine SCmp.no (decide_eq_false (by omega)) ?_
    obtain rfl : i = n := by omega
    exact SRet.pure (frzR (h := 0) (l := lst i (apl w A y)) rfl (by simp [lst]))
theorem sm_comm {F : Nat → Nat → Rat} {m : Nat} : ∀ n, sm n (fun i => sm m fun j => F i j) = sm m fun j => sm n fun i => F i j := by
  intro n
  induction n with
  | zero => show (0 : Rat) = sm m fun _ => 0; exact (sm_zero fun _ _ => rfl).symm
  | succ n ih =>
    show sm n _ + sm m _ = sm m fun j => sm n (fun i => F i j) + F n j
    rw [ih, sm_add (fun j => sm n fun i => F i j) (fun j => F n j)]
end Go.Proofs.Ytkaooejeljdbnaa

namespace Go.Proofs.Ytkaooejeljdbnaa
open Go
set_option linter.unusedVariables false
set_option linter.unusedSimpArgs false
set_option maxRecDepth 10000
theorem rexpand5_ok (m : Nat → Bool) (g : GV) {b c : Nat} (h : Wf g b c) : CallP Try.prog 49 [genP m g] (.p (matP false false g.n g.n (ent g))) [] := by
  have h8 := h.n6
  refine callG_of_vc (wr := wr0) Γok mixed Try.func49 (by kernel_rfl) rfl (by kernel_rfl) (le_of_ble rfl) (by simp) ?_
  refine SLoop.mkT Nat (fun i => ([(1, .bptr 0 0), (3, .vec 1 1 0 i), (4, .p (.int .i64 i))], [.box 59 (genA m g), .rows 25 (plc 2 g.n i id), .pool 37 3 (plr i g.n (ent g))]))
    (fun i => i ≤ g.n) (fun i => g.n - i) 0 [0, 1, 2] _ _ (.rows 3 25 rfl (.pool 37 3 (.done _ _))) (Nat.zero_le _) ⟨rfl, by simp, rfl, rfl, rfl, ⟨rfl, rfl, rfl, trivial⟩, ⟨rfl, rfl, rfl, rows_in fun i hi => absurd hi (Nat.not_lt_zero _), trivial⟩⟩ ?_
  intro i hi
  have hi : i ≤ g.n := hi
  by_cases hin : i < g.n
  · refine SCmp.yes (decide_eq_true (by omega)) ?_
    refine SLoop.mkT Nat (fun j => ([(1, .bptr 0 0), (3, .vec 1 1 0 i), (4, .p (.int .i64 i)), (5, .vec 3 3 0 j), (6, .p (.int .i64 j))], [.box 59 (genA m g), .rows 25 (plc 2 g.n i id), .pool 37 3 (plr i g.n (ent g)), .vec 37 3 (rats (lst j (ent g i)))]))
      (fun j => j ≤ g.n) (fun j => g.n - j) 0 [0, 1, 2, 3] _ _ (.step 5 37 3 rfl (.done _ _)) (Nat.zero_le _) ⟨rfl, by simp, rfl, rfl, rfl, ⟨rfl, rfl, rfl, rfl, rfl, trivial⟩, ⟨rfl, congrArg _ (plc_ren 2 rfl (by decide)), rfl, rfl, rows_in fun i hi => by simpa [plenAt] using hi, trivial⟩⟩ ?_
    intro j hj
    have hj : j ≤ g.n := hj
    by_cases hjn : j < g.n
    · refine SCmp.yes (decide_eq_true (by omega)) ?_
      refine SCall.pure (rentry5_ok m g h i j hin hjn) ?_
      refine SEqN.mk (by simp [lst]) <| SView.all rfl <| SRoom.mk (by simp [lst]; omega) (by simp [lst]; omega) <| SEs.mk (rats (lst (j + 1) (ent g i))) (app_lst _ _ _ (rfl)) <| SZN.mk (j + 1) (by simp [lst]) ?_
      refine SWrap.i64z ((j + 1 : Nat) : Int) (by omega) (by omega) ?_
      exact ⟨j + 1, [0, 1, 2, 5], hjn, by show g.n - (j + 1) < g.n - j; omega, ⟨rfl, by simp, rfl, rfl, rfl, ⟨rfl, rfl, rfl, rfl, rfl, trivial⟩, ⟨rfl, congrArg _ (plc_ren 2 rfl (by decide)), rfl, rfl, rows_in fun i hi => by simpa [plenAt] using hi, trivial⟩⟩⟩
    · refine SCmp.no (decide_eq_false (by omega)) ?_
      obtain rfl : j = g.n := by omega
      refine SEqN.mk (by simp) ?_
      refine SRoom.mk (by simp; omega) (by simp; omega) ?_
      refine SAs.mk _ rfl ?_
      refine SZN.mk (i + 1) (by simp) ?_
      refine SWrap.i64z ((i + 1 : Nat) : Int) (by omega) (by omega) ?_
      exact ⟨i + 1, [0, 5, 4002], hin, by show g.n - (i + 1) < g.n - i; omega, ⟨rfl, by simp, rfl, rfl, rfl, ⟨rfl, rfl, rfl, trivial⟩, ⟨rfl, congrArg _ (plc_absorb rfl (by decide) (by simp [plenAt])), ⟨_, _, _, _, rfl, rfl, congrArg _ plr_snoc⟩, rows_in fun i hi => by simpa [plenAt] using hi, trivial⟩⟩⟩
  · refine SCmp.no (decide_eq_false (by omega)) ?_
    obtain rfl : i = g.n := by omega
    exact SRet.pure (frzM (H := [_, _, _]) (h := 1) (p := 2) rfl rfl fun i hi => hi)
end Go.Proofs.Ytkaooejeljdbnaa

namespace Go.Proofs.Ytkaooejeljdbnaa
open Go
set_option linter.unusedVariables false
set_option linter.unusedSimpArgs false
set_option maxRecDepth 10000
theorem ent5 {g : GV} (h : g.k = 5) (i k : Nat) : ent g i k = cauM g.A g.B i k := by
  unfold ent; rw [if_neg (by omega), if_neg (by omega), if_neg (by omega), if_neg (by omega), if_pos h]
theorem CauG.bEnt5 {g : GV} {b c : Nat} (h : CauG g b c) {i k : Nat} (hi : i < g.n) (hk : k < g.n) : Bz (ent g i k) 203 := by
  rw [ent5 h.k5]; exact (bz_one.div (h.dab hi hk)).mono (by omega)
theorem CauG.det {g : GV} {b c : Nat} (h : CauG g b c) : (elim g.n (ent g) g.n).det = cDet g.A g.B g.n := by
  rw [(elim_congr (fun i k _ _ => ent5 h.k5 i k) g.n (Nat.le_refl _)).1, cau_det fun i k hi hk => h.nab hi hk]
theorem cauSolves_ok (m m' : Bool) (n : Int) (ns bs : List Int) (hn : I64 n) (hns : I64s ns) (hbs : I64s bs) : CallP Try.prog 11 [.int .i64 n, .sl m 1 (intsP ns), .sl m' 1 (intsP bs)] (.p (.bool true)) [] := by
  have hm := lmake13_ok m n 5 ns false hn hns (by omega) (by omega)
  have H := cauG13 n 5 ns (by omega) (by omega)
  rw [if_neg (by decide)] at hm
  generalize g13 (mkG 5 (gmN n 5) (gmR 5 n) (rowG ns)) ns = g at hm H
  have h6 := H.n6
  have hE := rexpand5_ok noF g H.toWf
  refine callG_of_vc (wr := wr0) Γok mixed Try.func11 (by kernel_rfl) rfl (by kernel_rfl) (le_of_ble rfl) (by simp) ?_
  refine SCall.pure (known15_ok) ?_
  refine SCmp.no (rfl) ?_
  refine SCall.pure (hm) ?_
  refine SCall.pure (row2_ok m' bs hbs g.n (by omega)) ?_
  obtain ⟨y, hy⟩ : ∃ y, y = rowG bs := ⟨_, rfl⟩
  have zy : ∀ i, i < g.n → Bz (y i) 5 := fun i _ => by rw [hy]; exact rowG_bz bs i
  rw [← hy]
  by_cases ht : Inj g.A g.n ∧ Inj g.B g.n
  · have z1 : ∀ i k, i < g.n → k < g.n → Bz (ent g i k) 203 := fun i k hi hk => H.bEnt5 hi hk
    have z2 : ∀ i k, i < g.n → k < g.n → Bz (cuM g i k) 5400 := fun i k hi hk => cuM_bz H hi hk
    have HC := H.cauH ht.1 ht.2
    have z3 : ∀ i, i < g.n → Bz (cuX g y i) 33000 := fun i hi => (apl_bz (A := cuM g) (fun k hk => z2 i k hi hk) zy g.n (Nat.le_refl _)).mono (by omega)
    have hA1 := rapplyM_ok false false false g.n g.n (cuM g) y z2 zy (by omega) (by omega) (by omega)
    have hA2 := rapplyM_ok false false false g.n g.n (ent g) (cuX g y) z1 z3 (by omega) (by omega) (by omega)
    have e2 : lst g.n (apl g.n (ent g) (cuX g y)) = lst g.n y := lst_congr fun i hi => by
      show sm g.n (fun k => ent g i k * sm g.n fun j => cuM g k j * y j) = y i
      have : (fun k => ent g i k * sm g.n fun j => cuM g k j * y j) = fun k => sm g.n fun j => ent g i k * (cuM g k j * y j) := by
        funext k; exact (sm_smul _ _ _).symm
      rw [this, sm_comm]
      have : sm g.n (fun j => sm g.n fun k => ent g i k * (cuM g k j * y j)) = sm g.n fun j => y j * (if j = i then 1 else 0) := sm_congr fun j hj => by
        have e : (fun k => ent g i k * (cuM g k j * y j)) = fun k => y j * (1 / (g.A i - g.B k) * cuF g.A g.B k j g.n) := by
          funext k; rw [ent5 H.k5]; show cauM g.A g.B i k * (cuF g.A g.B k j g.n * y j) = _
          generalize cuF g.A g.B k j g.n = u
          show 1 / (g.A i - g.B k) * _ = _
          generalize 1 / (g.A i - g.B k) = v
          grind
        rw [e, sm_smul, cau_undo HC hi hj]
        by_cases c : i = j
        · rw [if_pos c, if_pos c.symm]
        · rw [if_neg c, if_neg (Ne.symm c)]
      rw [this, sm_one hi]
    rw [e2] at hA2
    have hR1 := rrows_ok false false (lst g.n (cuX g y)) (lst g.n (apl g.n (cuM g) y)) (Bl.lst z3) (Bl.lst z3) (by decide) (by rw [lst_length]; omega)
    rw [decide_eq_true (show lst g.n (cuX g y) = lst g.n (apl g.n (cuM g) y) from rfl)] at hR1
    have hR2 := rrows_ok false false (lst g.n y) (lst g.n y) (Bl.lst zy) (Bl.lst zy) (by decide) (by rw [lst_length]; omega)
    rw [decide_eq_true rfl] at hR2
    refine SCall.pureT (csolve_ok noF false g H ht.1 ht.2 y (fun i hi => (zy i hi).mono (by omega))) (fun _ => rfl) ?_
    refine SCall.pureT (cinv_ok noF g H ht.1 ht.2) (fun _ => rfl) ?_
    refine SCmp.no (rfl) ?_
    refine SCmp.no (rfl) ?_
    refine SZ.mk (g.n : Int) (by simp) ?_
    refine SCmp.no (neF rfl) ?_
    refine SLoop.mk Nat (fun i => ([(7, .bptr 0 0), (8, .p (ratsM false (lst g.n y))), (9, .p (ratsM false (lst g.n (cuX g y)))), (11, .p (matP false false g.n g.n (cuM g))), (13, .p (.int .i64 i))], [.box 59 (genA noF g)]))
      (fun i => i ≤ g.n) (fun i => g.n - i) 0 [0] (Nat.zero_le _) ⟨rfl, by simp, rfl, rfl, rfl, ⟨rfl, rfl, rfl, rfl, rfl, trivial⟩, ⟨rfl, trivial⟩⟩ ?_
    intro i hi
    have hi : i ≤ g.n := hi
    by_cases hin : i < g.n
    · refine SCmp.yes (decide_eq_true (by omega)) ?_
      refine SDraw.mk (by kernel_rfl) ?_
      repeat refine SOp.mk _ _ (And.intro rfl rfl) rfl ?_
      refine SOp.mk _ _ (SIdx.mf i rfl hin (And.intro rfl rfl)) rfl ?_
      repeat refine SOp.mk _ _ (And.intro rfl rfl) rfl ?_
      refine SOp.mk _ _ (SZ.mk (g.n : Int) (by simp [lst]) (And.intro rfl rfl)) rfl ?_
      repeat refine SOp.mk _ _ (And.intro rfl rfl) rfl ?_
      refine SOp.mk _ _ (SCmp.no (neF rfl) (And.intro rfl rfl)) rfl ?_
      refine SWrap.i64z ((i + 1 : Nat) : Int) (by omega) (by omega) ?_
      exact ⟨i + 1, [0], hin, by show g.n - (i + 1) < g.n - i; omega, ⟨rfl, by simp, rfl, rfl, rfl, ⟨rfl, rfl, rfl, rfl, rfl, trivial⟩, ⟨rfl, trivial⟩⟩⟩
    · refine SCmp.no (decide_eq_false (by omega)) ?_
      obtain rfl : i = g.n := by omega
      refine SCall.pure (hA1) ?_
      refine SCall.pure (hR1) ?_
      refine SCond.mk (fun _ => ?_) (fun h => by cases h)
      refine SCall.pure (hE) ?_
      refine SCall.pure (hA2) ?_
      refine SCall.pure (hR2) ?_
      exact SRet.pure (.p _ (.bool _))
  · refine SCall.pureT (csolveOne_ok noF false g H y ht) (fun _ => rfl) ?_
    refine SCall.pureT (cinvOne_ok noF g H ht) (fun _ => rfl) ?_
    refine SCmp.yes (rfl) ?_
    refine SCmp.yes (rfl) ?_
    refine SCmp.yes (rfl) ?_
    exact SRet.pure (.tf _)
end Go.Proofs.Ytkaooejeljdbnaa

namespace Go.Proofs.Ytkaooejeljdbnaa
open Go Go.ChangeShapes Go.WideShapes Go.ChangeAt Go.RowKit Go.WideElems
set_option linter.unusedVariables false
set_option linter.unusedSimpArgs false
theorem Try.own : ownKnob Try.prog.godebug = none := by kernel_rfl
theorem Try.laidOut : laidOutB Try.prog = true := by kernel_rfl
theorem Try.cells3 : Try.prog.cellsOf 3 = 1 := by kernel_rfl
abbrev oldF (W : World) : Nat → Prop := fun b => b < W.heap.size
theorem law_call {P : Program} {f : FuncId} {pvs : List PV} (hc : CallP P f pvs (.p (.bool true)) []) {W : World} {vs : List Value} (hl : vs.length = pvs.length) (hv : ∀ (i : Nat) p v, pvs[i]? = some p → vs[i]? = some v → PR W (FBof noBor (oldF W)) p v) :
    Calls P f vs.toArray W fun e W' => e = .returned (.bool true) ∧ Below W.heap.size W W' := by
  refine (hc.run W (oldF W) noBor (fun _ => (none, 0)) vs ⟨by simp [hl], fun i a v e1 e2 => ?_, fun h => by rw [look_nil]; trivial, fun b h => h, fun b h => h.elim, fun h b hl => ?_, fun h h' b hl => ?_, fun a ha k hk => ?_, fun h k hk => ?_⟩).mono ?_
  · rw [List.getElem?_map] at e1
    cases hp : pvs[i]? with
    | none => rw [hp] at e1; cases e1
    | some p => rw [hp] at e1; cases e1; exact .p (hv i p v hp e2)
  · rw [look_nil] at hl; exact hl.elim
  · rw [look_nil] at hl; exact hl.elim
  · obtain ⟨p, _, rfl⟩ := List.mem_map.1 ha; simp only [AV.men] at hk
  · rw [look_nil] at hk; exact hk.elim
  · intro e W' ⟨v, F', β', he, hr⟩
    subst he
    refine ⟨?_, hr.os, hr.tape, hr.output, hr.size, fun b hb => hr.same b hb fun h hl => ?_⟩
    · have := hr.rel
      cases this with | p h => cases h; rfl
    · rw [look_nil] at hl; exact hl.elim
section
variable {H : Type} {enc : TypeId × Value → H} {P : Program} {W : World} {base : Nat} {sp : Nat → Bool} {held : Bool}
theorem openInt {t : TypeId} {r : Go.Reach} {b0 : Nat} {v : Value} {d : DataW H} {ps : List MemPlace} (ht : P.underlying t = some (.int .i64)) (hval : Value.okWide P W r b0 t v) (hd : DataW.Trod enc P W base sp held t v d ps) :
    ∃ n, v = .int .i64 n ∧ I64 n := by
  obtain ⟨n, h1, h2, h3, h4⟩ := open_int ht hval hd
  refine ⟨n, h1, ?_⟩
  simp [Lit.wf, IntKind.min, IntKind.max, IntKind.signed, IntKind.bits] at h4
  exact ⟨by omega, by omega⟩
theorem openInts {t e : TypeId} {r : Go.Reach} {b0 : Nat} {v : Value} {d : DataW H} {ps : List MemPlace} (ht : P.underlying t = some (.slice e)) (he : P.underlying e = some (.int .i64)) (hc : P.cellsOf e = 1) (hval : Value.okWide P W r b0 t v)
    (hd : DataW.Trod enc P W base sp held t v d ps) (hlt : ∀ x ∈ ps, x.block < W.heap.size) : ∃ zs : List Int, I64s zs ∧ PR W (FBof noBor (oldF W)) (.sl false 1 (intsP zs)) v := by
  obtain ⟨a0, len, cap, rfl⟩ := okWide_slice ht hval
  obtain ⟨fuel, hf⟩ := hd
  rcases open_ints ht he hc hf with ⟨hcs, hx⟩ | ⟨a, len', cap', zs, hcs, _, hl, hm, hz, hx, hcell, hwz⟩
  · simp [Value.cells] at hcs
    obtain ⟨rfl, rfl, rfl⟩ := hcs
    exact ⟨[], fun i => by simp [I64], .nil _ _ _⟩
  · simp [Value.cells] at hcs
    obtain ⟨rfl, rfl, rfl⟩ := hcs
    simp only [Prod.mk.injEq] at hx
    obtain ⟨_, rfl⟩ := hx
    have hlen : len ≤ zs.length := by rw [hz]; split <;> omega
    have hspot : a.spot = none := by
      simp only [Value.okWide, ht, Cell.okWide] at hval
      simp [Cell.ok, World.has] at hval
      first | exact hval.1.2.1 | exact hval.2.1 | (have := hval; simp_all)
    obtain ⟨b, off, spot⟩ := a
    simp only at hspot
    subst hspot
    refine ⟨zs.take len, fun i => ?_, ?_⟩
    · by_cases hi : i < (zs.take len).length
      · have hm : (zs.take len).getD i 0 ∈ zs := by
          have : (zs.take len).getD i 0 = (zs.take len)[i] := by simp only [List.getD, List.getElem?_eq_getElem hi, Option.getD_some]
          rw [this]
          exact List.mem_of_mem_take (List.getElem_mem hi)
        have h4 := hwz _ hm
        generalize (zs.take len).getD i 0 = q at h4 ⊢
        simp [Lit.wf, IntKind.min, IntKind.max, IntKind.signed, IntKind.bits] at h4
        exact ⟨by omega, by omega⟩
      · rw [getD_ge _ 0 (by omega)]; simp [I64]
    · have hll : (intsP (zs.take len)).length = len := by simp; omega
      have h := PR.sl (w := W) (FB := FBof noBor (oldF W)) false 1 (intsP (zs.take len)) b off cap (fun i _ => .int .i64 (zs.getD i 0)) (by rw [hll]; exact hl) (fun hne => ?_) (fun e he => ?_) (fun e he c hc => ?_) (fun i e j c e1 e2 => ?_) (fun i e j c e1 e2 => ?_)
      · rw [hll] at h; exact h
      · have hpos : 0 < zs.length := by
          rcases Nat.eq_zero_or_pos zs.length with h0 | h0
          · exact (hne (by rw [List.length_eq_zero_iff.1 h0]; simp)).elim
          · exact h0
        exact hlt (.cell b off) (MemPlace.mem_row.2 ⟨0, hpos, by simp⟩)
      · obtain ⟨z, _, rfl⟩ := List.mem_map.1 he; rfl
      · obtain ⟨z, _, rfl⟩ := List.mem_map.1 he
        have hc : c ∈ [PV.int .i64 z] := hc
        simp at hc; subst hc; rfl
      all_goals
        have hi : i < len := by have := (List.getElem?_eq_some_iff.1 e1).1; rwa [hll] at this
        have he : e = .int .i64 (zs.getD i 0) := by
          rw [List.getElem?_map, List.getElem?_take_of_lt hi, List.getElem?_eq_getElem (show i < zs.length by omega)] at e1
          simp at e1
          simp [List.getD, show i < zs.length by omega, ← e1]
        subst he
        have hj : j = 0 := by
          have := (List.getElem?_eq_some_iff.1 e2).1
          simpa [PV.cells] using this
        subst hj
        first
          | (have := hcell i (by omega)
             rw [show off + i * 1 + 0 = off + i by omega]
             rwa [Addr.add_lit] at this)
          | (have hcv : c = .int .i64 (zs.getD i 0) := by simpa [PV.cells] using e2.symm
             subst hcv
             exact .int _ _)
end
end Go.Proofs.Ytkaooejeljdbnaa

