/- FSTri: what its proof needs, part 6. -/
import Derived.Test.YtkaooejeljdbnaaGreatHSTri5
set_option linter.unusedVariables false
set_option linter.unusedSimpArgs false
namespace Go.Proofs.YtkaooejeljdbnaaGreat
open Go
set_option linter.unusedVariables false
set_option linter.unusedSimpArgs false
set_option maxRecDepth 10000
def trL (r : Nat → Rat) (n i j : Nat) : Rat := if i = j then 1 else if j < i then r (i * n + j) else 0
def trU (r : Nat → Rat) (n i j : Nat) : Rat := if j < i then 0 else r (i * n + j)
/-- A row of the lower one, before its one is there. -/
def trA (r : Nat → Rat) (n i j : Nat) : Rat := if j < i then r (i * n + j) else 0
theorem upd_row {n j : Nat} {f : Nat → Rat} {v : Rat} (h : j < n) (hv : v = f j) : ((fl n fun k => if k < j then ratP (f k) else rat0).set (j + 0) (ratP 0)).set (j + 0) (ratP v) = fl n fun k => if k < j + 1 then ratP (f k) else rat0 := by
  rw [hv, List.set_set]; exact row_step h
theorem trl_one {r : Nat → Rat} {n i : Nat} : (fl n fun k => if k < n then ratP (trA r n i k) else rat0).set (i + 0) (ratP 1) = rats (lst n (trL r n i)) := by
  rw [fl_set, rats, lst_fl, fl_map]
  refine fl_congr fun k hk => ?_
  simp only [upd, trA, trL, Nat.add_zero]
  by_cases e : k = i
  · rw [if_pos e, if_pos e.symm]
  · rw [if_neg e, if_neg (Ne.symm e), if_pos hk]
theorem zrow_step {n j : Nat} {f : Nat → Rat} (h : j < n) (hv : f j = 0) : (fl n fun k => if k < j then ratP (f k) else rat0).set (j + 0) (ratP 0) = fl n fun k => if k < j + 1 then ratP (f k) else rat0 := by
  rw [← hv]; exact row_step h
set_option maxHeartbeats 2000000 in
theorem triangles_ok (m : Bool) (ns : List Int) (hns : I64s ns) (n : Nat) (h1 : 1 ≤ n) (hn : n ≤ 6) :
    CallP Tryz.prog 51 [.int .i64 n, .sl m 1 (intsP ns)] (.tup [.p (matP false false n n (trL (rowG ns) n)), .p (matP false false n n (trU (rowG ns) n))]) [] := by
  have hnn : n * n ≤ 36 := Nat.mul_le_mul hn hn
  obtain ⟨r, hr⟩ : ∃ r, r = rowG ns := ⟨_, rfl⟩
  have hrow := row2_ok m ns hns (n * n) (by omega)
  rw [← hr] at hrow ⊢
  refine callG_of_vc (wr := wr0) Γok mixed Tryz.func51 (by kernel_rfl) rfl (by kernel_rfl) (le_of_ble rfl) (by simp) ?_
  refine SWrap.i64z ((n * n : Nat) : Int) (by simp) (by omega) ?_
  refine SCall.pure (hrow) ?_
  refine SLoop.mkT Nat (fun i => ([(0, .p (.int .i64 n)), (6, .p (ratsM false (lst (n * n) r))), (7, .vec 0 1 0 i), (8, .vec 2 1 0 i), (9, .p (.int .i64 i))], [.rows 24 (plc 1 n i id), .pool 33 3 (plr i n (trL r n)), .rows 24 (plc 3 n i id), .pool 33 3 (plr i n (trU r n))]))
    (fun i => i ≤ n) (fun i => n - i) 0 [0, 1, 2, 3] _ _ (.rows 7 24 rfl (.pool 33 3 (.rows 8 24 rfl (.pool 33 3 (.done _ _))))) (Nat.zero_le _) ⟨rfl, by simp, rfl, rfl, rfl, ⟨rfl, rfl, rfl, rfl, rfl, trivial⟩, ⟨rfl, rfl, rfl, rfl, rows_in fun i hi => absurd hi (Nat.not_lt_zero _), rows_in fun i hi => absurd hi (Nat.not_lt_zero _), trivial⟩⟩ ?_
  intro i hi
  have hi : i ≤ n := hi
  by_cases hin : i < n
  · refine SCmp.yes (decide_eq_true (by omega)) ?_
    have hi1 : i * n + n ≤ n * n := by have := Nat.mul_le_mul_right n (show i + 1 ≤ n from hin); rw [Nat.succ_mul] at this; exact this
    refine SDraw.mkX (by kernel_rfl) ?_
    repeat refine SOp.mk _ _ (And.intro rfl rfl) rfl ?_
    refine SOp.mk _ _ (SZ.mk (n : Int) rfl <| SLt.mk (by simp) <| SMake.rat n rfl (by omega) (And.intro rfl rfl)) rfl ?_
    repeat refine SOp.mk _ _ (And.intro rfl rfl) rfl ?_
    refine SOp.mk _ _ (SZ.mk (n : Int) rfl <| SLt.mk (by simp) <| SMake.rat n rfl (by omega) (And.intro rfl rfl)) rfl ?_
    repeat refine SOp.mk _ _ (And.intro rfl rfl) rfl ?_
    refine SFin.mk (by kernel_rfl) ?_
    refine SLoop.mk Nat (fun j => ([(0, .p (.int .i64 n)), (6, .p (ratsM false (lst (n * n) r))), (7, .vec 0 1 0 i), (8, .vec 2 1 0 i), (9, .p (.int .i64 i)), (10, .vec 4 3 0 n), (11, .vec 5 3 0 n), (12, .p (.int .i64 j))], [.rows 24 (plc 1 n i id), .pool 33 3 (plr i n (trL r n)), .rows 24 (plc 3 n i id), .pool 33 3 (plr i n (trU r n)), .vec 33 3 (fl n fun k => if k < j then ratP (trA r n i k) else rat0), .vec 33 3 (fl n fun k => if k < j then ratP (trU r n i k) else rat0)]))
      (fun j => j ≤ n) (fun j => n - j) 0 [0, 1, 2, 3, 4, 5] (Nat.zero_le _) ⟨rfl, by simp, rfl, rfl, rfl, ⟨rfl, rfl, rfl, rfl, rfl, rfl, rfl, rfl, trivial⟩, ⟨congrArg _ (plc_ren 1 rfl (by decide)), rfl, congrArg _ (plc_ren 3 rfl (by decide)), rfl, congrArg _ ((fl_congr fun k hk => if_neg (by omega)).trans (replicate_fl n rat0).symm), congrArg _ ((fl_congr fun k hk => if_neg (by omega)).trans (replicate_fl n rat0).symm), rows_in fun q hq => by simpa [plenAt] using hq, rows_in fun q hq => by simpa [plenAt] using hq, trivial⟩⟩ ?_
    intro j hj
    have hj : j ≤ n := hj
    by_cases hjn : j < n
    · refine SCmp.yes (decide_eq_true (by omega)) ?_
      refine SCall.pure (rzero_ok) ?_
      refine SCall.pure (rzero_ok) ?_
      refine SPos.mk j rfl hjn ?_
      refine SLt.mk (by simp; omega) ?_
      by_cases hji : j < i
      · refine SEs.mk _ rfl ?_
        refine SPos.mk j rfl hjn ?_
        refine SLt.mk (by simp; omega) ?_
        refine SEs.mk _ (zrow_step hjn (if_pos hji)) ?_
        refine SCmp.yes (decide_eq_true (by omega)) ?_
        refine SWrap.i64z ((i * n : Nat) : Int) (by simp) (by omega) ?_
        refine SWrap.i64z ((i * n + j : Nat) : Int) (by simp) (by omega) ?_
        refine SIdx.rf (i * n + j) rfl (by omega) ?_
        refine SPos.mk j rfl hjn ?_
        refine SLt.mk (by simp; omega) ?_
        refine SEs.mk _ (upd_row (f := trA r n i) hjn (if_pos hji).symm) ?_
        refine SWrap.i64z ((j + 1 : Nat) : Int) (by omega) (by omega) ?_
        exact ⟨j + 1, [0, 1, 2, 3, 4, 5], hjn, by show n - (j + 1) < n - j; omega, ⟨rfl, by simp, rfl, rfl, rfl, ⟨rfl, rfl, rfl, rfl, rfl, rfl, rfl, rfl, trivial⟩, ⟨congrArg _ (plc_ren 1 rfl (by decide)), rfl, congrArg _ (plc_ren 3 rfl (by decide)), rfl, rfl, rfl, rows_in fun q hq => by simpa [plenAt] using hq, rows_in fun q hq => by simpa [plenAt] using hq, trivial⟩⟩⟩
      · refine SEs.mk _ (zrow_step hjn (if_neg hji)) ?_
        refine SPos.mk j rfl hjn ?_
        refine SLt.mk (by simp; omega) ?_
        refine SEs.mk _ rfl ?_
        refine SCmp.no (decide_eq_false (by omega)) ?_
        refine SWrap.i64z ((i * n : Nat) : Int) (by simp) (by omega) ?_
        refine SWrap.i64z ((i * n + j : Nat) : Int) (by simp) (by omega) ?_
        refine SIdx.rf (i * n + j) rfl (by omega) ?_
        refine SPos.mk j rfl hjn ?_
        refine SLt.mk (by simp; omega) ?_
        refine SEs.mk _ (upd_row (f := trU r n i) hjn (if_neg hji).symm) ?_
        refine SWrap.i64z ((j + 1 : Nat) : Int) (by omega) (by omega) ?_
        exact ⟨j + 1, [0, 1, 2, 3, 4, 5], hjn, by show n - (j + 1) < n - j; omega, ⟨rfl, by simp, rfl, rfl, rfl, ⟨rfl, rfl, rfl, rfl, rfl, rfl, rfl, rfl, trivial⟩, ⟨congrArg _ (plc_ren 1 rfl (by decide)), rfl, congrArg _ (plc_ren 3 rfl (by decide)), rfl, rfl, rfl, rows_in fun q hq => by simpa [plenAt] using hq, rows_in fun q hq => by simpa [plenAt] using hq, trivial⟩⟩⟩
    · refine SCmp.no (decide_eq_false (by omega)) ?_
      obtain rfl : n = j := by omega
      refine SCall.pure (rint_ok 1 (by decide)) ?_
      have one_eq : ((1 : Int) : Rat) = 1 := rfl
      rw [one_eq]
      refine SPos.mk i rfl hin ?_
      refine SLt.mk (by simp; omega) ?_
      refine SEs.mk _ trl_one ?_
      refine SEqN.mk (by simp) ?_
      refine SRoom.mk (by simp; omega) (by simp; omega) ?_
      refine SAs.mk _ rfl ?_
      refine SZN.mk (i + 1) (by simp) ?_
      refine SEqN.mk (by simp) ?_
      refine SRoom.mk (by simp; omega) (by simp; omega) ?_
      refine SAs.mk _ rfl ?_
      refine SZN.mk (i + 1) (by simp) ?_
      refine SWrap.i64z ((i + 1 : Nat) : Int) (by omega) (by omega) ?_
      exact ⟨i + 1, [7, 5001, 9, 6003], hin, by show n - (i + 1) < n - i; omega, ⟨rfl, by simp, rfl, rfl, rfl, ⟨rfl, rfl, rfl, rfl, rfl, trivial⟩, ⟨congrArg _ (plc_absorb (p' := 1) (q := 4) (c := n) (k := i) rfl (by decide) (by simp [plenAt])), ⟨_, _, _, _, rfl, rfl, congrArg _ plr_snoc⟩, congrArg _ (plc_absorb (p' := 3) (q := 5) (c := n) (k := i) rfl (by decide) (by simp [plenAt])), ⟨_, _, _, _, rfl, rfl, congrArg _ (plr_snoc.trans (congrArg (fun x => plr i n (trU r n) ++ [some x]) row_full'))⟩, rows_in fun q hq => by simpa [plenAt] using hq, rows_in fun q hq => by simpa [plenAt] using hq, trivial⟩⟩⟩
  · refine SCmp.no (decide_eq_false (by omega)) ?_
    obtain rfl : n = i := by omega
    refine SRet.pure (.tup rfl fun a c d e1 e2 => ?_)
    match a, e1, e2 with
    | 0, e1, e2 => cases e1; cases e2; exact frzM (h := 0) (p := 1) rfl rfl fun q hq => hq
    | 1, e1, e2 => cases e1; cases e2; exact frzM (h := 2) (p := 3) rfl rfl fun q hq => hq
end Go.Proofs.YtkaooejeljdbnaaGreat

namespace Go.Proofs.YtkaooejeljdbnaaGreat
open Go
set_option linter.unusedVariables false
set_option maxRecDepth 10000
theorem sb_congr {a a' x : Nat → Rat} {s : Rat} {lo : Nat} : ∀ d, (∀ j, lo ≤ j → j < lo + d → a j = a' j) → sb a x s lo d = sb a' x s lo d := by
  intro d
  induction d with
  | zero => intro _; rfl
  | succ d ih =>
    intro h
    simp only [sb]
    rw [ih fun j h1 h2 => h j h1 (by omega), h (lo + d) (by omega) (by omega)]
theorem ux_bk {U : Nat → Nat → Rat} {b : Nat → Rat} {n : Nat} : ∀ t, t ≤ n → uxF U b n t = bk (augM n U b) n t := by
  intro t
  induction t with
  | zero => intro _; rfl
  | succ t ih =>
    intro ht
    simp only [uxF, bk]
    rw [ih (by omega)]
    have e1 : augM n U b (n - 1 - t) n = b (n - 1 - t) := if_neg (Nat.lt_irrefl n)
    have e2 : augM n U b (n - 1 - t) (n - 1 - t) = U (n - 1 - t) (n - 1 - t) := if_pos (by omega)
    rw [e1, e2, sb_congr (a := U (n - 1 - t)) (a' := augM n U b (n - 1 - t)) t fun j h1 h2 => (if_pos (by omega)).symm]
theorem gs_up {U : Nat → Nat → Rat} {n : Nat} (hu : ∀ i j, i < n → j < i → U i j = 0) : ∀ k, k ≤ n → ∀ i j, i < n → j < n → gs U k i j = U i j := by
  intro k
  induction k with
  | zero => exact fun _ i j _ _ => rfl
  | succ k ih =>
    intro hk i j hi hj
    have ih := ih (by omega)
    by_cases c : k < i ∧ k ≤ j
    · rw [gs_gt c.1 c.2, ih i j hi hj, ih i k hi (by omega), hu i k hi c.1]; grind
    · rw [gs_le (by omega)]; exact ih i j hi hj
theorem piv_up {U : Nat → Nat → Rat} {n : Nat} (hu : ∀ i j, i < n → j < i → U i j = 0) {t : Nat} (ht : t < n) : piv U t = U t t := gs_up hu t (by omega) t t ht ht
theorem det_up {U : Nat → Nat → Rat} {n K : Nat} (hu : ∀ i j, i < n → j < i → U i j = 0) (hK : K < n) (hp : ∀ t, t < K → U t t ≠ 0) (hz : U K K = 0) : (elim n U n).det = 0 := by
  apply Classical.byContradiction
  intro hd
  have h0 := lead_zero (A := U) (k := K) (fun t ht => by rw [piv_up hu (by omega)]; exact hp t ht) (by rw [piv_up hu hK]; exact hz)
  obtain ⟨v, ⟨k, hk, hv⟩, hker⟩ := ker0 h0
  have : Ker n n U fun k => if k < K + 1 then v k else 0 := fun i hi => by
    obtain ⟨d, hd⟩ : ∃ d, n = (K + 1) + d := ⟨n - (K + 1), by omega⟩
    show sm n (fun k => U i k * (if k < K + 1 then v k else 0)) = 0
    have e : sm n (fun k => U i k * (if k < K + 1 then v k else 0)) = sm (K + 1) (fun k => U i k * v k) := by
      rw [hd, sm_split, sm_zero (n := d) fun e _ => by rw [if_neg (by omega)]; exact Rat.mul_zero _, sm_congr (g := fun k => U i k * v k) fun k hk => by rw [if_pos hk]]
      exact Rat.add_zero _
    rw [e]
    by_cases hiK : i < K + 1
    · exact hker i hiK
    · exact sm_zero fun k hk => by rw [hu i k hi (by omega)]; exact Rat.zero_mul _
  have := ker1 hd this k (by omega)
  rw [if_pos hk] at this
  exact hv this
theorem lx_keep {L : Nat → Nat → Rat} {b : Nat → Rat} {i : Nat} : ∀ d, lxF L b (i + 1 + d) i = lxF L b (i + 1) i := by
  intro d
  induction d with
  | zero => rfl
  | succ d ih => rw [← ih, ← Nat.add_assoc]; simp only [lxF]; exact upd_other _ _ (by omega)
theorem lx_keep' {L : Nat → Nat → Rat} {b : Nat → Rat} {i k : Nat} (h : i < k) : lxF L b k i = lxF L b (i + 1) i := by
  obtain ⟨d, rfl⟩ : ∃ d, k = i + 1 + d := ⟨k - (i + 1), by omega⟩
  exact lx_keep d
theorem sb_sm {a x : Nat → Rat} {s : Rat} : ∀ d, sb a x s 0 d + sm d (fun k => a k * x k) = s := by
  intro d
  induction d with
  | zero => show s + 0 = s; grind
  | succ d ih =>
    show (sb a x s 0 d - a (0 + d) * x (0 + d)) + (sm d _ + a d * x d) = s
    rw [Nat.zero_add, ← ih]; grind
theorem lx_ok {L : Nat → Nat → Rat} {b : Nat → Rat} {n : Nat} (h1 : ∀ i, i < n → L i i = 1) (h0 : ∀ i j, i < j → j < n → L i j = 0) : ∀ i, i < n → apl n L (lxF L b n) i = b i := by
  intro i hi
  show sm n (fun k => L i k * lxF L b n k) = b i
  obtain ⟨d, hd⟩ : ∃ d, n = (i + 1) + d := ⟨n - (i + 1), by omega⟩
  have e : sm n (fun k => L i k * lxF L b n k) = sm (i + 1) (fun k => L i k * lxF L b n k) := by
    conv => lhs; rw [hd]
    rw [sm_split, sm_zero (n := d) fun e he => by rw [h0 i (i + 1 + e) (by omega) (by omega)]; exact Rat.zero_mul _]
    rw [← hd]; exact Rat.add_zero _
  rw [e]
  show sm i (fun k => L i k * lxF L b n k) + L i i * lxF L b n i = b i
  have e2 : lxF L b n i = sb (L i) (lxF L b i) (b i) 0 i := by rw [lx_keep' hi]; simp only [lxF]; exact upd_same _ _ _
  rw [h1 i hi, e2, sm_congr (g := fun k => L i k * lxF L b i k) fun k hk => by rw [lx_keep' (show k < n by omega), lx_keep' (show k < i by omega)]]
  have := sb_sm (a := L i) (x := lxF L b i) (s := b i) i
  rw [← this]; grind
def ub : Nat → Nat
  | 0 => 10
  | i + 1 => 10 + (i + 1) * (6 + ub i)
theorem ub_mono {i j : Nat} (h : i ≤ j) : ub i ≤ ub j := by
  induction j with
  | zero => rw [Nat.le_zero.1 h]; exact Nat.le_refl _
  | succ j ih =>
    by_cases e : i = j + 1
    · rw [e]; exact Nat.le_refl _
    · have h1 := ih (by omega)
      have h2 : 1 * (6 + ub j) ≤ (j + 1) * (6 + ub j) := Nat.mul_le_mul_right _ (by omega)
      simp only [ub]; omega
theorem lx_bz {L : Nat → Nat → Rat} {b : Nat → Rat} {n : Nat} (hL : ∀ i j, i < n → j < n → Bz (L i j) 5) (hb : ∀ i, i < n → Bz (b i) 5) : ∀ k, k ≤ n → ∀ i, i < k → Bz (lxF L b k i) (ub i) := by
  intro k
  induction k with
  | zero => exact fun _ i hi => absurd hi (Nat.not_lt_zero _)
  | succ k ih =>
    intro hk i hi
    have ih := ih (by omega)
    simp only [lxF]
    by_cases e : i = k
    · rw [e, upd_same]
      cases k with
      | zero => exact (hb 0 (by omega)).mono (by decide)
      | succ k =>
        have := sb_bz (a := L (k + 1)) (x := lxF L b (k + 1)) (lo := 0) (d := k + 1) (bx := ub k) (hb (k + 1) (by omega)) (fun j _ h => hL (k + 1) j (by omega) (by omega)) (fun j _ h => (ih j (by omega)).mono (ub_mono (by omega)))
        refine this.mono ?_
        simp only [ub]
        have : 5 + ub k + 1 = 6 + ub k := by omega
        rw [this]; omega
    · rw [upd_other _ _ e]; exact ih i (by omega)
theorem ux_bz {U : Nat → Nat → Rat} {b : Nat → Rat} {n : Nat} (hU : ∀ i j, i < n → j < n → Bz (U i j) 5) (hb : ∀ i, i < n → Bz (b i) 5) : ∀ t, t ≤ n → ∀ i, n ≤ i + t → i < n → Bz (uxF U b n t i) (ub (n - 1 - i)) := by
  intro t
  induction t with
  | zero => exact fun _ i h1 h2 => absurd h2 (by omega)
  | succ t ih =>
    intro ht i h1 h2
    have ih := ih (by omega)
    simp only [uxF]
    by_cases e : i = n - 1 - t
    · subst e
      rw [upd_same, show n - 1 - (n - 1 - t) = t by omega]
      have hd := hU (n - 1 - t) (n - 1 - t) h2 h2
      cases t with
      | zero => exact ((hb _ h2).div hd).mono (by decide)
      | succ t =>
        have := sb_bz (a := U (n - 1 - (t + 1))) (x := uxF U b n (t + 1)) (lo := n - (t + 1)) (d := t + 1) (bx := ub t) (hb _ h2) (fun j _ h => hU _ j h2 (by omega)) (fun j h h' => (ih j (by omega) (by omega)).mono (ub_mono (by omega)))
        refine (this.div hd).mono ?_
        simp only [ub]
        have : 5 + ub t + 1 = 6 + ub t := by omega
        rw [this]; omega
    · rw [upd_other _ _ e]; exact ih i (by omega) h2
end Go.Proofs.YtkaooejeljdbnaaGreat

namespace Go.Proofs.YtkaooejeljdbnaaGreat
open Go
set_option linter.unusedVariables false
set_option linter.unusedSimpArgs false
set_option maxRecDepth 10000
theorem SKeys.tkn {b : PV → Bool} {A : Nat → Nat → Rat} {n k : Nat} {K : Prop} (hk : k ≤ n) (hb : ∀ i k : Nat, b (pairP i k) = true) (hK : K) : SKeys b (tkL A n k) K :=
  .mk (fun e he => by obtain ⟨i, j, rfl, _⟩ := tk_mem k hk e he; exact hb _ _) hK
theorem SGet.tk {A : Nat → Nat → Rat} {n i j : Nat} {K : Option PV → Prop} (hji : j < i) (hin : i < n) (hK : K (some (ratP (tkV A i j)))) : SGet (tkL A n n) (pairP i j) K := by
  obtain ⟨a, h1, h2⟩ := tk_get hji hin n (Nat.le_refl _) (show j < n by omega)
  exact .yes a _ h1 (by rw [keq_pair]; exact decide_eq_true ⟨rfl, rfl⟩) h2 hK
theorem SGet.tkno {A : Nat → Nat → Rat} {n i j : Nat} {K : Option PV → Prop} (hij : i ≤ j) (hK : K Option.none) : SGet (tkL A n n) (pairP i j) K :=
  .no (fun e he => by
    obtain ⟨i', j', rfl, _, h3, _⟩ := tk_mem n (Nat.le_refl _) e he
    rw [keq_pair]; exact decide_eq_false fun h => by omega) hK
/-- A matrix that was gone through, lent. -/
abbrev wkP (n : Nat) (A : Nat → Nat → Rat) : PV := .pel true (.agg [.int .i64 (n : Int), .mp true (tabF n (gs A n) (n * n)), .mp true (tkL A n n)])
theorem slower_ok (A : Nat → Nat → Rat) (n i j : Nat) (hi : i < n) (hj : j < n) : CallP Tryz.prog 79 [wkP n A, pairP i j] (.p (ratP (lowM A i j))) [] := by
  have hc := corner_ok i j
  by_cases e : i = j
  · rw [decide_eq_true e] at hc
    have : lowM A i j = 1 := if_pos e
    rw [this]
    refine callG_of_vc (wr := wr0) Γok mixed Tryz.func79 (by kernel_rfl) rfl (by kernel_rfl) (le_of_ble rfl) (by simp) ?_
    refine SCall.pure (hc) ?_
    refine SCond.mk (fun _ => ?_) (fun h => by cases h)
    refine SCall.pure (sone_ok) ?_
    exact SRet.pure (.p _ (pers_rat _ _ _))
  · rw [decide_eq_false e] at hc
    by_cases c : j < i
    · have : lowM A i j = tkV A i j := by unfold lowM; rw [if_neg e, if_pos c]; rfl
      rw [this]
      refine callG_of_vc (wr := wr0) Γok mixed Tryz.func79 (by kernel_rfl) rfl (by kernel_rfl) (le_of_ble rfl) (by simp) ?_
      refine SCall.pure (hc) ?_
      refine SCond.mk (fun h => by cases h) (fun _ => ?_)
      refine SDraw.mkX (by kernel_rfl) ?_
      repeat refine SOp.mk _ _ (And.intro rfl rfl) rfl ?_
      refine SOp.mk _ _ (SKeys.tkn (Nat.le_refl _) (fun _ _ => rfl) <| SGet.tk c hi (And.intro rfl rfl)) rfl ?_
      repeat refine SOp.mk _ _ (And.intro rfl rfl) rfl ?_
      refine SFin.mk (by kernel_rfl) ?_
      exact SRet.pure (.p _ (pers_rat _ _ _))
    · have : lowM A i j = 0 := by unfold lowM; rw [if_neg e, if_neg c]
      rw [this]
      refine callG_of_vc (wr := wr0) Γok mixed Tryz.func79 (by kernel_rfl) rfl (by kernel_rfl) (le_of_ble rfl) (by simp) ?_
      refine SCall.pure (hc) ?_
      refine SCond.mk (fun h => by cases h) (fun _ => ?_)
      refine SDraw.mkX (by kernel_rfl) ?_
      repeat refine SOp.mk _ _ (And.intro rfl rfl) rfl ?_
      refine SOp.mk _ _ (SKeys.tkn (Nat.le_refl _) (fun _ _ => rfl) <| SGet.tkno (by omega) (And.intro rfl rfl)) rfl ?_
      repeat refine SOp.mk _ _ (And.intro rfl rfl) rfl ?_
      refine SFin.mk (by kernel_rfl) ?_
      refine SCall.pure (szero_ok) ?_
      exact SRet.pure (.p _ (pers_rat _ _ _))
theorem supper_ok (A : Nat → Nat → Rat) (n i j : Nat) (hi : i < n) (hj : j < n) : CallP Tryz.prog 80 [wkP n A, pairP i j] (.p (ratP (uppM A i j))) [] := by
  by_cases c : j < i
  · have : uppM A i j = 0 := if_pos c
    rw [this]
    refine callG_of_vc (wr := wr0) Γok mixed Tryz.func80 (by kernel_rfl) rfl (by kernel_rfl) (le_of_ble rfl) (by simp) ?_
    refine SPos.mk 0 rfl (by decide) ?_
    refine SPos.mk 1 rfl (by decide) ?_
    refine SCmp.yes (decide_eq_true (by omega)) ?_
    refine SCall.pure (szero_ok) ?_
    exact SRet.pure (.p _ (pers_rat _ _ _))
  · have : uppM A i j = gs A n i j := by unfold uppM; rw [if_neg c]; exact (gs_row' (by omega)).symm
    rw [this]
    refine callG_of_vc (wr := wr0) Γok mixed Tryz.func80 (by kernel_rfl) rfl (by kernel_rfl) (le_of_ble rfl) (by simp) ?_
    refine SPos.mk 0 rfl (by decide) ?_
    refine SPos.mk 1 rfl (by decide) ?_
    refine SCmp.no (decide_eq_false (by omega)) ?_
    refine SDraw.mkX (by kernel_rfl) ?_
    repeat refine SOp.mk _ _ (And.intro rfl rfl) rfl ?_
    refine SOp.mk _ _ (SKeys.tab (fun _ _ => rfl) <| SGet.tab hi hj (And.intro rfl rfl)) rfl ?_
    repeat refine SOp.mk _ _ (And.intro rfl rfl) rfl ?_
    refine SFin.mk (by kernel_rfl) ?_
    exact SRet.pure (.p _ (pers_rat _ _ _))
theorem smade_ok (f : FuncId) (p : PV) (n : Nat) (F : Nat → Nat → Rat) {b : Nat} (hF : ∀ i j, i < n → j < n → CallP Tryz.prog f [p, pairP i j] (.p (ratP (F i j))) []) (hB : ∀ i j, i < n → j < n → Bz (F i j) b) (hb : b ≤ 1000000) (hn : n ≤ 1000) :
    CallP Tryz.prog 78 [.int .i64 n, .mfn f [p]] (.p (matP false false n n F)) [] := by
  refine callG_of_vc (wr := wr0) Γok mixed Tryz.func78 (by kernel_rfl) rfl (by kernel_rfl) (le_of_ble rfl) (by simp) ?_
  refine SZ.mk (n : Int) rfl ?_
  refine SLt.mk (by simp) ?_
  refine SMake.mk n rfl (by simp; omega) (by omega) ?_
  refine SMk.rows ?_
  refine SZ.mk (n : Int) rfl ?_
  refine SLoop.mkT Nat (fun i => ([(0, .p (.int .i64 n)), (1, .p (.mfn f [p])), (5, .vec 0 1 0 n), (11, .p (.int .i64 n)), (12, .p (.int .i64 i))], [.rows 24 (half 1 n n i), .pool 33 3 (plr i n F)]))
    (fun i => i ≤ n) (fun i => n - i) 0 [0, 1] _ _ (.pool 33 3 (.done _ _)) (Nat.zero_le _) ⟨rfl, by simp, rfl, rfl, rfl, ⟨rfl, rfl, rfl, rfl, rfl, trivial⟩, ⟨congrArg _ half_ren0, rfl, half_in fun i hi => absurd hi (Nat.not_lt_zero _), trivial⟩⟩ ?_
  intro i hi
  have hi : i ≤ n := hi
  by_cases hin : i < n
  · refine SCmp.yes (decide_eq_true (by omega)) ?_
    refine SZ.mk (n : Int) rfl ?_
    refine SLt.mk (by simp) ?_
    refine SMake.rat n rfl (by omega) ?_
    refine SPos.mk i rfl hin ?_
    refine SLt.mk (by simp; omega) ?_
    refine SAs.mk (halq 1 n n i 2) half_set ?_
    refine SPos.mk i rfl hin ?_
    refine SIdxA.mk i _ rfl (halq_get hin) ?_
    refine SZ.mk (n : Int) rfl ?_
    refine SLoop.mk Nat (fun j => ([(0, .p (.int .i64 n)), (1, .p (.mfn f [p])), (5, .vec 0 1 0 n), (6, .p (.int .i64 i)), (11, .p (.int .i64 n)), (12, .p (.int .i64 i)), (24, .p (.int .i64 n)), (25, .p (.int .i64 j))], [.rows 24 (halq 1 n n i 2), .pool 33 3 (plr i n F), .vec 33 3 (fl n fun k => if k < j then ratP (F i k) else rat0)]))
      (fun j => j ≤ n) (fun j => n - j) 0 [0, 1, 2] (Nat.zero_le _) ⟨rfl, by simp, rfl, rfl, rfl, ⟨rfl, rfl, rfl, rfl, rfl, rfl, rfl, rfl, trivial⟩, ⟨congrArg _ (halq_ren 1 2 rfl (by decide) rfl (by decide)), rfl, congrArg _ ((fl_congr fun k hk => if_neg (by omega)).trans (replicate_fl n rat0).symm), halq_in (fun i hi => by simpa [plenAt] using hi) (fun e => by cases e), trivial⟩⟩ ?_
    intro j hj
    have hj : j ≤ n := hj
    by_cases hjn : j < n
    · refine SCmp.yes (decide_eq_true (by omega)) ?_
      have hFij := hF i j hin hjn
      refine SDraw.mkX (by kernel_rfl) ?_
      repeat refine SOp.mk _ _ (And.intro rfl rfl) rfl ?_
      refine SOp.mk _ _ (SPos.mk i rfl hin (And.intro rfl rfl)) rfl ?_
      refine SOp.mk _ _ (SIdxA.mk i _ rfl (halq_get hin) (And.intro rfl rfl)) rfl ?_
      repeat refine SOp.mk _ _ (And.intro rfl rfl) rfl ?_
      refine SOp.mk _ _ (SCall.pure (pvs := [p, pairP i j]) hFij (And.intro rfl rfl)) rfl ?_
      refine SOp.mk _ _ (SCall.pure (szero_ok) (And.intro rfl rfl)) rfl ?_
      refine SOp.mk _ _ (SCall.pure (gcopy_ok (hB i j hin hjn) hb) (And.intro rfl rfl)) rfl ?_
      refine SOp.mk _ _ (SPos.mk j rfl hjn (And.intro rfl rfl)) rfl ?_
      refine SOp.mk _ _ (SLt.mk (by simp; omega) <| SEs.mk _ (row_step hjn) (And.intro rfl rfl)) rfl ?_
      repeat refine SOp.mk _ _ (And.intro rfl rfl) rfl ?_
      refine SFin.mk (by kernel_rfl) ?_
      refine SWrap.i64z ((j + 1 : Nat) : Int) (by omega) (by omega) ?_
      exact ⟨j + 1, [0, 1, 2], hjn, by show n - (j + 1) < n - j; omega, ⟨rfl, by simp, rfl, rfl, rfl, ⟨rfl, rfl, rfl, rfl, rfl, rfl, rfl, rfl, trivial⟩, ⟨congrArg _ (halq_ren 1 2 rfl (by decide) rfl (by decide)), rfl, rfl, halq_in (fun i hi => by simpa [plenAt] using hi) (fun e => by cases e), trivial⟩⟩⟩
    · refine SCmp.no (decide_eq_false (by omega)) ?_
      obtain rfl : j = n := by omega
      refine SWrap.i64z ((i + 1 : Nat) : Int) (by omega) (by omega) ?_
      exact ⟨i + 1, [0, 3001], hin, by show j - (i + 1) < j - i; omega, ⟨rfl, by simp, rfl, rfl, rfl, ⟨rfl, rfl, rfl, rfl, rfl, trivial⟩, ⟨congrArg _ (half_absorb rfl (by decide) (by simp [plenAt])), ⟨_, _, _, _, rfl, rfl, congrArg _ (plr_snoc.trans (congrArg (fun r => plr i j F ++ [some r]) row_full))⟩, half_in fun i hi => by simpa [plenAt] using hi, trivial⟩⟩⟩
  · refine SCmp.no (decide_eq_false (by omega)) ?_
    obtain rfl : i = n := by omega
    exact SRet.pure (frzM (H := [_, _]) (h := 0) (p := 1) (congrArg (Blk.rows _) half_full) rfl fun i hi => hi)
abbrev wrS : FuncId → Bool := fun f => Nat.beq f 77
theorem sfactor_ok (m : Nat → Bool) (g : GV) {b c D : Nat} (h : Wf g b c) (hB : GsB (ent g) g.n D) (hD : 4 * D ≤ 1000000) (hp : ∀ t, t < g.n → piv (ent g) t ≠ 0) :
    CallP Tryz.prog 30 [genP m g] (.tup [.p (matP false false g.n g.n (lowM (ent g))), .p (matP false false g.n g.n (uppM (ent g))), .p (.int .i64 0), .p (.int .i64 0)]) [] := by
  have h6 := h.n6
  have n1 := h.n1
  have zL : ∀ i j, i < g.n → j < g.n → Bz (lowM (ent g) i j) (D + D + 1) := fun i j hi hj => by
    unfold lowM
    split
    · exact bz_one.mono (by omega)
    · split
      · exact ((hB j (by omega) i j hi hj).div (hB j (by omega) j j hj hj)).mono (by omega)
      · exact bz_zero.mono (by omega)
  have zU : ∀ i j, i < g.n → j < g.n → Bz (uppM (ent g) i j) (D + D + 1) := fun i j hi hj => by
    unfold uppM
    split
    · exact bz_zero.mono (by omega)
    · exact (hB i (by omega) i j hi hj).mono (by omega)
  refine callG_of_vc (wr := wrS) Γok mixed Tryz.func30 (by kernel_rfl) rfl (by kernel_rfl) (le_of_ble rfl) (by simp) ?_
  refine SCall.pure (gexpand_ok m g h) ?_
  refine SNil.mk (fun _ => ?_) (fun h => absurd h (by simp; omega))
  refine SCall.news (sof_ok false false g.n (ent g) (by omega)) (fun B hB => by simp only [wkB, List.mem_cons, List.not_mem_nil, or_false] at hB; rcases hB with rfl | rfl | rfl <;> exact fun e => by cases e) ?_
  refine SLoop.mk Nat (fun k => ([(7, .bptr 0 0), (18, .p (.int .i64 g.n)), (19, .p (.int .i64 k))], wkB g.n (tabF g.n (gs (ent g) k) (g.n * g.n)) (tkL (ent g) g.n k)))
    (fun k => k ≤ g.n) (fun k => g.n - k) 0 [1, 2, 3] (Nat.zero_le _) ⟨rfl, by simp, rfl, rfl, rfl, ⟨rfl, rfl, rfl, trivial⟩, ⟨rfl, rfl, rfl, trivial⟩⟩ ?_
  intro k hk
  have hk : k ≤ g.n := hk
  by_cases hkn : k < g.n
  · refine SCmp.yes (decide_eq_true (by omega)) ?_
    refine SCall.three 0 1 2 (step_ok (ent g) g.n k hkn (by omega) (hp k hkn) hB (by omega))
      (by decide) (by decide) (by decide) (by decide) rfl ⟨rfl, fun _ => rfl⟩ ⟨rfl, fun _ => rfl⟩ ⟨rfl, fun _ => rfl⟩
        (fun B hB => by simp only [List.mem_cons, List.not_mem_nil, or_false] at hB; rcases hB with rfl | rfl | rfl <;> exact ⟨fun e => by (cases e), fun e => by (cases e)⟩)
        (fun B hB k hk => by
          simp only [List.mem_cons, List.not_mem_nil, or_false] at hB
          rcases hB with rfl | rfl | rfl
          · simp only [Blk.men, AV.menL, AV.men, or_false, false_or] at hk
            rcases hk with rfl | rfl <;> decide
          · exact hk.elim
          · exact hk.elim)
        (fun B hB => by simp only [List.mem_cons, List.not_mem_nil, or_false] at hB; rcases hB with rfl | rfl | rfl <;> exact fun e => by (cases e))
        (fun a ha k hk => by
          simp only [List.mem_cons, List.not_mem_nil, or_false] at ha
          rcases ha with rfl | rfl
          · simp only [AV.men] at hk; subst hk; decide
          · simp only [AV.men] at hk) ?_
    refine SCmp.no (rfl) ?_
    refine SWrap.i64z ((k + 1 : Nat) : Int) (by omega) (by omega) ?_
    exact ⟨k + 1, [0, 1, 2], hkn, by show g.n - (k + 1) < g.n - k; omega, ⟨rfl, by simp, rfl, rfl, rfl, ⟨rfl, rfl, rfl, trivial⟩, ⟨rfl, rfl, rfl, trivial⟩⟩⟩
  · refine SCmp.no (decide_eq_false (by omega)) ?_
    obtain rfl : k = g.n := by omega
    have c1 := smade_ok 79 (wkP g.n (ent g)) g.n (lowM (ent g)) (fun i j hi hj => slower_ok (ent g) g.n i j hi hj) zL (by omega) (by omega)
    have c2 := smade_ok 80 (wkP g.n (ent g)) g.n (uppM (ent g)) (fun i j hi hj => supper_ok (ent g) g.n i j hi hj) zU (by omega) (by omega)
    refine SDraw.mkX (by kernel_rfl) ?_
    repeat refine SOp.mk _ _ (And.intro rfl rfl) rfl ?_
    refine SOp.mk _ _ (SCall.pure (c1) (And.intro rfl rfl)) rfl ?_
    repeat refine SOp.mk _ _ (And.intro rfl rfl) rfl ?_
    refine SOp.mk _ _ (SCall.pure (c2) (And.intro rfl rfl)) rfl ?_
    repeat refine SOp.mk _ _ (And.intro rfl rfl) rfl ?_
    refine SFin.mk (by kernel_rfl) ?_
    exact SRet.pure (.tup rfl fun i c d e1 e2 => by
      match i, e1, e2 with
      | 0, e1, e2 => cases e1; cases e2; exact .p _ pers_matP
      | 1, e1, e2 => cases e1; cases e2; exact .p _ pers_matP
      | 2, e1, e2 => cases e1; cases e2; exact .p _ (.int _ _)
      | 3, e1, e2 => cases e1; cases e2; exact .p _ (.int _ _))
end Go.Proofs.YtkaooejeljdbnaaGreat

namespace Go.Proofs.YtkaooejeljdbnaaGreat
open Go
set_option linter.unusedVariables false
set_option linter.unusedSimpArgs false
set_option maxRecDepth 10000
theorem rdet_ok (m m' : Bool) (n : Nat) (A : Nat → Nat → Rat) {R : Nat → Nat} (hRB : RB R n n A) (hn : n ≤ 900) :
    CallP Tryz.prog 46 [matP m m' n n A] (.p (ratP (elim n A n).det)) [] := by
  refine callG_of_vc (wr := wr0) Γok mixed Tryz.func46 (by kernel_rfl) rfl (by kernel_rfl) (le_of_ble rfl) (by simp) ?_
  refine SZ.mk (n : Int) (by simp) ?_
  refine SCall.pureT (rtriangle_ok m m' n n A hRB (Nat.le_refl n) (by omega)) (fun _ => rfl) ?_
  exact SRet.pure (.p _ (pers_rat _ _ _))
end Go.Proofs.YtkaooejeljdbnaaGreat

namespace Go.Proofs.YtkaooejeljdbnaaGreat
open Go
set_option linter.unusedVariables false
set_option linter.unusedSimpArgs false
set_option maxRecDepth 10000
theorem rb163 {n : Nat} {A : Nat → Nat → Rat} (hn : n ≤ 6) (hA : ∀ i k, i < n → k < n → Bz (A i k) 163) : RB (bb 163) n n A :=
  RB.std hA (Nat.le_refl _) (Nat.le_trans (dR_mono (j := 6) hn) (by decide +kernel))
end Go.Proofs.YtkaooejeljdbnaaGreat

namespace Go.Proofs.YtkaooejeljdbnaaGreat
open Go
set_option linter.unusedVariables false
set_option linter.unusedSimpArgs false
set_option maxRecDepth 10000
theorem within11_ok (a n : Int) (hn : 0 < n) (hn' : n < 4611686018427387904) : CallP Tryz.prog 50 [.int .i64 a, .int .i64 n] (.p (.int .i64 (a % n))) [] := by
  refine callG_of_vc (wr := wr0) Γok mixed Tryz.func50 (by kernel_rfl) rfl (by kernel_rfl) (le_of_ble rfl) (by simp) ?_
  have hw := within_aux (a := a) hn
  have hb := tmod_bd a hn
  obtain ⟨r, hr⟩ : ∃ r, r = a.tmod n := ⟨_, rfl⟩
  rw [← hr] at hw hb
  refine SNe.mk (by omega) ?_
  refine SZ.mk r hr.symm ?_
  by_cases h : r < 0
  · refine SCmp.yes (decide_eq_true (by omega)) ?_
    refine SWrap.i64z (r + n) rfl (by omega) ?_
    rw [if_pos h] at hw
    rw [← hw]
    exact SRet.pure (.p _ (.int _ _))
  · refine SCmp.no (decide_eq_false (by omega)) ?_
    rw [if_neg h] at hw
    rw [← hw]
    exact SRet.pure (.p _ (.int _ _))
end Go.Proofs.YtkaooejeljdbnaaGreat

namespace Go.Proofs.YtkaooejeljdbnaaGreat
open Go
set_option linter.unusedVariables false
set_option linter.unusedSimpArgs false
set_option maxRecDepth 10000
theorem rall_ok (m m' q q' : Bool) (n w : Nat) (A : Nat → Nat → Rat) {a : Nat} (hA : ∀ i k, i < n → k < w → Bz (A i k) a) (ha : a + a ≤ 1048576) (hn : n ≤ 1000) (hw : w ≤ 1000) :
    CallP Tryz.prog 26 [matP m m' n w A, matP q q' n w A] (.p (.bool true)) [] := by
  refine callG_of_vc (wr := wr0) Γok mixed Tryz.func26 (by kernel_rfl) rfl (by kernel_rfl) (le_of_ble rfl) (by simp) ?_
  refine SZ.mk (n : Int) (by simp) ?_
  refine SZ.mk (n : Int) (by simp) ?_
  refine SCmp.no (neF rfl) ?_
  refine SLoop.mk Nat (fun i => ([(0, .p (matP m m' n w A)), (1, .p (matP q q' n w A)), (5, .p (.int .i64 i))], []))
    (fun i => i ≤ n) (fun i => n - i) 0 [] (Nat.zero_le _) ⟨rfl, .nil, rfl, rfl, rfl, ⟨rfl, rfl, rfl, trivial⟩, trivial⟩ ?_
  intro i hi
  have hi : i ≤ n := hi
  refine SZ.mk (n : Int) (by simp) ?_
  by_cases hin : i < n
  · refine SCmp.yes (decide_eq_true (by omega)) ?_
    have hl : Bl (lst w (A i)) a := Bl.lst fun k hk => hA i k hin hk
    have hR := rrows_ok m' q' (lst w (A i)) (lst w (A i)) hl hl ha (by rw [lst_length]; omega)
    rw [decide_eq_true rfl] at hR
    refine SDraw.mk (by kernel_rfl) ?_
    repeat refine SOp.mk _ _ (And.intro rfl rfl) rfl ?_
    refine SOp.mk _ _ (SIdx.mf i rfl hin (And.intro rfl rfl)) rfl ?_
    repeat refine SOp.mk _ _ (And.intro rfl rfl) rfl ?_
    refine SOp.mk _ _ (SIdx.mf i rfl hin (And.intro rfl rfl)) rfl ?_
    repeat refine SOp.mk _ _ (And.intro rfl rfl) rfl ?_
    refine SOp.mk _ _ (SCall.pure (hR) (And.intro rfl rfl)) rfl ?_
    refine SOp.mk _ _ (SCmp.no rfl (And.intro rfl rfl)) rfl ?_
    refine SWrap.i64z ((i + 1 : Nat) : Int) (by omega) (by omega) ?_
    exact ⟨i + 1, [], hin, by show n - (i + 1) < n - i; omega, ⟨rfl, .nil, rfl, rfl, rfl, ⟨rfl, rfl, rfl, trivial⟩, trivial⟩⟩
  · refine SCmp.no (decide_eq_false (by omega)) ?_
    exact SRet.pure (.tf _)
/-- What is told of a tree is told of another one. -/
def PRle (p' p : PV) : Prop := ∀ w FB v, PR w FB p' v → PR w FB p v
theorem PRle.refl (p : PV) : PRle p p := fun _ _ _ h => h
theorem PRle.nil (m : Bool) (W : Nat) : PRle (.raw (.slice none 0 0)) (.sl m W []) := fun w FB v h => by cases h; exact .nil _ _ _
theorem PRle.agg {cs' cs : List PV} (hl : cs'.length = cs.length) (ho : ∀ c ∈ cs, c.one = true) (h : ∀ (i : Nat) c' c, cs'[i]? = some c' → cs[i]? = some c → PRle c' c) : PRle (.agg cs') (.agg cs) := fun w FB v hv => by
  cases hv with
  | agg _ vs hone hl' h' =>
    refine .agg cs vs ho (by rw [hl', hl]) fun i c v e1 e2 => ?_
    have hi : i < cs'.length := by rw [hl]; exact (List.getElem?_eq_some_iff.1 e1).1
    exact h i cs'[i] c (List.getElem?_eq_getElem hi) e1 _ _ _ (h' i _ v (List.getElem?_eq_getElem hi) e2)
theorem CallG.weak {P : Program} {f : FuncId} {pvs pvs' : List PV} {r : AV} {nb : List Blk} (hc : CallP P f pvs r nb) (hl : pvs'.length = pvs.length) (h : ∀ (i : Nat) p' p, pvs'[i]? = some p' → pvs[i]? = some p → PRle p' p) : CallP P f pvs' r nb :=
  ⟨hc.fn, fun w F Bor β vs ha => hc.run w F Bor β vs { ha with
    len := by rw [ha.len, List.length_map, List.length_map, hl]
    rel := fun i a v e1 e2 => by
      rw [List.getElem?_map] at e1
      cases e : pvs[i]? with
      | none => rw [e] at e1; cases e1
      | some p =>
        rw [e] at e1; cases e1
        have hi : i < pvs'.length := by rw [hl]; exact (List.getElem?_eq_some_iff.1 e).1
        have e' : pvs'[i]? = some pvs'[i] := List.getElem?_eq_getElem hi
        have := ha.rel i (.p pvs'[i]) v (by rw [List.getElem?_map, e']; rfl) e2
        exact .p (h i _ p e' e _ _ _ this.pOf)
    ma := fun a ha k hk => by obtain ⟨v, _, rfl⟩ := List.mem_map.1 ha; simp only [AV.men] at hk }⟩
end Go.Proofs.YtkaooejeljdbnaaGreat

namespace Go.Proofs.YtkaooejeljdbnaaGreat
open Go
set_option linter.unusedVariables false
set_option linter.unusedSimpArgs false
set_option maxRecDepth 10000
structure CauG (g : GV) (b c : Nat) : Prop extends Wf g b c where
  k5 : g.k = 5
theorem CauG.la {g : GV} {b c : Nat} (h : CauG g b c) : g.la = g.n := h.toWf.la3 (by have := h.k5; omega)
theorem CauG.lb {g : GV} {b c : Nat} (h : CauG g b c) : g.lb = g.n := h.toWf.lb5 (by have := h.k5; omega)
end Go.Proofs.YtkaooejeljdbnaaGreat

namespace Go.Proofs.YtkaooejeljdbnaaGreat
open Go
set_option linter.unusedVariables false
set_option linter.unusedSimpArgs false
set_option maxRecDepth 10000
theorem PRle.gen {m : Nat → Bool} {g : GV} {k n r : Int} {a b c d : PV} (hk : k = g.k) (hn : n = g.n) (hr : r = g.r) (ha : PRle a (ratsM (m 0) (lst g.la g.A))) (hb : PRle b (ratsM (m 1) (lst g.lb g.B))) (hc : PRle c (ratsM (m 2) (lst g.lh g.G))) (hd : PRle d (ratsM (m 3) (lst g.lh g.H))) :
    PRle (.agg [.int .i64 k, .int .i64 n, .int .i64 r, a, b, c, d]) (genP m g) := by
  subst hk; subst hn; subst hr
  refine PRle.agg rfl (fun c hc => ?_) fun i c' c e1 e2 => ?_
  · simp only [genC, List.mem_cons, List.not_mem_nil, or_false] at hc
    rcases hc with rfl | rfl | rfl | rfl | rfl | rfl | rfl <;> rfl
  · match i, e1, e2 with
    | 0, e1, e2 => cases e1; cases e2; exact .refl _
    | 1, e1, e2 => cases e1; cases e2; exact .refl _
    | 2, e1, e2 => cases e1; cases e2; exact .refl _
    | 3, e1, e2 => cases e1; cases e2; exact ha
    | 4, e1, e2 => cases e1; cases e2; exact hb
    | 5, e1, e2 => cases e1; cases e2; exact hc
    | 6, e1, e2 => cases e1; cases e2; exact hd
theorem CallG.weak1 {P : Program} {f : FuncId} {p p' : PV} {r : AV} {nb : List Blk} (hc : CallP P f [p] r nb) (h : PRle p' p) : CallP P f [p'] r nb :=
  CallG.weak hc rfl fun i p1 p2 e1 e2 => by
    match i, e1, e2 with
    | 0, e1, e2 => cases e1; cases e2; exact h
end Go.Proofs.YtkaooejeljdbnaaGreat

namespace Go.Proofs.YtkaooejeljdbnaaGreat
open Go
set_option linter.unusedVariables false
set_option linter.unusedSimpArgs false
set_option maxRecDepth 10000
def m11 : Nat → Bool
  | 0 => true
  | _ => false
def g11 : GV := ⟨1, 1, 0, fun _ => ((4 : Int) : Rat), fun _ => 0, fun _ => 0, fun _ => 0⟩
theorem wf_g11 : Wf g11 5 13 where
  k1 := by decide
  k7 := by decide
  n1 := by decide
  n6 := by decide
  r2 := by decide
  r1 := fun h => by rcases h with h | h <;> cases h
  r0 := fun _ => rfl
  bA := fun i _ => int_bz (by decide) (by decide)
  bB := fun i _ => bz_zero.mono (by decide)
  bG := fun i _ => bz_zero.mono (by decide)
  bH := fun i _ => bz_zero.mono (by decide)
  ne := fun i j _ hj => absurd hj (Nat.not_lt_zero _)
  bc := by decide
  c4 := by decide
/-- The last step changes no row. -/
theorem GsB.of' {A : Nat → Nat → Rat} {n b : Nat} (n1 : 1 ≤ n) (hA : ∀ i j, i < n → j < n → Bz (A i j) b) : GsB A n (bb b (n - 1)) := fun k hk i j hi hj => by
  by_cases e : k = n
  · obtain ⟨d, rfl⟩ : ∃ d, n = d + 1 := ⟨n - 1, by omega⟩
    rw [e, gs_le (.inl (by omega))]
    exact (gs_bz hA d (by omega) i j hi hj)
  · exact (gs_bz hA k hk i j hi hj).mono (bb_mono (by omega))
/-- Digits of what is left behind any step, of a Gen of the statements. -/
theorem gsB_wf {g : GV} (h : Wf g 5 13) (h5 : g.n ≤ 5) : GsB (ent g) g.n 42100 := fun k hk i j hi hj =>
  (GsB.of' (b := 163) h.n1 (fun i j hi hj => h.bEnt hi hj) k hk i j hi hj).mono (Nat.le_trans (bb_mono (show g.n - 1 ≤ 4 by omega)) (by decide +kernel))
/-- One row, of one number, made anew. -/
theorem all1_ok (A : Nat → Nat → Rat) {a : Nat} (hA : Bz (A 0 0) a) (ha : a + a ≤ 1048576) : CallP Tryz.prog 26 [matP false false 1 1 A, .sl true 1 [ratsM true (lst 1 fun _ => A 0 0)]] (.p (.bool true)) [] := by
  have h := rall_ok false false true true 1 1 A (a := a) (fun i k hi hk => by
    obtain rfl : i = 0 := by omega
    obtain rfl : k = 0 := by omega
    exact hA) ha (by decide) (by decide)
  exact h
theorem known11_ok : CallP Tryz.prog 28 [] (.p (.bool true)) [] := by
  have hf := sfactor_ok m11 g11 wf_g11 (gsB_wf wf_g11 (by decide)) (by decide) (fun t ht => by
    obtain rfl : t = 0 := by have : t < 1 := ht; omega
    show ent g11 0 0 ≠ 0
    decide +kernel)
  have e1 : lowM (ent g11) 0 0 = ((1 : Int) : Rat) := by decide +kernel
  have e2 : uppM (ent g11) 0 0 = ((4 : Int) : Rat) := by decide +kernel
  have a1 := all1_ok (lowM (ent g11)) (a := 5) (by rw [e1]; exact int_bz (by decide) (by decide)) (by decide)
  have a2 := all1_ok (uppM (ent g11)) (a := 5) (by rw [e2]; exact int_bz (by decide) (by decide)) (by decide)
  rw [e1] at a1
  rw [e2] at a2
  refine callG_of_vc (wr := wr0) Γok mixed Tryz.func28 (by kernel_rfl) rfl (by kernel_rfl) (le_of_ble rfl) (by simp) ?_
  refine SCall.pure (rint_ok 4 (by decide)) ?_
  refine SView.all rfl <| SCall.pureT (pvs := [.agg [.int .i64 1, .int .i64 1, .int .i64 0, ratsM true (lst 1 g11.A), znil, znil, znil]]) (CallG.weak1 hf (.gen rfl rfl rfl (.refl _) (.nil _ _) (.nil _ _) (.nil _ _))) (fun _ => rfl) ?_
  refine SCmp.yes (rfl) ?_
  refine SCmp.yes (rfl) ?_
  refine SCall.pure (rint_ok 1 (by decide)) ?_
  refine SLendR.mk [ratsM true (lst 1 fun _ => ((1 : Int) : Rat))] rfl rfl (fun i c p e1 e2 => ?_) ?_
  · match i, e1, e2 with
    | 0, e1, e2 => cases e1; cases e2; exact .vec (es := rats (lst 1 fun _ => ((1 : Int) : Rat))) rfl (by decide)
  refine SCall.pure (a1) ?_
  refine SCond.mk (fun _ => ?_) (fun h => by cases h)
  refine SCall.pure (rint_ok 4 (by decide)) ?_
  refine SLendR.mk [ratsM true (lst 1 fun _ => ((4 : Int) : Rat))] rfl rfl (fun i c p e1 e2 => ?_) ?_
  · match i, e1, e2 with
    | 0, e1, e2 => cases e1; cases e2; exact .vec (es := rats (lst 1 fun _ => ((4 : Int) : Rat))) rfl (by decide)
  refine SCall.pure (a2) ?_
  exact SRet.pure (.p _ (.bool _))
end Go.Proofs.YtkaooejeljdbnaaGreat

namespace Go.Proofs.YtkaooejeljdbnaaGreat
open Go
set_option linter.unusedVariables false
set_option linter.unusedSimpArgs false
set_option maxRecDepth 10000
theorem ux_ok {U : Nat → Nat → Rat} {b : Nat → Rat} {n : Nat} (hu : ∀ i j, i < n → j < i → U i j = 0) (hd : ∀ i, i < n → U i i ≠ 0) : ∀ i, i < n → apl n U (uxF U b n n) i = b i := by
  intro i hi
  have h := bk_ok (A := augM n U b) (n := n) (fun i k hi hk => by show (if k < n then U i k else b i) = 0; rw [if_pos (by omega)]; exact hu i k hi hk) (fun i hi => by show (if i < n then U i i else b i) ≠ 0; rw [if_pos hi]; exact hd i hi) n (Nat.le_refl _) i (by omega) hi
  rw [show augM n U b i n = b i from if_neg (Nat.lt_irrefl n)] at h
  rw [← h, ux_bk n (Nat.le_refl _)]
  exact sm_congr fun k hk => by rw [show augM n U b i k = U i k from if_pos hk]
/-- The first nought from corner to corner. -/
theorem first_zero (U : Nat → Nat → Rat) (n : Nat) : ∃ K, K ≤ n ∧ (∀ t, t < K → U t t ≠ 0) ∧ (K < n → U K K = 0) := by
  induction n with
  | zero => exact ⟨0, Nat.le_refl _, fun t ht => absurd ht (Nat.not_lt_zero _), fun h => absurd h (Nat.not_lt_zero _)⟩
  | succ n ih =>
    obtain ⟨K, h1, h2, h3⟩ := ih
    by_cases c : K < n
    · exact ⟨K, by omega, h2, fun _ => h3 c⟩
    · obtain rfl : K = n := by omega
      by_cases e : U K K = 0
      · exact ⟨K, by omega, h2, fun _ => e⟩
      · exact ⟨K + 1, Nat.le_refl _, fun t ht => by
          by_cases e2 : t = K
          · rw [e2]; exact e
          · exact h2 t (by omega), fun h => absurd h (Nat.lt_irrefl _)⟩
set_option maxHeartbeats 1000000 in
theorem schurTriangles_ok (m m' : Bool) (n : Int) (ns bs : List Int) (hn : I64 n) (hns : I64s ns) (hbs : I64s bs) : CallP Tryz.prog 11 [.int .i64 n, .sl m 1 (intsP ns), .sl m' 1 (intsP bs)] (.p (.bool true)) [] := by
  have w := within11_ok n 6 (by omega) (by omega)
  obtain ⟨N, hN, n1, n6⟩ : ∃ N : Nat, 1 + n % 6 = N ∧ 1 ≤ N ∧ N ≤ 6 := ⟨(1 + n % 6).toNat, by omega, by omega, by omega⟩
  have htr := triangles_ok m ns hns N n1 n6
  have hrow := row2_ok m' bs hbs N (by omega)
  obtain ⟨L, hL⟩ : ∃ L, L = trL (rowG ns) N := ⟨_, rfl⟩
  obtain ⟨U, hU⟩ : ∃ U, U = trU (rowG ns) N := ⟨_, rfl⟩
  have zL : ∀ i j, i < N → j < N → Bz (L i j) 5 := fun i j _ _ => by
    rw [hL]; unfold trL
    split
    · exact bz_one.mono (by decide)
    · split
      · exact rowG_bz ns _
      · exact bz_zero.mono (by decide)
  have zU : ∀ i j, i < N → j < N → Bz (U i j) 5 := fun i j _ _ => by
    rw [hU]; unfold trU
    split
    · exact bz_zero.mono (by decide)
    · exact rowG_bz ns _
  have uU : ∀ i j, i < N → j < i → U i j = 0 := fun i j _ h => by rw [hU]; exact if_pos h
  have lL : ∀ i j, i < j → j < N → L i j = 0 := fun i j h _ => by rw [hL]; unfold trL; rw [if_neg (by omega), if_neg (by omega)]
  have oL : ∀ i, i < N → L i i = 1 := fun i _ => by rw [hL]; exact if_pos rfl
  rw [← hL, ← hU] at htr
  obtain ⟨b, hb⟩ : ∃ b, b = rowG bs := ⟨_, rfl⟩
  have zb : ∀ i, i < N → Bz (b i) 5 := fun i _ => by rw [hb]; exact rowG_bz bs i
  rw [← hb] at hrow
  have eub : ub 5 = 5210 := by decide
  have lX : ∀ k, k ≤ N → ∀ i, i < k → Bz (lxF L b k i) 5210 := fun k hk i hi => (lx_bz zL zb k hk i hi).mono (by rw [← eub]; exact ub_mono (by omega))
  have uX : ∀ t, t ≤ N → ∀ i, N ≤ i + t → i < N → Bz (uxF U b N t i) 5210 := fun t ht i h1 h2 => (ux_bz zU zb t ht i h1 h2).mono (by rw [← eub]; exact ub_mono (by omega))
  have hlo := slowerS_ok false false false N L b (by omega) zL zb lX (by omega)
  have hrl := rlower11_ok false false false N L b (by omega) zL zb lX (by omega)
  have happ := rapplyM_ok false false false N N L (lxF L b N) zL (fun k hk => lX N (Nat.le_refl _) k hk) (by omega) (by omega) (by omega)
  rw [lst_congr (lx_ok oL lL)] at happ
  have q1 := rrows_ok false false (lst N (lxF L b N)) (lst N (lxF L b N)) (Bl.lst fun k hk => lX N (Nat.le_refl _) k hk) (Bl.lst fun k hk => lX N (Nat.le_refl _) k hk) (by omega) (by rw [lst_length]; omega)
  rw [decide_eq_true rfl] at q1
  have q2 := rrows_ok false false (lst N b) (lst N b) (Bl.lst zb) (Bl.lst zb) (by omega) (by rw [lst_length]; omega)
  rw [decide_eq_true rfl] at q2
  have hdet := rdet_ok false false N U (rb163 n6 fun i j hi hj => (zU i j hi hj).mono (by decide)) (by omega)
  obtain ⟨K, k1, k2, k3⟩ := first_zero U N
  obtain ⟨K', j1, j2, j3⟩ := first_zero (fun i j => U (N - 1 - i) (N - 1 - j)) N
  have both : K = N ↔ K' = N := by
    constructor
    · intro e
      apply Classical.byContradiction
      intro h
      exact k2 (N - 1 - K') (by omega) (j3 (by omega))
    · intro e
      apply Classical.byContradiction
      intro h
      have := j2 (N - 1 - K) (by omega)
      rw [show N - 1 - (N - 1 - K) = K by omega] at this
      exact this (k3 (by omega))
  by_cases c : K = N
  · have c' := both.1 c
    have hup := supperS_ok false false false N K' U b (by omega) zU zb (fun t ht i h1 h2 => uX t (by omega) i h1 h2) (by omega) j1 j2 j3 _ (fun h => absurd c' (by omega)) (fun _ => rfl)
    have hru := rupper11_ok false false false N K U b (by omega) zU zb (fun _ => uX) (by omega) k1 k2 k3 _ (fun h => absurd c (by omega)) (fun _ => rfl)
    have q3 := rrows_ok false false (lst N (uxF U b N N)) (lst N (uxF U b N N)) (Bl.lst fun k hk => uX N (Nat.le_refl _) k (by omega) hk) (Bl.lst fun k hk => uX N (Nat.le_refl _) k (by omega) hk) (by omega) (by rw [lst_length]; omega)
    rw [decide_eq_true rfl] at q3
    have hau := rapplyM_ok false false false N N U (uxF U b N N) zU (fun k hk => uX N (Nat.le_refl _) k (by omega) hk) (by omega) (by omega) (by omega)
    rw [lst_congr (ux_ok uU fun i hi => k2 i (by omega))] at hau
    refine callG_of_vc (wr := wr0) Γok mixed Tryz.func11 (by kernel_rfl) rfl (by kernel_rfl) (le_of_ble rfl) (by simp) ?_
    refine SCall.pure (known11_ok) ?_
    refine SCmp.no (rfl) ?_
    refine SCall.pure (w) ?_
    refine SWrap.i64z (N : Int) hN (by omega) ?_
    refine SCall.pureT (htr) (fun _ => rfl) ?_
    refine SCall.pure (hrow) ?_
    refine SCall.pure (hlo) ?_
    refine SCall.pureT (hup) (fun _ => rfl) ?_
    refine SCall.pureT (hru) (fun _ => rfl) ?_
    refine SCall.pure (hrl) ?_
    refine SCall.pure (q1) ?_
    refine SCmp.no (rfl) ?_
    refine SCall.pure (happ) ?_
    refine SCall.pure (q2) ?_
    refine SCmp.no (rfl) ?_
    refine SCmp.no (neF rfl) ?_
    refine SCall.pure (q3) ?_
    refine SCmp.no (rfl) ?_
    refine SCmp.no (rfl) ?_
    refine SCmp.yes (rfl) ?_
    refine SCall.pure (hau) ?_
    refine SCall.pure (q2) ?_
    exact SRet.pure (.p _ (.bool _))
  · have c' : K' ≠ N := fun e => c (both.2 e)
    have hup := supperS_ok false false false N K' U b (by omega) zU zb (fun t ht i h1 h2 => uX t (by omega) i h1 h2) (by omega) j1 j2 j3 _ (fun _ => rfl) (fun e => absurd e c')
    have hru := rupper11_ok false false false N K U b (by omega) zU zb (fun _ => uX) (by omega) k1 k2 k3 _ (fun _ => rfl) (fun e => absurd e c)
    have hb0 : Bl [] 0 := fun i hi => absurd hi (Nat.not_lt_zero _)
    have q3 := rrows_ok false false [] [] hb0 hb0 (by decide) (by simp)
    rw [decide_eq_true rfl] at q3
    have hz := det_up uU (show K < N by omega) k2 (k3 (by omega))
    rw [hz] at hdet
    have hno := rnought_ok 0
    rw [decide_eq_true rfl] at hno
    refine callG_of_vc (wr := wr0) Γok mixed Tryz.func11 (by kernel_rfl) rfl (by kernel_rfl) (le_of_ble rfl) (by simp) ?_
    refine SCall.pure (known11_ok) ?_
    refine SCmp.no (rfl) ?_
    refine SCall.pure (w) ?_
    refine SWrap.i64z (N : Int) hN (by omega) ?_
    refine SCall.pureT (htr) (fun _ => rfl) ?_
    refine SCall.pure (hrow) ?_
    refine SCall.pure (hlo) ?_
    refine SCall.pureT (hup) (fun _ => rfl) ?_
    refine SCall.pureT (hru) (fun _ => rfl) ?_
    refine SCall.pure (hrl) ?_
    refine SCall.pure (q1) ?_
    refine SCmp.no (rfl) ?_
    refine SCall.pure (happ) ?_
    refine SCall.pure (q2) ?_
    refine SCmp.no (rfl) ?_
    refine SCmp.no (neF rfl) ?_
    refine SCall.pure (q3) ?_
    refine SCmp.no (rfl) ?_
    refine SCmp.yes (rfl) ?_
    refine SCall.pure (hdet) ?_
    refine SCall.pure (hno) ?_
    refine SCond.mk (fun _ => ?_) (fun h => by cases h)
    exact SRet.pure (.tf _)
end Go.Proofs.YtkaooejeljdbnaaGreat

namespace Go.Proofs.YtkaooejeljdbnaaGreat
open Go Go.ChangeShapes Go.WideShapes Go.ChangeAt Go.RowKit Go.WideElems
set_option linter.unusedVariables false
set_option linter.unusedSimpArgs false
theorem Tryz.own : ownKnob Tryz.prog.godebug = none := by kernel_rfl
theorem Tryz.laidOut : laidOutB Tryz.prog = true := by kernel_rfl
theorem Tryz.cells3 : Tryz.prog.cellsOf 3 = 1 := by kernel_rfl
abbrev oldF (W : World) : Nat → Prop := fun b => b < W.heap.size
theorem law_call {P : Program} {f : FuncId} {pvs : List PV} (hc : CallP P f pvs (.p (.bool true)) []) {W : World} {vs : List Value} (hl : vs.length = pvs.length) (hv : ∀ (i : Nat) p v, pvs[i]? = some p → vs[i]? = some v → PR W (FBof noBor (oldF W)) p v) :
    Calls P f vs.toArray W fun e W' => e = .returned (.bool true) ∧ Below W.heap.size W W' := by
  refine (hc.run W (oldF W) noBor (fun _ => (none, 0)) vs ⟨by simp [hl], fun i a v e1 e2 => ?_, fun h => by rw [look_nil]; trivial, fun b h => h, fun b h => h.elim, fun h b hl => ?_, fun h h' b hl => ?_, fun a ha k hk => ?_, fun h k hk => ?_⟩).mono ?_
  · rw [List.getElem?_map] at e1
    cases hp : pvs[i]? with
    | none => rw [hp] at e1; cases e1
    | some p => rw [hp] at e1; cases e1; exact .p (hv i p v hp e2)
  · rw [look_nil] at hl; exact hl.elim
  · rw [look_nil] at hl; exact hl.elim
  · obtain ⟨p, _, rfl⟩ := List.mem_map.1 ha; simp only [AV.men] at hk
  · rw [look_nil] at hk; exact hk.elim
  · intro e W' ⟨v, F', β', he, hr⟩
    subst he
    refine ⟨?_, hr.os, hr.tape, hr.output, hr.size, fun b hb => hr.same b hb fun h hl => ?_⟩
    · have := hr.rel
      cases this with | p h => cases h; rfl
    · rw [look_nil] at hl; exact hl.elim
section
variable {H : Type} {enc : TypeId × Value → H} {P : Program} {W : World} {base : Nat} {sp : Nat → Bool} {held : Bool}
theorem openInt {t : TypeId} {r : Go.Reach} {b0 : Nat} {v : Value} {d : DataW H} {ps : List MemPlace} (ht : P.underlying t = some (.int .i64)) (hval : Value.okWide P W r b0 t v) (hd : DataW.Trod enc P W base sp held t v d ps) :
    ∃ n, v = .int .i64 n ∧ I64 n := by
  obtain ⟨n, h1, h2, h3, h4⟩ := open_int ht hval hd
  refine ⟨n, h1, ?_⟩
  simp [Lit.wf, IntKind.min, IntKind.max, IntKind.signed, IntKind.bits] at h4
  exact ⟨by omega, by omega⟩
theorem openInts {t e : TypeId} {r : Go.Reach} {b0 : Nat} {v : Value} {d : DataW H} {ps : List MemPlace} (ht : P.underlying t = some (.slice e)) (he : P.underlying e = some (.int .i64)) (hc : P.cellsOf e = 1) (hval : Value.okWide P W r b0 t v)
    (hd : DataW.Trod enc P W base sp held t v d ps) (hlt : ∀ x ∈ ps, x.block < W.heap.size) : ∃ zs : List Int, I64s zs ∧ PR W (FBof noBor (oldF W)) (.sl false 1 (intsP zs)) v := by
  obtain ⟨a0, len, cap, rfl⟩ := okWide_slice ht hval
  obtain ⟨fuel, hf⟩ := hd
  rcases open_ints ht he hc hf with ⟨hcs, hx⟩ | ⟨a, len', cap', zs, hcs, _, hl, hm, hz, hx, hcell, hwz⟩
  · simp [Value.cells] at hcs
    obtain ⟨rfl, rfl, rfl⟩ := hcs
    exact ⟨[], fun i => by simp [I64], .nil _ _ _⟩
  · simp [Value.cells] at hcs
    obtain ⟨rfl, rfl, rfl⟩ := hcs
    simp only [Prod.mk.injEq] at hx
    obtain ⟨_, rfl⟩ := hx
    have hlen : len ≤ zs.length := by rw [hz]; split <;> omega
    have hspot : a.spot = none := by
      simp only [Value.okWide, ht, Cell.okWide] at hval
      simp [Cell.ok, World.has] at hval
      first | exact hval.1.2.1 | exact hval.2.1 | (have := hval; simp_all)
    obtain ⟨b, off, spot⟩ := a
    simp only at hspot
    subst hspot
    refine ⟨zs.take len, fun i => ?_, ?_⟩
    · by_cases hi : i < (zs.take len).length
      · have hm : (zs.take len).getD i 0 ∈ zs := by
          have : (zs.take len).getD i 0 = (zs.take len)[i] := by simp only [List.getD, List.getElem?_eq_getElem hi, Option.getD_some]
          rw [this]
          exact List.mem_of_mem_take (List.getElem_mem hi)
        have h4 := hwz _ hm
        generalize (zs.take len).getD i 0 = q at h4 ⊢
        simp [Lit.wf, IntKind.min, IntKind.max, IntKind.signed, IntKind.bits] at h4
        exact ⟨by omega, by omega⟩
      · rw [getD_ge _ 0 (by omega)]; simp [I64]
    · have hll : (intsP (zs.take len)).length = len := by simp; omega
      have h := PR.sl (w := W) (FB := FBof noBor (oldF W)) false 1 (intsP (zs.take len)) b off cap (fun i _ => .int .i64 (zs.getD i 0)) (by rw [hll]; exact hl) (fun hne => ?_) (fun e he => ?_) (fun e he c hc => ?_) (fun i e j c e1 e2 => ?_) (fun i e j c e1 e2 => ?_)
      · rw [hll] at h; exact h
      · have hpos : 0 < zs.length := by
          rcases Nat.eq_zero_or_pos zs.length with h0 | h0
          · exact (hne (by rw [List.length_eq_zero_iff.1 h0]; simp)).elim
          · exact h0
        exact hlt (.cell b off) (MemPlace.mem_row.2 ⟨0, hpos, by simp⟩)
      · obtain ⟨z, _, rfl⟩ := List.mem_map.1 he; rfl
      · obtain ⟨z, _, rfl⟩ := List.mem_map.1 he
        have hc : c ∈ [PV.int .i64 z] := hc
        simp at hc; subst hc; rfl
      all_goals
        have hi : i < len := by have := (List.getElem?_eq_some_iff.1 e1).1; rwa [hll] at this
        have he : e = .int .i64 (zs.getD i 0) := by
          rw [List.getElem?_map, List.getElem?_take_of_lt hi, List.getElem?_eq_getElem (show i < zs.length by omega)] at e1
          simp at e1
          simp [List.getD, show i < zs.length by omega, ← e1]
        subst he
        have hj : j = 0 := by
          have := (List.getElem?_eq_some_iff.1 e2).1
          simpa [PV.cells] using this
        subst hj
        first
          | (have := hcell i (by omega)
             rw [show off + i * 1 + 0 = off + i by omega]
             rwa [Addr.add_lit] at this)
          | (have hcv : c = .int .i64 (zs.getD i 0) := by simpa [PV.cells] using e2.symm
             subst hcv
             exact .int _ _)
end
end Go.Proofs.YtkaooejeljdbnaaGreat

