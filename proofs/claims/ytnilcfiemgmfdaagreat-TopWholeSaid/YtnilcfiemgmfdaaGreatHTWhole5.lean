/- FTWhole: what its proof needs, part 5. -/
import Derived.Test.YtnilcfiemgmfdaaGreatHTWhole4
set_option linter.unusedVariables false
set_option linter.unusedSimpArgs false
namespace Go.Proofs.YtnilcfiemgmfdaaGreat
open Go
set_option linter.unusedVariables false
set_option linter.unusedSimpArgs false
set_option maxRecDepth 10000
theorem row_step {n j : Nat} {f : Nat → Rat} (h : j < n) : (fl n fun k => if k < j then ratP (f k) else rat0).set (j + 0) (ratP (f j)) = fl n fun k => if k < j + 1 then ratP (f k) else rat0 := by
  rw [fl_set]
  refine fl_congr fun k hk => ?_
  simp only [upd, Nat.add_zero]
  by_cases e : k = j
  · rw [if_pos e, if_pos (by omega), e]
  · rw [if_neg e]
    by_cases e2 : k < j
    · rw [if_pos e2, if_pos (by omega)]
    · rw [if_neg e2, if_neg (by omega)]
theorem row_full {n : Nat} {f : Nat → Rat} : rats (lst n f) = fl n fun k => if k < n then ratP (f k) else rat0 := by
  rw [rats, lst_fl, fl_map]; exact fl_congr fun k hk => (if_pos hk).symm
theorem gexpand_ok (m : Nat → Bool) (g : GV) {b c : Nat} (h : Wf g b c) : CallP Tryz.prog 22 [genP m g] (.p (matP false false g.n g.n (ent g))) [] := by
  have h6 := h.n6
  have n1 := h.n1
  refine callG_of_vc (wr := wr0) Γok mixed Tryz.func22 (by kernel_rfl) rfl (by kernel_rfl) (le_of_ble rfl) (by simp) ?_
  refine SCall.pure (gcheck_ok m g h) ?_
  refine SCmp.no (rfl) ?_
  refine SZ.mk (g.n : Int) rfl ?_
  refine SLt.mk (by simp) ?_
  refine SMake.mk g.n rfl (by simp; omega) (by omega) ?_
  refine SMk.rows ?_
  refine SZ.mk (g.n : Int) rfl ?_
  refine SLoop.mkT Nat (fun i => ([(1, .bptr 0 0), (3, .vec 1 1 0 g.n), (13, .p (.int .i64 g.n)), (14, .p (.int .i64 i))], [.box 26 (genA m g), .rows 24 (half 2 g.n g.n i), .pool 38 3 (plr i g.n (ent g))]))
    (fun i => i ≤ g.n) (fun i => g.n - i) 0 [0, 1, 2] _ _ (.pool 38 3 (.done _ _)) (Nat.zero_le _) ⟨rfl, by simp, rfl, rfl, rfl, ⟨rfl, rfl, rfl, rfl, trivial⟩, ⟨rfl, congrArg _ half_ren0, rfl, half_in fun i hi => absurd hi (Nat.not_lt_zero _), trivial⟩⟩ ?_
  intro i hi
  have hi : i ≤ g.n := hi
  by_cases hin : i < g.n
  · refine SCmp.yes (decide_eq_true (by omega)) ?_
    refine SZ.mk (g.n : Int) rfl ?_
    refine SLt.mk (by simp) ?_
    refine SMake.rat g.n rfl (by omega) ?_
    refine SPos.mk i rfl hin ?_
    refine SLt.mk (by simp; omega) ?_
    refine SAs.mk (halq 2 g.n g.n i 3) half_set ?_
    refine SPos.mk i rfl hin ?_
    refine SIdxA.mk i _ rfl (halq_get hin) ?_
    refine SZ.mk (g.n : Int) rfl ?_
    refine SLoop.mk (Nat × (Nat → Rat)) (fun (j, F) => ([(1, .bptr 0 0), (3, .vec 1 1 0 g.n), (4, .p (.int .i64 i)), (13, .p (.int .i64 g.n)), (14, .p (.int .i64 i)), (27, .p (.int .i64 g.n)), (28, .p (.int .i64 j))], [.box 26 (genA m g), .rows 24 (halq 2 g.n g.n i 3), .pool 38 3 (plr i g.n (ent g)), .vec 38 3 (fl g.n fun k => if k < j then ratP (ent g i k) else rat0)]))
      (fun (j, F) => j ≤ g.n) (fun x => g.n - x.1) (0, ent g i) [0, 1, 2, 3] (Nat.zero_le _) ⟨rfl, by simp, rfl, rfl, rfl, ⟨rfl, rfl, rfl, rfl, rfl, rfl, rfl, trivial⟩, ⟨rfl, congrArg _ (halq_ren 2 3 rfl (by decide) rfl (by decide)), rfl, congrArg _ ((fl_congr fun k hk => if_neg (by omega)).trans (replicate_fl g.n rat0).symm), halq_in (fun i hi => by simpa [plenAt] using hi) (fun e => by cases e), trivial⟩⟩ ?_
    intro ⟨j, F⟩ hj
    have hj : j ≤ g.n := hj
    by_cases hjn : j < g.n
    · refine SCmp.yes (decide_eq_true (by omega)) ?_
      refine SDraw.mkX (by kernel_rfl) ?_
      repeat refine SOp.mk _ _ (And.intro rfl rfl) rfl ?_
      refine SOp.mk _ _ (SPos.mk i rfl hin (And.intro rfl rfl)) rfl ?_
      refine SOp.mk _ _ (SIdxA.mk i _ rfl (halq_get hin) (And.intro rfl rfl)) rfl ?_
      repeat refine SOp.mk _ _ (And.intro rfl rfl) rfl ?_
      refine SOp.mk _ _ (SCall.pure (gentry_ok m g h i j hin hjn) (And.intro rfl rfl)) rfl ?_
      refine SOp.mk _ _ (SPos.mk j rfl hjn (And.intro rfl rfl)) rfl ?_
      refine SOp.mk _ _ (SLt.mk (by simp; omega) <| SEs.mk _ (row_step hjn) (And.intro rfl rfl)) rfl ?_
      repeat refine SOp.mk _ _ (And.intro rfl rfl) rfl ?_
      refine SFin.mk (by kernel_rfl) ?_
      refine SWrap.i64z ((j + 1 : Nat) : Int) (by omega) (by omega) ?_
      exact ⟨(j + 1, F), [0, 1, 2, 3], hjn, by show g.n - (j + 1) < g.n - j; omega, ⟨rfl, by simp, rfl, rfl, rfl, ⟨rfl, rfl, rfl, rfl, rfl, rfl, rfl, trivial⟩, ⟨rfl, congrArg _ (halq_ren 2 3 rfl (by decide) rfl (by decide)), rfl, rfl, halq_in (fun i hi => by simpa [plenAt] using hi) (fun e => by cases e), trivial⟩⟩⟩
    · refine SCmp.no (decide_eq_false (by omega)) ?_
      obtain rfl : j = g.n := by omega
      refine SWrap.i64z ((i + 1 : Nat) : Int) (by omega) (by omega) ?_
      exact ⟨i + 1, [0, 1, 4002], hin, by show g.n - (i + 1) < g.n - i; omega, ⟨rfl, by simp, rfl, rfl, rfl, ⟨rfl, rfl, rfl, rfl, trivial⟩, ⟨rfl, congrArg _ (half_absorb rfl (by decide) (by simp [plenAt])), ⟨_, _, _, _, rfl, rfl, congrArg _ (plr_snoc.trans (congrArg (fun r => plr i g.n (ent g) ++ [some r]) row_full))⟩, half_in fun i hi => by simpa [plenAt] using hi, trivial⟩⟩⟩
  · refine SCmp.no (decide_eq_false (by omega)) ?_
    obtain rfl : i = g.n := by omega
    exact SRet.pure (frzM (H := [_, _, _]) (h := 1) (p := 2) (congrArg (Blk.rows _) half_full) rfl fun i hi => hi)
end Go.Proofs.YtnilcfiemgmfdaaGreat

namespace Go.Proofs.YtnilcfiemgmfdaaGreat
open Go
set_option linter.unusedVariables false
set_option linter.unusedSimpArgs false
set_option maxRecDepth 10000
def apl (w : Nat) (A : Nat → Nat → Rat) (y : Nat → Rat) (i : Nat) : Rat := sm w fun k => A i k * y k
theorem apl_bz {w : Nat} {A : Nat → Nat → Rat} {y : Nat → Rat} {a b i : Nat} (hA : ∀ k, k < w → Bz (A i k) a) (hy : ∀ k, k < w → Bz (y k) b) : ∀ k, k ≤ w → Bz (sm k fun k => A i k * y k) (k * (a + b + 1) + 1) := by
  intro k
  induction k with
  | zero => exact fun _ => bz_zero.mono (by omega)
  | succ k ih =>
    intro hk
    exact ((ih (by omega)).add ((hA k (by omega)).mul (hy k (by omega)))).mono (by rw [Nat.succ_mul]; omega)
theorem dzero_ok : CallP Tryz.prog 166 [] (.p (ratP 0)) [] := by
  refine callG_of_vc (wr := wr0) Γok mixed Tryz.func166 (by kernel_rfl) rfl (by kernel_rfl) (le_of_ble rfl) (by simp) ?_
  refine SRet.pure ?_
  rw [ratP_zero]
  exact conv3 ⟨rfl, rfl, rfl⟩ (.p _ (.bool _)) (.p _ (.sl _ _ (fun e he => by simp at he))) (frz1 rfl)
theorem dright_ok (m : Bool) (n : Nat) (f : Nat → Rat) {k : Nat} (hf : ∀ i, i < n → Bz (f i) k) (hk : k ≤ 1048576) (hn : n ≤ 1000000) : CallP Tryz.prog 109 [ratsM m (lst n f)] (.p (.bool true)) [] := by
  refine callG_of_vc (wr := wr0) Γok mixed Tryz.func109 (by kernel_rfl) rfl (by kernel_rfl) (le_of_ble rfl) (by simp) ?_
  refine SZ.mk (n : Int) (by simp [lst]) ?_
  refine SLoop.mk Nat (fun i => ([(5, .p (ratsM m (lst n f))), (6, .p (.int .i64 n)), (7, .p (.int .i64 i))], [])) (fun i => i ≤ n) (fun i => n - i) 0 [] (Nat.zero_le _) ⟨rfl, .nil, rfl, rfl, rfl, ⟨rfl, rfl, rfl, trivial⟩, trivial⟩ ?_
  intro i h1
  have h1 : i ≤ n := h1
  by_cases hi : i < n
  · refine SCmp.yes (decide_eq_true (by omega)) ?_
    refine SIdx.rf i rfl hi ?_
    refine SCall.pure (ratright_ok (f i) (hf i hi).sz (by omega)) ?_
    refine SCmp.no (rfl) ?_
    refine SWrap.i64z ((i + 1 : Nat) : Int) (by omega) (by omega) ?_
    exact ⟨i + 1, [], hi, by show n - (i + 1) < n - i; omega, ⟨rfl, .nil, rfl, rfl, rfl, ⟨rfl, rfl, rfl, trivial⟩, trivial⟩⟩
  · refine SCmp.no (decide_eq_false (by omega)) ?_
    exact SRet.pure (.tf _)
theorem dsquare_ok (m m' : Bool) (n : Nat) (A : Nat → Nat → Rat) {k : Nat} (hA : ∀ i j, i < n → j < n → Bz (A i j) k) (hk : k ≤ 1048576) (h0 : 0 < n) (hn : n ≤ 1000000) : CallP Tryz.prog 108 [matP m m' n n A] (.p (.bool true)) [] := by
  refine callG_of_vc (wr := wr0) Γok mixed Tryz.func108 (by kernel_rfl) rfl (by kernel_rfl) (le_of_ble rfl) (by simp) ?_
  refine SZ.mk (n : Int) (by simp) ?_
  refine SZ.mk (n : Int) (by simp) ?_
  refine SLoop.mk Nat (fun i => ([(3, .p (.int .i64 n)), (8, .p (matP m m' n n A)), (9, .p (.int .i64 n)), (10, .p (.int .i64 i))], [])) (fun i => i ≤ n) (fun i => n - i) 0 [] (Nat.zero_le _) ⟨rfl, .nil, rfl, rfl, rfl, ⟨rfl, rfl, rfl, rfl, trivial⟩, trivial⟩ ?_
  intro i h1
  have h1 : i ≤ n := h1
  by_cases hi : i < n
  · refine SCmp.yes (decide_eq_true (by omega)) ?_
    refine SIdx.mf i rfl hi ?_
    refine SZ.mk (n : Int) (by simp [lst]) ?_
    refine SCmp.no (by simp) ?_
    refine SCall.pure (dright_ok m' n (A i) (fun j hj => hA i j hi hj) hk hn) ?_
    refine SCmp.no (rfl) ?_
    refine SWrap.i64z ((i + 1 : Nat) : Int) (by omega) (by omega) ?_
    exact ⟨i + 1, [], hi, by show n - (i + 1) < n - i; omega, ⟨rfl, .nil, rfl, rfl, rfl, ⟨rfl, rfl, rfl, rfl, trivial⟩, trivial⟩⟩
  · refine SCmp.no (decide_eq_false (by omega)) ?_
    refine SCmp.yes (decide_eq_true (by omega)) ?_
    exact SRet.pure (.tf _)
theorem ddot_ok (m m' : Bool) (n : Nat) (f g : Nat → Rat) {a b : Nat} (hf : ∀ k, k < n → Bz (f k) a) (hg : ∀ k, k < n → Bz (g k) b) (hb : n * (a + b + 1) + 1 + (a + b) + 1 ≤ 1048576) (hn : n ≤ 1000000) : CallP Tryz.prog 110 [ratsM m (lst n f), ratsM m' (lst n g)] (.p (ratP (sm n fun k => f k * g k))) [] := by
  refine callG_of_vc (wr := wr0) Γok mixed Tryz.func110 (by kernel_rfl) rfl (by kernel_rfl) (le_of_ble rfl) (by simp) ?_
  refine SCall.pure (dzero_ok) ?_
  refine SZ.mk (n : Int) (by simp [lst]) ?_
  refine SZ.mk (n : Int) (by simp [lst]) ?_
  refine SZ.mk (n : Int) (by simp) ?_
  refine SLoop.mk (Nat × Rat) (fun (j, s) => ([(0, .p (ratsM m (lst n f))), (1, .p (ratsM m' (lst n g))), (4, .bptr 0 0), (5, .bptr 1 0), (12, .p (.int .i64 n)), (13, .p (.int .i64 j))], [.box 38 [.p (.bool false), .p (.sl false 1 []), .p (.sl false 1 [])], .box 38 (bxQ s)]))
    (fun (j, s) => j ≤ n ∧ s = sm j fun k => f k * g k) (fun x => n - x.1) (0, 0) [0, 1] ⟨Nat.zero_le _, rfl⟩ ⟨rfl, by simp, rfl, rfl, rfl, ⟨rfl, rfl, rfl, rfl, rfl, rfl, trivial⟩, ⟨rfl, rfl, trivial⟩⟩ ?_
  intro ⟨j, s⟩ ⟨hj, hs⟩
  have zs : Bz s (j * (a + b + 1) + 1) := by rw [hs]; exact apl_bz (A := fun _ => f) (i := 0) hf hg j hj
  have hjw : j * (a + b + 1) ≤ n * (a + b + 1) := Nat.mul_le_mul_right _ hj
  by_cases hjn : j < n
  · refine SCmp.yes (decide_eq_true (by omega)) ?_
    have z1 := (hf j hjn).mul (hg j hjn)
    refine SDraw.mkX (by kernel_rfl) ?_
    repeat refine SOp.mk _ _ (And.intro rfl rfl) rfl ?_
    refine SOp.mk _ _ (SIdx.rf j rfl hjn (And.intro rfl rfl)) rfl ?_
    repeat refine SOp.mk _ _ (And.intro rfl rfl) rfl ?_
    refine SOp.mk _ _ (SIdx.rf j rfl hjn (And.intro rfl rfl)) rfl ?_
    repeat refine SOp.mk _ _ (And.intro rfl rfl) rfl ?_
    refine SOp.mk _ _ (SCall.pure (ratmul_ok _ _ (hf j hjn).sz (hg j hjn).sz (by omega)) (And.intro rfl rfl)) rfl ?_
    refine SOp.mk _ _ (SCall.pure (ratadd_ok _ _ zs.sz z1.sz (by omega)) (And.intro rfl rfl)) rfl ?_
    repeat refine SOp.mk _ _ (And.intro rfl rfl) rfl ?_
    refine SFin.mk (by kernel_rfl) ?_
    refine SWrap.i64z ((j + 1 : Nat) : Int) (by omega) (by omega) ?_
    exact ⟨(j + 1, _), [0, 1], ⟨hjn, by rw [hs]; rfl⟩, by show n - (j + 1) < n - j; omega, ⟨rfl, by simp, rfl, rfl, rfl, ⟨rfl, rfl, rfl, rfl, rfl, rfl, trivial⟩, ⟨rfl, rfl, trivial⟩⟩⟩
  · refine SCmp.no (decide_eq_false (by omega)) ?_
    obtain rfl : j = n := by omega
    subst hs
    exact SRet.pure (.p _ (pers_rat _ _ _))
theorem dapply_ok (m m' m'' : Bool) (n : Nat) (A : Nat → Nat → Rat) (y : Nat → Rat) {a b : Nat} (hA : ∀ i k, i < n → k < n → Bz (A i k) a) (hy : ∀ k, k < n → Bz (y k) b) (h0 : 0 < n) (hn : n ≤ 1000) (hb : n * (a + b + 1) + 1 + (a + b) + 1 ≤ 1048576) :
    CallP Tryz.prog 44 [matP m m' n n A, ratsM m'' (lst n y)] (.vec 0 3 0 n) [.vec 38 3 (rats (lst n (apl n A y)))] := by
  refine callG_of_vc (wr := wr0) Γok mixed Tryz.func44 (by kernel_rfl) rfl (by kernel_rfl) (le_of_ble rfl) (by simp) ?_
  refine SCall.pure (dsquare_ok m m' n A hA (by omega) h0 (by omega)) ?_
  refine SCmp.no (rfl) ?_
  refine SZ.mk (n : Int) (by simp [lst]) ?_
  refine SZ.mk (n : Int) (by simp) ?_
  refine SCmp.no (by simp) ?_
  refine SCall.pure (dright_ok m'' n y hy (by omega) (by omega)) ?_
  refine SCmp.no (rfl) ?_
  refine SZ.mk (n : Int) (by simp) ?_
  refine SZ.mk (n : Int) rfl ?_
  refine SLt.mk (by simp) ?_
  refine SMake.rat n rfl (by omega) ?_
  refine SZ.mk (n : Int) (by simp) ?_
  refine SLoop.mk Nat (fun i => ([(1, .p (ratsM m'' (lst n y))), (5, .vec 0 3 0 n), (26, .p (matP m m' n n A)), (27, .p (.int .i64 n)), (28, .p (.int .i64 i))], [.vec 38 3 (fl n fun k => if k < i then ratP (apl n A y k) else rat0)]))
    (fun i => i ≤ n) (fun i => n - i) 0 [0] (Nat.zero_le _) ⟨rfl, by simp, rfl, rfl, rfl, ⟨rfl, rfl, rfl, rfl, rfl, trivial⟩, ⟨congrArg _ ((fl_congr fun k hk => if_neg (by omega)).trans (replicate_fl n rat0).symm), trivial⟩⟩ ?_
  intro i h1
  have h1 : i ≤ n := h1
  by_cases hi : i < n
  · refine SCmp.yes (decide_eq_true (by omega)) ?_
    refine SIdx.mf i rfl hi ?_
    refine SCall.pure (ddot_ok m' m'' n (A i) y (fun k hk => hA i k hi hk) hy hb (by omega)) ?_
    refine SPos.mk i rfl hi ?_
    refine SLt.mk (by simp; omega) ?_
    refine SEs.mk _ (row_step (f := apl n A y) hi) ?_
    refine SWrap.i64z ((i + 1 : Nat) : Int) (by omega) (by omega) ?_
    exact ⟨i + 1, [0], hi, by show n - (i + 1) < n - i; omega, ⟨rfl, by simp, rfl, rfl, rfl, ⟨rfl, rfl, rfl, rfl, rfl, trivial⟩, ⟨rfl, trivial⟩⟩⟩
  · refine SCmp.no (decide_eq_false (by omega)) ?_
    obtain rfl : i = n := by omega
    exact SRet.new 0 rfl (by rw [row_full]; rfl) (pers_rats _)
end Go.Proofs.YtnilcfiemgmfdaaGreat

namespace Go.Proofs.YtnilcfiemgmfdaaGreat
set_option linter.unusedVariables false
set_option maxRecDepth 100000
def zs : Nat → (Nat → Int) → Int
  | 0, _ => 0
  | n + 1, f => zs n f + f n
theorem zs_congr {f g : Nat → Int} : ∀ {n : Nat}, (∀ i, i < n → f i = g i) → zs n f = zs n g := by
  intro n
  induction n with
  | zero => exact fun _ => rfl
  | succ n ih => intro h; simp only [zs]; rw [ih fun i hi => h i (by omega), h n (by omega)]
theorem zs_add (f g : Nat → Int) : ∀ n, zs n (fun i => f i + g i) = zs n f + zs n g := by
  intro n
  induction n with
  | zero => rfl
  | succ n ih => simp only [zs]; rw [ih]; omega
theorem zs_sub (f g : Nat → Int) : ∀ n, zs n (fun i => f i - g i) = zs n f - zs n g := by
  intro n
  induction n with
  | zero => rfl
  | succ n ih => simp only [zs]; rw [ih]; omega
theorem zs_smul (a : Int) (f : Nat → Int) : ∀ n, zs n (fun i => a * f i) = a * zs n f := by
  intro n
  induction n with
  | zero => exact (Int.mul_zero a).symm
  | succ n ih => simp only [zs]; rw [ih, Int.mul_add]
theorem zs_mulr (a : Int) (f : Nat → Int) (n : Nat) : zs n (fun i => f i * a) = zs n f * a := by
  rw [Int.mul_comm, ← zs_smul]; exact zs_congr fun i _ => Int.mul_comm _ _
theorem zs_zero {f : Nat → Int} : ∀ {n : Nat}, (∀ i, i < n → f i = 0) → zs n f = 0 := by
  intro n
  induction n with
  | zero => exact fun _ => rfl
  | succ n ih => intro h; simp only [zs]; rw [ih fun i hi => h i (by omega), h n (by omega)]; rfl
theorem zs_comm {F : Nat → Nat → Int} {m : Nat} : ∀ n, zs n (fun i => zs m fun j => F i j) = zs m fun j => zs n fun i => F i j := by
  intro n
  induction n with
  | zero => exact (zs_zero fun _ _ => rfl).symm
  | succ n ih => simp only [zs]; rw [ih, ← zs_add]
theorem zs_one {n j : Nat} (hj : j < n) (b : Nat → Int) : zs n (fun i => if i = j then b i else 0) = b j := by
  induction n with
  | zero => exact absurd hj (Nat.not_lt_zero _)
  | succ n ih =>
    simp only [zs]
    by_cases e : j = n
    · rw [if_pos e.symm, zs_zero fun i hi => if_neg (by omega), e]; omega
    · rw [if_neg (by omega), ih (by omega)]; omega
def pP : Nat := 998244353
def Cg (a b : Int) : Prop := a % (pP : Int) = b % (pP : Int)
theorem Cg.refl (a : Int) : Cg a a := rfl
theorem Cg.symm {a b : Int} (h : Cg a b) : Cg b a := Eq.symm h
theorem Cg.trans {a b c : Int} (h : Cg a b) (h' : Cg b c) : Cg a c := Eq.trans h h'
theorem Cg.add {a b c d : Int} (h : Cg a b) (h' : Cg c d) : Cg (a + c) (b + d) := by
  unfold Cg at *
  rw [Int.add_emod, h, h', ← Int.add_emod]
theorem Cg.sub {a b c d : Int} (h : Cg a b) (h' : Cg c d) : Cg (a - c) (b - d) := by
  unfold Cg at *
  rw [Int.sub_emod, h, h', ← Int.sub_emod]
theorem Cg.mul {a b c d : Int} (h : Cg a b) (h' : Cg c d) : Cg (a * c) (b * d) := by
  unfold Cg at *
  rw [Int.mul_emod, h, h', ← Int.mul_emod]
theorem Cg.mod (a : Nat) : Cg ((a % pP : Nat) : Int) (a : Int) := by
  unfold Cg
  rw [Int.natCast_emod, Int.emod_emod]
theorem Cg.zs {f g : Nat → Int} : ∀ {n : Nat}, (∀ i, i < n → Cg (f i) (g i)) → Cg (zs n f) (zs n g) := by
  intro n
  induction n with
  | zero => exact fun _ => .refl _
  | succ n ih => intro h; exact (ih fun i hi => h i (by omega)).add (h n (by omega))
/-- The difference, as it is made. -/
theorem Cg.less (a b : Nat) : Cg (((a + (pP - b % pP)) % pP : Nat) : Int) ((a : Int) - b) := by
  refine (Cg.mod _).trans ?_
  have h : b % pP < pP := Nat.mod_lt _ (by decide)
  rw [Int.natCast_add, Int.ofNat_sub (by omega)]
  refine ((Cg.refl _).add ((Cg.refl _).sub (Cg.mod b))).trans ?_
  unfold Cg pP
  omega
def ati (w : Nat) : Nat → Nat
  | 0 => 1
  | i + 1 => ati w i * w % pP
def stage (w h : Nat) (x : Nat → Nat) (t : Nat) : Nat :=
  if t % (2 * h) < h then (x t + x (t + h) * ati w (t % (2 * h)) % pP) % pP else (x (t - h) + (pP - x t * ati w (t % (2 * h) - h) % pP % pP)) % pP
def stageZ (w h : Nat) (x : Nat → Int) (t : Nat) : Int :=
  if t % (2 * h) < h then x t + x (t + h) * (ati w (t % (2 * h)) : Int) else x (t - h) - x t * (ati w (t % (2 * h) - h) : Int)
theorem stage_cg {w h : Nat} {x : Nat → Nat} {X : Nat → Int} (hx : ∀ t, Cg (x t) (X t)) (t : Nat) : Cg (stage w h x t) (stageZ w h X t) := by
  unfold stage stageZ
  split
  · refine (Cg.mod _).trans ?_
    rw [Int.natCast_add]
    refine (hx t).add ((Cg.mod _).trans ?_)
    rw [Int.natCast_mul]
    exact (hx _).mul (.refl _)
  · refine (Cg.less _ _).trans ((hx _).sub ((Cg.mod _).trans ?_))
    rw [Int.natCast_mul]
    exact (hx _).mul (.refl _)
theorem stageZ_lin {w h n : Nat} {c : Nat → Int} {E : Nat → Nat → Int} (t : Nat) : stageZ w h (fun t => zs n fun j => c j * E j t) t = zs n fun j => c j * stageZ w h (E j) t := by
  unfold stageZ
  split
  · rw [← zs_mulr, ← zs_add]; exact zs_congr fun j _ => by rw [Int.mul_add, Int.mul_assoc]
  · rw [← zs_mulr, ← zs_sub]; exact zs_congr fun j _ => by rw [Int.mul_sub, Int.mul_assoc]
/-- All steps: w s is the root of the step s. -/
def runs (w : Nat → Nat) (x : Nat → Nat) : Nat → Nat → Nat
  | 0 => x
  | s + 1 => stage (w (s + 1)) (2 ^ s) (runs w x s)
def runZ (w : Nat → Nat) (x : Nat → Int) : Nat → Nat → Int
  | 0 => x
  | s + 1 => stageZ (w (s + 1)) (2 ^ s) (runZ w x s)
theorem runs_cg {w : Nat → Nat} {x : Nat → Nat} {X : Nat → Int} (hx : ∀ t, Cg (x t) (X t)) : ∀ s t, Cg (runs w x s t) (runZ w X s t) := by
  intro s
  induction s with
  | zero => exact hx
  | succ s ih => exact fun t => stage_cg ih t
theorem runZ_lin {w : Nat → Nat} {n : Nat} {c : Nat → Int} {E : Nat → Nat → Int} : ∀ s t, runZ w (fun t => zs n fun j => c j * E j t) s t = zs n fun j => c j * runZ w (E j) s t := by
  intro s
  induction s with
  | zero => exact fun _ => rfl
  | succ s ih =>
    intro t
    have e : runZ w (fun t => zs n fun j => c j * E j t) s = fun t => zs n fun j => c j * runZ w (E j) s t := funext ih
    simp only [runZ]
    rw [e]; exact stageZ_lin t
/-- One at a place. -/
def dl (j : Nat) : Nat → Nat := fun t => if t = j then 1 else 0
/-- What a run makes of numbers is so many times what it makes of each one. -/
theorem runs_sum {w : Nat → Nat} {n k : Nat} {l : Nat → Nat} {r : Nat → Nat} (hl : ∀ j, n ≤ j → l j = 0) (hr : ∀ t, t < n → r t < n) (hr2 : ∀ t, n ≤ t → n ≤ r t) (t : Nat) :
    Cg (runs w (fun t => l (r t)) k t) (zs n fun j => (l j : Int) * (runs w (fun t => dl j (r t)) k t : Int)) := by
  have h1 : ∀ t, Cg ((l (r t) : Nat) : Int) (zs n fun j => (l j : Int) * ((dl j (r t) : Nat) : Int)) := fun t => by
    by_cases c : r t < n
    · have : (zs n fun j => (l j : Int) * ((dl j (r t) : Nat) : Int)) = (l (r t) : Int) := by
        rw [zs_congr (g := fun j => if j = r t then (l j : Int) else 0) fun j _ => ?_]
        · exact zs_one c fun j => (l j : Int)
        · unfold dl
          by_cases e : r t = j
          · rw [if_pos e, if_pos e.symm]; omega
          · rw [if_neg e, if_neg (Ne.symm e)]; omega
      rw [this]; exact .refl _
    · rw [hl _ (by omega), zs_zero fun j hj => by unfold dl; rw [if_neg (by omega)]; omega]; exact .refl _
  refine (runs_cg h1 k t).trans ?_
  rw [runZ_lin (E := fun j t => ((dl j (r t) : Nat) : Int))]
  exact Cg.zs fun j _ => (Cg.refl _).mul (runs_cg (x := fun t => dl j (r t)) (fun _ => .refl _) k t).symm
def pwm : Nat → Nat → Nat → Nat → Nat
  | 0, o, _, _ => o
  | f + 1, o, a, n => if n = 0 then o else pwm f (if n % 2 = 1 then o * a % pP else o) (a * a % pP) (n / 2)
/-- The roots of the steps. -/
def rtF (k : Nat) : Nat := pwm 64 1 3 (998244352 / 2 ^ k)
def rtB (k : Nat) : Nat := pwm 64 1 (rtF k) 998244351
/-- Places whose digits are read from the other end. -/
def rvG : Nat → Nat → Nat
  | 0, _ => 0
  | k + 1, t => t % 2 * 2 ^ k + rvG k (t / 2)
def rv (k t : Nat) : Nat := if t < 2 ^ k then rvG k t else t
def trF (k : Nat) (l : Nat → Nat) (t : Nat) : Nat := runs rtF (fun t => l (rv k t)) k t * 1 % pP
def trB (k : Nat) (l : Nat → Nat) (t : Nat) : Nat := runs rtB (fun t => l (rv k t)) k t * pwm 64 1 (2 ^ k) 998244351 % pP
def tB : List Nat := [1, 452798380, 929031873, 666194801, 372528824, 170256584, 628914303, 863921598, 911660635, 617152567, 373294451, 543653592, 488723995, 645684063, 661054123, 910687289, 998244352, 545445973, 69212480, 332049552, 625715529, 827987769, 369330050, 134322755, 86583718, 381091786, 624949902, 454590761, 509520358, 352560290, 337190230, 87557064]
def tb (i : Nat) : Nat := tB.getD (i % 32) 0
def allB (n : Nat) (p : Nat → Bool) : Bool := (List.range n).all p
theorem allB_ok {n : Nat} {p : Nat → Bool} (h : allB n p = true) {i : Nat} (hi : i < n) : p i = true := List.all_eq_true.1 h i (by simpa using hi)
/-- The sizes that are looked at. -/
def Kk (k : Nat) : Prop := k = 0 ∨ k = 2 ∨ k = 3 ∨ k = 4 ∨ k = 5
theorem tb_eq {a b : Nat} (h : a % 32 = b % 32) : tb a = tb b := by unfold tb; rw [h]
theorem tb_mul (a b : Nat) : Cg ((tb a : Int) * tb b) (tb (a + b)) := by
  have h : allB 32 (fun a => allB 32 fun b => (tb a * tb b) % pP == tb (a + b) % pP) = true := by decide +kernel
  have h1 := allB_ok (allB_ok h (i := a % 32) (by omega)) (i := b % 32) (by omega)
  have h1 : (tb (a % 32) * tb (b % 32)) % pP = tb (a % 32 + b % 32) % pP := by simpa using h1
  rw [tb_eq (a := a % 32) (b := a) (by omega), tb_eq (a := b % 32) (b := b) (by omega), tb_eq (a := a % 32 + b % 32) (b := a + b) (by omega)] at h1
  unfold Cg
  rw [← Int.natCast_mul, ← Int.natCast_emod, h1, Int.natCast_emod]
def chkF (k : Nat) : Bool := allB (2 ^ k) fun j => allB (2 ^ k) fun t => runs rtF (fun t => dl j (rv k t)) k t == tb (t * j * 2 ^ (5 - k))
def chkB (k : Nat) : Bool := allB (2 ^ k) fun j => allB (2 ^ k) fun t => runs rtB (fun t => dl j (rv k t)) k t == tb (32 - t * j * 2 ^ (5 - k) % 32)
theorem chkF_ok {k : Nat} (h : Kk k) : chkF k = true := by
  rcases h with rfl | rfl | rfl | rfl | rfl
  · decide +kernel
  · decide +kernel
  · decide +kernel
  · decide +kernel
  · decide +kernel
theorem chkB_ok {k : Nat} (h : Kk k) : chkB k = true := by
  rcases h with rfl | rfl | rfl | rfl | rfl
  · decide +kernel
  · decide +kernel
  · decide +kernel
  · decide +kernel
  · decide +kernel
theorem rv_lt {k t : Nat} (h : Kk k) (ht : t < 2 ^ k) : rv k t < 2 ^ k := by
  have key : ∀ k, Kk k → allB (2 ^ k) (fun t => decide (rv k t < 2 ^ k)) = true := fun k h => by rcases h with rfl | rfl | rfl | rfl | rfl <;> decide +kernel
  simpa using allB_ok (key k h) ht
theorem rv_rv {k t : Nat} (h : Kk k) (ht : t < 2 ^ k) : rv k (rv k t) = t := by
  have key : ∀ k, Kk k → allB (2 ^ k) (fun t => rv k (rv k t) == t) = true := fun k h => by rcases h with rfl | rfl | rfl | rfl | rfl <;> decide +kernel
  simpa using allB_ok (key k h) ht
theorem rv_ge {k t : Nat} (ht : 2 ^ k ≤ t) : 2 ^ k ≤ rv k t := by unfold rv; rw [if_neg (by omega)]; exact ht
theorem orth {k : Nat} (h : Kk k) {s : Nat} (hs : s < 2 ^ k) : Cg (zs (2 ^ k) fun i => (tb (i * s * 2 ^ (5 - k)) : Int)) (if s = 0 then 2 ^ k else 0) := by
  have key : ∀ k, Kk k → allB (2 ^ k) (fun s => (zs (2 ^ k) fun i => (tb (i * s * 2 ^ (5 - k)) : Int)) % (pP : Int) == (if s = 0 then 2 ^ k else 0) % (pP : Int)) = true := fun k h => by rcases h with rfl | rfl | rfl | rfl | rfl <;> decide +kernel
  unfold Cg
  simpa using allB_ok (key k h) hs
theorem ninv {k : Nat} (h : Kk k) : Cg ((pwm 64 1 (2 ^ k) 998244351 : Int) * 2 ^ k) 1 := by
  rcases h with rfl | rfl | rfl | rfl | rfl <;> (unfold Cg; decide +kernel)
theorem n32 {k : Nat} (h : Kk k) : 2 ^ k * 2 ^ (5 - k) = 32 := by rcases h with rfl | rfl | rfl | rfl | rfl <;> rfl
theorem trF_cg {k : Nat} (h : Kk k) {l : Nat → Nat} (hl : ∀ j, 2 ^ k ≤ j → l j = 0) {t : Nat} (ht : t < 2 ^ k) : Cg (trF k l t) (zs (2 ^ k) fun j => (l j : Int) * tb (t * j * 2 ^ (5 - k))) := by
  unfold trF
  refine (Cg.mod _).trans ?_
  rw [Nat.mul_one]
  refine (runs_sum hl (fun t => rv_lt h) (fun t => rv_ge) t).trans (Cg.zs fun j hj => ?_)
  have := allB_ok (allB_ok (chkF_ok h) hj) ht
  have : runs rtF (fun t => dl j (rv k t)) k t = tb (t * j * 2 ^ (5 - k)) := by simpa using this
  rw [this]; exact .refl _
theorem trB_cg {k : Nat} (h : Kk k) {l : Nat → Nat} (hl : ∀ j, 2 ^ k ≤ j → l j = 0) {t : Nat} (ht : t < 2 ^ k) : Cg (trB k l t) ((zs (2 ^ k) fun j => (l j : Int) * tb (32 - t * j * 2 ^ (5 - k) % 32)) * (pwm 64 1 (2 ^ k) 998244351 : Int)) := by
  unfold trB
  refine (Cg.mod _).trans ?_
  rw [Int.natCast_mul]
  refine Cg.mul ?_ (.refl _)
  refine (runs_sum hl (fun t => rv_lt h) (fun t => rv_ge) t).trans (Cg.zs fun j hj => ?_)
  have := allB_ok (allB_ok (chkB_ok h) hj) ht
  have : runs rtB (fun t => dl j (rv k t)) k t = tb (32 - t * j * 2 ^ (5 - k) % 32) := by simpa using this
  rw [this]; exact .refl _
/-- The transforms' product, gone back, is the product of polynomials. -/
theorem conv_ok {k la lb : Nat} (h : Kk k) {a b : Nat → Nat} (ha : ∀ j, la ≤ j → a j = 0) (hb : ∀ j, lb ≤ j → b j = 0) (hn : la + lb ≤ 2 ^ k + 1) {t : Nat} (ht : t < 2 ^ k) :
    Cg (trB k (fun i => if i < 2 ^ k then trF k a i * trF k b i % pP else 0) t) (zs (2 ^ k) fun j => zs (2 ^ k) fun l => if j + l = t then (a j : Int) * b l else 0) := by
  have n0 : 0 < 2 ^ k := Nat.pow_pos (by decide)
  have ha' : ∀ j, 2 ^ k ≤ j → a j = 0 ∨ lb = 0 := fun j hj => by
    rcases Nat.eq_zero_or_pos lb with e | e
    · exact .inr e
    · exact .inl (ha j (by omega))
  by_cases e0 : lb = 0
  · -- nothing
    have hb0 : ∀ j, b j = 0 := fun j => hb j (by omega)
    have hF : ∀ i, i < 2 ^ k → Cg (trF k b i) 0 := fun i hi => (trF_cg h (fun j _ => hb0 j) hi).trans (by rw [zs_zero fun j _ => by rw [hb0 j]; exact Int.zero_mul _]; exact .refl _)
    refine (trB_cg h (fun j hj => if_neg (by omega)) ht).trans ?_
    rw [zs_zero (n := 2 ^ k) (f := fun j => zs (2 ^ k) fun l => if j + l = t then (a j : Int) * b l else 0) fun j _ => zs_zero fun l _ => by rw [hb0 l]; split <;> simp]
    have : Cg (zs (2 ^ k) fun j => (((if j < 2 ^ k then trF k a j * trF k b j % pP else 0 : Nat)) : Int) * tb (32 - t * j * 2 ^ (5 - k) % 32)) (zs (2 ^ k) fun _ => 0) := Cg.zs fun j hj => by
      rw [if_pos hj]
      refine (((Cg.mod _).trans (by rw [Int.natCast_mul]; exact (Cg.refl _).mul (hF j hj))).mul (.refl _)).trans ?_
      rw [Int.mul_zero, Int.zero_mul]; exact .refl _
    refine (this.mul (.refl _)).trans ?_
    rw [zs_zero fun _ _ => rfl, Int.zero_mul]; exact .refl _
  by_cases e1 : la = 0
  · have ha0 : ∀ j, a j = 0 := fun j => ha j (by omega)
    have hF : ∀ i, i < 2 ^ k → Cg (trF k a i) 0 := fun i hi => (trF_cg h (fun j _ => ha0 j) hi).trans (by rw [zs_zero fun j _ => by rw [ha0 j]; exact Int.zero_mul _]; exact .refl _)
    refine (trB_cg h (fun j hj => if_neg (by omega)) ht).trans ?_
    rw [zs_zero (n := 2 ^ k) (f := fun j => zs (2 ^ k) fun l => if j + l = t then (a j : Int) * b l else 0) fun j _ => zs_zero fun l _ => by rw [ha0 j]; split <;> simp]
    have : Cg (zs (2 ^ k) fun j => (((if j < 2 ^ k then trF k a j * trF k b j % pP else 0 : Nat)) : Int) * tb (32 - t * j * 2 ^ (5 - k) % 32)) (zs (2 ^ k) fun _ => 0) := Cg.zs fun j hj => by
      rw [if_pos hj]
      refine (((Cg.mod _).trans (by rw [Int.natCast_mul]; exact (hF j hj).mul (.refl _))).mul (.refl _)).trans ?_
      rw [Int.zero_mul, Int.zero_mul]; exact .refl _
    refine (this.mul (.refl _)).trans ?_
    rw [zs_zero fun _ _ => rfl, Int.zero_mul]; exact .refl _
  have hla : ∀ j, 2 ^ k ≤ j → a j = 0 := fun j hj => ha j (by omega)
  have hlb : ∀ j, 2 ^ k ≤ j → b j = 0 := fun j hj => hb j (by omega)
  -- the product at a place
  have hy : ∀ i, i < 2 ^ k → Cg ((trF k a i * trF k b i % pP : Nat) : Int) (zs (2 ^ k) fun j => zs (2 ^ k) fun l => (a j : Int) * b l * tb (i * (j + l) * 2 ^ (5 - k))) := fun i hi => by
    refine (Cg.mod _).trans ?_
    rw [Int.natCast_mul]
    refine ((trF_cg h hla hi).mul (trF_cg h hlb hi)).trans ?_
    rw [← zs_mulr]
    refine Cg.zs fun j _ => ?_
    rw [← zs_smul]
    refine Cg.zs fun l _ => ?_
    have e : (a j : Int) * tb (i * j * 2 ^ (5 - k)) * ((b l : Int) * tb (i * l * 2 ^ (5 - k))) = (a j : Int) * b l * ((tb (i * j * 2 ^ (5 - k)) : Int) * tb (i * l * 2 ^ (5 - k))) := by
      rw [Int.mul_assoc, Int.mul_assoc, Int.mul_left_comm (tb (i * j * 2 ^ (5 - k)) : Int)]
    rw [e]
    refine (Cg.refl _).mul ((tb_mul _ _).trans ?_)
    rw [tb_eq (b := i * (j + l) * 2 ^ (5 - k)) (by rw [Nat.mul_add, Nat.add_mul])]; exact .refl _
  refine (trB_cg h (fun j hj => if_neg (by omega)) ht).trans ?_
  have h1 : Cg (zs (2 ^ k) fun i => (((if i < 2 ^ k then trF k a i * trF k b i % pP else 0 : Nat)) : Int) * tb (32 - t * i * 2 ^ (5 - k) % 32)) (zs (2 ^ k) fun i => zs (2 ^ k) fun j => zs (2 ^ k) fun l => (a j : Int) * b l * tb (i * ((j + l + 2 ^ k - t) % 2 ^ k) * 2 ^ (5 - k))) := Cg.zs fun i hi => by
    rw [if_pos hi]
    refine ((hy i hi).mul (.refl _)).trans ?_
    rw [← zs_mulr]
    refine Cg.zs fun j _ => ?_
    rw [← zs_mulr]
    refine Cg.zs fun l _ => ?_
    rw [Int.mul_assoc]
    refine (Cg.refl _).mul ((tb_mul _ _).trans ?_)
    rw [tb_eq (b := i * ((j + l + 2 ^ k - t) % 2 ^ k) * 2 ^ (5 - k))]
    · exact .refl _
    · -- the exponents are the same
      obtain ⟨d, hd⟩ : ∃ d, d = j + l + 2 ^ k - t := ⟨_, rfl⟩
      have e32 := n32 h
      rw [← hd]
      have key : i * (d % 2 ^ k) * 2 ^ (5 - k) % 32 = i * d * 2 ^ (5 - k) % 32 := by
        conv => rhs; rw [← Nat.div_add_mod d (2 ^ k)]
        rw [Nat.mul_add, Nat.add_mul]
        have : i * (2 ^ k * (d / 2 ^ k)) * 2 ^ (5 - k) = 32 * (i * (d / 2 ^ k)) := by
          rw [← e32]
          simp only [Nat.mul_assoc, Nat.mul_comm, Nat.mul_left_comm]
        rw [this]; omega
      rw [key]
      have e2 : i * d * 2 ^ (5 - k) + t * i * 2 ^ (5 - k) = i * (j + l) * 2 ^ (5 - k) + 32 * i := by
        have hdt : d + t = j + l + 2 ^ k := by omega
        have : i * d * 2 ^ (5 - k) + t * i * 2 ^ (5 - k) = i * (d + t) * 2 ^ (5 - k) := by rw [Nat.mul_add, Nat.add_mul, Nat.mul_comm t i]
        rw [this, hdt, Nat.mul_add i, Nat.add_mul, Nat.mul_assoc i (2 ^ k), e32, Nat.mul_comm i 32]
      generalize t * i * 2 ^ (5 - k) = u at e2 ⊢
      generalize i * d * 2 ^ (5 - k) = v at e2 ⊢
      generalize i * (j + l) * 2 ^ (5 - k) = w at e2 ⊢
      omega
  refine (h1.mul (.refl _)).trans ?_
  rw [zs_comm, ← zs_mulr]
  refine Cg.zs fun j hj => ?_
  rw [zs_comm, ← zs_mulr]
  refine Cg.zs fun l hl => ?_
  have e3 : (zs (2 ^ k) fun i => (a j : Int) * b l * tb (i * ((j + l + 2 ^ k - t) % 2 ^ k) * 2 ^ (5 - k))) = (a j : Int) * b l * zs (2 ^ k) fun i => (tb (i * ((j + l + 2 ^ k - t) % 2 ^ k) * 2 ^ (5 - k)) : Int) := zs_smul _ _ _
  rw [e3, Int.mul_assoc]
  refine ((Cg.refl _).mul ((orth h (Nat.mod_lt _ n0)).mul (.refl _))).trans ?_
  by_cases hz : (a j : Int) * b l = 0
  · rw [hz, Int.zero_mul]; split <;> exact .refl _
  · have hj2 : j < la := by
      apply Classical.byContradiction; intro hc
      exact hz (by rw [ha j (by omega)]; exact Int.zero_mul _)
    have hl2 : l < lb := by
      apply Classical.byContradiction; intro hc
      exact hz (by rw [hb l (by omega)]; exact Int.mul_zero _)
    by_cases e : j + l = t
    · have : (j + l + 2 ^ k - t) % 2 ^ k = 0 := by rw [show j + l + 2 ^ k - t = 2 ^ k by omega]; exact Nat.mod_self _
      rw [if_pos this, if_pos e]
      refine ((Cg.refl _).mul (.trans (by rw [Int.mul_comm]; exact .refl _) (ninv h))).trans ?_
      rw [Int.mul_one]; exact .refl _
    · have : (j + l + 2 ^ k - t) % 2 ^ k ≠ 0 := by
        by_cases c : t ≤ j + l
        · rw [show j + l + 2 ^ k - t = (j + l - t) + 2 ^ k by omega, Nat.add_mod_right, Nat.mod_eq_of_lt (by omega)]; omega
        · rw [Nat.mod_eq_of_lt (by omega)]; omega
      rw [if_neg this, if_neg e, Int.zero_mul, Int.mul_zero]; exact .refl _
end Go.Proofs.YtnilcfiemgmfdaaGreat

namespace Go.Proofs.YtnilcfiemgmfdaaGreat
open Go
set_option linter.unusedVariables false
set_option linter.unusedSimpArgs false
set_option maxRecDepth 10000
theorem mod_lt_pP (a : Nat) : a % pP < pP := Nat.mod_lt _ (by decide)
theorem ftimes_ok (a b : Nat) (ha : a < 4294967296) (hb : b < 4294967296) : CallP Tryz.prog 49 [.int .u32 a, .int .u32 b] (.p (.int .u32 ((a * b % pP : Nat) : Int))) [] := by
  have h1 := Nat.mul_lt_mul'' ha hb
  have h2 := mod_lt_pP (a * b)
  unfold pP at h2
  refine callG_of_vc (wr := wr0) Γok mixed Tryz.func49 (by kernel_rfl) rfl (by kernel_rfl) (le_of_ble rfl) (by simp) ?_
  refine SWrap.u64z a rfl (by omega) ?_
  refine SWrap.u64z b rfl (by omega) ?_
  refine SWrap.u64z (a * b) (Int.natCast_mul a b).symm (by omega) ?_
  refine SNe.mk (by decide) ?_
  refine SZ.mk ((a * b % pP : Nat) : Int) (by rw [Int.natCast_emod]; exact Int.tmod_eq_emod_of_nonneg (Int.natCast_nonneg _)) ?_
  refine SWrap.u32z (a * b % pP) (by unfold pP; omega) ?_
  exact SRet.pure (.p _ (.int _ _))
theorem fplus_ok (a b : Nat) (ha : a < 4294967296) (hb : b < 4294967296) : CallP Tryz.prog 170 [.int .u32 a, .int .u32 b] (.p (.int .u32 (((a + b) % pP : Nat) : Int))) [] := by
  have h2 := mod_lt_pP (a + b)
  unfold pP at h2
  refine callG_of_vc (wr := wr0) Γok mixed Tryz.func170 (by kernel_rfl) rfl (by kernel_rfl) (le_of_ble rfl) (by simp) ?_
  refine SWrap.u64z a rfl (by omega) ?_
  refine SWrap.u64z b rfl (by omega) ?_
  refine SWrap.u64z (a + b) (Int.natCast_add a b).symm (by omega) ?_
  refine SNe.mk (by decide) ?_
  refine SZ.mk (((a + b) % pP : Nat) : Int) (by rw [Int.natCast_emod]; exact Int.tmod_eq_emod_of_nonneg (Int.natCast_nonneg _)) ?_
  refine SWrap.u32z ((a + b) % pP) (by unfold pP; omega) ?_
  exact SRet.pure (.p _ (.int _ _))
theorem fless_ok (a b : Nat) (ha : a < 4294967296) (hb : b < 4294967296) : CallP Tryz.prog 171 [.int .u32 a, .int .u32 b] (.p (.int .u32 (((a + (pP - b % pP)) % pP : Nat) : Int))) [] := by
  have h2 := mod_lt_pP b
  have h3 : pP = 998244353 := rfl
  refine callG_of_vc (wr := wr0) Γok mixed Tryz.func171 (by kernel_rfl) rfl (by kernel_rfl) (le_of_ble rfl) (by simp) ?_
  refine SNe.mk (by decide) ?_
  refine SZ.mk ((b % pP : Nat) : Int) (by rw [Int.natCast_emod]; exact Int.tmod_eq_emod_of_nonneg (Int.natCast_nonneg _)) ?_
  refine SWrap.u32z (pP - b % pP) (by unfold pP at *; omega) ?_
  refine SCall.pure (fplus_ok a (pP - b % pP) ha (by omega)) ?_
  exact SRet.pure (.p _ (.int _ _))
theorem pwm_lt : ∀ (f o a n : Nat), o < pP → pwm f o a n < pP := by
  intro f
  induction f with
  | zero => exact fun o a n h => h
  | succ f ih =>
    intro o a n h
    rw [pwm]
    split
    · exact h
    · refine ih _ _ _ ?_
      split
      · exact mod_lt_pP _
      · exact h
theorem pwm_zero (f o a : Nat) : pwm f o a 0 = o := by
  cases f with
  | zero => rfl
  | succ f => rw [pwm, if_pos rfl]
theorem and1_u64 (n : Nat) (h : n < 18446744073709551616) : ((BitVec.ofInt 64 (n : Int) &&& BitVec.ofInt 64 1).toNat : Int) = ((n % 2 : Nat) : Int) := by
  rw [BitVec.toNat_and]
  have h1 : (BitVec.ofInt 64 (1 : Int)).toNat = 1 := rfl
  have h2 : (BitVec.ofInt 64 (n : Int)).toNat = n := by rw [BitVec.toNat_ofInt]; omega
  rw [h1, h2, Nat.and_one_is_mod]
theorem fpower_ok (a n : Nat) (ha : a < 4294967296) (hn : n < 18446744073709551616) : CallP Tryz.prog 169 [.int .u32 a, .int .u64 n] (.p (.int .u32 ((pwm 64 1 a n : Nat) : Int))) [] := by
  refine callG_of_vc (wr := wr0) Γok mixed Tryz.func169 (by kernel_rfl) rfl (by kernel_rfl) (le_of_ble rfl) (by simp) ?_
  refine SLoop.mk (Nat × Nat × Nat × Nat) (fun (f, o, a, n) => ([(0, .p (.int .u32 a)), (1, .p (.int .u64 n)), (5, .p (.int .u32 o))], []))
    (fun (f, o, x, m) => pwm f o x m = pwm 64 1 a n ∧ m < 2 ^ f ∧ f ≤ 64 ∧ o < pP ∧ x < 4294967296) (fun x => x.2.2.2) (64, 1, a, n) [] ⟨rfl, by simpa using hn, Nat.le_refl _, by decide, ha⟩ ⟨rfl, .nil, rfl, rfl, rfl, ⟨rfl, rfl, rfl, trivial⟩, trivial⟩ ?_
  intro ⟨f, o, x, m⟩ ⟨h1, h2, h3, h4, h5⟩
  have h6 : pP = 998244353 := rfl
  have h7 : m < 18446744073709551616 := Nat.lt_of_lt_of_le h2 (Nat.pow_le_pow_right (by decide) h3)
  by_cases h0 : m = 0
  · subst h0
    refine SCmp.no (rfl) ?_
    rw [pwm_zero] at h1
    rw [← h1]
    exact SRet.pure (.p _ (.int _ _))
  · refine SCmp.yes (decide_eq_true (by omega)) ?_
    obtain ⟨f, rfl⟩ : ∃ g, f = g + 1 := by
      cases f with
      | zero => simp at h2; exact absurd h2 h0
      | succ f => exact ⟨f, rfl⟩
    rw [pwm, if_neg h0] at h1
    refine SWrap.u64z (m % 2) (and1_u64 m h7) (by omega) ?_
    by_cases hodd : m % 2 = 1
    · refine SCmp.yes (eqT (by rw [hodd]; rfl)) ?_
      refine SCall.pure (ftimes_ok o x (by omega) h5) ?_
      refine SCall.pure (ftimes_ok x x h5 h5) ?_
      rw [if_pos hodd] at h1
      refine SGe.mk (by decide) (SZ.mk ((m / 2 : Nat) : Int) (by show Int.fdiv (m : Int) 2 = _; rw [Int.fdiv_eq_ediv_of_nonneg _ (by decide)]; omega) ?_)
      have hx := mod_lt_pP (x * x)
      exact ⟨(f, _, _, _), [], ⟨h1, by rw [Nat.pow_succ] at h2; omega, by omega, mod_lt_pP _, by omega⟩, by show m / 2 < m; omega, ⟨rfl, .nil, rfl, rfl, rfl, ⟨rfl, rfl, rfl, trivial⟩, trivial⟩⟩
    · refine SCmp.no (eqF (by omega)) ?_
      refine SCall.pure (ftimes_ok x x h5 h5) ?_
      rw [if_neg hodd] at h1
      refine SGe.mk (by decide) (SZ.mk ((m / 2 : Nat) : Int) (by show Int.fdiv (m : Int) 2 = _; rw [Int.fdiv_eq_ediv_of_nonneg _ (by decide)]; omega) ?_)
      have hx := mod_lt_pP (x * x)
      exact ⟨(f, _, _, _), [], ⟨h1, by rw [Nat.pow_succ] at h2; omega, by omega, h4, by omega⟩, by show m / 2 < m; omega, ⟨rfl, .nil, rfl, rfl, rfl, ⟨rfl, rfl, rfl, trivial⟩, trivial⟩⟩
theorem finv_ok (a : Nat) (ha : a < 4294967296) : CallP Tryz.prog 118 [.int .u32 a] (.p (.int .u32 ((pwm 64 1 a 998244351 : Nat) : Int))) [] := by
  refine callG_of_vc (wr := wr0) Γok mixed Tryz.func118 (by kernel_rfl) rfl (by kernel_rfl) (le_of_ble rfl) (by simp) ?_
  refine SCall.pure (fpower_ok a 998244351 ha (by decide)) ?_
  exact SRet.pure (.p _ (.int _ _))
def rvS (m : Int) (s : Nat) (x : Int) : Int :=
  IntKind.u64.wrap ((BitVec.ofInt 64 (IntKind.u64.wrap ((BitVec.ofInt 64 (x.fdiv (2 ^ s)) &&& BitVec.ofInt 64 m).toNat : Int)) ||| BitVec.ofInt 64 (IntKind.u64.wrap (IntKind.u64.wrap ((BitVec.ofInt 64 x &&& BitVec.ofInt 64 m).toNat : Int) * 2 ^ s))).toNat : Int)
def rvB (x : Int) : Int := IntKind.u64.wrap ((BitVec.ofInt 64 (x.fdiv (2 ^ 32)) ||| BitVec.ofInt 64 (IntKind.u64.wrap (x * 2 ^ 32))).toNat : Int)
def rvW (x : Int) : Int := rvB (rvS 281470681808895 16 (rvS 71777214294589695 8 x))
def rvZ (x : Int) : Int := rvW (rvS 1085102592571150095 4 (rvS 3689348814741910323 2 (rvS 6148914691236517205 1 x)))
theorem revB_ok (x : Int) : CallP Tryz.prog 217 [.int .u64 x] (.p (.int .u64 (rvW x))) [] := by
  refine callG_of_vc (wr := wr0) Γok mixed Tryz.func217 (by kernel_rfl) rfl (by kernel_rfl) (le_of_ble rfl) (by simp) ?_
  refine SGe.mk (by decide) (SZ.mk _ rfl ?_)
  refine SWrap.mk _ rfl ?_
  refine SWrap.mk _ rfl ?_
  refine SGe.mk (by decide) (SWrap.mk _ rfl ?_)
  refine SWrap.mk (rvS 71777214294589695 8 x) rfl ?_
  refine SGe.mk (by decide) (SZ.mk _ rfl ?_)
  refine SWrap.mk _ rfl ?_
  refine SWrap.mk _ rfl ?_
  refine SGe.mk (by decide) (SWrap.mk _ rfl ?_)
  refine SWrap.mk (rvS 281470681808895 16 (rvS 71777214294589695 8 x)) rfl ?_
  refine SGe.mk (by decide) (SZ.mk _ rfl ?_)
  refine SGe.mk (by decide) (SWrap.mk _ rfl ?_)
  refine SWrap.mk (rvW x) rfl ?_
  exact SRet.pure (.p _ (.int _ _))
theorem rev_ok (x : Int) : CallP Tryz.prog 168 [.int .u64 x] (.p (.int .u64 (rvZ x))) [] := by
  refine callG_of_vc (wr := wr0) Γok mixed Tryz.func168 (by kernel_rfl) rfl (by kernel_rfl) (le_of_ble rfl) (by simp) ?_
  refine SGe.mk (by decide) (SZ.mk _ rfl ?_)
  refine SWrap.mk _ rfl ?_
  refine SWrap.mk _ rfl ?_
  refine SGe.mk (by decide) (SWrap.mk _ rfl ?_)
  refine SWrap.mk (rvS 6148914691236517205 1 x) rfl ?_
  refine SGe.mk (by decide) (SZ.mk _ rfl ?_)
  refine SWrap.mk _ rfl ?_
  refine SWrap.mk _ rfl ?_
  refine SGe.mk (by decide) (SWrap.mk _ rfl ?_)
  refine SWrap.mk (rvS 3689348814741910323 2 (rvS 6148914691236517205 1 x)) rfl ?_
  refine SGe.mk (by decide) (SZ.mk _ rfl ?_)
  refine SWrap.mk _ rfl ?_
  refine SWrap.mk _ rfl ?_
  refine SGe.mk (by decide) (SWrap.mk _ rfl ?_)
  refine SWrap.mk (rvS 1085102592571150095 4 (rvS 3689348814741910323 2 (rvS 6148914691236517205 1 x))) rfl ?_
  refine SCall.pure (revB_ok (rvS 1085102592571150095 4 (rvS 3689348814741910323 2 (rvS 6148914691236517205 1 x)))) ?_
  exact SRet.pure (.p _ (.int _ _))
theorem len64_ok (x : Nat) (hx : x < 256) : CallP Tryz.prog 114 [.int .u64 x] (.p (.int .i64 (bitLen x))) [] := by
  have hb := bitLen_le8 x hx
  refine callG_of_vc (wr := wr0) Γok mixed Tryz.func114 (by kernel_rfl) rfl (by kernel_rfl) (le_of_ble rfl) (by simp) ?_
  refine SCmp.no (decide_eq_false (by omega)) ?_
  refine SCmp.no (decide_eq_false (by omega)) ?_
  refine SCmp.no (decide_eq_false (by omega)) ?_
  refine SWrap.u8z x rfl (by omega) ?_
  refine SPos.mk x rfl (by show x < 256; omega) ?_
  refine SZ.mk (bitLen x) (tabL _ (by decide +kernel) _ (by omega)) ?_
  refine SWrap.i64z (bitLen x) rfl (by omega) ?_
  refine SWrap.i64z (bitLen x) (by omega) (by omega) ?_
  exact SRet.pure (.p _ (.int _ _))
theorem blen_ok (x : Nat) (hx : x < 256) : CallP Tryz.prog 46 [.int .u64 x] (.p (.int .i64 (bitLen x))) [] := by
  refine callG_of_vc (wr := wr0) Γok mixed Tryz.func46 (by kernel_rfl) rfl (by kernel_rfl) (le_of_ble rfl) (by simp) ?_
  refine SCall.pure (len64_ok x hx) ?_
  exact SRet.pure (.p _ (.int _ _))
end Go.Proofs.YtnilcfiemgmfdaaGreat

namespace Go.Proofs.YtnilcfiemgmfdaaGreat
open Go
set_option linter.unusedVariables false
set_option linter.unusedSimpArgs false
set_option maxRecDepth 10000
abbrev u32s (n : Nat) (f : Nat → Nat) : List PV := fl n fun i => .int .u32 ((f i : Nat) : Int)
theorem pers_u32s {n : Nat} {f : Nat → Nat} : ∀ e ∈ u32s n f, ∀ c ∈ e.cells, Pers c := fun e he c hc => by
  obtain ⟨i, _, rfl⟩ := fl_mem he
  simp only [PV.cells, List.mem_singleton] at hc
  subst hc
  exact .int _ _
theorem SIdx.uf {n : Nat} {f : Nat → Nat} {i : Int} {K : Nat → PV → Prop} (j : Nat) (hi : i = j) (hj : j < n) (hk : K j (.int .u32 ((f j : Nat) : Int))) : SIdx (u32s n f) i K := .mk j _ hi (fl_get hj) hk
theorem u32s_set {n i v : Nat} {f g : Nat → Nat} (h : ∀ t, t < n → g t = if t = i then v else f t) : (u32s n f).set i (.int .u32 ((v : Nat) : Int)) = u32s n g := by
  rw [fl_set]
  refine fl_congr fun t ht => ?_
  rw [h t ht]
  unfold upd
  by_cases e : t = i
  · rw [if_pos e, if_pos e]
  · rw [if_neg e, if_neg e]
abbrev keyS (j : Nat) (b : Bool) : PV := .agg [.int .i64 ((2 ^ j : Nat) : Int), .bool b]
def rt (b : Bool) (j : Nat) : Nat := bif b then rtB j else rtF j
abbrev rootsL (c : Nat) : List (PV × PV) := fl c fun t => (keyS (t / 2) (t % 2 == 1), .int .u32 ((rt (t % 2 == 1) (t / 2) : Nat) : Int))
theorem keq_keyS (a c : Nat) (b d : Bool) : PV.keq (keyS a b) (keyS c d) = decide (a = c ∧ b = d) := by
  show (decide (IntKind.i64 = IntKind.i64) && ((((2 ^ a : Nat) : Int) == ((2 ^ c : Nat) : Int)) && ((b == d) && true))) = _
  have hd : decide (IntKind.i64 = IntKind.i64) = true := rfl
  rw [hd, Bool.true_and, Bool.and_true]
  by_cases e1 : a = c
  · subst e1
    by_cases e2 : b = d
    · subst e2; simp
    · rw [beq_eq_false_iff_ne.2 e2, Bool.and_false, decide_eq_false fun h => e2 h.2]
  · have : (2 ^ a : Nat) ≠ 2 ^ c := fun h => by
      rcases Nat.lt_or_gt_of_ne e1 with e | e
      · have := Nat.pow_lt_pow_right (show 1 < 2 by decide) e; omega
      · have := Nat.pow_lt_pow_right (show 1 < 2 by decide) e; omega
    have h2 : (((2 ^ a : Nat) : Int) == ((2 ^ c : Nat) : Int)) = false := beq_eq_false_iff_ne.2 (fun h => this (Int.ofNat.inj h))
    rw [h2, Bool.false_and, decide_eq_false fun h => e1 h.1]
theorem SKeys.roots {b : PV → Bool} {c : Nat} {K : Prop} (hb : ∀ j d, b (keyS j d) = true) (hk : K) : SKeys b (rootsL c) K :=
  .mk (fun e he => by obtain ⟨t, _, rfl⟩ := fl_mem he; exact hb _ _) hk
theorem SPut.roots {t : Nat} {k v : PV} {K : List (PV × PV) → Prop} (hk : k = keyS (t / 2) (t % 2 == 1)) (hv : v = .int .u32 ((rt (t % 2 == 1) (t / 2) : Nat) : Int)) (hK : K (rootsL (t + 1))) : SPut (rootsL t) k v K := by
  subst hk; subst hv
  refine .new _ (fun e he => ?_) fl_snoc.symm hK
  obtain ⟨u, hu, rfl⟩ := fl_mem he
  rw [keq_keyS]
  refine decide_eq_false fun ⟨h1, h2⟩ => ?_
  have h3 : (t % 2 = 1) ↔ (u % 2 = 1) := by
    have : (t % 2 == 1) = true ↔ (u % 2 == 1) = true := by rw [h2]
    simpa using this
  omega
theorem SGet.roots {j : Nat} {b : Bool} {K : Option PV → Prop} (hj : j < 23) (hK : K (some (.int .u32 ((rt b j : Nat) : Int)))) : SGet (rootsL 46) (keyS j b) K := by
  have hd : ∀ b : Bool, (2 * j + b.toNat) / 2 = j ∧ ((2 * j + b.toNat) % 2 == 1) = b := fun b => by
    cases b with
    | false => exact ⟨by simp, by simp⟩
    | true => exact ⟨by simp; omega, by simp⟩
  obtain ⟨d1, d2⟩ := hd b
  have hl : 2 * j + b.toNat < 46 := by cases b <;> simp <;> omega
  refine .yes (2 * j + b.toNat) (keyS j b, .int .u32 ((rt b j : Nat) : Int)) (by rw [rootsL, fl_get hl, d1, d2]) (by rw [keq_keyS]; exact decide_eq_true ⟨rfl, rfl⟩) (fun u e' hu hu' => ?_) hK
  obtain ⟨hul, rfl⟩ := fl_get_iff.1 hu'
  rw [keq_keyS]
  refine decide_eq_false fun ⟨h1, h2⟩ => hu ?_
  rw [h1, h2]
  have := Nat.div_add_mod u 2
  rcases Nat.mod_two_eq_zero_or_one u with e | e
  · simp [e] at this ⊢; omega
  · simp [e] at this ⊢; omega
theorem pers_roots {c : Nat} : ∀ e ∈ rootsL c, Pers e.1 ∧ Pers e.2 := fun e he => by
  obtain ⟨t, _, rfl⟩ := fl_mem he
  exact ⟨.agg _ fun x hx => by simp only [List.mem_cons, List.not_mem_nil, or_false] at hx; rcases hx with rfl | rfl; exact .int _ _; exact .bool _, .int _ _⟩
theorem shl1 {k : Nat} (hk : k ≤ 62) {K : Int → Prop} (h : K ((2 ^ k : Nat) : Int)) : SGe (k : Int) (SWrap .i64 (1 * 2 ^ (min (k : Int).toNat (IntKind.bits .i64))) K) := by
  have h1 : (2 ^ k : Nat) ≤ 2 ^ 62 := Nat.pow_le_pow_right (by decide) hk
  have h2 : ((2 ^ k : Nat) : Int) < 9223372036854775808 := Int.ofNat_lt.2 (Nat.lt_of_le_of_lt h1 (by decide))
  refine .mk (by omega) (SWrap.i64z ((2 ^ k : Nat) : Int) ?_ ⟨Int.le_trans (by decide) (Int.natCast_nonneg _), h2⟩ h)
  rw [Int.toNat_natCast, show min k (IntKind.bits .i64) = k from Nat.min_eq_left (by show k ≤ 64; omega)]
  rw [Int.one_mul, Int.natCast_pow]; rfl
theorem shrP {k a : Nat} (hk : k ≤ 64) {K : Int → Prop} (h : K ((a / 2 ^ k : Nat) : Int)) : SGe (k : Int) (SZ ((a : Int).fdiv (2 ^ (min (k : Int).toNat (IntKind.bits .u64)))) K) := by
  refine .mk (by omega) (.mk _ ?_ h)
  rw [Int.toNat_natCast, show min k (IntKind.bits .u64) = k from Nat.min_eq_left (by show k ≤ 64; omega), Int.fdiv_eq_ediv_of_nonneg _ (by exact Int.le_of_lt (Int.pow_pos (by decide))), Int.natCast_ediv, Int.natCast_pow]
  rfl
theorem roots_ok : CallP Tryz.prog 116 [] (.p (.mp false (rootsL 46))) [] := by
  refine callG_of_vc (wr := wr0) Γok mixed Tryz.func116 (by kernel_rfl) rfl (by kernel_rfl) (le_of_ble rfl) (by simp) ?_
  refine SLoop.mk Nat (fun k => ([(1, .map 0), (5, .p (.int .i64 k))], [.map (rootsL (2 * k))])) (fun k => k ≤ 23) (fun k => 23 - k) 0 [0] (Nat.zero_le _) ⟨rfl, by simp, rfl, rfl, rfl, ⟨rfl, rfl, trivial⟩, ⟨rfl, trivial⟩⟩ ?_
  intro k hk
  have hk : k ≤ 23 := hk
  by_cases hk2 : k < 23
  · refine SCmp.yes (decide_eq_true (by omega)) ?_
    refine shrP (a := 998244352) (by omega) ?_
    have e1 : (2 * k) / 2 = k ∧ (2 * k) % 2 = 0 := by omega
    have e2 : (2 * k + 1) / 2 = k ∧ (2 * k + 1) % 2 = 1 := by omega
    have hlt : rtF k < 4294967296 := Nat.lt_trans (pwm_lt 64 1 3 _ (by decide)) (by decide)
    refine SCall.pure (fpower_ok 3 (998244352 / 2 ^ k) (by decide) (Nat.lt_of_le_of_lt (Nat.div_le_self _ _) (by decide))) ?_
    refine shl1 (by omega) ?_
    refine SKeys.roots (fun _ _ => rfl) (SPut.roots (by rw [e1.1, e1.2]; rfl) (by rw [e1.1, e1.2]; rfl) ?_)
    refine SDraw.mkX (by kernel_rfl) ?_
    repeat refine SOp.mk _ _ (And.intro rfl rfl) rfl ?_
    refine SOp.mk _ _ (shl1 (by omega) (And.intro rfl rfl)) rfl ?_
    repeat refine SOp.mk _ _ (And.intro rfl rfl) rfl ?_
    refine SOp.mk _ _ (SCall.pure (finv_ok (rtF k) hlt) (And.intro rfl rfl)) rfl ?_
    refine SOp.mk _ _ (SKeys.roots (fun _ _ => rfl) <| SPut.roots (by rw [e2.1, e2.2]; rfl) (by rw [e2.1, e2.2]; rfl) (And.intro rfl rfl)) rfl ?_
    repeat refine SOp.mk _ _ (And.intro rfl rfl) rfl ?_
    refine SFin.mk (by kernel_rfl) ?_
    refine SWrap.i64z ((k + 1 : Nat) : Int) (by omega) (by omega) ?_
    exact ⟨k + 1, [0], hk2, by show 23 - (k + 1) < 23 - k; omega, ⟨rfl, by simp, rfl, rfl, rfl, ⟨rfl, rfl, trivial⟩, ⟨rfl, trivial⟩⟩⟩
  · refine SCmp.no (decide_eq_false (by omega)) ?_
    obtain rfl : k = 23 := by omega
    exact SRet.pure (.frzmap rfl (by simp) (List.Perm.refl _) pers_roots)
def xlo (w h o : Nat) (x : Nat → Nat) (c t : Nat) : Nat :=
  if o ≤ t ∧ t < o + c then (x t + x (t + h) * ati w (t - o) % pP) % pP
  else if o + h ≤ t ∧ t < o + h + c then (x (t - h) + (pP - x t * ati w (t - o - h) % pP % pP)) % pP else x t
theorem ati_lt (w : Nat) : ∀ i, ati w i < pP := by
  intro i
  cases i with
  | zero => show 1 < pP; decide
  | succ i => exact mod_lt_pP _
theorem cross_ok (n o h w : Nat) (x : Nat → Nat) (h1 : 1 ≤ h) (ho : o + 2 * h ≤ n) (hn : n ≤ 1024) (hx : ∀ t, t < n → x t < pP) (hw : w < pP) :
    CallG Tryz.prog 117 [.vec 0 1 o (2 * h), .p (.int .u32 w)] [.vec 87 1 (u32s n x)] (.tup []) [.vec 87 1 (u32s n (xlo w h o x h))] := by
  have hp : pP = 998244353 := rfl
  refine callG_of_vc (wr := wr0) Γok mixed Tryz.func117 (by kernel_rfl) rfl (by kernel_rfl) (le_of_ble rfl) (by intro B hB; simp at hB; subst hB; exact fun e => by cases e) ?_
  refine SDraw.mkX (by kernel_rfl) ?_
  repeat refine SOp.mk _ _ (And.intro rfl rfl) rfl ?_
  refine SOp.mk _ _ (SZ.mk ((2 * h : Nat) : Int) (by simp) (And.intro rfl rfl)) rfl ?_
  refine SOp.mk _ _ (SNe.mk (by decide) <| SWrap.i64z (h : Int) (by rw [Int.tdiv_eq_ediv_of_nonneg (by omega)]; omega) (by omega) (And.intro rfl rfl)) rfl ?_
  refine SOp.mk _ _ (SCut.mk 0 h rfl rfl (by omega) (by omega) (And.intro rfl rfl)) rfl ?_
  repeat refine SOp.mk _ _ (And.intro rfl rfl) rfl ?_
  refine SOp.mk _ _ (SZ.mk ((2 * h : Nat) : Int) (by simp) (And.intro rfl rfl)) rfl ?_
  refine SOp.mk _ _ (SNe.mk (by decide) <| SWrap.i64z (h : Int) (by rw [Int.tdiv_eq_ediv_of_nonneg (by omega)]; omega) (by omega) (And.intro rfl rfl)) rfl ?_
  refine SOp.mk _ _ (SCut.mk h (2 * h) rfl rfl (by omega) (by omega) (And.intro rfl rfl)) rfl ?_
  repeat refine SOp.mk _ _ (And.intro rfl rfl) rfl ?_
  refine SFin.mk (by kernel_rfl) ?_
  refine SPos.mk 0 rfl (by decide) ?_
  refine SZ.mk (h : Int) (by simp) ?_
  refine SLoop.mk Nat (fun i => ([(1, .p (.int .u32 w)), (4, .bptr 1 0), (5, .p (.int .u32 ((ati w i : Nat) : Int))), (22, .p (.int .i64 h)), (23, .p (.int .i64 i))], [.vec 87 1 (u32s n (xlo w h o x i)), .box 181 [.vec 0 1 o h, .vec 0 1 (o + h) (2 * h - h)]]))
    (fun i => i ≤ h) (fun i => h - i) 0 [0, 1] (Nat.zero_le _) ⟨rfl, by simp, rfl, rfl, rfl, ⟨rfl, rfl, rfl, rfl, rfl, trivial⟩, ⟨congrArg _ (fl_congr fun t _ => by unfold xlo; rw [if_neg (by omega), if_neg (by omega)]), rfl, trivial⟩⟩ ?_
  intro i hi
  have hi : i ≤ h := hi
  have hlt : ∀ t, t < n → xlo w h o x i t < pP := fun t ht => by
    unfold xlo
    split
    · exact mod_lt_pP _
    · split
      · exact mod_lt_pP _
      · exact hx t ht
  by_cases hih : i < h
  · refine SCmp.yes (decide_eq_true (by omega)) ?_
    have ea : xlo w h o x i (i + o) = x (o + i) := by unfold xlo; rw [if_neg (by omega), if_neg (by omega), Nat.add_comm]
    have eb : xlo w h o x i (i + (o + h)) = x (o + i + h) := by unfold xlo; rw [if_neg (by omega), if_neg (by omega)]; congr 1; omega
    have la := hlt (i + o) (by omega)
    have lb := hlt (i + (o + h)) (by omega)
    have lc := ati_lt w i
    have ld := mod_lt_pP (xlo w h o x i (i + (o + h)) * ati w i)
    have le := mod_lt_pP (xlo w h o x i (i + o) + xlo w h o x i (i + (o + h)) * ati w i % pP)
    have lf := mod_lt_pP (xlo w h o x i (i + o) + (pP - xlo w h o x i (i + (o + h)) * ati w i % pP % pP))
    have hst : ∀ t, t < n → xlo w h o x (i + 1) t = if t = i + (o + h) then (xlo w h o x i (i + o) + (pP - xlo w h o x i (i + (o + h)) * ati w i % pP % pP)) % pP else
        if t = i + o then (xlo w h o x i (i + o) + xlo w h o x i (i + (o + h)) * ati w i % pP) % pP else xlo w h o x i t := fun t ht => by
      rw [ea, eb]
      unfold xlo
      by_cases e1 : t = i + (o + h)
      · rw [if_neg (by omega), if_pos (by omega), if_pos e1, show t - h = o + i by omega, show t - o - h = i by omega, show o + i + h = t by omega]
      · rw [if_neg e1]
        by_cases e2 : t = i + o
        · rw [if_pos (by omega), if_pos e2, show t - o = i by omega, show o + i = t by omega]
        · rw [if_neg e2]
          by_cases c1 : o ≤ t ∧ t < o + i
          · rw [if_pos (by omega), if_pos c1]
          · rw [if_neg (by omega), if_neg c1]
            by_cases c2 : o + h ≤ t ∧ t < o + h + i
            · rw [if_pos (by omega), if_pos c2]
            · rw [if_neg (by omega), if_neg c2]
    refine SDraw.mk (by kernel_rfl) ?_
    refine SOp.mk _ _ (SPos.mk 0 rfl (by decide) (And.intro rfl rfl)) rfl ?_
    repeat refine SOp.mk _ _ (And.intro rfl rfl) rfl ?_
    refine SOp.mk _ _ (SPos.mk i rfl hih (And.intro rfl rfl)) rfl ?_
    refine SOp.mk _ _ (SIdx.uf (i + o) rfl (by omega) (And.intro rfl rfl)) rfl ?_
    refine SOp.mk _ _ (SPos.mk 1 rfl (by decide) (And.intro rfl rfl)) rfl ?_
    repeat refine SOp.mk _ _ (And.intro rfl rfl) rfl ?_
    refine SOp.mk _ _ (SPos.mk i rfl (by omega) (And.intro rfl rfl)) rfl ?_
    refine SOp.mk _ _ (SIdx.uf (i + (o + h)) rfl (by omega) (And.intro rfl rfl)) rfl ?_
    repeat refine SOp.mk _ _ (And.intro rfl rfl) rfl ?_
    refine SOp.mk _ _ (SCall.pure (ftimes_ok (xlo w h o x i (i + (o + h))) (ati w i) (by omega) (by omega)) (And.intro rfl rfl)) rfl ?_
    repeat refine SOp.mk _ _ (And.intro rfl rfl) rfl ?_
    refine SDraw.mkX (by kernel_rfl) ?_
    refine SOp.mk _ _ (SPos.mk 0 rfl (by decide) (And.intro rfl rfl)) rfl ?_
    repeat refine SOp.mk _ _ (And.intro rfl rfl) rfl ?_
    refine SOp.mk _ _ (SPos.mk 1 rfl (by decide) (And.intro rfl rfl)) rfl ?_
    repeat refine SOp.mk _ _ (And.intro rfl rfl) rfl ?_
    refine SOp.mk _ _ (SCall.pure (fplus_ok (xlo w h o x i (i + o)) (xlo w h o x i (i + (o + h)) * ati w i % pP) (by omega) (by omega)) (And.intro rfl rfl)) rfl ?_
    repeat refine SOp.mk _ _ (And.intro rfl rfl) rfl ?_
    refine SOp.mk _ _ (SCall.pure (fless_ok (xlo w h o x i (i + o)) (xlo w h o x i (i + (o + h)) * ati w i % pP) (by omega) (by omega)) (And.intro rfl rfl)) rfl ?_
    refine SOp.mk _ _ (SPos.mk i rfl hih (And.intro rfl rfl)) rfl ?_
    refine SOp.mk _ _ (SLt.mk (by simp; omega) <| SEs.mk (u32s n fun t => if t = i + o then (xlo w h o x i (i + o) + xlo w h o x i (i + (o + h)) * ati w i % pP) % pP else xlo w h o x i t) (u32s_set fun t _ => rfl) (And.intro rfl rfl)) rfl ?_
    refine SOp.mk _ _ (SPos.mk i rfl (by omega) (And.intro rfl rfl)) rfl ?_
    refine SOp.mk _ _ (SLt.mk (by simp; omega) <| SEs.mk (u32s n (xlo w h o x (i + 1))) (u32s_set hst) (And.intro rfl rfl)) rfl ?_
    repeat refine SOp.mk _ _ (And.intro rfl rfl) rfl ?_
    refine SFin.mk (by kernel_rfl) ?_
    refine SCall.pure (ftimes_ok (ati w i) w (by omega) (by omega)) ?_
    refine SWrap.i64z ((i + 1 : Nat) : Int) (by omega) (by omega) ?_
    exact ⟨i + 1, [0, 1], hih, by show h - (i + 1) < h - i; omega, ⟨rfl, by simp, rfl, rfl, rfl, ⟨rfl, rfl, rfl, rfl, rfl, trivial⟩, ⟨rfl, rfl, trivial⟩⟩⟩
  · refine SCmp.no (decide_eq_false (by omega)) ?_
    obtain rfl : i = h := by omega
    exact SRet.one rfl pers_u32s (.tup rfl fun i c d e1 e2 => by simp at e1)
end Go.Proofs.YtnilcfiemgmfdaaGreat

namespace Go.Proofs.YtnilcfiemgmfdaaGreat
open Go
set_option linter.unusedVariables false
set_option linter.unusedSimpArgs false
set_option maxRecDepth 10000
theorem whole1_ok (a : Nat) (ha : a < pP) : CallP Tryz.prog 112 [.int .u32 a] (.p (.bool false)) [] := by
  have hp : pP = 998244353 := rfl
  refine callG_of_vc (wr := wr0) Γok mixed Tryz.func112 (by kernel_rfl) rfl (by kernel_rfl) (le_of_ble rfl) (by simp) ?_
  refine SCmp.no (decide_eq_false (by omega)) ?_
  exact SRet.pure (.tf _)
theorem wholeI_ok (m : Bool) (n : Nat) (f : Nat → Nat) (hf : ∀ i, i < n → f i < pP) (hn : n ≤ 1024) :
    CallP Tryz.prog 167 [.sl m 1 (u32s n f), .fn 112 []] (.p (.int .i64 (-1))) [] := by
  refine callG_of_vc (wr := wr0) Γok mixed Tryz.func167 (by kernel_rfl) rfl (by kernel_rfl) (le_of_ble rfl) (by simp) ?_
  refine SZ.mk (n : Int) (by simp) ?_
  refine SLoop.mk Nat (fun i => ([(0, .p (.sl m 1 (u32s n f))), (1, .p (.fn 112 [])), (7, .p (.int .i64 n)), (8, .p (.int .i64 i))], []))
    (fun i => i ≤ n) (fun i => n - i) 0 [] (Nat.zero_le _) ⟨rfl, .nil, rfl, rfl, rfl, ⟨rfl, rfl, rfl, rfl, trivial⟩, trivial⟩ ?_
  intro i h1
  have h1 : i ≤ n := h1
  by_cases hi : i < n
  · refine SCmp.yes (decide_eq_true (by omega)) ?_
    refine SIdx.uf i rfl hi ?_
    refine SCall.pure (pvs := [.int .u32 ((f i : Nat) : Int)]) (whole1_ok (f i) (hf i hi)) ?_
    refine SCond.mk (fun h => by cases h) (fun _ => ?_)
    refine SWrap.i64z ((i + 1 : Nat) : Int) (by omega) (by omega) ?_
    exact ⟨i + 1, [], hi, by show n - (i + 1) < n - i; omega, ⟨rfl, .nil, rfl, rfl, rfl, ⟨rfl, rfl, rfl, rfl, trivial⟩, trivial⟩⟩
  · refine SCmp.no (decide_eq_false (by omega)) ?_
    exact SRet.pure (.p _ (.int _ _))
theorem wholeC_ok (m : Bool) (n : Nat) (f : Nat → Nat) (hf : ∀ i, i < n → f i < pP) (hn : n ≤ 1024) :
    CallP Tryz.prog 111 [.sl m 1 (u32s n f), .fn 112 []] (.p (.bool false)) [] := by
  refine callG_of_vc (wr := wr0) Γok mixed Tryz.func111 (by kernel_rfl) rfl (by kernel_rfl) (le_of_ble rfl) (by simp) ?_
  refine SCall.pure (pvs := [.sl m 1 (u32s n f), .fn 112 []]) (wholeI_ok m n f hf hn) ?_
  refine SCmp.no (rfl) ?_
  exact SRet.pure (.tf _)
theorem whole_ok (m : Bool) (n : Nat) (f : Nat → Nat) (hf : ∀ i, i < n → f i < pP) (hn : n ≤ 1024) : CallP Tryz.prog 45 [.sl m 1 (u32s n f)] (.p (.bool true)) [] := by
  refine callG_of_vc (wr := wr0) Γok mixed Tryz.func45 (by kernel_rfl) rfl (by kernel_rfl) (le_of_ble rfl) (by simp) ?_
  refine SCall.pure (pvs := [.sl m 1 (u32s n f), .fn 112 []]) (wholeC_ok m n f hf hn) ?_
  refine SCmp.yes (rfl) ?_
  exact SRet.pure (.tf _)
theorem rev_rv {k i : Nat} (h : Kk k) (hi : i < 2 ^ k) : ((rvZ (i : Int)).fdiv (2 ^ 1)).fdiv (2 ^ (63 - k)) = ((rv k i : Nat) : Int) := by
  have hb : ∀ k, (k = 0 ∨ k = 2 ∨ k = 3 ∨ k = 4 ∨ k = 5) → (allB (2 ^ k) fun i => decide (((rvZ (i : Int)).fdiv (2 ^ 1)).fdiv (2 ^ (63 - k)) = ((rv k i : Nat) : Int))) = true := by
    intro k hk
    rcases hk with rfl | rfl | rfl | rfl | rfl <;> decide +kernel
  exact of_decide_eq_true (allB_ok (hb k h) hi)
theorem bitLen_pow {k : Nat} (h : Kk k) : bitLen (2 ^ k) = k + 1 := by
  rcases h with rfl | rfl | rfl | rfl | rfl <;> decide +kernel
theorem zeros_u32 {n : Nat} {f : Nat → Nat} (h : ∀ t, t < n → f t = 0) : List.replicate n (PV.int .u32 0) = u32s n f := by
  apply List.ext_getElem (by simp)
  intro i h1 h2
  have hi : i < n := by simpa using h1
  simp [fl, h i hi]
theorem turned_ok (m : Bool) (k : Nat) (h : Kk k) (l : Nat → Nat) : CallP Tryz.prog 115 [.sl m 1 (u32s (2 ^ k) l)] (.vec 0 1 0 (2 ^ k)) [.vec 87 1 (u32s (2 ^ k) fun t => l (rv k t))] := by
  obtain ⟨n, hn⟩ : ∃ n, n = 2 ^ k := ⟨_, rfl⟩
  have k5 : k ≤ 5 := by rcases h with rfl | rfl | rfl | rfl | rfl <;> decide
  have n32 : n ≤ 32 := by rw [hn]; exact Nat.le_trans (Nat.pow_le_pow_right (by decide) k5) (by decide)
  have hbl := bitLen_pow h
  have hrr : ∀ i, i < n → ((rvZ (i : Int)).fdiv (2 ^ 1)).fdiv (2 ^ (63 - k)) = ((rv k i : Nat) : Int) := fun i hi => rev_rv h (by rw [← hn]; exact hi)
  have hlt : ∀ i, i < n → rv k i < n := fun i hi => by rw [hn] at hi ⊢; exact rv_lt h hi
  have hinv : ∀ i, i < n → rv k (rv k i) = i := fun i hi => rv_rv h (by rw [← hn]; exact hi)
  rw [← hn] at hbl ⊢
  refine callG_of_vc (wr := wr0) Γok mixed Tryz.func115 (by kernel_rfl) rfl (by kernel_rfl) (le_of_ble rfl) (by simp) ?_
  refine SZ.mk (n : Int) (by simp) ?_
  refine SZ.mk (n : Int) rfl ?_
  refine SLt.mk (by simp) ?_
  refine SMake.mk n rfl (by simp; omega) (by omega) ?_
  refine SZ.mk (n : Int) (by simp) ?_
  refine SWrap.u64z n rfl (by omega) ?_
  refine SCall.pure (blen_ok n (by omega)) ?_
  refine SWrap.i64z (k : Int) (by omega) (by omega) ?_
  refine SZ.mk (n : Int) (by simp) ?_
  refine SLoop.mk Nat (fun i => ([(3, .vec 0 1 0 n), (4, .p (.int .i64 k)), (15, .p (.sl m 1 (u32s n l))), (16, .p (.int .i64 n)), (17, .p (.int .i64 i))], [.vec 87 1 (u32s n fun t => if rv k t < i then l (rv k t) else 0)]))
    (fun i => i ≤ n) (fun i => n - i) 0 [0] (Nat.zero_le _) ⟨rfl, by simp, rfl, rfl, rfl, ⟨rfl, rfl, rfl, rfl, rfl, trivial⟩, ⟨congrArg (Blk.vec 87 1) (zeros_u32 (n := n) (f := fun t => if rv k t < 0 then l (rv k t) else 0) fun t _ => if_neg (Nat.not_lt_zero _)).symm, trivial⟩⟩ ?_
  intro i hi
  have hi : i ≤ n := hi
  by_cases hin : i < n
  · refine SCmp.yes (decide_eq_true (by omega)) ?_
    refine SIdx.uf i rfl hin ?_
    refine SWrap.u64z i rfl (by omega) ?_
    refine SCall.pure (rev_ok (i : Int)) ?_
    refine SGe.mk (by decide) (SZ.mk _ rfl ?_)
    refine SWrap.i64z ((63 - k : Nat) : Int) (by omega) (by omega) ?_
    refine SGe.mk (by omega) (SZ.mk ((rv k i : Nat) : Int) ?_ ?_)
    · rw [Int.toNat_natCast, show min (63 - k) (IntKind.bits .u64) = 63 - k from Nat.min_eq_left (by show 63 - k ≤ 64; omega)]
      exact hrr i hin
    refine SPos.mk (rv k i) rfl (hlt i hin) ?_
    refine SLt.mk (by simp; exact hlt i hin) ?_
    refine SEs.mk (u32s n fun t => if rv k t < i + 1 then l (rv k t) else 0) (u32s_set fun t ht => ?_) ?_
    · show (if rv k t < i + 1 then l (rv k t) else 0) = if t = rv k i then l i else if rv k t < i then l (rv k t) else 0
      by_cases e : t = rv k i
      · rw [if_pos e, e, hinv i hin, if_pos (Nat.lt_succ_self i)]
      · rw [if_neg e]
        have : rv k t ≠ i := fun h => e (by rw [← h, hinv t ht])
        by_cases e2 : rv k t < i
        · rw [if_pos e2, if_pos (by omega)]
        · rw [if_neg e2, if_neg (by omega)]
    refine SWrap.i64z ((i + 1 : Nat) : Int) (by omega) (by omega) ?_
    exact ⟨i + 1, [0], hin, by show n - (i + 1) < n - i; omega, ⟨rfl, by simp, rfl, rfl, rfl, ⟨rfl, rfl, rfl, rfl, rfl, trivial⟩, ⟨rfl, trivial⟩⟩⟩
  · refine SCmp.no (decide_eq_false (by omega)) ?_
    obtain rfl : i = n := by omega
    exact SRet.new 0 rfl (congrArg _ (fl_congr fun t ht => by
      show PV.int .u32 (((if rv k t < i then l (rv k t) else 0 : Nat)) : Int) = .int .u32 ((l (rv k t) : Nat) : Int)
      rw [if_pos (hlt t ht)])) pers_u32s
theorem clone_own (m : Bool) (n : Nat) (f : Nat → Nat) (h0 : 0 < n) (hn : n ≤ 1024) : CallP Tryz.prog 48 [.sl m 1 (u32s n f)] (.vec 0 1 0 n) [.vec 41 1 (u32s n f)] := by
  refine callG_of_vc (wr := wr0) Γok mixed Tryz.func48 (by kernel_rfl) rfl (by kernel_rfl) (le_of_ble rfl) (by simp) ?_
  have hl : (u32s n f).length = n := by simp
  refine SNil.mk (fun h => ?_) (fun h => ⟨?_, ?_⟩)
  · refine SRoom.mk (by simp; omega) (by simp; omega) ?_
    exact SRet.new 0 (by rw [hl]; rfl) rfl pers_u32s
  · exact absurd h (by simp; omega)
  · exact absurd h (by simp; omega)
end Go.Proofs.YtnilcfiemgmfdaaGreat

namespace Go.Proofs.YtnilcfiemgmfdaaGreat
open Go
set_option linter.unusedVariables false
set_option linter.unusedSimpArgs false
set_option maxRecDepth 10000
theorem SRet.newT {av : AV} {H : Hp} {T : TypeId} {W off len : Nat} {es : List PV} {v : PV} (h : Nat) (hav : av = .tup [.vec h W off len, .p v]) (hv : Pers v) (h0 : look H h = .vec T W es) (hp : ∀ e ∈ es, ∀ c ∈ e.cells, Pers c) : SRet [] av H (.tup [.vec 0 W off len, .p v]) [.vec T W es] :=
  .mk [h] rfl (by simp) rfl (Nat.zero_le _) (fun h hl => by rw [look_nil] at hl; exact hl.elim) (fun h hl => absurd (look_nil h) hl) (fun i h' B e1 e2 => by
    match i, e1, e2 with
    | 0, e1, e2 => cases e1; cases e2; rw [getD_of_look h0 trivial]; exact .vec hp) (by
    rw [hav]
    refine .tup rfl fun i c d e1 e2 => ?_
    match i, e1, e2 with
    | 0, e1, e2 => cases e1; cases e2; exact .vec rfl
    | 1, e1, e2 => cases e1; cases e2; exact .p _ hv)
theorem u32s_congr {n : Nat} {f g : Nat → Nat} (h : ∀ t, t < n → f t = g t) : u32s n f = u32s n g := fl_congr fun t ht => by rw [h t ht]
abbrev wrX : FuncId → Bool := fun f => Nat.beq f 117
def trD (back : Bool) (k : Nat) (l : Nat → Nat) (t : Nat) : Nat := bif back then trB k l t else trF k l t
def byD (back : Bool) (k : Nat) : Nat := bif back then pwm 64 1 (2 ^ k) 998244351 else 1
theorem trD_eq (back : Bool) (k : Nat) (l : Nat → Nat) (t : Nat) : trD back k l t = runs (rt back) (fun t => l (rv k t)) k t * byD back k % pP := by
  cases back with
  | false => show runs rtF _ k t * 1 % pP = _; rfl
  | true => show runs rtB _ k t * pwm 64 1 (2 ^ k) 998244351 % pP = _; rfl
theorem rt_lt (back : Bool) (j : Nat) : rt back j < pP := by
  cases back with
  | false => show rtF j < pP; unfold rtF; exact pwm_lt _ _ _ _ (by decide)
  | true => show rtB j < pP; unfold rtB; exact pwm_lt _ _ _ _ (by decide)
/-- A step, so far: the first so many runs of it. -/
def part (w h b : Nat) (x : Nat → Nat) (t : Nat) : Nat := if t < b then stage w h x t else x t
theorem part_step {w h j : Nat} {x : Nat → Nat} (h0 : 0 < h) (t : Nat) : xlo w h (j * (2 * h)) (part w h (j * (2 * h)) x) h t = part w h ((j + 1) * (2 * h)) x t := by
  obtain ⟨S, hS⟩ : ∃ S, S = j * (2 * h) := ⟨_, rfl⟩
  have hS1 : (j + 1) * (2 * h) = S + 2 * h := by rw [hS, Nat.succ_mul]
  rw [hS1, ← hS]
  unfold xlo part
  have hmod : ∀ u, u < 2 * h → (S + u) % (2 * h) = u := fun u hu => by rw [hS, Nat.mul_comm, Nat.mul_add_mod, Nat.mod_eq_of_lt hu]
  by_cases c1 : S ≤ t ∧ t < S + h
  · have e := hmod (t - S) (by omega)
    rw [show S + (t - S) = t by omega] at e
    rw [if_pos c1, if_neg (by omega), if_neg (by omega), if_pos (by omega)]
    unfold stage
    rw [e, if_pos (by omega)]
  · rw [if_neg c1]
    by_cases c2 : S + h ≤ t ∧ t < S + h + h
    · have e := hmod (t - S) (by omega)
      rw [show S + (t - S) = t by omega] at e
      rw [if_pos c2, if_neg (by omega), if_neg (by omega), if_pos (by omega)]
      unfold stage
      rw [e, if_neg (by omega), show t - S - h = t - S - h from rfl]
    · rw [if_neg c2]
      by_cases c3 : t < S
      · rw [if_pos c3, if_pos (by omega)]
      · rw [if_neg c3, if_neg (by omega)]
theorem stage_lt {w h : Nat} {x : Nat → Nat} (t : Nat) : stage w h x t < pP := by
  unfold stage
  split
  · exact mod_lt_pP _
  · exact mod_lt_pP _
theorem runs_lt {w : Nat → Nat} {x : Nat → Nat} {n : Nat} (hx : ∀ t, t < n → x t < pP) : ∀ s t, t < n → runs w x s t < pP := by
  intro s
  cases s with
  | zero => exact hx
  | succ s => exact fun t _ => stage_lt t
theorem and_pow {k : Nat} (h : Kk k) : ((BitVec.ofInt 64 ((2 ^ k : Nat) : Int) &&& BitVec.ofInt 64 ((2 ^ k : Nat) - 1 : Int)).toNat : Int) = 0 := by
  rcases h with rfl | rfl | rfl | rfl | rfl <;> decide +kernel
theorem transform_ok (m : Bool) (k : Nat) (h : Kk k) (l : Nat → Nat) (hl : ∀ t, t < 2 ^ k → l t < pP) (back : Bool) :
    CallP Tryz.prog 47 [.sl m 1 (u32s (2 ^ k) l), .bool back] (.tup [.vec 0 1 0 (2 ^ k), .p (.int .i64 0)]) [.vec 41 1 (u32s (2 ^ k) (trD back k l))] := by
  obtain ⟨n, hn⟩ : ∃ n, n = 2 ^ k := ⟨_, rfl⟩
  have k5 : k ≤ 5 := by rcases h with rfl | rfl | rfl | rfl | rfl <;> decide
  have n32 : n ≤ 32 := by rw [hn]; exact Nat.le_trans (Nat.pow_le_pow_right (by decide) k5) (by decide)
  have n1 : 1 ≤ n := by rw [hn]; exact Nat.pow_pos (by decide)
  have hand := and_pow h
  have htu := turned_ok m k h l
  have hlt : ∀ t, t < n → l (rv k t) < pP := fun t ht => hl _ (rv_lt h (by rw [← hn]; exact ht))
  have hp : pP = 998244353 := rfl
  rw [← hn] at hl hand htu ⊢
  refine callG_of_vc (wr := wrX) Γok mixed Tryz.func47 (by kernel_rfl) rfl (by kernel_rfl) (le_of_ble rfl) (by simp) ?_
  refine SZ.mk (n : Int) (by simp) ?_
  refine SCmp.no (eqF (by omega)) ?_
  refine SWrap.i64z ((n : Int) - 1) rfl (by omega) ?_
  refine SWrap.i64z 0 hand (by omega) ?_
  refine SCmp.no (rfl) ?_
  refine SCmp.no (decide_eq_false (by omega)) ?_
  refine SCall.pure (whole_ok m n l hl (by omega)) ?_
  refine SCmp.no (rfl) ?_
  refine SCall.fresh htu ?_
  refine SCall.pure (roots_ok) ?_
  obtain ⟨x0, hx0⟩ : ∃ x0 : Nat → Nat, x0 = fun t => l (rv k t) := ⟨_, rfl⟩
  have hrl := runs_lt (w := rt back) (x := x0) (n := n) (by rw [hx0]; exact hlt)
  refine SLoop.mk Nat (fun s => ([(1, .p (.bool back)), (6, .p (.int .i64 n)), (7, .vec 0 1 0 n), (8, .p (.mp false (rootsL 46))), (9, .p (.int .i64 ((2 ^ (s + 1) : Nat) : Int)))], [.vec 87 1 (u32s n (runs (rt back) x0 s))]))
    (fun s => s ≤ k) (fun s => k - s) 0 [0] (Nat.zero_le _) ⟨rfl, by simp, rfl, rfl, rfl, ⟨rfl, rfl, rfl, rfl, rfl, trivial⟩, ⟨by rw [hx0]; rfl, trivial⟩⟩ ?_
  intro s hs
  have hs : s ≤ k := hs
  by_cases hsk : s < k
  · have hq : n = 2 ^ (k - s - 1) * 2 ^ (s + 1) := by rw [hn, ← Nat.pow_add]; congr 1; omega
    have h0 : 0 < 2 ^ s := Nat.pow_pos (by decide)
    have hle : 2 ^ (s + 1) ≤ n := by rw [hn]; exact Nat.pow_le_pow_right (by decide) hsk
    have hw := rt_lt back (s + 1)
    refine SCmp.yes (decide_eq_true (by omega)) ?_
    refine SKeys.roots (fun _ _ => rfl) (SGet.roots (j := s + 1) (b := back) (by omega) ?_)
    refine SLoop.mk Nat (fun j => ([(1, .p (.bool back)), (6, .p (.int .i64 n)), (7, .vec 0 1 0 n), (8, .p (.mp false (rootsL 46))), (9, .p (.int .i64 ((2 ^ (s + 1) : Nat) : Int))), (10, .p (.int .u32 ((rt back (s + 1) : Nat) : Int))), (11, .p (.int .i64 ((j * 2 ^ (s + 1) : Nat) : Int)))], [.vec 87 1 (u32s n (part (rt back (s + 1)) (2 ^ s) (j * 2 ^ (s + 1)) (runs (rt back) x0 s)))]))
      (fun j => j ≤ 2 ^ (k - s - 1)) (fun j => 2 ^ (k - s - 1) - j) 0 [0] (Nat.zero_le _) ⟨rfl, by simp, rfl, rfl, rfl, ⟨rfl, rfl, rfl, rfl, rfl, rfl, by rw [Nat.zero_mul]; rfl, trivial⟩, ⟨congrArg (Blk.vec 87 1) (fl_congr fun t _ => by unfold part; rw [Nat.zero_mul, if_neg (Nat.not_lt_zero _)]), trivial⟩⟩ ?_
    intro j hj
    have hj : j ≤ 2 ^ (k - s - 1) := hj
    by_cases hjq : j < 2 ^ (k - s - 1)
    · have hlin : (j + 1) * 2 ^ (s + 1) ≤ n := by rw [hq]; exact Nat.mul_le_mul_right _ hjq
      have e2 : 2 ^ (s + 1) = 2 * 2 ^ s := by rw [Nat.pow_succ, Nat.mul_comm]
      obtain ⟨b, hb⟩ : ∃ b, b = j * 2 ^ (s + 1) := ⟨_, rfl⟩
      have hb1 : (j + 1) * 2 ^ (s + 1) = b + 2 * 2 ^ s := by rw [Nat.succ_mul, hb, e2]
      have hx1 : ∀ t, t < n → part (rt back (s + 1)) (2 ^ s) b (runs (rt back) x0 s) t < pP := fun t ht => by
        unfold part
        split
        · exact stage_lt t
        · exact hrl s t ht
      have hc := cross_ok n b (2 ^ s) (rt back (s + 1)) (part (rt back (s + 1)) (2 ^ s) b (runs (rt back) x0 s)) h0 (by omega) (by omega) hx1 hw
      have hr : u32s n (xlo (rt back (s + 1)) (2 ^ s) b (part (rt back (s + 1)) (2 ^ s) b (runs (rt back) x0 s)) (2 ^ s)) = u32s n (part (rt back (s + 1)) (2 ^ s) ((j + 1) * 2 ^ (s + 1)) (runs (rt back) x0 s)) :=
        fl_congr fun t _ => by
          have := part_step (w := rt back (s + 1)) (h := 2 ^ s) (j := j) (x := runs (rt back) x0 s) h0 t
          rw [← e2, ← hb] at this
          rw [this]
      rw [hr] at hc
      refine SCmp.yes ((decide_eq_true (by rw [← hb]; omega))) ?_
      refine SWrap.i64z ((b + 2 * 2 ^ s : Nat) : Int) (by rw [← hb, e2]; omega) (by omega) ?_
      refine SCut.mk b (b + 2 * 2 ^ s) (by rw [hb]) rfl (by omega) (by omega) ?_
      refine SCall.vec (h := 0) (by decide) (by rw [hb]; rfl) hc (by rw [Nat.add_sub_cancel_left, Nat.zero_add b]; rfl) (by intro a ha; simp at ha; rcases ha with rfl | rfl <;> intro k hk <;> simp only [AV.men] at hk <;> subst hk <;> exact Nat.zero_lt_one) rfl ?_
      refine SWrap.i64z (((j + 1) * 2 ^ (s + 1) : Nat) : Int) (by rw [hb1, ← hb, e2]; omega) (by omega) ?_
      exact ⟨j + 1, [0], hjq, by show 2 ^ (k - s - 1) - (j + 1) < 2 ^ (k - s - 1) - j; omega, ⟨rfl, by simp, rfl, rfl, rfl, ⟨rfl, rfl, rfl, rfl, rfl, rfl, rfl, trivial⟩, ⟨rfl, trivial⟩⟩⟩
    · obtain rfl : j = 2 ^ (k - s - 1) := by omega
      refine SCmp.no ((decide_eq_false (by rw [← hq]; omega))) ?_
      refine SWrap.i64z ((2 ^ (s + 1 + 1) : Nat) : Int) (by rw [Nat.pow_succ 2 (s + 1)]; omega) (by rw [Nat.pow_succ 2 (s + 1)]; omega) ?_
      exact ⟨s + 1, [0], hsk, by show k - (s + 1) < k - s; omega, ⟨rfl, by simp, rfl, rfl, rfl, ⟨rfl, rfl, rfl, rfl, rfl, trivial⟩, ⟨congrArg (Blk.vec 87 1) (fl_congr fun t ht => by unfold part; rw [if_pos (by rw [← hq]; exact ht)]; rfl), trivial⟩⟩⟩
  · obtain rfl : s = k := by omega
    refine SCmp.no ((decide_eq_false (by rw [Nat.pow_succ, ← hn]; omega))) ?_
    have hb1 : byD back s < pP := by
      cases back with
      | false => show 1 < pP; decide
      | true => exact pwm_lt _ _ _ _ (by decide)
    have htr : ∀ t, trD back s l t = runs (rt back) x0 s t * byD back s % pP := fun t => by rw [hx0]; exact trD_eq back s l t
    have hz : List.replicate n (PV.int .u32 0) = u32s n fun t => if t < 0 then trD back s l t else 0 := zeros_u32 fun t _ => if_neg (Nat.not_lt_zero _)
    refine SCond.mk (fun hb => ?_) (fun hb => ?_)
    · refine SWrap.u32z n (by omega) ?_
      have hi := finv_ok n (by omega)
      refine SCall.pure (hi) ?_
      refine SZ.mk (n : Int) rfl ?_
      refine SLt.mk (by simp) ?_
      refine SMake.mk n rfl (by simp; omega) (by omega) ?_
      refine SZ.mk (n : Int) rfl ?_
      refine SLoop.mk (Nat × Nat) (fun (i, z) => ([(7, .vec 0 1 0 n), (12, .p (.int .u32 ((z : Nat) : Int))), (13, .vec 1 1 0 n), (69, .p (.int .i64 n)), (70, .p (.int .i64 i))], [.vec 87 1 (u32s n (runs (rt back) x0 s)), .vec 41 1 (u32s n fun t => if t < i then trD back s l t else 0)]))
        (fun (i, z) => i ≤ n ∧ z = byD back s) (fun x => n - x.1) (0, pwm 64 1 n 998244351) [0, 1] ⟨Nat.zero_le _, by rw [hb, hn]; rfl⟩ ⟨rfl, by simp, rfl, rfl, rfl, ⟨rfl, rfl, rfl, rfl, rfl, trivial⟩, ⟨rfl, congrArg (Blk.vec 41 1) hz.symm, trivial⟩⟩ ?_
      intro ⟨i, z⟩ ⟨hi, hz2⟩
      by_cases hin : i < n
      · refine SCmp.yes (decide_eq_true (by omega)) ?_
        have hr1 := hrl s i hin
        refine SPos.mk i rfl hin ?_
        refine SIdx.uf (i + 0) rfl hin ?_
        refine SCall.pure (ftimes_ok (runs (rt back) x0 s (i + 0)) z (by rw [Nat.add_zero]; omega) (by omega)) ?_
        refine SPos.mk i rfl hin ?_
        refine SLt.mk (by simp; omega) ?_
        refine SEs.mk (u32s n fun t => if t < i + 1 then trD back s l t else 0) (u32s_set fun t ht => ?_) ?_
        · show (if t < i + 1 then trD back s l t else 0) = if t = i then runs (rt back) x0 s i * z % pP else if t < i then trD back s l t else 0
          by_cases e : t = i
          · rw [if_pos e, if_pos (by omega), e, htr, hz2]
          · rw [if_neg e]
            by_cases e2 : t < i
            · rw [if_pos e2, if_pos (by omega)]
            · rw [if_neg e2, if_neg (by omega)]
        refine SWrap.i64z ((i + 1 : Nat) : Int) (by omega) (by omega) ?_
        exact ⟨(i + 1, z), [0, 1], ⟨hin, hz2⟩, by show n - (i + 1) < n - i; omega, ⟨rfl, by simp, rfl, rfl, rfl, ⟨rfl, rfl, rfl, rfl, rfl, trivial⟩, ⟨rfl, rfl, trivial⟩⟩⟩
      · refine SCmp.no (decide_eq_false (by omega)) ?_
        obtain rfl : i = n := by omega
        exact SRet.newT 1 rfl (.int _ _) (congrArg (Blk.vec 41 1) (u32s_congr fun t ht => if_pos ht)) pers_u32s
    · refine SZ.mk (n : Int) rfl ?_
      refine SLt.mk (by simp) ?_
      refine SMake.mk n rfl (by simp; omega) (by omega) ?_
      refine SZ.mk (n : Int) rfl ?_
      refine SLoop.mk (Nat × Nat) (fun (i, z) => ([(7, .vec 0 1 0 n), (12, .p (.int .u32 ((z : Nat) : Int))), (13, .vec 1 1 0 n), (69, .p (.int .i64 n)), (70, .p (.int .i64 i))], [.vec 87 1 (u32s n (runs (rt back) x0 s)), .vec 41 1 (u32s n fun t => if t < i then trD back s l t else 0)]))
        (fun (i, z) => i ≤ n ∧ z = byD back s) (fun x => n - x.1) (0, 1) [0, 1] ⟨Nat.zero_le _, by rw [hb]; rfl⟩ ⟨rfl, by simp, rfl, rfl, rfl, ⟨rfl, rfl, rfl, rfl, rfl, trivial⟩, ⟨rfl, congrArg (Blk.vec 41 1) hz.symm, trivial⟩⟩ ?_
      intro ⟨i, z⟩ ⟨hi, hz2⟩
      by_cases hin : i < n
      · refine SCmp.yes (decide_eq_true (by omega)) ?_
        have hr1 := hrl s i hin
        refine SPos.mk i rfl hin ?_
        refine SIdx.uf (i + 0) rfl hin ?_
        refine SCall.pure (ftimes_ok (runs (rt back) x0 s (i + 0)) z (by rw [Nat.add_zero]; omega) (by omega)) ?_
        refine SPos.mk i rfl hin ?_
        refine SLt.mk (by simp; omega) ?_
        refine SEs.mk (u32s n fun t => if t < i + 1 then trD back s l t else 0) (u32s_set fun t ht => ?_) ?_
        · show (if t < i + 1 then trD back s l t else 0) = if t = i then runs (rt back) x0 s i * z % pP else if t < i then trD back s l t else 0
          by_cases e : t = i
          · rw [if_pos e, if_pos (by omega), e, htr, hz2]
          · rw [if_neg e]
            by_cases e2 : t < i
            · rw [if_pos e2, if_pos (by omega)]
            · rw [if_neg e2, if_neg (by omega)]
        refine SWrap.i64z ((i + 1 : Nat) : Int) (by omega) (by omega) ?_
        exact ⟨(i + 1, z), [0, 1], ⟨hin, hz2⟩, by show n - (i + 1) < n - i; omega, ⟨rfl, by simp, rfl, rfl, rfl, ⟨rfl, rfl, rfl, rfl, rfl, trivial⟩, ⟨rfl, rfl, trivial⟩⟩⟩
      · refine SCmp.no (decide_eq_false (by omega)) ?_
        obtain rfl : i = n := by omega
        exact SRet.newT 1 rfl (.int _ _) (congrArg (Blk.vec 41 1) (u32s_congr fun t ht => if_pos ht)) pers_u32s
end Go.Proofs.YtnilcfiemgmfdaaGreat

namespace Go.Proofs.YtnilcfiemgmfdaaGreat
open Go
set_option linter.unusedVariables false
set_option linter.unusedSimpArgs false
set_option maxRecDepth 10000
theorem SCall.newT {P : Program} {wr : Bool} {f : FuncId} {L : Hd → Blk} {base : Nat} {K : AV → List (Hd × Blk) → Prop} {pvs : List PV} {T : TypeId} {W off len : Nat} {es : List PV} {v : PV} (hc : CallP P f pvs (.tup [.vec 0 W off len, .p v]) [.vec T W es])
    (hk : K (.tup [.vec base W off len, .p v]) [(base, .vec T W es)]) : ∀ {raw : List AV}, SCall P wr f raw (pvs.map .p) L base K := fun {raw} =>
  .mk [] (pvs.map .p) (.tup [.vec 0 W off len, .p v]) [] [.vec T W es] (fun _ => rfl) .nil (fun _ h => by simp at h) (by rw [AV.renL_eq, List.map_map]; exact List.map_congr_left fun _ _ => rfl) rfl (fun i h B e => by simp at e) (fun _ h => by simp at h) (fun _ h => by simp at h) (Nat.zero_le _) (fun B h => by simp at h; subst h; exact fun e => by cases e)
    (fun a ha k hk => by obtain ⟨v, _, rfl⟩ := List.mem_map.1 ha; simp only [AV.men] at hk) hc hk
def pad (n : Nat) (a : Nat → Nat) (t : Nat) : Nat := if t < n then a t else 0
theorem pad_app {n s : Nat} {a : Nat → Nat} (h : n ≤ s) : u32s n a ++ List.replicate (s - n) (PV.int .u32 0) = u32s s (pad n a) := by
  apply List.ext_getElem (by simp; omega)
  intro i h1 h2
  have hi : i < s := by simpa using h2
  by_cases c : i < n
  · rw [List.getElem_append_left (by simpa using c)]
    simp [fl, pad, c]
  · rw [List.getElem_append_right (by simpa using c)]
    simp [fl, pad, c]
def cvF (k : Nat) (a b : Nat → Nat) (t : Nat) : Nat := trB k (fun i => if i < 2 ^ k then trF k a i * trF k b i % pP else 0) t
theorem nconv_ok (m m' : Bool) (la lb k : Nat) (h : Kk k) (ha1 : 1 ≤ la) (hb1 : 1 ≤ lb) (hs : la + lb - 1 ≤ 2 ^ k) (hl : bitLen (la + lb - 2) = k) (a b : Nat → Nat) (ha : ∀ t, t < la → a t < pP) (hb : ∀ t, t < lb → b t < pP) :
    CallP Tryz.prog 15 [.sl m 1 (u32s la a), .sl m' 1 (u32s lb b)] (.tup [.vec 0 1 0 (la + lb - 1), .p (.int .i64 0)]) [.vec 41 1 (u32s (la + lb - 1) (cvF k (pad la a) (pad lb b)))] := by
  have k5 : k ≤ 5 := by rcases h with rfl | rfl | rfl | rfl | rfl <;> decide
  obtain ⟨s, hs2⟩ : ∃ s, s = 2 ^ k := ⟨_, rfl⟩
  have n32 : s ≤ 32 := by rw [hs2]; exact Nat.le_trans (Nat.pow_le_pow_right (by decide) k5) (by decide)
  have hp : pP = 998244353 := rfl
  rw [← hs2] at hs
  refine callG_of_vc (wr := wr0) Γok mixed Tryz.func15 (by kernel_rfl) rfl (by kernel_rfl) (le_of_ble rfl) (by simp) ?_
  refine SZ.mk (la : Int) (by simp) ?_
  refine SCmp.no (eqF (by omega)) ?_
  refine SZ.mk (lb : Int) (by simp) ?_
  refine SCmp.no (eqF (by omega)) ?_
  refine SZ.mk (la : Int) (by simp) ?_
  refine SZ.mk (lb : Int) (by simp) ?_
  refine SWrap.i64z ((la + lb : Nat) : Int) (by omega) (by omega) ?_
  refine SCmp.no (decide_eq_false (by omega)) ?_
  refine SCall.pure (whole_ok m la a ha (by omega)) ?_
  refine SCmp.no (rfl) ?_
  refine SCall.pure (whole_ok m' lb b hb (by omega)) ?_
  refine SCmp.no (rfl) ?_
  refine SZ.mk (la : Int) (by simp) ?_
  refine SZ.mk (lb : Int) (by simp) ?_
  refine SWrap.i64z ((la + lb : Nat) : Int) (by omega) (by omega) ?_
  refine SWrap.i64z ((la + lb - 1 : Nat) : Int) (by omega) (by omega) ?_
  refine SWrap.i64z ((la + lb - 2 : Nat) : Int) (by omega) (by omega) ?_
  refine SWrap.u64z (la + lb - 2) rfl (by omega) ?_
  have hbl := blen_ok (la + lb - 2) (by omega)
  rw [hl] at hbl
  refine SCall.pure (hbl) ?_
  refine shl1 (by omega) ?_
  refine SCall.fresh (clone_own m la a (by omega) (by omega)) ?_
  refine SZ.mk (la : Int) (by simp) ?_
  refine SWrap.i64z ((s - la : Nat) : Int) (by rw [← hs2]; omega) (by omega) ?_
  refine SEqN.mk (by simp) ?_
  refine SMake.mk (s - la) rfl (by simp; omega) (by omega) ?_
  refine SRoom.mk (by simp; omega) (by simp; omega) ?_
  refine SEs.mk (u32s s (pad la a)) (pad_app (by omega)) ?_
  refine SZN.mk s (by simp; omega) ?_
  refine SView.all (by simp) ?_
  have hA := transform_ok true k h (pad la a) (fun t ht => by unfold pad; split; exact ha t ‹_›; omega) false
  rw [← hs2] at hA
  refine SCall.newT (pvs := [.sl true 1 (u32s s (pad la a)), .bool false]) hA ?_
  refine SCall.fresh (clone_own m' lb b (by omega) (by omega)) ?_
  refine SZ.mk (lb : Int) (by simp) ?_
  refine SWrap.i64z ((s - lb : Nat) : Int) (by rw [← hs2]; omega) (by omega) ?_
  refine SEqN.mk (by simp) ?_
  refine SMake.mk (s - lb) rfl (by simp; omega) (by omega) ?_
  refine SRoom.mk (by simp; omega) (by simp; omega) ?_
  refine SEs.mk (u32s s (pad lb b)) (pad_app (by omega)) ?_
  refine SZN.mk s (by simp; omega) ?_
  refine SView.all (by simp) ?_
  have hB := transform_ok true k h (pad lb b) (fun t ht => by unfold pad; split; exact hb t ‹_›; omega) false
  rw [← hs2] at hB
  refine SCall.newT (pvs := [.sl true 1 (u32s s (pad lb b)), .bool false]) hB ?_
  refine SZ.mk (s : Int) rfl ?_
  have hX : ∀ l t, trD false k l t < pP := fun l t => by rw [trD_eq]; exact mod_lt_pP _
  refine SLoop.mk Nat (fun i => ([(6, .p (.int .i64 ((la + lb - 1 : Nat) : Int))), (8, .vec 0 1 0 s), (10, .vec 1 1 0 s), (75, .p (.int .i64 s)), (76, .p (.int .i64 i))], [.vec 41 1 (u32s s fun t => if t < i then trD false k (pad la a) t * trD false k (pad lb b) t % pP else trD false k (pad la a) t), .vec 41 1 (u32s s (trD false k (pad lb b)))]))
    (fun i => i ≤ s) (fun i => s - i) 0 [2, 5] (Nat.zero_le _) ⟨rfl, by simp, rfl, rfl, rfl, ⟨rfl, rfl, rfl, rfl, rfl, trivial⟩, ⟨congrArg (Blk.vec 41 1) (u32s_congr fun t _ => if_neg (Nat.not_lt_zero _)), rfl, trivial⟩⟩ ?_
  intro i hi
  have hi : i ≤ s := hi
  by_cases his : i < s
  · refine SCmp.yes (decide_eq_true (by omega)) ?_
    have l1 := hX (pad la a) i
    have l2 := hX (pad lb b) i
    have e1 : (if i < i then trD false k (pad la a) i * trD false k (pad lb b) i % pP else trD false k (pad la a) i) = trD false k (pad la a) i := if_neg (Nat.lt_irrefl i)
    have hst : ∀ t, t < s → (if t < i + 1 then trD false k (pad la a) t * trD false k (pad lb b) t % pP else trD false k (pad la a) t) = if t = i then trD false k (pad la a) i * trD false k (pad lb b) i % pP else if t < i then trD false k (pad la a) t * trD false k (pad lb b) t % pP else trD false k (pad la a) t := fun t _ => by
      by_cases e : t = i
      · rw [if_pos e, if_pos (by omega), e]
      · rw [if_neg e]
        by_cases e2 : t < i
        · rw [if_pos e2, if_pos (by omega)]
        · rw [if_neg e2, if_neg (by omega)]
    refine SDraw.mkX (by kernel_rfl) ?_
    repeat refine SOp.mk _ _ (And.intro rfl rfl) rfl ?_
    refine SOp.mk _ _ (SPos.mk i rfl his (And.intro rfl rfl)) rfl ?_
    refine SOp.mk _ _ (SIdx.mk i (.int .u32 ((trD false k (pad la a) i : Nat) : Int)) rfl ((fl_get his).trans (congrArg (fun z : Nat => some (PV.int .u32 (z : Int))) e1)) (And.intro rfl rfl)) rfl ?_
    repeat refine SOp.mk _ _ (And.intro rfl rfl) rfl ?_
    refine SOp.mk _ _ (SPos.mk i rfl his (And.intro rfl rfl)) rfl ?_
    refine SOp.mk _ _ (SIdx.uf i rfl his (And.intro rfl rfl)) rfl ?_
    refine SOp.mk _ _ (SCall.pure (ftimes_ok (trD false k (pad la a) i) (trD false k (pad lb b) i) (by omega) (by omega)) (And.intro rfl rfl)) rfl ?_
    refine SOp.mk _ _ (SPos.mk i rfl his (And.intro rfl rfl)) rfl ?_
    refine SOp.mk _ _ (SLt.mk (by simp; omega) <| SEs.mk (u32s s fun t => if t < i + 1 then trD false k (pad la a) t * trD false k (pad lb b) t % pP else trD false k (pad la a) t) (u32s_set hst) (And.intro rfl rfl)) rfl ?_
    repeat refine SOp.mk _ _ (And.intro rfl rfl) rfl ?_
    refine SFin.mk (by kernel_rfl) ?_
    refine SWrap.i64z ((i + 1 : Nat) : Int) (by omega) (by omega) ?_
    exact ⟨i + 1, [0, 1], his, by show s - (i + 1) < s - i; omega, ⟨rfl, by simp, rfl, rfl, rfl, ⟨rfl, rfl, rfl, rfl, rfl, trivial⟩, ⟨rfl, rfl, trivial⟩⟩⟩
  · refine SCmp.no (decide_eq_false (by omega)) ?_
    obtain rfl : i = s := by omega
    have he : u32s i (fun t => if t < i then trD false k (pad la a) t * trD false k (pad lb b) t % pP else trD false k (pad la a) t) = u32s i fun t => if t < 2 ^ k then trF k (pad la a) t * trF k (pad lb b) t % pP else 0 :=
      u32s_congr fun t ht => by rw [if_pos ht, if_pos (by rw [← hs2]; exact ht)]; rfl
    have hC := transform_ok true k h (fun t => if t < 2 ^ k then trF k (pad la a) t * trF k (pad lb b) t % pP else 0) (fun t ht => by rw [if_pos ht]; exact mod_lt_pP _) true
    rw [← hs2] at hC
    refine SView.all (by simp) ?_
    refine SCall.newT (pvs := [.sl true 1 (u32s i fun t => if t < i then trD false k (pad la a) t * trD false k (pad lb b) t % pP else trD false k (pad la a) t), .bool true]) (by rw [he]; rw [hs2] at hC ⊢; exact hC) ?_
    refine SCmp.no (rfl) ?_
    refine SCut.mk 0 (la + lb - 1) rfl rfl (by omega) (by omega) ?_
    refine SView.mk (u32s (la + lb - 1) (cvF k (pad la a) (pad lb b))) ?_ (by simp; omega) ?_
    · apply List.ext_getElem (by simp; omega)
      intro q h1 h2
      simp only [List.getElem_take, List.getElem_drop, fl, List.getElem_map, List.getElem_range, Nat.zero_add]
      rfl
    refine SCall.fresh (clone_own true (la + lb - 1) (cvF k (pad la a) (pad lb b)) (by omega) (by omega)) ?_
    exact SRet.newT 3 rfl (.int _ _) rfl pers_u32s
end Go.Proofs.YtnilcfiemgmfdaaGreat

namespace Go.Proofs.YtnilcfiemgmfdaaGreat
open Go
set_option linter.unusedVariables false
set_option linter.unusedSimpArgs false
set_option maxRecDepth 10000
theorem fapply_ok (m : Nat → Bool) (m' : Bool) (g : GV) {b c d e : Nat} (h : Wf g b c) (y : Nat → Rat) (hy : ∀ k, k < g.n → Bz (y k) d) (hE : ∀ i j, i < g.n → j < g.n → Bz (ent g i j) e) (hb : g.n * (e + d + 1) + 1 + (e + d) + 1 ≤ 1048576) :
    CallP Tryz.prog 14 [genP m g, ratsM m' (lst g.n y)] (.tup [.vec 0 3 0 g.n, .p (.int .i64 0)]) [.vec 38 3 (rats (lst g.n (apl g.n (ent g) y)))] := by
  have n6 := h.n6
  have n1 := h.n1
  refine callG_of_vc (wr := wr0) Γok mixed Tryz.func14 (by kernel_rfl) rfl (by kernel_rfl) (le_of_ble rfl) (by simp) ?_
  refine SZ.mk (g.n : Int) (by simp [lst]) ?_
  refine SCmp.no (by simp) ?_
  refine SCall.pure (gexpand_ok m g h) ?_
  refine SNil.mk (fun h => ?_) (fun h => ⟨?_, ?_⟩)
  · refine SCall.fresh (dapply_ok false false m' g.n (ent g) y hE hy (by omega) (by omega) hb) ?_
    exact SRet.newT 1 rfl (.int _ _) rfl (pers_rats _)
  · exact absurd h (by simp; omega)
  · exact absurd h (by simp; omega)
end Go.Proofs.YtnilcfiemgmfdaaGreat

namespace Go.Proofs.YtnilcfiemgmfdaaGreat
open Go
set_option linter.unusedVariables false
set_option linter.unusedSimpArgs false
set_option maxRecDepth 10000
def nsm : Nat → (Nat → Nat) → Nat
  | 0, _ => 0
  | n + 1, f => nsm n f + f n
theorem nsm_zs {f : Nat → Nat} : ∀ n, ((nsm n f : Nat) : Int) = zs n fun j => (f j : Int) := by
  intro n
  induction n with
  | zero => rfl
  | succ n ih => rw [nsm, Int.natCast_add, ih]; rfl
theorem nsm_rat {f : Nat → Nat} : ∀ n, ((nsm n f : Nat) : Rat) = sm n fun j => ((f j : Nat) : Rat) := by
  intro n
  induction n with
  | zero => rfl
  | succ n ih => rw [nsm, Rat.natCast_add, ih]; rfl
theorem nsm_le {f : Nat → Nat} {B : Nat} : ∀ n, (∀ j, j < n → f j ≤ B) → nsm n f ≤ n * B := by
  intro n
  induction n with
  | zero => intro _; exact Nat.zero_le _
  | succ n ih =>
    intro h
    have h1 := ih fun j hj => h j (by omega)
    have h2 := h n (Nat.lt_succ_self n)
    rw [nsm, Nat.succ_mul]; omega
theorem zs_tail {f : Nat → Int} {m : Nat} : ∀ n, m ≤ n → (∀ j, m ≤ j → j < n → f j = 0) → zs n f = zs m f := by
  intro n
  induction n with
  | zero =>
    intro h _
    obtain rfl : m = 0 := by omega
    rfl
  | succ n ih =>
    intro h h0
    by_cases e : m = n + 1
    · rw [e]
    · rw [zs, ih (by omega) fun j h1 h2 => h0 j h1 (by omega), h0 n (by omega) (by omega)]; omega
theorem conv_toep {k N : Nat} (h : Kk k) (n1 : 1 ≤ N) (n8 : N ≤ 8) (hk : 3 * N - 2 ≤ 2 ^ k) {a b : Nat → Nat} (ha : ∀ j, 2 * N - 1 ≤ j → a j = 0) (hb : ∀ j, N ≤ j → b j = 0) (sa : ∀ j, a j < 2000) (sb : ∀ j, b j < 2000) {i c : Nat} (hi : i < N) (hc : c < pP)
    (e : Cg c (trB k (fun i => if i < 2 ^ k then trF k a i * trF k b i % pP else 0) (N - 1 + i))) : c = nsm N fun j => a (i + N - 1 - j) * b j := by
  have h1 := e.trans (conv_ok h ha hb (by omega) (t := N - 1 + i) (by omega))
  have h2 : (zs (2 ^ k) fun j => zs (2 ^ k) fun l => if j + l = N - 1 + i then (a j : Int) * b l else 0) = ((nsm N fun j => a (i + N - 1 - j) * b j : Nat) : Int) := by
    rw [zs_comm, nsm_zs, ← zs_tail (m := N) (2 ^ k) (by omega) fun j h1 h2 => by rw [hb j h1, Nat.mul_zero]; rfl]
    refine zs_congr fun l hl => ?_
    by_cases hl2 : l ≤ i + N - 1
    · rw [zs_congr (g := fun j => if j = i + N - 1 - l then (a j : Int) * b l else 0) fun j hj => ?_]
      · rw [zs_one (by omega) fun j => (a j : Int) * b l, Int.natCast_mul]
      · by_cases e : j = i + N - 1 - l
        · rw [if_pos e, if_pos (by omega)]
        · rw [if_neg e, if_neg (by omega)]
    · rw [zs_zero fun j _ => if_neg (by omega), hb l (by omega), Nat.mul_zero]; rfl
  rw [h2] at h1
  have h3 : (nsm N fun j => a (i + N - 1 - j) * b j) ≤ N * 4000000 := nsm_le N fun j _ => Nat.le_trans (Nat.mul_le_mul (Nat.le_of_lt (sa _)) (Nat.le_of_lt (sb _))) (by decide)
  have h4 : N * 4000000 ≤ 8 * 4000000 := Nat.mul_le_mul_right _ n8
  unfold Cg pP at h1
  unfold pP at hc
  omega
end Go.Proofs.YtnilcfiemgmfdaaGreat

namespace Go.Proofs.YtnilcfiemgmfdaaGreat
open Go
set_option linter.unusedVariables false
set_option linter.unusedSimpArgs false
set_option maxRecDepth 10000
theorem kN_ok {N : Nat} (h1 : 1 ≤ N) (h2 : N ≤ 8) : Kk (bitLen (2 * N - 1 + N - 2)) ∧ 2 * N - 1 + N - 1 ≤ 2 ^ bitLen (2 * N - 1 + N - 2) := by
  have : N = 1 ∨ N = 2 ∨ N = 3 ∨ N = 4 ∨ N = 5 ∨ N = 6 ∨ N = 7 ∨ N = 8 := by omega
  unfold Kk
  rcases this with rfl | rfl | rfl | rfl | rfl | rfl | rfl | rfl <;> decide +kernel
/-- A list's numbers, or their places. -/
def wkA (ns : List Int) (i : Nat) : Nat := if i < ns.length then (ns.getD i 0 % 2000).toNat else i
theorem wkA_lt (ns : List Int) {i : Nat} (h : i < 15) : wkA ns i < 2000 := by unfold wkA; split <;> omega
def gT (N : Nat) (a : Nat → Nat) : GV := ⟨1, N, 0, fun i => (((a i : Nat) : Int) : Rat), fun _ => 0, fun _ => 0, fun _ => 0⟩
theorem nat_bz {x : Nat} (h : x < 2000) : Bz (((x : Nat) : Int) : Rat) 11 := int_bz (bitLen_le (Nat.lt_of_lt_of_le h (by decide))) (by decide)
theorem wf_gT {N : Nat} (h1 : 1 ≤ N) (h2 : N ≤ 8) {a : Nat → Nat} (ha : ∀ t, t < 2 * N - 1 → a t < 2000) : Wf (gT N a) 11 13 where
  k1 := Nat.le_refl _
  k7 := by show 1 ≤ 7; decide
  kT := Nat.le_refl _
  n1 := h1
  n6 := h2
  r2 := by show 0 ≤ 2; decide
  r1 := fun h => by rcases h with h | h <;> cases h
  r0 := fun _ => rfl
  bA := fun i hi => nat_bz (ha i hi)
  bB := fun i _ => bz_zero.mono (by decide)
  bG := fun i _ => bz_zero.mono (by decide)
  bH := fun i _ => bz_zero.mono (by decide)
  ne := fun i j _ hj => absurd hj (Nat.not_lt_zero _)
  bc := by decide
  c4 := by decide
theorem ent_gT {N : Nat} {a : Nat → Nat} (i j : Nat) : ent (gT N a) i j = (((a (i + N - 1 - j) : Nat) : Int) : Rat) := rfl
theorem nsm_congr {f g : Nat → Nat} : ∀ {n : Nat}, (∀ i, i < n → f i = g i) → nsm n f = nsm n g := by
  intro n
  induction n with
  | zero => exact fun _ => rfl
  | succ n ih => exact fun h => by rw [nsm, nsm, ih fun i hi => h i (by omega), h n (by omega)]
theorem cvF_lt {k : Nat} {a b : Nat → Nat} {t : Nat} : cvF k a b t < pP := Nat.mod_lt _ (by decide)
theorem pad_in {n : Nat} {a : Nat → Nat} {t : Nat} (h : t < n) : pad n a t = a t := if_pos h
theorem pad_out {n : Nat} {a : Nat → Nat} {t : Nat} (h : n ≤ t) : pad n a t = 0 := if_neg (by omega)
theorem pad_lt {n : Nat} {a : Nat → Nat} (h : ∀ t, t < n → a t < 2000) (j : Nat) : pad n a j < 2000 := by
  by_cases e : j < n
  · rw [pad_in e]; exact h j e
  · rw [pad_out (by omega)]; decide
theorem whole_eq {N : Nat} (n1 : 1 ≤ N) (n8 : N ≤ 8) {a b : Nat → Nat} (ha : ∀ t, t < 2 * N - 1 → a t < 2000) (hb : ∀ t, t < N → b t < 2000) {i : Nat} (hi : i < N) :
    apl N (ent (gT N a)) (fun j => (((b j : Nat) : Int) : Rat)) i = (((cvF (bitLen (2 * N - 1 + N - 2)) (pad (2 * N - 1) a) (pad N b) (N - 1 + i) : Nat) : Int) : Rat) := by
  obtain ⟨h1, h2⟩ := kN_ok n1 n8
  have h := conv_toep h1 n1 n8 (by omega) (a := pad (2 * N - 1) a) (b := pad N b) (fun j hj => pad_out hj) (fun j hj => pad_out hj) (pad_lt ha) (pad_lt hb) hi cvF_lt (Cg.refl _)
  have e : cvF (bitLen (2 * N - 1 + N - 2)) (pad (2 * N - 1) a) (pad N b) (N - 1 + i) = nsm N fun j => a (i + N - 1 - j) * b j :=
    h.trans (nsm_congr fun j hj => by rw [pad_in (by omega), pad_in hj])
  rw [e, show ((((nsm N fun j => a (i + N - 1 - j) * b j : Nat) : Int) : Rat)) = ((nsm N fun j => a (i + N - 1 - j) * b j : Nat) : Rat) from rfl, nsm_rat]
  refine sm_congr fun j hj => ?_
  rw [ent_gT]
  show (((a _ : Nat) : Rat)) * ((b j : Nat) : Rat) = _
  exact (Rat.natCast_mul _ _).symm
end Go.Proofs.YtnilcfiemgmfdaaGreat

namespace Go.Proofs.YtnilcfiemgmfdaaGreat
open Go
set_option linter.unusedVariables false
set_option linter.unusedSimpArgs false
/-- A call that makes blocks and answers with them. -/
theorem SCall.news {P : Program} {wr : Bool} {f : FuncId} {L : Hd → Blk} {base : Nat} {K : AV → List (Hd × Blk) → Prop} {pvs : List PV} {r : AV} {nb : List Blk} (hc : CallP P f pvs r nb) (hf : ∀ B ∈ nb, B ≠ .free)
    (hk : K (r.ren (renOf [] base)) (nb.zipIdx.map fun x => (.t (renN [] base x.2), x.1.ren (renOf [] base)))) {raw : List AV} : SCall P wr f raw (pvs.map .p) L base K :=
  .mk [] (pvs.map .p) r [] nb (fun _ => rfl) .nil (fun _ h => by simp at h) (by rw [AV.renL_eq, List.map_map]; exact List.map_congr_left fun _ _ => rfl) rfl (fun i h B e => by simp at e) (fun _ h => by simp at h) (fun _ h => by simp at h) (Nat.zero_le _) hf
    (fun a ha k hk => by obtain ⟨v, _, rfl⟩ := List.mem_map.1 ha; simp only [AV.men] at hk) hc hk
/-- What was handed over is handed back. -/
theorem SRet.keep {nin : Hp} {av : AV} {H : Hp} {r : AV} {Hout : Hp} (hl : Hout.length = nin.length) (hp : ∀ B ∈ nin, ∀ k, B.row k = .free) (hlv : ∀ i, i < nin.length → (H.getD i .free).top.live)
    (hb : ∀ (i : Nat) B, Hout[i]? = some B → ConvB (List.range nin.length) H (H.getD i .free) B) (hv : Conv (List.range nin.length) H av r) : SRet nin av H r Hout := by
  have key : ∀ h : Hd, look nin h ≠ .free → ∃ i, h = .t i ∧ i < nin.length := fun h hh => by
    have hk := look_lt hh
    cases h with
    | t i => exact ⟨i, rfl, hk⟩
    | r i k =>
      exfalso
      have hk : i < nin.length := hk
      refine hh ?_
      simp only [look]
      have : nin.getD i .free = nin[i] := by simp [List.getD, List.getElem?_eq_getElem hk]
      rw [this]; exact hp _ (List.getElem_mem hk) k
  have lv : ∀ h : Hd, look nin h ≠ .free → (look H h).live := fun h hh => by
    obtain ⟨i, rfl, hi⟩ := key h hh
    exact hlv i hi
  refine .mk (List.range nin.length) (by simp) List.nodup_range (by simp [hl]) (by simp) (fun h hh => lv h (Blk.live_ne hh)) (fun h hh => Blk.live_ne (lv h hh)) (fun i h B e1 e2 => ?_) hv
  have hi : i < nin.length := by have := (List.getElem?_eq_some_iff.1 e1).1; simpa using this
  rw [List.getElem?_range hi] at e1
  cases e1
  exact hb i B e2
end Go.Proofs.YtnilcfiemgmfdaaGreat

namespace Go.Proofs.YtnilcfiemgmfdaaGreat
open Go
set_option linter.unusedVariables false
set_option linter.unusedSimpArgs false
set_option maxRecDepth 10000
abbrev r0n : PV := .sl false 3 []
theorem lzero_ok : CallP Tryz.prog 260 [] (.p (ratP 0)) [] := by
  refine callG_of_vc (wr := wr0) Γok mixed Tryz.func260 (by kernel_rfl) rfl (by kernel_rfl) (le_of_ble rfl) (by simp) ?_
  refine SRet.pure ?_
  rw [ratP_zero]
  exact conv3 ⟨rfl, rfl, rfl⟩ (.p _ (.bool _)) (.p _ (.sl _ _ (fun e he => by simp at he))) (frz1 rfl)
/-- A product with nothing. -/
theorem ldot0_ok (m : Bool) (f : List Rat) (a : Int) : CallP Tryz.prog 246 [ratsM m f, .int .i64 a, .sl false 3 []] (.p (ratP 0)) [] := by
  refine callG_of_vc (wr := wr0) Γok mixed Tryz.func246 (by kernel_rfl) rfl (by kernel_rfl) (le_of_ble rfl) (by simp) ?_
  refine SCall.pure (lzero_ok) ?_
  refine SZ.mk 0 rfl ?_
  refine SLoop.mk Nat (fun _ => ([(6, .bptr 0 0), (7, .bptr 1 0), (12, .p (.int .i64 0)), (13, .p (.int .i64 0))], [.box 38 [.p (.bool false), .p (.sl false 1 []), .p (.sl false 1 [])], .box 38 (bxQ 0)]))
    (fun _ => True) (fun _ => 0) 0 [0, 1] trivial ⟨rfl, by simp, rfl, rfl, rfl, ⟨rfl, rfl, rfl, rfl, trivial⟩, ⟨rfl, rfl, trivial⟩⟩ ?_
  intro i _
  refine SCmp.no (rfl) ?_
  exact SRet.pure (.p _ (pers_rat _ _ _))
theorem SRet.newB {av : AV} {H : Hp} {T : TypeId} {cs : List PV} {v : PV} (h : Nat) (hav : av = .tup [.bptr h 0, .p v]) (hv : Pers v) (h0 : look H h = .box T (cs.map .p)) (ho : ∀ c ∈ cs, c.one = true) (hp : ∀ c ∈ cs, Pers c) : SRet [] av H (.tup [.bptr 0 0, .p v]) [.box T (cs.map .p)] :=
  .mk [h] rfl (by simp) rfl (Nat.zero_le _) (fun h hl => by rw [look_nil] at hl; exact hl.elim) (fun h hl => absurd (look_nil h) hl) (fun i h' B e1 e2 => by
    match i, e1, e2 with
    | 0, e1, e2 =>
      cases e1; cases e2
      rw [getD_of_look h0 trivial]
      refine .box (fun d hd => by obtain ⟨c, hc, rfl⟩ := List.mem_map.1 hd; exact ho c hc) rfl fun i c d e1 e2 => ?_
      rw [e1] at e2; cases e2
      obtain ⟨c', hc, rfl⟩ := List.mem_map.1 (List.mem_of_getElem? e1)
      exact .p _ (hp c' hc)) (by
    rw [hav]
    refine .tup rfl fun i c d e1 e2 => ?_
    match i, e1, e2 with
    | 0, e1, e2 => cases e1; cases e2; exact .bptr rfl
    | 1, e1, e2 => cases e1; cases e2; exact .p _ hv)
theorem lof_ok (m : Nat → Bool) (g : GV) {b c : Nat} (h : Wf g b c) : CallP Tryz.prog 226 [genP m g] (.tup [.bptr 0 0, .p (.int .i64 0)]) [.box 252 [.p (matP false false g.n g.n (ent g)), .p r0n, .p r0n]] := by
  have n1 := h.n1
  have e : g.k = 1 := by have := h.k1; have := h.kT; omega
  refine callG_of_vc (wr := wr0) Γok mixed Tryz.func226 (by kernel_rfl) rfl (by kernel_rfl) (le_of_ble rfl) (by simp) ?_
  refine SCmp.no (by rw [e]; rfl) ?_
  refine SCall.pure (gexpand_ok m g h) ?_
  refine SNil.mk (fun h => ?_) (fun h => ⟨?_, ?_⟩)
  · exact SRet.newB (cs := [matP false false g.n g.n (ent g), r0n, r0n]) 1 rfl (.int _ _) rfl (by intro c hc; simp at hc; rcases hc with rfl | rfl <;> rfl) (by intro c hc; simp at hc; rcases hc with rfl | rfl; exact pers_matP; exact .sl _ _ (fun e he => absurd he List.not_mem_nil))
  · exact absurd h (by simp; omega)
  · exact absurd h (by simp; omega)
theorem lone_ok : CallP Tryz.prog 245 [] (.p (ratP 1)) [] := by
  refine callG_of_vc (wr := wr0) Γok mixed Tryz.func245 (by kernel_rfl) rfl (by kernel_rfl) (le_of_ble rfl) (by simp) ?_
  refine SRet.pure ?_
  rw [ratP_one']
  exact conv3 ⟨rfl, rfl, rfl⟩ (.p _ (.bool _)) (frz1 rfl) (frz1 rfl)
/-- The first step. -/
theorem lnext_ok (A : Nat → Nat → Rat) (h0 : A 0 0 ≠ 0) {b : Nat} (hb : Bz (A 0 0) b) (hb2 : b ≤ 1000) :
    CallG Tryz.prog 227 [.bptr 0 0] [.box 252 [.p (matP false false 1 1 A), .p r0n, .p r0n]] (.p (.bool true))
      [.box 252 [.p (matP false false 1 1 A), .p (ratsM false (lst 1 fun _ => 1 / A 0 0)), .p (ratsM false (lst 1 fun _ => 1 / A 0 0))]] := by
  refine callG_of_vc (wr := wr0) Γok mixed Tryz.func227 (by kernel_rfl) rfl (by kernel_rfl) (le_of_ble rfl) (by intro B hB; simp at hB; subst hB; exact fun e => by cases e) ?_
  refine SZ.mk 0 rfl ?_
  refine SCmp.yes (rfl) ?_
  refine SDraw.mkX (by kernel_rfl) ?_
  refine SOp.mk _ _ (SCall.pure (lone_ok) (And.intro rfl rfl)) rfl ?_
  repeat refine SOp.mk _ _ (And.intro rfl rfl) rfl ?_
  refine SOp.mk _ _ (SIdx.mf 0 rfl (by decide) (And.intro rfl rfl)) rfl ?_
  repeat refine SOp.mk _ _ (And.intro rfl rfl) rfl ?_
  refine SOp.mk _ _ (SIdx.rf 0 rfl (by decide) (And.intro rfl rfl)) rfl ?_
  repeat refine SOp.mk _ _ (And.intro rfl rfl) rfl ?_
  refine SOp.mk _ _ (SCall.pureT (quo_ok 1 (A 0 0) h0 bz_one.sz hb.sz (by omega)) (fun _ => rfl) (And.intro rfl rfl)) rfl ?_
  repeat refine SOp.mk _ _ (And.intro rfl rfl) rfl ?_
  refine SFin.mk (by kernel_rfl) ?_
  refine SDraw.mkX (by kernel_rfl) ?_
  repeat refine SOp.mk _ _ (And.intro rfl rfl) rfl ?_
  refine SFin.mk (by kernel_rfl) ?_
  refine SCmp.yes (rfl) ?_
  refine SRet.keep rfl (by intro B hB k; simp at hB; subst hB; rfl) (fun i hi => by obtain rfl : i = 0 := by simp at hi; exact hi
                                                                                    trivial) (fun i B e => ?_) (.tf _)
  match i, e with
  | 0, e =>
    cases e
    refine .box (by intro c hc; simp at hc; rcases hc with rfl | rfl <;> rfl) rfl fun i c d e1 e2 => ?_
    match i, e1, e2 with
    | 0, e1, e2 => cases e1; cases e2; exact .p _ pers_matP
    | 1, e1, e2 => cases e1; cases e2; exact .frz (h := (2 : Nat)) (es := rats (lst 1 fun _ => 1 / A 0 0)) rfl (by simp [Hd.key]) (by simp [lst]) (pers_rats _) rfl
    | 2, e1, e2 => cases e1; cases e2; exact .frz (h := (3 : Nat)) (es := rats (lst 1 fun _ => 1 / A 0 0)) rfl (by simp [Hd.key]) (by simp [lst]) (pers_rats _) rfl
end Go.Proofs.YtnilcfiemgmfdaaGreat

namespace Go.Proofs.YtnilcfiemgmfdaaGreat
open Go
set_option linter.unusedVariables false
set_option linter.unusedSimpArgs false
set_option maxRecDepth 10000
theorem lbehind0_ok : CallP Tryz.prog 247 [.sl false 3 []] (.vec 0 3 0 1) [.vec 38 3 (rats (lst 1 fun _ => 0))] := by
  refine callG_of_vc (wr := wr0) Γok mixed Tryz.func247 (by kernel_rfl) rfl (by kernel_rfl) (le_of_ble rfl) (by simp) ?_
  refine SZ.mk 0 rfl ?_
  refine SDraw.mkX (by kernel_rfl) ?_
  repeat refine SOp.mk _ _ (And.intro rfl rfl) rfl ?_
  refine SOp.mk _ _ (SZ.mk 0 rfl <| SLt.mk (by simp) <| SCut.mk 0 0 rfl rfl (by decide) (by simp) <| SCap.emp rfl (And.intro rfl rfl)) rfl ?_
  refine SOp.mk _ _ (SCall.pure (lzero_ok) (And.intro rfl rfl)) rfl ?_
  repeat refine SOp.mk _ _ (And.intro rfl rfl) rfl ?_
  refine SOp.mk _ _ (SView.all rfl <| SRoom.mk (by simp) (by simp) (And.intro rfl rfl)) rfl ?_
  repeat refine SOp.mk _ _ (And.intro rfl rfl) rfl ?_
  refine SFin.mk (by kernel_rfl) ?_
  exact SRet.new 1 rfl rfl (pers_rats _)
theorem lless1_ok (m m' : Bool) (f g : Nat → Rat) (t : Rat) {b : Nat} (hf : Bz (f 0) b) (hg : Bz (g 0) b) (ht : Bz t b) (hb : b ≤ 10000) :
    CallP Tryz.prog 250 [ratsM m (lst 1 f), ratsM m' (lst 1 g), ratP t] (.vec 0 3 0 1) [.vec 38 3 (rats (lst 1 fun _ => f 0 - t * g 0))] := by
  refine callG_of_vc (wr := wr0) Γok mixed Tryz.func250 (by kernel_rfl) rfl (by kernel_rfl) (le_of_ble rfl) (by simp) ?_
  refine SZ.mk 1 rfl ?_
  refine SZ.mk 1 rfl ?_
  refine SLt.mk (by simp) ?_
  refine SMake.rat 1 rfl (by decide) ?_
  refine SZ.mk 1 rfl ?_
  refine SLoop.mk Nat (fun i => ([(0, .p (ratsM m (lst 1 f))), (1, .p (ratsM m' (lst 1 g))), (5, .bptr 0 0), (7, .vec 1 3 0 1), (13, .p (.int .i64 1)), (14, .p (.int .i64 i))], [.box 38 (bxQ t), .vec 38 3 (fl 1 fun k => if k < i then ratP (f 0 - t * g 0) else rat0)]))
    (fun i => i ≤ 1) (fun i => 1 - i) 0 [0, 1] (Nat.zero_le _) ⟨rfl, by simp, rfl, rfl, rfl, ⟨rfl, rfl, rfl, rfl, rfl, rfl, trivial⟩, ⟨rfl, rfl, trivial⟩⟩ ?_
  intro i hi
  have hi : i ≤ 1 := hi
  by_cases h1 : i < 1
  · obtain rfl : i = 0 := by omega
    refine SCmp.yes (decide_eq_true (by omega)) ?_
    refine SDraw.mkX (by kernel_rfl) ?_
    repeat refine SOp.mk _ _ (And.intro rfl rfl) rfl ?_
    refine SOp.mk _ _ (SIdx.rf 0 rfl (by decide) (And.intro rfl rfl)) rfl ?_
    repeat refine SOp.mk _ _ (And.intro rfl rfl) rfl ?_
    refine SOp.mk _ _ (SIdx.rf 0 rfl (by decide) (And.intro rfl rfl)) rfl ?_
    repeat refine SOp.mk _ _ (And.intro rfl rfl) rfl ?_
    refine SOp.mk _ _ (SCall.pure (ratmul_ok _ _ ht.sz hg.sz (by omega)) (And.intro rfl rfl)) rfl ?_
    refine SOp.mk _ _ (SCall.pure (ratsub_ok _ _ hf.sz (ht.mul hg).sz (by omega)) (And.intro rfl rfl)) rfl ?_
    refine SOp.mk _ _ (SPos.mk 0 rfl (by decide) (And.intro rfl rfl)) rfl ?_
    refine SOp.mk _ _ (SLt.mk (by simp) <| SEs.mk (fl 1 fun k => if k < 0 + 1 then ratP (f 0 - t * g 0) else rat0) rfl (And.intro rfl rfl)) rfl ?_
    repeat refine SOp.mk _ _ (And.intro rfl rfl) rfl ?_
    refine SFin.mk (by kernel_rfl) ?_
    refine SWrap.i64z ((0 + 1 : Nat) : Int) (by omega) (by omega) ?_
    exact ⟨1, [0, 1], by decide, by decide, ⟨rfl, by simp, rfl, rfl, rfl, ⟨rfl, rfl, rfl, rfl, rfl, rfl, trivial⟩, ⟨rfl, rfl, trivial⟩⟩⟩
  · refine SCmp.no (decide_eq_false (by omega)) ?_
    obtain rfl : i = 1 := by omega
    exact SRet.new 1 rfl rfl (pers_rats _)
theorem lmore_ok (m : Bool) (A : Nat → Nat → Rat) (f p : Nat → Rat) {b : Nat} (hf : Bz (f 0) b) (hp : Bz (p 0) b) (hb : b ≤ 1000) :
    CallG Tryz.prog 228 [.bptr 0 0, .p r0n, .p (ratsM m (lst 1 f))] [.box 252 [.p (matP false false 1 1 A), .p (ratsM false (lst 1 p)), .p (ratsM false (lst 1 p))]] (.p (ratsM false (lst 1 fun _ => 0 - -(f 0 - 0) * p 0)))
      [.box 252 [.p (matP false false 1 1 A), .p (ratsM false (lst 1 p)), .p (ratsM false (lst 1 p))]] := by
  refine callG_of_vc (wr := wr0) Γok mixed Tryz.func228 (by kernel_rfl) rfl (by kernel_rfl) (le_of_ble rfl) (by intro B hB; simp at hB; subst hB; exact fun e => by cases e) ?_
  have h0 : Bz (f 0 - 0) (b + 1 + 1) := (hf.sub bz_zero).mono (by omega)
  refine SZ.mk 0 rfl ?_
  refine SDraw.mkX (by kernel_rfl) ?_
  repeat refine SOp.mk _ _ (And.intro rfl rfl) rfl ?_
  refine SOp.mk _ _ (SIdx.rf 0 rfl (by decide) (And.intro rfl rfl)) rfl ?_
  repeat refine SOp.mk _ _ (And.intro rfl rfl) rfl ?_
  refine SOp.mk _ _ (SIdx.mf 0 rfl (by decide) (And.intro rfl rfl)) rfl ?_
  repeat refine SOp.mk _ _ (And.intro rfl rfl) rfl ?_
  refine SOp.mk _ _ (SCall.pure (ldot0_ok false (lst 1 (A 0)) 0) (And.intro rfl rfl)) rfl ?_
  refine SOp.mk _ _ (SCall.pure (ratsub_ok _ _ hf.sz bz_zero.sz (by omega)) (And.intro rfl rfl)) rfl ?_
  repeat refine SOp.mk _ _ (And.intro rfl rfl) rfl ?_
  refine SFin.mk (by kernel_rfl) ?_
  refine SDraw.mkX (by kernel_rfl) ?_
  repeat refine SOp.mk _ _ (And.intro rfl rfl) rfl ?_
  refine SOp.mk _ _ (SCall.fresh lbehind0_ok (And.intro rfl rfl)) rfl ?_
  repeat refine SOp.mk _ _ (And.intro rfl rfl) rfl ?_
  refine SOp.mk _ _ (SCall.pure (neg_ok (f 0 - 0) (by have := h0.sz.1; omega) (by have := h0.sz.2; omega)) (And.intro rfl rfl)) rfl ?_
  refine SOp.mk _ _ (SView.all rfl <| SCall.fresh (lless1_ok true false (fun _ => 0) p (-(f 0 - 0)) (b := b + 2) (bz_zero.mono (by omega)) (hp.mono (by omega)) (h0.neg.mono (by omega)) (by omega)) (And.intro rfl rfl)) rfl ?_
  repeat refine SOp.mk _ _ (And.intro rfl rfl) rfl ?_
  refine SFin.mk (by kernel_rfl) ?_
  refine SRet.keep rfl (by intro B hB k; simp at hB; subst hB; rfl) (fun i hi => by obtain rfl : i = 0 := by simp at hi; exact hi
                                                                                    trivial) (fun i B e => ?_) (.frz (h := (3 : Nat)) (es := rats (lst 1 fun _ => 0 - -(f 0 - 0) * p 0)) rfl (by simp [Hd.key]) (by simp [lst]) (pers_rats _) rfl)
  match i, e with
  | 0, e =>
    cases e
    refine .box (by intro c hc; simp at hc; rcases hc with rfl | rfl <;> rfl) rfl fun i c d e1 e2 => ?_
    match i, e1, e2 with
    | 0, e1, e2 => cases e1; cases e2; exact .p _ pers_matP
    | 1, e1, e2 => cases e1; cases e2; exact .p _ (.sl _ _ (pers_rats _))
    | 2, e1, e2 => cases e1; cases e2; exact .p _ (.sl _ _ (pers_rats _))
end Go.Proofs.YtnilcfiemgmfdaaGreat

namespace Go.Proofs.YtnilcfiemgmfdaaGreat
open Go
set_option linter.unusedVariables false
set_option linter.unusedSimpArgs false
set_option maxRecDepth 10000
/-- A call that is handed one own box, of numbers alone, and hands it back. -/
theorem SCall.bx {P : Program} {f : FuncId} {L : Hd → Blk} {base h : Nat} {K : AV → List (Hd × Blk) → Prop} {T : TypeId} {cs cs' : List AV} {args args' : List AV} {r : PV}
    (hc : CallG P f args' [.box T cs] (.p r) [.box T cs']) (hb : h < base) (hL : L (.t h) = .box T cs ∧ ∀ k, L (.r h k) = .free)
    (h1 : ∀ ρ, AV.renL ρ cs = cs) (h2 : ∀ ρ, AV.renL ρ cs' = cs') (h3 : ∀ k, ¬ AV.menL cs k)
    (ha : AV.renL (renOf [h] base) args' = args) (hargs : ∀ a ∈ args', ∀ k, a.men k → k.key < 1)
    (hk : K (.p r) [(.t h, .box T cs')]) {raw : List AV} : SCall P true f raw args L base K := by
  refine .mk [h] args' (.p r) [.box T cs] [.box T cs'] (fun e => by cases e) (by simp) (fun k hk => by simp at hk; omega) ha rfl (fun i g B e1 e2 => ?_) (fun B hB => by simp at hB; subst hB; exact ⟨fun e => by (cases e), fun e => by (cases e)⟩)
    (fun B hB k hk => by simp at hB; subst hB; exact (h3 k hk).elim) (Nat.le_refl _) (fun B hB => by simp at hB; subst hB; exact fun e => by (cases e)) hargs hc ?_
  · match i, e1, e2 with
    | 0, e1, e2 =>
      cases e1; cases e2
      refine ⟨?_, hL.2⟩
      show _ = Blk.box T (AV.renL _ cs)
      rw [h1]; exact hL.1
  · show K (.p r) [(.t h, Blk.box T (AV.renL _ cs'))]
    rw [h2]; exact hk
abbrev wrL : FuncId → Bool := fun f => Nat.beq f 227 || Nat.beq f 228
theorem lsolve1_ok (m : Nat → Bool) (m' : Bool) (g : GV) {b c : Nat} (h : Wf g b c) (hn : g.n = 1) (f : Nat → Rat) (h0 : ent g 0 0 ≠ 0) (hE : Bz (ent g 0 0) b) (hf : Bz (f 0) b) :
    CallP Tryz.prog 208 [genP m g, ratsM m' (lst 1 f)] (.tup [.p (ratsM false (lst 1 fun _ => 0 - -(f 0 - 0) * (1 / ent g 0 0))), .p (.int .i64 0), .p (.int .i64 0)]) [] := by
  have hc := lof_ok m g h
  rw [hn] at hc
  have c4 := h.c4
  have hbc := h.bc
  have hx := lnext_ok (ent g) h0 hE (by omega)
  have hi : Bz (1 / ent g 0 0) (b + 1) := (bz_one.div hE).mono (by omega)
  have hm := lmore_ok m' (ent g) f (fun _ => 1 / ent g 0 0) (b := b + 1) (hf.mono (by omega)) hi (by omega)
  refine callG_of_vc (wr := wrL) Γok mixed Tryz.func208 (by kernel_rfl) rfl (by kernel_rfl) (le_of_ble rfl) (by simp) ?_
  refine SCall.news hc (by intro B hB; simp at hB; subst hB; exact fun e => by (cases e)) ?_
  refine SCmp.no (rfl) ?_
  refine SZ.mk 1 rfl ?_
  refine SCmp.no (by rw [hn]; rfl) ?_
  refine SLoop.mk Nat (fun i => match i with
      | 0 => ([(1, .p (ratsM m' (lst 1 f))), (4, .emp), (8, .fn 227 [.bptr 0 0] []), (9, .fn 228 [.bptr 0 0] []), (31, .p (.int .i64 g.n)), (32, .p (.int .i64 (0 : Nat)))], [.box 252 [.p (matP false false 1 1 (ent g)), .p r0n, .p r0n]])
      | i + 1 => ([(1, .p (ratsM m' (lst 1 f))), (4, .p (ratsM false (lst 1 fun _ => 0 - -(f 0 - 0) * (1 / ent g 0 0)))), (8, .fn 227 [.bptr 0 0] []), (9, .fn 228 [.bptr 0 0] []), (31, .p (.int .i64 g.n)), (32, .p (.int .i64 ((i + 1 : Nat) : Int)))], [.box 252 [.p (matP false false 1 1 (ent g)), .p (ratsM false (lst 1 fun _ => 1 / ent g 0 0)), .p (ratsM false (lst 1 fun _ => 1 / ent g 0 0))]]))
    (fun i => i ≤ 1) (fun i => 1 - i) 0 [1] (Nat.zero_le _) ⟨rfl, by simp, rfl, rfl, rfl, ⟨rfl, rfl, rfl, rfl, rfl, rfl, trivial⟩, ⟨rfl, trivial⟩⟩ ?_
  intro i hi
  have hi : i ≤ 1 := hi
  cases i with
  | zero =>
    refine SCmp.yes (decide_eq_true (by omega)) ?_
    refine SCall.bx (h := 0) (args' := [.bptr 0 0]) hx (by decide) ⟨rfl, fun _ => rfl⟩ (fun _ => rfl) (fun _ => rfl) (by intro k hk; simp [AV.menL, AV.men] at hk) rfl (by intro a ha k hk; simp at ha; subst ha; have : 0 = k := hk; subst this; decide) ?_
    refine SCmp.no (rfl) ?_
    refine SCall.bx (h := 0) (args' := [.bptr 0 0, .p r0n, .p (ratsM m' (lst 1 f))]) hm (by decide) ⟨rfl, fun _ => rfl⟩ (fun _ => rfl) (fun _ => rfl) (by intro k hk; simp [AV.menL, AV.men] at hk) rfl (by
      intro a ha k hk; simp at ha
      rcases ha with rfl | rfl | rfl
      · have : 0 = k := hk; subst this; decide
      · exact hk.elim
      · exact hk.elim) ?_
    refine SWrap.i64z ((0 + 1 : Nat) : Int) (by omega) (by omega) ?_
    exact ⟨0 + 1, [0], by show 0 + 1 ≤ 1; decide, by decide, ⟨rfl, by simp, rfl, rfl, rfl, ⟨rfl, rfl, rfl, rfl, rfl, rfl, trivial⟩, ⟨rfl, trivial⟩⟩⟩
  | succ i =>
    refine SCmp.no (decide_eq_false (by omega)) ?_
    exact SRet.pure (.tup rfl fun i c d e1 e2 => by
      match i, e1, e2 with
      | 0, e1, e2 => cases e1; cases e2; exact .p _ (.sl _ _ (pers_rats _))
      | 1, e1, e2 => cases e1; cases e2; exact .p _ (.int _ _)
      | 2, e1, e2 => cases e1; cases e2; exact .p _ (.int _ _))
end Go.Proofs.YtnilcfiemgmfdaaGreat

namespace Go.Proofs.YtnilcfiemgmfdaaGreat
open Go
set_option linter.unusedVariables false
set_option linter.unusedSimpArgs false
set_option maxRecDepth 10000
/-- A Gen and a right side of one number. -/
abbrev tkP (m : Nat → Bool) (m' : Bool) (g : GV) (f : Nat → Rat) : PV := .agg [.int .i64 g.k, .int .i64 g.n, .int .i64 g.r, ratsM (m 0) (lst g.la g.A), ratsM (m 1) (lst g.lb g.B), ratsM (m 2) (lst g.lh g.G), ratsM (m 3) (lst g.lh g.H), ratsM m' (lst 1 f)]
/-- The answer. -/
abbrev xV (g : GV) (f : Nat → Rat) : PV := ratsM false (lst 1 fun _ => 0 - -(f 0 - 0) * (1 / ent g 0 0))
theorem stoep1_ok (m : Nat → Bool) (m' : Bool) (g : GV) {b c : Nat} (h : Wf g b c) (hn : g.n = 1) (f : Nat → Rat) (h0 : ent g 0 0 ≠ 0) (hE : Bz (ent g 0 0) b) (hf : Bz (f 0) b) :
    CallP Tryz.prog 158 [tkP m m' g f] (.tup [.p (xV g f), .p (.int .i64 0)]) [] := by
  refine callG_of_vc (wr := wr0) Γok mixed Tryz.func158 (by kernel_rfl) rfl (by kernel_rfl) (le_of_ble rfl) (by simp) ?_
  refine SCall.pureT (lsolve1_ok m m' g h hn f h0 hE hf) (fun _ => rfl) ?_
  exact SRet.pure (.tup rfl fun i c d e1 e2 => by
    match i, e1, e2 with
    | 0, e1, e2 => cases e1; cases e2; exact .p _ (.sl _ _ (pers_rats _))
    | 1, e1, e2 => cases e1; cases e2; exact .p _ (.int _ _))
theorem sfirst1_ok (m : Nat → Bool) (m' : Bool) (g : GV) {b c : Nat} (h : Wf g b c) (hn : g.n = 1) (f : Nat → Rat) (h0 : ent g 0 0 ≠ 0) (hE : Bz (ent g 0 0) b) (hf : Bz (f 0) b) :
    CallP Tryz.prog 104 [tkP m m' g f] (.tup [.p (xV g f), .p (.int .i64 0)]) [] := by
  have hk : g.k = 1 := by have := h.k1; have := h.kT; omega
  refine callG_of_vc (wr := wr0) Γok mixed Tryz.func104 (by kernel_rfl) rfl (by kernel_rfl) (le_of_ble rfl) (by simp) ?_
  refine SKeys.all rfl <| SPut.add rfl ?_
  refine SKeys.all rfl <| SPut.add rfl ?_
  refine SKeys.all rfl <| SPut.add rfl ?_
  refine SKeys.all rfl <| SPut.add rfl ?_
  refine SKeys.all rfl <| SPut.add rfl ?_
  refine SKeys.all rfl <| SPut.add rfl ?_
  refine SKeys.all rfl <| SPut.add rfl ?_
  refine SKeys.all rfl <| SGet.at 0 (.int .i64 1, .mfn 158 [tkP m m' g f]) rfl ?_ ?_ ?_
  · rw [hk]; rfl
  · rw [hk]; rfl
  refine SCall.pureT (stoep1_ok m m' g h hn f h0 hE hf) (fun _ => rfl) ?_
  exact SRet.pure (.tup rfl fun i c d e1 e2 => by
    match i, e1, e2 with
    | 0, e1, e2 => cases e1; cases e2; exact .p _ (.sl _ _ (pers_rats _))
    | 1, e1, e2 => cases e1; cases e2; exact .p _ (.int _ _))
theorem sby1_ok (m : Nat → Bool) (m' : Bool) (g : GV) {b c : Nat} (h : Wf g b c) (hn : g.n = 1) (f : Nat → Rat) (h0 : ent g 0 0 ≠ 0) (hE : Bz (ent g 0 0) b) (hf : Bz (f 0) b) :
    CallP Tryz.prog 42 [tkP m m' g f, .int .i64 3] (.tup [.p (xV g f), .p (.int .i64 1), .p (.int .i64 0)]) [] := by
  refine callG_of_vc (wr := wr0) Γok mixed Tryz.func42 (by kernel_rfl) rfl (by kernel_rfl) (le_of_ble rfl) (by simp) ?_
  refine SCmp.no (rfl) ?_
  refine SCmp.no (rfl) ?_
  refine SCmp.no (rfl) ?_
  refine SCmp.yes (rfl) ?_
  refine SCall.pureT (sfirst1_ok m m' g h hn f h0 hE hf) (fun _ => rfl) ?_
  refine SCmp.no (rfl) ?_
  exact SRet.pure (.tup rfl fun i c d e1 e2 => by
    match i, e1, e2 with
    | 0, e1, e2 => cases e1; cases e2; exact .p _ (.sl _ _ (pers_rats _))
    | 1, e1, e2 => cases e1; cases e2; exact .p _ (.int _ _)
    | 2, e1, e2 => cases e1; cases e2; exact .p _ (.int _ _))
theorem ssolve1_ok (m : Nat → Bool) (m' : Bool) (g : GV) {b c : Nat} (h : Wf g b c) (hn : g.n = 1) (f : Nat → Rat) (h0 : ent g 0 0 ≠ 0) (hE : Bz (ent g 0 0) b) (hf : Bz (f 0) b) :
    CallP Tryz.prog 11 [genP m g, ratsM m' (lst 1 f), .int .i64 3] (.tup [.p (xV g f), .p (.int .i64 1), .p (.int .i64 0)]) [] := by
  have c4 := h.c4
  have hbc := h.bc
  refine callG_of_vc (wr := wr0) Γok mixed Tryz.func11 (by kernel_rfl) rfl (by kernel_rfl) (le_of_ble rfl) (by simp) ?_
  refine SZ.mk 1 rfl ?_
  refine SCmp.no (by rw [hn]; rfl) ?_
  refine SCall.pure (gcheck_ok m g h) ?_
  refine SCmp.no (rfl) ?_
  refine SZ.mk 1 rfl ?_
  refine SLoop.mk Nat (fun i => ([(1, .p (ratsM m' (lst 1 f))), (2, .p (.int .i64 3)), (3, .bptr 0 0), (21, .p (ratsM m' (lst 1 f))), (22, .p (.int .i64 1)), (23, .p (.int .i64 i))], [.box 26 (genA m g)]))
    (fun i => i ≤ 1) (fun i => 1 - i) 0 [0] (Nat.zero_le _) ⟨rfl, by simp, rfl, rfl, rfl, ⟨rfl, rfl, rfl, rfl, rfl, rfl, trivial⟩, ⟨rfl, trivial⟩⟩ ?_
  intro i hi
  have hi : i ≤ 1 := hi
  by_cases h1 : i < 1
  · obtain rfl : i = 0 := by omega
    refine SCmp.yes (decide_eq_true (by omega)) ?_
    refine SIdx.rf 0 rfl (by decide) ?_
    refine SCall.pure (ratright_ok (f 0) hf.sz (by omega)) ?_
    refine SCmp.no (rfl) ?_
    refine SWrap.i64z ((0 + 1 : Nat) : Int) (by omega) (by omega) ?_
    exact ⟨1, [0], by decide, by decide, ⟨rfl, by simp, rfl, rfl, rfl, ⟨rfl, rfl, rfl, rfl, rfl, rfl, trivial⟩, ⟨rfl, trivial⟩⟩⟩
  · refine SCmp.no (decide_eq_false (by omega)) ?_
    refine SCall.pureT (sby1_ok m m' g h hn f h0 hE hf) (fun _ => rfl) ?_
    refine SCmp.no (rfl) ?_
    exact SRet.pure (.tup rfl fun i c d e1 e2 => by
      match i, e1, e2 with
      | 0, e1, e2 => cases e1; cases e2; exact .p _ (.sl _ _ (pers_rats _))
      | 1, e1, e2 => cases e1; cases e2; exact .p _ (.int _ _)
      | 2, e1, e2 => cases e1; cases e2; exact .p _ (.int _ _))
end Go.Proofs.YtnilcfiemgmfdaaGreat

namespace Go.Proofs.YtnilcfiemgmfdaaGreat
open Go
set_option linter.unusedVariables false
set_option linter.unusedSimpArgs false
set_option maxRecDepth 10000
def p2 (e : Int) : Rat := if 0 ≤ e then ((2 ^ e.toNat : Nat) : Rat) else 1 / ((2 ^ (-e).toNat : Nat) : Rat)
theorem p2_ofNat (k : Nat) : p2 (k : Int) = ((2 ^ k : Nat) : Rat) := by rw [p2, if_pos (by omega), Int.toNat_natCast]
theorem pow_posQ (k : Nat) : (0 : Rat) < ((2 ^ k : Nat) : Rat) := by
  have : 0 < 2 ^ k := Nat.two_pow_pos k
  exact_mod_cast this
theorem one_div_posQ {x : Rat} (h : 0 < x) : 0 < 1 / x := by
  have e : 1 / x * x = 1 := Rat.div_mul_cancel (by grind)
  rcases Rat.le_total (a := 1 / x) (b := 0) with h1 | h1
  · have := Rat.mul_nonneg (show 0 ≤ -(1 / x) by grind) (show 0 ≤ x by grind)
    grind
  · rcases Rat.le_iff_lt_or_eq.1 h1 with h2 | h2
    · exact h2
    · rw [← h2] at e; grind
theorem p2_pos (e : Int) : 0 < p2 e := by
  unfold p2; split
  · exact pow_posQ _
  · exact one_div_posQ (pow_posQ _)
theorem p2_neg (k : Nat) : p2 (-(k : Int)) = 1 / ((2 ^ k : Nat) : Rat) := by
  unfold p2
  split
  · have : k = 0 := by omega
    subst this; simp; grind
  · congr 3; omega
theorem p2_succ (e : Int) : p2 (e + 1) = 2 * p2 e := by
  rcases Int.lt_or_le e 0 with h | h
  · obtain ⟨k, hk⟩ : ∃ k : Nat, e = -((k + 1 : Nat) : Int) := ⟨(-e - 1).toNat, by omega⟩
    rw [hk, p2_neg, show -((k + 1 : Nat) : Int) + 1 = -(k : Int) by omega, p2_neg]
    have h1 := pow_posQ k
    have h2 : ((2 ^ (k + 1) : Nat) : Rat) = 2 * ((2 ^ k : Nat) : Rat) := by rw [Nat.pow_succ, Nat.mul_comm]; simp
    rw [h2]
    generalize ((2 ^ k : Nat) : Rat) = x at h1
    grind
  · obtain ⟨k, hk⟩ : ∃ k : Nat, e = (k : Int) := ⟨e.toNat, by omega⟩
    rw [hk, p2_ofNat, show (k : Int) + 1 = ((k + 1 : Nat) : Int) by omega, p2_ofNat, Nat.pow_succ, Nat.mul_comm]
    simp
theorem p2_add_nat (e : Int) (k : Nat) : p2 (e + k) = p2 e * ((2 ^ k : Nat) : Rat) := by
  induction k with
  | zero => simp
  | succ k ih =>
    rw [show e + ((k + 1 : Nat) : Int) = e + k + 1 by omega, p2_succ, ih, Nat.pow_succ]
    simp
    grind
theorem p2_zero : p2 0 = 1 := by have := p2_ofNat 0; simpa using this
theorem p2_split {a b : Int} (h : b ≤ a) : p2 a = p2 b * ((2 ^ (a - b).toNat : Nat) : Rat) := by
  have := p2_add_nat b (a - b).toNat
  rwa [show b + ((a - b).toNat : Int) = a by omega] at this
theorem natq_lt {a b : Nat} : (a : Rat) < (b : Rat) ↔ a < b := by exact_mod_cast Iff.rfl
theorem mul_le_q {a b c : Rat} (h : a ≤ b) (hc : 0 < c) : a * c ≤ b * c := by
  have := Rat.mul_nonneg (show 0 ≤ b - a by grind) (show 0 ≤ c by grind)
  grind
theorem mul_pos_q {a b : Rat} (h : 0 < a) (hc : 0 < b) : 0 < a * b := Rat.mul_pos h hc
theorem mul_lt_q {a b c : Rat} (h : a < b) (hc : 0 < c) : a * c < b * c := by
  have := Rat.mul_pos (show 0 < b - a by grind) hc
  grind
/-- A code's whole number. -/
def fsig (c : Nat) : Nat := if c < 4503599627370496 then c else c % 4503599627370496 + 4503599627370496
/-- A code's power of two. -/
def fexp (c : Nat) : Int := if c < 4503599627370496 then -1074 else ((c / 4503599627370496 : Nat) : Int) - 1075
/-- What a code tells. -/
def fval (c : Nat) : Rat := (fsig c : Rat) * p2 (fexp c)
theorem fval_succ (c : Nat) : fval (c + 1) = fval c + p2 (fexp c) := by
  unfold fval fsig fexp
  rcases Nat.lt_or_ge (c + 1) 4503599627370496 with h | h
  · rw [if_pos h, if_pos h, if_pos (by omega), if_pos (by omega)]
    simp; grind
  · rcases Nat.lt_or_ge c 4503599627370496 with h0 | h0
    · have : c = 4503599627370495 := by omega
      subst this
      rw [if_neg (by omega), if_neg (by omega), if_pos (by omega), if_pos (by omega)]
      have : ((4503599627370496 : Nat) : Rat) = ((4503599627370495 : Nat) : Rat) + 1 := by exact_mod_cast (rfl : (4503599627370496 : Nat) = 4503599627370495 + 1)
      show ((4503599627370496 : Nat) : Rat) * p2 (-1074) = _
      rw [this]; grind
    · rw [if_neg (by omega), if_neg (by omega), if_neg (by omega), if_neg (by omega)]
      rcases Nat.lt_or_ge (c % 4503599627370496 + 1) 4503599627370496 with h1 | h1
      · have e1 : (c + 1) / 4503599627370496 = c / 4503599627370496 := by omega
        have e2 : (c + 1) % 4503599627370496 + 4503599627370496 = (c % 4503599627370496 + 4503599627370496) + 1 := by omega
        rw [e1, e2]
        obtain ⟨x, hx⟩ : ∃ x, x = c % 4503599627370496 + 4503599627370496 := ⟨_, rfl⟩
        rw [← hx]
        simp; grind
      · have e1 : (c + 1) / 4503599627370496 = c / 4503599627370496 + 1 := by omega
        have e2 : (c + 1) % 4503599627370496 = 0 := by omega
        have e3 : c % 4503599627370496 = 4503599627370495 := by omega
        rw [e1, e2, e3, show (((c / 4503599627370496 + 1 : Nat) : Int) - 1075) = ((c / 4503599627370496 : Nat) : Int) - 1075 + 1 by omega, p2_succ]
        show ((4503599627370496 : Nat) : Rat) * _ = ((9007199254740991 : Nat) : Rat) * _ + _
        have : 2 * ((4503599627370496 : Nat) : Rat) = ((9007199254740991 : Nat) : Rat) + 1 := by exact_mod_cast (rfl : 2 * (4503599627370496 : Nat) = 9007199254740991 + 1)
        grind
theorem fval_lt_succ (c : Nat) : fval c < fval (c + 1) := by rw [fval_succ]; have := p2_pos (fexp c); grind
theorem fval_add_lt (a k : Nat) : fval a < fval (a + k + 1) := by
  induction k with
  | zero => exact fval_lt_succ a
  | succ k ih => have := fval_lt_succ (a + k + 1); show _ < fval (a + k + 1 + 1); grind
theorem fval_lt {a b : Nat} : fval a < fval b ↔ a < b := by
  have key : ∀ {a b : Nat}, a < b → fval a < fval b := fun {a b} h => by
    obtain ⟨k, hk⟩ : ∃ k, b = a + k + 1 := ⟨b - a - 1, by omega⟩
    rw [hk]; exact fval_add_lt a k
  refine ⟨fun h => ?_, key⟩
  rcases Nat.lt_trichotomy a b with h1 | h1 | h1
  · exact h1
  · subst h1; grind
  · have := key h1; grind
theorem fval_code {v t : Nat} (h : v < 9007199254740992) (h2 : 4503599627370496 ≤ v ∨ t = 0) : fval (v + t * 4503599627370496) = (v : Rat) * p2 ((t : Int) - 1074) ∧ fexp (v + t * 4503599627370496) = (t : Int) - 1074 := by
  unfold fval fsig fexp
  rcases Nat.lt_or_ge v 4503599627370496 with h0 | h0
  · have ht : t = 0 := by omega
    subst ht
    rw [if_pos (by omega), if_pos (by omega)]
    simp
  · have e1 : (v + t * 4503599627370496) / 4503599627370496 = t + 1 := by omega
    have e2 : (v + t * 4503599627370496) % 4503599627370496 + 4503599627370496 = v := by omega
    rw [if_neg (by omega), if_neg (by omega), e1, e2, show ((t + 1 : Nat) : Int) - 1075 = (t : Int) - 1074 by omega]
    exact ⟨rfl, rfl⟩
theorem fexp_ge (c : Nat) : -1074 ≤ fexp c := by unfold fexp; split <;> omega
def IsCd (X : Rat) (c : Nat) : Prop := fval c ≤ X ∧ X < fval (c + 1)
theorem IsCd.uniq {X : Rat} {a b : Nat} (ha : IsCd X a) (hb : IsCd X b) : a = b := by
  have h1 : fval a < fval (b + 1) := by have := ha.1; have := hb.2; grind
  have h2 : fval b < fval (a + 1) := by have := hb.1; have := ha.2; grind
  rw [fval_lt] at h1 h2
  omega
open Classical in
noncomputable def cd (X : Rat) : Nat := if h : ∃ c, IsCd X c then h.choose else 0
theorem cd_eq {X : Rat} {c : Nat} (h : IsCd X c) : cd X = c := by
  unfold cd
  have h1 : ∃ c, IsCd X c := ⟨c, h⟩
  rw [dif_pos h1]
  exact h1.choose_spec.uniq h
def cmpR (a b : Rat) : Int := if a < b then -1 else if b < a then 1 else 0
/-- A code with a sign. -/
def sg (neg : Bool) (c : Nat) : Nat := if neg then c + 9223372036854775808 else c
def goUp (mode : Int) (neg sm odd : Bool) (half : Int) : Bool :=
  if mode = 1 then false else if mode = 2 then neg && sm else if mode = 3 then !neg && sm else if mode = 4 then decide (0 ≤ half) else decide (0 < half) || (decide (half = 0) && odd)
/-- What stands for what is beyond all floats. -/
def lim (neg : Bool) (mode : Int) : Nat := if mode = 1 ∨ (mode = 2 ∧ neg = false) ∨ (mode = 3 ∧ neg = true) then 9218868437227405311 else 9218868437227405312
def upc (neg : Bool) (c : Nat) (sm : Bool) (half mode : Int) : Nat := if goUp mode neg sm (decide (c % 2 = 1)) half then c + 1 else c
def out (neg : Bool) (c : Nat) (sm : Bool) (half mode : Int) : Nat × Int :=
  if 9218868437227405312 ≤ upc neg c sm half mode then (sg neg (lim neg mode), 5) else (sg neg (upc neg c sm half mode), if sm then (if c < 4503599627370496 then 3 else 1) else 0)
noncomputable def rndQ (neg : Bool) (X : Rat) (mode : Int) : Nat × Int := out neg (cd X) (decide (fval (cd X) ≠ X)) (cmpR (2 * X) (fval (cd X) + fval (cd X + 1))) mode
/-- A number between two neighbouring wholes, as rounding sees it. -/
structure Cut (X : Rat) (c : Nat) (sm : Bool) (half : Int) : Prop where
  cd : IsCd X c
  sm : sm = decide (fval c ≠ X)
  half : half = cmpR (2 * X) (fval c + fval (c + 1))
theorem Cut.out {X : Rat} {c : Nat} {sm : Bool} {half : Int} (h : Cut X c sm half) (neg : Bool) (mode : Int) : out neg c sm half mode = rndQ neg X mode := by
  rw [rndQ, cd_eq h.cd, ← h.sm, ← h.half]
theorem cut_mid {v t : Nat} {X : Rat} (hv : v < 9007199254740992) (h2 : 4503599627370496 ≤ v ∨ t = 0) (h3 : (v : Rat) * p2 ((t : Int) - 1074) ≤ X) (h4 : X < ((v : Rat) + 1) * p2 ((t : Int) - 1074)) :
    Cut X (v + t * 4503599627370496) (decide ((v : Rat) * p2 ((t : Int) - 1074) ≠ X)) (cmpR (2 * X) ((2 * (v : Rat) + 1) * p2 ((t : Int) - 1074))) := by
  obtain ⟨e1, e2⟩ := fval_code hv h2
  have e3 := fval_succ (v + t * 4503599627370496)
  rw [e2, e1] at e3
  refine ⟨⟨by rw [e1]; exact h3, by rw [e3]; grind⟩, by rw [e1], ?_⟩
  rw [e3, e1]
  congr 1
  grind
/-- The power of two at which a number is cut off. -/
def ulpOf (m : Nat) (e : Int) : Int := max ((bitLen m : Int) - 1 + e - 52) (-1074)
theorem p2_natmul (a : Nat) {e f : Int} (h : f ≤ e) : (a : Rat) * p2 e = ((a * 2 ^ (e - f).toNat : Nat) : Rat) * p2 f := by
  rw [p2_split h, Rat.natCast_mul]; grind
/-- An exact number that has no more digits than a float. -/
theorem cut_exact {m : Nat} {e : Int} (hm : m ≠ 0) (hk : ulpOf m e ≤ e) : ∃ v t : Nat, v = m * 2 ^ (e - ulpOf m e).toNat ∧ ulpOf m e = (t : Int) - 1074 ∧ v < 9007199254740992 ∧ (4503599627370496 ≤ v ∨ t = 0) ∧
    Cut ((m : Rat) * p2 e) (v + t * 4503599627370496) false (-1) ∧ ((bitLen m : Int) - 1 + e < -1022 ↔ v + t * 4503599627370496 < 4503599627370496) := by
  obtain ⟨L, hL⟩ : ∃ L, L = bitLen m := ⟨_, rfl⟩
  have hl := bitLen_lt m
  have hp := bitLen_pos hm
  have hL0 : L ≠ 0 := by rw [hL]; exact mt bitLen_zero_iff.1 hm
  rw [← hL] at hl hp
  obtain ⟨A, hA⟩ : ∃ A, A = ulpOf m e := ⟨_, rfl⟩
  have hA' := hA
  rw [ulpOf, ← hL] at hA'
  rw [← hA] at hk ⊢
  rw [← hL]
  obtain ⟨k, hk'⟩ : ∃ k, k = (e - A).toNat := ⟨_, rfl⟩
  rw [← hk']
  have hv : m * 2 ^ k < 9007199254740992 := by
    have h1 : m * 2 ^ k < 2 ^ L * 2 ^ k := Nat.mul_lt_mul_of_pos_right hl (Nat.two_pow_pos k)
    rw [← Nat.pow_add] at h1
    have h2 : 2 ^ (L + k) ≤ 2 ^ 53 := Nat.pow_le_pow_right (by omega) (by omega)
    have h3 : 2 ^ 53 = 9007199254740992 := by decide
    omega
  have hv2 : 4503599627370496 ≤ m * 2 ^ k ∨ A = -1074 := by
    by_cases h : A = -1074
    · exact .inr h
    · left
      have h1 : 2 ^ (L - 1) * 2 ^ k ≤ m * 2 ^ k := Nat.mul_le_mul_right _ hp
      rw [← Nat.pow_add, show L - 1 + k = 52 by omega] at h1
      have h3 : 2 ^ 52 = 4503599627370496 := by decide
      omega
  have hX : (m : Rat) * p2 e = ((m * 2 ^ k : Nat) : Rat) * p2 A := by rw [hk']; exact p2_natmul m hk
  have ht : A = ((A + 1074).toNat : Int) - 1074 := by omega
  obtain ⟨t, ht'⟩ : ∃ t, t = (A + 1074).toNat := ⟨_, rfl⟩
  rw [← ht'] at ht
  have hp2 := p2_pos A
  have hc := cut_mid (v := m * 2 ^ k) (t := t) (X := (m : Rat) * p2 e) hv (by omega) (by rw [← ht, hX]; exact Rat.le_refl) (by rw [← ht, hX]; grind)
  rw [← ht, hX] at hc
  rw [decide_eq_false (by simp)] at hc
  rw [show cmpR (2 * (((m * 2 ^ k : Nat) : Rat) * p2 A)) ((2 * ((m * 2 ^ k : Nat) : Rat) + 1) * p2 A) = -1 by rw [cmpR, if_pos (by grind)]] at hc
  refine ⟨m * 2 ^ k, t, rfl, ht, hv, by omega, by rw [hX]; exact hc, ?_⟩
  constructor
  · intro h1
    have h2 : A = -1074 := by omega
    have ht0 : t = 0 := by omega
    subst ht0
    have h1 : m * 2 ^ k < 2 ^ L * 2 ^ k := Nat.mul_lt_mul_of_pos_right hl (Nat.two_pow_pos k)
    rw [← Nat.pow_add] at h1
    have h2 : 2 ^ (L + k) ≤ 2 ^ 52 := Nat.pow_le_pow_right (by omega) (by omega)
    have h3 : 2 ^ 52 = 4503599627370496 := by decide
    omega
  · intro h1
    rcases Int.lt_or_le ((L : Int) - 1 + e) (-1022) with h2 | h2
    · exact h2
    · exfalso
      have h3 : 2 ^ (L - 1) * 2 ^ k ≤ m * 2 ^ k := Nat.mul_le_mul_right _ hp
      rw [← Nat.pow_add, show L - 1 + k = 52 by omega] at h3
      have h4 : 2 ^ 52 = 4503599627370496 := by decide
      omega
/-- How the rest that is cut off stands to a half. -/
def halfOf (r k : Nat) (more : Bool) : Int := if cmpZ r (2 ^ (k - 1)) = 0 ∧ more = true then 1 else cmpZ r (2 ^ (k - 1))
theorem cut_more {m : Nat} {e : Int} {more : Bool} {X : Rat} (hm : m ≠ 0) (hk : e < ulpOf m e) (h1 : (m : Rat) * p2 e ≤ X) (h2 : X < ((m : Rat) + 1) * p2 e) (hmore : more = decide (X ≠ (m : Rat) * p2 e)) {k : Nat} (hk' : k = (ulpOf m e - e).toNat) :
    ∃ v t : Nat, v = m / 2 ^ k ∧ ulpOf m e = (t : Int) - 1074 ∧ v < 9007199254740992 ∧ (4503599627370496 ≤ v ∨ t = 0) ∧
    Cut X (v + t * 4503599627370496) (decide (m % 2 ^ k ≠ 0) || more) (halfOf (m % 2 ^ k) k more) ∧ ((bitLen m : Int) - 1 + e < -1022 ↔ v + t * 4503599627370496 < 4503599627370496) := by
  obtain ⟨L, hL⟩ : ∃ L, L = bitLen m := ⟨_, rfl⟩
  have hl := bitLen_lt m
  have hp := bitLen_pos hm
  have hL0 : L ≠ 0 := by rw [hL]; exact mt bitLen_zero_iff.1 hm
  rw [← hL] at hl hp
  obtain ⟨A, hA⟩ : ∃ A, A = ulpOf m e := ⟨_, rfl⟩
  have hA' := hA
  rw [ulpOf, ← hL] at hA'
  rw [← hA] at hk hk' ⊢
  rw [← hL]
  have hk0 : 0 < k := by omega
  obtain ⟨v, hv0⟩ : ∃ v, v = m / 2 ^ k := ⟨_, rfl⟩
  obtain ⟨r, hr0⟩ : ∃ r, r = m % 2 ^ k := ⟨_, rfl⟩
  have hdm : m = 2 ^ k * v + r := by rw [hv0, hr0]; exact (Nat.div_add_mod m (2 ^ k)).symm
  have hr : r < 2 ^ k := by rw [hr0]; exact Nat.mod_lt _ (Nat.two_pow_pos k)
  have hv : v < 9007199254740992 := by
    rw [hv0, Nat.div_lt_iff_lt_mul (Nat.two_pow_pos k)]
    have h2 : 2 ^ L ≤ 2 ^ (53 + k) := Nat.pow_le_pow_right (by omega) (by omega)
    rw [Nat.pow_add] at h2
    have h3 : 2 ^ 53 = 9007199254740992 := by decide
    rw [h3] at h2
    omega
  have hv2 : 4503599627370496 ≤ v ∨ A = -1074 := by
    by_cases h : A = -1074
    · exact .inr h
    · left
      rw [hv0, Nat.le_div_iff_mul_le (Nat.two_pow_pos k)]
      have h2 : 2 ^ (52 + k) ≤ 2 ^ (L - 1) := Nat.pow_le_pow_right (by omega) (by omega)
      rw [Nat.pow_add] at h2
      have h3 : 2 ^ 52 = 4503599627370496 := by decide
      rw [h3] at h2
      omega
  have ht : A = ((A + 1074).toNat : Int) - 1074 := by omega
  obtain ⟨t, ht'⟩ : ∃ t, t = (A + 1074).toNat := ⟨_, rfl⟩
  rw [← ht'] at ht
  have hpe := p2_pos e
  have hpA : p2 A = p2 e * ((2 ^ k : Nat) : Rat) := by rw [hk']; exact p2_split (by omega)
  have hmq : (m : Rat) = ((2 ^ k : Nat) : Rat) * (v : Rat) + (r : Rat) := by rw [← Rat.natCast_mul, ← Rat.natCast_add, ← hdm]
  have hrq : (r : Rat) + 1 ≤ ((2 ^ k : Nat) : Rat) := by
    have : r + 1 ≤ 2 ^ k := hr
    exact_mod_cast this
  have hr1 : (0 : Rat) ≤ (r : Rat) := by exact_mod_cast Nat.zero_le r
  have hv1 : (0 : Rat) ≤ (v : Rat) := by exact_mod_cast Nat.zero_le v
  -- where X lies
  have lo : (v : Rat) * p2 A ≤ X := by
    have := Rat.mul_nonneg hr1 (show 0 ≤ p2 e by grind)
    rw [hpA]; rw [hmq] at h1; grind
  have hi : X < ((v : Rat) + 1) * p2 A := by
    have := mul_le_q hrq hpe
    rw [hpA]; rw [hmq] at h2; grind
  have hc := cut_mid (v := v) (t := t) (X := X) hv (by omega) (by rw [← ht]; exact lo) (by rw [← ht]; exact hi)
  rw [← ht] at hc
  have hsm : decide ((v : Rat) * p2 A ≠ X) = (decide (r ≠ 0) || more) := by
    rw [hmore]
    by_cases hr00 : r = 0
    · subst hr00
      rw [decide_eq_false (show ¬ ((0 : Nat) ≠ 0) by omega), Bool.false_or]
      have : (m : Rat) * p2 e = (v : Rat) * p2 A := by rw [hpA, hmq]; simp; grind
      rw [this]
      by_cases hx : X = (v : Rat) * p2 A
      · rw [decide_eq_false (by simp [hx]), decide_eq_false (by simp [hx])]
      · rw [decide_eq_true (show (v : Rat) * p2 A ≠ X from fun h => hx h.symm), decide_eq_true (show X ≠ _ from hx)]
    · rw [decide_eq_true (show r ≠ 0 from hr00), Bool.true_or]
      have hr2 : (0 : Rat) < (r : Rat) := by
        have : 0 < r := by omega
        exact_mod_cast this
      have := mul_pos_q hr2 hpe
      exact decide_eq_true (by rw [hpA]; rw [hmq] at h1; grind)
  have hhf : cmpR (2 * X) ((2 * (v : Rat) + 1) * p2 A) = halfOf r k more := by
    obtain ⟨j, hj⟩ : ∃ j, k = j + 1 := ⟨k - 1, by omega⟩
    rw [halfOf, hj, show j + 1 - 1 = j by omega]
    have hk2 : ((2 ^ k : Nat) : Rat) = 2 * ((2 ^ j : Nat) : Rat) := by rw [hj, Nat.pow_succ, Nat.mul_comm]; simp
    rw [hk2] at hpA hmq
    obtain ⟨H, hH⟩ : ∃ H, H = 2 ^ j := ⟨_, rfl⟩
    rw [← hH] at hpA hmq ⊢
    rw [hpA]
    rcases Nat.lt_trichotomy r H with h | h | h
    · have hq : (r : Rat) + 1 ≤ (H : Rat) := by
        have : r + 1 ≤ H := h
        exact_mod_cast this
      have := mul_le_q hq hpe
      have hz : cmpZ r H = -1 := by rw [cmpZ, if_pos h]
      rw [hz, if_neg (by omega), cmpR, if_pos (by rw [hmq] at h2; grind)]
    · subst h
      have hz : cmpZ r r = 0 := by rw [cmpZ, if_neg (by omega), if_pos rfl]
      rw [hz]
      by_cases hx : X = (m : Rat) * p2 e
      · rw [hmore, decide_eq_false (by simp [hx]), if_neg (by simp), hx, hmq, cmpR, if_neg (by grind), if_neg (by grind)]
      · rw [hmore, decide_eq_true (show X ≠ _ from hx), if_pos ⟨rfl, rfl⟩]
        have h3 : (m : Rat) * p2 e < X := by
          rcases Rat.le_iff_lt_or_eq.1 h1 with h | h
          · exact h
          · exact absurd h.symm hx
        rw [hmq] at h3
        rw [cmpR, if_neg (by grind), if_pos (by grind)]
    · have hq : (H : Rat) + 1 ≤ (r : Rat) := by
        have : H + 1 ≤ r := h
        exact_mod_cast this
      have := mul_le_q hq hpe
      have hz : cmpZ r H = 1 := by rw [cmpZ, if_neg (by omega), if_neg (by omega)]
      rw [hz, if_neg (by omega), cmpR, if_neg (by rw [hmq] at h1; grind), if_pos (by rw [hmq] at h1; grind)]
  rw [hsm, hhf] at hc
  rw [← hv0, ← hr0]
  refine ⟨v, t, rfl, ht, hv, by omega, hc, ?_⟩
  constructor
  · intro h1
    have h2 : A = -1074 := by omega
    have ht0 : t = 0 := by omega
    subst ht0
    have : v < 4503599627370496 := by
      rw [hv0, Nat.div_lt_iff_lt_mul (Nat.two_pow_pos k)]
      have h2 : 2 ^ L ≤ 2 ^ (52 + k) := Nat.pow_le_pow_right (by omega) (by omega)
      rw [Nat.pow_add] at h2
      have h3 : 2 ^ 52 = 4503599627370496 := by decide
      rw [h3] at h2
      omega
    omega
  · intro h1
    rcases Int.lt_or_le ((L : Int) - 1 + e) (-1022) with h2 | h2
    · exact h2
    · exfalso
      have : 4503599627370496 ≤ v := by
        rw [hv0, Nat.le_div_iff_mul_le (Nat.two_pow_pos k)]
        have h2 : 2 ^ (52 + k) ≤ 2 ^ (L - 1) := Nat.pow_le_pow_right (by omega) (by omega)
        rw [Nat.pow_add] at h2
        have h3 : 2 ^ 52 = 4503599627370496 := by decide
        rw [h3] at h2
        omega
      omega
end Go.Proofs.YtnilcfiemgmfdaaGreat

namespace Go.Proofs.YtnilcfiemgmfdaaGreat
open Go
set_option linter.unusedVariables false
set_option linter.unusedSimpArgs false
set_option maxRecDepth 10000
theorem bv64 {x : Nat} (h : x < 18446744073709551616) : (BitVec.ofInt 64 (x : Int)).toNat = x := by
  rw [BitVec.toNat_ofInt]
  show ((x : Int) % (18446744073709551616 : Int)).toNat = x
  omega
theorem SWrap.and {a b : Int} {K : Int → Prop} (x y z : Nat) (ha : a = x) (hb : b = y) (hx : x < 18446744073709551616) (hy : y < 18446744073709551616) (hz : x &&& y = z) (hk : K z) :
    SWrap .u64 ((BitVec.ofInt (IntKind.bits .u64) a &&& BitVec.ofInt (IntKind.bits .u64) b).toNat : Int) K := by
  subst ha hb
  have e : (BitVec.ofInt 64 (x : Int) &&& BitVec.ofInt 64 (y : Int)).toNat = z := by rw [BitVec.toNat_and, bv64 hx, bv64 hy, hz]
  refine SWrap.u64z z (congrArg Int.ofNat e) ?_ hk
  rw [← hz]; exact Nat.lt_of_le_of_lt Nat.and_le_left hx
theorem or_lt64 {x y : Nat} (hx : x < 18446744073709551616) (hy : y < 18446744073709551616) : x ||| y < 18446744073709551616 := Nat.or_lt_two_pow (n := 64) hx hy
theorem SWrap.or {a b : Int} {K : Int → Prop} (x y z : Nat) (ha : a = x) (hb : b = y) (hx : x < 18446744073709551616) (hy : y < 18446744073709551616) (hz : x ||| y = z) (hk : K z) :
    SWrap .u64 ((BitVec.ofInt (IntKind.bits .u64) a ||| BitVec.ofInt (IntKind.bits .u64) b).toNat : Int) K := by
  subst ha hb
  have e : (BitVec.ofInt 64 (x : Int) ||| BitVec.ofInt 64 (y : Int)).toNat = z := by rw [BitVec.toNat_or, bv64 hx, bv64 hy, hz]
  refine SWrap.u64z z (congrArg Int.ofNat e) ?_ hk
  rw [← hz]; exact or_lt64 hx hy
/-- Not: what is left without some bits. -/
theorem SWrap.not {a b : Int} {K : Int → Prop} (x y z : Nat) (ha : a = x) (hb : b = y) (hx : x < 18446744073709551616) (hy : y < 18446744073709551616) (hz : x &&& (18446744073709551615 - y) = z) (hk : K z) :
    SWrap .u64 ((BitVec.ofInt (IntKind.bits .u64) a &&& ~~~ BitVec.ofInt (IntKind.bits .u64) b).toNat : Int) K := by
  subst ha hb
  have e : (BitVec.ofInt 64 (x : Int) &&& ~~~ BitVec.ofInt 64 (y : Int)).toNat = z := by
    rw [BitVec.toNat_and, BitVec.toNat_not, bv64 hx, bv64 hy, ← hz]
  refine SWrap.u64z z (congrArg Int.ofNat e) ?_ hk
  rw [← hz]; exact Nat.lt_of_le_of_lt Nat.and_le_left hx
theorem and_low (x k : Nat) : x &&& (2 ^ k - 1) = x % 2 ^ k := Nat.and_two_pow_sub_one_eq_mod x k
theorem low63 (x : Nat) : x &&& 9223372036854775807 = x % 9223372036854775808 := and_low x 63
theorem low52 (x : Nat) : x &&& 4503599627370495 = x % 4503599627370496 := and_low x 52
theorem low11 (x : Nat) : x &&& 2047 = x % 2048 := and_low x 11
theorem low1 (x : Nat) : x &&& 1 = x % 2 := and_low x 1
theorem or_high {a b k : Nat} (h : b < 2 ^ k) : 2 ^ k * a ||| b = 2 ^ k * a + b := (Nat.two_pow_add_eq_or_of_lt h a).symm
theorem or_sum {x y a k : Nat} (h : y < 2 ^ k) (hx : x = 2 ^ k * a) : x ||| y = x + y := by rw [hx]; exact or_high h
theorem or_sign {x : Nat} (h : x < 9223372036854775808) : x ||| 9223372036854775808 = x + 9223372036854775808 := by
  rw [Nat.or_comm, or_sum (k := 63) (a := 1) h (by decide), Nat.add_comm]
theorem or_unit {x : Nat} (h : x < 4503599627370496) : x ||| 4503599627370496 = x + 4503599627370496 := by
  rw [Nat.or_comm, or_sum (k := 52) (a := 1) h (by decide), Nat.add_comm]
theorem and_sign {x : Nat} (hx : x < 18446744073709551616) : x &&& 9223372036854775808 = if 9223372036854775808 ≤ x then 9223372036854775808 else 0 := by
  have ne : ∀ i, i ≠ 63 → Nat.testBit 9223372036854775808 i = false := fun i hi => by
    have := Nat.testBit_two_pow_of_ne (n := 63) (m := i) (by omega)
    rwa [show (2 : Nat) ^ 63 = 9223372036854775808 by decide] at this
  apply Nat.eq_of_testBit_eq
  intro i
  rw [Nat.testBit_and]
  by_cases hi : i = 63
  · subst hi
    rw [Nat.testBit_eq_decide_div_mod_eq (x := x), show (2 : Nat) ^ 63 = 9223372036854775808 by decide]
    split
    · rw [decide_eq_true (show x / 9223372036854775808 % 2 = 1 by omega), Bool.true_and]
    · rw [decide_eq_false (show ¬ x / 9223372036854775808 % 2 = 1 by omega), Bool.false_and, Nat.zero_testBit]
  · rw [ne i hi, Bool.and_false]
    split
    · rw [ne i hi]
    · rw [Nat.zero_testBit]
theorem SWrap.nosign {a b : Int} {K : Int → Prop} (x : Nat) (ha : a = x) (hb : b = 9223372036854775808) (hx : x < 18446744073709551616) (hk : K ((x % 9223372036854775808 : Nat) : Int)) :
    SWrap .u64 ((BitVec.ofInt (IntKind.bits .u64) a &&& ~~~ BitVec.ofInt (IntKind.bits .u64) b).toNat : Int) K := .not x 9223372036854775808 _ ha hb hx (by omega) (low63 x) hk
theorem SWrap.sign {a b : Int} {K : Int → Prop} (x : Nat) (ha : a = x) (hb : b = 9223372036854775808) (hx : x < 18446744073709551616) (hk : K ((if 9223372036854775808 ≤ x then 9223372036854775808 else 0 : Nat) : Int)) :
    SWrap .u64 ((BitVec.ofInt (IntKind.bits .u64) a &&& BitVec.ofInt (IntKind.bits .u64) b).toNat : Int) K := .and x 9223372036854775808 _ ha hb hx (by omega) (and_sign hx) hk
theorem SShr52 {a : Nat} {K : Int → Prop} (hk : K ((a / 4503599627370496 : Nat) : Int)) : SGe 52 (SZ ((a : Int).fdiv (2 ^ (min (52 : Int).toNat (IntKind.bits .u64)))) K) :=
  .mk (by decide) (.mk _ (by
    show Int.fdiv (a : Int) 4503599627370496 = _
    rw [Int.fdiv_eq_ediv_of_nonneg _ (by decide)]; omega) hk)
def mag (f : Nat) : Nat := f % 9223372036854775808
def ngt (f : Nat) : Bool := decide (9223372036854775808 ≤ f)
def isNan (f : Nat) : Bool := decide (9218868437227405312 < f % 9223372036854775808)
def isInf (f : Nat) : Bool := decide (f % 9223372036854775808 = 9218868437227405312)
end Go.Proofs.YtnilcfiemgmfdaaGreat

namespace Go.Proofs.YtnilcfiemgmfdaaGreat
open Go
set_option linter.unusedVariables false
set_option linter.unusedSimpArgs false
set_option maxRecDepth 10000
theorem nbits_ok (m : Bool) (a : Nat) (ha : nlen a ≤ 549755813888) : CallP Tryz.prog 176 [natM m a] (.p (.int .i64 (bitLen a))) [] := by
  refine callG_of_vc (wr := wr0) Γok mixed Tryz.func176 (by kernel_rfl) rfl (by kernel_rfl) (le_of_ble rfl) (by simp) ?_
  refine SZ.mk (nlen a) (by simp) ?_
  by_cases h0 : a = 0
  · have := nlen_zero_iff.2 h0
    refine SCmp.yes (eqT (by omega)) ?_
    rw [bitLen_zero_iff.2 h0]
    exact SRet.pure (.p _ (.int _ _))
  · have hn := mt nlen_zero_iff.1 h0
    refine SCmp.no (eqF (by omega)) ?_
    obtain ⟨L, hL⟩ : ∃ L, nlen a = L + 1 := ⟨nlen a - 1, by omega⟩
    have hL' : (nl a).length = L + 1 := hL
    have l1 : (nl a).getD L 0 < 4294967296 := getD_lt (nl_ok a) L
    have e1 : a / 2 ^ (32 * L) = (nl a).getD L 0 := by
      rw [nl_getD, Nat.pow_mul]
      have := lt_nlen a
      rw [hL, Nat.pow_succ, Nat.mul_comm] at this
      have h2 : a / 4294967296 ^ L < 4294967296 := (Nat.div_lt_iff_lt_mul (pow_pos' L)).2 this
      exact (Nat.mod_eq_of_lt h2).symm
    have hz := nl_last h0
    rw [hL', Nat.add_sub_cancel] at hz
    have hb : bitLen a = 32 * L + bitLen ((nl a).getD L 0) := by rw [← e1] at hz ⊢; exact bitLen_shift a (32 * L) hz
    have hb32 : bitLen ((nl a).getD L 0) ≤ 32 := bitLen_le l1
    refine SZ.mk ((L + 1 : Nat) : Int) (by simp [hL']) ?_
    refine SWrap.i64z (L : Int) (by omega) (by omega) ?_
    refine SWrap.i64z ((32 * L : Nat) : Int) (by omega) (by omega) ?_
    refine SZ.mk ((L + 1 : Nat) : Int) (by simp [hL']) ?_
    refine SWrap.i64z (L : Int) (by omega) (by omega) ?_
    refine SIdx.lb L rfl (by omega) ?_
    refine SCall.pure (len32_ok _ l1) ?_
    refine SWrap.i64z (bitLen a : Int) (by omega) (by omega) ?_
    exact SRet.pure (.p _ (.int _ _))
theorem nsmall_ok (m : Bool) (a : Nat) (ha : a < 18446744073709551616) : CallP Tryz.prog 179 [natM m a] (.tup [.p (.int .u64 a), .p (.bool true)]) [] := by
  refine callG_of_vc (wr := wr0) Γok mixed Tryz.func179 (by kernel_rfl) rfl (by kernel_rfl) (le_of_ble rfl) (by simp) ?_
  have hb : bitLen a ≤ 64 := bitLen_le ha
  have hn : nlen a ≤ 2 := nlen_le (by omega)
  refine SCall.pure (nbits_ok m a (by omega)) ?_
  refine SCmp.no (decide_eq_false (by omega)) ?_
  refine SZ.mk (nlen a : Int) (by simp) ?_
  refine SLoop.mk Nat (fun i => ([(4, .p (.int .u64 ((a % 4294967296 ^ i : Nat) : Int))), (10, .p (natM m a)), (11, .p (.int .i64 (nlen a))), (12, .p (.int .i64 i))], [])) (fun i => i ≤ nlen a) (fun i => nlen a - i) 0 []
    (Nat.zero_le _) ⟨rfl, .nil, rfl, rfl, rfl, ⟨?_, rfl, rfl, rfl, trivial⟩, trivial⟩ ?_
  · rw [Nat.pow_zero, Nat.mod_one]; rfl
  intro i h1
  have h1 : i ≤ nlen a := h1
  by_cases hi : i < nlen a
  · refine SCmp.yes (decide_eq_true (by omega)) ?_
    have l1 : (nl a).getD i 0 < 4294967296 := getD_lt (nl_ok a) i
    have hlen : (nl a).length = nlen a := rfl
    refine SIdx.lb i rfl (by omega) ?_
    refine SWrap.u64z ((nl a).getD i 0) rfl (by omega) ?_
    refine SWrap.i64z ((32 * i : Nat) : Int) (by omega) (by omega) ?_
    refine SGe.mk (by omega) ?_
    have e0 : a % 4294967296 ^ (i + 1) = a % 4294967296 ^ i + 4294967296 ^ i * (nl a).getD i 0 := by rw [nl_getD]; exact Nat.mod_pow_succ
    have hlt : a % 4294967296 ^ i < 4294967296 ^ i := Nat.mod_lt _ (pow_pos' i)
    have e1 : (4294967296 : Nat) ^ i = 2 ^ (32 * i) := by rw [Nat.pow_mul]
    have hlt1 : 4294967296 ^ i * (nl a).getD i 0 < 18446744073709551616 := by
      rcases (show i = 0 ∨ i = 1 by omega) with h | h
      · rw [h] at l1 ⊢; omega
      · rw [h] at l1 ⊢; omega
    refine SWrap.u64z (4294967296 ^ i * (nl a).getD i 0) ?_ hlt1 ?_
    · have : (min ((32 * i : Nat) : Int).toNat (IntKind.bits .u64)) = 32 * i := by
        show min ((32 * i : Nat) : Int).toNat 64 = 32 * i
        omega
      rw [this, e1, Int.natCast_mul, Int.natCast_pow, Int.mul_comm]; rfl
    refine SWrap.or (a % 4294967296 ^ i) (4294967296 ^ i * (nl a).getD i 0) (a % 4294967296 ^ (i + 1)) rfl rfl (Nat.lt_of_le_of_lt (Nat.mod_le _ _) ha) hlt1 ?_ ?_
    · rw [Nat.or_comm, or_sum (k := 32 * i) (a := (nl a).getD i 0) (by rw [← e1]; exact hlt) (by rw [← e1]), e0, Nat.add_comm]
    refine SWrap.i64z ((i + 1 : Nat) : Int) (by omega) (by omega) ?_
    exact ⟨i + 1, [], hi, by show nlen a - (i + 1) < nlen a - i; omega, ⟨rfl, .nil, rfl, rfl, rfl, ⟨rfl, rfl, rfl, rfl, trivial⟩, trivial⟩⟩
  · refine SCmp.no (decide_eq_false (by omega)) ?_
    have : i = nlen a := by omega
    subst this
    rw [Nat.mod_eq_of_lt (lt_nlen a)]
    exact SRet.pure (.tup rfl fun i c d e1 e2 => by
      match i, e1, e2 with
      | 0, e1, e2 => cases e1; cases e2; exact .p _ (.int _ _)
      | 1, e1, e2 => cases e1; cases e2; exact .tf _)
theorem nan_ok (f : Nat) (hf : f < 18446744073709551616) (b : Bool) (hb : isNan f = b) : CallP Tryz.prog 69 [.int .u64 f] (.p (.bool b)) [] := by
  refine callG_of_vc (wr := wr0) Γok mixed Tryz.func69 (by kernel_rfl) rfl (by kernel_rfl) (le_of_ble rfl) (by simp) ?_
  refine SWrap.nosign f rfl rfl hf ?_
  unfold isNan at hb
  cases b with
  | true => refine SCmp.yes (decide_eq_true (by have := of_decide_eq_true hb; omega)) ?_; exact SRet.pure (.tf _)
  | false => refine SCmp.no (decide_eq_false (by have := of_decide_eq_false hb; omega)) ?_; exact SRet.pure (.tf _)
theorem infinite_ok (f : Nat) (hf : f < 18446744073709551616) (b : Bool) (hb : isInf f = b) : CallP Tryz.prog 70 [.int .u64 f] (.p (.bool b)) [] := by
  refine callG_of_vc (wr := wr0) Γok mixed Tryz.func70 (by kernel_rfl) rfl (by kernel_rfl) (le_of_ble rfl) (by simp) ?_
  refine SWrap.nosign f rfl rfl hf ?_
  unfold isInf at hb
  cases b with
  | true => refine SCmp.yes (eqT (by have := of_decide_eq_true hb; omega)) ?_; exact SRet.pure (.tf _)
  | false => refine SCmp.no (eqF (by have := of_decide_eq_false hb; omega)) ?_; exact SRet.pure (.tf _)
theorem below_ok (f : Nat) (hf : f < 18446744073709551616) (b : Bool) (hb : ngt f = b) : CallP Tryz.prog 142 [.int .u64 f] (.p (.bool b)) [] := by
  refine callG_of_vc (wr := wr0) Γok mixed Tryz.func142 (by kernel_rfl) rfl (by kernel_rfl) (le_of_ble rfl) (by simp) ?_
  refine SWrap.sign f rfl rfl hf ?_
  unfold ngt at hb
  cases b with
  | true => refine SCmp.yes (neT (by have := of_decide_eq_true hb; rw [if_pos this]; decide)) ?_; exact SRet.pure (.tf _)
  | false => refine SCmp.no (neF (by have := of_decide_eq_false hb; rw [if_neg this]; rfl)) ?_; exact SRet.pure (.tf _)
theorem signed_ok (c : Nat) (hc : c < 9223372036854775808) (neg : Bool) : CallP Tryz.prog 182 [.int .u64 c, .bool neg] (.p (.int .u64 (sg neg c))) [] := by
  refine callG_of_vc (wr := wr0) Γok mixed Tryz.func182 (by kernel_rfl) rfl (by kernel_rfl) (le_of_ble rfl) (by simp) ?_
  cases neg with
  | true =>
    refine SCond.mk (fun _ => ?_) (fun h => by cases h)
    refine SWrap.or c 9223372036854775808 _ rfl rfl (by omega) (by omega) (or_sign hc) ?_
    exact SRet.pure (.p _ (.int _ _))
  | false =>
    refine SCond.mk (fun h => by cases h) (fun _ => ?_)
    exact SRet.pure (.p _ (.int _ _))
theorem fshl_ok (m : Bool) (a k : Nat) (ha : nlen a ≤ 274877906944) (hk : k ≤ 1048576) : CallP Tryz.prog 72 [natM m a, .int .i64 k] (.p (natP (a * 2 ^ k))) [] := by
  refine callG_of_vc (wr := wr0) Γok mixed Tryz.func72 (by kernel_rfl) rfl (by kernel_rfl) (le_of_ble rfl) (by simp) ?_
  refine SLoop.mk Unit (fun _ => ([(0, .p (natM m a)), (1, .p (.int .i64 k))], [])) (fun _ => True) (fun _ => 0) () [] trivial ⟨rfl, .nil, rfl, rfl, rfl, ⟨rfl, rfl, trivial⟩, trivial⟩ ?_
  intro _ _
  refine SCmp.no (decide_eq_false (by omega)) ?_
  refine SCall.pure (shl_ok m a k ha hk) ?_
  exact SRet.pure (.p _ (.sl _ _ (pers_limbs _)))
theorem fshr_ok (m : Bool) (a k : Nat) (ha : nlen a ≤ 274877906944) (hk : k ≤ 1048576) : CallP Tryz.prog 177 [natM m a, .int .i64 k] (.p (natP (a / 2 ^ k))) [] := by
  refine callG_of_vc (wr := wr0) Γok mixed Tryz.func177 (by kernel_rfl) rfl (by kernel_rfl) (le_of_ble rfl) (by simp) ?_
  refine SLoop.mk Unit (fun _ => ([(0, .p (natM m a)), (1, .p (.int .i64 k))], [])) (fun _ => True) (fun _ => 0) () [] trivial ⟨rfl, .nil, rfl, rfl, rfl, ⟨rfl, rfl, trivial⟩, trivial⟩ ?_
  intro _ _
  refine SCmp.no (decide_eq_false (by omega)) ?_
  refine SCall.pure (shr_ok m a k ha hk) ?_
  exact SRet.pure (.p _ (.sl _ _ (pers_limbs _)))
/-- A value: its sign, a whole number times a power of two, whether there is something behind. -/
abbrev numP (neg : Bool) (m : Nat) (e : Int) (more : Bool) : PV := .agg [.bool neg, natP m, .int .i64 e, .bool more]
theorem pers_num (neg : Bool) (m : Nat) (e : Int) (more : Bool) : Pers (numP neg m e more) := .agg _ fun c hc => by
  simp at hc
  rcases hc with rfl | rfl | rfl | rfl
  · exact .bool _
  · exact .sl _ _ (pers_limbs _)
  · exact .int _ _
  · exact .bool _
theorem ofnum_ok (f : Nat) (hf : f < 18446744073709551616) : CallP Tryz.prog 71 [.int .u64 f] (.p (numP (ngt f) (fsig (mag f)) (fexp (mag f)) false)) [] := by
  refine callG_of_vc (wr := wr0) Γok mixed Tryz.func71 (by kernel_rfl) rfl (by kernel_rfl) (le_of_ble rfl) (by simp) ?_
  refine SWrap.and f 4503599627370495 _ rfl rfl hf (by omega) (low52 f) ?_
  refine SShr52 ?_
  refine SWrap.and (f / 4503599627370496) 2047 _ rfl rfl (by omega) (by omega) (low11 _) ?_
  refine SWrap.i64z ((f / 4503599627370496 % 2048 : Nat) : Int) rfl (by omega) ?_
  by_cases h : 0 < f / 4503599627370496 % 2048
  · refine SCmp.yes (decide_eq_true (by omega)) ?_
    refine SCall.pure (below_ok f hf _ rfl) ?_
    refine SWrap.or (f % 4503599627370496) 4503599627370496 _ rfl rfl (by omega) (by omega) (or_unit (by omega)) ?_
    refine SCall.pure (of_ok (f % 4503599627370496 + 4503599627370496) (by omega)) ?_
    refine SWrap.i64z (fexp (mag f)) (by rw [fexp, mag, if_neg (by omega)]; omega) (by rw [fexp, mag, if_neg (by omega)]; omega) ?_
    rw [show f % 4503599627370496 + 4503599627370496 = fsig (mag f) by rw [fsig, mag, if_neg (by omega)]; omega]
    exact SRet.pure (.p _ (pers_num _ _ _ _))
  · refine SCmp.no (decide_eq_false (by omega)) ?_
    refine SCall.pure (below_ok f hf _ rfl) ?_
    refine SCall.pure (of_ok (f % 4503599627370496) (by omega)) ?_
    rw [show f % 4503599627370496 = fsig (mag f) by rw [fsig, mag, if_pos (by omega)]; omega, show (-1074 : Int) = fexp (mag f) by rw [fexp, mag, if_pos (by omega)]]
    exact SRet.pure (.p _ (pers_num _ _ _ _))
end Go.Proofs.YtnilcfiemgmfdaaGreat
namespace Go.Proofs.YtnilcfiemgmfdaaGreat
open Go
set_option linter.unusedVariables false
set_option linter.unusedSimpArgs false
set_option maxRecDepth 10000
abbrev partP (sm : Bool) (half : Int) : PV := .agg [.bool sm, .int .i64 half]
theorem pers_part (sm : Bool) (half : Int) : Pers (partP sm half) := .agg _ fun c hc => by
  simp at hc
  rcases hc with rfl | rfl
  · exact .bool _
  · exact .int _ _
theorem goUp_d {mode half : Int} {neg sm odd : Bool} (h1 : mode ≠ 1) (h2 : mode ≠ 2) (h3 : mode ≠ 3) (h4 : mode ≠ 4) : goUp mode neg sm odd half = (decide (0 < half) || (decide (half = 0) && odd)) := by
  rw [goUp, if_neg h1, if_neg h2, if_neg h3, if_neg h4]
theorem up_ok (sm : Bool) (half mode : Int) (neg odd : Bool) : CallP Tryz.prog 180 [partP sm half, .int .i64 mode, .bool neg, .bool odd] (.p (.bool (goUp mode neg sm odd half))) [] := by
  refine callG_of_vc (wr := wr0) Γok mixed Tryz.func180 (by kernel_rfl) rfl (by kernel_rfl) (le_of_ble rfl) (by simp) ?_
  by_cases h1 : mode = 1
  · rw [show goUp mode neg sm odd half = false by rw [goUp, if_pos h1]]
    refine SCmp.yes (eqT h1) ?_
    first | exact SRet.pure (.tf _) | exact SRet.pure (.p _ (.bool _))
  refine SCmp.no (eqF h1) ?_
  by_cases h2 : mode = 2
  · refine SCmp.yes (eqT h2) ?_
    rw [show goUp mode neg sm odd half = (neg && sm) by rw [goUp, if_neg h1, if_pos h2]]
    cases neg <;> cases sm
    · refine SCond.mk (fun h => by cases h) (fun _ => ?_)
      first | exact SRet.pure (.tf _) | exact SRet.pure (.p _ (.bool _))
    · refine SCond.mk (fun h => by cases h) (fun _ => ?_)
      first | exact SRet.pure (.tf _) | exact SRet.pure (.p _ (.bool _))
    · refine SCond.mk (fun _ => ?_) (fun h => by cases h)
      first | exact SRet.pure (.tf _) | exact SRet.pure (.p _ (.bool _))
    · refine SCond.mk (fun _ => ?_) (fun h => by cases h)
      first | exact SRet.pure (.tf _) | exact SRet.pure (.p _ (.bool _))
  refine SCmp.no (eqF h2) ?_
  by_cases h3 : mode = 3
  · refine SCmp.yes (eqT h3) ?_
    rw [show goUp mode neg sm odd half = (!neg && sm) by rw [goUp, if_neg h1, if_neg h2, if_pos h3]]
    cases neg <;> cases sm
    · refine SCmp.yes (rfl) ?_
      first | exact SRet.pure (.tf _) | exact SRet.pure (.p _ (.bool _))
    · refine SCmp.yes (rfl) ?_
      first | exact SRet.pure (.tf _) | exact SRet.pure (.p _ (.bool _))
    · refine SCmp.no (rfl) ?_
      first | exact SRet.pure (.tf _) | exact SRet.pure (.p _ (.bool _))
    · refine SCmp.no (rfl) ?_
      first | exact SRet.pure (.tf _) | exact SRet.pure (.p _ (.bool _))
  refine SCmp.no (eqF h3) ?_
  by_cases h4 : mode = 4
  · refine SCmp.yes (eqT h4) ?_
    rw [show goUp mode neg sm odd half = decide (0 ≤ half) by rw [goUp, if_neg h1, if_neg h2, if_neg h3, if_pos h4]]
    by_cases h : 0 ≤ half
    · rw [decide_eq_true h]
      refine SCmp.yes (decide_eq_true (by omega)) ?_
      first | exact SRet.pure (.tf _) | exact SRet.pure (.p _ (.bool _))
    · rw [decide_eq_false h]
      refine SCmp.no (decide_eq_false (by omega)) ?_
      first | exact SRet.pure (.tf _) | exact SRet.pure (.p _ (.bool _))
  refine SCmp.no (eqF h4) ?_
  rw [goUp_d h1 h2 h3 h4]
  by_cases h : 0 < half
  · rw [decide_eq_true h]
    refine SCmp.yes (decide_eq_true (by omega)) ?_
    first | exact SRet.pure (.tf _) | exact SRet.pure (.p _ (.bool _))
  rw [decide_eq_false h]
  refine SCmp.no (decide_eq_false (by omega)) ?_
  by_cases h0 : half = 0
  · rw [decide_eq_true h0]
    refine SCmp.yes (eqT h0) ?_
    cases odd
    · first | exact SRet.pure (.tf _) | exact SRet.pure (.p _ (.bool _))
    · first | exact SRet.pure (.tf _) | exact SRet.pure (.p _ (.bool _))
  · rw [decide_eq_false h0]
    refine SCmp.no (eqF h0) ?_
    first | exact SRet.pure (.tf _) | exact SRet.pure (.p _ (.bool _))
theorem beyond_ok (neg : Bool) (mode : Int) : CallP Tryz.prog 181 [.bool neg, .int .i64 mode] (.tup [.p (.int .u64 (sg neg (lim neg mode))), .p (.int .i64 5)]) [] := by
  refine callG_of_vc (wr := wr0) Γok mixed Tryz.func181 (by kernel_rfl) rfl (by kernel_rfl) (le_of_ble rfl) (by simp) ?_
  by_cases h0 : mode < 0
  · refine SCmp.yes (decide_eq_true (by omega)) ?_
    rw [show lim neg mode = 9218868437227405312 by rw [lim, if_neg (by omega)]]
    refine SPos.mk 0 rfl (by decide) ?_
    refine SCall.pure (signed_ok 9218868437227405312 (by decide) _) ?_
    exact SRet.pure (.tup rfl fun i c d e1 e2 => by
      match i, e1, e2 with
      | 0, e1, e2 => cases e1; cases e2; exact .p _ (.int _ _)
      | 1, e1, e2 => cases e1; cases e2; exact .p _ (.int _ _))
  refine SCmp.no (decide_eq_false (by omega)) ?_
  by_cases h5 : 5 ≤ mode
  · refine SCmp.yes (decide_eq_true (by omega)) ?_
    rw [show lim neg mode = 9218868437227405312 by rw [lim, if_neg (by omega)]]
    refine SPos.mk 0 rfl (by decide) ?_
    refine SCall.pure (signed_ok 9218868437227405312 (by decide) _) ?_
    exact SRet.pure (.tup rfl fun i c d e1 e2 => by
      match i, e1, e2 with
      | 0, e1, e2 => cases e1; cases e2; exact .p _ (.int _ _)
      | 1, e1, e2 => cases e1; cases e2; exact .p _ (.int _ _))
  refine SCmp.no (decide_eq_false (by omega)) ?_
  rcases (show mode = 0 ∨ mode = 1 ∨ mode = 2 ∨ mode = 3 ∨ mode = 4 by omega) with h | h | h | h | h
  · subst h
    cases neg
    · refine SCond.mk (fun h => by cases h) (fun _ => ?_)
      refine SCond.mk (fun h => by cases h) (fun _ => ?_)
      refine SPos.mk 0 rfl (by decide) ?_
      refine SCall.pure (signed_ok 9218868437227405312 (by decide) _) ?_
      exact SRet.pure (.tup rfl fun i c d e1 e2 => by
        match i, e1, e2 with
        | 0, e1, e2 => cases e1; cases e2; exact .p _ (.int _ _)
        | 1, e1, e2 => cases e1; cases e2; exact .p _ (.int _ _))
    · refine SCond.mk (fun _ => ?_) (fun h => by cases h)
      refine SCmp.no (rfl) ?_
      refine SCond.mk (fun _ => ?_) (fun h => by cases h)
      refine SCmp.no (rfl) ?_
      refine SPos.mk 0 rfl (by decide) ?_
      refine SCall.pure (signed_ok 9218868437227405312 (by decide) _) ?_
      exact SRet.pure (.tup rfl fun i c d e1 e2 => by
        match i, e1, e2 with
        | 0, e1, e2 => cases e1; cases e2; exact .p _ (.int _ _)
        | 1, e1, e2 => cases e1; cases e2; exact .p _ (.int _ _))
  · subst h
    cases neg
    · refine SCond.mk (fun h => by cases h) (fun _ => ?_)
      refine SCond.mk (fun h => by cases h) (fun _ => ?_)
      refine SPos.mk 1 rfl (by decide) ?_
      refine SCall.pure (signed_ok 9218868437227405311 (by decide) _) ?_
      exact SRet.pure (.tup rfl fun i c d e1 e2 => by
        match i, e1, e2 with
        | 0, e1, e2 => cases e1; cases e2; exact .p _ (.int _ _)
        | 1, e1, e2 => cases e1; cases e2; exact .p _ (.int _ _))
    · refine SCond.mk (fun _ => ?_) (fun h => by cases h)
      refine SCmp.no (rfl) ?_
      refine SCond.mk (fun _ => ?_) (fun h => by cases h)
      refine SCmp.no (rfl) ?_
      refine SPos.mk 1 rfl (by decide) ?_
      refine SCall.pure (signed_ok 9218868437227405311 (by decide) _) ?_
      exact SRet.pure (.tup rfl fun i c d e1 e2 => by
        match i, e1, e2 with
        | 0, e1, e2 => cases e1; cases e2; exact .p _ (.int _ _)
        | 1, e1, e2 => cases e1; cases e2; exact .p _ (.int _ _))
  · subst h
    cases neg
    · refine SCond.mk (fun h => by cases h) (fun _ => ?_)
      refine SCond.mk (fun h => by cases h) (fun _ => ?_)
      refine SPos.mk 2 rfl (by decide) ?_
      refine SCall.pure (signed_ok 9218868437227405311 (by decide) _) ?_
      exact SRet.pure (.tup rfl fun i c d e1 e2 => by
        match i, e1, e2 with
        | 0, e1, e2 => cases e1; cases e2; exact .p _ (.int _ _)
        | 1, e1, e2 => cases e1; cases e2; exact .p _ (.int _ _))
    · refine SCond.mk (fun _ => ?_) (fun h => by cases h)
      refine SCmp.yes (rfl) ?_
      refine SPos.mk 3 rfl (by decide) ?_
      refine SCall.pure (signed_ok 9218868437227405312 (by decide) _) ?_
      exact SRet.pure (.tup rfl fun i c d e1 e2 => by
        match i, e1, e2 with
        | 0, e1, e2 => cases e1; cases e2; exact .p _ (.int _ _)
        | 1, e1, e2 => cases e1; cases e2; exact .p _ (.int _ _))
  · subst h
    cases neg
    · refine SCond.mk (fun h => by cases h) (fun _ => ?_)
      refine SCond.mk (fun h => by cases h) (fun _ => ?_)
      refine SPos.mk 3 rfl (by decide) ?_
      refine SCall.pure (signed_ok 9218868437227405312 (by decide) _) ?_
      exact SRet.pure (.tup rfl fun i c d e1 e2 => by
        match i, e1, e2 with
        | 0, e1, e2 => cases e1; cases e2; exact .p _ (.int _ _)
        | 1, e1, e2 => cases e1; cases e2; exact .p _ (.int _ _))
    · refine SCond.mk (fun _ => ?_) (fun h => by cases h)
      refine SCmp.no (rfl) ?_
      refine SCond.mk (fun _ => ?_) (fun h => by cases h)
      refine SCmp.yes (rfl) ?_
      refine SPos.mk 2 rfl (by decide) ?_
      refine SCall.pure (signed_ok 9218868437227405311 (by decide) _) ?_
      exact SRet.pure (.tup rfl fun i c d e1 e2 => by
        match i, e1, e2 with
        | 0, e1, e2 => cases e1; cases e2; exact .p _ (.int _ _)
        | 1, e1, e2 => cases e1; cases e2; exact .p _ (.int _ _))
  · subst h
    cases neg
    · refine SCond.mk (fun h => by cases h) (fun _ => ?_)
      refine SCond.mk (fun h => by cases h) (fun _ => ?_)
      refine SPos.mk 4 rfl (by decide) ?_
      refine SCall.pure (signed_ok 9218868437227405312 (by decide) _) ?_
      exact SRet.pure (.tup rfl fun i c d e1 e2 => by
        match i, e1, e2 with
        | 0, e1, e2 => cases e1; cases e2; exact .p _ (.int _ _)
        | 1, e1, e2 => cases e1; cases e2; exact .p _ (.int _ _))
    · refine SCond.mk (fun _ => ?_) (fun h => by cases h)
      refine SCmp.no (rfl) ?_
      refine SCond.mk (fun _ => ?_) (fun h => by cases h)
      refine SCmp.no (rfl) ?_
      refine SPos.mk 4 rfl (by decide) ?_
      refine SCall.pure (signed_ok 9218868437227405312 (by decide) _) ?_
      exact SRet.pure (.tup rfl fun i c d e1 e2 => by
        match i, e1, e2 with
        | 0, e1, e2 => cases e1; cases e2; exact .p _ (.int _ _)
        | 1, e1, e2 => cases e1; cases e2; exact .p _ (.int _ _))
theorem rest0_ok (m' : Bool) (neg : Bool) (m q : Nat) (e k : Int) (more : Bool) (hk : k ≤ 0) : CallP Tryz.prog 178 [numP neg m e more, natM m' q, .int .i64 k] (.p (partP more (-1))) [] := by
  refine callG_of_vc (wr := wr0) Γok mixed Tryz.func178 (by kernel_rfl) rfl (by kernel_rfl) (le_of_ble rfl) (by simp) ?_
  refine SCmp.yes (decide_eq_true (by omega)) ?_
  exact SRet.pure (.p _ (pers_part _ _))
theorem rest_ok (m' : Bool) (neg : Bool) (m : Nat) (e : Int) (k : Nat) (more : Bool) (hk : 0 < k) (hm : nlen m ≤ 137438953472) (hk' : k ≤ 1048576) :
    CallP Tryz.prog 178 [numP neg m e more, natM m' (m / 2 ^ k), .int .i64 k] (.p (partP (decide (m % 2 ^ k ≠ 0) || more) (halfOf (m % 2 ^ k) k more))) [] := by
  refine callG_of_vc (wr := wr0) Γok mixed Tryz.func178 (by kernel_rfl) rfl (by kernel_rfl) (le_of_ble rfl) (by simp) ?_
  refine SCmp.no (decide_eq_false (by omega)) ?_
  have hq : nlen (m / 2 ^ k) ≤ nlen m := nlen_mono (Nat.div_le_self _ _)
  have hqm : m / 2 ^ k * 2 ^ k ≤ m := Nat.div_mul_le_self _ _
  have hr : m - m / 2 ^ k * 2 ^ k = m % 2 ^ k := by have := Nat.div_add_mod m (2 ^ k); rw [Nat.mul_comm] at this; omega
  have hrn : nlen (m % 2 ^ k) ≤ nlen m := nlen_mono (Nat.mod_le _ _)
  have hsub := sub_ok false false m (m / 2 ^ k * 2 ^ k) (by omega) (by have := nlen_mono hqm; omega)
  rw [if_pos hqm, hr] at hsub
  refine SDraw.mk (by kernel_rfl) ?_
  repeat refine SOp.mk _ _ (And.intro rfl rfl) rfl ?_
  refine SOp.mk _ _ (SCall.pure (fshl_ok m' (m / 2 ^ k) k (by omega) hk') (And.intro rfl rfl)) rfl ?_
  repeat refine SOp.mk _ _ (And.intro rfl rfl) rfl ?_
  refine SOp.mk _ _ (SCall.pureT (hsub) (fun _ => rfl) (And.intro rfl rfl)) rfl ?_
  repeat refine SOp.mk _ _ (And.intro rfl rfl) rfl ?_
  refine SCall.pure (of_ok 1 (by omega)) ?_
  refine SWrap.i64z ((k - 1 : Nat) : Int) (by omega) (by omega) ?_
  refine SCall.pure (fshl_ok false 1 (k - 1) (by have := nlen_le (n := 1) (k := 1) (by decide); omega) (by omega)) ?_
  rw [Nat.one_mul]
  have h2n : nlen (2 ^ (k - 1)) ≤ 549755813888 := by
    have : bitLen (2 ^ (k - 1)) ≤ k := bitLen_le (Nat.pow_lt_pow_right (by omega) (by omega))
    have := nlen_bitLen (2 ^ (k - 1))
    omega
  refine SCall.pure (cmp_ok false false (m % 2 ^ k) (2 ^ (k - 1)) (by omega) h2n) ?_
  obtain ⟨r, hr'⟩ : ∃ r, r = m % 2 ^ k := ⟨_, rfl⟩
  rw [← hr'] at hrn ⊢
  have hlr : (nl r).length = nlen r := rfl
  by_cases hc : cmpZ r (2 ^ (k - 1)) = 0
  · refine SCmp.yes (eqT hc) ?_
    refine SCond.mk (fun h => ?_) (fun h => ?_)
    · subst h
      rw [show halfOf r k true = 1 by rw [halfOf, if_pos ⟨hc, rfl⟩]]
      refine SZ.mk (nlen r : Int) (by simp [hlr]) ?_
      by_cases h0 : r = 0
      · rw [decide_eq_false (show ¬ r ≠ 0 from fun h => h h0), Bool.false_or]
        have := nlen_zero_iff.2 h0
        refine SCmp.no (decide_eq_false (by omega)) ?_
        exact SRet.pure (.p _ (pers_part _ _))
      · rw [decide_eq_true h0, Bool.true_or]
        have := mt nlen_zero_iff.1 h0
        refine SCmp.yes (decide_eq_true (by omega)) ?_
        exact SRet.pure (.p _ (pers_part _ _))
    · subst h
      rw [show halfOf r k false = cmpZ r (2 ^ (k - 1)) by rw [halfOf, if_neg (by simp)]]
      refine SZ.mk (nlen r : Int) (by simp [hlr]) ?_
      by_cases h0 : r = 0
      · rw [decide_eq_false (show ¬ r ≠ 0 from fun h => h h0), Bool.false_or]
        have := nlen_zero_iff.2 h0
        refine SCmp.no (decide_eq_false (by omega)) ?_
        exact SRet.pure (.p _ (pers_part _ _))
      · rw [decide_eq_true h0, Bool.true_or]
        have := mt nlen_zero_iff.1 h0
        refine SCmp.yes (decide_eq_true (by omega)) ?_
        exact SRet.pure (.p _ (pers_part _ _))
  · refine SCmp.no (eqF hc) ?_
    rw [show halfOf r k more = cmpZ r (2 ^ (k - 1)) by rw [halfOf, if_neg (fun h => hc h.1)]]
    refine SZ.mk (nlen r : Int) (by simp [hlr]) ?_
    by_cases h0 : r = 0
    · rw [decide_eq_false (show ¬ r ≠ 0 from fun h => h h0), Bool.false_or]
      have := nlen_zero_iff.2 h0
      refine SCmp.no (decide_eq_false (by omega)) ?_
      exact SRet.pure (.p _ (pers_part _ _))
    · rw [decide_eq_true h0, Bool.true_or]
      have := mt nlen_zero_iff.1 h0
      refine SCmp.yes (decide_eq_true (by omega)) ?_
      exact SRet.pure (.p _ (pers_part _ _))
end Go.Proofs.YtnilcfiemgmfdaaGreat
namespace Go.Proofs.YtnilcfiemgmfdaaGreat
open Go
set_option linter.unusedVariables false
set_option linter.unusedSimpArgs false
set_option maxRecDepth 10000
theorem max_ite (a b : Int) : (if b > a then b else a) = max a b := by split <;> omega
abbrev fpair (r : Nat × Int) : AV := .tup [.p (.int .u64 (r.1 : Int)), .p (.int .i64 r.2)]
theorem out_over {neg : Bool} {c : Nat} {sm : Bool} {half mode : Int} (h : 9218868437227405312 ≤ upc neg c sm half mode) : out neg c sm half mode = (sg neg (lim neg mode), 5) := by rw [out, if_pos h]
theorem out_fin {neg : Bool} {c : Nat} {sm : Bool} {half mode : Int} (h : upc neg c sm half mode < 9218868437227405312) : out neg c sm half mode = (sg neg (upc neg c sm half mode), if sm then (if c < 4503599627370496 then 3 else 1) else 0) := by rw [out, if_neg (by omega)]

-- the code's end, from w times 2^(T - 1074) on
-- w, T are final
theorem round_neg {neg : Bool} {m : Nat} {e A : Int} {more : Bool} {mode : Int} {v t : Nat} {sm : Bool} {half : Int} (hm : m ≠ 0) (hmb : bitLen m ≤ 262144) (he : -262144 ≤ e ∧ e ≤ 262144) (hA' : A = max ((bitLen m : Int) - 1 + e - 52) (-1074)) (hk : A - e < 0)
    (hq : m * 2 ^ (e - A).toNat = v)
    (hrest : CallP Tryz.prog 178 [numP neg m e more, natP (m / 2 ^ (max (A - e) 0).toNat), .int .i64 (A - e)] (.p (partP sm half)) [])
    (ht : A = (t : Int) - 1074) (hv : v < 9007199254740992) (hvt : 4503599627370496 ≤ v ∨ t = 0) (hund : (bitLen m : Int) - 1 + e < -1022 ↔ v + t * 4503599627370496 < 4503599627370496) :
    CallP Tryz.prog 141 [numP neg m e more, .int .i64 mode] (fpair (out neg (v + t * 4503599627370496) sm half mode)) [] := by
  have hnm := nlen_bitLen m
  have hbl0 : bitLen m ≠ 0 := mt bitLen_zero_iff.1 hm
  refine callG_of_vc (wr := wr0) Γok mixed Tryz.func141 (by kernel_rfl) rfl (by kernel_rfl) (le_of_ble rfl) (by simp) ?_
  refine SDraw.mk (by kernel_rfl) ?_
  repeat refine SOp.mk _ _ (And.intro rfl rfl) rfl ?_
  refine SOp.mk _ _ (SCall.pure (nbits_ok false m (by omega)) (And.intro rfl rfl)) rfl ?_
  refine SOp.mk _ _ (SWrap.i64z ((bitLen m : Int) - 1) rfl (by omega) (And.intro rfl rfl)) rfl ?_
  repeat refine SOp.mk _ _ (And.intro rfl rfl) rfl ?_
  refine SOp.mk _ _ (SWrap.i64z ((bitLen m : Int) - 1 + e) rfl (by omega) (And.intro rfl rfl)) rfl ?_
  repeat refine SOp.mk _ _ (And.intro rfl rfl) rfl ?_
  refine SWrap.i64z ((bitLen m : Int) - 1 + e - 52) rfl (by omega) ?_
  refine SZ.mk A ((max_ite _ _).trans hA'.symm) ?_
  refine SWrap.i64z (A - e) rfl (by omega) ?_
  refine SZ.mk (((max (A - e) 0).toNat : Nat) : Int) ((max_ite _ _).trans (by omega)) ?_
  refine SCall.pure (fshr_ok false m (max (A - e) 0).toNat (by omega) (by omega)) ?_
  refine SCall.pure (hrest) ?_
  refine SCmp.yes (decide_eq_true (by omega)) ?_
  refine SWrap.i64z (((e - A).toNat : Nat) : Int) (by omega) (by omega) ?_
  refine SCall.pure (fshl_ok false m (e - A).toNat (by omega) (by omega)) ?_
  rw [hq]
  refine SCall.pureT (nsmall_ok false v (by omega)) (fun _ => rfl) ?_
  subst ht
  refine SWrap.and v 1 _ rfl rfl (by omega) (by omega) (low1 v) ?_
  have hpar : v % 2 = (v + t * 4503599627370496) % 2 := by omega
  have hup := up_ok sm half mode neg
  have hu : upc neg (v + t * 4503599627370496) sm half mode = if goUp mode neg sm (decide ((v + t * 4503599627370496) % 2 = 1)) half then v + t * 4503599627370496 + 1 else v + t * 4503599627370496 := rfl
  refine SCmp.sym ?_
  obtain ⟨od, hod⟩ : ∃ od, od = (((v % 2 : Nat) : Int) == 1) := ⟨_, rfl⟩
  rw [show decide ((v + t * 4503599627370496) % 2 = 1) = od by
    rw [hod]
    by_cases h : v % 2 = 1
    · rw [decide_eq_true (by omega), eqT (by omega)]
    · rw [decide_eq_false (by omega), eqF (by omega)]] at hu
  rw [← hod]
  refine SCall.pure (hup od) ?_
  refine SCond.mk (fun hg => ?_) (fun hg => ?_)
  · rw [hg, if_pos rfl] at hu
    refine SWrap.u64z (v + 1) (by omega) (by omega) ?_
    by_cases htop : (v + 1) = 9007199254740992
    · refine SCmp.yes (eqT (by omega)) ?_
      refine SWrap.i64z (((t + 1 : Nat) : Int) - 1074) (by omega) (by omega) ?_
      have hupc : upc neg (v + t * 4503599627370496) sm half mode = 4503599627370496 + (t + 1) * 4503599627370496 := by omega
      refine SCmp.yes (decide_eq_true (by omega)) ?_
      refine SWrap.i64z (((t + 1 : Nat) : Int) - 1022) (by omega) (by omega) ?_
      by_cases hT : 2046 ≤ t + 1
      · refine SCmp.yes (decide_eq_true (by omega)) ?_
        rw [out_over (by omega)]
        refine SCall.pureT (beyond_ok neg mode) (fun _ => rfl) ?_
        exact SRet.pure (.tup rfl fun i c d e1 e2 => by
          match i, e1, e2 with
          | 0, e1, e2 => cases e1; cases e2; exact .p _ (.int _ _)
          | 1, e1, e2 => cases e1; cases e2; exact .p _ (.int _ _))
      · refine SCmp.no (decide_eq_false (by omega)) ?_
        rw [out_fin (by omega), hupc]
        refine SCond.mk (fun hsm => ?_) (fun hsm => ?_)
        · by_cases hund0 : (bitLen m : Int) - 1 + e < -1022
          · refine SCmp.yes (decide_eq_true (by omega)) ?_
            refine SWrap.i64z 3 (by decide) (by omega) ?_
            rw [hsm, if_pos rfl, if_pos (hund.1 hund0)]
            by_cases hw2 : 4503599627370496 ≤ 4503599627370496
            · refine SCmp.yes (decide_eq_true (by omega)) ?_
              refine SWrap.i64z (((t + 1) + 1 : Nat) : Int) (by omega) (by omega) ?_
              refine SWrap.i64z (((t + 1) : Nat) : Int) (by omega) (by omega) ?_
              refine SWrap.u64z ((t + 1)) (by omega) (by omega) ?_
              refine SGe.mk (by decide) ?_
              refine SWrap.u64z ((t + 1) * 4503599627370496) (by show (((t + 1) : Nat) : Int) * 4503599627370496 = _; omega) (by omega) ?_
              refine SWrap.u64z (4503599627370496 + (t + 1) * 4503599627370496) (by omega) (by omega) ?_
              refine SCall.pure (signed_ok (4503599627370496 + (t + 1) * 4503599627370496) (by omega) neg) ?_
              exact SRet.pure (.tup rfl fun i c d e1 e2 => by
                match i, e1, e2 with
                | 0, e1, e2 => cases e1; cases e2; exact .p _ (.int _ _)
                | 1, e1, e2 => cases e1; cases e2; exact .p _ (.int _ _))
            · refine SCmp.no (decide_eq_false (by omega)) ?_
              have hT0 : 4503599627370496 + (t + 1) * 4503599627370496 = 4503599627370496 := by omega
              rw [hT0]
              refine SCall.pure (signed_ok (4503599627370496) (by omega) neg) ?_
              exact SRet.pure (.tup rfl fun i c d e1 e2 => by
                match i, e1, e2 with
                | 0, e1, e2 => cases e1; cases e2; exact .p _ (.int _ _)
                | 1, e1, e2 => cases e1; cases e2; exact .p _ (.int _ _))
          · refine SCmp.no (decide_eq_false (by omega)) ?_
            rw [hsm, if_pos rfl, if_neg (mt hund.2 hund0)]
            by_cases hw2 : 4503599627370496 ≤ 4503599627370496
            · refine SCmp.yes (decide_eq_true (by omega)) ?_
              refine SWrap.i64z (((t + 1) + 1 : Nat) : Int) (by omega) (by omega) ?_
              refine SWrap.i64z (((t + 1) : Nat) : Int) (by omega) (by omega) ?_
              refine SWrap.u64z ((t + 1)) (by omega) (by omega) ?_
              refine SGe.mk (by decide) ?_
              refine SWrap.u64z ((t + 1) * 4503599627370496) (by show (((t + 1) : Nat) : Int) * 4503599627370496 = _; omega) (by omega) ?_
              refine SWrap.u64z (4503599627370496 + (t + 1) * 4503599627370496) (by omega) (by omega) ?_
              refine SCall.pure (signed_ok (4503599627370496 + (t + 1) * 4503599627370496) (by omega) neg) ?_
              exact SRet.pure (.tup rfl fun i c d e1 e2 => by
                match i, e1, e2 with
                | 0, e1, e2 => cases e1; cases e2; exact .p _ (.int _ _)
                | 1, e1, e2 => cases e1; cases e2; exact .p _ (.int _ _))
            · refine SCmp.no (decide_eq_false (by omega)) ?_
              have hT0 : 4503599627370496 + (t + 1) * 4503599627370496 = 4503599627370496 := by omega
              rw [hT0]
              refine SCall.pure (signed_ok (4503599627370496) (by omega) neg) ?_
              exact SRet.pure (.tup rfl fun i c d e1 e2 => by
                match i, e1, e2 with
                | 0, e1, e2 => cases e1; cases e2; exact .p _ (.int _ _)
                | 1, e1, e2 => cases e1; cases e2; exact .p _ (.int _ _))
        · rw [hsm, if_neg Bool.false_ne_true]
          by_cases hw2 : 4503599627370496 ≤ 4503599627370496
          · refine SCmp.yes (decide_eq_true (by omega)) ?_
            refine SWrap.i64z (((t + 1) + 1 : Nat) : Int) (by omega) (by omega) ?_
            refine SWrap.i64z (((t + 1) : Nat) : Int) (by omega) (by omega) ?_
            refine SWrap.u64z ((t + 1)) (by omega) (by omega) ?_
            refine SGe.mk (by decide) ?_
            refine SWrap.u64z ((t + 1) * 4503599627370496) (by show (((t + 1) : Nat) : Int) * 4503599627370496 = _; omega) (by omega) ?_
            refine SWrap.u64z (4503599627370496 + (t + 1) * 4503599627370496) (by omega) (by omega) ?_
            refine SCall.pure (signed_ok (4503599627370496 + (t + 1) * 4503599627370496) (by omega) neg) ?_
            exact SRet.pure (.tup rfl fun i c d e1 e2 => by
              match i, e1, e2 with
              | 0, e1, e2 => cases e1; cases e2; exact .p _ (.int _ _)
              | 1, e1, e2 => cases e1; cases e2; exact .p _ (.int _ _))
          · refine SCmp.no (decide_eq_false (by omega)) ?_
            have hT0 : 4503599627370496 + (t + 1) * 4503599627370496 = 4503599627370496 := by omega
            rw [hT0]
            refine SCall.pure (signed_ok (4503599627370496) (by omega) neg) ?_
            exact SRet.pure (.tup rfl fun i c d e1 e2 => by
              match i, e1, e2 with
              | 0, e1, e2 => cases e1; cases e2; exact .p _ (.int _ _)
              | 1, e1, e2 => cases e1; cases e2; exact .p _ (.int _ _))
    · refine SCmp.no (eqF (by omega)) ?_
      have hupc : upc neg (v + t * 4503599627370496) sm half mode = (v + 1) + t * 4503599627370496 := by omega
      by_cases hw : 4503599627370496 ≤ (v + 1)
      · refine SCmp.yes (decide_eq_true (by omega)) ?_
        refine SWrap.i64z ((t : Int) - 1022) (by omega) (by omega) ?_
        by_cases hT : 2046 ≤ t
        · refine SCmp.yes (decide_eq_true (by omega)) ?_
          rw [out_over (by omega)]
          refine SCall.pureT (beyond_ok neg mode) (fun _ => rfl) ?_
          exact SRet.pure (.tup rfl fun i c d e1 e2 => by
            match i, e1, e2 with
            | 0, e1, e2 => cases e1; cases e2; exact .p _ (.int _ _)
            | 1, e1, e2 => cases e1; cases e2; exact .p _ (.int _ _))
        · refine SCmp.no (decide_eq_false (by omega)) ?_
          rw [out_fin (by omega), hupc]
          refine SCond.mk (fun hsm => ?_) (fun hsm => ?_)
          · by_cases hund0 : (bitLen m : Int) - 1 + e < -1022
            · refine SCmp.yes (decide_eq_true (by omega)) ?_
              refine SWrap.i64z 3 (by decide) (by omega) ?_
              rw [hsm, if_pos rfl, if_pos (hund.1 hund0)]
              by_cases hw2 : 4503599627370496 ≤ (v + 1)
              · refine SCmp.yes (decide_eq_true (by omega)) ?_
                refine SWrap.i64z ((t + 1 : Nat) : Int) (by omega) (by omega) ?_
                refine SWrap.i64z ((t : Nat) : Int) (by omega) (by omega) ?_
                refine SWrap.u64z (t) (by omega) (by omega) ?_
                refine SGe.mk (by decide) ?_
                refine SWrap.u64z (t * 4503599627370496) (by show ((t : Nat) : Int) * 4503599627370496 = _; omega) (by omega) ?_
                refine SWrap.u64z ((v + 1) + t * 4503599627370496) (by omega) (by omega) ?_
                refine SCall.pure (signed_ok ((v + 1) + t * 4503599627370496) (by omega) neg) ?_
                exact SRet.pure (.tup rfl fun i c d e1 e2 => by
                  match i, e1, e2 with
                  | 0, e1, e2 => cases e1; cases e2; exact .p _ (.int _ _)
                  | 1, e1, e2 => cases e1; cases e2; exact .p _ (.int _ _))
              · refine SCmp.no (decide_eq_false (by omega)) ?_
                have hT0 : (v + 1) + t * 4503599627370496 = (v + 1) := by omega
                rw [hT0]
                refine SCall.pure (signed_ok ((v + 1)) (by omega) neg) ?_
                exact SRet.pure (.tup rfl fun i c d e1 e2 => by
                  match i, e1, e2 with
                  | 0, e1, e2 => cases e1; cases e2; exact .p _ (.int _ _)
                  | 1, e1, e2 => cases e1; cases e2; exact .p _ (.int _ _))
            · refine SCmp.no (decide_eq_false (by omega)) ?_
              rw [hsm, if_pos rfl, if_neg (mt hund.2 hund0)]
              by_cases hw2 : 4503599627370496 ≤ (v + 1)
              · refine SCmp.yes (decide_eq_true (by omega)) ?_
                refine SWrap.i64z ((t + 1 : Nat) : Int) (by omega) (by omega) ?_
                refine SWrap.i64z ((t : Nat) : Int) (by omega) (by omega) ?_
                refine SWrap.u64z (t) (by omega) (by omega) ?_
                refine SGe.mk (by decide) ?_
                refine SWrap.u64z (t * 4503599627370496) (by show ((t : Nat) : Int) * 4503599627370496 = _; omega) (by omega) ?_
                refine SWrap.u64z ((v + 1) + t * 4503599627370496) (by omega) (by omega) ?_
                refine SCall.pure (signed_ok ((v + 1) + t * 4503599627370496) (by omega) neg) ?_
                exact SRet.pure (.tup rfl fun i c d e1 e2 => by
                  match i, e1, e2 with
                  | 0, e1, e2 => cases e1; cases e2; exact .p _ (.int _ _)
                  | 1, e1, e2 => cases e1; cases e2; exact .p _ (.int _ _))
              · refine SCmp.no (decide_eq_false (by omega)) ?_
                have hT0 : (v + 1) + t * 4503599627370496 = (v + 1) := by omega
                rw [hT0]
                refine SCall.pure (signed_ok ((v + 1)) (by omega) neg) ?_
                exact SRet.pure (.tup rfl fun i c d e1 e2 => by
                  match i, e1, e2 with
                  | 0, e1, e2 => cases e1; cases e2; exact .p _ (.int _ _)
                  | 1, e1, e2 => cases e1; cases e2; exact .p _ (.int _ _))
          · rw [hsm, if_neg Bool.false_ne_true]
            by_cases hw2 : 4503599627370496 ≤ (v + 1)
            · refine SCmp.yes (decide_eq_true (by omega)) ?_
              refine SWrap.i64z ((t + 1 : Nat) : Int) (by omega) (by omega) ?_
              refine SWrap.i64z ((t : Nat) : Int) (by omega) (by omega) ?_
              refine SWrap.u64z (t) (by omega) (by omega) ?_
              refine SGe.mk (by decide) ?_
              refine SWrap.u64z (t * 4503599627370496) (by show ((t : Nat) : Int) * 4503599627370496 = _; omega) (by omega) ?_
              refine SWrap.u64z ((v + 1) + t * 4503599627370496) (by omega) (by omega) ?_
              refine SCall.pure (signed_ok ((v + 1) + t * 4503599627370496) (by omega) neg) ?_
              exact SRet.pure (.tup rfl fun i c d e1 e2 => by
                match i, e1, e2 with
                | 0, e1, e2 => cases e1; cases e2; exact .p _ (.int _ _)
                | 1, e1, e2 => cases e1; cases e2; exact .p _ (.int _ _))
            · refine SCmp.no (decide_eq_false (by omega)) ?_
              have hT0 : (v + 1) + t * 4503599627370496 = (v + 1) := by omega
              rw [hT0]
              refine SCall.pure (signed_ok ((v + 1)) (by omega) neg) ?_
              exact SRet.pure (.tup rfl fun i c d e1 e2 => by
                match i, e1, e2 with
                | 0, e1, e2 => cases e1; cases e2; exact .p _ (.int _ _)
                | 1, e1, e2 => cases e1; cases e2; exact .p _ (.int _ _))
      · refine SCmp.no (decide_eq_false (by omega)) ?_
        rw [out_fin (by omega), hupc]
        refine SCond.mk (fun hsm => ?_) (fun hsm => ?_)
        · by_cases hund0 : (bitLen m : Int) - 1 + e < -1022
          · refine SCmp.yes (decide_eq_true (by omega)) ?_
            refine SWrap.i64z 3 (by decide) (by omega) ?_
            rw [hsm, if_pos rfl, if_pos (hund.1 hund0)]
            by_cases hw2 : 4503599627370496 ≤ (v + 1)
            · refine SCmp.yes (decide_eq_true (by omega)) ?_
              refine SWrap.i64z ((t + 1 : Nat) : Int) (by omega) (by omega) ?_
              refine SWrap.i64z ((t : Nat) : Int) (by omega) (by omega) ?_
              refine SWrap.u64z (t) (by omega) (by omega) ?_
              refine SGe.mk (by decide) ?_
              refine SWrap.u64z (t * 4503599627370496) (by show ((t : Nat) : Int) * 4503599627370496 = _; omega) (by omega) ?_
              refine SWrap.u64z ((v + 1) + t * 4503599627370496) (by omega) (by omega) ?_
              refine SCall.pure (signed_ok ((v + 1) + t * 4503599627370496) (by omega) neg) ?_
              exact SRet.pure (.tup rfl fun i c d e1 e2 => by
                match i, e1, e2 with
                | 0, e1, e2 => cases e1; cases e2; exact .p _ (.int _ _)
                | 1, e1, e2 => cases e1; cases e2; exact .p _ (.int _ _))
            · refine SCmp.no (decide_eq_false (by omega)) ?_
              have hT0 : (v + 1) + t * 4503599627370496 = (v + 1) := by omega
              rw [hT0]
              refine SCall.pure (signed_ok ((v + 1)) (by omega) neg) ?_
              exact SRet.pure (.tup rfl fun i c d e1 e2 => by
                match i, e1, e2 with
                | 0, e1, e2 => cases e1; cases e2; exact .p _ (.int _ _)
                | 1, e1, e2 => cases e1; cases e2; exact .p _ (.int _ _))
          · refine SCmp.no (decide_eq_false (by omega)) ?_
            rw [hsm, if_pos rfl, if_neg (mt hund.2 hund0)]
            by_cases hw2 : 4503599627370496 ≤ (v + 1)
            · refine SCmp.yes (decide_eq_true (by omega)) ?_
              refine SWrap.i64z ((t + 1 : Nat) : Int) (by omega) (by omega) ?_
              refine SWrap.i64z ((t : Nat) : Int) (by omega) (by omega) ?_
              refine SWrap.u64z (t) (by omega) (by omega) ?_
              refine SGe.mk (by decide) ?_
              refine SWrap.u64z (t * 4503599627370496) (by show ((t : Nat) : Int) * 4503599627370496 = _; omega) (by omega) ?_
              refine SWrap.u64z ((v + 1) + t * 4503599627370496) (by omega) (by omega) ?_
              refine SCall.pure (signed_ok ((v + 1) + t * 4503599627370496) (by omega) neg) ?_
              exact SRet.pure (.tup rfl fun i c d e1 e2 => by
                match i, e1, e2 with
                | 0, e1, e2 => cases e1; cases e2; exact .p _ (.int _ _)
                | 1, e1, e2 => cases e1; cases e2; exact .p _ (.int _ _))
            · refine SCmp.no (decide_eq_false (by omega)) ?_
              have hT0 : (v + 1) + t * 4503599627370496 = (v + 1) := by omega
              rw [hT0]
              refine SCall.pure (signed_ok ((v + 1)) (by omega) neg) ?_
              exact SRet.pure (.tup rfl fun i c d e1 e2 => by
                match i, e1, e2 with
                | 0, e1, e2 => cases e1; cases e2; exact .p _ (.int _ _)
                | 1, e1, e2 => cases e1; cases e2; exact .p _ (.int _ _))
        · rw [hsm, if_neg Bool.false_ne_true]
          by_cases hw2 : 4503599627370496 ≤ (v + 1)
          · refine SCmp.yes (decide_eq_true (by omega)) ?_
            refine SWrap.i64z ((t + 1 : Nat) : Int) (by omega) (by omega) ?_
            refine SWrap.i64z ((t : Nat) : Int) (by omega) (by omega) ?_
            refine SWrap.u64z (t) (by omega) (by omega) ?_
            refine SGe.mk (by decide) ?_
            refine SWrap.u64z (t * 4503599627370496) (by show ((t : Nat) : Int) * 4503599627370496 = _; omega) (by omega) ?_
            refine SWrap.u64z ((v + 1) + t * 4503599627370496) (by omega) (by omega) ?_
            refine SCall.pure (signed_ok ((v + 1) + t * 4503599627370496) (by omega) neg) ?_
            exact SRet.pure (.tup rfl fun i c d e1 e2 => by
              match i, e1, e2 with
              | 0, e1, e2 => cases e1; cases e2; exact .p _ (.int _ _)
              | 1, e1, e2 => cases e1; cases e2; exact .p _ (.int _ _))
          · refine SCmp.no (decide_eq_false (by omega)) ?_
            have hT0 : (v + 1) + t * 4503599627370496 = (v + 1) := by omega
            rw [hT0]
            refine SCall.pure (signed_ok ((v + 1)) (by omega) neg) ?_
            exact SRet.pure (.tup rfl fun i c d e1 e2 => by
              match i, e1, e2 with
              | 0, e1, e2 => cases e1; cases e2; exact .p _ (.int _ _)
              | 1, e1, e2 => cases e1; cases e2; exact .p _ (.int _ _))
  · rw [hg, if_neg Bool.false_ne_true] at hu
    by_cases htop : v = 9007199254740992
    · refine SCmp.yes (eqT (by omega)) ?_
      refine SWrap.i64z (((t + 1 : Nat) : Int) - 1074) (by omega) (by omega) ?_
      have hupc : upc neg (v + t * 4503599627370496) sm half mode = 4503599627370496 + (t + 1) * 4503599627370496 := by omega
      refine SCmp.yes (decide_eq_true (by omega)) ?_
      refine SWrap.i64z (((t + 1 : Nat) : Int) - 1022) (by omega) (by omega) ?_
      by_cases hT : 2046 ≤ t + 1
      · refine SCmp.yes (decide_eq_true (by omega)) ?_
        rw [out_over (by omega)]
        refine SCall.pureT (beyond_ok neg mode) (fun _ => rfl) ?_
        exact SRet.pure (.tup rfl fun i c d e1 e2 => by
          match i, e1, e2 with
          | 0, e1, e2 => cases e1; cases e2; exact .p _ (.int _ _)
          | 1, e1, e2 => cases e1; cases e2; exact .p _ (.int _ _))
      · refine SCmp.no (decide_eq_false (by omega)) ?_
        rw [out_fin (by omega), hupc]
        refine SCond.mk (fun hsm => ?_) (fun hsm => ?_)
        · by_cases hund0 : (bitLen m : Int) - 1 + e < -1022
          · refine SCmp.yes (decide_eq_true (by omega)) ?_
            refine SWrap.i64z 3 (by decide) (by omega) ?_
            rw [hsm, if_pos rfl, if_pos (hund.1 hund0)]
            by_cases hw2 : 4503599627370496 ≤ 4503599627370496
            · refine SCmp.yes (decide_eq_true (by omega)) ?_
              refine SWrap.i64z (((t + 1) + 1 : Nat) : Int) (by omega) (by omega) ?_
              refine SWrap.i64z (((t + 1) : Nat) : Int) (by omega) (by omega) ?_
              refine SWrap.u64z ((t + 1)) (by omega) (by omega) ?_
              refine SGe.mk (by decide) ?_
              refine SWrap.u64z ((t + 1) * 4503599627370496) (by show (((t + 1) : Nat) : Int) * 4503599627370496 = _; omega) (by omega) ?_
              refine SWrap.u64z (4503599627370496 + (t + 1) * 4503599627370496) (by omega) (by omega) ?_
              refine SCall.pure (signed_ok (4503599627370496 + (t + 1) * 4503599627370496) (by omega) neg) ?_
              exact SRet.pure (.tup rfl fun i c d e1 e2 => by
                match i, e1, e2 with
                | 0, e1, e2 => cases e1; cases e2; exact .p _ (.int _ _)
                | 1, e1, e2 => cases e1; cases e2; exact .p _ (.int _ _))
            · refine SCmp.no (decide_eq_false (by omega)) ?_
              have hT0 : 4503599627370496 + (t + 1) * 4503599627370496 = 4503599627370496 := by omega
              rw [hT0]
              refine SCall.pure (signed_ok (4503599627370496) (by omega) neg) ?_
              exact SRet.pure (.tup rfl fun i c d e1 e2 => by
                match i, e1, e2 with
                | 0, e1, e2 => cases e1; cases e2; exact .p _ (.int _ _)
                | 1, e1, e2 => cases e1; cases e2; exact .p _ (.int _ _))
          · refine SCmp.no (decide_eq_false (by omega)) ?_
            rw [hsm, if_pos rfl, if_neg (mt hund.2 hund0)]
            by_cases hw2 : 4503599627370496 ≤ 4503599627370496
            · refine SCmp.yes (decide_eq_true (by omega)) ?_
              refine SWrap.i64z (((t + 1) + 1 : Nat) : Int) (by omega) (by omega) ?_
              refine SWrap.i64z (((t + 1) : Nat) : Int) (by omega) (by omega) ?_
              refine SWrap.u64z ((t + 1)) (by omega) (by omega) ?_
              refine SGe.mk (by decide) ?_
              refine SWrap.u64z ((t + 1) * 4503599627370496) (by show (((t + 1) : Nat) : Int) * 4503599627370496 = _; omega) (by omega) ?_
              refine SWrap.u64z (4503599627370496 + (t + 1) * 4503599627370496) (by omega) (by omega) ?_
              refine SCall.pure (signed_ok (4503599627370496 + (t + 1) * 4503599627370496) (by omega) neg) ?_
              exact SRet.pure (.tup rfl fun i c d e1 e2 => by
                match i, e1, e2 with
                | 0, e1, e2 => cases e1; cases e2; exact .p _ (.int _ _)
                | 1, e1, e2 => cases e1; cases e2; exact .p _ (.int _ _))
            · refine SCmp.no (decide_eq_false (by omega)) ?_
              have hT0 : 4503599627370496 + (t + 1) * 4503599627370496 = 4503599627370496 := by omega
              rw [hT0]
              refine SCall.pure (signed_ok (4503599627370496) (by omega) neg) ?_
              exact SRet.pure (.tup rfl fun i c d e1 e2 => by
                match i, e1, e2 with
                | 0, e1, e2 => cases e1; cases e2; exact .p _ (.int _ _)
                | 1, e1, e2 => cases e1; cases e2; exact .p _ (.int _ _))
        · rw [hsm, if_neg Bool.false_ne_true]
          by_cases hw2 : 4503599627370496 ≤ 4503599627370496
          · refine SCmp.yes (decide_eq_true (by omega)) ?_
            refine SWrap.i64z (((t + 1) + 1 : Nat) : Int) (by omega) (by omega) ?_
            refine SWrap.i64z (((t + 1) : Nat) : Int) (by omega) (by omega) ?_
            refine SWrap.u64z ((t + 1)) (by omega) (by omega) ?_
            refine SGe.mk (by decide) ?_
            refine SWrap.u64z ((t + 1) * 4503599627370496) (by show (((t + 1) : Nat) : Int) * 4503599627370496 = _; omega) (by omega) ?_
            refine SWrap.u64z (4503599627370496 + (t + 1) * 4503599627370496) (by omega) (by omega) ?_
            refine SCall.pure (signed_ok (4503599627370496 + (t + 1) * 4503599627370496) (by omega) neg) ?_
            exact SRet.pure (.tup rfl fun i c d e1 e2 => by
              match i, e1, e2 with
              | 0, e1, e2 => cases e1; cases e2; exact .p _ (.int _ _)
              | 1, e1, e2 => cases e1; cases e2; exact .p _ (.int _ _))
          · refine SCmp.no (decide_eq_false (by omega)) ?_
            have hT0 : 4503599627370496 + (t + 1) * 4503599627370496 = 4503599627370496 := by omega
            rw [hT0]
            refine SCall.pure (signed_ok (4503599627370496) (by omega) neg) ?_
            exact SRet.pure (.tup rfl fun i c d e1 e2 => by
              match i, e1, e2 with
              | 0, e1, e2 => cases e1; cases e2; exact .p _ (.int _ _)
              | 1, e1, e2 => cases e1; cases e2; exact .p _ (.int _ _))
    · refine SCmp.no (eqF (by omega)) ?_
      have hupc : upc neg (v + t * 4503599627370496) sm half mode = v + t * 4503599627370496 := by omega
      by_cases hw : 4503599627370496 ≤ v
      · refine SCmp.yes (decide_eq_true (by omega)) ?_
        refine SWrap.i64z ((t : Int) - 1022) (by omega) (by omega) ?_
        by_cases hT : 2046 ≤ t
        · refine SCmp.yes (decide_eq_true (by omega)) ?_
          rw [out_over (by omega)]
          refine SCall.pureT (beyond_ok neg mode) (fun _ => rfl) ?_
          exact SRet.pure (.tup rfl fun i c d e1 e2 => by
            match i, e1, e2 with
            | 0, e1, e2 => cases e1; cases e2; exact .p _ (.int _ _)
            | 1, e1, e2 => cases e1; cases e2; exact .p _ (.int _ _))
        · refine SCmp.no (decide_eq_false (by omega)) ?_
          rw [out_fin (by omega), hupc]
          refine SCond.mk (fun hsm => ?_) (fun hsm => ?_)
          · by_cases hund0 : (bitLen m : Int) - 1 + e < -1022
            · refine SCmp.yes (decide_eq_true (by omega)) ?_
              refine SWrap.i64z 3 (by decide) (by omega) ?_
              rw [hsm, if_pos rfl, if_pos (hund.1 hund0)]
              by_cases hw2 : 4503599627370496 ≤ v
              · refine SCmp.yes (decide_eq_true (by omega)) ?_
                refine SWrap.i64z ((t + 1 : Nat) : Int) (by omega) (by omega) ?_
                refine SWrap.i64z ((t : Nat) : Int) (by omega) (by omega) ?_
                refine SWrap.u64z (t) (by omega) (by omega) ?_
                refine SGe.mk (by decide) ?_
                refine SWrap.u64z (t * 4503599627370496) (by show ((t : Nat) : Int) * 4503599627370496 = _; omega) (by omega) ?_
                refine SWrap.u64z (v + t * 4503599627370496) (by omega) (by omega) ?_
                refine SCall.pure (signed_ok (v + t * 4503599627370496) (by omega) neg) ?_
                exact SRet.pure (.tup rfl fun i c d e1 e2 => by
                  match i, e1, e2 with
                  | 0, e1, e2 => cases e1; cases e2; exact .p _ (.int _ _)
                  | 1, e1, e2 => cases e1; cases e2; exact .p _ (.int _ _))
              · refine SCmp.no (decide_eq_false (by omega)) ?_
                have hT0 : v + t * 4503599627370496 = v := by omega
                rw [hT0]
                refine SCall.pure (signed_ok (v) (by omega) neg) ?_
                exact SRet.pure (.tup rfl fun i c d e1 e2 => by
                  match i, e1, e2 with
                  | 0, e1, e2 => cases e1; cases e2; exact .p _ (.int _ _)
                  | 1, e1, e2 => cases e1; cases e2; exact .p _ (.int _ _))
            · refine SCmp.no (decide_eq_false (by omega)) ?_
              rw [hsm, if_pos rfl, if_neg (mt hund.2 hund0)]
              by_cases hw2 : 4503599627370496 ≤ v
              · refine SCmp.yes (decide_eq_true (by omega)) ?_
                refine SWrap.i64z ((t + 1 : Nat) : Int) (by omega) (by omega) ?_
                refine SWrap.i64z ((t : Nat) : Int) (by omega) (by omega) ?_
                refine SWrap.u64z (t) (by omega) (by omega) ?_
                refine SGe.mk (by decide) ?_
                refine SWrap.u64z (t * 4503599627370496) (by show ((t : Nat) : Int) * 4503599627370496 = _; omega) (by omega) ?_
                refine SWrap.u64z (v + t * 4503599627370496) (by omega) (by omega) ?_
                refine SCall.pure (signed_ok (v + t * 4503599627370496) (by omega) neg) ?_
                exact SRet.pure (.tup rfl fun i c d e1 e2 => by
                  match i, e1, e2 with
                  | 0, e1, e2 => cases e1; cases e2; exact .p _ (.int _ _)
                  | 1, e1, e2 => cases e1; cases e2; exact .p _ (.int _ _))
              · refine SCmp.no (decide_eq_false (by omega)) ?_
                have hT0 : v + t * 4503599627370496 = v := by omega
                rw [hT0]
                refine SCall.pure (signed_ok (v) (by omega) neg) ?_
                exact SRet.pure (.tup rfl fun i c d e1 e2 => by
                  match i, e1, e2 with
                  | 0, e1, e2 => cases e1; cases e2; exact .p _ (.int _ _)
                  | 1, e1, e2 => cases e1; cases e2; exact .p _ (.int _ _))
          · rw [hsm, if_neg Bool.false_ne_true]
            by_cases hw2 : 4503599627370496 ≤ v
            · refine SCmp.yes (decide_eq_true (by omega)) ?_
              refine SWrap.i64z ((t + 1 : Nat) : Int) (by omega) (by omega) ?_
              refine SWrap.i64z ((t : Nat) : Int) (by omega) (by omega) ?_
              refine SWrap.u64z (t) (by omega) (by omega) ?_
              refine SGe.mk (by decide) ?_
              refine SWrap.u64z (t * 4503599627370496) (by show ((t : Nat) : Int) * 4503599627370496 = _; omega) (by omega) ?_
              refine SWrap.u64z (v + t * 4503599627370496) (by omega) (by omega) ?_
              refine SCall.pure (signed_ok (v + t * 4503599627370496) (by omega) neg) ?_
              exact SRet.pure (.tup rfl fun i c d e1 e2 => by
                match i, e1, e2 with
                | 0, e1, e2 => cases e1; cases e2; exact .p _ (.int _ _)
                | 1, e1, e2 => cases e1; cases e2; exact .p _ (.int _ _))
            · refine SCmp.no (decide_eq_false (by omega)) ?_
              have hT0 : v + t * 4503599627370496 = v := by omega
              rw [hT0]
              refine SCall.pure (signed_ok (v) (by omega) neg) ?_
              exact SRet.pure (.tup rfl fun i c d e1 e2 => by
                match i, e1, e2 with
                | 0, e1, e2 => cases e1; cases e2; exact .p _ (.int _ _)
                | 1, e1, e2 => cases e1; cases e2; exact .p _ (.int _ _))
      · refine SCmp.no (decide_eq_false (by omega)) ?_
        rw [out_fin (by omega), hupc]
        refine SCond.mk (fun hsm => ?_) (fun hsm => ?_)
        · by_cases hund0 : (bitLen m : Int) - 1 + e < -1022
          · refine SCmp.yes (decide_eq_true (by omega)) ?_
            refine SWrap.i64z 3 (by decide) (by omega) ?_
            rw [hsm, if_pos rfl, if_pos (hund.1 hund0)]
            by_cases hw2 : 4503599627370496 ≤ v
            · refine SCmp.yes (decide_eq_true (by omega)) ?_
              refine SWrap.i64z ((t + 1 : Nat) : Int) (by omega) (by omega) ?_
              refine SWrap.i64z ((t : Nat) : Int) (by omega) (by omega) ?_
              refine SWrap.u64z (t) (by omega) (by omega) ?_
              refine SGe.mk (by decide) ?_
              refine SWrap.u64z (t * 4503599627370496) (by show ((t : Nat) : Int) * 4503599627370496 = _; omega) (by omega) ?_
              refine SWrap.u64z (v + t * 4503599627370496) (by omega) (by omega) ?_
              refine SCall.pure (signed_ok (v + t * 4503599627370496) (by omega) neg) ?_
              exact SRet.pure (.tup rfl fun i c d e1 e2 => by
                match i, e1, e2 with
                | 0, e1, e2 => cases e1; cases e2; exact .p _ (.int _ _)
                | 1, e1, e2 => cases e1; cases e2; exact .p _ (.int _ _))
            · refine SCmp.no (decide_eq_false (by omega)) ?_
              have hT0 : v + t * 4503599627370496 = v := by omega
              rw [hT0]
              refine SCall.pure (signed_ok (v) (by omega) neg) ?_
              exact SRet.pure (.tup rfl fun i c d e1 e2 => by
                match i, e1, e2 with
                | 0, e1, e2 => cases e1; cases e2; exact .p _ (.int _ _)
                | 1, e1, e2 => cases e1; cases e2; exact .p _ (.int _ _))
          · refine SCmp.no (decide_eq_false (by omega)) ?_
            rw [hsm, if_pos rfl, if_neg (mt hund.2 hund0)]
            by_cases hw2 : 4503599627370496 ≤ v
            · refine SCmp.yes (decide_eq_true (by omega)) ?_
              refine SWrap.i64z ((t + 1 : Nat) : Int) (by omega) (by omega) ?_
              refine SWrap.i64z ((t : Nat) : Int) (by omega) (by omega) ?_
              refine SWrap.u64z (t) (by omega) (by omega) ?_
              refine SGe.mk (by decide) ?_
              refine SWrap.u64z (t * 4503599627370496) (by show ((t : Nat) : Int) * 4503599627370496 = _; omega) (by omega) ?_
              refine SWrap.u64z (v + t * 4503599627370496) (by omega) (by omega) ?_
              refine SCall.pure (signed_ok (v + t * 4503599627370496) (by omega) neg) ?_
              exact SRet.pure (.tup rfl fun i c d e1 e2 => by
                match i, e1, e2 with
                | 0, e1, e2 => cases e1; cases e2; exact .p _ (.int _ _)
                | 1, e1, e2 => cases e1; cases e2; exact .p _ (.int _ _))
            · refine SCmp.no (decide_eq_false (by omega)) ?_
              have hT0 : v + t * 4503599627370496 = v := by omega
              rw [hT0]
              refine SCall.pure (signed_ok (v) (by omega) neg) ?_
              exact SRet.pure (.tup rfl fun i c d e1 e2 => by
                match i, e1, e2 with
                | 0, e1, e2 => cases e1; cases e2; exact .p _ (.int _ _)
                | 1, e1, e2 => cases e1; cases e2; exact .p _ (.int _ _))
        · rw [hsm, if_neg Bool.false_ne_true]
          by_cases hw2 : 4503599627370496 ≤ v
          · refine SCmp.yes (decide_eq_true (by omega)) ?_
            refine SWrap.i64z ((t + 1 : Nat) : Int) (by omega) (by omega) ?_
            refine SWrap.i64z ((t : Nat) : Int) (by omega) (by omega) ?_
            refine SWrap.u64z (t) (by omega) (by omega) ?_
            refine SGe.mk (by decide) ?_
            refine SWrap.u64z (t * 4503599627370496) (by show ((t : Nat) : Int) * 4503599627370496 = _; omega) (by omega) ?_
            refine SWrap.u64z (v + t * 4503599627370496) (by omega) (by omega) ?_
            refine SCall.pure (signed_ok (v + t * 4503599627370496) (by omega) neg) ?_
            exact SRet.pure (.tup rfl fun i c d e1 e2 => by
              match i, e1, e2 with
              | 0, e1, e2 => cases e1; cases e2; exact .p _ (.int _ _)
              | 1, e1, e2 => cases e1; cases e2; exact .p _ (.int _ _))
          · refine SCmp.no (decide_eq_false (by omega)) ?_
            have hT0 : v + t * 4503599627370496 = v := by omega
            rw [hT0]
            refine SCall.pure (signed_ok (v) (by omega) neg) ?_
            exact SRet.pure (.tup rfl fun i c d e1 e2 => by
              match i, e1, e2 with
              | 0, e1, e2 => cases e1; cases e2; exact .p _ (.int _ _)
              | 1, e1, e2 => cases e1; cases e2; exact .p _ (.int _ _))
theorem round_pos {neg : Bool} {m : Nat} {e A : Int} {more : Bool} {mode : Int} {v t : Nat} {sm : Bool} {half : Int} (hm : m ≠ 0) (hmb : bitLen m ≤ 262144) (he : -262144 ≤ e ∧ e ≤ 262144) (hA' : A = max ((bitLen m : Int) - 1 + e - 52) (-1074)) (hk : ¬ A - e < 0)
    (hq : m / 2 ^ (A - e).toNat = v)
    (hrest : CallP Tryz.prog 178 [numP neg m e more, natP (m / 2 ^ (max (A - e) 0).toNat), .int .i64 (A - e)] (.p (partP sm half)) [])
    (ht : A = (t : Int) - 1074) (hv : v < 9007199254740992) (hvt : 4503599627370496 ≤ v ∨ t = 0) (hund : (bitLen m : Int) - 1 + e < -1022 ↔ v + t * 4503599627370496 < 4503599627370496) :
    CallP Tryz.prog 141 [numP neg m e more, .int .i64 mode] (fpair (out neg (v + t * 4503599627370496) sm half mode)) [] := by
  have hnm := nlen_bitLen m
  have hbl0 : bitLen m ≠ 0 := mt bitLen_zero_iff.1 hm
  refine callG_of_vc (wr := wr0) Γok mixed Tryz.func141 (by kernel_rfl) rfl (by kernel_rfl) (le_of_ble rfl) (by simp) ?_
  refine SDraw.mk (by kernel_rfl) ?_
  repeat refine SOp.mk _ _ (And.intro rfl rfl) rfl ?_
  refine SOp.mk _ _ (SCall.pure (nbits_ok false m (by omega)) (And.intro rfl rfl)) rfl ?_
  refine SOp.mk _ _ (SWrap.i64z ((bitLen m : Int) - 1) rfl (by omega) (And.intro rfl rfl)) rfl ?_
  repeat refine SOp.mk _ _ (And.intro rfl rfl) rfl ?_
  refine SOp.mk _ _ (SWrap.i64z ((bitLen m : Int) - 1 + e) rfl (by omega) (And.intro rfl rfl)) rfl ?_
  repeat refine SOp.mk _ _ (And.intro rfl rfl) rfl ?_
  refine SWrap.i64z ((bitLen m : Int) - 1 + e - 52) rfl (by omega) ?_
  refine SZ.mk A ((max_ite _ _).trans hA'.symm) ?_
  refine SWrap.i64z (A - e) rfl (by omega) ?_
  refine SZ.mk (((max (A - e) 0).toNat : Nat) : Int) ((max_ite _ _).trans (by omega)) ?_
  refine SCall.pure (fshr_ok false m (max (A - e) 0).toNat (by omega) (by omega)) ?_
  refine SCall.pure (hrest) ?_
  refine SCmp.no (decide_eq_false (by omega)) ?_
  rw [show (max (A - e) 0).toNat = (A - e).toNat by omega, hq]
  refine SCall.pureT (nsmall_ok false v (by omega)) (fun _ => rfl) ?_
  subst ht
  refine SWrap.and v 1 _ rfl rfl (by omega) (by omega) (low1 v) ?_
  have hpar : v % 2 = (v + t * 4503599627370496) % 2 := by omega
  have hup := up_ok sm half mode neg
  have hu : upc neg (v + t * 4503599627370496) sm half mode = if goUp mode neg sm (decide ((v + t * 4503599627370496) % 2 = 1)) half then v + t * 4503599627370496 + 1 else v + t * 4503599627370496 := rfl
  refine SCmp.sym ?_
  obtain ⟨od, hod⟩ : ∃ od, od = (((v % 2 : Nat) : Int) == 1) := ⟨_, rfl⟩
  rw [show decide ((v + t * 4503599627370496) % 2 = 1) = od by
    rw [hod]
    by_cases h : v % 2 = 1
    · rw [decide_eq_true (by omega), eqT (by omega)]
    · rw [decide_eq_false (by omega), eqF (by omega)]] at hu
  rw [← hod]
  refine SCall.pure (hup od) ?_
  refine SCond.mk (fun hg => ?_) (fun hg => ?_)
  · rw [hg, if_pos rfl] at hu
    refine SWrap.u64z (v + 1) (by omega) (by omega) ?_
    by_cases htop : (v + 1) = 9007199254740992
    · refine SCmp.yes (eqT (by omega)) ?_
      refine SWrap.i64z (((t + 1 : Nat) : Int) - 1074) (by omega) (by omega) ?_
      have hupc : upc neg (v + t * 4503599627370496) sm half mode = 4503599627370496 + (t + 1) * 4503599627370496 := by omega
      refine SCmp.yes (decide_eq_true (by omega)) ?_
      refine SWrap.i64z (((t + 1 : Nat) : Int) - 1022) (by omega) (by omega) ?_
      by_cases hT : 2046 ≤ t + 1
      · refine SCmp.yes (decide_eq_true (by omega)) ?_
        rw [out_over (by omega)]
        refine SCall.pureT (beyond_ok neg mode) (fun _ => rfl) ?_
        exact SRet.pure (.tup rfl fun i c d e1 e2 => by
          match i, e1, e2 with
          | 0, e1, e2 => cases e1; cases e2; exact .p _ (.int _ _)
          | 1, e1, e2 => cases e1; cases e2; exact .p _ (.int _ _))
      · refine SCmp.no (decide_eq_false (by omega)) ?_
        rw [out_fin (by omega), hupc]
        refine SCond.mk (fun hsm => ?_) (fun hsm => ?_)
        · by_cases hund0 : (bitLen m : Int) - 1 + e < -1022
          · refine SCmp.yes (decide_eq_true (by omega)) ?_
            refine SWrap.i64z 3 (by decide) (by omega) ?_
            rw [hsm, if_pos rfl, if_pos (hund.1 hund0)]
            by_cases hw2 : 4503599627370496 ≤ 4503599627370496
            · refine SCmp.yes (decide_eq_true (by omega)) ?_
              refine SWrap.i64z (((t + 1) + 1 : Nat) : Int) (by omega) (by omega) ?_
              refine SWrap.i64z (((t + 1) : Nat) : Int) (by omega) (by omega) ?_
              refine SWrap.u64z ((t + 1)) (by omega) (by omega) ?_
              refine SGe.mk (by decide) ?_
              refine SWrap.u64z ((t + 1) * 4503599627370496) (by show (((t + 1) : Nat) : Int) * 4503599627370496 = _; omega) (by omega) ?_
              refine SWrap.u64z (4503599627370496 + (t + 1) * 4503599627370496) (by omega) (by omega) ?_
              refine SCall.pure (signed_ok (4503599627370496 + (t + 1) * 4503599627370496) (by omega) neg) ?_
              exact SRet.pure (.tup rfl fun i c d e1 e2 => by
                match i, e1, e2 with
                | 0, e1, e2 => cases e1; cases e2; exact .p _ (.int _ _)
                | 1, e1, e2 => cases e1; cases e2; exact .p _ (.int _ _))
            · refine SCmp.no (decide_eq_false (by omega)) ?_
              have hT0 : 4503599627370496 + (t + 1) * 4503599627370496 = 4503599627370496 := by omega
              rw [hT0]
              refine SCall.pure (signed_ok (4503599627370496) (by omega) neg) ?_
              exact SRet.pure (.tup rfl fun i c d e1 e2 => by
                match i, e1, e2 with
                | 0, e1, e2 => cases e1; cases e2; exact .p _ (.int _ _)
                | 1, e1, e2 => cases e1; cases e2; exact .p _ (.int _ _))
          · refine SCmp.no (decide_eq_false (by omega)) ?_
            rw [hsm, if_pos rfl, if_neg (mt hund.2 hund0)]
            by_cases hw2 : 4503599627370496 ≤ 4503599627370496
            · refine SCmp.yes (decide_eq_true (by omega)) ?_
              refine SWrap.i64z (((t + 1) + 1 : Nat) : Int) (by omega) (by omega) ?_
              refine SWrap.i64z (((t + 1) : Nat) : Int) (by omega) (by omega) ?_
              refine SWrap.u64z ((t + 1)) (by omega) (by omega) ?_
              refine SGe.mk (by decide) ?_
              refine SWrap.u64z ((t + 1) * 4503599627370496) (by show (((t + 1) : Nat) : Int) * 4503599627370496 = _; omega) (by omega) ?_
              refine SWrap.u64z (4503599627370496 + (t + 1) * 4503599627370496) (by omega) (by omega) ?_
              refine SCall.pure (signed_ok (4503599627370496 + (t + 1) * 4503599627370496) (by omega) neg) ?_
              exact SRet.pure (.tup rfl fun i c d e1 e2 => by
                match i, e1, e2 with
                | 0, e1, e2 => cases e1; cases e2; exact .p _ (.int _ _)
                | 1, e1, e2 => cases e1; cases e2; exact .p _ (.int _ _))
            · refine SCmp.no (decide_eq_false (by omega)) ?_
              have hT0 : 4503599627370496 + (t + 1) * 4503599627370496 = 4503599627370496 := by omega
              rw [hT0]
              refine SCall.pure (signed_ok (4503599627370496) (by omega) neg) ?_
              exact SRet.pure (.tup rfl fun i c d e1 e2 => by
                match i, e1, e2 with
                | 0, e1, e2 => cases e1; cases e2; exact .p _ (.int _ _)
                | 1, e1, e2 => cases e1; cases e2; exact .p _ (.int _ _))
        · rw [hsm, if_neg Bool.false_ne_true]
          by_cases hw2 : 4503599627370496 ≤ 4503599627370496
          · refine SCmp.yes (decide_eq_true (by omega)) ?_
            refine SWrap.i64z (((t + 1) + 1 : Nat) : Int) (by omega) (by omega) ?_
            refine SWrap.i64z (((t + 1) : Nat) : Int) (by omega) (by omega) ?_
            refine SWrap.u64z ((t + 1)) (by omega) (by omega) ?_
            refine SGe.mk (by decide) ?_
            refine SWrap.u64z ((t + 1) * 4503599627370496) (by show (((t + 1) : Nat) : Int) * 4503599627370496 = _; omega) (by omega) ?_
            refine SWrap.u64z (4503599627370496 + (t + 1) * 4503599627370496) (by omega) (by omega) ?_
            refine SCall.pure (signed_ok (4503599627370496 + (t + 1) * 4503599627370496) (by omega) neg) ?_
            exact SRet.pure (.tup rfl fun i c d e1 e2 => by
              match i, e1, e2 with
              | 0, e1, e2 => cases e1; cases e2; exact .p _ (.int _ _)
              | 1, e1, e2 => cases e1; cases e2; exact .p _ (.int _ _))
          · refine SCmp.no (decide_eq_false (by omega)) ?_
            have hT0 : 4503599627370496 + (t + 1) * 4503599627370496 = 4503599627370496 := by omega
            rw [hT0]
            refine SCall.pure (signed_ok (4503599627370496) (by omega) neg) ?_
            exact SRet.pure (.tup rfl fun i c d e1 e2 => by
              match i, e1, e2 with
              | 0, e1, e2 => cases e1; cases e2; exact .p _ (.int _ _)
              | 1, e1, e2 => cases e1; cases e2; exact .p _ (.int _ _))
    · refine SCmp.no (eqF (by omega)) ?_
      have hupc : upc neg (v + t * 4503599627370496) sm half mode = (v + 1) + t * 4503599627370496 := by omega
      by_cases hw : 4503599627370496 ≤ (v + 1)
      · refine SCmp.yes (decide_eq_true (by omega)) ?_
        refine SWrap.i64z ((t : Int) - 1022) (by omega) (by omega) ?_
        by_cases hT : 2046 ≤ t
        · refine SCmp.yes (decide_eq_true (by omega)) ?_
          rw [out_over (by omega)]
          refine SCall.pureT (beyond_ok neg mode) (fun _ => rfl) ?_
          exact SRet.pure (.tup rfl fun i c d e1 e2 => by
            match i, e1, e2 with
            | 0, e1, e2 => cases e1; cases e2; exact .p _ (.int _ _)
            | 1, e1, e2 => cases e1; cases e2; exact .p _ (.int _ _))
        · refine SCmp.no (decide_eq_false (by omega)) ?_
          rw [out_fin (by omega), hupc]
          refine SCond.mk (fun hsm => ?_) (fun hsm => ?_)
          · by_cases hund0 : (bitLen m : Int) - 1 + e < -1022
            · refine SCmp.yes (decide_eq_true (by omega)) ?_
              refine SWrap.i64z 3 (by decide) (by omega) ?_
              rw [hsm, if_pos rfl, if_pos (hund.1 hund0)]
              by_cases hw2 : 4503599627370496 ≤ (v + 1)
              · refine SCmp.yes (decide_eq_true (by omega)) ?_
                refine SWrap.i64z ((t + 1 : Nat) : Int) (by omega) (by omega) ?_
                refine SWrap.i64z ((t : Nat) : Int) (by omega) (by omega) ?_
                refine SWrap.u64z (t) (by omega) (by omega) ?_
                refine SGe.mk (by decide) ?_
                refine SWrap.u64z (t * 4503599627370496) (by show ((t : Nat) : Int) * 4503599627370496 = _; omega) (by omega) ?_
                refine SWrap.u64z ((v + 1) + t * 4503599627370496) (by omega) (by omega) ?_
                refine SCall.pure (signed_ok ((v + 1) + t * 4503599627370496) (by omega) neg) ?_
                exact SRet.pure (.tup rfl fun i c d e1 e2 => by
                  match i, e1, e2 with
                  | 0, e1, e2 => cases e1; cases e2; exact .p _ (.int _ _)
                  | 1, e1, e2 => cases e1; cases e2; exact .p _ (.int _ _))
              · refine SCmp.no (decide_eq_false (by omega)) ?_
                have hT0 : (v + 1) + t * 4503599627370496 = (v + 1) := by omega
                rw [hT0]
                refine SCall.pure (signed_ok ((v + 1)) (by omega) neg) ?_
                exact SRet.pure (.tup rfl fun i c d e1 e2 => by
                  match i, e1, e2 with
                  | 0, e1, e2 => cases e1; cases e2; exact .p _ (.int _ _)
                  | 1, e1, e2 => cases e1; cases e2; exact .p _ (.int _ _))
            · refine SCmp.no (decide_eq_false (by omega)) ?_
              rw [hsm, if_pos rfl, if_neg (mt hund.2 hund0)]
              by_cases hw2 : 4503599627370496 ≤ (v + 1)
              · refine SCmp.yes (decide_eq_true (by omega)) ?_
                refine SWrap.i64z ((t + 1 : Nat) : Int) (by omega) (by omega) ?_
                refine SWrap.i64z ((t : Nat) : Int) (by omega) (by omega) ?_
                refine SWrap.u64z (t) (by omega) (by omega) ?_
                refine SGe.mk (by decide) ?_
                refine SWrap.u64z (t * 4503599627370496) (by show ((t : Nat) : Int) * 4503599627370496 = _; omega) (by omega) ?_
                refine SWrap.u64z ((v + 1) + t * 4503599627370496) (by omega) (by omega) ?_
                refine SCall.pure (signed_ok ((v + 1) + t * 4503599627370496) (by omega) neg) ?_
                exact SRet.pure (.tup rfl fun i c d e1 e2 => by
                  match i, e1, e2 with
                  | 0, e1, e2 => cases e1; cases e2; exact .p _ (.int _ _)
                  | 1, e1, e2 => cases e1; cases e2; exact .p _ (.int _ _))
              · refine SCmp.no (decide_eq_false (by omega)) ?_
                have hT0 : (v + 1) + t * 4503599627370496 = (v + 1) := by omega
                rw [hT0]
                refine SCall.pure (signed_ok ((v + 1)) (by omega) neg) ?_
                exact SRet.pure (.tup rfl fun i c d e1 e2 => by
                  match i, e1, e2 with
                  | 0, e1, e2 => cases e1; cases e2; exact .p _ (.int _ _)
                  | 1, e1, e2 => cases e1; cases e2; exact .p _ (.int _ _))
          · rw [hsm, if_neg Bool.false_ne_true]
            by_cases hw2 : 4503599627370496 ≤ (v + 1)
            · refine SCmp.yes (decide_eq_true (by omega)) ?_
              refine SWrap.i64z ((t + 1 : Nat) : Int) (by omega) (by omega) ?_
              refine SWrap.i64z ((t : Nat) : Int) (by omega) (by omega) ?_
              refine SWrap.u64z (t) (by omega) (by omega) ?_
              refine SGe.mk (by decide) ?_
              refine SWrap.u64z (t * 4503599627370496) (by show ((t : Nat) : Int) * 4503599627370496 = _; omega) (by omega) ?_
              refine SWrap.u64z ((v + 1) + t * 4503599627370496) (by omega) (by omega) ?_
              refine SCall.pure (signed_ok ((v + 1) + t * 4503599627370496) (by omega) neg) ?_
              exact SRet.pure (.tup rfl fun i c d e1 e2 => by
                match i, e1, e2 with
                | 0, e1, e2 => cases e1; cases e2; exact .p _ (.int _ _)
                | 1, e1, e2 => cases e1; cases e2; exact .p _ (.int _ _))
            · refine SCmp.no (decide_eq_false (by omega)) ?_
              have hT0 : (v + 1) + t * 4503599627370496 = (v + 1) := by omega
              rw [hT0]
              refine SCall.pure (signed_ok ((v + 1)) (by omega) neg) ?_
              exact SRet.pure (.tup rfl fun i c d e1 e2 => by
                match i, e1, e2 with
                | 0, e1, e2 => cases e1; cases e2; exact .p _ (.int _ _)
                | 1, e1, e2 => cases e1; cases e2; exact .p _ (.int _ _))
      · refine SCmp.no (decide_eq_false (by omega)) ?_
        rw [out_fin (by omega), hupc]
        refine SCond.mk (fun hsm => ?_) (fun hsm => ?_)
        · by_cases hund0 : (bitLen m : Int) - 1 + e < -1022
          · refine SCmp.yes (decide_eq_true (by omega)) ?_
            refine SWrap.i64z 3 (by decide) (by omega) ?_
            rw [hsm, if_pos rfl, if_pos (hund.1 hund0)]
            by_cases hw2 : 4503599627370496 ≤ (v + 1)
            · refine SCmp.yes (decide_eq_true (by omega)) ?_
              refine SWrap.i64z ((t + 1 : Nat) : Int) (by omega) (by omega) ?_
              refine SWrap.i64z ((t : Nat) : Int) (by omega) (by omega) ?_
              refine SWrap.u64z (t) (by omega) (by omega) ?_
              refine SGe.mk (by decide) ?_
              refine SWrap.u64z (t * 4503599627370496) (by show ((t : Nat) : Int) * 4503599627370496 = _; omega) (by omega) ?_
              refine SWrap.u64z ((v + 1) + t * 4503599627370496) (by omega) (by omega) ?_
              refine SCall.pure (signed_ok ((v + 1) + t * 4503599627370496) (by omega) neg) ?_
              exact SRet.pure (.tup rfl fun i c d e1 e2 => by
                match i, e1, e2 with
                | 0, e1, e2 => cases e1; cases e2; exact .p _ (.int _ _)
                | 1, e1, e2 => cases e1; cases e2; exact .p _ (.int _ _))
            · refine SCmp.no (decide_eq_false (by omega)) ?_
              have hT0 : (v + 1) + t * 4503599627370496 = (v + 1) := by omega
              rw [hT0]
              refine SCall.pure (signed_ok ((v + 1)) (by omega) neg) ?_
              exact SRet.pure (.tup rfl fun i c d e1 e2 => by
                match i, e1, e2 with
                | 0, e1, e2 => cases e1; cases e2; exact .p _ (.int _ _)
                | 1, e1, e2 => cases e1; cases e2; exact .p _ (.int _ _))
          · refine SCmp.no (decide_eq_false (by omega)) ?_
            rw [hsm, if_pos rfl, if_neg (mt hund.2 hund0)]
            by_cases hw2 : 4503599627370496 ≤ (v + 1)
            · refine SCmp.yes (decide_eq_true (by omega)) ?_
              refine SWrap.i64z ((t + 1 : Nat) : Int) (by omega) (by omega) ?_
              refine SWrap.i64z ((t : Nat) : Int) (by omega) (by omega) ?_
              refine SWrap.u64z (t) (by omega) (by omega) ?_
              refine SGe.mk (by decide) ?_
              refine SWrap.u64z (t * 4503599627370496) (by show ((t : Nat) : Int) * 4503599627370496 = _; omega) (by omega) ?_
              refine SWrap.u64z ((v + 1) + t * 4503599627370496) (by omega) (by omega) ?_
              refine SCall.pure (signed_ok ((v + 1) + t * 4503599627370496) (by omega) neg) ?_
              exact SRet.pure (.tup rfl fun i c d e1 e2 => by
                match i, e1, e2 with
                | 0, e1, e2 => cases e1; cases e2; exact .p _ (.int _ _)
                | 1, e1, e2 => cases e1; cases e2; exact .p _ (.int _ _))
            · refine SCmp.no (decide_eq_false (by omega)) ?_
              have hT0 : (v + 1) + t * 4503599627370496 = (v + 1) := by omega
              rw [hT0]
              refine SCall.pure (signed_ok ((v + 1)) (by omega) neg) ?_
              exact SRet.pure (.tup rfl fun i c d e1 e2 => by
                match i, e1, e2 with
                | 0, e1, e2 => cases e1; cases e2; exact .p _ (.int _ _)
                | 1, e1, e2 => cases e1; cases e2; exact .p _ (.int _ _))
        · rw [hsm, if_neg Bool.false_ne_true]
          by_cases hw2 : 4503599627370496 ≤ (v + 1)
          · refine SCmp.yes (decide_eq_true (by omega)) ?_
            refine SWrap.i64z ((t + 1 : Nat) : Int) (by omega) (by omega) ?_
            refine SWrap.i64z ((t : Nat) : Int) (by omega) (by omega) ?_
            refine SWrap.u64z (t) (by omega) (by omega) ?_
            refine SGe.mk (by decide) ?_
            refine SWrap.u64z (t * 4503599627370496) (by show ((t : Nat) : Int) * 4503599627370496 = _; omega) (by omega) ?_
            refine SWrap.u64z ((v + 1) + t * 4503599627370496) (by omega) (by omega) ?_
            refine SCall.pure (signed_ok ((v + 1) + t * 4503599627370496) (by omega) neg) ?_
            exact SRet.pure (.tup rfl fun i c d e1 e2 => by
              match i, e1, e2 with
              | 0, e1, e2 => cases e1; cases e2; exact .p _ (.int _ _)
              | 1, e1, e2 => cases e1; cases e2; exact .p _ (.int _ _))
          · refine SCmp.no (decide_eq_false (by omega)) ?_
            have hT0 : (v + 1) + t * 4503599627370496 = (v + 1) := by omega
            rw [hT0]
            refine SCall.pure (signed_ok ((v + 1)) (by omega) neg) ?_
            exact SRet.pure (.tup rfl fun i c d e1 e2 => by
              match i, e1, e2 with
              | 0, e1, e2 => cases e1; cases e2; exact .p _ (.int _ _)
              | 1, e1, e2 => cases e1; cases e2; exact .p _ (.int _ _))
  · rw [hg, if_neg Bool.false_ne_true] at hu
    by_cases htop : v = 9007199254740992
    · refine SCmp.yes (eqT (by omega)) ?_
      refine SWrap.i64z (((t + 1 : Nat) : Int) - 1074) (by omega) (by omega) ?_
      have hupc : upc neg (v + t * 4503599627370496) sm half mode = 4503599627370496 + (t + 1) * 4503599627370496 := by omega
      refine SCmp.yes (decide_eq_true (by omega)) ?_
      refine SWrap.i64z (((t + 1 : Nat) : Int) - 1022) (by omega) (by omega) ?_
      by_cases hT : 2046 ≤ t + 1
      · refine SCmp.yes (decide_eq_true (by omega)) ?_
        rw [out_over (by omega)]
        refine SCall.pureT (beyond_ok neg mode) (fun _ => rfl) ?_
        exact SRet.pure (.tup rfl fun i c d e1 e2 => by
          match i, e1, e2 with
          | 0, e1, e2 => cases e1; cases e2; exact .p _ (.int _ _)
          | 1, e1, e2 => cases e1; cases e2; exact .p _ (.int _ _))
      · refine SCmp.no (decide_eq_false (by omega)) ?_
        rw [out_fin (by omega), hupc]
        refine SCond.mk (fun hsm => ?_) (fun hsm => ?_)
        · by_cases hund0 : (bitLen m : Int) - 1 + e < -1022
          · refine SCmp.yes (decide_eq_true (by omega)) ?_
            refine SWrap.i64z 3 (by decide) (by omega) ?_
            rw [hsm, if_pos rfl, if_pos (hund.1 hund0)]
            by_cases hw2 : 4503599627370496 ≤ 4503599627370496
            · refine SCmp.yes (decide_eq_true (by omega)) ?_
              refine SWrap.i64z (((t + 1) + 1 : Nat) : Int) (by omega) (by omega) ?_
              refine SWrap.i64z (((t + 1) : Nat) : Int) (by omega) (by omega) ?_
              refine SWrap.u64z ((t + 1)) (by omega) (by omega) ?_
              refine SGe.mk (by decide) ?_
              refine SWrap.u64z ((t + 1) * 4503599627370496) (by show (((t + 1) : Nat) : Int) * 4503599627370496 = _; omega) (by omega) ?_
              refine SWrap.u64z (4503599627370496 + (t + 1) * 4503599627370496) (by omega) (by omega) ?_
              refine SCall.pure (signed_ok (4503599627370496 + (t + 1) * 4503599627370496) (by omega) neg) ?_
              exact SRet.pure (.tup rfl fun i c d e1 e2 => by
                match i, e1, e2 with
                | 0, e1, e2 => cases e1; cases e2; exact .p _ (.int _ _)
                | 1, e1, e2 => cases e1; cases e2; exact .p _ (.int _ _))
            · refine SCmp.no (decide_eq_false (by omega)) ?_
              have hT0 : 4503599627370496 + (t + 1) * 4503599627370496 = 4503599627370496 := by omega
              rw [hT0]
              refine SCall.pure (signed_ok (4503599627370496) (by omega) neg) ?_
              exact SRet.pure (.tup rfl fun i c d e1 e2 => by
                match i, e1, e2 with
                | 0, e1, e2 => cases e1; cases e2; exact .p _ (.int _ _)
                | 1, e1, e2 => cases e1; cases e2; exact .p _ (.int _ _))
          · refine SCmp.no (decide_eq_false (by omega)) ?_
            rw [hsm, if_pos rfl, if_neg (mt hund.2 hund0)]
            by_cases hw2 : 4503599627370496 ≤ 4503599627370496
            · refine SCmp.yes (decide_eq_true (by omega)) ?_
              refine SWrap.i64z (((t + 1) + 1 : Nat) : Int) (by omega) (by omega) ?_
              refine SWrap.i64z (((t + 1) : Nat) : Int) (by omega) (by omega) ?_
              refine SWrap.u64z ((t + 1)) (by omega) (by omega) ?_
              refine SGe.mk (by decide) ?_
              refine SWrap.u64z ((t + 1) * 4503599627370496) (by show (((t + 1) : Nat) : Int) * 4503599627370496 = _; omega) (by omega) ?_
              refine SWrap.u64z (4503599627370496 + (t + 1) * 4503599627370496) (by omega) (by omega) ?_
              refine SCall.pure (signed_ok (4503599627370496 + (t + 1) * 4503599627370496) (by omega) neg) ?_
              exact SRet.pure (.tup rfl fun i c d e1 e2 => by
                match i, e1, e2 with
                | 0, e1, e2 => cases e1; cases e2; exact .p _ (.int _ _)
                | 1, e1, e2 => cases e1; cases e2; exact .p _ (.int _ _))
            · refine SCmp.no (decide_eq_false (by omega)) ?_
              have hT0 : 4503599627370496 + (t + 1) * 4503599627370496 = 4503599627370496 := by omega
              rw [hT0]
              refine SCall.pure (signed_ok (4503599627370496) (by omega) neg) ?_
              exact SRet.pure (.tup rfl fun i c d e1 e2 => by
                match i, e1, e2 with
                | 0, e1, e2 => cases e1; cases e2; exact .p _ (.int _ _)
                | 1, e1, e2 => cases e1; cases e2; exact .p _ (.int _ _))
        · rw [hsm, if_neg Bool.false_ne_true]
          by_cases hw2 : 4503599627370496 ≤ 4503599627370496
          · refine SCmp.yes (decide_eq_true (by omega)) ?_
            refine SWrap.i64z (((t + 1) + 1 : Nat) : Int) (by omega) (by omega) ?_
            refine SWrap.i64z (((t + 1) : Nat) : Int) (by omega) (by omega) ?_
            refine SWrap.u64z ((t + 1)) (by omega) (by omega) ?_
            refine SGe.mk (by decide) ?_
            refine SWrap.u64z ((t + 1) * 4503599627370496) (by show (((t + 1) : Nat) : Int) * 4503599627370496 = _; omega) (by omega) ?_
            refine SWrap.u64z (4503599627370496 + (t + 1) * 4503599627370496) (by omega) (by omega) ?_
            refine SCall.pure (signed_ok (4503599627370496 + (t + 1) * 4503599627370496) (by omega) neg) ?_
            exact SRet.pure (.tup rfl fun i c d e1 e2 => by
              match i, e1, e2 with
              | 0, e1, e2 => cases e1; cases e2; exact .p _ (.int _ _)
              | 1, e1, e2 => cases e1; cases e2; exact .p _ (.int _ _))
          · refine SCmp.no (decide_eq_false (by omega)) ?_
            have hT0 : 4503599627370496 + (t + 1) * 4503599627370496 = 4503599627370496 := by omega
            rw [hT0]
            refine SCall.pure (signed_ok (4503599627370496) (by omega) neg) ?_
            exact SRet.pure (.tup rfl fun i c d e1 e2 => by
              match i, e1, e2 with
              | 0, e1, e2 => cases e1; cases e2; exact .p _ (.int _ _)
              | 1, e1, e2 => cases e1; cases e2; exact .p _ (.int _ _))
    · refine SCmp.no (eqF (by omega)) ?_
      have hupc : upc neg (v + t * 4503599627370496) sm half mode = v + t * 4503599627370496 := by omega
      by_cases hw : 4503599627370496 ≤ v
      · refine SCmp.yes (decide_eq_true (by omega)) ?_
        refine SWrap.i64z ((t : Int) - 1022) (by omega) (by omega) ?_
        by_cases hT : 2046 ≤ t
        · refine SCmp.yes (decide_eq_true (by omega)) ?_
          rw [out_over (by omega)]
          refine SCall.pureT (beyond_ok neg mode) (fun _ => rfl) ?_
          exact SRet.pure (.tup rfl fun i c d e1 e2 => by
            match i, e1, e2 with
            | 0, e1, e2 => cases e1; cases e2; exact .p _ (.int _ _)
            | 1, e1, e2 => cases e1; cases e2; exact .p _ (.int _ _))
        · refine SCmp.no (decide_eq_false (by omega)) ?_
          rw [out_fin (by omega), hupc]
          refine SCond.mk (fun hsm => ?_) (fun hsm => ?_)
          · by_cases hund0 : (bitLen m : Int) - 1 + e < -1022
            · refine SCmp.yes (decide_eq_true (by omega)) ?_
              refine SWrap.i64z 3 (by decide) (by omega) ?_
              rw [hsm, if_pos rfl, if_pos (hund.1 hund0)]
              by_cases hw2 : 4503599627370496 ≤ v
              · refine SCmp.yes (decide_eq_true (by omega)) ?_
                refine SWrap.i64z ((t + 1 : Nat) : Int) (by omega) (by omega) ?_
                refine SWrap.i64z ((t : Nat) : Int) (by omega) (by omega) ?_
                refine SWrap.u64z (t) (by omega) (by omega) ?_
                refine SGe.mk (by decide) ?_
                refine SWrap.u64z (t * 4503599627370496) (by show ((t : Nat) : Int) * 4503599627370496 = _; omega) (by omega) ?_
                refine SWrap.u64z (v + t * 4503599627370496) (by omega) (by omega) ?_
                refine SCall.pure (signed_ok (v + t * 4503599627370496) (by omega) neg) ?_
                exact SRet.pure (.tup rfl fun i c d e1 e2 => by
                  match i, e1, e2 with
                  | 0, e1, e2 => cases e1; cases e2; exact .p _ (.int _ _)
                  | 1, e1, e2 => cases e1; cases e2; exact .p _ (.int _ _))
              · refine SCmp.no (decide_eq_false (by omega)) ?_
                have hT0 : v + t * 4503599627370496 = v := by omega
                rw [hT0]
                refine SCall.pure (signed_ok (v) (by omega) neg) ?_
                exact SRet.pure (.tup rfl fun i c d e1 e2 => by
                  match i, e1, e2 with
                  | 0, e1, e2 => cases e1; cases e2; exact .p _ (.int _ _)
                  | 1, e1, e2 => cases e1; cases e2; exact .p _ (.int _ _))
            · refine SCmp.no (decide_eq_false (by omega)) ?_
              rw [hsm, if_pos rfl, if_neg (mt hund.2 hund0)]
              by_cases hw2 : 4503599627370496 ≤ v
              · refine SCmp.yes (decide_eq_true (by omega)) ?_
                refine SWrap.i64z ((t + 1 : Nat) : Int) (by omega) (by omega) ?_
                refine SWrap.i64z ((t : Nat) : Int) (by omega) (by omega) ?_
                refine SWrap.u64z (t) (by omega) (by omega) ?_
                refine SGe.mk (by decide) ?_
                refine SWrap.u64z (t * 4503599627370496) (by show ((t : Nat) : Int) * 4503599627370496 = _; omega) (by omega) ?_
                refine SWrap.u64z (v + t * 4503599627370496) (by omega) (by omega) ?_
                refine SCall.pure (signed_ok (v + t * 4503599627370496) (by omega) neg) ?_
                exact SRet.pure (.tup rfl fun i c d e1 e2 => by
                  match i, e1, e2 with
                  | 0, e1, e2 => cases e1; cases e2; exact .p _ (.int _ _)
                  | 1, e1, e2 => cases e1; cases e2; exact .p _ (.int _ _))
              · refine SCmp.no (decide_eq_false (by omega)) ?_
                have hT0 : v + t * 4503599627370496 = v := by omega
                rw [hT0]
                refine SCall.pure (signed_ok (v) (by omega) neg) ?_
                exact SRet.pure (.tup rfl fun i c d e1 e2 => by
                  match i, e1, e2 with
                  | 0, e1, e2 => cases e1; cases e2; exact .p _ (.int _ _)
                  | 1, e1, e2 => cases e1; cases e2; exact .p _ (.int _ _))
          · rw [hsm, if_neg Bool.false_ne_true]
            by_cases hw2 : 4503599627370496 ≤ v
            · refine SCmp.yes (decide_eq_true (by omega)) ?_
              refine SWrap.i64z ((t + 1 : Nat) : Int) (by omega) (by omega) ?_
              refine SWrap.i64z ((t : Nat) : Int) (by omega) (by omega) ?_
              refine SWrap.u64z (t) (by omega) (by omega) ?_
              refine SGe.mk (by decide) ?_
              refine SWrap.u64z (t * 4503599627370496) (by show ((t : Nat) : Int) * 4503599627370496 = _; omega) (by omega) ?_
              refine SWrap.u64z (v + t * 4503599627370496) (by omega) (by omega) ?_
              refine SCall.pure (signed_ok (v + t * 4503599627370496) (by omega) neg) ?_
              exact SRet.pure (.tup rfl fun i c d e1 e2 => by
                match i, e1, e2 with
                | 0, e1, e2 => cases e1; cases e2; exact .p _ (.int _ _)
                | 1, e1, e2 => cases e1; cases e2; exact .p _ (.int _ _))
            · refine SCmp.no (decide_eq_false (by omega)) ?_
              have hT0 : v + t * 4503599627370496 = v := by omega
              rw [hT0]
              refine SCall.pure (signed_ok (v) (by omega) neg) ?_
              exact SRet.pure (.tup rfl fun i c d e1 e2 => by
                match i, e1, e2 with
                | 0, e1, e2 => cases e1; cases e2; exact .p _ (.int _ _)
                | 1, e1, e2 => cases e1; cases e2; exact .p _ (.int _ _))
      · refine SCmp.no (decide_eq_false (by omega)) ?_
        rw [out_fin (by omega), hupc]
        refine SCond.mk (fun hsm => ?_) (fun hsm => ?_)
        · by_cases hund0 : (bitLen m : Int) - 1 + e < -1022
          · refine SCmp.yes (decide_eq_true (by omega)) ?_
            refine SWrap.i64z 3 (by decide) (by omega) ?_
            rw [hsm, if_pos rfl, if_pos (hund.1 hund0)]
            by_cases hw2 : 4503599627370496 ≤ v
            · refine SCmp.yes (decide_eq_true (by omega)) ?_
              refine SWrap.i64z ((t + 1 : Nat) : Int) (by omega) (by omega) ?_
              refine SWrap.i64z ((t : Nat) : Int) (by omega) (by omega) ?_
              refine SWrap.u64z (t) (by omega) (by omega) ?_
              refine SGe.mk (by decide) ?_
              refine SWrap.u64z (t * 4503599627370496) (by show ((t : Nat) : Int) * 4503599627370496 = _; omega) (by omega) ?_
              refine SWrap.u64z (v + t * 4503599627370496) (by omega) (by omega) ?_
              refine SCall.pure (signed_ok (v + t * 4503599627370496) (by omega) neg) ?_
              exact SRet.pure (.tup rfl fun i c d e1 e2 => by
                match i, e1, e2 with
                | 0, e1, e2 => cases e1; cases e2; exact .p _ (.int _ _)
                | 1, e1, e2 => cases e1; cases e2; exact .p _ (.int _ _))
            · refine SCmp.no (decide_eq_false (by omega)) ?_
              have hT0 : v + t * 4503599627370496 = v := by omega
              rw [hT0]
              refine SCall.pure (signed_ok (v) (by omega) neg) ?_
              exact SRet.pure (.tup rfl fun i c d e1 e2 => by
                match i, e1, e2 with
                | 0, e1, e2 => cases e1; cases e2; exact .p _ (.int _ _)
                | 1, e1, e2 => cases e1; cases e2; exact .p _ (.int _ _))
          · refine SCmp.no (decide_eq_false (by omega)) ?_
            rw [hsm, if_pos rfl, if_neg (mt hund.2 hund0)]
            by_cases hw2 : 4503599627370496 ≤ v
            · refine SCmp.yes (decide_eq_true (by omega)) ?_
              refine SWrap.i64z ((t + 1 : Nat) : Int) (by omega) (by omega) ?_
              refine SWrap.i64z ((t : Nat) : Int) (by omega) (by omega) ?_
              refine SWrap.u64z (t) (by omega) (by omega) ?_
              refine SGe.mk (by decide) ?_
              refine SWrap.u64z (t * 4503599627370496) (by show ((t : Nat) : Int) * 4503599627370496 = _; omega) (by omega) ?_
              refine SWrap.u64z (v + t * 4503599627370496) (by omega) (by omega) ?_
              refine SCall.pure (signed_ok (v + t * 4503599627370496) (by omega) neg) ?_
              exact SRet.pure (.tup rfl fun i c d e1 e2 => by
                match i, e1, e2 with
                | 0, e1, e2 => cases e1; cases e2; exact .p _ (.int _ _)
                | 1, e1, e2 => cases e1; cases e2; exact .p _ (.int _ _))
            · refine SCmp.no (decide_eq_false (by omega)) ?_
              have hT0 : v + t * 4503599627370496 = v := by omega
              rw [hT0]
              refine SCall.pure (signed_ok (v) (by omega) neg) ?_
              exact SRet.pure (.tup rfl fun i c d e1 e2 => by
                match i, e1, e2 with
                | 0, e1, e2 => cases e1; cases e2; exact .p _ (.int _ _)
                | 1, e1, e2 => cases e1; cases e2; exact .p _ (.int _ _))
        · rw [hsm, if_neg Bool.false_ne_true]
          by_cases hw2 : 4503599627370496 ≤ v
          · refine SCmp.yes (decide_eq_true (by omega)) ?_
            refine SWrap.i64z ((t + 1 : Nat) : Int) (by omega) (by omega) ?_
            refine SWrap.i64z ((t : Nat) : Int) (by omega) (by omega) ?_
            refine SWrap.u64z (t) (by omega) (by omega) ?_
            refine SGe.mk (by decide) ?_
            refine SWrap.u64z (t * 4503599627370496) (by show ((t : Nat) : Int) * 4503599627370496 = _; omega) (by omega) ?_
            refine SWrap.u64z (v + t * 4503599627370496) (by omega) (by omega) ?_
            refine SCall.pure (signed_ok (v + t * 4503599627370496) (by omega) neg) ?_
            exact SRet.pure (.tup rfl fun i c d e1 e2 => by
              match i, e1, e2 with
              | 0, e1, e2 => cases e1; cases e2; exact .p _ (.int _ _)
              | 1, e1, e2 => cases e1; cases e2; exact .p _ (.int _ _))
          · refine SCmp.no (decide_eq_false (by omega)) ?_
            have hT0 : v + t * 4503599627370496 = v := by omega
            rw [hT0]
            refine SCall.pure (signed_ok (v) (by omega) neg) ?_
            exact SRet.pure (.tup rfl fun i c d e1 e2 => by
              match i, e1, e2 with
              | 0, e1, e2 => cases e1; cases e2; exact .p _ (.int _ _)
              | 1, e1, e2 => cases e1; cases e2; exact .p _ (.int _ _))
theorem round_ok (neg : Bool) (m : Nat) (e : Int) (more : Bool) (mode : Int) {X : Rat} (hm : m ≠ 0) (hmb : bitLen m ≤ 262144) (he : -262144 ≤ e ∧ e ≤ 262144) (h1 : (m : Rat) * p2 e ≤ X) (h2 : X < ((m : Rat) + 1) * p2 e)
    (hmore : more = decide (X ≠ (m : Rat) * p2 e)) (hbig : more = true → 54 ≤ bitLen m) :
    CallP Tryz.prog 141 [numP neg m e more, .int .i64 mode] (fpair (rndQ neg X mode)) [] := by
  have hnm := nlen_bitLen m
  have hbl0 : bitLen m ≠ 0 := mt bitLen_zero_iff.1 hm
  obtain ⟨A, hA⟩ : ∃ A, A = ulpOf m e := ⟨_, rfl⟩
  have hA' := hA
  rw [ulpOf] at hA'
  obtain ⟨v, t, sm, half, hq, hrest, ht, hv, hvt, hcut, hund⟩ : ∃ (v t : Nat) (sm : Bool) (half : Int), (if A - e < 0 then m * 2 ^ (e - A).toNat else m / 2 ^ (A - e).toNat) = v ∧
      CallP Tryz.prog 178 [numP neg m e more, natP (m / 2 ^ (max (A - e) 0).toNat), .int .i64 (A - e)] (.p (partP sm half)) [] ∧
      A = (t : Int) - 1074 ∧ v < 9007199254740992 ∧ (4503599627370496 ≤ v ∨ t = 0) ∧ Cut X (v + t * 4503599627370496) sm half ∧ ((bitLen m : Int) - 1 + e < -1022 ↔ v + t * 4503599627370496 < 4503599627370496) := by
    rcases Int.lt_or_le e A with h | h
    · obtain ⟨v, t, e1, e2, e3, e4, e5, e6⟩ := cut_more (k := (A - e).toNat) hm (by rw [← hA]; exact h) h1 h2 hmore (by rw [hA])
      refine ⟨v, t, _, _, ?_, ?_, by rw [hA]; exact e2, e3, e4, e5, e6⟩
      · rw [if_neg (by omega)]; exact e1.symm
      · have := rest_ok false neg m e (A - e).toNat more (by omega) (by omega) (by omega)
        rw [show ((A - e).toNat : Int) = A - e by omega] at this
        rw [show (max (A - e) 0).toNat = (A - e).toNat by omega]
        exact this
    · have hmr : more = false := by
        cases more with
        | false => rfl
        | true => have := hbig rfl; omega
      have hX : X = (m : Rat) * p2 e := by rw [hmr] at hmore; exact Classical.not_not.1 (of_decide_eq_false hmore.symm)
      obtain ⟨v, t, e1, e2, e3, e4, e5, e6⟩ := cut_exact hm (by rw [← hA]; exact h)
      rw [← hX] at e5
      refine ⟨v, t, _, _, ?_, ?_, by rw [hA]; exact e2, e3, e4, e5, e6⟩
      · rcases Int.lt_or_le (A - e) 0 with h3 | h3
        · rw [if_pos h3, e1, hA]
        · rw [if_neg (by omega), e1, ← hA, show (A - e).toNat = 0 by omega, show (e - A).toNat = 0 by omega]; simp
      · have := rest0_ok false neg m (m / 2 ^ (max (A - e) 0).toNat) e (A - e) more (by omega)
        rw [hmr] at this ⊢
        exact this
  rw [← hcut.out]
  by_cases hk : A - e < 0
  · exact round_neg hm hmb he hA' hk (by rw [if_pos hk] at hq; exact hq) hrest ht hv hvt hund
  · exact round_pos hm hmb he hA' hk (by rw [if_neg hk] at hq; exact hq) hrest ht hv hvt hund
end Go.Proofs.YtnilcfiemgmfdaaGreat
namespace Go.Proofs.YtnilcfiemgmfdaaGreat
open Go
set_option linter.unusedVariables false
set_option linter.unusedSimpArgs false
set_option maxRecDepth 10000
theorem rat_parts (q : Rat) : q = (q.num : Rat) / (q.den : Rat) := by
  have : (q.num : Rat) / ((q.den : Int) : Rat) = q := by rw [← Rat.divInt_eq_div]; exact Rat.num_divInt_den q
  exact this.symm
theorem den_posQ (q : Rat) : (0 : Rat) < (q.den : Rat) := by have := q.den_pos; exact_mod_cast this
theorem natAbs_cast_pos {z : Int} (h : 0 ≤ z) : ((z.natAbs : Nat) : Rat) = (z : Rat) := by
  have : ((z.natAbs : Nat) : Int) = z := by omega
  have h2 : (((z.natAbs : Nat) : Int) : Rat) = (z : Rat) := by rw [this]
  exact h2
theorem natAbs_cast_neg {z : Int} (h : z ≤ 0) : ((z.natAbs : Nat) : Rat) = -(z : Rat) := by
  have : ((z.natAbs : Nat) : Int) = -z := by omega
  have h2 : (((z.natAbs : Nat) : Int) : Rat) = ((-z : Int) : Rat) := by rw [this]
  rw [Rat.intCast_neg] at h2
  exact h2
theorem num_neg_iff {q : Rat} : q.num < 0 ↔ q < 0 := by rw [← Int.not_le, Rat.num_nonneg, Rat.not_le]
theorem abs_parts (q : Rat) : q.abs = ((q.num.natAbs : Nat) : Rat) / (q.den : Rat) := by
  rw [Rat.abs]
  split
  · rename_i h
    rw [natAbs_cast_pos (Rat.num_nonneg.2 h)]
    exact rat_parts q
  · rename_i h
    have h2 : q.num < 0 := num_neg_iff.2 (Rat.not_le.1 h)
    rw [natAbs_cast_neg (by omega)]
    have := rat_parts q
    have h3 := den_posQ q
    generalize (q.num : Rat) = x at *
    generalize (q.den : Rat) = y at *
    rw [this]; grind
theorem mkQ_val {neg : Bool} {n d : Nat} : mkQ neg n d = if neg then -((n : Rat) / (d : Rat)) else (n : Rat) / (d : Rat) := by
  rw [mkQ, Rat.mkRat_eq_div]
  cases neg with
  | true =>
    rw [sgn, if_pos rfl, if_pos rfl, Rat.intCast_neg]
    show -(n : Rat) / (d : Rat) = _
    grind
  | false => rfl
theorem over_cut {n d : Nat} (hn : n ≠ 0) (hd : d ≠ 0) (e : Int) {k : Nat} (hk : 66 + bitLen d ≤ bitLen n + k) :
    n * 2 ^ k / d ≠ 0 ∧ ((n * 2 ^ k / d : Nat) : Rat) * p2 (e - k) ≤ (n : Rat) / (d : Rat) * p2 e ∧ (n : Rat) / (d : Rat) * p2 e < (((n * 2 ^ k / d : Nat) : Rat) + 1) * p2 (e - k) ∧
    decide (n * 2 ^ k % d ≠ 0) = decide ((n : Rat) / (d : Rat) * p2 e ≠ ((n * 2 ^ k / d : Nat) : Rat) * p2 (e - k)) ∧ 54 ≤ bitLen (n * 2 ^ k / d) := by
  obtain ⟨m, hm⟩ : ∃ m, m = n * 2 ^ k / d := ⟨_, rfl⟩
  obtain ⟨r, hr⟩ : ∃ r, r = n * 2 ^ k % d := ⟨_, rfl⟩
  have hdm : d * m + r = n * 2 ^ k := by rw [hm, hr]; exact Nat.div_add_mod _ _
  have hrd : r < d := by rw [hr]; exact Nat.mod_lt _ (by omega)
  have hbn := bitLen_pos hn
  have hbd := bitLen_lt d
  have hbn0 : bitLen n ≠ 0 := mt bitLen_zero_iff.1 hn
  have hbig : 2 ^ 65 ≤ m := by
    rw [hm, Nat.le_div_iff_mul_le (by omega)]
    have h1 : 2 ^ (bitLen n - 1) * 2 ^ k ≤ n * 2 ^ k := Nat.mul_le_mul_right _ hbn
    have h2 : 2 ^ (65 + bitLen d) ≤ 2 ^ (bitLen n - 1) * 2 ^ k := by rw [← Nat.pow_add]; exact Nat.pow_le_pow_right (by omega) (by omega)
    have h3 : 2 ^ 65 * d ≤ 2 ^ 65 * 2 ^ bitLen d := Nat.mul_le_mul_left _ (by omega)
    rw [Nat.pow_add] at h2
    omega
  rw [← hm, ← hr]
  have hm0 : m ≠ 0 := by have : 0 < 2 ^ 65 := by decide
                         omega
  have hb54 : 54 ≤ bitLen m := by
    rcases Nat.lt_or_ge (bitLen m) 54 with h | h
    · have h1 := bitLen_lt m
      have h2 : 2 ^ bitLen m ≤ 2 ^ 65 := Nat.pow_le_pow_right (by omega) (by omega)
      omega
    · exact h
  have hdq : (0 : Rat) < (d : Rat) := by have : 0 < d := by omega
                                         exact_mod_cast this
  have hu := p2_pos (e - k)
  have hpe : p2 e = p2 (e - k) * ((2 ^ k : Nat) : Rat) := by have := p2_add_nat (e - k) k; rwa [show e - (k : Int) + k = e by omega] at this
  have hq : (n : Rat) * ((2 ^ k : Nat) : Rat) = (d : Rat) * (m : Rat) + (r : Rat) := by rw [← Rat.natCast_mul, ← hdm, Rat.natCast_add, Rat.natCast_mul]
  obtain ⟨s, hs⟩ : ∃ s : Rat, s = (r : Rat) / (d : Rat) := ⟨_, rfl⟩
  have hs1 : s * (d : Rat) = (r : Rat) := by rw [hs]; exact Rat.div_mul_cancel (by grind)
  have hs0 : 0 ≤ s := by
    rcases Rat.le_total (a := 0) (b := s) with h | h
    · exact h
    · have hr0 : (0 : Rat) ≤ (r : Rat) := by exact_mod_cast Nat.zero_le r
      have := Rat.mul_nonneg (show 0 ≤ -s by grind) (show 0 ≤ (d : Rat) by grind)
      by_cases h2 : s = 0
      · rw [h2]; exact Rat.le_refl
      · have := Rat.mul_pos (show 0 < -s by grind) hdq
        grind
  have hs2 : s < 1 := by
    have hrq : (r : Rat) < (d : Rat) := natq_lt.2 hrd
    by_cases h : s < 1
    · exact h
    · have := mul_le_q (Rat.not_lt.1 h) hdq
      grind
  have hX : (n : Rat) / (d : Rat) * p2 e = ((m : Rat) + s) * p2 (e - k) := by
    have h1 : (n : Rat) / (d : Rat) * ((2 ^ k : Nat) : Rat) = (m : Rat) + s := by
      have h2 : (n : Rat) / (d : Rat) * (d : Rat) = (n : Rat) := Rat.div_mul_cancel (by grind)
      generalize (n : Rat) / (d : Rat) = y at h2 ⊢
      generalize ((2 ^ k : Nat) : Rat) = z at hq ⊢
      have : (y * z - ((m : Rat) + s)) * (d : Rat) = 0 := by rw [← h2] at hq; grind
      rcases Rat.mul_eq_zero.1 this with h | h
      · grind
      · grind
    rw [hpe, ← h1]; grind
  rw [hX]
  refine ⟨hm0, ?_, ?_, ?_, hb54⟩
  · have := Rat.mul_nonneg hs0 (show 0 ≤ p2 (e - k) by grind)
    grind
  · have := mul_lt_q hs2 hu
    grind
  · by_cases h : r = 0
    · subst h
      have : s = 0 := by rw [hs]; simp; grind
      rw [this, decide_eq_false (by simp), decide_eq_false (by simp; grind)]
    · rw [decide_eq_true h]
      symm
      refine decide_eq_true ?_
      intro h2
      have hr0 : (0 : Rat) < (r : Rat) := by
        have : 0 < r := by omega
        exact_mod_cast this
      have hsp : 0 < s := by
        rcases Rat.le_iff_lt_or_eq.1 hs0 with h | h
        · exact h
        · rw [← h] at hs1; grind
      have := mul_pos_q hsp hu
      grind
theorem fover_ok (neg : Bool) (m m' : Bool) (n d : Nat) (e : Int) (hd : d ≠ 0) (hn : bitLen n ≤ 131072) (hdb : bitLen d ≤ 65536) (he : -262144 ≤ e ∧ e ≤ 262144) {k : Nat} (hk : k = (66 + (bitLen d : Int) - bitLen n).toNat) :
    CallP Tryz.prog 140 [.bool neg, natM m n, natM m' d, .int .i64 e] (.p (numP neg (n * 2 ^ k / d) (e - k) (decide (n * 2 ^ k % d ≠ 0)))) [] := by
  refine callG_of_vc (wr := wr0) Γok mixed Tryz.func140 (by kernel_rfl) rfl (by kernel_rfl) (le_of_ble rfl) (by simp) ?_
  have hnn := nlen_bitLen n
  have hnd := nlen_bitLen d
  have hs := nlen_shl n k
  refine SCall.pure (nbits_ok m' d (by omega)) ?_
  refine SWrap.i64z (66 + (bitLen d : Int)) rfl (by omega) ?_
  refine SCall.pure (nbits_ok m n (by omega)) ?_
  refine SWrap.i64z (66 + (bitLen d : Int) - bitLen n) rfl (by omega) ?_
  refine SZ.mk (k : Int) ((max_ite _ _).trans (by omega)) ?_
  refine SCall.pure (fshl_ok m n k (by omega) (by omega)) ?_
  have hdiv := div_ok false m' (n * 2 ^ k) d (by omega) (by omega)
  rw [if_neg hd] at hdiv
  refine SCall.pureT (hdiv) (fun _ => rfl) ?_
  refine SWrap.i64z (e - k) rfl (by omega) ?_
  have hlr : (nl (n * 2 ^ k % d)).length = nlen (n * 2 ^ k % d) := rfl
  refine SZ.mk (nlen (n * 2 ^ k % d) : Int) (by simp [hlr]) ?_
  by_cases h0 : n * 2 ^ k % d = 0
  · have := nlen_zero_iff.2 h0
    rw [decide_eq_false (show ¬ n * 2 ^ k % d ≠ 0 from fun h => h h0)]
    refine SCmp.no (decide_eq_false (by omega)) ?_
    exact SRet.pure (.p _ (pers_num _ _ _ _))
  · have := mt nlen_zero_iff.1 h0
    rw [decide_eq_true h0]
    refine SCmp.yes (decide_eq_true (by omega)) ?_
    exact SRet.pure (.p _ (pers_num _ _ _ _))
theorem over_bits {n d k : Nat} (hd : d ≠ 0) : bitLen (n * 2 ^ k / d) ≤ bitLen n + k := bitLen_le (by
  rw [Nat.div_lt_iff_lt_mul (by omega)]
  have h1 : n * 2 ^ k < 2 ^ bitLen n * 2 ^ k := Nat.mul_lt_mul_of_pos_right (bitLen_lt n) (Nat.two_pow_pos k)
  rw [← Nat.pow_add] at h1
  exact Nat.lt_of_lt_of_le h1 (Nat.le_mul_of_pos_right _ (by omega)))
/-- A quotient, rounded. -/
theorem round_over (neg : Bool) (n d : Nat) (e mode : Int) (hn0 : n ≠ 0) (hd : d ≠ 0) (hn : bitLen n ≤ 65536) (hdb : bitLen d ≤ 65536) (he : -131072 ≤ e ∧ e ≤ 131072) {k : Nat} (hk : k = (66 + (bitLen d : Int) - bitLen n).toNat) :
    CallP Tryz.prog 141 [numP neg (n * 2 ^ k / d) (e - k) (decide (n * 2 ^ k % d ≠ 0)), .int .i64 mode] (fpair (rndQ neg ((n : Rat) / (d : Rat) * p2 e) mode)) [] := by
  obtain ⟨h1, h2, h3, h4, h5⟩ := over_cut (k := k) hn0 hd e (by omega)
  have hb := over_bits (n := n) (k := k) hd
  exact round_ok neg _ _ _ mode h1 (by omega) (by omega) h2 h3 h4 fun _ => h5
/-- A number, rounded. -/
noncomputable def rS (q : Rat) (mode : Int) : Nat × Int := rndQ (decide (q.num < 0)) q.abs mode
noncomputable def ofF (q : Rat) (mode : Int) : Nat × Int := if q = 0 then (0, 0) else rS q mode
theorem sfof_ok (q : Rat) (mode : Int) {k : Nat} (hq : Bz q k) (hk : k ≤ 65536) : CallP Tryz.prog 68 [ratP q, .int .i64 mode] (fpair (ofF q mode)) [] := by
  refine callG_of_vc (wr := wr0) Γok mixed Tryz.func68 (by kernel_rfl) rfl (by kernel_rfl) (le_of_ble rfl) (by simp) ?_
  have hn := hq.1
  have hd := hq.2
  have hlr : (nl q.num.natAbs).length = nlen q.num.natAbs := rfl
  refine SZ.mk (nlen q.num.natAbs : Int) (by simp [hlr]) ?_
  by_cases h0 : q.num.natAbs = 0
  · have := nlen_zero_iff.2 h0
    have hq0 : q = 0 := Rat.num_eq_zero.1 (by omega)
    rw [ofF, if_pos hq0]
    refine SCmp.yes (eqT (by omega)) ?_
    exact SRet.pure (.tup rfl fun i c d e1 e2 => by
      match i, e1, e2 with
      | 0, e1, e2 => cases e1; cases e2; exact .p _ (.int _ _)
      | 1, e1, e2 => cases e1; cases e2; exact .p _ (.int _ _))
  · have := mt nlen_zero_iff.1 h0
    have hq0 : q ≠ 0 := fun h => h0 (by rw [h]; rfl)
    rw [ofF, if_neg hq0]
    refine SCmp.no (eqF (by omega)) ?_
    have hld : (nl q.den).length = nlen q.den := rfl
    have hdn := mt nlen_zero_iff.1 q.den_nz
    refine SZ.mk (nlen q.den : Int) (by simp [hld]) ?_
    refine SCmp.no (eqF (by omega)) ?_
    refine SCall.pure (fover_ok _ false false q.num.natAbs q.den 0 q.den_nz (by omega) (by omega) (by omega) rfl) ?_
    have := round_over (decide (q.num < 0)) q.num.natAbs q.den 0 mode h0 q.den_nz (by omega) (by omega) (by omega) rfl
    rw [p2_zero, Rat.mul_one, ← abs_parts] at this
    refine SCall.pureT (this) (fun _ => rfl) ?_
    exact SRet.pure (.tup rfl fun i c d e1 e2 => by
      match i, e1, e2 with
      | 0, e1, e2 => cases e1; cases e2; exact .p _ (.int _ _)
      | 1, e1, e2 => cases e1; cases e2; exact .p _ (.int _ _))
end Go.Proofs.YtnilcfiemgmfdaaGreat
namespace Go.Proofs.YtnilcfiemgmfdaaGreat
open Go
set_option linter.unusedVariables false
set_option linter.unusedSimpArgs false
set_option maxRecDepth 10000
/-- The number that a float says. -/
def fvq (f : Nat) : Rat := if ngt f then -fval (mag f) else fval (mag f)
theorem p2_frac (m : Nat) (e : Int) : ((m * 2 ^ e.toNat : Nat) : Rat) / ((2 ^ (-e).toNat : Nat) : Rat) = (m : Rat) * p2 e := by
  rcases Int.lt_or_le e 0 with h | h
  · obtain ⟨k, hk⟩ : ∃ k : Nat, e = -(k : Int) := ⟨(-e).toNat, by omega⟩
    rw [hk, p2_neg, show (-(k : Int)).toNat = 0 by omega, show (-(-(k : Int))).toNat = k by omega, Nat.pow_zero, Nat.mul_one]
    have := pow_posQ k
    generalize ((2 ^ k : Nat) : Rat) = x at *
    grind
  · obtain ⟨k, hk⟩ : ∃ k : Nat, e = (k : Int) := ⟨e.toNat, by omega⟩
    rw [hk, p2_ofNat, show ((k : Int)).toNat = k by omega, show (-(k : Int)).toNat = 0 by omega, Nat.pow_zero, Rat.natCast_mul]
    grind
theorem mkQ_fvq (f : Nat) : mkQ (ngt f) (fsig (mag f) * 2 ^ (fexp (mag f)).toNat) (2 ^ (-fexp (mag f)).toNat) = fvq f := by
  rw [mkQ_val, p2_frac]; rfl
theorem mag_lt (f : Nat) : mag f < 9223372036854775808 := Nat.mod_lt _ (by decide)
theorem fexp_le {c : Nat} (h : c < 9223372036854775808) : fexp c ≤ 972 := by unfold fexp; split <;> omega
theorem fsig_lt (c : Nat) : fsig c < 9007199254740992 := by unfold fsig; split <;> omega
theorem bits_shl (a k : Nat) : bitLen (a * 2 ^ k) ≤ bitLen a + k := bitLen_le (by
  rw [Nat.pow_add]; exact Nat.mul_lt_mul_of_pos_right (bitLen_lt a) (Nat.two_pow_pos k))
theorem bits_pow (k : Nat) : bitLen (2 ^ k) ≤ k + 1 := bitLen_le (Nat.pow_lt_pow_right (by omega) (by omega))
theorem fsig_bits (c : Nat) : bitLen (fsig c) ≤ 53 := bitLen_le (fsig_lt c)
theorem fn_bits (f : Nat) : bitLen (fsig (mag f) * 2 ^ (fexp (mag f)).toNat) ≤ 1030 := by
  have h1 := bits_shl (fsig (mag f)) (fexp (mag f)).toNat
  have h2 := fsig_bits (mag f)
  have h3 := fexp_le (mag_lt f)
  omega
theorem fd_bits (f : Nat) : bitLen (2 ^ (-fexp (mag f)).toNat) ≤ 1080 := by
  have h1 := bits_pow (-fexp (mag f)).toNat
  have h3 := fexp_ge (mag f)
  omega
theorem sfrat_ok (f : Nat) (hf : f < 18446744073709551616) (h1 : isNan f = false) (h2 : isInf f = false) : CallP Tryz.prog 27 [.int .u64 f] (.tup [.p (ratP (fvq f)), .p (.int .i64 0)]) [] := by
  refine callG_of_vc (wr := wr0) Γok mixed Tryz.func27 (by kernel_rfl) rfl (by kernel_rfl) (le_of_ble rfl) (by simp) ?_
  refine SCall.pure (nan_ok f hf _ h1) ?_
  refine SCond.mk (fun h => by cases h) (fun _ => ?_)
  refine SCall.pure (infinite_ok f hf _ h2) ?_
  refine SCond.mk (fun h => by cases h) (fun _ => ?_)
  refine SCall.pure (ofnum_ok f hf) ?_
  have e1 := fexp_le (mag_lt f)
  have e2 := fexp_ge (mag f)
  have b1 := fn_bits f
  have b2 := fd_bits f
  have n1 := nlen_bitLen (fsig (mag f) * 2 ^ (fexp (mag f)).toNat)
  have n2 := nlen_bitLen (2 ^ (-fexp (mag f)).toNat)
  have n3 := nlen_bitLen (fsig (mag f))
  have n4 := fsig_bits (mag f)
  have n5 := nlen_le (n := 1) (k := 1) (by decide)
  refine SDraw.mkX (by kernel_rfl) ?_
  repeat refine SOp.mk _ _ (And.intro rfl rfl) rfl ?_
  refine SOp.mk _ _ (SZ.mk (((fexp (mag f)).toNat : Nat) : Int) ((max_ite _ _).trans (by omega)) (And.intro rfl rfl)) rfl ?_
  refine SOp.mk _ _ (SCall.pure (fshl_ok false (fsig (mag f)) (fexp (mag f)).toNat (by omega) (by omega)) (And.intro rfl rfl)) rfl ?_
  refine SOp.mk _ _ (SCall.pure (of_ok 1 (by omega)) (And.intro rfl rfl)) rfl ?_
  repeat refine SOp.mk _ _ (And.intro rfl rfl) rfl ?_
  refine SOp.mk _ _ (SWrap.i64z (-fexp (mag f)) (by omega) (by omega) (And.intro rfl rfl)) rfl ?_
  refine SOp.mk _ _ (SZ.mk (((-fexp (mag f)).toNat : Nat) : Int) ((max_ite _ _).trans (by omega)) (And.intro rfl rfl)) rfl ?_
  refine SOp.mk _ _ (SCall.pure (fshl_ok false 1 (-fexp (mag f)).toNat (by omega) (by omega)) (And.intro rfl rfl)) rfl ?_
  rw [Nat.one_mul]
  refine SOp.mk _ _ (SCall.pureT (make_ok _ false false _ _ (Nat.ne_of_gt (Nat.two_pow_pos _)) (by omega) (by omega)) (fun _ => rfl) (And.intro rfl rfl)) rfl ?_
  repeat refine SOp.mk _ _ (And.intro rfl rfl) rfl ?_
  refine SFin.mk (by kernel_rfl) ?_
  rw [mkQ_fvq]
  exact SRet.pure (.tup rfl fun i c d e1 e2 => by
    match i, e1, e2 with
    | 0, e1, e2 => cases e1; cases e2; exact .p _ (pers_rat _ _ _)
    | 1, e1, e2 => cases e1; cases e2; exact .p _ (.int _ _))
end Go.Proofs.YtnilcfiemgmfdaaGreat

namespace Go.Proofs.YtnilcfiemgmfdaaGreat
open Go
set_option linter.unusedVariables false
set_option linter.unusedSimpArgs false
set_option maxRecDepth 10000
/-- An answer that can be reckoned, once the whole below is told. -/
def rSc (c : Nat) (q : Rat) (mode : Int) : Option (Nat × Int) :=
  if fval c ≤ q.abs ∧ q.abs < fval (c + 1) then some (out (decide (q.num < 0)) c (decide (fval c ≠ q.abs)) (cmpR (2 * q.abs) (fval c + fval (c + 1))) mode) else none
theorem rSc_ok {c : Nat} {q : Rat} {mode : Int} {r : Nat × Int} (h : rSc c q mode = some r) : rS q mode = r := by
  unfold rSc at h
  split at h
  · rename_i h1; rw [rS, rndQ, cd_eq h1]; exact Option.some.inj h
  · cases h
theorem mag_sg {neg : Bool} {c : Nat} (h : c < 9223372036854775808) : mag (sg neg c) = c ∧ ngt (sg neg c) = neg ∧ sg neg c < 18446744073709551616 := by
  unfold mag ngt sg
  cases neg with
  | true => rw [if_pos rfl]; exact ⟨by omega, decide_eq_true (by omega), by omega⟩
  | false => rw [if_neg Bool.false_ne_true]; exact ⟨by omega, decide_eq_false (by omega), by omega⟩
def Ok64 (f : Nat) : Prop := f < 18446744073709551616 ∧ mag f ≤ 9221120237041090560
theorem ok_sg {neg : Bool} {c : Nat} (h : c ≤ 9221120237041090560) : Ok64 (sg neg c) := by
  obtain ⟨m1, m2, m3⟩ := mag_sg (neg := neg) (c := c) (by omega)
  exact ⟨m3, by rw [m1]; exact h⟩
theorem ok_out (neg : Bool) (c : Nat) (sm : Bool) (half mode : Int) : Ok64 (out neg c sm half mode).1 := by
  rw [out]
  split
  · exact ok_sg (by unfold lim; split <;> omega)
  · exact ok_sg (by omega)
theorem ok_rS (q : Rat) (mode : Int) : Ok64 (rS q mode).1 := ok_out _ _ _ _ _
theorem ok_of (q : Rat) (mode : Int) : Ok64 (ofF q mode).1 := by
  unfold ofF; split
  · exact ⟨by show 0 < _; omega, by decide⟩
  · exact ok_rS _ _
theorem vabs_ok (q : Rat) {k : Nat} (h : Bz q k) (hk : k ≤ 1099511627776) : CallP Tryz.prog 121 [ratP q] (.p (ratP q.abs)) [] := by
  have := abs_ok q (h.nn hk) (h.nd hk)
  rwa [absP] at this
theorem cmpQ_pos {p q : Rat} : (0 < cmpQ p q) ↔ q < p := by
  unfold cmpQ
  split
  · rename_i h; constructor
    · intro h; omega
    · intro h2; grind
  · rename_i h
    split
    · rename_i e; constructor
      · intro h; omega
      · intro h2; grind
    · rename_i e
      constructor
      · intro _; grind
      · intro _; omega
end Go.Proofs.YtnilcfiemgmfdaaGreat

