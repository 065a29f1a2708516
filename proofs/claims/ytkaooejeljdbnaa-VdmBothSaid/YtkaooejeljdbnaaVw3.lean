/- Polynomials through points: through. -/
import Derived.Test.YtkaooejeljdbnaaVw2
namespace Go.Proofs.Ytkaooejeljdbnaa
open Go
set_option linter.unusedVariables false
set_option linter.unusedSimpArgs false
set_option maxRecDepth 10000

def iter {α : Type} (f : Nat → α → α) : Nat → α → α
  | 0, c => c
  | k + 1, c => f k (iter f k c)
def stepA (x : Nat → Rat) (k : Nat) (c : Nat → Rat) : Nat → Rat := fun m => if k < m then (c m - c (m - 1)) / (x m - x (m - (k + 1))) else c m
def stepB (x : Nat → Rat) (n k : Nat) (c : Nat → Rat) : Nat → Rat := fun m => if k ≤ m ∧ m < n then c m - x k * c (m + 1) else c m
def stepBT (x : Nat → Rat) (k : Nat) (w : Nat → Rat) : Nat → Rat := fun m => if k < m then w m - x k * w (m - 1) else w m
def stepA1 (x : Nat → Rat) (k : Nat) (w : Nat → Rat) : Nat → Rat := fun m => if k < m then w m / (x m - x (m - (k + 1))) else w m
def stepA2 (n k : Nat) (w : Nat → Rat) : Nat → Rat := fun m => if k ≤ m ∧ m < n then w m - w (m + 1) else w m
def thrC (x : Nat → Rat) (n : Nat) (f : Nat → Rat) : Nat → Rat := iter (fun r => stepB x n (n - 1 - r)) n (iter (stepA x) n f)
def momC (x : Nat → Rat) (n : Nat) (b : Nat → Rat) : Nat → Rat := iter (fun r w => stepA2 n (n - 1 - r) (stepA1 x (n - 1 - r) w)) n (iter (stepBT x) n b)

/-- How many digits there may be behind so many rounds. -/
def bs (t b : Nat) : Nat → Nat
  | 0 => b
  | r + 1 => 2 * bs t b r + t
theorem bs_mono {t b : Nat} {i j : Nat} (h : i ≤ j) : bs t b i ≤ bs t b j := by
  induction j with
  | zero => rw [Nat.le_zero.1 h]; exact Nat.le_refl _
  | succ j ih =>
    by_cases e : i = j + 1
    · rw [e]; exact Nat.le_refl _
    · have := ih (by omega)
      simp only [bs]; omega

def mixD (i : Nat) (new old : Nat → Rat) : Nat → Rat := fun m => if i < m then new m else old m
def mixU (i : Nat) (new old : Nat → Rat) : Nat → Rat := fun m => if m < i then new m else old m
theorem mixD_old {i m : Nat} {new old : Nat → Rat} (h : m ≤ i) : mixD i new old m = old m := if_neg (by omega)
theorem mixU_old {i m : Nat} {new old : Nat → Rat} (h : i ≤ m) : mixU i new old m = old m := if_neg (by omega)
theorem mixD_upd {i : Nat} {new old : Nat → Rat} (h : i ≠ 0) : upd (mixD i new old) i (new i) = mixD (i - 1) new old := by
  funext m
  simp only [upd, mixD]
  by_cases e : m = i
  · subst e; rw [if_pos rfl, if_pos (by omega)]
  · rw [if_neg e]
    by_cases h1 : i < m
    · rw [if_pos h1, if_pos (by omega)]
    · rw [if_neg h1, if_neg (by omega)]
theorem mixU_upd {i : Nat} {new old : Nat → Rat} : upd (mixU i new old) i (new i) = mixU (i + 1) new old := by
  funext m
  simp only [upd, mixU]
  by_cases e : m = i
  · subst e; rw [if_pos rfl, if_pos (by omega)]
  · rw [if_neg e]
    by_cases h1 : m < i
    · rw [if_pos h1, if_pos (by omega)]
    · rw [if_neg h1, if_neg (by omega)]
theorem SIdx.rv {N : Nat} {g : Nat → Rat} {i : Int} {K : Nat → PV → Prop} (j : Nat) (v : Rat) (hi : i = j) (hj : j < N) (hv : g j = v) (hk : K j (ratP v)) : SIdx (rats (lst N g)) i K := by
  subst hv; exact .rf j hi hj hk
theorem SEs.rv {N : Nat} {g : Nat → Rat} {i : Nat} {q : Rat} {K : List PV → Prop} (g' : Nat → Rat) (h : upd g i q = g') (hk : K (rats (lst N g'))) : SEs ((rats (lst N g)).set i (ratP q)) K := by
  subst h; exact .rf hk
theorem vec_congr {T : TypeId} {W N : Nat} {g h : Nat → Rat} (e : ∀ i, i < N → g i = h i) : Blk.vec T W (rats (lst N g)) = .vec T W (rats (lst N h)) := by rw [lst_congr e]
theorem sub_ne {a b : Rat} (h : a ≠ b) : a - b ≠ 0 := fun e => h (by grind)

theorem through_ok (m m' : Bool) (n : Nat) (x f : Nat → Rat) {s b : Nat} (hx : ∀ i, i < n + 1 → Bz (x i) s) (hf : ∀ i, i < n + 1 → Bz (f i) b) (hd : ∀ i j, i < n + 1 → j < n + 1 → x i = x j → i = j)
    (hb : bs (2 * s + 2) b (n + n + 1) ≤ 1048576) (hn : n ≤ 1000000000) :
    CallP Try.prog 70 [ratsM m (lst (n + 1) x), ratsM m' (lst (n + 1) f)] (.p (ratsM false (lst (n + 1) (thrC x n f)))) [] := by
  refine callG_of_vc (wr := wr0) Γok mixed Try.func70 (by kernel_rfl) rfl (by kernel_rfl) (le_of_ble rfl) (by simp) ?_
  obtain ⟨t, ht⟩ : ∃ t, t = 2 * s + 2 := ⟨_, rfl⟩
  rw [← ht] at hb
  have hB : ∀ r, r ≤ n + n → 2 * bs t b r + t ≤ 1048576 := fun r hr => Nat.le_trans (bs_mono (t := t) (b := b) (show r + 1 ≤ n + n + 1 by omega)) hb
  have ho := vown_ok m' (lst (n + 1) f) (Bl.lst hf) (k := b) (by have := hB 0 (by omega); simp only [bs] at this; omega) (by rw [lst_length]; omega)
  rw [lst_length] at ho
  refine SCall.fresh ho ?_
  refine SZ.mk ((n + 1 : Nat) : Int) rfl ?_
  refine SWrap.i64z (n : Int) (by omega) (by omega) ?_
  obtain ⟨X, hX⟩ : ∃ X, X = lst (n + 1) x := ⟨_, rfl⟩
  have hXl : X.length = n + 1 := by rw [hX, lst_length]
  have hXB : Bl X s := by rw [hX]; exact Bl.lst hx
  have hXg : ∀ i, i < n + 1 → X.getD i 0 = x i := fun i hi => by rw [hX, lst_getD hi]
  rw [← hX]
  refine SLoop.mk Nat (fun k => ([(0, .p (ratsM m X)), (5, .vec 0 3 0 (n + 1)), (6, .p (.int .i64 n)), (16, .p (.int .i64 n)), (17, .p (.int .i64 k))], [.vec 37 3 (rats (lst (n + 1) (iter (stepA x) k f)))]))
    (fun k => k ≤ n ∧ ∀ i, i < n + 1 → Bz (iter (stepA x) k f i) (bs t b k)) (fun k => n - k) 0 [0] ⟨Nat.zero_le _, hf⟩
    ⟨rfl, by simp, rfl, rfl, rfl, ⟨rfl, rfl, rfl, rfl, rfl, trivial⟩, ⟨rfl, trivial⟩⟩ ?_
  intro k ⟨h1, h2⟩
  by_cases hk : k < n
  · refine SCmp.yes (decide_eq_true (by omega)) ?_
    obtain ⟨old, hold⟩ : ∃ old, old = iter (stepA x) k f := ⟨_, rfl⟩
    rw [← hold] at h2
    rw [← hold]
    have hBk := hB k (by omega)
    refine SLoop.mk Nat (fun i => ([(0, .p (ratsM m X)), (5, .vec 0 3 0 (n + 1)), (6, .p (.int .i64 n)), (7, .p (.int .i64 k)), (8, .p (.int .i64 i)), (16, .p (.int .i64 n)), (17, .p (.int .i64 k))], [.vec 37 3 (rats (lst (n + 1) (mixD i (stepA x k old) old)))]))
      (fun i => k ≤ i ∧ i ≤ n ∧ ∀ j, j < n + 1 → i < j → Bz (stepA x k old j) (bs t b (k + 1))) id n [0] ⟨by omega, Nat.le_refl _, fun j h1 h2 => by omega⟩
      ⟨rfl, by simp, rfl, rfl, rfl, ⟨rfl, rfl, rfl, rfl, rfl, rfl, rfl, trivial⟩, ⟨vec_congr fun i hi => mixD_old (by omega), trivial⟩⟩ ?_
    intro i ⟨g1, g2, g3⟩
    by_cases hi : k < i
    · refine SCmp.yes (decide_eq_true (by omega)) ?_
      have hA := vapart_ok m X i (k + 1) (by omega) (by omega) hXB (by omega) (by omega)
      rw [hXg i (by omega), hXg (i - (k + 1)) (by omega)] at hA
      have hne : x i - x (i - (k + 1)) ≠ 0 := sub_ne fun e => by have := hd _ _ (by omega) (by omega) e; omega
      have z1 := h2 i (by omega)
      have z2 := h2 (i - 1) (by omega)
      have z3 := z1.sub z2
      have z4 := (hx i (by omega)).sub (hx (i - (k + 1)) (by omega))
      refine SDraw.mk (by kernel_rfl) ?_
      repeat refine SOp.mk _ _ (And.intro rfl rfl) rfl ?_
      refine SOp.mk _ _ (SPos.mk i rfl (by omega) (And.intro rfl rfl)) rfl ?_
      refine SOp.mk _ _ (SIdx.rv i (old i) rfl (by omega) (mixD_old (by omega)) (And.intro rfl rfl)) rfl ?_
      repeat refine SOp.mk _ _ (And.intro rfl rfl) rfl ?_
      refine SOp.mk _ _ (SWrap.i64z ((i - 1 : Nat) : Int) (by omega) (by omega) (And.intro rfl rfl)) rfl ?_
      refine SOp.mk _ _ (SPos.mk (i - 1) rfl (by omega) (And.intro rfl rfl)) rfl ?_
      refine SOp.mk _ _ (SIdx.rv (i - 1) (old (i - 1)) rfl (by omega) (mixD_old (by omega)) (And.intro rfl rfl)) rfl ?_
      repeat refine SOp.mk _ _ (And.intro rfl rfl) rfl ?_
      refine SOp.mk _ _ (SCall.pure (ratsub_ok _ _ z1.sz z2.sz (by omega)) (And.intro rfl rfl)) rfl ?_
      repeat refine SOp.mk _ _ (And.intro rfl rfl) rfl ?_
      refine SOp.mk _ _ (SWrap.i64z ((k + 1 : Nat) : Int) (by omega) (by omega) (And.intro rfl rfl)) rfl ?_
      refine SOp.mk _ _ (SCall.pure (hA) (And.intro rfl rfl)) rfl ?_
      refine SOp.mk _ _ (SCall.pure (vover_ok _ _ hne z3 z4 (by omega)) (And.intro rfl rfl)) rfl ?_
      have hnew : stepA x k old i = (old i - old (i - 1)) / (x i - x (i - (k + 1))) := if_pos hi
      refine SOp.mk _ _ (SPos.mk i rfl (by omega) (And.intro rfl rfl)) rfl ?_
      refine SOp.mk _ _ (SLt.rf (show i + 0 < n + 1 by omega) <| SEs.rv (mixD (i - 1) (stepA x k old) old) (by rw [← hnew]; exact mixD_upd (by omega)) (And.intro rfl rfl)) rfl ?_
      refine SWrap.i64z ((i - 1 : Nat) : Int) (by omega) (by omega) ?_
      refine ⟨i - 1, [0], ⟨by omega, by omega, fun j hj1 hj2 => ?_⟩, by show i - 1 < i; omega, ⟨rfl, by simp, rfl, rfl, rfl, ⟨rfl, rfl, rfl, rfl, rfl, rfl, rfl, trivial⟩, ⟨rfl, trivial⟩⟩⟩
      by_cases e : j = i
      · rw [e, hnew]
        refine (z3.div z4).mono ?_
        simp only [bs]; omega
      · exact g3 j hj1 (by omega)
    · refine SCmp.no (decide_eq_false (by omega)) ?_
      have hik : i = k := by omega
      subst hik
      refine SWrap.i64z ((i + 1 : Nat) : Int) (by omega) (by omega) ?_
      have hmix : mixD i (stepA x i old) old = iter (stepA x) (i + 1) f := by
        funext m
        rw [iter, ← hold]
        unfold mixD
        split
        · rfl
        · rename_i h; rw [stepA, if_neg h]
      refine ⟨i + 1, [0], ⟨hk, fun j hj => ?_⟩, by show n - (i + 1) < n - i; omega, ⟨rfl, by simp, rfl, rfl, rfl, ⟨rfl, rfl, rfl, rfl, rfl, trivial⟩, ⟨congrArg (fun g => Blk.vec 37 3 (rats (lst (n + 1) g))) hmix.symm, trivial⟩⟩⟩
      rw [iter, ← hold]
      by_cases e : i < j
      · exact g3 j hj e
      · rw [stepA, if_neg e]
        exact (h2 j hj).mono (bs_mono (Nat.le_succ _))
  · refine SCmp.no (decide_eq_false (by omega)) ?_
    have hkn : k = n := by omega
    subst hkn
    obtain ⟨c1, hc1⟩ : ∃ c1, c1 = iter (stepA x) k f := ⟨_, rfl⟩
    rw [← hc1] at h2
    rw [← hc1]
    have hthr : thrC x k f = iter (fun r => stepB x k (k - 1 - r)) k c1 := by rw [thrC, hc1]
    rw [hthr]
    refine SWrap.i64z ((k : Int) - 1) rfl (by omega) ?_
    refine SLoop.mk (Nat × Int) (fun (j, z) => ([(0, .p (ratsM m X)), (5, .vec 0 3 0 (k + 1)), (6, .p (.int .i64 k)), (9, .p (.int .i64 z))], [.vec 37 3 (rats (lst (k + 1) (iter (fun r => stepB x k (k - 1 - r)) (k - j) c1)))]))
      (fun (j, z) => j ≤ k ∧ z = (j : Int) - 1 ∧ ∀ i, i < k + 1 → Bz (iter (fun r => stepB x k (k - 1 - r)) (k - j) c1 i) (bs t b (k + (k - j)))) (fun x => x.1) (k, (k : Int) - 1) [0] ⟨Nat.le_refl _, rfl, by rw [Nat.sub_self]; exact h2⟩
      ⟨rfl, by simp, rfl, rfl, rfl, ⟨rfl, rfl, rfl, rfl, trivial⟩, ⟨by rw [Nat.sub_self]; rfl, trivial⟩⟩ ?_
    intro ⟨j, z⟩ ⟨g1, g2, g3⟩
    by_cases hj : j = 0
    · subst hj
      refine SCmp.no (decide_eq_false (by omega)) ?_
      exact SRet.pure (frzR rfl (by rw [lst_length]))
    · obtain ⟨q, rfl⟩ := Nat.exists_eq_succ_of_ne_zero hj
      have hz : z = (q : Int) := by omega
      subst hz
      refine SCmp.yes (decide_eq_true (by omega)) ?_
      obtain ⟨old, hold⟩ : ∃ old, old = iter (fun r => stepB x k (k - 1 - r)) (k - (q + 1)) c1 := ⟨_, rfl⟩
      have g3 : ∀ i, i < k + 1 → Bz (old i) (bs t b (k + (k - (q + 1)))) := by rw [hold]; exact g3
      have hBk := hB (k + (k - (q + 1))) (by omega)
      have hnext : iter (fun r => stepB x k (k - 1 - r)) (k - q) c1 = stepB x k q old := by
        rw [show k - q = (k - (q + 1)) + 1 by omega, iter, ← hold, show k - 1 - (k - (q + 1)) = q by omega]
      refine SLoop.mk Nat (fun i => ([(0, .p (ratsM m X)), (5, .vec 0 3 0 (k + 1)), (6, .p (.int .i64 k)), (9, .p (.int .i64 q)), (10, .p (.int .i64 i))], [.vec 37 3 (rats (lst (k + 1) (mixU i (stepB x k q old) old)))]))
        (fun i => q ≤ i ∧ i ≤ k ∧ ∀ j, j < i → Bz (stepB x k q old j) (bs t b (k + (k - q)))) (fun i => k - i) q [0]
        ⟨Nat.le_refl _, by omega, fun j hj => ?_⟩
        ⟨rfl, by simp, rfl, rfl, rfl, ⟨rfl, rfl, rfl, rfl, rfl, trivial⟩, ⟨?_, trivial⟩⟩ ?_
      · rw [stepB, if_neg (by omega)]
        exact (g3 j (by omega)).mono (bs_mono (by omega))
      · show Blk.vec _ _ _ = Blk.vec _ _ _
        rw [show k - q.succ = k - (q + 1) from rfl, ← hold]
        refine vec_congr fun i hi => ?_
        unfold mixU
        split
        · rename_i h; rw [stepB, if_neg (by omega)]
        · rfl
      · intro i ⟨e1, e2, e3⟩
        by_cases hi : i < k
        · refine SCmp.yes (decide_eq_true (by omega)) ?_
          have z1 := g3 i (by omega)
          have z2 := g3 (i + 1) (by omega)
          have z3 := (hx q (by omega)).mul z2
          have hnew : stepB x k q old i = old i - x q * old (i + 1) := if_pos ⟨e1, hi⟩
          refine SDraw.mk (by kernel_rfl) ?_
          repeat refine SOp.mk _ _ (And.intro rfl rfl) rfl ?_
          refine SOp.mk _ _ (SPos.mk i rfl (by omega) (And.intro rfl rfl)) rfl ?_
          refine SOp.mk _ _ (SIdx.rv i (old i) rfl (by omega) (mixU_old (by omega)) (And.intro rfl rfl)) rfl ?_
          repeat refine SOp.mk _ _ (And.intro rfl rfl) rfl ?_
          refine SOp.mk _ _ (SIdx.rb q rfl (by omega) (And.intro rfl rfl)) rfl ?_
          repeat refine SOp.mk _ _ (And.intro rfl rfl) rfl ?_
          rw [hXg q (by omega)]
          refine SOp.mk _ _ (SWrap.i64z ((i + 1 : Nat) : Int) (by omega) (by omega) (And.intro rfl rfl)) rfl ?_
          refine SOp.mk _ _ (SPos.mk (i + 1) rfl (by omega) (And.intro rfl rfl)) rfl ?_
          refine SOp.mk _ _ (SIdx.rv (i + 1) (old (i + 1)) rfl (by omega) (mixU_old (by omega)) (And.intro rfl rfl)) rfl ?_
          refine SOp.mk _ _ (SCall.pure (ratmul_ok _ _ (hx q (by omega)).sz z2.sz (by omega)) (And.intro rfl rfl)) rfl ?_
          refine SOp.mk _ _ (SCall.pure (ratsub_ok _ _ z1.sz z3.sz (by omega)) (And.intro rfl rfl)) rfl ?_
          refine SOp.mk _ _ (SPos.mk i rfl (by omega) (And.intro rfl rfl)) rfl ?_
          refine SOp.mk _ _ (SLt.rf (show i + 0 < k + 1 by omega) <| SEs.rv (mixU (i + 1) (stepB x k q old) old) (by rw [← hnew]; exact mixU_upd) (And.intro rfl rfl)) rfl ?_
          refine SWrap.i64z ((i + 1 : Nat) : Int) (by omega) (by omega) ?_
          refine ⟨i + 1, [0], ⟨by omega, hi, fun j hj => ?_⟩, by show k - (i + 1) < k - i; omega, ⟨rfl, by simp, rfl, rfl, rfl, ⟨rfl, rfl, rfl, rfl, rfl, trivial⟩, ⟨rfl, trivial⟩⟩⟩
          by_cases e : j = i
          · rw [e, hnew]
            refine (z1.sub z3).mono ?_
            rw [show k + (k - q) = k + (k - (q + 1)) + 1 by omega]
            simp only [bs]; omega
          · exact e3 j (by omega)
        · refine SCmp.no (decide_eq_false (by omega)) ?_
          have hik : i = k := by omega
          subst hik
          refine SWrap.i64z ((q : Int) - 1) rfl (by omega) ?_
          have hmix : mixU i (stepB x i q old) old = iter (fun r => stepB x i (i - 1 - r)) (i - q) c1 := by
            rw [hnext]
            funext m
            unfold mixU
            split
            · rfl
            · rename_i h; rw [stepB, if_neg (by omega)]
          refine ⟨(q, (q : Int) - 1), [0], ⟨by omega, rfl, fun j hj => ?_⟩, Nat.lt_succ_self q, ⟨rfl, by simp, rfl, rfl, rfl, ⟨rfl, rfl, rfl, rfl, trivial⟩, ⟨congrArg (fun g => Blk.vec 37 3 (rats (lst (i + 1) g))) hmix.symm, trivial⟩⟩⟩
          rw [hnext]
          by_cases e : j < i
          · exact e3 j e
          · rw [stepB, if_neg (by omega)]
            exact (g3 j hj).mono (bs_mono (by omega))
end Go.Proofs.Ytkaooejeljdbnaa
