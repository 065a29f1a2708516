/- Cert: norms of matrices. -/
import Derived.Test.YtacklcbgkigcaaaGreatCr1
namespace Go.Proofs.YtacklcbgkigcaaaGreat
open Go
set_option linter.unusedVariables false
set_option linter.unusedSimpArgs false
set_option maxRecDepth 10000

/-- A matrix, as it lies: m, m' tell whether it, its rows are lent. -/
abbrev matM (m m' : Bool) (M : List (List Rat)) : PV := .sl m 1 (M.map (ratsM m'))
def Bm (M : List (List Rat)) (c k : Nat) : Prop := ∀ i, i < M.length → Bl (M.getD i []) k ∧ (M.getD i []).length ≤ c
theorem SIdx.mb {M : List (List Rat)} {m' : Bool} {i : Int} {K : Nat → PV → Prop} (j : Nat) (hi : i = j) (hj : j < M.length) (hk : K j (ratsM m' (M.getD j []))) : SIdx (M.map (ratsM m')) i K :=
  .mk j _ hi (by simp [List.getElem?_map, List.getElem?_eq_getElem hj, List.getD]) hk

def sumQ (l : List Rat) : Rat := l.foldl (fun s a => s + a.abs) 0
theorem sumQ_snoc (l : List Rat) (x : Rat) : sumQ (l ++ [x]) = sumQ l + x.abs := by rw [sumQ, List.foldl_append]; rfl
theorem sumQ_take (l : List Rat) {i : Nat} (h : i < l.length) : sumQ (l.take (i + 1)) = sumQ (l.take i) + (l.getD i 0).abs := by rw [take_snoc l h, sumQ_snoc]
theorem sumQ_bz {l : List Rat} {k : Nat} (h : Bl l k) : ∀ i, i ≤ l.length → Bz (sumQ (l.take i)) (1 + i * (k + 1)) := by
  intro i
  induction i with
  | zero => intro _; exact bz_zero.mono (by omega)
  | succ i ih =>
    intro hi
    rw [sumQ_take l (by omega)]
    exact ((ih (by omega)).add (h i (by omega)).abs).mono (by rw [Nat.add_mul]; omega)
theorem sumQ_nn (l : List Rat) : ∀ i, i ≤ l.length → 0 ≤ sumQ (l.take i) := by
  intro i
  induction i with
  | zero => intro _; exact Rat.le_refl
  | succ i ih =>
    intro hi
    rw [sumQ_take l (by omega)]
    exact Rat.add_nonneg (ih (by omega)) (Rat.abs_nonneg)
theorem sumQ_abs (l : List Rat) : (sumQ l).abs = sumQ l := by
  have := sumQ_nn l l.length (Nat.le_refl _)
  rw [List.take_length] at this
  exact Rat.abs_of_nonneg this
def normQ (M : List (List Rat)) : Rat := sizeQ (M.map sumQ)
theorem map_getD (M : List (List Rat)) {i : Nat} (h : i < M.length) : (M.map sumQ).getD i 0 = sumQ (M.getD i []) := by
  simp [List.getD, List.getElem?_map, List.getElem?_eq_getElem h]
theorem sums_bl {M : List (List Rat)} {c k : Nat} (h : Bm M c k) : Bl (M.map sumQ) (1 + c * (k + 1)) := fun i hi => by
  have hi : i < M.length := by simpa using hi
  rw [map_getD M hi]
  obtain ⟨h1, h2⟩ := h i hi
  have := sumQ_bz h1 _ (Nat.le_refl _)
  rw [List.take_length] at this
  exact this.mono (Nat.add_le_add_left (Nat.mul_le_mul_right _ h2) _)

theorem cnorm_ok (m m' : Bool) (M : List (List Rat)) {c k : Nat} (hM : Bm M c k) (hk : (1 + c * (k + 1)) + (1 + c * (k + 1)) + k + 1 ≤ 1048576) (hc : c ≤ 1000000) (hn : M.length ≤ 1000000) : CallP Tryz.prog 60 [matM m m' M] (.p (ratP (normQ M))) [] := by
  refine callG_of_vc (wr := wrSee) Γok mixed Tryz.func60 (by kernel_rfl) rfl (by kernel_rfl) (le_of_ble rfl) (by simp) ?_
  refine SCall.pure (czero_ok) ?_
  refine SZ.mk (M.length : Int) (by simp) ?_
  have hS := sums_bl hM
  have hSl : (M.map sumQ).length = M.length := by simp
  refine SLoop.mk Nat (fun i => ([(2, .bptr 0 0), (3, .bptr 1 0), (4, .fn 114 [.bptr 1 0] []), (15, .p (matM m m' M)), (16, .p (.int .i64 M.length)), (17, .p (.int .i64 i))], [.box 30 [.p (.bool false), .p (.sl false 1 []), .p (.sl false 1 [])], .box 121 (boxQ (sizeQ ((M.map sumQ).take i)))]))
    (fun i => i ≤ M.length) (fun i => M.length - i) 0 [0, 1] (Nat.zero_le _) ⟨rfl, by simp, rfl, rfl, rfl, ⟨rfl, rfl, rfl, rfl, rfl, rfl, trivial⟩, ⟨rfl, rfl, trivial⟩⟩ ?_
  intro i h1
  have h1 : i ≤ M.length := h1
  have bs := sizeQ_bz hS (by omega) i (by omega)
  by_cases hi : i < M.length
  · refine SCmp.yes (decide_eq_true (by omega)) ?_
    have e := sizeQ_take (M.map sumQ) (i := i) (by omega)
    rw [map_getD M hi, sumQ_abs] at e
    obtain ⟨b1, b2⟩ := hM i hi
    refine SIdx.mb i rfl hi ?_
    obtain ⟨l, hl⟩ : ∃ l, l = M.getD i [] := ⟨_, rfl⟩
    rw [← hl] at e b1 b2 ⊢
    refine SCall.pure (czero_ok) ?_
    refine SZ.mk (l.length : Int) (by simp) ?_
    refine SLoop.mk Nat (fun j => ([(2, .bptr 0 0), (3, .bptr 1 0), (4, .fn 114 [.bptr 1 0] []), (15, .p (matM m m' M)), (16, .p (.int .i64 M.length)), (17, .p (.int .i64 i)), (7, .bptr 2 0), (22, .p (ratsM m' l)), (23, .p (.int .i64 l.length)), (24, .p (.int .i64 j))],
        [.box 30 [.p (.bool false), .p (.sl false 1 []), .p (.sl false 1 [])], .box 121 (boxQ (sizeQ ((M.map sumQ).take i))), .box 30 (boxQ (sumQ (l.take j)))]))
      (fun j => j ≤ l.length) (fun j => l.length - j) 0 [0, 1, 2] (Nat.zero_le _) ⟨rfl, by simp, rfl, rfl, rfl, ⟨rfl, rfl, rfl, rfl, rfl, rfl, rfl, rfl, rfl, rfl, trivial⟩, ⟨rfl, rfl, rfl, trivial⟩⟩ ?_
    intro j g1
    have g1 : j ≤ l.length := g1
    have bt := (sumQ_bz b1 j g1).mono (show 1 + j * (k + 1) ≤ 1 + c * (k + 1) from Nat.add_le_add_left (Nat.mul_le_mul_right _ (by omega)) _)
    by_cases hj : j < l.length
    · refine SCmp.yes (decide_eq_true (by omega)) ?_
      have bq := b1 j hj
      have e2 := sumQ_take l hj
      refine SIdx.rb j rfl hj ?_
      obtain ⟨q, hq⟩ : ∃ q, q = l.getD j 0 := ⟨_, rfl⟩
      rw [← hq] at e2 bq ⊢
      refine SDraw.mkX (by kernel_rfl) ?_
      repeat refine SOp.mk _ _ (And.intro rfl rfl) rfl ?_
      refine SOp.mk _ _ (SCall.pure (vabs_ok q bq (by omega)) (And.intro rfl rfl)) rfl ?_
      refine SOp.mk _ _ (SCall.pure (ratadd_ok (sumQ (l.take j)) q.abs bt.sz bq.abs.sz (by omega)) (And.intro rfl rfl)) rfl ?_
      repeat refine SOp.mk _ _ (And.intro rfl rfl) rfl ?_
      refine SFin.mk (by kernel_rfl) ?_
      refine SWrap.i64z ((j + 1 : Nat) : Int) (by omega) (by omega) ?_
      exact ⟨j + 1, [0, 1, 2], hj, by show l.length - (j + 1) < l.length - j; omega, ⟨rfl, by simp, rfl, rfl, rfl, ⟨rfl, rfl, rfl, rfl, rfl, rfl, rfl, rfl, rfl, rfl, trivial⟩, ⟨rfl, rfl, by rw [e2]; rfl, trivial⟩⟩⟩
    · refine SCmp.no (decide_eq_false (by omega)) ?_
      have : j = l.length := by omega
      subst this
      rw [List.take_length] at bt ⊢
      have c1 := see1_ok (sizeQ ((M.map sumQ).take i)) (sumQ l) bs bt (by omega)
      rw [← e] at c1
      refine SCall.see (base := 4) (h1 := 1) (h2 := 3) (by omega) (by decide) (by decide) rfl rfl c1 ?_
      refine SWrap.i64z ((i + 1 : Nat) : Int) (by omega) (by omega) ?_
      exact ⟨i + 1, [0, 1], hi, by show M.length - (i + 1) < M.length - i; omega, ⟨rfl, by simp, rfl, rfl, rfl, ⟨rfl, rfl, rfl, rfl, rfl, rfl, trivial⟩, ⟨rfl, rfl, trivial⟩⟩⟩
  · refine SCmp.no (decide_eq_false (by omega)) ?_
    have : i = M.length := by omega
    rw [this, List.take_of_length_le (by omega)]
    exact SRet.pure (.p _ (pers_rat _ _ _))

theorem rnorm16_ok (m m' : Bool) (M : List (List Rat)) {c k : Nat} (hM : Bm M c k) (hk : (1 + c * (k + 1)) + (1 + c * (k + 1)) + k + 1 ≤ 1048576) (hc : c ≤ 1000000) (hn : M.length ≤ 1000000) : CallP Tryz.prog 54 [matM m m' M] (.p (ratP (normQ M))) [] := by
  refine callG_of_vc (wr := wr0) Γok mixed Tryz.func54 (by kernel_rfl) rfl (by kernel_rfl) (le_of_ble rfl) (by simp) ?_
  have hS := sums_bl hM
  have hSl : (M.map sumQ).length = M.length := by simp
  refine SLoop.mkT Nat (fun i => ([(0, .p (matM m m' M)), (2, .bptr 0 0), (3, .vec 1 3 0 i), (4, .p (.int .i64 i))], [.box 30 [.p (.bool false), .p (.sl false 1 []), .p (.sl false 1 [])], .vec 30 3 (rats ((M.map sumQ).take i))]))
    (fun i => i ≤ M.length) (fun i => M.length - i) 0 [0, 1] _ _ (.step 3 30 3 rfl (.done _ _)) (Nat.zero_le _) ⟨rfl, by simp, rfl, rfl, rfl, ⟨rfl, rfl, rfl, rfl, trivial⟩, ⟨rfl, rfl, trivial⟩⟩ ?_
  intro i h1
  have h1 : i ≤ M.length := h1
  refine SZ.mk (M.length : Int) (by simp) ?_
  by_cases hi : i < M.length
  · refine SCmp.yes (decide_eq_true (by omega)) ?_
    obtain ⟨b1, b2⟩ := hM i hi
    have e := take_snoc (M.map sumQ) (i := i) (by omega)
    rw [map_getD M hi] at e
    refine SCall.pure (rzero_ok) ?_
    refine SLoop.mk Nat (fun j => ([(0, .p (matM m m' M)), (2, .bptr 0 0), (3, .vec 1 3 0 i), (4, .p (.int .i64 i)), (5, .bptr 2 0), (6, .p (.int .i64 j))], [.box 30 [.p (.bool false), .p (.sl false 1 []), .p (.sl false 1 [])], .vec 30 3 (rats ((M.map sumQ).take i)), .box 30 (boxQ (sumQ ((M.getD i []).take j)))]))
      (fun j => j ≤ (M.getD i []).length) (fun j => (M.getD i []).length - j) 0 [0, 1, 2] (Nat.zero_le _) ⟨rfl, by simp, rfl, rfl, rfl, ⟨rfl, rfl, rfl, rfl, rfl, rfl, trivial⟩, ⟨rfl, rfl, rfl, trivial⟩⟩ ?_
    intro j g1
    have g1 : j ≤ (M.getD i []).length := g1
    refine SIdx.mb i rfl hi ?_
    have hrow : (M.map (ratsM m'))[i]? = some (ratsM m' (M.getD i [])) := by simp [List.getElem?_map, List.getElem?_eq_getElem hi, List.getD]
    obtain ⟨l, hl⟩ : ∃ l, l = M.getD i [] := ⟨_, rfl⟩
    rw [← hl] at e b1 b2 g1 hrow ⊢
    have bt := (sumQ_bz b1 j g1).mono (show 1 + j * (k + 1) ≤ 1 + c * (k + 1) from Nat.add_le_add_left (Nat.mul_le_mul_right _ (by omega)) _)
    refine SZ.mk (l.length : Int) (by simp) ?_
    by_cases hj : j < l.length
    · refine SCmp.yes (decide_eq_true (by omega)) ?_
      have bq := b1 j hj
      have e2 := sumQ_take l hj
      obtain ⟨q, hq⟩ : ∃ q, q = l.getD j 0 := ⟨_, rfl⟩
      have hv : (rats l)[j]? = some (ratP q) := by rw [List.getElem?_map, List.getElem?_eq_getElem hj, hq]; simp [List.getD, List.getElem?_eq_getElem hj]
      rw [← hq] at e2 bq
      refine SDraw.mkX (by kernel_rfl) ?_
      repeat refine SOp.mk _ _ (And.intro rfl rfl) rfl ?_
      refine SOp.mk _ _ (SIdx.mk i _ rfl hrow (And.intro rfl rfl)) rfl ?_
      repeat refine SOp.mk _ _ (And.intro rfl rfl) rfl ?_
      refine SOp.mk _ _ (SIdx.mk j (ratP q) rfl hv (And.intro rfl rfl)) rfl ?_
      repeat refine SOp.mk _ _ (And.intro rfl rfl) rfl ?_
      refine SOp.mk _ _ (SCall.pure (rabs_ok q bq (by omega)) (And.intro rfl rfl)) rfl ?_
      refine SOp.mk _ _ (SCall.pure (raddq_ok (sumQ (l.take j)) q.abs bt bq.abs (by omega)) (And.intro rfl rfl)) rfl ?_
      repeat refine SOp.mk _ _ (And.intro rfl rfl) rfl ?_
      refine SFin.mk (by kernel_rfl) ?_
      refine SWrap.i64z ((j + 1 : Nat) : Int) (by omega) (by omega) ?_
      refine ⟨j + 1, [0, 1, 2], hj, by show l.length - (j + 1) < l.length - j; omega, ⟨rfl, by simp, rfl, rfl, rfl, ⟨rfl, rfl, rfl, rfl, rfl, rfl, trivial⟩, ⟨rfl, rfl, by rw [e2]; rfl, trivial⟩⟩⟩
    · refine SCmp.no (decide_eq_false (by omega)) ?_
      have : j = l.length := by omega
      subst this
      rw [List.take_length]
      refine SEqN.mk (by simp [hSl]; omega) ?_
      refine SView.all rfl ?_
      refine SRoom.mk (by simp; omega) (by simp; omega) ?_
      refine SEs.mk (rats ((M.map sumQ).take (i + 1))) (by rw [e, rats, rats, List.map_append]; rfl) ?_
      refine SZN.mk (i + 1) (by simp; omega) ?_
      refine SWrap.i64z ((i + 1 : Nat) : Int) (by omega) (by omega) ?_
      exact ⟨i + 1, [0, 4], hi, by show M.length - (i + 1) < M.length - i; omega, ⟨rfl, by simp, rfl, rfl, rfl, ⟨rfl, rfl, rfl, rfl, trivial⟩, ⟨rfl, rfl, trivial⟩⟩⟩
  · refine SCmp.no (decide_eq_false (by omega)) ?_
    have : i = M.length := by omega
    rw [this, List.take_of_length_le (by omega)]
    refine SView.all (by simp) ?_
    refine SCall.pure (rsize16_ok true (M.map sumQ) hS (by omega) (by omega) (by omega)) ?_
    exact SRet.pure (.p _ (pers_rat _ _ _))
end Go.Proofs.YtacklcbgkigcaaaGreat
