/- Polynomials through points: moments, done, Through, Moments. -/
import Derived.Test.YtkaooejeljdbnaaVw3
namespace Go.Proofs.Ytkaooejeljdbnaa
open Go
set_option linter.unusedVariables false
set_option linter.unusedSimpArgs false
set_option maxRecDepth 10000

theorem moments_ok (m m' : Bool) (n : Nat) (x f : Nat → Rat) {s b : Nat} (hx : ∀ i, i < n + 1 → Bz (x i) s) (hf : ∀ i, i < n + 1 → Bz (f i) b) (hd : ∀ i j, i < n + 1 → j < n + 1 → x i = x j → i = j)
    (hb : bs (4 * s + 4) b (n + n + 1) ≤ 1048576) (hn : n ≤ 1000000000) :
    CallP Try.prog 77 [ratsM m (lst (n + 1) x), ratsM m' (lst (n + 1) f)] (.p (ratsM false (lst (n + 1) (momC x n f)))) [] := by
  refine callG_of_vc (wr := wr0) Γok mixed Try.func77 (by kernel_rfl) rfl (by kernel_rfl) (le_of_ble rfl) (by simp) ?_
  obtain ⟨t, ht⟩ : ∃ t, t = 4 * s + 4 := ⟨_, rfl⟩
  rw [← ht] at hb
  have hB : ∀ r, r ≤ n + n → 2 * bs t b r + t ≤ 1048576 := fun r hr => Nat.le_trans (bs_mono (t := t) (b := b) (show r + 1 ≤ n + n + 1 by omega)) hb
  have ho := vown_ok m' (lst (n + 1) f) (Bl.lst hf) (k := b) (by have := hB 0 (by omega); simp only [bs] at this; omega) (by rw [lst_length]; omega)
  rw [lst_length] at ho
  refine SCall.fresh ho ?_
  refine SZ.mk ((n + 1 : Nat) : Int) rfl ?_
  refine SWrap.i64z (n : Int) (by omega) (by omega) ?_
  obtain ⟨X, hX⟩ : ∃ X, X = lst (n + 1) x := ⟨_, rfl⟩
  have hXl : X.length = n + 1 := by rw [hX, lst_length]
  have hXB : Bl X s := by rw [hX]; exact Bl.lst hx
  have hXg : ∀ i, i < n + 1 → X.getD i 0 = x i := fun i hi => by rw [hX, lst_getD hi]
  rw [← hX]
  refine SLoop.mk Nat (fun k => ([(0, .p (ratsM m X)), (5, .vec 0 3 0 (n + 1)), (6, .p (.int .i64 n)), (17, .p (.int .i64 n)), (18, .p (.int .i64 k))], [.vec 37 3 (rats (lst (n + 1) (iter (stepBT x) k f)))]))
    (fun k => k ≤ n ∧ ∀ i, i < n + 1 → Bz (iter (stepBT x) k f i) (bs t b k)) (fun k => n - k) 0 [0] ⟨Nat.zero_le _, hf⟩
    ⟨rfl, by simp, rfl, rfl, rfl, ⟨rfl, rfl, rfl, rfl, rfl, trivial⟩, ⟨rfl, trivial⟩⟩ ?_
  intro k ⟨h1, h2⟩
  by_cases hk : k < n
  · refine SCmp.yes (decide_eq_true (by omega)) ?_
    obtain ⟨old, hold⟩ : ∃ old, old = iter (stepBT x) k f := ⟨_, rfl⟩
    rw [← hold] at h2
    rw [← hold]
    have hBk := hB k (by omega)
    refine SLoop.mk Nat (fun i => ([(0, .p (ratsM m X)), (5, .vec 0 3 0 (n + 1)), (6, .p (.int .i64 n)), (7, .p (.int .i64 k)), (8, .p (.int .i64 i)), (17, .p (.int .i64 n)), (18, .p (.int .i64 k))], [.vec 37 3 (rats (lst (n + 1) (mixD i (stepBT x k old) old)))]))
      (fun i => k ≤ i ∧ i ≤ n ∧ ∀ j, j < n + 1 → i < j → Bz (stepBT x k old j) (bs t b (k + 1))) id n [0] ⟨by omega, Nat.le_refl _, fun j h1 h2 => by omega⟩
      ⟨rfl, by simp, rfl, rfl, rfl, ⟨rfl, rfl, rfl, rfl, rfl, rfl, rfl, trivial⟩, ⟨vec_congr fun i hi => mixD_old (by omega), trivial⟩⟩ ?_
    intro i ⟨g1, g2, g3⟩
    by_cases hi : k < i
    · refine SCmp.yes (decide_eq_true (by omega)) ?_
      have z1 := h2 i (by omega)
      have z2 := h2 (i - 1) (by omega)
      have z3 := (hx k (by omega)).mul z2
      refine SDraw.mk (by kernel_rfl) ?_
      repeat refine SOp.mk _ _ (And.intro rfl rfl) rfl ?_
      refine SOp.mk _ _ (SPos.mk i rfl (by omega) (And.intro rfl rfl)) rfl ?_
      refine SOp.mk _ _ (SIdx.rv i (old i) rfl (by omega) (mixD_old (by omega)) (And.intro rfl rfl)) rfl ?_
      repeat refine SOp.mk _ _ (And.intro rfl rfl) rfl ?_
      refine SOp.mk _ _ (SIdx.rb k rfl (by omega) (And.intro rfl rfl)) rfl ?_
      repeat refine SOp.mk _ _ (And.intro rfl rfl) rfl ?_
      rw [hXg k (by omega)]
      refine SOp.mk _ _ (SWrap.i64z ((i - 1 : Nat) : Int) (by omega) (by omega) (And.intro rfl rfl)) rfl ?_
      refine SOp.mk _ _ (SPos.mk (i - 1) rfl (by omega) (And.intro rfl rfl)) rfl ?_
      refine SOp.mk _ _ (SIdx.rv (i - 1) (old (i - 1)) rfl (by omega) (mixD_old (by omega)) (And.intro rfl rfl)) rfl ?_
      refine SOp.mk _ _ (SCall.pure (ratmul_ok _ _ (hx k (by omega)).sz z2.sz (by omega)) (And.intro rfl rfl)) rfl ?_
      refine SOp.mk _ _ (SCall.pure (ratsub_ok _ _ z1.sz z3.sz (by omega)) (And.intro rfl rfl)) rfl ?_
      have hnew : stepBT x k old i = old i - x k * old (i - 1) := if_pos hi
      refine SOp.mk _ _ (SPos.mk i rfl (by omega) (And.intro rfl rfl)) rfl ?_
      refine SOp.mk _ _ (SLt.rf (show i + 0 < n + 1 by omega) <| SEs.rv (mixD (i - 1) (stepBT x k old) old) (by rw [← hnew]; exact mixD_upd (by omega)) (And.intro rfl rfl)) rfl ?_
      refine SWrap.i64z ((i - 1 : Nat) : Int) (by omega) (by omega) ?_
      refine ⟨i - 1, [0], ⟨by omega, by omega, fun j hj1 hj2 => ?_⟩, by show i - 1 < i; omega, ⟨rfl, by simp, rfl, rfl, rfl, ⟨rfl, rfl, rfl, rfl, rfl, rfl, rfl, trivial⟩, ⟨rfl, trivial⟩⟩⟩
      by_cases e : j = i
      · rw [e, hnew]
        refine (z1.sub z3).mono ?_
        simp only [bs]; omega
      · exact g3 j hj1 (by omega)
    · refine SCmp.no (decide_eq_false (by omega)) ?_
      have hik : i = k := by omega
      subst hik
      refine SWrap.i64z ((i + 1 : Nat) : Int) (by omega) (by omega) ?_
      have hmix : mixD i (stepBT x i old) old = iter (stepBT x) (i + 1) f := by
        funext m
        rw [iter, ← hold]
        unfold mixD
        split
        · rfl
        · rename_i h; rw [stepBT, if_neg h]
      refine ⟨i + 1, [0], ⟨hk, fun j hj => ?_⟩, by show n - (i + 1) < n - i; omega, ⟨rfl, by simp, rfl, rfl, rfl, ⟨rfl, rfl, rfl, rfl, rfl, trivial⟩, ⟨congrArg (fun g => Blk.vec 37 3 (rats (lst (n + 1) g))) hmix.symm, trivial⟩⟩⟩
      rw [iter, ← hold]
      by_cases e : i < j
      · exact g3 j hj e
      · rw [stepBT, if_neg e]
        exact (h2 j hj).mono (bs_mono (Nat.le_succ _))
  · refine SCmp.no (decide_eq_false (by omega)) ?_
    have hkn : k = n := by omega
    subst hkn
    obtain ⟨c1, hc1⟩ : ∃ c1, c1 = iter (stepBT x) k f := ⟨_, rfl⟩
    rw [← hc1] at h2
    rw [← hc1]
    obtain ⟨F, hF⟩ : ∃ F : Nat → (Nat → Rat) → (Nat → Rat), F = fun r w => stepA2 k (k - 1 - r) (stepA1 x (k - 1 - r) w) := ⟨_, rfl⟩
    have hthr : momC x k f = iter F k c1 := by rw [momC, hc1, hF]
    rw [hthr]
    refine SWrap.i64z ((k : Int) - 1) rfl (by omega) ?_
    refine SLoop.mk (Nat × Int) (fun (j, z) => ([(0, .p (ratsM m X)), (5, .vec 0 3 0 (k + 1)), (6, .p (.int .i64 k)), (9, .p (.int .i64 z))], [.vec 37 3 (rats (lst (k + 1) (iter F (k - j) c1)))]))
      (fun (j, z) => j ≤ k ∧ z = (j : Int) - 1 ∧ ∀ i, i < k + 1 → Bz (iter F (k - j) c1 i) (bs t b (k + (k - j)))) (fun x => x.1) (k, (k : Int) - 1) [0] ⟨Nat.le_refl _, rfl, by rw [Nat.sub_self]; exact h2⟩
      ⟨rfl, by simp, rfl, rfl, rfl, ⟨rfl, rfl, rfl, rfl, trivial⟩, ⟨by rw [Nat.sub_self]; rfl, trivial⟩⟩ ?_
    intro ⟨j, z⟩ ⟨g1, g2, g3⟩
    by_cases hj : j = 0
    · subst hj
      refine SCmp.no (decide_eq_false (by omega)) ?_
      exact SRet.pure (frzR rfl (by rw [lst_length]))
    · obtain ⟨q, rfl⟩ := Nat.exists_eq_succ_of_ne_zero hj
      have hz : z = (q : Int) := by omega
      subst hz
      refine SCmp.yes (decide_eq_true (by omega)) ?_
      obtain ⟨old, hold⟩ : ∃ old, old = iter F (k - (q + 1)) c1 := ⟨_, rfl⟩
      have g3 : ∀ i, i < k + 1 → Bz (old i) (bs t b (k + (k - (q + 1)))) := by rw [hold]; exact g3
      have hBk := hB (k + (k - (q + 1))) (by omega)
      have hnext : iter F (k - q) c1 = stepA2 k q (stepA1 x q old) := by
        rw [show k - q = (k - (q + 1)) + 1 by omega, iter, ← hold, hF]
        show stepA2 k (k - 1 - (k - (q + 1))) (stepA1 x (k - 1 - (k - (q + 1))) old) = _
        rw [show k - 1 - (k - (q + 1)) = q by omega]
      obtain ⟨B, hBe⟩ : ∃ B, B = bs t b (k + (k - (q + 1))) := ⟨_, rfl⟩
      rw [← hBe] at g3 hBk
      have hBn : bs t b (k + (k - q)) = 2 * B + t := by rw [show k + (k - q) = k + (k - (q + 1)) + 1 by omega, hBe]; rfl
      refine SWrap.i64z ((q + 1 : Nat) : Int) (by omega) (by omega) ?_
      refine SLoop.mk Nat (fun i => ([(0, .p (ratsM m X)), (5, .vec 0 3 0 (k + 1)), (6, .p (.int .i64 k)), (9, .p (.int .i64 q)), (10, .p (.int .i64 i))], [.vec 37 3 (rats (lst (k + 1) (mixU i (stepA1 x q old) old)))]))
        (fun i => q + 1 ≤ i ∧ i ≤ k + 1 ∧ ∀ j, j < i → Bz (stepA1 x q old j) (B + (s + s + 1))) (fun i => k + 1 - i) (q + 1) [0]
        ⟨Nat.le_refl _, by omega, fun j hj => ?_⟩
        ⟨rfl, by simp, rfl, rfl, rfl, ⟨rfl, rfl, rfl, rfl, rfl, trivial⟩, ⟨?_, trivial⟩⟩ ?_
      · rw [stepA1, if_neg (by omega)]
        exact (g3 j (by omega)).mono (by omega)
      · show Blk.vec _ _ _ = Blk.vec _ _ _
        rw [show k - q.succ = k - (q + 1) from rfl, ← hold]
        refine vec_congr fun i hi => ?_
        unfold mixU
        split
        · rename_i h; rw [stepA1, if_neg (by omega)]
        · rfl
      · intro i ⟨e1, e2, e3⟩
        by_cases hi : i ≤ k
        · refine SCmp.yes (decide_eq_true (by omega)) ?_
          have hA := vapart_ok m X i (q + 1) (by omega) (by omega) hXB (by omega) (by omega)
          rw [hXg i (by omega), hXg (i - (q + 1)) (by omega)] at hA
          have hne : x i - x (i - (q + 1)) ≠ 0 := sub_ne fun e => by have := hd _ _ (by omega) (by omega) e; omega
          have z1 := g3 i (by omega)
          have z4 := (hx i (by omega)).sub (hx (i - (q + 1)) (by omega))
          have hnew : stepA1 x q old i = old i / (x i - x (i - (q + 1))) := if_pos (by omega)
          refine SDraw.mk (by kernel_rfl) ?_
          repeat refine SOp.mk _ _ (And.intro rfl rfl) rfl ?_
          refine SOp.mk _ _ (SPos.mk i rfl (by omega) (And.intro rfl rfl)) rfl ?_
          refine SOp.mk _ _ (SIdx.rv i (old i) rfl (by omega) (mixU_old (by omega)) (And.intro rfl rfl)) rfl ?_
          repeat refine SOp.mk _ _ (And.intro rfl rfl) rfl ?_
          refine SOp.mk _ _ (SWrap.i64z ((q + 1 : Nat) : Int) (by omega) (by omega) (And.intro rfl rfl)) rfl ?_
          refine SOp.mk _ _ (SCall.pure (hA) (And.intro rfl rfl)) rfl ?_
          refine SOp.mk _ _ (SCall.pure (vover_ok _ _ hne z1 z4 (by omega)) (And.intro rfl rfl)) rfl ?_
          refine SOp.mk _ _ (SPos.mk i rfl (by omega) (And.intro rfl rfl)) rfl ?_
          refine SOp.mk _ _ (SLt.rf (show i + 0 < k + 1 by omega) <| SEs.rv (mixU (i + 1) (stepA1 x q old) old) (by rw [← hnew]; exact mixU_upd) (And.intro rfl rfl)) rfl ?_
          refine SWrap.i64z ((i + 1 : Nat) : Int) (by omega) (by omega) ?_
          refine ⟨i + 1, [0], ⟨by omega, by omega, fun j hj => ?_⟩, by show k + 1 - (i + 1) < k + 1 - i; omega, ⟨rfl, by simp, rfl, rfl, rfl, ⟨rfl, rfl, rfl, rfl, rfl, trivial⟩, ⟨rfl, trivial⟩⟩⟩
          by_cases e : j = i
          · rw [e, hnew]; exact z1.div z4
          · exact e3 j (by omega)
        · refine SCmp.no (decide_eq_false (by omega)) ?_
          have hik : i = k + 1 := by omega
          subst hik
          obtain ⟨mid, hmid⟩ : ∃ mid, mid = stepA1 x q old := ⟨_, rfl⟩
          rw [← hmid] at e3 hnext
          rw [← hmid]
          refine SLoop.mk Nat (fun i => ([(0, .p (ratsM m X)), (5, .vec 0 3 0 (k + 1)), (6, .p (.int .i64 k)), (9, .p (.int .i64 q)), (11, .p (.int .i64 i))], [.vec 37 3 (rats (lst (k + 1) (mixU i (stepA2 k q mid) mid)))]))
            (fun i => q ≤ i ∧ i ≤ k ∧ ∀ j, j < i → Bz (stepA2 k q mid j) (2 * B + t)) (fun i => k - i) q [0]
            ⟨Nat.le_refl _, by omega, fun j hj => ?_⟩
            ⟨rfl, by simp, rfl, rfl, rfl, ⟨rfl, rfl, rfl, rfl, rfl, trivial⟩, ⟨vec_congr fun i hi => ?_, trivial⟩⟩ ?_
          · rw [stepA2, if_neg (by omega)]
            exact (e3 j (by omega)).mono (by omega)
          · unfold mixU
            rw [if_pos (show i < k + 1 from hi)]
            split
            · rename_i h; rw [stepA2, if_neg (by omega)]
            · rfl
          · intro i ⟨u1, u2, u3⟩
            by_cases hi : i < k
            · refine SCmp.yes (decide_eq_true (by omega)) ?_
              have z1 := e3 i (by omega)
              have z2 := e3 (i + 1) (by omega)
              have hnew : stepA2 k q mid i = mid i - mid (i + 1) := if_pos ⟨u1, hi⟩
              refine SDraw.mk (by kernel_rfl) ?_
              repeat refine SOp.mk _ _ (And.intro rfl rfl) rfl ?_
              refine SOp.mk _ _ (SPos.mk i rfl (by omega) (And.intro rfl rfl)) rfl ?_
              refine SOp.mk _ _ (SIdx.rv i (mid i) rfl (by omega) (mixU_old (by omega)) (And.intro rfl rfl)) rfl ?_
              repeat refine SOp.mk _ _ (And.intro rfl rfl) rfl ?_
              refine SOp.mk _ _ (SWrap.i64z ((i + 1 : Nat) : Int) (by omega) (by omega) (And.intro rfl rfl)) rfl ?_
              refine SOp.mk _ _ (SPos.mk (i + 1) rfl (by omega) (And.intro rfl rfl)) rfl ?_
              refine SOp.mk _ _ (SIdx.rv (i + 1) (mid (i + 1)) rfl (by omega) (mixU_old (by omega)) (And.intro rfl rfl)) rfl ?_
              refine SOp.mk _ _ (SCall.pure (ratsub_ok _ _ z1.sz z2.sz (by omega)) (And.intro rfl rfl)) rfl ?_
              refine SOp.mk _ _ (SPos.mk i rfl (by omega) (And.intro rfl rfl)) rfl ?_
              refine SOp.mk _ _ (SLt.rf (show i + 0 < k + 1 by omega) <| SEs.rv (mixU (i + 1) (stepA2 k q mid) mid) (by rw [← hnew]; exact mixU_upd) (And.intro rfl rfl)) rfl ?_
              refine SWrap.i64z ((i + 1 : Nat) : Int) (by omega) (by omega) ?_
              refine ⟨i + 1, [0], ⟨by omega, hi, fun j hj => ?_⟩, by show k - (i + 1) < k - i; omega, ⟨rfl, by simp, rfl, rfl, rfl, ⟨rfl, rfl, rfl, rfl, rfl, trivial⟩, ⟨rfl, trivial⟩⟩⟩
              by_cases e : j = i
              · rw [e, hnew]; exact (z1.sub z2).mono (by omega)
              · exact u3 j (by omega)
            · refine SCmp.no (decide_eq_false (by omega)) ?_
              have hik : i = k := by omega
              subst hik
              refine SWrap.i64z ((q : Int) - 1) rfl (by omega) ?_
              have hmix : mixU i (stepA2 i q mid) mid = iter F (i - q) c1 := by
                rw [hnext]
                funext m
                unfold mixU
                split
                · rfl
                · rename_i h; rw [stepA2, if_neg (by omega)]
              refine ⟨(q, (q : Int) - 1), [0], ⟨by omega, rfl, fun j hj => ?_⟩, Nat.lt_succ_self q, ⟨rfl, by simp, rfl, rfl, rfl, ⟨rfl, rfl, rfl, rfl, trivial⟩, ⟨congrArg (fun g => Blk.vec 37 3 (rats (lst (i + 1) g))) hmix.symm, trivial⟩⟩⟩
              rw [hnext, hBn]
              by_cases e : j < i
              · exact u3 j e
              · rw [stepA2, if_neg (by omega)]
                exact (e3 j (by omega)).mono (by omega)

theorem done_ok (g : FuncId) (m m' : Bool) (x f : List Rat) {k : Nat} (hx : Bl x k) (hk : k + k ≤ 1048576) (hn : x.length ≤ 1099511627776) (r : List Rat)
    (hc : rightZ x f = 0 → CallP Try.prog g [ratsM m x, ratsM m' f] (.p (ratsM false r)) []) :
    CallP Try.prog 69 [ratsM m x, ratsM m' f, .fn g []] (if rightZ x f = 0 then .tup [.p (ratsM false r), .p (.int .i64 0)] else .tup [.p (ratsM false []), .p (.int .i64 (rightZ x f))]) [] := by
  refine callG_of_vc (wr := wr0) Γok mixed Try.func69 (by kernel_rfl) rfl (by kernel_rfl) (le_of_ble rfl) (by simp) ?_
  refine SCall.pure (right_ok m m' x f hx hk hn) ?_
  by_cases h : rightZ x f = 0
  · rw [if_pos h]
    refine SCmp.no (neF h) ?_
    refine SCall.pure (pvs := [ratsM m x, ratsM m' f]) (hc h) ?_
    exact SRet.pure (.tup rfl fun i c d e1 e2 => by
      match i, e1, e2 with
      | 0, e1, e2 => cases e1; cases e2; exact .p _ (.sl _ _ (pers_rats _))
      | 1, e1, e2 => cases e1; cases e2; exact .p _ (.int _ _))
  · rw [if_neg h]
    refine SCmp.yes (neT h) ?_
    exact SRet.pure (.tup rfl fun i c d e1 e2 => by
      match i, e1, e2 with
      | 0, e1, e2 => cases e1; cases e2; exact .emp _
      | 1, e1, e2 => cases e1; cases e2; exact .p _ (.int _ _))

theorem nodup_inj {x : List Rat} (h : x.Nodup) {i j : Nat} (hi : i < x.length) (hj : j < x.length) (e : x.getD i 0 = x.getD j 0) : i = j := by
  have : x[i] = x[j] := by simpa [List.getD, hi, hj] using e
  exact (List.getElem_inj h).1 this
theorem rightZ_zero {x f : List Rat} (h : rightZ x f = 0) : x.length ≠ 0 ∧ x.length = f.length ∧ x.Nodup := by
  unfold rightZ at h
  split at h
  · cases h
  · rename_i h1
    split at h
    · exact ⟨by omega, by omega, by assumption⟩
    · cases h
/-- The polynomial through points; weights with moments. -/
def thrL (x f : List Rat) : List Rat := lst x.length (thrC (fun i => x.getD i 0) (x.length - 1) (fun i => f.getD i 0))
def momL (x f : List Rat) : List Rat := lst x.length (momC (fun i => x.getD i 0) (x.length - 1) (fun i => f.getD i 0))
theorem Through_ok (m m' : Bool) (x f : List Rat) {s b : Nat} (hx : Bl x s) (hf : Bl f b) (hs : s + s ≤ 1048576) (hb : bs (2 * s + 2) b (x.length + x.length) ≤ 1048576) (hn : x.length ≤ 1000000000) :
    CallP Try.prog 20 [ratsM m x, ratsM m' f] (if rightZ x f = 0 then .tup [.p (ratsM false (thrL x f)), .p (.int .i64 0)] else .tup [.p (ratsM false []), .p (.int .i64 (rightZ x f))]) [] := by
  refine callG_of_vc (wr := wr0) Γok mixed Try.func20 (by kernel_rfl) rfl (by kernel_rfl) (le_of_ble rfl) (by simp) ?_
  have hd := done_ok 70 m m' x f hx hs (by omega) (thrL x f) fun h => by
    obtain ⟨h0, h1, h2⟩ := rightZ_zero h
    obtain ⟨n, hn'⟩ : ∃ n, x.length = n + 1 := ⟨x.length - 1, by omega⟩
    have := through_ok m m' n (fun i => x.getD i 0) (fun i => f.getD i 0) (s := s) (b := b) (fun i hi => hx i (by omega)) (fun i hi => hf i (by omega)) (fun i j hi hj e => nodup_inj h2 (by omega) (by omega) e)
      (Nat.le_trans (bs_mono (by omega)) hb) (by omega)
    rw [← hn', ← lst_of, h1, ← lst_of] at this
    rw [thrL, h1, show f.length - 1 = n by omega]
    exact this
  by_cases h : rightZ x f = 0
  · rw [if_pos h] at hd ⊢
    refine SCall.pureT (pvs := [ratsM m x, ratsM m' f, .fn 70 []]) hd (fun _ => rfl) ?_
    exact SRet.pure (.tup rfl fun i c d e1 e2 => by
      match i, e1, e2 with
      | 0, e1, e2 => cases e1; cases e2; exact .p _ (.sl _ _ (pers_rats _))
      | 1, e1, e2 => cases e1; cases e2; exact .p _ (.int _ _))
  · rw [if_neg h] at hd ⊢
    refine SCall.pureT (pvs := [ratsM m x, ratsM m' f, .fn 70 []]) hd (fun _ => rfl) ?_
    exact SRet.pure (.tup rfl fun i c d e1 e2 => by
      match i, e1, e2 with
      | 0, e1, e2 => cases e1; cases e2; exact .p _ (.sl _ _ (pers_rats _))
      | 1, e1, e2 => cases e1; cases e2; exact .p _ (.int _ _))
theorem Moments_ok (m m' : Bool) (x f : List Rat) {s b : Nat} (hx : Bl x s) (hf : Bl f b) (hs : s + s ≤ 1048576) (hb : bs (4 * s + 4) b (x.length + x.length) ≤ 1048576) (hn : x.length ≤ 1000000000) :
    CallP Try.prog 27 [ratsM m x, ratsM m' f] (if rightZ x f = 0 then .tup [.p (ratsM false (momL x f)), .p (.int .i64 0)] else .tup [.p (ratsM false []), .p (.int .i64 (rightZ x f))]) [] := by
  refine callG_of_vc (wr := wr0) Γok mixed Try.func27 (by kernel_rfl) rfl (by kernel_rfl) (le_of_ble rfl) (by simp) ?_
  have hd := done_ok 77 m m' x f hx hs (by omega) (momL x f) fun h => by
    obtain ⟨h0, h1, h2⟩ := rightZ_zero h
    obtain ⟨n, hn'⟩ : ∃ n, x.length = n + 1 := ⟨x.length - 1, by omega⟩
    have := moments_ok m m' n (fun i => x.getD i 0) (fun i => f.getD i 0) (s := s) (b := b) (fun i hi => hx i (by omega)) (fun i hi => hf i (by omega)) (fun i j hi hj e => nodup_inj h2 (by omega) (by omega) e)
      (Nat.le_trans (bs_mono (by omega)) hb) (by omega)
    rw [← hn', ← lst_of, h1, ← lst_of] at this
    rw [momL, h1, show f.length - 1 = n by omega]
    exact this
  by_cases h : rightZ x f = 0
  · rw [if_pos h] at hd ⊢
    refine SCall.pureT (pvs := [ratsM m x, ratsM m' f, .fn 77 []]) hd (fun _ => rfl) ?_
    exact SRet.pure (.tup rfl fun i c d e1 e2 => by
      match i, e1, e2 with
      | 0, e1, e2 => cases e1; cases e2; exact .p _ (.sl _ _ (pers_rats _))
      | 1, e1, e2 => cases e1; cases e2; exact .p _ (.int _ _))
  · rw [if_neg h] at hd ⊢
    refine SCall.pureT (pvs := [ratsM m x, ratsM m' f, .fn 77 []]) hd (fun _ => rfl) ?_
    exact SRet.pure (.tup rfl fun i c d e1 e2 => by
      match i, e1, e2 with
      | 0, e1, e2 => cases e1; cases e2; exact .p _ (.sl _ _ (pers_rats _))
      | 1, e1, e2 => cases e1; cases e2; exact .p _ (.int _ _))
end Go.Proofs.Ytkaooejeljdbnaa
