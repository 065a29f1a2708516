/- VdmLeja: the order of nodes. -/
import Derived.Test.YthenhipnibkdeaaJw2
namespace Go.Proofs.Ythenhipnibkdeaa
open Go
set_option linter.unusedVariables false
set_option linter.unusedSimpArgs false
set_option maxRecDepth 10000

theorem take_succN {l : List Nat} {q : Nat} (h : q < l.length) : l.take (q + 1) = l.take q ++ [l.getD q 0] := by
  rw [List.take_add_one]; simp [List.getD, List.getElem?_eq_getElem h]
theorem mem_getD {l : List Nat} {q : Nat} (h : q < l.length) : l.getD q 0 ∈ l := by
  rw [List.getD, List.getElem?_eq_getElem h]; exact List.getElem_mem _

theorem size14_ok (m m' : Bool) (n : Nat) (x : Nat → Rat) (l : List Nat) (ahead k : Nat) {s : Nat} (hx : ∀ i, i < n → Bz (x i) s) (hl : ∀ q ∈ l, q < n) (hk : k < l.length) (ha : ahead ≤ l.length) (hb : l.length * (s + s + 1) + s + 1 ≤ 500000) (hn : l.length ≤ 1000000) :
    CallP Try.prog 32 [ratsM m (lst n x), .sl m' 1 (nats l), .int .i64 ahead, .int .i64 k] (.p (ratP (score x (l.take ahead) (l.getD k 0)))) [] := by
  refine callG_of_vc (wr := wr0) Γok mixed Try.func32 (by kernel_rfl) rfl (by kernel_rfl) (le_of_ble rfl) (by simp) ?_
  obtain ⟨X, hX⟩ : ∃ X, X = lst n x := ⟨_, rfl⟩
  have hXl : X.length = n := by rw [hX, lst_length]
  have hXg : ∀ i, i < n → X.getD i 0 = x i := fun i hi => by rw [hX, lst_getD hi]
  rw [← hX]
  obtain ⟨i, hi⟩ : ∃ i, i = l.getD k 0 := ⟨_, rfl⟩
  have hin : i < n := by rw [hi]; exact hl _ (mem_getD hk)
  by_cases h0 : ahead = 0
  · refine SCmp.yes (eqT (by omega)) ?_
    refine SIdx.nb k rfl hk ?_
    rw [← hi]
    refine SIdx.rb i rfl (by omega) ?_
    rw [hXg i hin]
    refine SCall.pure (rabs_ok (x i) (hx i hin) (by omega)) ?_
    subst h0
    rw [List.take_zero, score_nil]
    exact SRet.pure (.p _ (pers_rat _ _ _))
  · refine SCmp.no (eqF (by omega)) ?_
    refine SCall.pure (rint_ok 1 (by omega)) ?_
    refine SLoop.mk Nat (fun q => ([(0, .p (ratsM m X)), (1, .p (.sl m' 1 (nats l))), (2, .p (.int .i64 ahead)), (3, .p (.int .i64 k)), (8, .bptr 0 0), (9, .bptr 1 0), (10, .p (.int .i64 q))], [zbox, rbox (scoreL x i (l.take q))]))
      (fun q => q ≤ ahead) (fun q => ahead - q) 0 [0, 1] (Nat.zero_le _) ⟨rfl, by simp, rfl, rfl, rfl, ⟨rfl, rfl, rfl, rfl, rfl, rfl, rfl, trivial⟩, ⟨rfl, rfl, trivial⟩⟩ ?_
    intro q hq
    have hq : q ≤ ahead := hq
    by_cases hqa : q < ahead
    · refine SCmp.yes (decide_eq_true (by omega)) ?_
      obtain ⟨t, ht⟩ : ∃ t, t = l.getD q 0 := ⟨_, rfl⟩
      have htn : t < n := by rw [ht]; exact hl _ (mem_getD (by omega))
      have z1 := (hx i hin).sub (hx t htn)
      have zp : Bz (scoreL x i (l.take q)) (1 + l.length * (s + s + 1)) := (scoreL_bz hx hin (l.take q) 1 1 (fun k hk => hl k (List.mem_of_mem_take hk)) bz_one).mono (by
        have : (l.take q).length * (s + s + 1) ≤ l.length * (s + s + 1) := Nat.mul_le_mul_right _ (by simp; omega)
        omega)
      have hstep : scoreL x i (l.take (q + 1)) = scoreL x i (l.take q) * (x i - x t).abs := by rw [take_succN (by omega), ← ht, scoreL_snoc]
      have hpos : 1 ≤ l.length := by omega
      have hmul : s + s + 1 ≤ l.length * (s + s + 1) := Nat.le_mul_of_pos_left _ hpos
      refine SDraw.mk (by kernel_rfl) ?_
      repeat refine SOp.mk _ _ (And.intro rfl rfl) rfl ?_
      refine SOp.mk _ _ (SIdx.nb k rfl hk (And.intro rfl rfl)) rfl ?_
      rw [← hi]
      repeat refine SOp.mk _ _ (And.intro rfl rfl) rfl ?_
      refine SOp.mk _ _ (SIdx.rb i rfl (by omega) (And.intro rfl rfl)) rfl ?_
      repeat refine SOp.mk _ _ (And.intro rfl rfl) rfl ?_
      rw [hXg i hin]
      refine SOp.mk _ _ (SIdx.nb q rfl (by omega) (And.intro rfl rfl)) rfl ?_
      rw [← ht]
      repeat refine SOp.mk _ _ (And.intro rfl rfl) rfl ?_
      refine SOp.mk _ _ (SIdx.rb t rfl (by omega) (And.intro rfl rfl)) rfl ?_
      repeat refine SOp.mk _ _ (And.intro rfl rfl) rfl ?_
      rw [hXg t htn]
      refine SOp.mk _ _ (SCall.pure (rsubq_ok _ _ (hx i hin) (hx t htn) (by omega)) (And.intro rfl rfl)) rfl ?_
      refine SOp.mk _ _ (SCall.pure (rabs_ok _ z1 (by omega)) (And.intro rfl rfl)) rfl ?_
      refine SOp.mk _ _ (SCall.pure (rmulq_ok _ _ zp z1.abs (by omega)) (And.intro rfl rfl)) rfl ?_
      repeat refine SOp.mk _ _ (And.intro rfl rfl) rfl ?_
      refine SWrap.i64z ((q + 1 : Nat) : Int) (by omega) (by omega) ?_
      exact ⟨q + 1, [0, 1], hqa, by show ahead - (q + 1) < ahead - q; omega, ⟨rfl, by simp, rfl, rfl, rfl, ⟨rfl, rfl, rfl, rfl, rfl, rfl, rfl, trivial⟩, ⟨rfl, congrArg rbox hstep, trivial⟩⟩⟩
    · refine SCmp.no (decide_eq_false (by omega)) ?_
      have : q = ahead := by omega
      subst this
      rw [← hi, score_ne x i (fun e => by have := congrArg List.length e; rw [List.length_take, List.length_nil] at this; omega)]
      exact SRet.pure (.p _ (pers_rat _ _ _))

theorem leja14_ok (m : Bool) (n : Int) (ns : List Int) (hn : I64 n) (hns : I64s ns) : CallP Try.prog 9 [.int .i64 n, .sl m 1 (intsP ns)] (.p (.bool true)) [] := by
  refine callG_of_vc (wr := wr0) Γok mixed Try.func9 (by kernel_rfl) rfl (by kernel_rfl) (le_of_ble rfl) (by simp) ?_
  refine SCall.pure (known14_ok) ?_
  refine SCmp.no (rfl) ?_
  refine SCall.pure (within14_ok n 9 (by omega) (by omega)) ?_
  obtain ⟨N, hN⟩ : ∃ N : Nat, n % 9 = (N : Int) := ⟨(n % 9).toNat, by omega⟩
  have hN9 : N ≤ 8 := by omega
  rw [hN]
  refine SCall.pure (nodes14_ok m ns hns N (by omega)) ?_
  obtain ⟨x, hx⟩ : ∃ x, x = nodeG ns := ⟨_, rfl⟩
  have bx : ∀ i, i < N → Bz (x i) 6 := fun i hi => by rw [hx]; exact nodeG_bz ns (by omega)
  rw [← hx]
  refine SCall.pure (Leja_ok false N x bx (by omega) (by omega)) ?_
  refine SCall.pure (rLeja_ok false N x bx (by omega) (by omega)) ?_
  obtain ⟨l, hl⟩ : ∃ l, l = leja x N N := ⟨_, rfl⟩
  have hll : l.length = N := by rw [hl, leja_length]
  have hln : ∀ q ∈ l, q < N := by rw [hl]; exact leja_lt x N N (Nat.le_refl _)
  rw [← hl]
  refine SZ.mk (N : Int) (by simp [hll]) ?_
  refine SZ.mk (N : Int) (by simp [lst]) ?_
  refine SCmp.no (neF rfl) ?_
  refine SZ.mk (N : Int) (by simp [hll]) ?_
  refine SZ.mk (N : Int) (by simp [hll]) ?_
  refine SCmp.no (neF rfl) ?_
  refine SLoop.mk Nat (fun i => ([(5, .p (ratsM false (lst N x))), (6, .p (.sl false 1 (nats l))), (7, .p (.sl false 1 (nats l))), (8, .p (.int .i64 i))], [])) (fun i => i ≤ N) (fun i => N - i) 0 [] (Nat.zero_le _) ⟨rfl, .nil, rfl, rfl, rfl, ⟨rfl, rfl, rfl, rfl, trivial⟩, trivial⟩ ?_
  intro i hi
  have hi : i ≤ N := hi
  refine SZ.mk (N : Int) (by simp [hll]) ?_
  by_cases hiN : i < N
  · refine SCmp.yes (decide_eq_true (by omega)) ?_
    refine SDraw.mk (by kernel_rfl) ?_
    repeat refine SOp.mk _ _ (And.intro rfl rfl) rfl ?_
    refine SOp.mk _ _ (SIdx.nb i rfl (by omega) (And.intro rfl rfl)) rfl ?_
    repeat refine SOp.mk _ _ (And.intro rfl rfl) rfl ?_
    refine SOp.mk _ _ (SIdx.nb i rfl (by omega) (And.intro rfl rfl)) rfl ?_
    repeat refine SOp.mk _ _ (And.intro rfl rfl) rfl ?_
    refine SOp.mk _ _ (SCmp.no (neF rfl) (And.intro rfl rfl)) rfl ?_
    refine SWrap.i64z ((i + 1 : Nat) : Int) (by omega) (by omega) ?_
    exact ⟨i + 1, [], hiN, by show N - (i + 1) < N - i; omega, ⟨rfl, .nil, rfl, rfl, rfl, ⟨rfl, rfl, rfl, rfl, trivial⟩, trivial⟩⟩
  · refine SCmp.no (decide_eq_false (by omega)) ?_
    refine SLoop.mk Nat (fun i => ([(5, .p (ratsM false (lst N x))), (6, .p (.sl false 1 (nats l))), (9, .p (.int .i64 i))], [])) (fun i => i ≤ N) (fun i => N - i) 0 [] (Nat.zero_le _) ⟨rfl, .nil, rfl, rfl, rfl, ⟨rfl, rfl, rfl, trivial⟩, trivial⟩ ?_
    intro i hi
    have hi : i ≤ N := hi
    refine SZ.mk (N : Int) (by simp [hll]) ?_
    by_cases hiN : i < N
    · refine SCmp.yes (decide_eq_true (by omega)) ?_
      refine SWrap.i64z ((i + 1 : Nat) : Int) (by omega) (by omega) ?_
      refine SLoop.mk Nat (fun k => ([(5, .p (ratsM false (lst N x))), (6, .p (.sl false 1 (nats l))), (9, .p (.int .i64 i)), (10, .p (.int .i64 k))], [])) (fun k => i < k ∧ k ≤ N) (fun k => N - k) (i + 1) [] ⟨Nat.lt_succ_self _, hiN⟩ ⟨rfl, .nil, rfl, rfl, rfl, ⟨rfl, rfl, rfl, rfl, trivial⟩, trivial⟩ ?_
      intro k ⟨hik, hkN⟩
      refine SZ.mk (N : Int) (by simp [hll]) ?_
      by_cases hk : k < N
      · refine SCmp.yes (decide_eq_true (by omega)) ?_
        have hbest := leja_best x hik hk
        rw [← hl] at hbest
        have htk : l.take i = leja x N i := by rw [hl]; exact leja_take x N (by omega)
        refine SCall.pure (size14_ok false false N x l i i bx hln (by omega) (by omega) (by omega) (by omega)) ?_
        refine SCall.pure (size14_ok false false N x l i k bx hln (by omega) (by omega) (by omega) (by omega)) ?_
        rw [htk]
        obtain ⟨p, hp⟩ : ∃ p, p = score x (leja x N i) (l.getD i 0) := ⟨_, rfl⟩
        obtain ⟨q, hq⟩ : ∃ q, q = score x (leja x N i) (l.getD k 0) := ⟨_, rfl⟩
        have hlt : ∀ r ∈ leja x N i, r < N := leja_lt x N i (by omega)
        have zp : Bz p 200 := by rw [hp]; exact (score_bz bx (hln _ (mem_getD (by omega))) hlt (by rw [leja_length]; omega)).mono (by omega)
        have zq : Bz q 200 := by rw [hq]; exact (score_bz bx (hln _ (mem_getD (by omega))) hlt (by rw [leja_length]; omega)).mono (by omega)
        rw [← hp, ← hq] at hbest
        rw [← hp, ← hq]
        have hS := rsame_ok p q zp zq (by omega)
        refine SDraw.mk (by kernel_rfl) ?_
        repeat refine SOp.mk _ _ (And.intro rfl rfl) rfl ?_
        refine SOp.mk _ _ (SCall.pure (rcmpq_ok p q zp zq (by omega)) (And.intro rfl rfl)) rfl ?_
        refine SOp.mk _ _ (SCmp.no (decide_eq_false (mt cmpQ_neg.1 (Rat.not_lt.2 hbest.1))) (And.intro rfl rfl)) rfl ?_
        repeat refine SOp.mk _ _ (And.intro rfl rfl) rfl ?_
        by_cases e : p = q
        · rw [decide_eq_true e] at hS
          refine SOp.mk _ _ (SCall.pure (hS) (And.intro rfl rfl)) rfl ?_
          repeat refine SOp.mk _ _ (And.intro rfl rfl) rfl ?_
          refine SOp.mk _ _ (SIdx.nb i rfl (by omega) (And.intro rfl rfl)) rfl ?_
          repeat refine SOp.mk _ _ (And.intro rfl rfl) rfl ?_
          refine SOp.mk _ _ (SIdx.nb k rfl (by omega) (And.intro rfl rfl)) rfl ?_
          repeat refine SOp.mk _ _ (And.intro rfl rfl) rfl ?_
          refine SOp.mk _ _ (SCmp.no (decide_eq_false (by have := hbest.2 e.symm; omega)) (And.intro rfl rfl)) rfl ?_
          repeat refine SOp.mk _ _ (And.intro rfl rfl) rfl ?_
          refine SWrap.i64z ((k + 1 : Nat) : Int) (by omega) (by omega) ?_
          exact ⟨k + 1, [], ⟨by omega, hk⟩, by show N - (k + 1) < N - k; omega, ⟨rfl, .nil, rfl, rfl, rfl, ⟨rfl, rfl, rfl, rfl, trivial⟩, trivial⟩⟩
        · rw [decide_eq_false e] at hS
          refine SOp.mk _ _ (SCall.pure (hS) (And.intro rfl rfl)) rfl ?_
          repeat refine SOp.mk _ _ (And.intro rfl rfl) rfl ?_
          refine SWrap.i64z ((k + 1 : Nat) : Int) (by omega) (by omega) ?_
          exact ⟨k + 1, [], ⟨by omega, hk⟩, by show N - (k + 1) < N - k; omega, ⟨rfl, .nil, rfl, rfl, rfl, ⟨rfl, rfl, rfl, rfl, trivial⟩, trivial⟩⟩
      · refine SCmp.no (decide_eq_false (by omega)) ?_
        refine SWrap.i64z ((i + 1 : Nat) : Int) (by omega) (by omega) ?_
        exact ⟨i + 1, [], hiN, by show N - (i + 1) < N - i; omega, ⟨rfl, .nil, rfl, rfl, rfl, ⟨rfl, rfl, rfl, trivial⟩, trivial⟩⟩
    · refine SCmp.no (decide_eq_false (by omega)) ?_
      exact SRet.pure (.tf true)
end Go.Proofs.Ythenhipnibkdeaa
