/- VdmOrder: nodes and points in another order. -/
import Derived.Test.YthenhipnibkdeaaLw2
namespace Go.Proofs.Ythenhipnibkdeaa
open Go
set_option linter.unusedVariables false
set_option linter.unusedSimpArgs false
set_option maxRecDepth 10000

theorem nodup_lst {N : Nat} {g : Nat → Rat} : (lst N g).Nodup ↔ Inj g N := by
  constructor
  · intro h i j hi hj e
    exact nodup_inj h (by rw [lst_length]; exact hi) (by rw [lst_length]; exact hj) (by rw [lst_getD hi, lst_getD hj, e])
  · intro h
    refine List.pairwise_iff_getElem.2 fun i j hi hj hij e => ?_
    rw [lst_length] at hi hj
    have := h i j hi hj (by simpa [lst] using e)
    omega
theorem Inj.congr {r q : Nat → Rat} {k : Nat} (h : Inj r k) (e : ∀ i, i < k → r i = q i) : Inj q k := fun i j hi hj hq => h i j hi hj (by rw [e i hi, e j hj, hq])
theorem rightZ_lst {n : Nat} {x f : Nat → Rat} : (Inj x (n + 1) → rightZ (lst (n + 1) x) (lst (n + 1) f) = 0) ∧ (¬ Inj x (n + 1) → rightZ (lst (n + 1) x) (lst (n + 1) f) = 9) := by
  have h0 : ¬ ((lst (n + 1) x).length = 0 ∨ (lst (n + 1) x).length ≠ (lst (n + 1) f).length) := by rw [lst_length, lst_length]; omega
  constructor
  · intro h
    rw [rightZ, if_neg h0, if_pos (nodup_lst.2 h)]
  · intro h
    rw [rightZ, if_neg h0, if_neg (mt nodup_lst.1 h)]
theorem thrL_spec {n s b : Nat} {x f : Nat → Rat} (hd : Inj x (n + 1)) (hx : ∀ i, i < n + 1 → Bz (x i) s) (hf : ∀ i, i < n + 1 → Bz (f i) b) :
    ∃ c, thrL (lst (n + 1) x) (lst (n + 1) f) = lst (n + 1) c ∧ (∀ l, l ≤ n → pev n c (x l) = f l) ∧ ∀ i, i < n + 1 → Bz (c i) (bs (2 * s + 2) b (n + n)) := by
  have ex : ∀ i, i < n + 1 → x i = (lst (n + 1) x).getD i 0 := fun i hi => (lst_getD hi).symm
  have ef : ∀ i, i < n + 1 → f i = (lst (n + 1) f).getD i 0 := fun i hi => (lst_getD hi).symm
  refine ⟨thrC (fun i => (lst (n + 1) x).getD i 0) n (fun i => (lst (n + 1) f).getD i 0), by rw [thrL, lst_length]; rfl, fun l hl => ?_, fun i hi => ?_⟩
  · have := thr_interp (fun i => (lst (n + 1) x).getD i 0) (fun i => (lst (n + 1) f).getD i 0) (hd.congr ex) hl
    rw [lst_getD (show l < n + 1 by omega), lst_getD (show l < n + 1 by omega)] at this
    exact this
  · exact thr_bz (s := s) (b := b) (fun i hi => by rw [lst_getD hi]; exact hx i hi) (fun i hi => by rw [lst_getD hi]; exact hf i hi) i hi
theorem thrL_eq {n : Nat} {x f c : Nat → Rat} (hd : Inj x (n + 1)) (h : ∀ l, l ≤ n → pev n c (x l) = f l) : thrL (lst (n + 1) x) (lst (n + 1) f) = lst (n + 1) c := by
  have ex : ∀ i, i < n + 1 → x i = (lst (n + 1) x).getD i 0 := fun i hi => (lst_getD hi).symm
  rw [thrL, lst_length]
  refine lst_congr fun i hi => ?_
  exact thr_unique (n := n) (hd.congr ex) (fun l hl => by rw [lst_getD (show l < n + 1 by omega), lst_getD (show l < n + 1 by omega)]; exact h l hl) i (by omega)

theorem rot_lt {i k N : Nat} (hi : i < N) (hk : k < N) : (i + k) % N = if i + k < N then i + k else i + k - N := by
  split
  · rename_i h; exact Nat.mod_eq_of_lt h
  · rename_i h; rw [Nat.mod_eq_sub_mod (by omega), Nat.mod_eq_of_lt (by omega)]
theorem rot_inj {x : Nat → Rat} {k N : Nat} (hk : k < N) : Inj (fun i => x ((i + k) % N)) N ↔ Inj x N := by
  constructor
  · intro h a b ha hb e
    have ea : (if k ≤ a then a - k else a + N - k) < N := by split <;> omega
    have eb : (if k ≤ b then b - k else b + N - k) < N := by split <;> omega
    have ra : ((if k ≤ a then a - k else a + N - k) + k) % N = a := by rw [rot_lt ea hk]; split <;> split <;> omega
    have rb : ((if k ≤ b then b - k else b + N - k) + k) % N = b := by rw [rot_lt eb hk]; split <;> split <;> omega
    have := h _ _ ea eb (by show x (_ % N) = x (_ % N); rw [ra, rb, e])
    split at this <;> split at this <;> omega
  · intro h a b ha hb e
    have := h _ _ (Nat.mod_lt _ (by omega)) (Nat.mod_lt _ (by omega)) e
    rw [rot_lt ha hk, rot_lt hb hk] at this
    split at this <;> split at this <;> omega

theorem order_ok (m m' : Bool) (n by' : Int) (ns fs : List Int) (hn : I64 n) (hby : I64 by') (hns : I64s ns) (hfs : I64s fs) :
    CallP Try.prog 5 [.int .i64 n, .sl m 1 (intsP ns), .sl m' 1 (intsP fs), .int .i64 by'] (.p (.bool true)) [] := by
  refine callG_of_vc (wr := wr0) Γok mixed Try.func5 (by kernel_rfl) rfl (by kernel_rfl) (le_of_ble rfl) (by simp) ?_
  refine SCall.pure (known14_ok) ?_
  refine SCmp.no (rfl) ?_
  refine SCall.pure (within14_ok n 6 (by omega) (by omega)) ?_
  obtain ⟨N, hN⟩ : ∃ N : Nat, 1 + n % 6 = ((N + 1 : Nat) : Int) := ⟨(n % 6).toNat, by omega⟩
  have hN6 : N ≤ 5 := by omega
  refine SWrap.i64z ((N + 1 : Nat) : Int) hN (by omega) ?_
  refine SCall.pure (nodes14_ok m ns hns (N + 1) (by omega)) ?_
  refine SCall.pure (row2_ok m' fs hfs (N + 1) (by omega)) ?_
  refine SCall.pure (within14_ok by' ((N + 1 : Nat) : Int) (by omega) (by omega)) ?_
  obtain ⟨k, hk⟩ : ∃ k : Nat, by' % ((N + 1 : Nat) : Int) = (k : Int) := ⟨(by' % ((N + 1 : Nat) : Int)).toNat, by have := Int.emod_nonneg by' (show ((N + 1 : Nat) : Int) ≠ 0 by omega); omega⟩
  have hkN : k < N + 1 := by have := Int.emod_lt_of_pos by' (show (0 : Int) < ((N + 1 : Nat) : Int) by omega); omega
  rw [hk]
  obtain ⟨x, hx⟩ : ∃ x, x = nodeG ns := ⟨_, rfl⟩
  obtain ⟨f, hf⟩ : ∃ f, f = rowG fs := ⟨_, rfl⟩
  have bx : ∀ i, i < N + 1 → Bz (x i) 6 := fun i hi => by rw [hx]; exact nodeG_bz ns (by omega)
  have bf : ∀ i, i < N + 1 → Bz (f i) 5 := fun i hi => by rw [hf]; exact rowG_bz fs i
  rw [← hx, ← hf]
  obtain ⟨y, hy⟩ : ∃ y : Nat → Rat, y = fun i => x ((i + k) % (N + 1)) := ⟨_, rfl⟩
  obtain ⟨g, hg⟩ : ∃ g : Nat → Rat, g = fun i => f ((i + k) % (N + 1)) := ⟨_, rfl⟩
  refine SLoop.mkT Nat (fun i => ([(0, .p (.int .i64 ((N + 1 : Nat) : Int))), (9, .p (ratsM false (lst (N + 1) x))), (10, .p (ratsM false (lst (N + 1) f))), (11, .p (.int .i64 k)), (12, .vec 0 3 0 i), (13, .vec 1 3 0 i), (14, .p (.int .i64 i))], [.vec 37 3 (rats (lst i y)), .vec 37 3 (rats (lst i g))]))
    (fun i => i ≤ N + 1) (fun i => N + 1 - i) 0 [0, 1] _ _ (.step 12 37 3 rfl (.step 13 37 3 rfl (.done _ _))) (Nat.zero_le _)
    ⟨rfl, by simp, rfl, rfl, rfl, ⟨rfl, rfl, rfl, rfl, rfl, rfl, rfl, trivial⟩, ⟨rfl, rfl, trivial⟩⟩ ?_
  intro i h1
  have h1 : i ≤ N + 1 := h1
  by_cases hi : i < N + 1
  · refine SCmp.yes (decide_eq_true (by omega)) ?_
    obtain ⟨r, hr⟩ : ∃ r, r = (i + k) % (N + 1) := ⟨_, rfl⟩
    have hrl : r < N + 1 := by rw [hr]; exact Nat.mod_lt _ (by omega)
    have ny : rats (lst i y) ++ [ratP (x r)] = rats (lst (i + 1) y) := by rw [← lst_snoc, rats, rats, List.map_append, hy, hr]; rfl
    have ng : rats (lst i g) ++ [ratP (f r)] = rats (lst (i + 1) g) := by rw [← lst_snoc, rats, rats, List.map_append, hg, hr]; rfl
    refine SDraw.mkX (by kernel_rfl) ?_
    repeat refine SOp.mk _ _ (And.intro rfl rfl) rfl ?_
    refine SOp.mk _ _ (SWrap.i64z ((i + k : Nat) : Int) (by omega) (by omega) (And.intro rfl rfl)) rfl ?_
    repeat refine SOp.mk _ _ (And.intro rfl rfl) rfl ?_
    refine SOp.mk _ _ (SRem (b := N + 1) (by omega) hr (And.intro rfl rfl)) rfl ?_
    refine SOp.mk _ _ (SIdx.rf r rfl hrl (And.intro rfl rfl)) rfl ?_
    repeat refine SOp.mk _ _ (And.intro rfl rfl) rfl ?_
    refine SOp.mk _ _ (SEqN.mk (by simp [lst]) <| SView.all rfl <| SRoom.mk (by simp [lst]; omega) (by simp [lst]; omega) <| SEs.mk _ ny <| SZN.mk (i + 1) (by simp [lst]) (And.intro rfl rfl)) rfl ?_
    repeat refine SOp.mk _ _ (And.intro rfl rfl) rfl ?_
    refine SOp.mk _ _ (SWrap.i64z ((i + k : Nat) : Int) (by omega) (by omega) (And.intro rfl rfl)) rfl ?_
    repeat refine SOp.mk _ _ (And.intro rfl rfl) rfl ?_
    refine SOp.mk _ _ (SRem (b := N + 1) (by omega) hr (And.intro rfl rfl)) rfl ?_
    refine SOp.mk _ _ (SIdx.rf r rfl hrl (And.intro rfl rfl)) rfl ?_
    repeat refine SOp.mk _ _ (And.intro rfl rfl) rfl ?_
    refine SOp.mk _ _ (SEqN.mk (by simp [lst]) <| SView.all rfl <| SRoom.mk (by simp [lst]; omega) (by simp [lst]; omega) <| SEs.mk _ ng <| SZN.mk (i + 1) (by simp [lst]) (And.intro rfl rfl)) rfl ?_
    repeat refine SOp.mk _ _ (And.intro rfl rfl) rfl ?_
    refine SFin.mk (by kernel_rfl) ?_
    refine SWrap.i64z ((i + 1 : Nat) : Int) (by omega) (by omega) ?_
    exact ⟨i + 1, [3, 5], hi, by show N + 1 - (i + 1) < N + 1 - i; omega, ⟨rfl, by simp, rfl, rfl, rfl, ⟨rfl, rfl, rfl, rfl, rfl, rfl, rfl, trivial⟩, ⟨rfl, rfl, trivial⟩⟩⟩
  · refine SCmp.no (decide_eq_false (by omega)) ?_
    have hiN : i = N + 1 := by omega
    subst hiN
    have bsl : ∀ (u v : Nat → Rat), bs (2 * 6 + 2) 5 ((lst (N + 1) u).length + (lst (N + 1) u).length) ≤ 1048576 := fun u v => Nat.le_trans (bs_mono (j := 12) (by rw [lst_length]; omega)) (by decide)
    have hT1 := Through_ok false false (lst (N + 1) x) (lst (N + 1) f) (s := 6) (b := 5) (Bl.lst bx) (Bl.lst bf) (by omega) (bsl x f) (by rw [lst_length]; omega)
    have by2 : ∀ i, i < N + 1 → Bz (y i) 6 := fun i hi => by rw [hy]; exact bx _ (Nat.mod_lt _ (by omega))
    have bg : ∀ i, i < N + 1 → Bz (g i) 5 := fun i hi => by rw [hg]; exact bf _ (Nat.mod_lt _ (by omega))
    have hT2 := Through_ok true true (lst (N + 1) y) (lst (N + 1) g) (s := 6) (b := 5) (Bl.lst by2) (Bl.lst bg) (by omega) (bsl y g) (by rw [lst_length]; omega)
    have hxy : Inj y (N + 1) ↔ Inj x (N + 1) := by rw [hy]; exact rot_inj hkN
    have hap := apart14_ok false (lst (N + 1) x) (Bl.lst bx) (by omega) (by rw [lst_length]; omega)
    by_cases hd : Inj x (N + 1)
    · rw [if_pos (rightZ_lst.1 hd)] at hT1
      rw [if_pos (rightZ_lst.1 (hxy.2 hd))] at hT2
      obtain ⟨c, hc, hc2, hcb⟩ := thrL_spec hd bx bf
      have e2 : thrL (lst (N + 1) y) (lst (N + 1) g) = lst (N + 1) c := thrL_eq (hxy.2 hd) fun l hl => by rw [hy, hg]; exact hc2 _ (by have := Nat.mod_lt (l + k) (show 0 < N + 1 by omega); omega)
      rw [hc] at hT1
      rw [e2] at hT2
      rw [decide_eq_true (nodup_lst.2 hd)] at hap
      have hbc : Bl (lst (N + 1) c) (bs (2 * 6 + 2) 5 10) := Bl.lst fun i hi => (hcb i hi).mono (bs_mono (by omega))
      have hR := rrows_ok false false (lst (N + 1) c) (lst (N + 1) c) hbc hbc (by decide) (by rw [lst_length]; omega)
      rw [decide_eq_true rfl] at hR
      refine SCall.pureT (hT1) (fun _ => rfl) ?_
      refine SView.rf ?_
      refine SView.rf ?_
      refine SCall.pureT (pvs := [ratsM true (lst (N + 1) y), ratsM true (lst (N + 1) g)]) hT2 (fun _ => rfl) ?_
      refine SCmp.yes (rfl) ?_
      refine SCall.pure (hR) ?_
      refine SCond.mk (fun _ => ?_) (fun h => by cases h)
      refine SCmp.yes (rfl) ?_
      refine SCall.pure (hap) ?_
      refine SCmp.yes (rfl) ?_
      exact SRet.pure (.tf true)
    · rw [if_neg (by rw [rightZ_lst.2 hd]; decide), rightZ_lst.2 hd] at hT1
      rw [if_neg (by rw [rightZ_lst.2 (mt hxy.1 hd)]; decide), rightZ_lst.2 (mt hxy.1 hd)] at hT2
      rw [decide_eq_false (mt nodup_lst.1 hd)] at hap
      have hb0 : Bl [] 0 := fun i hi => absurd hi (Nat.not_lt_zero _)
      have hR := rrows_ok false false [] [] hb0 hb0 (by decide) (by simp)
      rw [decide_eq_true rfl] at hR
      refine SCall.pureT (hT1) (fun _ => rfl) ?_
      refine SView.rf ?_
      refine SView.rf ?_
      refine SCall.pureT (pvs := [ratsM true (lst (N + 1) y), ratsM true (lst (N + 1) g)]) hT2 (fun _ => rfl) ?_
      refine SCmp.yes (rfl) ?_
      refine SCall.pure (hR) ?_
      refine SCond.mk (fun _ => ?_) (fun h => by cases h)
      refine SCmp.no (rfl) ?_
      refine SCall.pure (hap) ?_
      refine SCmp.yes (rfl) ?_
      exact SRet.pure (.tf true)
end Go.Proofs.Ythenhipnibkdeaa
