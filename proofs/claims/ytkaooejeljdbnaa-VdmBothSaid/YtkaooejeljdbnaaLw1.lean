/- What the statements hand to the program: small numbers, rows, nodes. -/
import Derived.Test.YtkaooejeljdbnaaVw4
namespace Go.Proofs.Ytkaooejeljdbnaa
open Go
set_option linter.unusedVariables false
set_option linter.unusedSimpArgs false
set_option maxRecDepth 10000

theorem within_aux {a n : Int} (hn : 0 < n) : (if a.tmod n < 0 then a.tmod n + n else a.tmod n) = a % n := by
  rw [Int.tmod_eq_emod]
  have h1 := Int.emod_nonneg a (show n ≠ 0 by omega)
  have h2 := Int.emod_lt_of_pos a hn
  have h3 : ((n.natAbs : Nat) : Int) = n := Int.natAbs_of_nonneg (by omega)
  split
  · rw [show a % n - ((0 : Nat) : Int) = a % n by simp, if_neg (by omega)]
  · rw [h3, if_pos (by omega)]; omega
theorem tmod_bd (a : Int) {n : Int} (hn : 0 < n) : -n ≤ a.tmod n ∧ a.tmod n < n := by
  have := within_aux (a := a) hn
  have h1 := Int.emod_nonneg a (show n ≠ 0 by omega)
  have h2 := Int.emod_lt_of_pos a hn
  split at this
  · omega
  · omega
theorem within14_ok (a n : Int) (hn : 0 < n) (hn' : n < 4611686018427387904) : CallP Try.prog 17 [.int .i64 a, .int .i64 n] (.p (.int .i64 (a % n))) [] := by
  refine callG_of_vc (wr := wr0) Γok mixed Try.func17 (by kernel_rfl) rfl (by kernel_rfl) (le_of_ble rfl) (by simp) ?_
  have hw := within_aux (a := a) hn
  have hb := tmod_bd a hn
  obtain ⟨r, hr⟩ : ∃ r, r = a.tmod n := ⟨_, rfl⟩
  rw [← hr] at hw hb
  refine SNe.mk (by omega) ?_
  refine SZ.mk r hr.symm ?_
  by_cases h : r < 0
  · refine SCmp.yes (decide_eq_true (by omega)) ?_
    refine SWrap.i64z (r + n) rfl (by omega) ?_
    rw [if_pos h] at hw
    rw [← hw]
    exact SRet.pure (.p _ (.int _ _))
  · refine SCmp.no (decide_eq_false (by omega)) ?_
    rw [if_neg h] at hw
    rw [← hw]
    exact SRet.pure (.p _ (.int _ _))
theorem within2_ok (a n : Int) (hn : 0 < n) (hn' : n < 4611686018427387904) : CallP Try.prog 116 [.int .i64 a, .int .i64 n] (.p (.int .i64 (a % n))) [] := by
  refine callG_of_vc (wr := wr0) Γok mixed Try.func116 (by kernel_rfl) rfl (by kernel_rfl) (le_of_ble rfl) (by simp) ?_
  have hw := within_aux (a := a) hn
  have hb := tmod_bd a hn
  obtain ⟨r, hr⟩ : ∃ r, r = a.tmod n := ⟨_, rfl⟩
  rw [← hr] at hw hb
  refine SNe.mk (by omega) ?_
  refine SZ.mk r hr.symm ?_
  by_cases h : r < 0
  · refine SCmp.yes (decide_eq_true (by omega)) ?_
    refine SWrap.i64z (r + n) rfl (by omega) ?_
    rw [if_pos h] at hw
    rw [← hw]
    exact SRet.pure (.p _ (.int _ _))
  · refine SCmp.no (decide_eq_false (by omega)) ?_
    rw [if_neg h] at hw
    rw [← hw]
    exact SRet.pure (.p _ (.int _ _))

/-- A small number, of a raw one. -/
def smallQ (n : Int) : Rat := mkQ (decide (n % 41 - 20 < 0) != decide (1 + n.tdiv 41 % 5 < 0)) (n % 41 - 20).natAbs (1 + n.tdiv 41 % 5).natAbs
theorem smallQ_bz (n : Int) : Bz (smallQ n) 5 := by
  have h1 : (1 + n.tdiv 41 % 5).natAbs ≤ 5 ∧ (1 + n.tdiv 41 % 5).natAbs ≠ 0 := by omega
  have h2 : (n % 41 - 20).natAbs ≤ 20 := by omega
  exact Bz.mkQ h1.2 (bitLen_le (Nat.lt_of_le_of_lt h2 (by decide))) (bitLen_le (Nat.lt_of_le_of_lt h1.1 (by decide)))
theorem small2_ok (n : Int) (hn : -9223372036854775808 ≤ n ∧ n < 9223372036854775808) : CallP Try.prog 65 [.int .i64 n] (.p (ratP (smallQ n))) [] := by
  refine callG_of_vc (wr := wr0) Γok mixed Try.func65 (by kernel_rfl) rfl (by kernel_rfl) (le_of_ble rfl) (by simp) ?_
  refine SCall.pure (within2_ok n 41 (by omega) (by omega)) ?_
  refine SWrap.i64z (n % 41 - 20) rfl (by omega) ?_
  have hq : -9223372036854775808 ≤ n.tdiv 41 ∧ n.tdiv 41 < 9223372036854775808 := by
    rw [Int.tdiv_eq_ediv, show Int.sign 41 = 1 from rfl]; split <;> omega
  refine SNe.mk (by omega) ?_
  refine SWrap.i64z (n.tdiv 41) rfl hq ?_
  refine SCall.pure (within2_ok (n.tdiv 41) 5 (by omega) (by omega)) ?_
  refine SWrap.i64z (1 + n.tdiv 41 % 5) rfl (by omega) ?_
  refine SCall.pureT (rof2_ok (n % 41 - 20) (1 + n.tdiv 41 % 5) (by omega) (by omega) (by omega)) (fun _ => rfl) ?_
  exact SRet.pure (.p _ (pers_rat _ _ _))

def I64 (n : Int) : Prop := -9223372036854775808 ≤ n ∧ n < 9223372036854775808
def I64s (l : List Int) : Prop := ∀ i, I64 (l.getD i 0)
def rowG (ns : List Int) (i : Nat) : Rat := smallQ (if i < ns.length then ns.getD i 0 else 3 * i + 1)
def nodeG (ns : List Int) (i : Nat) : Rat := if i < ns.length then smallQ (ns.getD i 0) else (((7 * i : Nat) : Int) : Rat)
theorem rowG_bz (ns : List Int) (i : Nat) : Bz (rowG ns i) 5 := smallQ_bz _
theorem int_bz {n : Int} {k : Nat} (h : bitLen n.natAbs ≤ k) (hk : 1 ≤ k) : Bz (n : Rat) k := ⟨by simpa using h, by rw [Rat.den_intCast, show bitLen 1 = 1 by decide]; exact hk⟩
theorem nodeG_bz (ns : List Int) {i : Nat} (h : i < 9) : Bz (nodeG ns i) 6 := by
  unfold nodeG
  split
  · exact (smallQ_bz _).mono (by omega)
  · exact int_bz (bitLen_le (by rw [Int.natAbs_natCast]; show 7 * i < 64; omega)) (by omega)
theorem lst_snoc {i : Nat} {g : Nat → Rat} : lst i g ++ [g i] = lst (i + 1) g := by rw [lst, lst, List.range_succ, List.map_append]; rfl

theorem row2_ok (m : Bool) (ns : List Int) (hns : I64s ns) (n : Nat) (hn : n ≤ 1000000) : CallP Try.prog 19 [.sl m 1 (intsP ns), .int .i64 n] (.p (ratsM false (lst n (rowG ns)))) [] := by
  refine callG_of_vc (wr := wr0) Γok mixed Try.func19 (by kernel_rfl) rfl (by kernel_rfl) (le_of_ble rfl) (by simp) ?_
  refine SLoop.mkT Nat (fun i => ([(0, .p (.sl m 1 (intsP ns))), (1, .p (.int .i64 n)), (5, .vec 0 3 0 i), (6, .p (.int .i64 i))], [.vec 37 3 (rats (lst i (rowG ns)))])) (fun i => i ≤ n) (fun i => n - i) 0 [0] _ _ (.step 5 37 3 rfl (.done _ _)) (Nat.zero_le _)
    ⟨rfl, by simp, rfl, rfl, rfl, ⟨rfl, rfl, rfl, rfl, trivial⟩, ⟨rfl, trivial⟩⟩ ?_
  intro i h1
  have h1 : i ≤ n := h1
  by_cases hi : i < n
  · refine SCmp.yes (decide_eq_true (by omega)) ?_
    refine SWrap.i64z ((3 * i : Nat) : Int) (by omega) (by omega) ?_
    refine SWrap.i64z ((3 * i + 1 : Nat) : Int) (by omega) (by omega) ?_
    refine SZ.mk (ns.length : Int) (by simp) ?_
    have next : ∀ q, q = rowG ns i → (rats (lst i (rowG ns)) ++ [ratP q]) = rats (lst (i + 1) (rowG ns)) := fun q hq => by rw [hq, ← lst_snoc, rats, rats, List.map_append]; rfl
    by_cases hs : i < ns.length
    · refine SCmp.yes (decide_eq_true (by omega)) ?_
      refine SIdx.ib i rfl hs ?_
      refine SCall.pure (small2_ok (ns.getD i 0) (hns i)) ?_
      refine SEqN.mk (by simp [lst]) ?_
      refine SView.all rfl ?_
      refine SRoom.mk (by simp [lst]; omega) (by simp [lst]; omega) ?_
      refine SEs.mk _ (next _ (by rw [rowG, if_pos hs])) ?_
      refine SZN.mk (i + 1) (by simp [lst]) ?_
      refine SWrap.i64z ((i + 1 : Nat) : Int) (by omega) (by omega) ?_
      exact ⟨i + 1, [2], hi, by show n - (i + 1) < n - i; omega, ⟨rfl, by simp, rfl, rfl, rfl, ⟨rfl, rfl, rfl, rfl, trivial⟩, ⟨rfl, trivial⟩⟩⟩
    · refine SCmp.no (decide_eq_false (by omega)) ?_
      refine SCall.pure (small2_ok ((3 * i + 1 : Nat) : Int) (by omega)) ?_
      refine SEqN.mk (by simp [lst]) ?_
      refine SView.all rfl ?_
      refine SRoom.mk (by simp [lst]; omega) (by simp [lst]; omega) ?_
      refine SEs.mk _ (next _ (by rw [rowG, if_neg hs]; rfl)) ?_
      refine SZN.mk (i + 1) (by simp [lst]) ?_
      refine SWrap.i64z ((i + 1 : Nat) : Int) (by omega) (by omega) ?_
      exact ⟨i + 1, [2], hi, by show n - (i + 1) < n - i; omega, ⟨rfl, by simp, rfl, rfl, rfl, ⟨rfl, rfl, rfl, rfl, trivial⟩, ⟨rfl, trivial⟩⟩⟩
  · refine SCmp.no (decide_eq_false (by omega)) ?_
    have : i = n := by omega
    subst this
    exact SRet.pure (frzR rfl (by rw [lst_length]))
theorem row2v_ok (m : Bool) (ns : List Int) (hns : I64s ns) (n : Nat) (hn : n ≤ 1000000) : CallP Try.prog 19 [.sl m 1 (intsP ns), .int .i64 n] (.vec 0 3 0 n) [.vec 37 3 (rats (lst n (rowG ns)))] := by
  refine callG_of_vc (wr := wr0) Γok mixed Try.func19 (by kernel_rfl) rfl (by kernel_rfl) (le_of_ble rfl) (by simp) ?_
  refine SLoop.mkT Nat (fun i => ([(0, .p (.sl m 1 (intsP ns))), (1, .p (.int .i64 n)), (5, .vec 0 3 0 i), (6, .p (.int .i64 i))], [.vec 37 3 (rats (lst i (rowG ns)))])) (fun i => i ≤ n) (fun i => n - i) 0 [0] _ _ (.step 5 37 3 rfl (.done _ _)) (Nat.zero_le _)
    ⟨rfl, by simp, rfl, rfl, rfl, ⟨rfl, rfl, rfl, rfl, trivial⟩, ⟨rfl, trivial⟩⟩ ?_
  intro i h1
  have h1 : i ≤ n := h1
  by_cases hi : i < n
  · refine SCmp.yes (decide_eq_true (by omega)) ?_
    refine SWrap.i64z ((3 * i : Nat) : Int) (by omega) (by omega) ?_
    refine SWrap.i64z ((3 * i + 1 : Nat) : Int) (by omega) (by omega) ?_
    refine SZ.mk (ns.length : Int) (by simp) ?_
    have next : ∀ q, q = rowG ns i → (rats (lst i (rowG ns)) ++ [ratP q]) = rats (lst (i + 1) (rowG ns)) := fun q hq => by rw [hq, ← lst_snoc, rats, rats, List.map_append]; rfl
    by_cases hs : i < ns.length
    · refine SCmp.yes (decide_eq_true (by omega)) ?_
      refine SIdx.ib i rfl hs ?_
      refine SCall.pure (small2_ok (ns.getD i 0) (hns i)) ?_
      refine SEqN.mk (by simp [lst]) ?_
      refine SView.all rfl ?_
      refine SRoom.mk (by simp [lst]; omega) (by simp [lst]; omega) ?_
      refine SEs.mk _ (next _ (by rw [rowG, if_pos hs])) ?_
      refine SZN.mk (i + 1) (by simp [lst]) ?_
      refine SWrap.i64z ((i + 1 : Nat) : Int) (by omega) (by omega) ?_
      exact ⟨i + 1, [2], hi, by show n - (i + 1) < n - i; omega, ⟨rfl, by simp, rfl, rfl, rfl, ⟨rfl, rfl, rfl, rfl, trivial⟩, ⟨rfl, trivial⟩⟩⟩
    · refine SCmp.no (decide_eq_false (by omega)) ?_
      refine SCall.pure (small2_ok ((3 * i + 1 : Nat) : Int) (by omega)) ?_
      refine SEqN.mk (by simp [lst]) ?_
      refine SView.all rfl ?_
      refine SRoom.mk (by simp [lst]; omega) (by simp [lst]; omega) ?_
      refine SEs.mk _ (next _ (by rw [rowG, if_neg hs]; rfl)) ?_
      refine SZN.mk (i + 1) (by simp [lst]) ?_
      refine SWrap.i64z ((i + 1 : Nat) : Int) (by omega) (by omega) ?_
      exact ⟨i + 1, [2], hi, by show n - (i + 1) < n - i; omega, ⟨rfl, by simp, rfl, rfl, rfl, ⟨rfl, rfl, rfl, rfl, trivial⟩, ⟨rfl, trivial⟩⟩⟩
  · refine SCmp.no (decide_eq_false (by omega)) ?_
    have : i = n := by omega
    subst this
    exact SRet.new 0 rfl rfl (pers_rats _)

theorem nodes14_ok (m : Bool) (ns : List Int) (hns : I64s ns) (n : Nat) (hn : n ≤ 1000000) : CallP Try.prog 18 [.sl m 1 (intsP ns), .int .i64 n] (.p (ratsM false (lst n (nodeG ns)))) [] := by
  refine callG_of_vc (wr := wr0) Γok mixed Try.func18 (by kernel_rfl) rfl (by kernel_rfl) (le_of_ble rfl) (by simp) ?_
  refine SLoop.mkT Nat (fun i => ([(0, .p (.sl m 1 (intsP ns))), (1, .p (.int .i64 n)), (5, .vec 0 3 0 i), (6, .p (.int .i64 i))], [.vec 37 3 (rats (lst i (nodeG ns)))])) (fun i => i ≤ n) (fun i => n - i) 0 [0] _ _ (.step 5 37 3 rfl (.done _ _)) (Nat.zero_le _)
    ⟨rfl, by simp, rfl, rfl, rfl, ⟨rfl, rfl, rfl, rfl, trivial⟩, ⟨rfl, trivial⟩⟩ ?_
  intro i h1
  have h1 : i ≤ n := h1
  by_cases hi : i < n
  · refine SCmp.yes (decide_eq_true (by omega)) ?_
    refine SWrap.i64z ((7 * i : Nat) : Int) (by omega) (by omega) ?_
    refine SCall.pure (rint_ok ((7 * i : Nat) : Int) (by omega)) ?_
    refine SZ.mk (ns.length : Int) (by simp) ?_
    have next : ∀ q, q = nodeG ns i → (rats (lst i (nodeG ns)) ++ [ratP q]) = rats (lst (i + 1) (nodeG ns)) := fun q hq => by rw [hq, ← lst_snoc, rats, rats, List.map_append]; rfl
    by_cases hs : i < ns.length
    · refine SCmp.yes (decide_eq_true (by omega)) ?_
      refine SIdx.ib i rfl hs ?_
      refine SCall.pure (small2_ok (ns.getD i 0) (hns i)) ?_
      refine SEqN.mk (by simp [lst]) ?_
      refine SView.all rfl ?_
      refine SRoom.mk (by simp [lst]; omega) (by simp [lst]; omega) ?_
      refine SEs.mk _ (next _ (by rw [nodeG, if_pos hs])) ?_
      refine SZN.mk (i + 1) (by simp [lst]) ?_
      refine SWrap.i64z ((i + 1 : Nat) : Int) (by omega) (by omega) ?_
      exact ⟨i + 1, [3], hi, by show n - (i + 1) < n - i; omega, ⟨rfl, by simp, rfl, rfl, rfl, ⟨rfl, rfl, rfl, rfl, trivial⟩, ⟨rfl, trivial⟩⟩⟩
    · refine SCmp.no (decide_eq_false (by omega)) ?_
      refine SEqN.mk (by simp [lst]) ?_
      refine SView.all rfl ?_
      refine SRoom.mk (by simp [lst]; omega) (by simp [lst]; omega) ?_
      refine SEs.mk _ (next _ (by rw [nodeG, if_neg hs])) ?_
      refine SZN.mk (i + 1) (by simp [lst]) ?_
      refine SWrap.i64z ((i + 1 : Nat) : Int) (by omega) (by omega) ?_
      exact ⟨i + 1, [3], hi, by show n - (i + 1) < n - i; omega, ⟨rfl, by simp, rfl, rfl, rfl, ⟨rfl, rfl, rfl, rfl, trivial⟩, ⟨rfl, trivial⟩⟩⟩
  · refine SCmp.no (decide_eq_false (by omega)) ?_
    have : i = n := by omega
    subst this
    exact SRet.pure (frzR rfl (by rw [lst_length]))
end Go.Proofs.Ytkaooejeljdbnaa
