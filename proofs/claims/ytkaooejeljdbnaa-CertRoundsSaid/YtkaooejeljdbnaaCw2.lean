/- CertRounds: the walk. -/
import Derived.Test.YtkaooejeljdbnaaCw1
namespace Go.Proofs.Ytkaooejeljdbnaa
open Go
set_option linter.unusedVariables false
set_option linter.unusedSimpArgs false
set_option maxRecDepth 10000

abbrev Raw := Bool × List Nat × List Nat
abbrev rawsP (rs : List Raw) : List PV := rs.map fun r => rawP r.1 false false r.2.1 r.2.2
def RawOk (r : Raw) : Prop := Lok r.2.1 ∧ Lok r.2.2
def powP (K : Nat) : Rat := mkQ false (1 * 2 ^ K) 1
def rdX (k : Int) (p q : Rat) : Rat := if k % 3 = 0 then q * p else if k % 3 = 1 then q / p else q
def rdV (k : Int) (p : Rat) (rs : List Raw) (i : Nat) : Rat := rdX k p (rawQ (rs.getD i (false, [], [])).1 (rs.getD i (false, [], [])).2.1 (rs.getD i (false, [], [])).2.2)
theorem lok_nil : Lok [] := fun x hx => by simp at hx
theorem RawOk.getD {rs : List Raw} (h : ∀ r ∈ rs, RawOk r) (i : Nat) : RawOk (rs.getD i (false, [], [])) := by
  by_cases hi : i < rs.length
  · rw [show rs.getD i (false, [], []) = rs[i] by simp [List.getD, hi]]; exact h _ (List.getElem_mem hi)
  · rw [show rs.getD i (false, [], []) = (false, [], []) by simp [List.getD, hi]]; exact ⟨lok_nil, lok_nil⟩
theorem pow_bits {K : Nat} (h : K < 1200) : bitLen (1 * 2 ^ K) ≤ 1201 := by
  obtain ⟨z, hz⟩ : ∃ z, z = 1201 := ⟨_, rfl⟩
  rw [← hz]
  refine bitLen_le ?_
  rw [Nat.one_mul]; exact Nat.pow_lt_pow_right (by decide) (by omega)
theorem powP_bz {K : Nat} (h : K < 1200) : Bz (powP K) 1201 := Bz.mkQ (by decide) (pow_bits h) (by decide)
theorem powP_ne {K : Nat} : powP K ≠ 0 := by
  intro e
  have : powP K = ((2 ^ K : Nat) : Rat) := by
    unfold powP mkQ
    rw [Nat.one_mul, Rat.mkRat_eq_div]
    show ((2 ^ K : Nat) : Rat) / ((1 : Nat) : Rat) = _
    grind
  rw [this] at e
  have h2 : (2 ^ K : Nat) = 0 := by exact_mod_cast e
  exact absurd h2 (Nat.pos_iff_ne_zero.1 (Nat.pow_pos (by decide)))
theorem app_lst (k : Nat) (f : Nat → Rat) (q : Rat) (h : q = f k) : rats (lst k f) ++ [ratP q] = rats (lst (k + 1) f) := by
  subst h; rw [rats, rats, lst, lst, List.range_succ, List.map_append, List.map_append]; rfl
theorem rdX_bz {k : Int} {p q : Rat} (hp : Bz p 1201) (hq : Bz q 96) : Bz (rdX k p q) 1400 := by
  unfold rdX
  split
  · exact (hq.mul hp).mono (by omega)
  · split
    · exact (hq.div hp).mono (by omega)
    · exact hq.mono (by omega)

theorem rin {x : List PV} {T T2 : TypeId} {n : Nat} {v w : PV} (c : AV) (hc : c ∈ [AV.vec 1 3 0 n, .p v, .p w]) (h : Hd) (hm : c.men h) : look [.rows T2 [.vec 1 3 0 n, .p v, .p w], .vec T 3 x] h ≠ .free := by
  simp only [List.mem_cons, List.not_mem_nil, or_false] at hc
  rcases hc with rfl | rfl | rfl
  · obtain rfl : (1 : Hd) = h := hm
    exact fun e => by cases e
  · exact hm.elim
  · exact hm.elim
theorem certRounds_ok (m m2 : Bool) (rs : List Raw) (hrs : ∀ r ∈ rs, RawOk r) (k : Int) (hk : I64 k) (ns : List Int) (hns : I64s ns) :
    CallP Try.prog 6 [.sl m 3 (rawsP rs), .int .i64 k, .sl m2 1 (intsP ns)] (.p (.bool true)) [] := by
  refine callG_of_vc (wr := wr0) Γok mixed Try.func6 (by kernel_rfl) rfl (by kernel_rfl) (le_of_ble rfl) (by simp) ?_
  refine SCall.pure (known16_ok) ?_
  refine SCmp.no (rfl) ?_
  refine SZ.mk (rs.length : Int) (by simp) ?_
  by_cases h8 : 8 < rs.length
  · refine SCmp.yes (decide_eq_true (by omega)) ?_
    exact SRet.pure (.tf true)
  refine SCmp.no (decide_eq_false (by omega)) ?_
  refine SCall.pure (rof_ok 1 (by omega)) ?_
  refine SCall.pure (within16_ok k 1200 (by omega) (by omega)) ?_
  obtain ⟨K, hK⟩ : ∃ K : Nat, k % 1200 = (K : Int) := ⟨(k % 1200).toNat, by omega⟩
  have hK2 : K < 1200 := by omega
  have hsh := rshl_ok false 1 K (Nat.le_trans (nlen_bitLen 1) (by decide)) (by omega)
  rw [← hK] at hsh
  refine SCall.pure (hsh) ?_
  refine SCall.pure (rof_ok 1 (by omega)) ?_
  have hmk := rmake_ok false false false (1 * 2 ^ K) 1 (by decide) (Nat.le_trans (pow_bits hK2) (by decide)) (by decide)
  obtain ⟨p, hp⟩ : ∃ p, p = powP K := ⟨_, rfl⟩
  rw [show mkQ false (1 * 2 ^ K) 1 = p from hp.symm] at hmk
  have zp : Bz p 1201 := by rw [hp]; exact powP_bz hK2
  have np : p ≠ 0 := by rw [hp]; exact powP_ne
  refine SCall.pureT (hmk) (fun _ => rfl) ?_
  obtain ⟨V, hV⟩ : ∃ V, V = rdV k p rs := ⟨_, rfl⟩
  have zV : ∀ i, Bz (V i) 1400 := fun i => by rw [hV]; exact rdX_bz zp (rawQ_bz _ (RawOk.getD hrs i).1 (RawOk.getD hrs i).2)
  refine SLoop.mkT Nat (fun i => ([(0, .p (.sl m 3 (rawsP rs))), (1, .p (.int .i64 k)), (2, .p (.sl m2 1 (intsP ns))), (7, .bptr 0 0), (9, .vec 1 3 0 i), (10, .p (.int .i64 i))], [.box 37 (boxQ p), .vec 37 3 (rats (lst i V))]))
    (fun i => i ≤ rs.length) (fun i => rs.length - i) 0 [0, 1] _ _ (.step 9 37 3 rfl (.done _ _)) (Nat.zero_le _) ⟨rfl, by simp, rfl, rfl, rfl, ⟨rfl, rfl, rfl, rfl, rfl, rfl, trivial⟩, ⟨rfl, rfl, trivial⟩⟩ ?_
  intro i hi
  have hi : i ≤ rs.length := hi
  refine SZ.mk (rs.length : Int) (by simp) ?_
  by_cases hin : i < rs.length
  · refine SCmp.yes (decide_eq_true (by omega)) ?_
    obtain ⟨r, hr⟩ : ∃ r, r = rs.getD i (false, [], []) := ⟨_, rfl⟩
    have hri : (rawsP rs)[i]? = some (rawP r.1 false false r.2.1 r.2.2) := by rw [hr]; simp [List.getD, hin]
    have hro : RawOk r := by rw [hr]; exact RawOk.getD hrs i
    have zq := rawQ_bz r.1 hro.1 hro.2
    have hVi : V i = rdX k p (rawQ r.1 r.2.1 r.2.2) := by rw [hV, hr]; rfl
    have hw := within16_ok k 3 (by omega) (by omega)
    refine SIdx.mk i _ rfl hri ?_
    refine SCall.pure (qmake_ok r.1 false false r.2.1 r.2.2 hro.1 hro.2) ?_
    refine SCall.pure (hw) ?_
    by_cases k0 : k % 3 = 0
    · refine SCmp.yes (decide_eq_true k0) ?_
      refine SCall.pure (rmulq_ok _ _ zq zp (by omega)) ?_
      refine SCall.pure (hw) ?_
      refine SCmp.no (decide_eq_false (by omega)) ?_
      refine SEqN.mk (by simp [lst]) <| SView.all rfl <| SRoom.mk (by simp [lst]; omega) (by simp [lst]; omega) <| SEs.mk (rats (lst (i + 1) (V))) (app_lst _ _ _ ((by rw [hVi, rdX, if_pos k0]))) <| SZN.mk (i + 1) (by simp [lst]) ?_
      refine SWrap.i64z ((i + 1 : Nat) : Int) (by omega) (by omega) ?_
      exact ⟨i + 1, [0, 4], hin, by show rs.length - (i + 1) < rs.length - i; omega, ⟨rfl, by simp, rfl, rfl, rfl, ⟨rfl, rfl, rfl, rfl, rfl, rfl, trivial⟩, ⟨rfl, rfl, trivial⟩⟩⟩
    · refine SCmp.no (decide_eq_false k0) ?_
      refine SCall.pure (hw) ?_
      by_cases k1 : k % 3 = 1
      · refine SCmp.yes (decide_eq_true k1) ?_
        refine SCall.pure (rover_ok _ _ np zq zp (by omega)) ?_
        refine SEqN.mk (by simp [lst]) <| SView.all rfl <| SRoom.mk (by simp [lst]; omega) (by simp [lst]; omega) <| SEs.mk (rats (lst (i + 1) (V))) (app_lst _ _ _ ((by rw [hVi, rdX, if_neg k0, if_pos k1]))) <| SZN.mk (i + 1) (by simp [lst]) ?_
        refine SWrap.i64z ((i + 1 : Nat) : Int) (by omega) (by omega) ?_
        exact ⟨i + 1, [0, 4], hin, by show rs.length - (i + 1) < rs.length - i; omega, ⟨rfl, by simp, rfl, rfl, rfl, ⟨rfl, rfl, rfl, rfl, rfl, rfl, trivial⟩, ⟨rfl, rfl, trivial⟩⟩⟩
      · refine SCmp.no (decide_eq_false k1) ?_
        refine SEqN.mk (by simp [lst]) <| SView.all rfl <| SRoom.mk (by simp [lst]; omega) (by simp [lst]; omega) <| SEs.mk (rats (lst (i + 1) (V))) (app_lst _ _ _ ((by rw [hVi, rdX, if_neg k0, if_neg k1]))) <| SZN.mk (i + 1) (by simp [lst]) ?_
        refine SWrap.i64z ((i + 1 : Nat) : Int) (by omega) (by omega) ?_
        exact ⟨i + 1, [0, 4], hin, by show rs.length - (i + 1) < rs.length - i; omega, ⟨rfl, by simp, rfl, rfl, rfl, ⟨rfl, rfl, rfl, rfl, rfl, rfl, trivial⟩, ⟨rfl, rfl, trivial⟩⟩⟩
  · refine SCmp.no (decide_eq_false (by omega)) ?_
    have hin : i = rs.length := by omega
    subst hin
    refine SZ.mk (rs.length : Int) (by simp) ?_
    refine SCall.pure (row2_ok m2 ns hns rs.length (by omega)) ?_
    have z1 : Bl (lst rs.length V) 1400 := Bl.lst fun i _ => zV i
    have z2 : Bl (lst rs.length (rowG ns)) 5 := Bl.lst fun i _ => rowG_bz ns i
    have z3 : Bl [] 5 := fun i hi => by simp at hi
    have a1 := cround_ok true (lst rs.length V) z1 (by omega) (by rw [lst_length]; omega)
    have b1 := rround_ok true (lst rs.length V) z1 (by omega) (by rw [lst_length]; omega)
    have a2 := cround_ok false (lst rs.length (rowG ns)) z2 (by omega) (by rw [lst_length]; omega)
    have b2 := rround_ok false (lst rs.length (rowG ns)) z2 (by omega) (by rw [lst_length]; omega)
    have a3 := cround_ok false [] z3 (by omega) (by simp)
    have b3 := rround_ok false [] z3 (by omega) (by simp)
    refine SLoop.mk Nat (fun t => ([(12, .vec 0 1 0 3), (13, .p (.int .i64 t))], [.rows 25 [.vec 1 3 0 rs.length, .p (ratsM false (lst rs.length (rowG ns))), .p (ratsM false [])], .vec 37 3 (rats (lst rs.length V))]))
      (fun t => t ≤ 3) (fun t => 3 - t) 0 [2, 1] (Nat.zero_le _) ⟨rfl, by simp, rfl, rfl, rfl, ⟨rfl, rfl, trivial⟩, ⟨rfl, rfl, rin, trivial⟩⟩ ?_
    intro t ht
    have ht : t ≤ 3 := ht
    rcases (show t = 0 ∨ t = 1 ∨ t = 2 ∨ t = 3 by omega) with rfl | rfl | rfl | rfl
    · refine SCmp.yes (rfl) ?_
      refine SPos.mk 0 rfl (by decide) ?_
      refine SIdxA.mk 0 _ rfl rfl ?_
      cases hb : badR (lst rs.length V) with
      | true =>
        rw [roundR_bad hb] at a1 b1
        refine SView.rf ?_
        refine SCall.pureT (pvs := [ratsM true (lst rs.length V)]) a1 (fun _ => rfl) ?_
        refine SPos.mk 0 rfl (by decide) ?_
        refine SIdxA.mk 0 _ rfl rfl ?_
        refine SView.rf ?_
        refine SCall.pureT (pvs := [ratsM true (lst rs.length V)]) b1 (fun _ => rfl) ?_
        refine SCmp.no (neF rfl) ?_
        refine SZ.mk 0 rfl ?_
        refine SZ.mk 0 rfl ?_
        refine SCmp.no (neF rfl) ?_
        refine SLoop.mk Unit (fun _ => ([(12, .vec 0 1 0 3), (13, .p (.int .i64 (0 : Nat))), (14, .p (.sl false 1 [])), (16, .p (.sl false 1 [])), (18, .p (.int .i64 0))], [.rows 25 [.vec 1 3 0 rs.length, .p (ratsM false (lst rs.length (rowG ns))), .p (ratsM false [])], .vec 37 3 (rats (lst rs.length V))])) (fun _ => True) (fun _ => 0) () [0, 1] trivial ⟨rfl, by simp, rfl, rfl, rfl, ⟨rfl, rfl, rfl, rfl, rfl, trivial⟩, ⟨rfl, rfl, rin, trivial⟩⟩ ?_
        intro _ _
        refine SZ.mk 0 rfl ?_
        refine SCmp.no (rfl) ?_
        refine SWrap.i64z ((0 + 1 : Nat) : Int) (by omega) (by omega) ?_
        exact ⟨0 + 1, [0, 1], by omega, by decide, ⟨rfl, by simp, rfl, rfl, rfl, ⟨rfl, rfl, trivial⟩, ⟨rfl, rfl, rin, trivial⟩⟩⟩
      | false =>
        rw [roundR_fine hb] at a1 b1
        refine SView.rf ?_
        refine SCall.pureT (pvs := [ratsM true (lst rs.length V)]) a1 (fun _ => rfl) ?_
        refine SPos.mk 0 rfl (by decide) ?_
        refine SIdxA.mk 0 _ rfl rfl ?_
        refine SView.rf ?_
        refine SCall.pureT (pvs := [ratsM true (lst rs.length V)]) b1 (fun _ => rfl) ?_
        have hlen : ((fls (lst rs.length V)).length : Int) = ((lst rs.length V).length : Int) := by rw [fls_length]
        have hl8 : (lst rs.length V).length ≤ 8 := by first | (rw [lst_length]; omega) | simp
        refine SCmp.no (neF rfl) ?_
        refine SZ.mk ((lst rs.length V).length : Int) hlen ?_
        refine SZ.mk ((lst rs.length V).length : Int) hlen ?_
        refine SCmp.no (neF rfl) ?_
        refine SLoop.mk Nat (fun j => ([(12, .vec 0 1 0 3), (13, .p (.int .i64 (0 : Nat))), (14, .p (.sl false 1 (fls (lst rs.length V)))), (16, .p (.sl false 1 (fls (lst rs.length V)))), (18, .p (.int .i64 j))], [.rows 25 [.vec 1 3 0 rs.length, .p (ratsM false (lst rs.length (rowG ns))), .p (ratsM false [])], .vec 37 3 (rats (lst rs.length V))])) (fun j => j ≤ (lst rs.length V).length) (fun j => (lst rs.length V).length - j) 0 [0, 1] (Nat.zero_le _) ⟨rfl, by simp, rfl, rfl, rfl, ⟨rfl, rfl, rfl, rfl, rfl, trivial⟩, ⟨rfl, rfl, rin, trivial⟩⟩ ?_
        intro j hj
        have hj : j ≤ (lst rs.length V).length := hj
        refine SZ.mk ((lst rs.length V).length : Int) hlen ?_
        by_cases hjl : j < (lst rs.length V).length
        · refine SCmp.yes (decide_eq_true (by omega)) ?_
          have hg := fls_get hjl
          refine SDraw.mk (by kernel_rfl) ?_
          repeat refine SOp.mk _ _ (And.intro rfl rfl) rfl ?_
          refine SOp.mk _ _ (SIdx.mk j _ rfl hg (And.intro rfl rfl)) rfl ?_
          repeat refine SOp.mk _ _ (And.intro rfl rfl) rfl ?_
          refine SOp.mk _ _ (SIdx.mk j _ rfl hg (And.intro rfl rfl)) rfl ?_
          repeat refine SOp.mk _ _ (And.intro rfl rfl) rfl ?_
          refine SOp.mk _ _ (SCmp.no (neF rfl) (And.intro rfl rfl)) rfl ?_
          refine SWrap.i64z ((j + 1 : Nat) : Int) (by omega) (by omega) ?_
          exact ⟨j + 1, [0, 1], hjl, by show (lst rs.length V).length - (j + 1) < (lst rs.length V).length - j; omega, ⟨rfl, by simp, rfl, rfl, rfl, ⟨rfl, rfl, rfl, rfl, rfl, trivial⟩, ⟨rfl, rfl, rin, trivial⟩⟩⟩
        · refine SCmp.no (decide_eq_false (by omega)) ?_
          refine SWrap.i64z ((0 + 1 : Nat) : Int) (by omega) (by omega) ?_
          exact ⟨0 + 1, [0, 1], by omega, by decide, ⟨rfl, by simp, rfl, rfl, rfl, ⟨rfl, rfl, trivial⟩, ⟨rfl, rfl, rin, trivial⟩⟩⟩
    · refine SCmp.yes (rfl) ?_
      refine SPos.mk 1 rfl (by decide) ?_
      refine SIdxA.mk 1 _ rfl rfl ?_
      cases hb : badR (lst rs.length (rowG ns)) with
      | true =>
        rw [roundR_bad hb] at a2 b2
        skip
        refine SCall.pureT (pvs := [ratsM false (lst rs.length (rowG ns))]) a2 (fun _ => rfl) ?_
        refine SPos.mk 1 rfl (by decide) ?_
        refine SIdxA.mk 1 _ rfl rfl ?_
        skip
        refine SCall.pureT (pvs := [ratsM false (lst rs.length (rowG ns))]) b2 (fun _ => rfl) ?_
        refine SCmp.no (neF rfl) ?_
        refine SZ.mk 0 rfl ?_
        refine SZ.mk 0 rfl ?_
        refine SCmp.no (neF rfl) ?_
        refine SLoop.mk Unit (fun _ => ([(12, .vec 0 1 0 3), (13, .p (.int .i64 (1 : Nat))), (14, .p (.sl false 1 [])), (16, .p (.sl false 1 [])), (18, .p (.int .i64 0))], [.rows 25 [.vec 1 3 0 rs.length, .p (ratsM false (lst rs.length (rowG ns))), .p (ratsM false [])], .vec 37 3 (rats (lst rs.length V))])) (fun _ => True) (fun _ => 0) () [0, 1] trivial ⟨rfl, by simp, rfl, rfl, rfl, ⟨rfl, rfl, rfl, rfl, rfl, trivial⟩, ⟨rfl, rfl, rin, trivial⟩⟩ ?_
        intro _ _
        refine SZ.mk 0 rfl ?_
        refine SCmp.no (rfl) ?_
        refine SWrap.i64z ((1 + 1 : Nat) : Int) (by omega) (by omega) ?_
        exact ⟨1 + 1, [0, 1], by omega, by decide, ⟨rfl, by simp, rfl, rfl, rfl, ⟨rfl, rfl, trivial⟩, ⟨rfl, rfl, rin, trivial⟩⟩⟩
      | false =>
        rw [roundR_fine hb] at a2 b2
        skip
        refine SCall.pureT (pvs := [ratsM false (lst rs.length (rowG ns))]) a2 (fun _ => rfl) ?_
        refine SPos.mk 1 rfl (by decide) ?_
        refine SIdxA.mk 1 _ rfl rfl ?_
        skip
        refine SCall.pureT (pvs := [ratsM false (lst rs.length (rowG ns))]) b2 (fun _ => rfl) ?_
        have hlen : ((fls (lst rs.length (rowG ns))).length : Int) = ((lst rs.length (rowG ns)).length : Int) := by rw [fls_length]
        have hl8 : (lst rs.length (rowG ns)).length ≤ 8 := by first | (rw [lst_length]; omega) | simp
        refine SCmp.no (neF rfl) ?_
        refine SZ.mk ((lst rs.length (rowG ns)).length : Int) hlen ?_
        refine SZ.mk ((lst rs.length (rowG ns)).length : Int) hlen ?_
        refine SCmp.no (neF rfl) ?_
        refine SLoop.mk Nat (fun j => ([(12, .vec 0 1 0 3), (13, .p (.int .i64 (1 : Nat))), (14, .p (.sl false 1 (fls (lst rs.length (rowG ns))))), (16, .p (.sl false 1 (fls (lst rs.length (rowG ns))))), (18, .p (.int .i64 j))], [.rows 25 [.vec 1 3 0 rs.length, .p (ratsM false (lst rs.length (rowG ns))), .p (ratsM false [])], .vec 37 3 (rats (lst rs.length V))])) (fun j => j ≤ (lst rs.length (rowG ns)).length) (fun j => (lst rs.length (rowG ns)).length - j) 0 [0, 1] (Nat.zero_le _) ⟨rfl, by simp, rfl, rfl, rfl, ⟨rfl, rfl, rfl, rfl, rfl, trivial⟩, ⟨rfl, rfl, rin, trivial⟩⟩ ?_
        intro j hj
        have hj : j ≤ (lst rs.length (rowG ns)).length := hj
        refine SZ.mk ((lst rs.length (rowG ns)).length : Int) hlen ?_
        by_cases hjl : j < (lst rs.length (rowG ns)).length
        · refine SCmp.yes (decide_eq_true (by omega)) ?_
          have hg := fls_get hjl
          refine SDraw.mk (by kernel_rfl) ?_
          repeat refine SOp.mk _ _ (And.intro rfl rfl) rfl ?_
          refine SOp.mk _ _ (SIdx.mk j _ rfl hg (And.intro rfl rfl)) rfl ?_
          repeat refine SOp.mk _ _ (And.intro rfl rfl) rfl ?_
          refine SOp.mk _ _ (SIdx.mk j _ rfl hg (And.intro rfl rfl)) rfl ?_
          repeat refine SOp.mk _ _ (And.intro rfl rfl) rfl ?_
          refine SOp.mk _ _ (SCmp.no (neF rfl) (And.intro rfl rfl)) rfl ?_
          refine SWrap.i64z ((j + 1 : Nat) : Int) (by omega) (by omega) ?_
          exact ⟨j + 1, [0, 1], hjl, by show (lst rs.length (rowG ns)).length - (j + 1) < (lst rs.length (rowG ns)).length - j; omega, ⟨rfl, by simp, rfl, rfl, rfl, ⟨rfl, rfl, rfl, rfl, rfl, trivial⟩, ⟨rfl, rfl, rin, trivial⟩⟩⟩
        · refine SCmp.no (decide_eq_false (by omega)) ?_
          refine SWrap.i64z ((1 + 1 : Nat) : Int) (by omega) (by omega) ?_
          exact ⟨1 + 1, [0, 1], by omega, by decide, ⟨rfl, by simp, rfl, rfl, rfl, ⟨rfl, rfl, trivial⟩, ⟨rfl, rfl, rin, trivial⟩⟩⟩
    · refine SCmp.yes (rfl) ?_
      refine SPos.mk 2 rfl (by decide) ?_
      refine SIdxA.mk 2 _ rfl rfl ?_
      cases hb : badR ([] : List Rat) with
      | true =>
        rw [roundR_bad hb] at a3 b3
        skip
        refine SCall.pureT (pvs := [ratsM false ([] : List Rat)]) a3 (fun _ => rfl) ?_
        refine SPos.mk 2 rfl (by decide) ?_
        refine SIdxA.mk 2 _ rfl rfl ?_
        skip
        refine SCall.pureT (pvs := [ratsM false ([] : List Rat)]) b3 (fun _ => rfl) ?_
        refine SCmp.no (neF rfl) ?_
        refine SZ.mk 0 rfl ?_
        refine SZ.mk 0 rfl ?_
        refine SCmp.no (neF rfl) ?_
        refine SLoop.mk Unit (fun _ => ([(12, .vec 0 1 0 3), (13, .p (.int .i64 (2 : Nat))), (14, .p (.sl false 1 [])), (16, .p (.sl false 1 [])), (18, .p (.int .i64 0))], [.rows 25 [.vec 1 3 0 rs.length, .p (ratsM false (lst rs.length (rowG ns))), .p (ratsM false [])], .vec 37 3 (rats (lst rs.length V))])) (fun _ => True) (fun _ => 0) () [0, 1] trivial ⟨rfl, by simp, rfl, rfl, rfl, ⟨rfl, rfl, rfl, rfl, rfl, trivial⟩, ⟨rfl, rfl, rin, trivial⟩⟩ ?_
        intro _ _
        refine SZ.mk 0 rfl ?_
        refine SCmp.no (rfl) ?_
        refine SWrap.i64z ((2 + 1 : Nat) : Int) (by omega) (by omega) ?_
        exact ⟨2 + 1, [0, 1], by omega, by decide, ⟨rfl, by simp, rfl, rfl, rfl, ⟨rfl, rfl, trivial⟩, ⟨rfl, rfl, rin, trivial⟩⟩⟩
      | false =>
        rw [roundR_fine hb] at a3 b3
        skip
        refine SCall.pureT (pvs := [ratsM false ([] : List Rat)]) a3 (fun _ => rfl) ?_
        refine SPos.mk 2 rfl (by decide) ?_
        refine SIdxA.mk 2 _ rfl rfl ?_
        skip
        refine SCall.pureT (pvs := [ratsM false ([] : List Rat)]) b3 (fun _ => rfl) ?_
        have hlen : ((fls ([] : List Rat)).length : Int) = (([] : List Rat).length : Int) := by rw [fls_length]
        have hl8 : ([] : List Rat).length ≤ 8 := by first | (rw [lst_length]; omega) | simp
        refine SCmp.no (neF rfl) ?_
        refine SZ.mk (([] : List Rat).length : Int) hlen ?_
        refine SZ.mk (([] : List Rat).length : Int) hlen ?_
        refine SCmp.no (neF rfl) ?_
        refine SLoop.mk Nat (fun j => ([(12, .vec 0 1 0 3), (13, .p (.int .i64 (2 : Nat))), (14, .p (.sl false 1 (fls ([] : List Rat)))), (16, .p (.sl false 1 (fls ([] : List Rat)))), (18, .p (.int .i64 j))], [.rows 25 [.vec 1 3 0 rs.length, .p (ratsM false (lst rs.length (rowG ns))), .p (ratsM false [])], .vec 37 3 (rats (lst rs.length V))])) (fun j => j ≤ ([] : List Rat).length) (fun j => ([] : List Rat).length - j) 0 [0, 1] (Nat.zero_le _) ⟨rfl, by simp, rfl, rfl, rfl, ⟨rfl, rfl, rfl, rfl, rfl, trivial⟩, ⟨rfl, rfl, rin, trivial⟩⟩ ?_
        intro j hj
        have hj : j ≤ ([] : List Rat).length := hj
        refine SZ.mk (([] : List Rat).length : Int) hlen ?_
        by_cases hjl : j < ([] : List Rat).length
        · refine SCmp.yes (decide_eq_true (by omega)) ?_
          have hg := fls_get hjl
          refine SDraw.mk (by kernel_rfl) ?_
          repeat refine SOp.mk _ _ (And.intro rfl rfl) rfl ?_
          refine SOp.mk _ _ (SIdx.mk j _ rfl hg (And.intro rfl rfl)) rfl ?_
          repeat refine SOp.mk _ _ (And.intro rfl rfl) rfl ?_
          refine SOp.mk _ _ (SIdx.mk j _ rfl hg (And.intro rfl rfl)) rfl ?_
          repeat refine SOp.mk _ _ (And.intro rfl rfl) rfl ?_
          refine SOp.mk _ _ (SCmp.no (neF rfl) (And.intro rfl rfl)) rfl ?_
          refine SWrap.i64z ((j + 1 : Nat) : Int) (by omega) (by omega) ?_
          exact ⟨j + 1, [0, 1], hjl, by show ([] : List Rat).length - (j + 1) < ([] : List Rat).length - j; omega, ⟨rfl, by simp, rfl, rfl, rfl, ⟨rfl, rfl, rfl, rfl, rfl, trivial⟩, ⟨rfl, rfl, rin, trivial⟩⟩⟩
        · refine SCmp.no (decide_eq_false (by omega)) ?_
          refine SWrap.i64z ((2 + 1 : Nat) : Int) (by omega) (by omega) ?_
          exact ⟨2 + 1, [0, 1], by omega, by decide, ⟨rfl, by simp, rfl, rfl, rfl, ⟨rfl, rfl, trivial⟩, ⟨rfl, rfl, rin, trivial⟩⟩⟩
    · refine SCmp.no (rfl) ?_
      exact SRet.pure (.tf true)
end Go.Proofs.Ytkaooejeljdbnaa
