/- Cert: the laws' matrices (printed by gen_make7.py). -/
import Derived.Test.YtacklcbgkigcaaaGreatCr3
namespace Go.Proofs.YtacklcbgkigcaaaGreat
open Go
set_option linter.unusedVariables false
set_option linter.unusedSimpArgs false
set_option maxRecDepth 10000

theorem within7_ok (a n : Int) (hn : 0 < n) (hn' : n < 4611686018427387904) : CallP Tryz.prog 97 [.int .i64 a, .int .i64 n] (.p (.int .i64 (a % n))) [] := by
  refine callG_of_vc (wr := wr0) Γok mixed Tryz.func97 (by kernel_rfl) rfl (by kernel_rfl) (le_of_ble rfl) (by simp) ?_
  have hw := within_aux (a := a) hn
  have hb := tmod_bd a hn
  obtain ⟨r, hr⟩ : ∃ r, r = a.tmod n := ⟨_, rfl⟩
  rw [← hr] at hw hb
  refine SNe.mk (by omega) ?_
  refine SZ.mk r hr.symm ?_
  by_cases h : r < 0
  · refine SCmp.yes (decide_eq_true (by omega)) ?_
    refine SWrap.i64z (r + n) rfl (by omega) ?_
    rw [if_pos h] at hw
    rw [← hw]
    exact SRet.pure (.p _ (.int _ _))
  · refine SCmp.no (decide_eq_false (by omega)) ?_
    rw [if_neg h] at hw
    rw [← hw]
    exact SRet.pure (.p _ (.int _ _))

/-- Is the last row one ahead of it, or two, added up? -/
def lastC (n : Nat) (ns : List Int) : Bool := decide (1 < n) && (decide (2 < ns.length) && decide (ns.getD 2 0 % 3 = 0))
def rowM (n : Nat) (ns : List Int) (r t : Nat) : Rat := rowG ns (r * n + t)
def newM (n : Nat) (ns : List Int) (t : Nat) : Rat := if n ≤ 2 then rowM n ns 0 t else rowM n ns 0 t + rowM n ns (n - 2) t
def mkM (n : Nat) (ns : List Int) : List (List Rat) := (List.range n).map fun r => lst n (match lastC n ns && Nat.beq (r + 1) n with | true => newM n ns | false => rowM n ns r)
theorem mkM_length (n : Nat) (ns : List Int) : (mkM n ns).length = n := by simp [mkM]
theorem mkM_getD {n : Nat} {ns : List Int} {i : Nat} (h : i < n) : (mkM n ns).getD i [] = lst n (match lastC n ns && Nat.beq (i + 1) n with | true => newM n ns | false => rowM n ns i) := by simp [mkM, List.getD, h]
theorem rowM_bz (n : Nat) (ns : List Int) (r t : Nat) : Bz (rowM n ns r t) 5 := rowG_bz _ _
theorem newM_bz (n : Nat) (ns : List Int) (t : Nat) : Bz (newM n ns t) 11 := by
  unfold newM
  split
  · exact (rowM_bz _ _ _ _).mono (by omega)
  · exact ((rowM_bz n ns 0 t).add (rowM_bz n ns (n - 2) t)).mono (by omega)
theorem mkM_bm (n : Nat) (ns : List Int) : Bm (mkM n ns) n 11 := fun i hi => by
  rw [mkM_length] at hi
  rw [mkM_getD hi]
  refine ⟨Bl.lst fun t _ => ?_, by rw [lst_length]; exact Nat.le_refl _⟩
  generalize (lastC n ns && Nat.beq (i + 1) n) = b
  cases b
  · exact (rowM_bz _ _ _ _).mono (by omega)
  · exact newM_bz _ _ _
/-- The last row, so far. -/
def mixM (n : Nat) (ns : List Int) (j t : Nat) : Rat := if t < j then newM n ns t else rowM n ns (n - 1) t
theorem mix_step {T : TypeId} {n : Nat} {ns : List Int} {j : Nat} {g : Nat → Rat} (h1 : ∀ t, t ≠ j → g t = mixM n ns j t) (h2 : g j = newM n ns j) : Blk.vec T 3 (rats (lst n (mixM n ns (j + 1)))) = .vec T 3 (rats (lst n g)) := by
  rw [lst_congr fun t _ => ?_]
  unfold mixM
  by_cases e : t = j
  · subst e; rw [if_pos (by omega)]; exact h2.symm
  · rw [h1 t e, mixM]
    by_cases h : t < j
    · rw [if_pos (by omega), if_pos h]
    · rw [if_neg (by omega), if_neg h]
theorem mix0 (n : Nat) (ns : List Int) : lst n (mixM n ns 0) = lst n (rowM n ns (n - 1)) := lst_congr fun t _ => if_neg (by omega)
theorem mixN (n : Nat) (ns : List Int) : lst n (mixM n ns n) = lst n (newM n ns) := lst_congr fun t h => if_pos h
theorem upd_ne {g : Nat → Rat} {j : Nat} {q : Rat} : ∀ t, t ≠ j → upd g j q t = g t := fun t h => upd_other _ _ h
theorem upd_ne2 {g : Nat → Rat} {j : Nat} {p q : Rat} : ∀ t, t ≠ j → upd (upd g j p) j q t = g t := fun t h => by rw [upd_other _ _ h, upd_other _ _ h]
theorem lst_cut {N n r : Nat} {g : Nat → Rat} (h : r * n + n ≤ N) : (((rats (lst N g)).take (r * n + n)).drop (r * n)) = rats (lst n fun t => g (r * n + t)) := by
  apply List.ext_getElem
  · simp [lst]; omega
  · intro i h1 h2
    simp [lst, rats]
theorem ratsI {n : Nat} {g : Nat → Rat} {j : Nat} (h : j < n) : (rats (lst n g))[j]? = some (ratP (g j)) := by simp [lst, rats, h]
theorem ones_rats {M : List (List Rat)} : ∀ d ∈ M.map (ratsM false), d.one = true := fun d hd => by obtain ⟨_, _, rfl⟩ := List.mem_map.1 hd; rfl

theorem mkM_plain1 {ns : List Int} (h : lastC 1 ns = false) : mkM 1 ns = [lst 1 (rowM 1 ns 0)] := by rw [mkM, h]; rfl
theorem mkM_plain2 {ns : List Int} (h : lastC 2 ns = false) : mkM 2 ns = [lst 2 (rowM 2 ns 0), lst 2 (rowM 2 ns 1)] := by rw [mkM, h]; rfl
theorem mkM_last2 {ns : List Int} (h : lastC 2 ns = true) : mkM 2 ns = [lst 2 (rowM 2 ns 0), lst 2 (newM 2 ns)] := by rw [mkM, h]; rfl
theorem mkM_plain3 {ns : List Int} (h : lastC 3 ns = false) : mkM 3 ns = [lst 3 (rowM 3 ns 0), lst 3 (rowM 3 ns 1), lst 3 (rowM 3 ns 2)] := by rw [mkM, h]; rfl
theorem mkM_last3 {ns : List Int} (h : lastC 3 ns = true) : mkM 3 ns = [lst 3 (rowM 3 ns 0), lst 3 (rowM 3 ns 1), lst 3 (newM 3 ns)] := by rw [mkM, h]; rfl
theorem mkM_plain4 {ns : List Int} (h : lastC 4 ns = false) : mkM 4 ns = [lst 4 (rowM 4 ns 0), lst 4 (rowM 4 ns 1), lst 4 (rowM 4 ns 2), lst 4 (rowM 4 ns 3)] := by rw [mkM, h]; rfl
theorem mkM_last4 {ns : List Int} (h : lastC 4 ns = true) : mkM 4 ns = [lst 4 (rowM 4 ns 0), lst 4 (rowM 4 ns 1), lst 4 (rowM 4 ns 2), lst 4 (newM 4 ns)] := by rw [mkM, h]; rfl
theorem mkM_plain5 {ns : List Int} (h : lastC 5 ns = false) : mkM 5 ns = [lst 5 (rowM 5 ns 0), lst 5 (rowM 5 ns 1), lst 5 (rowM 5 ns 2), lst 5 (rowM 5 ns 3), lst 5 (rowM 5 ns 4)] := by rw [mkM, h]; rfl
theorem mkM_last5 {ns : List Int} (h : lastC 5 ns = true) : mkM 5 ns = [lst 5 (rowM 5 ns 0), lst 5 (rowM 5 ns 1), lst 5 (rowM 5 ns 2), lst 5 (rowM 5 ns 3), lst 5 (newM 5 ns)] := by rw [mkM, h]; rfl
theorem mkM_plain6 {ns : List Int} (h : lastC 6 ns = false) : mkM 6 ns = [lst 6 (rowM 6 ns 0), lst 6 (rowM 6 ns 1), lst 6 (rowM 6 ns 2), lst 6 (rowM 6 ns 3), lst 6 (rowM 6 ns 4), lst 6 (rowM 6 ns 5)] := by rw [mkM, h]; rfl
theorem mkM_last6 {ns : List Int} (h : lastC 6 ns = true) : mkM 6 ns = [lst 6 (rowM 6 ns 0), lst 6 (rowM 6 ns 1), lst 6 (rowM 6 ns 2), lst 6 (rowM 6 ns 3), lst 6 (rowM 6 ns 4), lst 6 (newM 6 ns)] := by rw [mkM, h]; rfl
def stM (n : Nat) (m : Bool) (ns : List Int) : Nat → Sl × Hp
  | 0 => ([(0, .p (.int .i64 n)), (1, .p (.sl m 1 (intsP ns))), (5, .p (ratsM false (lst (n * n) (rowG ns)))), (6, .emp), (7, .p (.int .i64 (0 : Nat)))], [])
  | 1 => ([(0, .p (.int .i64 n)), (1, .p (.sl m 1 (intsP ns))), (5, .p (ratsM false (lst (n * n) (rowG ns)))), (6, .vec 1 1 0 1), (7, .p (.int .i64 (1 : Nat)))], [.vec 30 3 (rats (lst n (rowM n ns 0))), .rows 64 [.vec 0 3 0 n]])
  | 2 => ([(0, .p (.int .i64 n)), (1, .p (.sl m 1 (intsP ns))), (5, .p (ratsM false (lst (n * n) (rowG ns)))), (6, .vec 2 1 0 2), (7, .p (.int .i64 (2 : Nat)))], [.vec 30 3 (rats (lst n (rowM n ns 0))), .vec 30 3 (rats (lst n (rowM n ns 1))), .rows 64 [.vec 0 3 0 n, .vec 1 3 0 n]])
  | 3 => ([(0, .p (.int .i64 n)), (1, .p (.sl m 1 (intsP ns))), (5, .p (ratsM false (lst (n * n) (rowG ns)))), (6, .vec 3 1 0 3), (7, .p (.int .i64 (3 : Nat)))], [.vec 30 3 (rats (lst n (rowM n ns 0))), .vec 30 3 (rats (lst n (rowM n ns 1))), .vec 30 3 (rats (lst n (rowM n ns 2))), .rows 64 [.vec 0 3 0 n, .vec 1 3 0 n, .vec 2 3 0 n]])
  | 4 => ([(0, .p (.int .i64 n)), (1, .p (.sl m 1 (intsP ns))), (5, .p (ratsM false (lst (n * n) (rowG ns)))), (6, .vec 4 1 0 4), (7, .p (.int .i64 (4 : Nat)))], [.vec 30 3 (rats (lst n (rowM n ns 0))), .vec 30 3 (rats (lst n (rowM n ns 1))), .vec 30 3 (rats (lst n (rowM n ns 2))), .vec 30 3 (rats (lst n (rowM n ns 3))), .rows 64 [.vec 0 3 0 n, .vec 1 3 0 n, .vec 2 3 0 n, .vec 3 3 0 n]])
  | 5 => ([(0, .p (.int .i64 n)), (1, .p (.sl m 1 (intsP ns))), (5, .p (ratsM false (lst (n * n) (rowG ns)))), (6, .vec 5 1 0 5), (7, .p (.int .i64 (5 : Nat)))], [.vec 30 3 (rats (lst n (rowM n ns 0))), .vec 30 3 (rats (lst n (rowM n ns 1))), .vec 30 3 (rats (lst n (rowM n ns 2))), .vec 30 3 (rats (lst n (rowM n ns 3))), .vec 30 3 (rats (lst n (rowM n ns 4))), .rows 64 [.vec 0 3 0 n, .vec 1 3 0 n, .vec 2 3 0 n, .vec 3 3 0 n, .vec 4 3 0 n]])
  | 6 => ([(0, .p (.int .i64 n)), (1, .p (.sl m 1 (intsP ns))), (5, .p (ratsM false (lst (n * n) (rowG ns)))), (6, .vec 6 1 0 6), (7, .p (.int .i64 (6 : Nat)))], [.vec 30 3 (rats (lst n (rowM n ns 0))), .vec 30 3 (rats (lst n (rowM n ns 1))), .vec 30 3 (rats (lst n (rowM n ns 2))), .vec 30 3 (rats (lst n (rowM n ns 3))), .vec 30 3 (rats (lst n (rowM n ns 4))), .vec 30 3 (rats (lst n (rowM n ns 5))), .rows 64 [.vec 0 3 0 n, .vec 1 3 0 n, .vec 2 3 0 n, .vec 3 3 0 n, .vec 4 3 0 n, .vec 5 3 0 n]])
  | _ => ([], [])

set_option maxHeartbeats 4000000 in
theorem make7_ok (m : Bool) (n : Nat) (hn : 1 ≤ n ∧ n ≤ 6) (ns : List Int) (hns : I64s ns) : CallP Tryz.prog 45 [.int .i64 n, .sl m 1 (intsP ns)] (.p (matM false false (mkM n ns))) [] := by
  refine callG_of_vc (wr := wr0) Γok mixed Tryz.func45 (by kernel_rfl) rfl (by kernel_rfl) (le_of_ble rfl) (by simp) ?_
  have hnn : n * n ≤ 36 := Nat.mul_le_mul hn.2 hn.2
  refine SWrap.i64z ((n * n : Nat) : Int) (by rw [Int.natCast_mul]) (by omega) ?_
  refine SCall.pure (row2_ok m ns hns (n * n) (by omega)) ?_
  have w3 := within7_ok (ns.getD 2 0) 3 (by omega) (by omega)
  refine SLoop.mk Nat (stM n m ns) (fun i => i ≤ n) (fun i => n - i) 0 [] (Nat.zero_le _) ⟨rfl, .nil, rfl, rfl, rfl, ⟨rfl, rfl, rfl, rfl, rfl, trivial⟩, trivial⟩ ?_
  intro i h1
  have h1 : i ≤ n := h1
  have h6 : i < 7 := by omega
  match i, h6, h1 with
  | 0, _, h1 =>
    by_cases hi : 0 < n
    · refine SCmp.yes (decide_eq_true (by omega)) ?_
      have hb : 0 * n + n ≤ n * n := by have := Nat.mul_le_mul_right n (show 0 + 1 ≤ n from hi); rw [Nat.add_mul] at this; omega
      refine SWrap.i64z ((0 * n : Nat) : Int) (by omega) (by omega) ?_
      refine SWrap.i64z ((0 * n : Nat) : Int) (by omega) (by omega) ?_
      refine SWrap.i64z ((0 * n + n : Nat) : Int) (by omega) (by omega) ?_
      refine SZ.mk ((0 * n + n : Nat) : Int) rfl ?_
      refine SLt.mk (by omega) ?_
      refine SCut.mk (0 * n) (0 * n + n) rfl rfl (by omega) (by simp [lst]; omega) ?_
      refine SEs.mk (rats (lst n (rowM n ns 0))) (lst_cut hb) ?_
      refine SRoom.mk (by simp [lst]; omega) (by simp [lst]; omega) ?_
      refine SRoom.mk (by simp) (by simp) ?_
      rw [show (rats (lst n (rowM n ns 0))).length = n by simp [lst]]
      refine SWrap.i64z 1 rfl (by omega) ?_
      exact ⟨1, [0, 2], hi, by show n - 1 < n - 0; omega, ⟨rfl, by simp, rfl, rfl, rfl, ⟨rfl, rfl, rfl, rfl, rfl, trivial⟩, ⟨rfl, rfl, trivial⟩⟩⟩
    · omega
  | 1, _, h1 =>
    by_cases hi : 1 < n
    · refine SCmp.yes (decide_eq_true (by omega)) ?_
      have hb : 1 * n + n ≤ n * n := by have := Nat.mul_le_mul_right n (show 1 + 1 ≤ n from hi); rw [Nat.add_mul] at this; omega
      refine SWrap.i64z ((1 * n : Nat) : Int) (by omega) (by omega) ?_
      refine SWrap.i64z ((1 * n : Nat) : Int) (by omega) (by omega) ?_
      refine SWrap.i64z ((1 * n + n : Nat) : Int) (by omega) (by omega) ?_
      refine SZ.mk ((1 * n + n : Nat) : Int) rfl ?_
      refine SLt.mk (by omega) ?_
      refine SCut.mk (1 * n) (1 * n + n) rfl rfl (by omega) (by simp [lst]; omega) ?_
      refine SEs.mk (rats (lst n (rowM n ns 1))) (lst_cut hb) ?_
      refine SRoom.mk (by simp [lst]; omega) (by simp [lst]; omega) ?_
      refine SEqN.mk rfl ?_
      refine SRoom.mk (by simp) (by simp) ?_
      refine SAs.mk _ rfl ?_
      refine SZN.mk 2 rfl ?_
      rw [show (rats (lst n (rowM n ns 1))).length = n by simp [lst]]
      refine SWrap.i64z 2 rfl (by omega) ?_
      exact ⟨2, [0, 2, 4], hi, by show n - 2 < n - 1; omega, ⟨rfl, by simp, rfl, rfl, rfl, ⟨rfl, rfl, rfl, rfl, rfl, trivial⟩, ⟨rfl, rfl, rfl, trivial⟩⟩⟩
    · refine SCmp.no (decide_eq_false (by omega)) ?_
      have hn' : n = 1 := by omega
      subst hn'
      refine SCmp.no (decide_eq_false (by omega)) ?_
      have hl : lastC 1 ns = false := rfl
      rw [mkM_plain1 hl]
      exact SRet.pure (.frzR rfl (by simp) rfl ones_rats rfl fun i c d e1 e2 => by
        match i, e1, e2 with
        | 0, e1, e2 => cases e1; cases e2; exact frzR rfl (by rw [lst_length]))
  | 2, _, h1 =>
    by_cases hi : 2 < n
    · refine SCmp.yes (decide_eq_true (by omega)) ?_
      have hb : 2 * n + n ≤ n * n := by have := Nat.mul_le_mul_right n (show 2 + 1 ≤ n from hi); rw [Nat.add_mul] at this; omega
      refine SWrap.i64z ((2 * n : Nat) : Int) (by omega) (by omega) ?_
      refine SWrap.i64z ((2 * n : Nat) : Int) (by omega) (by omega) ?_
      refine SWrap.i64z ((2 * n + n : Nat) : Int) (by omega) (by omega) ?_
      refine SZ.mk ((2 * n + n : Nat) : Int) rfl ?_
      refine SLt.mk (by omega) ?_
      refine SCut.mk (2 * n) (2 * n + n) rfl rfl (by omega) (by simp [lst]; omega) ?_
      refine SEs.mk (rats (lst n (rowM n ns 2))) (lst_cut hb) ?_
      refine SRoom.mk (by simp [lst]; omega) (by simp [lst]; omega) ?_
      refine SEqN.mk rfl ?_
      refine SRoom.mk (by simp) (by simp) ?_
      refine SAs.mk _ rfl ?_
      refine SZN.mk 3 rfl ?_
      rw [show (rats (lst n (rowM n ns 2))).length = n by simp [lst]]
      refine SWrap.i64z 3 rfl (by omega) ?_
      exact ⟨3, [0, 1, 3, 5], hi, by show n - 3 < n - 2; omega, ⟨rfl, by simp, rfl, rfl, rfl, ⟨rfl, rfl, rfl, rfl, rfl, trivial⟩, ⟨rfl, rfl, rfl, rfl, trivial⟩⟩⟩
    · refine SCmp.no (decide_eq_false (by omega)) ?_
      have hn' : n = 2 := by omega
      subst hn'
      refine SCmp.yes (decide_eq_true (by omega)) ?_
      refine SZ.mk (ns.length : Int) (by simp) ?_
      by_cases hc1 : 2 < ns.length
      · refine SCmp.yes (decide_eq_true (by omega)) ?_
        refine SIdx.ib 2 rfl hc1 ?_
        refine SCall.pure (w3) ?_
        by_cases hc2 : ns.getD 2 0 % 3 = 0
        · refine SCmp.yes (eqT hc2) ?_
          have hl : lastC 2 ns = true := by unfold lastC; rw [decide_eq_true hc1, decide_eq_true hc2]; rfl
          refine SLoop.mk Nat (fun j => ([(0, .p (.int .i64 (2 : Nat))), (6, .vec 2 1 0 2), (8, .p (.int .i64 j))], [.vec 30 3 (rats (lst 2 (rowM 2 ns 0))), .vec 30 3 (rats (lst 2 (mixM 2 ns j))), .rows 64 [.vec 0 3 0 2, .vec 1 3 0 2]])) (fun j => j ≤ 2) (fun j => 2 - j) 0 [0, 1, 2] (Nat.zero_le _) ⟨rfl, by simp, rfl, rfl, rfl, ⟨rfl, rfl, rfl, trivial⟩, ⟨rfl, by rw [mix0]; rfl, rfl, trivial⟩⟩ ?_
          intro j g1
          have g1 : j ≤ 2 := g1
          by_cases hj : j < 2
          · refine SCmp.yes (decide_eq_true (by omega)) ?_
            have b0 := rowM_bz 2 ns 0 j
            have v0 := ratsI (g := rowM 2 ns 0) hj
            refine SDraw.mkX (by kernel_rfl) ?_
            repeat refine SOp.mk _ _ (And.intro rfl rfl) rfl ?_
            refine SOp.mk _ _ (SWrap.i64z 1 rfl (by omega) (And.intro rfl rfl)) rfl ?_
            refine SOp.mk _ _ (SPos.mk 1 rfl (by omega) (And.intro rfl rfl)) rfl ?_
            refine SOp.mk _ _ (SIdxA.mk 1 _ rfl rfl (And.intro rfl rfl)) rfl ?_
            repeat refine SOp.mk _ _ (And.intro rfl rfl) rfl ?_
            refine SOp.mk _ _ (SPos.mk 0 rfl (by omega) (And.intro rfl rfl)) rfl ?_
            refine SOp.mk _ _ (SIdxA.mk 0 _ rfl rfl (And.intro rfl rfl)) rfl ?_
            repeat refine SOp.mk _ _ (And.intro rfl rfl) rfl ?_
            refine SOp.mk _ _ (SPos.mk j rfl hj (And.intro rfl rfl)) rfl ?_
            refine SOp.mk _ _ (SIdx.mk j _ rfl v0 (And.intro rfl rfl)) rfl ?_
            refine SOp.mk _ _ (SCall.pure (rcopy_ok (rowM 2 ns 0 j) b0 (by omega)) (And.intro rfl rfl)) rfl ?_
            refine SOp.mk _ _ (SPos.mk j rfl hj (And.intro rfl rfl)) rfl ?_
            refine SOp.mk _ _ (SLt.rf hj <| SEs.rf (And.intro rfl rfl)) rfl ?_
            repeat refine SOp.mk _ _ (And.intro rfl rfl) rfl ?_
            refine SFin.mk (by kernel_rfl) ?_
            refine SCmp.no (decide_eq_false (by omega)) ?_
            refine SWrap.i64z ((j + 1 : Nat) : Int) (by omega) (by omega) ?_
            exact ⟨j + 1, [0, 1, 2], hj, by show 2 - (j + 1) < 2 - j; omega, ⟨rfl, by simp, rfl, rfl, rfl, ⟨rfl, rfl, rfl, trivial⟩, ⟨rfl, mix_step (g := upd (mixM 2 ns j) j (rowM 2 ns 0 j)) upd_ne (by rw [upd_same]; exact (if_pos (by omega)).symm), rfl, trivial⟩⟩⟩
          · refine SCmp.no (decide_eq_false (by omega)) ?_
            have hj' : j = 2 := by omega
            subst hj'
            rw [mixN]
            rw [mkM_last2 hl]
            exact SRet.pure (.frzR rfl (by simp) rfl ones_rats rfl fun i c d e1 e2 => by
              match i, e1, e2 with
              | 0, e1, e2 => cases e1; cases e2; exact frzR rfl (by rw [lst_length])
              | 1, e1, e2 => cases e1; cases e2; exact frzR rfl (by rw [lst_length]))
        · refine SCmp.no (eqF hc2) ?_
          have hl : lastC 2 ns = false := by unfold lastC; first | rw [decide_eq_false hc2, Bool.and_false, Bool.and_false] | rw [decide_eq_false hc1, Bool.false_and, Bool.and_false]
          rw [mkM_plain2 hl]
          exact SRet.pure (.frzR rfl (by simp) rfl ones_rats rfl fun i c d e1 e2 => by
            match i, e1, e2 with
            | 0, e1, e2 => cases e1; cases e2; exact frzR rfl (by rw [lst_length])
            | 1, e1, e2 => cases e1; cases e2; exact frzR rfl (by rw [lst_length]))
      · refine SCmp.no (decide_eq_false (by omega)) ?_
        have hl : lastC 2 ns = false := by unfold lastC; first | rw [decide_eq_false hc2, Bool.and_false, Bool.and_false] | rw [decide_eq_false hc1, Bool.false_and, Bool.and_false]
        rw [mkM_plain2 hl]
        exact SRet.pure (.frzR rfl (by simp) rfl ones_rats rfl fun i c d e1 e2 => by
          match i, e1, e2 with
          | 0, e1, e2 => cases e1; cases e2; exact frzR rfl (by rw [lst_length])
          | 1, e1, e2 => cases e1; cases e2; exact frzR rfl (by rw [lst_length]))
  | 3, _, h1 =>
    by_cases hi : 3 < n
    · refine SCmp.yes (decide_eq_true (by omega)) ?_
      have hb : 3 * n + n ≤ n * n := by have := Nat.mul_le_mul_right n (show 3 + 1 ≤ n from hi); rw [Nat.add_mul] at this; omega
      refine SWrap.i64z ((3 * n : Nat) : Int) (by omega) (by omega) ?_
      refine SWrap.i64z ((3 * n : Nat) : Int) (by omega) (by omega) ?_
      refine SWrap.i64z ((3 * n + n : Nat) : Int) (by omega) (by omega) ?_
      refine SZ.mk ((3 * n + n : Nat) : Int) rfl ?_
      refine SLt.mk (by omega) ?_
      refine SCut.mk (3 * n) (3 * n + n) rfl rfl (by omega) (by simp [lst]; omega) ?_
      refine SEs.mk (rats (lst n (rowM n ns 3))) (lst_cut hb) ?_
      refine SRoom.mk (by simp [lst]; omega) (by simp [lst]; omega) ?_
      refine SEqN.mk rfl ?_
      refine SRoom.mk (by simp) (by simp) ?_
      refine SAs.mk _ rfl ?_
      refine SZN.mk 4 rfl ?_
      rw [show (rats (lst n (rowM n ns 3))).length = n by simp [lst]]
      refine SWrap.i64z 4 rfl (by omega) ?_
      exact ⟨4, [0, 1, 2, 4, 6], hi, by show n - 4 < n - 3; omega, ⟨rfl, by simp, rfl, rfl, rfl, ⟨rfl, rfl, rfl, rfl, rfl, trivial⟩, ⟨rfl, rfl, rfl, rfl, rfl, trivial⟩⟩⟩
    · refine SCmp.no (decide_eq_false (by omega)) ?_
      have hn' : n = 3 := by omega
      subst hn'
      refine SCmp.yes (decide_eq_true (by omega)) ?_
      refine SZ.mk (ns.length : Int) (by simp) ?_
      by_cases hc1 : 2 < ns.length
      · refine SCmp.yes (decide_eq_true (by omega)) ?_
        refine SIdx.ib 2 rfl hc1 ?_
        refine SCall.pure (w3) ?_
        by_cases hc2 : ns.getD 2 0 % 3 = 0
        · refine SCmp.yes (eqT hc2) ?_
          have hl : lastC 3 ns = true := by unfold lastC; rw [decide_eq_true hc1, decide_eq_true hc2]; rfl
          refine SLoop.mk Nat (fun j => ([(0, .p (.int .i64 (3 : Nat))), (6, .vec 3 1 0 3), (8, .p (.int .i64 j))], [.vec 30 3 (rats (lst 3 (rowM 3 ns 0))), .vec 30 3 (rats (lst 3 (rowM 3 ns 1))), .vec 30 3 (rats (lst 3 (mixM 3 ns j))), .rows 64 [.vec 0 3 0 3, .vec 1 3 0 3, .vec 2 3 0 3]])) (fun j => j ≤ 3) (fun j => 3 - j) 0 [0, 1, 2, 3] (Nat.zero_le _) ⟨rfl, by simp, rfl, rfl, rfl, ⟨rfl, rfl, rfl, trivial⟩, ⟨rfl, rfl, by rw [mix0]; rfl, rfl, trivial⟩⟩ ?_
          intro j g1
          have g1 : j ≤ 3 := g1
          by_cases hj : j < 3
          · refine SCmp.yes (decide_eq_true (by omega)) ?_
            have b0 := rowM_bz 3 ns 0 j
            have v0 := ratsI (g := rowM 3 ns 0) hj
            refine SDraw.mkX (by kernel_rfl) ?_
            repeat refine SOp.mk _ _ (And.intro rfl rfl) rfl ?_
            refine SOp.mk _ _ (SWrap.i64z 2 rfl (by omega) (And.intro rfl rfl)) rfl ?_
            refine SOp.mk _ _ (SPos.mk 2 rfl (by omega) (And.intro rfl rfl)) rfl ?_
            refine SOp.mk _ _ (SIdxA.mk 2 _ rfl rfl (And.intro rfl rfl)) rfl ?_
            repeat refine SOp.mk _ _ (And.intro rfl rfl) rfl ?_
            refine SOp.mk _ _ (SPos.mk 0 rfl (by omega) (And.intro rfl rfl)) rfl ?_
            refine SOp.mk _ _ (SIdxA.mk 0 _ rfl rfl (And.intro rfl rfl)) rfl ?_
            repeat refine SOp.mk _ _ (And.intro rfl rfl) rfl ?_
            refine SOp.mk _ _ (SPos.mk j rfl hj (And.intro rfl rfl)) rfl ?_
            refine SOp.mk _ _ (SIdx.mk j _ rfl v0 (And.intro rfl rfl)) rfl ?_
            refine SOp.mk _ _ (SCall.pure (rcopy_ok (rowM 3 ns 0 j) b0 (by omega)) (And.intro rfl rfl)) rfl ?_
            refine SOp.mk _ _ (SPos.mk j rfl hj (And.intro rfl rfl)) rfl ?_
            refine SOp.mk _ _ (SLt.rf hj <| SEs.rf (And.intro rfl rfl)) rfl ?_
            repeat refine SOp.mk _ _ (And.intro rfl rfl) rfl ?_
            refine SFin.mk (by kernel_rfl) ?_
            refine SCmp.yes (decide_eq_true (by omega)) ?_
            have b1 := rowM_bz 3 ns 1 j
            have v1 := ratsI (g := rowM 3 ns 1) hj
            refine SDraw.mkX (by kernel_rfl) ?_
            repeat refine SOp.mk _ _ (And.intro rfl rfl) rfl ?_
            refine SOp.mk _ _ (SWrap.i64z 2 rfl (by omega) (And.intro rfl rfl)) rfl ?_
            refine SOp.mk _ _ (SPos.mk 2 rfl (by omega) (And.intro rfl rfl)) rfl ?_
            refine SOp.mk _ _ (SIdxA.mk 2 _ rfl rfl (And.intro rfl rfl)) rfl ?_
            repeat refine SOp.mk _ _ (And.intro rfl rfl) rfl ?_
            refine SOp.mk _ _ (SPos.mk 0 rfl (by omega) (And.intro rfl rfl)) rfl ?_
            refine SOp.mk _ _ (SIdxA.mk 0 _ rfl rfl (And.intro rfl rfl)) rfl ?_
            repeat refine SOp.mk _ _ (And.intro rfl rfl) rfl ?_
            refine SOp.mk _ _ (SPos.mk j rfl hj (And.intro rfl rfl)) rfl ?_
            refine SOp.mk _ _ (SIdx.mk j _ rfl v0 (And.intro rfl rfl)) rfl ?_
            repeat refine SOp.mk _ _ (And.intro rfl rfl) rfl ?_
            refine SOp.mk _ _ (SWrap.i64z 1 rfl (by omega) (And.intro rfl rfl)) rfl ?_
            refine SOp.mk _ _ (SPos.mk 1 rfl (by omega) (And.intro rfl rfl)) rfl ?_
            refine SOp.mk _ _ (SIdxA.mk 1 _ rfl rfl (And.intro rfl rfl)) rfl ?_
            repeat refine SOp.mk _ _ (And.intro rfl rfl) rfl ?_
            refine SOp.mk _ _ (SPos.mk j rfl hj (And.intro rfl rfl)) rfl ?_
            refine SOp.mk _ _ (SIdx.mk j _ rfl v1 (And.intro rfl rfl)) rfl ?_
            refine SOp.mk _ _ (SCall.pure (raddq_ok (rowM 3 ns 0 j) (rowM 3 ns 1 j) b0 b1 (by omega)) (And.intro rfl rfl)) rfl ?_
            refine SOp.mk _ _ (SPos.mk j rfl hj (And.intro rfl rfl)) rfl ?_
            refine SOp.mk _ _ (SLt.rf hj <| SEs.rf (And.intro rfl rfl)) rfl ?_
            repeat refine SOp.mk _ _ (And.intro rfl rfl) rfl ?_
            refine SFin.mk (by kernel_rfl) ?_
            refine SWrap.i64z ((j + 1 : Nat) : Int) (by omega) (by omega) ?_
            exact ⟨j + 1, [0, 1, 2, 3], hj, by show 3 - (j + 1) < 3 - j; omega, ⟨rfl, by simp, rfl, rfl, rfl, ⟨rfl, rfl, rfl, trivial⟩, ⟨rfl, rfl, mix_step (g := upd (upd (mixM 3 ns j) j (rowM 3 ns 0 j)) j (rowM 3 ns 0 j + rowM 3 ns 1 j)) upd_ne2 (by rw [upd_same]; exact (if_neg (by omega)).symm), rfl, trivial⟩⟩⟩
          · refine SCmp.no (decide_eq_false (by omega)) ?_
            have hj' : j = 3 := by omega
            subst hj'
            rw [mixN]
            rw [mkM_last3 hl]
            exact SRet.pure (.frzR rfl (by simp) rfl ones_rats rfl fun i c d e1 e2 => by
              match i, e1, e2 with
              | 0, e1, e2 => cases e1; cases e2; exact frzR rfl (by rw [lst_length])
              | 1, e1, e2 => cases e1; cases e2; exact frzR rfl (by rw [lst_length])
              | 2, e1, e2 => cases e1; cases e2; exact frzR rfl (by rw [lst_length]))
        · refine SCmp.no (eqF hc2) ?_
          have hl : lastC 3 ns = false := by unfold lastC; first | rw [decide_eq_false hc2, Bool.and_false, Bool.and_false] | rw [decide_eq_false hc1, Bool.false_and, Bool.and_false]
          rw [mkM_plain3 hl]
          exact SRet.pure (.frzR rfl (by simp) rfl ones_rats rfl fun i c d e1 e2 => by
            match i, e1, e2 with
            | 0, e1, e2 => cases e1; cases e2; exact frzR rfl (by rw [lst_length])
            | 1, e1, e2 => cases e1; cases e2; exact frzR rfl (by rw [lst_length])
            | 2, e1, e2 => cases e1; cases e2; exact frzR rfl (by rw [lst_length]))
      · refine SCmp.no (decide_eq_false (by omega)) ?_
        have hl : lastC 3 ns = false := by unfold lastC; first | rw [decide_eq_false hc2, Bool.and_false, Bool.and_false] | rw [decide_eq_false hc1, Bool.false_and, Bool.and_false]
        rw [mkM_plain3 hl]
        exact SRet.pure (.frzR rfl (by simp) rfl ones_rats rfl fun i c d e1 e2 => by
          match i, e1, e2 with
          | 0, e1, e2 => cases e1; cases e2; exact frzR rfl (by rw [lst_length])
          | 1, e1, e2 => cases e1; cases e2; exact frzR rfl (by rw [lst_length])
          | 2, e1, e2 => cases e1; cases e2; exact frzR rfl (by rw [lst_length]))
  | 4, _, h1 =>
    by_cases hi : 4 < n
    · refine SCmp.yes (decide_eq_true (by omega)) ?_
      have hb : 4 * n + n ≤ n * n := by have := Nat.mul_le_mul_right n (show 4 + 1 ≤ n from hi); rw [Nat.add_mul] at this; omega
      refine SWrap.i64z ((4 * n : Nat) : Int) (by omega) (by omega) ?_
      refine SWrap.i64z ((4 * n : Nat) : Int) (by omega) (by omega) ?_
      refine SWrap.i64z ((4 * n + n : Nat) : Int) (by omega) (by omega) ?_
      refine SZ.mk ((4 * n + n : Nat) : Int) rfl ?_
      refine SLt.mk (by omega) ?_
      refine SCut.mk (4 * n) (4 * n + n) rfl rfl (by omega) (by simp [lst]; omega) ?_
      refine SEs.mk (rats (lst n (rowM n ns 4))) (lst_cut hb) ?_
      refine SRoom.mk (by simp [lst]; omega) (by simp [lst]; omega) ?_
      refine SEqN.mk rfl ?_
      refine SRoom.mk (by simp) (by simp) ?_
      refine SAs.mk _ rfl ?_
      refine SZN.mk 5 rfl ?_
      rw [show (rats (lst n (rowM n ns 4))).length = n by simp [lst]]
      refine SWrap.i64z 5 rfl (by omega) ?_
      exact ⟨5, [0, 1, 2, 3, 5, 7], hi, by show n - 5 < n - 4; omega, ⟨rfl, by simp, rfl, rfl, rfl, ⟨rfl, rfl, rfl, rfl, rfl, trivial⟩, ⟨rfl, rfl, rfl, rfl, rfl, rfl, trivial⟩⟩⟩
    · refine SCmp.no (decide_eq_false (by omega)) ?_
      have hn' : n = 4 := by omega
      subst hn'
      refine SCmp.yes (decide_eq_true (by omega)) ?_
      refine SZ.mk (ns.length : Int) (by simp) ?_
      by_cases hc1 : 2 < ns.length
      · refine SCmp.yes (decide_eq_true (by omega)) ?_
        refine SIdx.ib 2 rfl hc1 ?_
        refine SCall.pure (w3) ?_
        by_cases hc2 : ns.getD 2 0 % 3 = 0
        · refine SCmp.yes (eqT hc2) ?_
          have hl : lastC 4 ns = true := by unfold lastC; rw [decide_eq_true hc1, decide_eq_true hc2]; rfl
          refine SLoop.mk Nat (fun j => ([(0, .p (.int .i64 (4 : Nat))), (6, .vec 4 1 0 4), (8, .p (.int .i64 j))], [.vec 30 3 (rats (lst 4 (rowM 4 ns 0))), .vec 30 3 (rats (lst 4 (rowM 4 ns 1))), .vec 30 3 (rats (lst 4 (rowM 4 ns 2))), .vec 30 3 (rats (lst 4 (mixM 4 ns j))), .rows 64 [.vec 0 3 0 4, .vec 1 3 0 4, .vec 2 3 0 4, .vec 3 3 0 4]])) (fun j => j ≤ 4) (fun j => 4 - j) 0 [0, 1, 2, 3, 4] (Nat.zero_le _) ⟨rfl, by simp, rfl, rfl, rfl, ⟨rfl, rfl, rfl, trivial⟩, ⟨rfl, rfl, rfl, by rw [mix0]; rfl, rfl, trivial⟩⟩ ?_
          intro j g1
          have g1 : j ≤ 4 := g1
          by_cases hj : j < 4
          · refine SCmp.yes (decide_eq_true (by omega)) ?_
            have b0 := rowM_bz 4 ns 0 j
            have v0 := ratsI (g := rowM 4 ns 0) hj
            refine SDraw.mkX (by kernel_rfl) ?_
            repeat refine SOp.mk _ _ (And.intro rfl rfl) rfl ?_
            refine SOp.mk _ _ (SWrap.i64z 3 rfl (by omega) (And.intro rfl rfl)) rfl ?_
            refine SOp.mk _ _ (SPos.mk 3 rfl (by omega) (And.intro rfl rfl)) rfl ?_
            refine SOp.mk _ _ (SIdxA.mk 3 _ rfl rfl (And.intro rfl rfl)) rfl ?_
            repeat refine SOp.mk _ _ (And.intro rfl rfl) rfl ?_
            refine SOp.mk _ _ (SPos.mk 0 rfl (by omega) (And.intro rfl rfl)) rfl ?_
            refine SOp.mk _ _ (SIdxA.mk 0 _ rfl rfl (And.intro rfl rfl)) rfl ?_
            repeat refine SOp.mk _ _ (And.intro rfl rfl) rfl ?_
            refine SOp.mk _ _ (SPos.mk j rfl hj (And.intro rfl rfl)) rfl ?_
            refine SOp.mk _ _ (SIdx.mk j _ rfl v0 (And.intro rfl rfl)) rfl ?_
            refine SOp.mk _ _ (SCall.pure (rcopy_ok (rowM 4 ns 0 j) b0 (by omega)) (And.intro rfl rfl)) rfl ?_
            refine SOp.mk _ _ (SPos.mk j rfl hj (And.intro rfl rfl)) rfl ?_
            refine SOp.mk _ _ (SLt.rf hj <| SEs.rf (And.intro rfl rfl)) rfl ?_
            repeat refine SOp.mk _ _ (And.intro rfl rfl) rfl ?_
            refine SFin.mk (by kernel_rfl) ?_
            refine SCmp.yes (decide_eq_true (by omega)) ?_
            have b1 := rowM_bz 4 ns 2 j
            have v1 := ratsI (g := rowM 4 ns 2) hj
            refine SDraw.mkX (by kernel_rfl) ?_
            repeat refine SOp.mk _ _ (And.intro rfl rfl) rfl ?_
            refine SOp.mk _ _ (SWrap.i64z 3 rfl (by omega) (And.intro rfl rfl)) rfl ?_
            refine SOp.mk _ _ (SPos.mk 3 rfl (by omega) (And.intro rfl rfl)) rfl ?_
            refine SOp.mk _ _ (SIdxA.mk 3 _ rfl rfl (And.intro rfl rfl)) rfl ?_
            repeat refine SOp.mk _ _ (And.intro rfl rfl) rfl ?_
            refine SOp.mk _ _ (SPos.mk 0 rfl (by omega) (And.intro rfl rfl)) rfl ?_
            refine SOp.mk _ _ (SIdxA.mk 0 _ rfl rfl (And.intro rfl rfl)) rfl ?_
            repeat refine SOp.mk _ _ (And.intro rfl rfl) rfl ?_
            refine SOp.mk _ _ (SPos.mk j rfl hj (And.intro rfl rfl)) rfl ?_
            refine SOp.mk _ _ (SIdx.mk j _ rfl v0 (And.intro rfl rfl)) rfl ?_
            repeat refine SOp.mk _ _ (And.intro rfl rfl) rfl ?_
            refine SOp.mk _ _ (SWrap.i64z 2 rfl (by omega) (And.intro rfl rfl)) rfl ?_
            refine SOp.mk _ _ (SPos.mk 2 rfl (by omega) (And.intro rfl rfl)) rfl ?_
            refine SOp.mk _ _ (SIdxA.mk 2 _ rfl rfl (And.intro rfl rfl)) rfl ?_
            repeat refine SOp.mk _ _ (And.intro rfl rfl) rfl ?_
            refine SOp.mk _ _ (SPos.mk j rfl hj (And.intro rfl rfl)) rfl ?_
            refine SOp.mk _ _ (SIdx.mk j _ rfl v1 (And.intro rfl rfl)) rfl ?_
            refine SOp.mk _ _ (SCall.pure (raddq_ok (rowM 4 ns 0 j) (rowM 4 ns 2 j) b0 b1 (by omega)) (And.intro rfl rfl)) rfl ?_
            refine SOp.mk _ _ (SPos.mk j rfl hj (And.intro rfl rfl)) rfl ?_
            refine SOp.mk _ _ (SLt.rf hj <| SEs.rf (And.intro rfl rfl)) rfl ?_
            repeat refine SOp.mk _ _ (And.intro rfl rfl) rfl ?_
            refine SFin.mk (by kernel_rfl) ?_
            refine SWrap.i64z ((j + 1 : Nat) : Int) (by omega) (by omega) ?_
            exact ⟨j + 1, [0, 1, 2, 3, 4], hj, by show 4 - (j + 1) < 4 - j; omega, ⟨rfl, by simp, rfl, rfl, rfl, ⟨rfl, rfl, rfl, trivial⟩, ⟨rfl, rfl, rfl, mix_step (g := upd (upd (mixM 4 ns j) j (rowM 4 ns 0 j)) j (rowM 4 ns 0 j + rowM 4 ns 2 j)) upd_ne2 (by rw [upd_same]; exact (if_neg (by omega)).symm), rfl, trivial⟩⟩⟩
          · refine SCmp.no (decide_eq_false (by omega)) ?_
            have hj' : j = 4 := by omega
            subst hj'
            rw [mixN]
            rw [mkM_last4 hl]
            exact SRet.pure (.frzR rfl (by simp) rfl ones_rats rfl fun i c d e1 e2 => by
              match i, e1, e2 with
              | 0, e1, e2 => cases e1; cases e2; exact frzR rfl (by rw [lst_length])
              | 1, e1, e2 => cases e1; cases e2; exact frzR rfl (by rw [lst_length])
              | 2, e1, e2 => cases e1; cases e2; exact frzR rfl (by rw [lst_length])
              | 3, e1, e2 => cases e1; cases e2; exact frzR rfl (by rw [lst_length]))
        · refine SCmp.no (eqF hc2) ?_
          have hl : lastC 4 ns = false := by unfold lastC; first | rw [decide_eq_false hc2, Bool.and_false, Bool.and_false] | rw [decide_eq_false hc1, Bool.false_and, Bool.and_false]
          rw [mkM_plain4 hl]
          exact SRet.pure (.frzR rfl (by simp) rfl ones_rats rfl fun i c d e1 e2 => by
            match i, e1, e2 with
            | 0, e1, e2 => cases e1; cases e2; exact frzR rfl (by rw [lst_length])
            | 1, e1, e2 => cases e1; cases e2; exact frzR rfl (by rw [lst_length])
            | 2, e1, e2 => cases e1; cases e2; exact frzR rfl (by rw [lst_length])
            | 3, e1, e2 => cases e1; cases e2; exact frzR rfl (by rw [lst_length]))
      · refine SCmp.no (decide_eq_false (by omega)) ?_
        have hl : lastC 4 ns = false := by unfold lastC; first | rw [decide_eq_false hc2, Bool.and_false, Bool.and_false] | rw [decide_eq_false hc1, Bool.false_and, Bool.and_false]
        rw [mkM_plain4 hl]
        exact SRet.pure (.frzR rfl (by simp) rfl ones_rats rfl fun i c d e1 e2 => by
          match i, e1, e2 with
          | 0, e1, e2 => cases e1; cases e2; exact frzR rfl (by rw [lst_length])
          | 1, e1, e2 => cases e1; cases e2; exact frzR rfl (by rw [lst_length])
          | 2, e1, e2 => cases e1; cases e2; exact frzR rfl (by rw [lst_length])
          | 3, e1, e2 => cases e1; cases e2; exact frzR rfl (by rw [lst_length]))
  | 5, _, h1 =>
    by_cases hi : 5 < n
    · refine SCmp.yes (decide_eq_true (by omega)) ?_
      have hb : 5 * n + n ≤ n * n := by have := Nat.mul_le_mul_right n (show 5 + 1 ≤ n from hi); rw [Nat.add_mul] at this; omega
      refine SWrap.i64z ((5 * n : Nat) : Int) (by omega) (by omega) ?_
      refine SWrap.i64z ((5 * n : Nat) : Int) (by omega) (by omega) ?_
      refine SWrap.i64z ((5 * n + n : Nat) : Int) (by omega) (by omega) ?_
      refine SZ.mk ((5 * n + n : Nat) : Int) rfl ?_
      refine SLt.mk (by omega) ?_
      refine SCut.mk (5 * n) (5 * n + n) rfl rfl (by omega) (by simp [lst]; omega) ?_
      refine SEs.mk (rats (lst n (rowM n ns 5))) (lst_cut hb) ?_
      refine SRoom.mk (by simp [lst]; omega) (by simp [lst]; omega) ?_
      refine SEqN.mk rfl ?_
      refine SRoom.mk (by simp) (by simp) ?_
      refine SAs.mk _ rfl ?_
      refine SZN.mk 6 rfl ?_
      rw [show (rats (lst n (rowM n ns 5))).length = n by simp [lst]]
      refine SWrap.i64z 6 rfl (by omega) ?_
      exact ⟨6, [0, 1, 2, 3, 4, 6, 8], hi, by show n - 6 < n - 5; omega, ⟨rfl, by simp, rfl, rfl, rfl, ⟨rfl, rfl, rfl, rfl, rfl, trivial⟩, ⟨rfl, rfl, rfl, rfl, rfl, rfl, rfl, trivial⟩⟩⟩
    · refine SCmp.no (decide_eq_false (by omega)) ?_
      have hn' : n = 5 := by omega
      subst hn'
      refine SCmp.yes (decide_eq_true (by omega)) ?_
      refine SZ.mk (ns.length : Int) (by simp) ?_
      by_cases hc1 : 2 < ns.length
      · refine SCmp.yes (decide_eq_true (by omega)) ?_
        refine SIdx.ib 2 rfl hc1 ?_
        refine SCall.pure (w3) ?_
        by_cases hc2 : ns.getD 2 0 % 3 = 0
        · refine SCmp.yes (eqT hc2) ?_
          have hl : lastC 5 ns = true := by unfold lastC; rw [decide_eq_true hc1, decide_eq_true hc2]; rfl
          refine SLoop.mk Nat (fun j => ([(0, .p (.int .i64 (5 : Nat))), (6, .vec 5 1 0 5), (8, .p (.int .i64 j))], [.vec 30 3 (rats (lst 5 (rowM 5 ns 0))), .vec 30 3 (rats (lst 5 (rowM 5 ns 1))), .vec 30 3 (rats (lst 5 (rowM 5 ns 2))), .vec 30 3 (rats (lst 5 (rowM 5 ns 3))), .vec 30 3 (rats (lst 5 (mixM 5 ns j))), .rows 64 [.vec 0 3 0 5, .vec 1 3 0 5, .vec 2 3 0 5, .vec 3 3 0 5, .vec 4 3 0 5]])) (fun j => j ≤ 5) (fun j => 5 - j) 0 [0, 1, 2, 3, 4, 5] (Nat.zero_le _) ⟨rfl, by simp, rfl, rfl, rfl, ⟨rfl, rfl, rfl, trivial⟩, ⟨rfl, rfl, rfl, rfl, by rw [mix0]; rfl, rfl, trivial⟩⟩ ?_
          intro j g1
          have g1 : j ≤ 5 := g1
          by_cases hj : j < 5
          · refine SCmp.yes (decide_eq_true (by omega)) ?_
            have b0 := rowM_bz 5 ns 0 j
            have v0 := ratsI (g := rowM 5 ns 0) hj
            refine SDraw.mkX (by kernel_rfl) ?_
            repeat refine SOp.mk _ _ (And.intro rfl rfl) rfl ?_
            refine SOp.mk _ _ (SWrap.i64z 4 rfl (by omega) (And.intro rfl rfl)) rfl ?_
            refine SOp.mk _ _ (SPos.mk 4 rfl (by omega) (And.intro rfl rfl)) rfl ?_
            refine SOp.mk _ _ (SIdxA.mk 4 _ rfl rfl (And.intro rfl rfl)) rfl ?_
            repeat refine SOp.mk _ _ (And.intro rfl rfl) rfl ?_
            refine SOp.mk _ _ (SPos.mk 0 rfl (by omega) (And.intro rfl rfl)) rfl ?_
            refine SOp.mk _ _ (SIdxA.mk 0 _ rfl rfl (And.intro rfl rfl)) rfl ?_
            repeat refine SOp.mk _ _ (And.intro rfl rfl) rfl ?_
            refine SOp.mk _ _ (SPos.mk j rfl hj (And.intro rfl rfl)) rfl ?_
            refine SOp.mk _ _ (SIdx.mk j _ rfl v0 (And.intro rfl rfl)) rfl ?_
            refine SOp.mk _ _ (SCall.pure (rcopy_ok (rowM 5 ns 0 j) b0 (by omega)) (And.intro rfl rfl)) rfl ?_
            refine SOp.mk _ _ (SPos.mk j rfl hj (And.intro rfl rfl)) rfl ?_
            refine SOp.mk _ _ (SLt.rf hj <| SEs.rf (And.intro rfl rfl)) rfl ?_
            repeat refine SOp.mk _ _ (And.intro rfl rfl) rfl ?_
            refine SFin.mk (by kernel_rfl) ?_
            refine SCmp.yes (decide_eq_true (by omega)) ?_
            have b1 := rowM_bz 5 ns 3 j
            have v1 := ratsI (g := rowM 5 ns 3) hj
            refine SDraw.mkX (by kernel_rfl) ?_
            repeat refine SOp.mk _ _ (And.intro rfl rfl) rfl ?_
            refine SOp.mk _ _ (SWrap.i64z 4 rfl (by omega) (And.intro rfl rfl)) rfl ?_
            refine SOp.mk _ _ (SPos.mk 4 rfl (by omega) (And.intro rfl rfl)) rfl ?_
            refine SOp.mk _ _ (SIdxA.mk 4 _ rfl rfl (And.intro rfl rfl)) rfl ?_
            repeat refine SOp.mk _ _ (And.intro rfl rfl) rfl ?_
            refine SOp.mk _ _ (SPos.mk 0 rfl (by omega) (And.intro rfl rfl)) rfl ?_
            refine SOp.mk _ _ (SIdxA.mk 0 _ rfl rfl (And.intro rfl rfl)) rfl ?_
            repeat refine SOp.mk _ _ (And.intro rfl rfl) rfl ?_
            refine SOp.mk _ _ (SPos.mk j rfl hj (And.intro rfl rfl)) rfl ?_
            refine SOp.mk _ _ (SIdx.mk j _ rfl v0 (And.intro rfl rfl)) rfl ?_
            repeat refine SOp.mk _ _ (And.intro rfl rfl) rfl ?_
            refine SOp.mk _ _ (SWrap.i64z 3 rfl (by omega) (And.intro rfl rfl)) rfl ?_
            refine SOp.mk _ _ (SPos.mk 3 rfl (by omega) (And.intro rfl rfl)) rfl ?_
            refine SOp.mk _ _ (SIdxA.mk 3 _ rfl rfl (And.intro rfl rfl)) rfl ?_
            repeat refine SOp.mk _ _ (And.intro rfl rfl) rfl ?_
            refine SOp.mk _ _ (SPos.mk j rfl hj (And.intro rfl rfl)) rfl ?_
            refine SOp.mk _ _ (SIdx.mk j _ rfl v1 (And.intro rfl rfl)) rfl ?_
            refine SOp.mk _ _ (SCall.pure (raddq_ok (rowM 5 ns 0 j) (rowM 5 ns 3 j) b0 b1 (by omega)) (And.intro rfl rfl)) rfl ?_
            refine SOp.mk _ _ (SPos.mk j rfl hj (And.intro rfl rfl)) rfl ?_
            refine SOp.mk _ _ (SLt.rf hj <| SEs.rf (And.intro rfl rfl)) rfl ?_
            repeat refine SOp.mk _ _ (And.intro rfl rfl) rfl ?_
            refine SFin.mk (by kernel_rfl) ?_
            refine SWrap.i64z ((j + 1 : Nat) : Int) (by omega) (by omega) ?_
            exact ⟨j + 1, [0, 1, 2, 3, 4, 5], hj, by show 5 - (j + 1) < 5 - j; omega, ⟨rfl, by simp, rfl, rfl, rfl, ⟨rfl, rfl, rfl, trivial⟩, ⟨rfl, rfl, rfl, rfl, mix_step (g := upd (upd (mixM 5 ns j) j (rowM 5 ns 0 j)) j (rowM 5 ns 0 j + rowM 5 ns 3 j)) upd_ne2 (by rw [upd_same]; exact (if_neg (by omega)).symm), rfl, trivial⟩⟩⟩
          · refine SCmp.no (decide_eq_false (by omega)) ?_
            have hj' : j = 5 := by omega
            subst hj'
            rw [mixN]
            rw [mkM_last5 hl]
            exact SRet.pure (.frzR rfl (by simp) rfl ones_rats rfl fun i c d e1 e2 => by
              match i, e1, e2 with
              | 0, e1, e2 => cases e1; cases e2; exact frzR rfl (by rw [lst_length])
              | 1, e1, e2 => cases e1; cases e2; exact frzR rfl (by rw [lst_length])
              | 2, e1, e2 => cases e1; cases e2; exact frzR rfl (by rw [lst_length])
              | 3, e1, e2 => cases e1; cases e2; exact frzR rfl (by rw [lst_length])
              | 4, e1, e2 => cases e1; cases e2; exact frzR rfl (by rw [lst_length]))
        · refine SCmp.no (eqF hc2) ?_
          have hl : lastC 5 ns = false := by unfold lastC; first | rw [decide_eq_false hc2, Bool.and_false, Bool.and_false] | rw [decide_eq_false hc1, Bool.false_and, Bool.and_false]
          rw [mkM_plain5 hl]
          exact SRet.pure (.frzR rfl (by simp) rfl ones_rats rfl fun i c d e1 e2 => by
            match i, e1, e2 with
            | 0, e1, e2 => cases e1; cases e2; exact frzR rfl (by rw [lst_length])
            | 1, e1, e2 => cases e1; cases e2; exact frzR rfl (by rw [lst_length])
            | 2, e1, e2 => cases e1; cases e2; exact frzR rfl (by rw [lst_length])
            | 3, e1, e2 => cases e1; cases e2; exact frzR rfl (by rw [lst_length])
            | 4, e1, e2 => cases e1; cases e2; exact frzR rfl (by rw [lst_length]))
      · refine SCmp.no (decide_eq_false (by omega)) ?_
        have hl : lastC 5 ns = false := by unfold lastC; first | rw [decide_eq_false hc2, Bool.and_false, Bool.and_false] | rw [decide_eq_false hc1, Bool.false_and, Bool.and_false]
        rw [mkM_plain5 hl]
        exact SRet.pure (.frzR rfl (by simp) rfl ones_rats rfl fun i c d e1 e2 => by
          match i, e1, e2 with
          | 0, e1, e2 => cases e1; cases e2; exact frzR rfl (by rw [lst_length])
          | 1, e1, e2 => cases e1; cases e2; exact frzR rfl (by rw [lst_length])
          | 2, e1, e2 => cases e1; cases e2; exact frzR rfl (by rw [lst_length])
          | 3, e1, e2 => cases e1; cases e2; exact frzR rfl (by rw [lst_length])
          | 4, e1, e2 => cases e1; cases e2; exact frzR rfl (by rw [lst_length]))
  | 6, _, h1 =>
    refine SCmp.no (decide_eq_false (by omega)) ?_
    have hn' : n = 6 := by omega
    subst hn'
    refine SCmp.yes (decide_eq_true (by omega)) ?_
    refine SZ.mk (ns.length : Int) (by simp) ?_
    by_cases hc1 : 2 < ns.length
    · refine SCmp.yes (decide_eq_true (by omega)) ?_
      refine SIdx.ib 2 rfl hc1 ?_
      refine SCall.pure (w3) ?_
      by_cases hc2 : ns.getD 2 0 % 3 = 0
      · refine SCmp.yes (eqT hc2) ?_
        have hl : lastC 6 ns = true := by unfold lastC; rw [decide_eq_true hc1, decide_eq_true hc2]; rfl
        refine SLoop.mk Nat (fun j => ([(0, .p (.int .i64 (6 : Nat))), (6, .vec 6 1 0 6), (8, .p (.int .i64 j))], [.vec 30 3 (rats (lst 6 (rowM 6 ns 0))), .vec 30 3 (rats (lst 6 (rowM 6 ns 1))), .vec 30 3 (rats (lst 6 (rowM 6 ns 2))), .vec 30 3 (rats (lst 6 (rowM 6 ns 3))), .vec 30 3 (rats (lst 6 (rowM 6 ns 4))), .vec 30 3 (rats (lst 6 (mixM 6 ns j))), .rows 64 [.vec 0 3 0 6, .vec 1 3 0 6, .vec 2 3 0 6, .vec 3 3 0 6, .vec 4 3 0 6, .vec 5 3 0 6]])) (fun j => j ≤ 6) (fun j => 6 - j) 0 [0, 1, 2, 3, 4, 5, 6] (Nat.zero_le _) ⟨rfl, by simp, rfl, rfl, rfl, ⟨rfl, rfl, rfl, trivial⟩, ⟨rfl, rfl, rfl, rfl, rfl, by rw [mix0]; rfl, rfl, trivial⟩⟩ ?_
        intro j g1
        have g1 : j ≤ 6 := g1
        by_cases hj : j < 6
        · refine SCmp.yes (decide_eq_true (by omega)) ?_
          have b0 := rowM_bz 6 ns 0 j
          have v0 := ratsI (g := rowM 6 ns 0) hj
          refine SDraw.mkX (by kernel_rfl) ?_
          repeat refine SOp.mk _ _ (And.intro rfl rfl) rfl ?_
          refine SOp.mk _ _ (SWrap.i64z 5 rfl (by omega) (And.intro rfl rfl)) rfl ?_
          refine SOp.mk _ _ (SPos.mk 5 rfl (by omega) (And.intro rfl rfl)) rfl ?_
          refine SOp.mk _ _ (SIdxA.mk 5 _ rfl rfl (And.intro rfl rfl)) rfl ?_
          repeat refine SOp.mk _ _ (And.intro rfl rfl) rfl ?_
          refine SOp.mk _ _ (SPos.mk 0 rfl (by omega) (And.intro rfl rfl)) rfl ?_
          refine SOp.mk _ _ (SIdxA.mk 0 _ rfl rfl (And.intro rfl rfl)) rfl ?_
          repeat refine SOp.mk _ _ (And.intro rfl rfl) rfl ?_
          refine SOp.mk _ _ (SPos.mk j rfl hj (And.intro rfl rfl)) rfl ?_
          refine SOp.mk _ _ (SIdx.mk j _ rfl v0 (And.intro rfl rfl)) rfl ?_
          refine SOp.mk _ _ (SCall.pure (rcopy_ok (rowM 6 ns 0 j) b0 (by omega)) (And.intro rfl rfl)) rfl ?_
          refine SOp.mk _ _ (SPos.mk j rfl hj (And.intro rfl rfl)) rfl ?_
          refine SOp.mk _ _ (SLt.rf hj <| SEs.rf (And.intro rfl rfl)) rfl ?_
          repeat refine SOp.mk _ _ (And.intro rfl rfl) rfl ?_
          refine SFin.mk (by kernel_rfl) ?_
          refine SCmp.yes (decide_eq_true (by omega)) ?_
          have b1 := rowM_bz 6 ns 4 j
          have v1 := ratsI (g := rowM 6 ns 4) hj
          refine SDraw.mkX (by kernel_rfl) ?_
          repeat refine SOp.mk _ _ (And.intro rfl rfl) rfl ?_
          refine SOp.mk _ _ (SWrap.i64z 5 rfl (by omega) (And.intro rfl rfl)) rfl ?_
          refine SOp.mk _ _ (SPos.mk 5 rfl (by omega) (And.intro rfl rfl)) rfl ?_
          refine SOp.mk _ _ (SIdxA.mk 5 _ rfl rfl (And.intro rfl rfl)) rfl ?_
          repeat refine SOp.mk _ _ (And.intro rfl rfl) rfl ?_
          refine SOp.mk _ _ (SPos.mk 0 rfl (by omega) (And.intro rfl rfl)) rfl ?_
          refine SOp.mk _ _ (SIdxA.mk 0 _ rfl rfl (And.intro rfl rfl)) rfl ?_
          repeat refine SOp.mk _ _ (And.intro rfl rfl) rfl ?_
          refine SOp.mk _ _ (SPos.mk j rfl hj (And.intro rfl rfl)) rfl ?_
          refine SOp.mk _ _ (SIdx.mk j _ rfl v0 (And.intro rfl rfl)) rfl ?_
          repeat refine SOp.mk _ _ (And.intro rfl rfl) rfl ?_
          refine SOp.mk _ _ (SWrap.i64z 4 rfl (by omega) (And.intro rfl rfl)) rfl ?_
          refine SOp.mk _ _ (SPos.mk 4 rfl (by omega) (And.intro rfl rfl)) rfl ?_
          refine SOp.mk _ _ (SIdxA.mk 4 _ rfl rfl (And.intro rfl rfl)) rfl ?_
          repeat refine SOp.mk _ _ (And.intro rfl rfl) rfl ?_
          refine SOp.mk _ _ (SPos.mk j rfl hj (And.intro rfl rfl)) rfl ?_
          refine SOp.mk _ _ (SIdx.mk j _ rfl v1 (And.intro rfl rfl)) rfl ?_
          refine SOp.mk _ _ (SCall.pure (raddq_ok (rowM 6 ns 0 j) (rowM 6 ns 4 j) b0 b1 (by omega)) (And.intro rfl rfl)) rfl ?_
          refine SOp.mk _ _ (SPos.mk j rfl hj (And.intro rfl rfl)) rfl ?_
          refine SOp.mk _ _ (SLt.rf hj <| SEs.rf (And.intro rfl rfl)) rfl ?_
          repeat refine SOp.mk _ _ (And.intro rfl rfl) rfl ?_
          refine SFin.mk (by kernel_rfl) ?_
          refine SWrap.i64z ((j + 1 : Nat) : Int) (by omega) (by omega) ?_
          exact ⟨j + 1, [0, 1, 2, 3, 4, 5, 6], hj, by show 6 - (j + 1) < 6 - j; omega, ⟨rfl, by simp, rfl, rfl, rfl, ⟨rfl, rfl, rfl, trivial⟩, ⟨rfl, rfl, rfl, rfl, rfl, mix_step (g := upd (upd (mixM 6 ns j) j (rowM 6 ns 0 j)) j (rowM 6 ns 0 j + rowM 6 ns 4 j)) upd_ne2 (by rw [upd_same]; exact (if_neg (by omega)).symm), rfl, trivial⟩⟩⟩
        · refine SCmp.no (decide_eq_false (by omega)) ?_
          have hj' : j = 6 := by omega
          subst hj'
          rw [mixN]
          rw [mkM_last6 hl]
          exact SRet.pure (.frzR rfl (by simp) rfl ones_rats rfl fun i c d e1 e2 => by
            match i, e1, e2 with
            | 0, e1, e2 => cases e1; cases e2; exact frzR rfl (by rw [lst_length])
            | 1, e1, e2 => cases e1; cases e2; exact frzR rfl (by rw [lst_length])
            | 2, e1, e2 => cases e1; cases e2; exact frzR rfl (by rw [lst_length])
            | 3, e1, e2 => cases e1; cases e2; exact frzR rfl (by rw [lst_length])
            | 4, e1, e2 => cases e1; cases e2; exact frzR rfl (by rw [lst_length])
            | 5, e1, e2 => cases e1; cases e2; exact frzR rfl (by rw [lst_length]))
      · refine SCmp.no (eqF hc2) ?_
        have hl : lastC 6 ns = false := by unfold lastC; first | rw [decide_eq_false hc2, Bool.and_false, Bool.and_false] | rw [decide_eq_false hc1, Bool.false_and, Bool.and_false]
        rw [mkM_plain6 hl]
        exact SRet.pure (.frzR rfl (by simp) rfl ones_rats rfl fun i c d e1 e2 => by
          match i, e1, e2 with
          | 0, e1, e2 => cases e1; cases e2; exact frzR rfl (by rw [lst_length])
          | 1, e1, e2 => cases e1; cases e2; exact frzR rfl (by rw [lst_length])
          | 2, e1, e2 => cases e1; cases e2; exact frzR rfl (by rw [lst_length])
          | 3, e1, e2 => cases e1; cases e2; exact frzR rfl (by rw [lst_length])
          | 4, e1, e2 => cases e1; cases e2; exact frzR rfl (by rw [lst_length])
          | 5, e1, e2 => cases e1; cases e2; exact frzR rfl (by rw [lst_length]))
    · refine SCmp.no (decide_eq_false (by omega)) ?_
      have hl : lastC 6 ns = false := by unfold lastC; first | rw [decide_eq_false hc2, Bool.and_false, Bool.and_false] | rw [decide_eq_false hc1, Bool.false_and, Bool.and_false]
      rw [mkM_plain6 hl]
      exact SRet.pure (.frzR rfl (by simp) rfl ones_rats rfl fun i c d e1 e2 => by
        match i, e1, e2 with
        | 0, e1, e2 => cases e1; cases e2; exact frzR rfl (by rw [lst_length])
        | 1, e1, e2 => cases e1; cases e2; exact frzR rfl (by rw [lst_length])
        | 2, e1, e2 => cases e1; cases e2; exact frzR rfl (by rw [lst_length])
        | 3, e1, e2 => cases e1; cases e2; exact frzR rfl (by rw [lst_length])
        | 4, e1, e2 => cases e1; cases e2; exact frzR rfl (by rw [lst_length])
        | 5, e1, e2 => cases e1; cases e2; exact frzR rfl (by rw [lst_length]))
end Go.Proofs.YtacklcbgkigcaaaGreat
