/- VdmSame: a polynomial's values tell it again. -/
import Derived.Test.YthenhipnibkdeaaLo1
namespace Go.Proofs.Ythenhipnibkdeaa
open Go
set_option linter.unusedVariables false
set_option linter.unusedSimpArgs false
set_option maxRecDepth 10000

theorem same_ok (m m' : Bool) (n : Int) (ns cs : List Int) (hn : I64 n) (hns : I64s ns) (hcs : I64s cs) :
    CallP Try.prog 6 [.int .i64 n, .sl m 1 (intsP ns), .sl m' 1 (intsP cs)] (.p (.bool true)) [] := by
  refine callG_of_vc (wr := wr0) Γok mixed Try.func6 (by kernel_rfl) rfl (by kernel_rfl) (le_of_ble rfl) (by simp) ?_
  refine SCall.pure (known14_ok) ?_
  refine SCmp.no (rfl) ?_
  refine SCall.pure (within14_ok n 6 (by omega) (by omega)) ?_
  obtain ⟨N, hN⟩ : ∃ N : Nat, 1 + n % 6 = ((N + 1 : Nat) : Int) := ⟨(n % 6).toNat, by omega⟩
  have hN6 : N ≤ 5 := by omega
  refine SWrap.i64z ((N + 1 : Nat) : Int) hN (by omega) ?_
  refine SCall.pure (nodes14_ok m ns hns (N + 1) (by omega)) ?_
  refine SCall.pure (row2_ok m' cs hcs (N + 1) (by omega)) ?_
  obtain ⟨x, hx⟩ : ∃ x, x = nodeG ns := ⟨_, rfl⟩
  obtain ⟨c, hc⟩ : ∃ c, c = rowG cs := ⟨_, rfl⟩
  have bx : ∀ i, i < N + 1 → Bz (x i) 6 := fun i hi => by rw [hx]; exact nodeG_bz ns (by omega)
  have bc : ∀ i, i < N + 1 → Bz (c i) 5 := fun i hi => by rw [hc]; exact rowG_bz cs i
  rw [← hx, ← hc]
  obtain ⟨F, hF⟩ : ∃ F : Nat → Rat, F = fun i => pev N c (x i) := ⟨_, rfl⟩
  have bF : ∀ i, i < N + 1 → Bz (F i) 73 := fun i hi => by
    rw [hF]
    have := hor_bz (bx i hi) (lst (N + 1) c) (Bl.lst bc)
    rw [hor_lst, lst_length] at this
    exact this.mono (by omega)
  refine SLoop.mkT Nat (fun i => ([(0, .p (.int .i64 ((N + 1 : Nat) : Int))), (7, .p (ratsM false (lst (N + 1) x))), (8, .p (ratsM false (lst (N + 1) c))), (9, .vec 0 3 0 i), (10, .p (.int .i64 i))], [.vec 37 3 (rats (lst i F))]))
    (fun i => i ≤ N + 1) (fun i => N + 1 - i) 0 [0] _ _ (.step 9 37 3 rfl (.done _ _)) (Nat.zero_le _)
    ⟨rfl, by simp, rfl, rfl, rfl, ⟨rfl, rfl, rfl, rfl, rfl, trivial⟩, ⟨rfl, trivial⟩⟩ ?_
  intro i h1
  have h1 : i ≤ N + 1 := h1
  by_cases hi : i < N + 1
  · refine SCmp.yes (decide_eq_true (by omega)) ?_
    have hA := vat_ok false (lst (N + 1) c) (x i) (Bl.lst bc) (bx i hi) (by rw [lst_length]; omega) (by rw [lst_length]; omega)
    rw [hor_lst] at hA
    have nF : rats (lst i F) ++ [ratP (pev N c (x i))] = rats (lst (i + 1) F) := by rw [← lst_snoc, rats, rats, List.map_append, hF]; rfl
    refine SIdx.rf i rfl hi ?_
    refine SCall.pure (hA) ?_
    refine SEqN.mk (by simp [lst]) ?_
    refine SView.all rfl ?_
    refine SRoom.mk (by simp [lst]; omega) (by simp [lst]; omega) ?_
    refine SEs.mk _ nF ?_
    refine SZN.mk (i + 1) (by simp [lst]) ?_
    refine SWrap.i64z ((i + 1 : Nat) : Int) (by omega) (by omega) ?_
    exact ⟨i + 1, [2], hi, by show N + 1 - (i + 1) < N + 1 - i; omega, ⟨rfl, by simp, rfl, rfl, rfl, ⟨rfl, rfl, rfl, rfl, rfl, trivial⟩, ⟨rfl, trivial⟩⟩⟩
  · refine SCmp.no (decide_eq_false (by omega)) ?_
    have hiN : i = N + 1 := by omega
    subst hiN
    have bsl : bs (2 * 6 + 2) 73 ((lst (N + 1) x).length + (lst (N + 1) x).length) ≤ 1048576 := Nat.le_trans (bs_mono (j := 12) (by rw [lst_length]; omega)) (by decide)
    have hT1 := Through_ok false true (lst (N + 1) x) (lst (N + 1) F) (s := 6) (b := 73) (Bl.lst bx) (Bl.lst bF) (by omega) bsl (by rw [lst_length]; omega)
    have hap := apart14_ok false (lst (N + 1) x) (Bl.lst bx) (by omega) (by rw [lst_length]; omega)
    refine SView.rf ?_
    by_cases hd : Inj x (N + 1)
    · rw [if_pos (rightZ_lst.1 hd), thrL_eq hd (c := c) fun l hl => by rw [hF]] at hT1
      rw [decide_eq_true (nodup_lst.2 hd)] at hap
      have hR := rrows_ok false false (lst (N + 1) c) (lst (N + 1) c) (Bl.lst bc) (Bl.lst bc) (by omega) (by rw [lst_length]; omega)
      rw [decide_eq_true rfl] at hR
      have hA := rpat_ok false (lst (N + 1) c) (x 0) (Bl.lst bc) (bx 0 (by omega)) (by rw [lst_length]; omega) (by rw [lst_length]; omega)
      have e0 : F 0 = pev N c (x 0) := by rw [hF]
      rw [hor_lst, ← e0] at hA
      have hS := rsame_ok (F 0) (F 0) (bF 0 (by omega)) (bF 0 (by omega)) (by omega)
      rw [decide_eq_true rfl] at hS
      refine SCall.pureT (pvs := [ratsM false (lst (N + 1) x), ratsM true (lst (N + 1) F)]) hT1 (fun _ => rfl) ?_
      refine SDraw.mk (by kernel_rfl) ?_
      repeat refine SOp.mk _ _ (And.intro rfl rfl) rfl ?_
      refine SOp.mk _ _ (SCmp.no rfl (And.intro rfl rfl)) rfl ?_
      repeat refine SOp.mk _ _ (And.intro rfl rfl) rfl ?_
      refine SOp.mk _ _ (SCmp.yes rfl (And.intro rfl rfl)) rfl ?_
      repeat refine SOp.mk _ _ (And.intro rfl rfl) rfl ?_
      refine SOp.mk _ _ (SCall.pure (hap) (And.intro rfl rfl)) rfl ?_
      repeat refine SOp.mk _ _ (And.intro rfl rfl) rfl ?_
      refine SOp.mk _ _ (SCall.pure (hR) (And.intro rfl rfl)) rfl ?_
      repeat refine SOp.mk _ _ (And.intro rfl rfl) rfl ?_
      refine SOp.mk _ _ (SIdx.rf 0 rfl (by omega) (And.intro rfl rfl)) rfl ?_
      repeat refine SOp.mk _ _ (And.intro rfl rfl) rfl ?_
      refine SOp.mk _ _ (SCall.pure (hA) (And.intro rfl rfl)) rfl ?_
      repeat refine SOp.mk _ _ (And.intro rfl rfl) rfl ?_
      refine SOp.mk _ _ (SPos.mk 0 rfl (by omega) (And.intro rfl rfl)) rfl ?_
      refine SOp.mk _ _ (SIdx.rf 0 rfl (by omega) (And.intro rfl rfl)) rfl ?_
      refine SOp.mk _ _ (SCall.pure (hS) (And.intro rfl rfl)) rfl ?_
      repeat refine SOp.mk _ _ (And.intro rfl rfl) rfl ?_
      exact SRet.pure (.p _ (.bool _))
    · rw [if_neg (by rw [rightZ_lst.2 hd]; decide), rightZ_lst.2 hd] at hT1
      rw [decide_eq_false (mt nodup_lst.1 hd)] at hap
      refine SCall.pureT (pvs := [ratsM false (lst (N + 1) x), ratsM true (lst (N + 1) F)]) hT1 (fun _ => rfl) ?_
      refine SDraw.mk (by kernel_rfl) ?_
      repeat refine SOp.mk _ _ (And.intro rfl rfl) rfl ?_
      refine SOp.mk _ _ (SCmp.yes rfl (And.intro rfl rfl)) rfl ?_
      repeat refine SOp.mk _ _ (And.intro rfl rfl) rfl ?_
      refine SOp.mk _ _ (SCall.pure (hap) (And.intro rfl rfl)) rfl ?_
      refine SOp.mk _ _ (SCmp.yes rfl (And.intro rfl rfl)) rfl ?_
      repeat refine SOp.mk _ _ (And.intro rfl rfl) rfl ?_
      exact SRet.pure (.tf true)
end Go.Proofs.Ythenhipnibkdeaa
