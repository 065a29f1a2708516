/- VdmKnown: the walk. -/
import Derived.Test.YthenhipnibkdeaaKn1
namespace Go.Proofs.Ythenhipnibkdeaa
open Go
set_option linter.unusedVariables false
set_option linter.unusedSimpArgs false
set_option maxRecDepth 10000

theorem intG_cast (l : List Int) : intG l = fun i => ((l.getD i 0 : Int) : Rat) := rfl
theorem thr_int {n : Nat} {xs fs cs : List Int} (hd : ∀ i, i < n + 1 → ∀ j, j < n + 1 → xs.getD i 0 = xs.getD j 0 → i = j) (h : ∀ l, l < n + 1 → pevZ n (fun i => cs.getD i 0) (xs.getD l 0) = fs.getD l 0) :
    rightZ (lst (n + 1) (intG xs)) (lst (n + 1) (intG fs)) = 0 ∧ thrL (lst (n + 1) (intG xs)) (lst (n + 1) (intG fs)) = lst (n + 1) (intG cs) := by
  have hi : Inj (intG xs) (n + 1) := inj_cast (z := fun i => xs.getD i 0) hd
  refine ⟨rightZ_lst.1 hi, thrL_eq hi fun l hl => ?_⟩
  have := pev_cast n (fun i => cs.getD i 0) (xs.getD l 0)
  rw [h l (by omega)] at this
  exact this
theorem leja_int (xs : List Int) (n : Nat) (o : List Nat) (h : lejaZ (fun i => xs.getD i 0) n n = o) : leja (intG xs) n n = o := by rw [← h]; exact leja_cast _ n n
def halfs (i : Nat) : Rat := if i = 1 then 1 else mkQ (decide ((1 : Int) < 0) != decide ((2 : Int) < 0)) (1 : Int).natAbs (2 : Int).natAbs
theorem half_eq : mkQ (decide ((1 : Int) < 0) != decide ((2 : Int) < 0)) (1 : Int).natAbs (2 : Int).natAbs = 1 / 2 := by
  show mkRat 1 2 = 1 / 2
  rw [Rat.mkRat_eq_div]
  rfl
theorem mom_half : momL (lst 3 (intG [-1, 0, 1])) (lst 3 (intG [2, 0, 1])) = lst 3 halfs := by
  have hi : Inj (intG [-1, 0, 1]) 3 := inj_cast (z := fun i => [-1, 0, 1].getD i 0) (by decide)
  refine momL_eq hi fun j hj => ?_
  have e0 : intG [-1, 0, 1] 0 = -1 := rfl
  have e1 : intG [-1, 0, 1] 1 = 0 := rfl
  have e2 : intG [-1, 0, 1] 2 = 1 := rfl
  have h0 : halfs 0 = 1 / 2 := by rw [halfs, if_neg (by omega), half_eq]
  have h1 : halfs 1 = 1 := if_pos rfl
  have h2 : halfs 2 = 1 / 2 := by rw [halfs, if_neg (by omega), half_eq]
  have hj : j = 0 ∨ j = 1 ∨ j = 2 := by omega
  have f0 : intG [2, 0, 1] 0 = 2 := rfl
  have f1 : intG [2, 0, 1] 1 = 0 := rfl
  have f2 : intG [2, 0, 1] 2 = 1 := rfl
  rcases hj with rfl | rfl | rfl <;> simp only [sm, e0, e1, e2, h0, h1, h2, pw, f0, f1, f2] <;> grind

set_option maxHeartbeats 4000000 in
theorem known_ok (which : Int) (hw : I64 which) : CallP Try.prog 10 [.int .i64 which] (.p (.bool true)) [] := by
  have bd : ∀ {l : List Int}, (∀ x ∈ l, -100 ≤ x ∧ x ≤ 100) → ∀ n, Bl (lst n (intG l)) 7 := fun h n => Bl.lst fun i _ => intG_bz h i
  have c1 := ints14_ok true [0, 1, 2] (i64s_small (by decide)) (by decide)
  have c2 := ints14_ok true [1, 2, 5] (i64s_small (by decide)) (by decide)
  have c3 := ints14_ok true [-1, 0, 1] (i64s_small (by decide)) (by decide)
  have c4 := ints14_ok true [2, 0, 1] (i64s_small (by decide)) (by decide)
  have c5 := ints14_ok true [1, 2, 1] (i64s_small (by decide)) (by decide)
  have c6 := ints14_ok true [1, 2, 3] (i64s_small (by decide)) (by decide)
  have c7 := ints14_ok true [1, 2] (i64s_small (by decide)) (by decide)
  have c8 := ints14_ok true [1] (i64s_small (by decide)) (by decide)
  have c9 := ints14_ok true [0, 1, 2, 3, 4] (i64s_small (by decide)) (by decide)
  have c10 := ints14_ok true [1, -1, 0] (i64s_small (by decide)) (by decide)
  have c11 := ints14_ok true [1, 0, 1] (i64s_small (by decide)) (by decide)
  have T1 := Through_ok false false (lst 3 (intG [0, 1, 2])) (lst 3 (intG [1, 2, 5])) (s := 7) (b := 7) (bd (by decide) 3) (bd (by decide) 3) (by omega) (by rw [lst_length]; decide) (by rw [lst_length]; omega)
  obtain ⟨r1, t1⟩ := thr_int (n := 2) (xs := [0, 1, 2]) (fs := [1, 2, 5]) (cs := [1, 0, 1]) (by decide) (by decide)
  rw [if_pos r1, t1] at T1
  have M1 := Moments_ok false false (lst 3 (intG [-1, 0, 1])) (lst 3 (intG [2, 0, 1])) (s := 7) (b := 7) (bd (by decide) 3) (bd (by decide) 3) (by omega) (by rw [lst_length]; decide) (by rw [lst_length]; omega)
  have r2 : rightZ (lst 3 (intG [-1, 0, 1])) (lst 3 (intG [2, 0, 1])) = 0 := (rightZ_lst (n := 2) (x := intG [-1, 0, 1]) (f := intG [2, 0, 1])).1 (inj_cast (z := fun i => [-1, 0, 1].getD i 0) (by decide))
  rw [if_pos r2, mom_half] at M1
  have T2 := Through_ok false false (lst 3 (intG [1, 2, 1])) (lst 3 (intG [1, 2, 3])) (s := 7) (b := 7) (bd (by decide) 3) (bd (by decide) 3) (by omega) (by rw [lst_length]; decide) (by rw [lst_length]; omega)
  have n2 : rightZ (lst 3 (intG [1, 2, 1])) (lst 3 (intG [1, 2, 3])) = 9 := rightZ_lst.2 fun h => by have := h 0 2 (by omega) (by omega) rfl; omega
  rw [if_neg (by rw [n2]; decide), n2] at T2
  have M2 := Moments_ok false false (lst 2 (intG [1, 2])) (lst 1 (intG [1])) (s := 7) (b := 7) (bd (by decide) 2) (bd (by decide) 1) (by omega) (by rw [lst_length]; decide) (by rw [lst_length]; omega)
  have n3 : rightZ (lst 2 (intG [1, 2])) (lst 1 (intG [1])) = 3 := by rw [rightZ, if_pos (.inr (by rw [lst_length, lst_length]; omega))]
  rw [if_neg (by rw [n3]; decide), n3] at M2
  have b0 : Bl [] 0 := fun i hi => absurd hi (Nat.not_lt_zero _)
  have T3 := Through_ok false false [] [] (s := 0) (b := 0) b0 b0 (by omega) (by decide) (by simp)
  rw [if_neg (by simp [rightZ]), show rightZ [] [] = 3 from rfl] at T3
  have L1 := Leja_ok false 5 (intG [0, 1, 2, 3, 4]) (s := 7) (fun i _ => intG_bz (by decide) i) (by omega) (by omega)
  rw [leja_int [0, 1, 2, 3, 4] 5 [4, 0, 2, 1, 3] (by decide)] at L1
  have L2 := Leja_ok false 3 (intG [1, -1, 0]) (s := 7) (fun i _ => intG_bz (by decide) i) (by omega) (by omega)
  rw [leja_int [1, -1, 0] 3 [0, 1, 2] (by decide)] at L2
  have L3 := Leja_ok false 0 (fun _ => 0) (s := 7) (fun i h => absurd h (Nat.not_lt_zero _)) (by omega) (by omega)
  have R1 := rrows_ok false false (lst 3 (intG [1, 0, 1])) (lst 3 (intG [1, 0, 1])) (bd (by decide) 3) (bd (by decide) 3) (by omega) (by rw [lst_length]; omega)
  rw [decide_eq_true rfl] at R1
  have bh : ∀ i, Bz (halfs i) 7 := fun i => by
    unfold halfs
    split
    · exact bz_one.mono (by omega)
    · exact Bz.mkQ (by decide) (by decide) (by decide)
  have R2 := rrows_ok false true (lst 3 halfs) (lst 3 halfs) (Bl.lst fun i _ => bh i) (Bl.lst fun i _ => bh i) (by omega) (by rw [lst_length]; omega)
  rw [decide_eq_true rfl] at R2
  have A1 := vat_ok false (lst 3 (intG [1, 2, 3])) ((2 : Int) : Rat) (b := 7) (s := 7) (bd (by decide) 3) (int_bz (by decide) (by omega)) (by rw [lst_length]; omega) (by rw [lst_length]; omega)
  rw [hor_lst, show pev 2 (intG [1, 2, 3]) ((2 : Int) : Rat) = ((17 : Int) : Rat) from pev_cast 2 (fun i => [1, 2, 3].getD i 0) 2] at A1
  have S1 := rsame_ok ((17 : Int) : Rat) ((17 : Int) : Rat) (j := 7) (k := 7) (int_bz (by decide) (by omega)) (int_bz (by decide) (by omega)) (by omega)
  rw [decide_eq_true rfl] at S1
  refine callG_of_vc (wr := wr0) Γok mixed Try.func10 (by kernel_rfl) rfl (by kernel_rfl) (le_of_ble rfl) (by simp) ?_
  refine SCall.pure (known14_ok) ?_
  refine SCmp.no (rfl) ?_
  refine SView.all rfl ?_
  refine SCall.pure (pvs := [.sl true 1 (intsP [0, 1, 2])]) c1 ?_
  refine SView.all rfl ?_
  refine SCall.pure (pvs := [.sl true 1 (intsP [1, 2, 5])]) c2 ?_
  refine SCall.pureT (pvs := [ratsM false (lst 3 (intG [0, 1, 2])), ratsM false (lst 3 (intG [1, 2, 5]))]) T1 (fun _ => rfl) ?_
  refine SView.all rfl ?_
  refine SCall.pure (pvs := [.sl true 1 (intsP [-1, 0, 1])]) c3 ?_
  refine SView.all rfl ?_
  refine SCall.pure (pvs := [.sl true 1 (intsP [2, 0, 1])]) c4 ?_
  refine SCall.pureT (pvs := [ratsM false (lst 3 (intG [-1, 0, 1])), ratsM false (lst 3 (intG [2, 0, 1]))]) M1 (fun _ => rfl) ?_
  refine SCall.pureT (rof2_ok 1 2 (by omega) (by omega) (by omega)) (fun _ => rfl) ?_
  refine SView.all rfl ?_
  refine SCall.pure (pvs := [.sl true 1 (intsP [1, 2, 1])]) c5 ?_
  refine SView.all rfl ?_
  refine SCall.pure (pvs := [.sl true 1 (intsP [1, 2, 3])]) c6 ?_
  refine SCall.pureT (pvs := [ratsM false (lst 3 (intG [1, 2, 1])), ratsM false (lst 3 (intG [1, 2, 3]))]) T2 (fun _ => rfl) ?_
  refine SView.all rfl ?_
  refine SCall.pure (pvs := [.sl true 1 (intsP [1, 2])]) c7 ?_
  refine SView.all rfl ?_
  refine SCall.pure (pvs := [.sl true 1 (intsP [1])]) c8 ?_
  refine SCall.pureT (pvs := [ratsM false (lst 2 (intG [1, 2])), ratsM false (lst 1 (intG [1]))]) M2 (fun _ => rfl) ?_
  refine SCall.pureT (pvs := [ratsM false [], ratsM false []]) T3 (fun _ => rfl) ?_
  refine SView.all rfl ?_
  refine SCall.pure (pvs := [.sl true 1 (intsP [0, 1, 2, 3, 4])]) c9 ?_
  refine SCall.pure (pvs := [ratsM false (lst 5 (intG [0, 1, 2, 3, 4]))]) L1 ?_
  refine SView.all rfl ?_
  refine SCall.pure (pvs := [.sl true 1 (intsP [1, -1, 0])]) c10 ?_
  refine SCall.pure (pvs := [ratsM false (lst 3 (intG [1, -1, 0]))]) L2 ?_
  refine SDraw.mk (by kernel_rfl) ?_
  repeat refine SOp.mk _ _ (And.intro rfl rfl) rfl ?_
  refine SOp.mk _ _ (SCmp.yes rfl (And.intro rfl rfl)) rfl ?_
  repeat refine SOp.mk _ _ (And.intro rfl rfl) rfl ?_
  refine SOp.mk _ _ (SView.all rfl <| SCall.pure (pvs := [.sl true 1 (intsP [1, 0, 1])]) c11 (And.intro rfl rfl)) rfl ?_
  refine SOp.mk _ _ (SCall.pure (pvs := [ratsM false (lst 3 (intG [1, 0, 1])), ratsM false (lst 3 (intG [1, 0, 1]))]) R1 (And.intro rfl rfl)) rfl ?_
  repeat refine SOp.mk _ _ (And.intro rfl rfl) rfl ?_
  refine SOp.mk _ _ (SCmp.yes rfl (And.intro rfl rfl)) rfl ?_
  repeat refine SOp.mk _ _ (And.intro rfl rfl) rfl ?_
  refine SOp.mk _ _ (SCall.pure (rint_ok 1 (by omega)) (And.intro rfl rfl)) rfl ?_
  repeat refine SOp.mk _ _ (And.intro rfl rfl) rfl ?_
  refine SOp.mk _ _ (SView.all rfl <| SCall.pure (pvs := [ratsM false (lst 3 halfs), ratsM true (lst 3 halfs)]) R2 (And.intro rfl rfl)) rfl ?_
  repeat refine SOp.mk _ _ (And.intro rfl rfl) rfl ?_
  refine SOp.mk _ _ (SCmp.yes rfl (And.intro rfl rfl)) rfl ?_
  repeat refine SOp.mk _ _ (And.intro rfl rfl) rfl ?_
  refine SOp.mk _ _ (SCmp.yes rfl (And.intro rfl rfl)) rfl ?_
  repeat refine SOp.mk _ _ (And.intro rfl rfl) rfl ?_
  refine SOp.mk _ _ (SCmp.yes rfl (And.intro rfl rfl)) rfl ?_
  repeat refine SOp.mk _ _ (And.intro rfl rfl) rfl ?_
  refine SOp.mk _ _ (SZ.mk 5 rfl (And.intro rfl rfl)) rfl ?_
  refine SOp.mk _ _ (SCmp.yes rfl (And.intro rfl rfl)) rfl ?_
  repeat refine SOp.mk _ _ (And.intro rfl rfl) rfl ?_
  refine SOp.mk _ _ (SIdx.nb (l := [4, 0, 2, 1, 3]) 0 rfl (by decide) (And.intro rfl rfl)) rfl ?_
  repeat refine SOp.mk _ _ (And.intro rfl rfl) rfl ?_
  refine SOp.mk _ _ (SCmp.yes rfl (And.intro rfl rfl)) rfl ?_
  repeat refine SOp.mk _ _ (And.intro rfl rfl) rfl ?_
  refine SOp.mk _ _ (SIdx.nb (l := [4, 0, 2, 1, 3]) 1 rfl (by decide) (And.intro rfl rfl)) rfl ?_
  repeat refine SOp.mk _ _ (And.intro rfl rfl) rfl ?_
  refine SOp.mk _ _ (SCmp.yes rfl (And.intro rfl rfl)) rfl ?_
  repeat refine SOp.mk _ _ (And.intro rfl rfl) rfl ?_
  refine SOp.mk _ _ (SIdx.nb (l := [4, 0, 2, 1, 3]) 2 rfl (by decide) (And.intro rfl rfl)) rfl ?_
  repeat refine SOp.mk _ _ (And.intro rfl rfl) rfl ?_
  refine SOp.mk _ _ (SCmp.yes rfl (And.intro rfl rfl)) rfl ?_
  repeat refine SOp.mk _ _ (And.intro rfl rfl) rfl ?_
  refine SOp.mk _ _ (SIdx.nb (l := [4, 0, 2, 1, 3]) 3 rfl (by decide) (And.intro rfl rfl)) rfl ?_
  repeat refine SOp.mk _ _ (And.intro rfl rfl) rfl ?_
  refine SOp.mk _ _ (SCmp.yes rfl (And.intro rfl rfl)) rfl ?_
  repeat refine SOp.mk _ _ (And.intro rfl rfl) rfl ?_
  refine SOp.mk _ _ (SIdx.nb (l := [4, 0, 2, 1, 3]) 4 rfl (by decide) (And.intro rfl rfl)) rfl ?_
  repeat refine SOp.mk _ _ (And.intro rfl rfl) rfl ?_
  refine SOp.mk _ _ (SCmp.yes rfl (And.intro rfl rfl)) rfl ?_
  repeat refine SOp.mk _ _ (And.intro rfl rfl) rfl ?_
  refine SOp.mk _ _ (SZ.mk 3 rfl (And.intro rfl rfl)) rfl ?_
  refine SOp.mk _ _ (SCmp.yes rfl (And.intro rfl rfl)) rfl ?_
  repeat refine SOp.mk _ _ (And.intro rfl rfl) rfl ?_
  refine SOp.mk _ _ (SIdx.nb (l := [0, 1, 2]) 0 rfl (by decide) (And.intro rfl rfl)) rfl ?_
  repeat refine SOp.mk _ _ (And.intro rfl rfl) rfl ?_
  refine SOp.mk _ _ (SCmp.yes rfl (And.intro rfl rfl)) rfl ?_
  repeat refine SOp.mk _ _ (And.intro rfl rfl) rfl ?_
  refine SOp.mk _ _ (SIdx.nb (l := [0, 1, 2]) 1 rfl (by decide) (And.intro rfl rfl)) rfl ?_
  repeat refine SOp.mk _ _ (And.intro rfl rfl) rfl ?_
  refine SOp.mk _ _ (SCmp.yes rfl (And.intro rfl rfl)) rfl ?_
  repeat refine SOp.mk _ _ (And.intro rfl rfl) rfl ?_
  refine SOp.mk _ _ (SIdx.nb (l := [0, 1, 2]) 2 rfl (by decide) (And.intro rfl rfl)) rfl ?_
  repeat refine SOp.mk _ _ (And.intro rfl rfl) rfl ?_
  refine SOp.mk _ _ (SCmp.yes rfl (And.intro rfl rfl)) rfl ?_
  repeat refine SOp.mk _ _ (And.intro rfl rfl) rfl ?_
  refine SOp.mk _ _ (SCall.pure (pvs := [ratsM false (lst 0 (fun _ => 0))]) L3 (And.intro rfl rfl)) rfl ?_
  refine SOp.mk _ _ (SZ.mk 0 rfl (And.intro rfl rfl)) rfl ?_
  refine SOp.mk _ _ (SCmp.yes rfl (And.intro rfl rfl)) rfl ?_
  repeat refine SOp.mk _ _ (And.intro rfl rfl) rfl ?_
  refine SOp.mk _ _ (SView.all rfl <| SCall.pure (pvs := [.sl true 1 (intsP [1, 2, 3])]) c6 (And.intro rfl rfl)) rfl ?_
  refine SOp.mk _ _ (SCall.pure (rint_ok 2 (by omega)) (And.intro rfl rfl)) rfl ?_
  refine SOp.mk _ _ (SCall.pure (pvs := [ratsM false (lst 3 (intG [1, 2, 3])), ratP ((2 : Int) : Rat)]) A1 (And.intro rfl rfl)) rfl ?_
  refine SOp.mk _ _ (SCall.pure (rint_ok 17 (by omega)) (And.intro rfl rfl)) rfl ?_
  refine SOp.mk _ _ (SCall.pure (S1) (And.intro rfl rfl)) rfl ?_
  repeat refine SOp.mk _ _ (And.intro rfl rfl) rfl ?_
  refine SZ.mk 7 rfl ?_
  refine SCall.pure (within14_ok which 7 (by omega) (by omega)) ?_
  obtain ⟨k, hk⟩ : ∃ k : Nat, which % 7 = (k : Int) := ⟨(which % 7).toNat, by omega⟩
  have hk7 : k < 7 := by omega
  rw [hk]
  refine SPos.mk k rfl hk7 ?_
  refine SIdx.mk k (.bool true) rfl (by
    have : k = 0 ∨ k = 1 ∨ k = 2 ∨ k = 3 ∨ k = 4 ∨ k = 5 ∨ k = 6 := by omega
    rcases this with rfl | rfl | rfl | rfl | rfl | rfl | rfl <;> rfl) ?_
  exact SRet.pure (.p _ (.bool _))
end Go.Proofs.Ythenhipnibkdeaa
