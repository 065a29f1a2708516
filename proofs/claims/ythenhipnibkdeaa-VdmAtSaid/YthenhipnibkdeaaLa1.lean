/- VdmAt: values of polynomials. -/
import Derived.Test.YthenhipnibkdeaaLw2
namespace Go.Proofs.Ythenhipnibkdeaa
open Go
set_option linter.unusedVariables false
set_option linter.unusedSimpArgs false
set_option maxRecDepth 10000

theorem hor_add (X : Rat) : ∀ (N : Nat) (c d : Nat → Rat), hor X (lst N (fun i => c i + d i)) = hor X (lst N c) + hor X (lst N d) := by
  intro N
  induction N with
  | zero => intro c d; show (0 : Rat) = 0 + 0; grind
  | succ N ih => intro c d; rw [lst_cons, lst_cons, lst_cons, hor_cons, hor_cons, hor_cons, ih (fun i => c (i + 1)) (fun i => d (i + 1))]; grind

theorem at_ok14 (m m' : Bool) (n k : Int) (cs ds : List Int) (hn : I64 n) (hk : I64 k) (hcs : I64s cs) (hds : I64s ds) :
    CallP Try.prog 4 [.sl m 1 (intsP cs), .sl m' 1 (intsP ds), .int .i64 n, .int .i64 k] (.p (.bool true)) [] := by
  refine callG_of_vc (wr := wr0) Γok mixed Try.func4 (by kernel_rfl) rfl (by kernel_rfl) (le_of_ble rfl) (by simp) ?_
  refine SCall.pure (known14_ok) ?_
  refine SCmp.no (rfl) ?_
  refine SCall.pure (within14_ok n 10 (by omega) (by omega)) ?_
  obtain ⟨N, hN⟩ : ∃ N : Nat, n % 10 = (N : Int) := ⟨(n % 10).toNat, by omega⟩
  have hN9 : N ≤ 9 := by omega
  rw [hN]
  refine SCall.pure (row2_ok m cs hcs N (by omega)) ?_
  refine SCall.pure (row2_ok m' ds hds N (by omega)) ?_
  refine SCall.pure (small2_ok k hk) ?_
  obtain ⟨c, hc⟩ : ∃ c, c = rowG cs := ⟨_, rfl⟩
  obtain ⟨d, hd⟩ : ∃ d, d = rowG ds := ⟨_, rfl⟩
  obtain ⟨x, hx⟩ : ∃ x, x = smallQ k := ⟨_, rfl⟩
  have bc : ∀ i, i < N → Bz (c i) 5 := fun i hi => by rw [hc]; exact rowG_bz cs i
  have bd : ∀ i, i < N → Bz (d i) 5 := fun i hi => by rw [hd]; exact rowG_bz ds i
  have bx : Bz x 5 := by rw [hx]; exact smallQ_bz k
  rw [← hc, ← hd, ← hx]
  obtain ⟨S, hS⟩ : ∃ S : Nat → Rat, S = fun i => c i + d i := ⟨_, rfl⟩
  have bS : ∀ i, i < N → Bz (S i) 11 := fun i hi => by rw [hS]; exact (bc i hi).add (bd i hi)
  refine SLoop.mkT Nat (fun i => ([(2, .p (.int .i64 N)), (9, .p (ratsM false (lst N c))), (10, .p (ratsM false (lst N d))), (11, .bptr 0 0), (12, .vec 1 3 0 i), (13, .p (.int .i64 i))], [rbox x, .vec 37 3 (rats (lst i S))]))
    (fun i => i ≤ N) (fun i => N - i) 0 [0, 1] _ _ (.step 12 37 3 rfl (.done _ _)) (Nat.zero_le _)
    ⟨rfl, by simp, rfl, rfl, rfl, ⟨rfl, rfl, rfl, rfl, rfl, rfl, trivial⟩, ⟨rfl, rfl, trivial⟩⟩ ?_
  intro i h1
  have h1 : i ≤ N := h1
  by_cases hi : i < N
  · refine SCmp.yes (decide_eq_true (by omega)) ?_
    have nS : rats (lst i S) ++ [ratP (c i + d i)] = rats (lst (i + 1) S) := by rw [← lst_snoc, rats, rats, List.map_append, hS]; rfl
    refine SDraw.mk (by kernel_rfl) ?_
    repeat refine SOp.mk _ _ (And.intro rfl rfl) rfl ?_
    refine SOp.mk _ _ (SIdx.rf i rfl hi (And.intro rfl rfl)) rfl ?_
    repeat refine SOp.mk _ _ (And.intro rfl rfl) rfl ?_
    refine SOp.mk _ _ (SIdx.rf i rfl hi (And.intro rfl rfl)) rfl ?_
    repeat refine SOp.mk _ _ (And.intro rfl rfl) rfl ?_
    refine SOp.mk _ _ (SCall.pure (raddq_ok _ _ (bc i hi) (bd i hi) (by omega)) (And.intro rfl rfl)) rfl ?_
    repeat refine SOp.mk _ _ (And.intro rfl rfl) rfl ?_
    refine SOp.mk _ _ (SEqN.mk (by simp [lst]) <| SView.all rfl <| SRoom.mk (by simp [lst]; omega) (by simp [lst]; omega) <| SEs.mk _ nS <| SZN.mk (i + 1) (by simp [lst]) (And.intro rfl rfl)) rfl ?_
    repeat refine SOp.mk _ _ (And.intro rfl rfl) rfl ?_
    refine SWrap.i64z ((i + 1 : Nat) : Int) (by omega) (by omega) ?_
    exact ⟨i + 1, [0, 3], hi, by show N - (i + 1) < N - i; omega, ⟨rfl, by simp, rfl, rfl, rfl, ⟨rfl, rfl, rfl, rfl, rfl, rfl, trivial⟩, ⟨rfl, rfl, trivial⟩⟩⟩
  · refine SCmp.no (decide_eq_false (by omega)) ?_
    have hiN : i = N := by omega
    subst hiN
    have lc : (lst i c).length = i := lst_length
    have ld : (lst i d).length = i := lst_length
    have lS : (lst i S).length = i := lst_length
    have Bc : Bl (lst i c) 5 := Bl.lst bc
    have Bd : Bl (lst i d) 5 := Bl.lst bd
    have BS : Bl (lst i S) 11 := Bl.lst bS
    have B0 : Bl (0 :: lst i c) 5 := fun j hj => by
      cases j with
      | zero => exact bz_zero.mono (by omega)
      | succ j => exact Bc j (by simpa using hj)
    have zc : Bz (hor x (lst i c)) 100 := (hor_bz bx _ Bc).mono (by rw [lc]; omega)
    have zd : Bz (hor x (lst i d)) 100 := (hor_bz bx _ Bd).mono (by rw [ld]; omega)
    have zS : Bz (hor x (lst i S)) 160 := (hor_bz bx _ BS).mono (by rw [lS]; omega)
    have z0 : Bz (hor x (0 :: lst i c)) 160 := (hor_bz bx _ B0).mono (by rw [List.length_cons, lc]; omega)
    have same : ∀ (p q : Rat) (a b : Nat), p = q → Bz p a → Bz q b → a + b ≤ 1048576 → CallP Try.prog 19 [ratP p, ratP q] (.p (.bool true)) [] := fun p q a b e ha hb hab => by
      have := rsame_ok p q ha hb hab
      rwa [decide_eq_true e] at this
    refine SCall.pure (vat_ok false (lst i c) x Bc bx (by rw [lc]; omega) (by rw [lc]; omega)) ?_
    refine SDraw.mkX (by kernel_rfl) ?_
    repeat refine SOp.mk _ _ (And.intro rfl rfl) rfl ?_
    refine SOp.mk _ _ (SCall.pure (rpat_ok false (lst i c) x Bc bx (by rw [lc]; omega) (by rw [lc]; omega)) (And.intro rfl rfl)) rfl ?_
    refine SOp.mk _ _ (SCall.pure (same _ _ 100 100 rfl zc zc (by omega)) (And.intro rfl rfl)) rfl ?_
    repeat refine SOp.mk _ _ (And.intro rfl rfl) rfl ?_
    refine SOp.mk _ _ (SView.rf <| SCall.pure (pvs := [ratsM true (lst i S), ratP x]) (vat_ok true (lst i S) x BS bx (by rw [lS]; omega) (by rw [lS]; omega)) (And.intro rfl rfl)) rfl ?_
    repeat refine SOp.mk _ _ (And.intro rfl rfl) rfl ?_
    refine SOp.mk _ _ (SCall.pure (vat_ok false (lst i d) x Bd bx (by rw [ld]; omega) (by rw [ld]; omega)) (And.intro rfl rfl)) rfl ?_
    refine SOp.mk _ _ (SCall.pure (raddq_ok _ _ zc zd (by omega)) (And.intro rfl rfl)) rfl ?_
    refine SOp.mk _ _ (SCall.pure (same _ _ 160 201 (by rw [hS]; exact hor_add x i c d) zS (zc.add zd) (by omega)) (And.intro rfl rfl)) rfl ?_
    repeat refine SOp.mk _ _ (And.intro rfl rfl) rfl ?_
    refine SOp.mk _ _ (SCall.pure (vat_ok false [] x (b := 0) (fun j hj => absurd hj (Nat.not_lt_zero _)) bx (by simp) (by simp)) (And.intro rfl rfl)) rfl ?_
    refine SOp.mk _ _ (SCall.pure (rzero_ok) (And.intro rfl rfl)) rfl ?_
    refine SOp.mk _ _ (SCall.pure (same (hor x []) 0 1 1 rfl bz_zero bz_zero (by omega)) (And.intro rfl rfl)) rfl ?_
    repeat refine SOp.mk _ _ (And.intro rfl rfl) rfl ?_
    refine SOp.mk _ _ (SCall.pure (rzero_ok) (And.intro rfl rfl)) rfl ?_
    repeat refine SOp.mk _ _ (And.intro rfl rfl) rfl ?_
    refine SOp.mk _ _ (SEqN.mk rfl <| SRoom.mk (by simp [lst]; omega) (by simp [lst]; omega) <| SEs.mk (rats (0 :: lst i c)) rfl <| SZN.mk (i + 1) (by simp [lst]; omega) (And.intro rfl rfl)) rfl ?_
    repeat refine SOp.mk _ _ (And.intro rfl rfl) rfl ?_
    refine SOp.mk _ _ (SView.all (by simp [lst]) <| SCall.pure (pvs := [ratsM true (0 :: lst i c), ratP x]) (vat_ok true (0 :: lst i c) x B0 bx (by rw [List.length_cons, lc]; omega) (by rw [List.length_cons, lc]; omega)) (And.intro rfl rfl)) rfl ?_
    repeat refine SOp.mk _ _ (And.intro rfl rfl) rfl ?_
    refine SOp.mk _ _ (SCall.pure (rmulq_ok _ _ bx zc (by omega)) (And.intro rfl rfl)) rfl ?_
    refine SOp.mk _ _ (SCall.pure (same _ _ 160 105 (by rw [hor_cons]; grind) z0 (bx.mul zc) (by omega)) (And.intro rfl rfl)) rfl ?_
    repeat refine SOp.mk _ _ (And.intro rfl rfl) rfl ?_
    refine SFin.mk (by kernel_rfl) ?_
    exact SRet.pure (.p _ (.bool _))
end Go.Proofs.Ythenhipnibkdeaa
