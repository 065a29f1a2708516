/- FloatModes: the walk. -/
import Derived.Test.YtjcmiedpgabdbaaFi4
namespace Go.Proofs.Ytjcmiedpgabdbaa
open Go
set_option linter.unusedVariables false
set_option linter.unusedSimpArgs false
set_option maxRecDepth 10000

theorem cmpI_le {a b : Int} (h : a ≤ b) : cmpI a b ≤ 0 := by unfold cmpI; split; omega; split <;> omega
theorem cmpI_eq {a b : Int} (h : a = b) : cmpI a b = 0 := by unfold cmpI; rw [if_neg (by omega), if_neg (by omega)]
noncomputable def mOp (w : Int) (x y : Nat) (k : Int) : Nat × Int := if w = 0 then addF x y k else if w = 1 then mulF x y k else divF x y k
theorem modes_op (w : Int) {x y : Nat} (hx : x < 18446744073709551616) (hy : y < 18446744073709551616) : ModesOk fun k => (mOp w x y k).1 := by
  unfold mOp
  split
  · exact modes_add hx hy
  split
  · exact modes_mul x y
  · exact modes_div x y
abbrev fCells (r : Nat → Nat × Int) (i : Nat) : List AV := [.p (.int .u64 ((if 0 < i then (r 0).1 else 0 : Nat) : Int)), .p (.int .u64 ((if 1 < i then (r 1).1 else 0 : Nat) : Int)), .p (.int .u64 ((if 2 < i then (r 2).1 else 0 : Nat) : Int)), .p (.int .u64 ((if 3 < i then (r 3).1 else 0 : Nat) : Int)), .p (.int .u64 ((if 4 < i then (r 4).1 else 0 : Nat) : Int))]
abbrev gCells (r : Nat → Nat × Int) (i : Nat) : List AV := [.p (.int .i64 (if 0 < i then (r 0).2 else 0)), .p (.int .i64 (if 1 < i then (r 1).2 else 0)), .p (.int .i64 (if 2 < i then (r 2).2 else 0)), .p (.int .i64 (if 3 < i then (r 3).2 else 0)), .p (.int .i64 (if 4 < i then (r 4).2 else 0))]

theorem floatModes_ok (a b : Nat) (n m which : Int) (ha : a < 18446744073709551616) (hb : b < 18446744073709551616) :
    CallP Try.prog 14 [.int .u64 a, .int .u64 b, .int .i64 n, .int .i64 m, .int .i64 which] (.p (.bool true)) [] := by
  refine callG_of_vc (wr := wr0) Γok mixed Try.func14 (by kernel_rfl) rfl (by kernel_rfl) (le_of_ble rfl) (by simp) ?_
  refine SCall.pure (known3_ok) ?_
  refine SCmp.no (rfl) ?_
  have hx := mkF_lt ha n
  have hy := mkF_lt hb m
  refine SCall.pure (make3_ok a n ha) ?_
  refine SCall.pure (make3_ok b m hb) ?_
  obtain ⟨x, hxd⟩ : ∃ x, x = mkF a n := ⟨_, rfl⟩
  obtain ⟨y, hyd⟩ : ∃ y, y = mkF b m := ⟨_, rfl⟩
  rw [← hxd] at hx ⊢
  rw [← hyd] at hy ⊢
  have w1 := within3_ok which 3 (by omega) (by omega)
  obtain ⟨w, hw⟩ : ∃ w, w = which % 3 := ⟨_, rfl⟩
  rw [← hw] at w1
  obtain ⟨r, hr⟩ : ∃ r : Nat → Nat × Int, r = fun (j : Nat) => mOp w x y (j : Int) := ⟨_, rfl⟩
  obtain ⟨hlt, hone, hord⟩ := modes_op w hx hy
  have hlt : ∀ j : Nat, (r j).1 < 18446744073709551616 := fun j => by rw [hr]; exact hlt j
  have hone : ∀ j : Nat, j < 5 → (r j).1 = (r 2).1 ∨ (r j).1 = (r 3).1 := fun j hj => by rw [hr]; exact hone (j : Int) (by omega) (by omega)
  have hord : (r 2).1 ≠ (r 3).1 → isNan (r 2).1 = false ∧ isNan (r 3).1 = false ∧ pl (r 2).1 ≤ pl (r 3).1 ∧ ((r 1).1 = (if ngt (r 2).1 then (r 3).1 else (r 2).1) ∨ pl (r 2).1 = pl (r 3).1) := by rw [hr]; exact hord
  refine SLoop.mk Nat (fun i => ([(4, .p (.int .i64 which)), (11, .p (.int .u64 x)), (12, .p (.int .u64 y)), (13, .bptr 0 0), (14, .bptr 1 0), (15, .p (.int .i64 i))], [.box 72 (fCells r i), .box 73 (gCells r i)]))
    (fun i => i ≤ 5) (fun i => 5 - i) 0 [0, 1] (Nat.zero_le _) ⟨rfl, by simp, rfl, rfl, rfl, ⟨rfl, rfl, rfl, rfl, rfl, rfl, trivial⟩, ⟨rfl, rfl, trivial⟩⟩ ?_
  intro i h1
  have h1 : i ≤ 5 := h1
  by_cases hi : i < 5
  · refine SCmp.yes (decide_eq_true (by omega)) ?_
    refine SCall.pure (w1) ?_
    by_cases h0 : w = 0
    · refine SCmp.yes (eqT h0) ?_
      have c : ∀ j : Nat, CallP Try.prog 41 [.int .u64 x, .int .u64 y, .int .i64 (j : Int)] (fpair (r j)) [] := fun j => by
        have e : r j = addF x y (j : Int) := by rw [hr]; exact if_pos h0
        rw [e]; exact sfadd_ok x y (j : Int) hx hy
      rcases (show i = 0 ∨ i = 1 ∨ i = 2 ∨ i = 3 ∨ i = 4 by omega) with h | h | h | h | h
      · subst h
        refine SCall.pureT (c 0) (fun _ => rfl) ?_
        refine SPos.mk 0 rfl (by omega) ?_
        refine SPos.mk 0 rfl (by omega) ?_
        refine SWrap.i64z ((1 : Nat) : Int) (by omega) (by omega) ?_
        exact ⟨1, [0, 1], by show 1 ≤ 5; omega, by show 5 - 1 < 5 - 0; omega, ⟨rfl, by simp, rfl, rfl, rfl, ⟨rfl, rfl, rfl, rfl, rfl, rfl, trivial⟩, ⟨rfl, rfl, trivial⟩⟩⟩
      · subst h
        refine SCall.pureT (c 1) (fun _ => rfl) ?_
        refine SPos.mk 1 rfl (by omega) ?_
        refine SPos.mk 1 rfl (by omega) ?_
        refine SWrap.i64z ((2 : Nat) : Int) (by omega) (by omega) ?_
        exact ⟨2, [0, 1], by show 2 ≤ 5; omega, by show 5 - 2 < 5 - 1; omega, ⟨rfl, by simp, rfl, rfl, rfl, ⟨rfl, rfl, rfl, rfl, rfl, rfl, trivial⟩, ⟨rfl, rfl, trivial⟩⟩⟩
      · subst h
        refine SCall.pureT (c 2) (fun _ => rfl) ?_
        refine SPos.mk 2 rfl (by omega) ?_
        refine SPos.mk 2 rfl (by omega) ?_
        refine SWrap.i64z ((3 : Nat) : Int) (by omega) (by omega) ?_
        exact ⟨3, [0, 1], by show 3 ≤ 5; omega, by show 5 - 3 < 5 - 2; omega, ⟨rfl, by simp, rfl, rfl, rfl, ⟨rfl, rfl, rfl, rfl, rfl, rfl, trivial⟩, ⟨rfl, rfl, trivial⟩⟩⟩
      · subst h
        refine SCall.pureT (c 3) (fun _ => rfl) ?_
        refine SPos.mk 3 rfl (by omega) ?_
        refine SPos.mk 3 rfl (by omega) ?_
        refine SWrap.i64z ((4 : Nat) : Int) (by omega) (by omega) ?_
        exact ⟨4, [0, 1], by show 4 ≤ 5; omega, by show 5 - 4 < 5 - 3; omega, ⟨rfl, by simp, rfl, rfl, rfl, ⟨rfl, rfl, rfl, rfl, rfl, rfl, trivial⟩, ⟨rfl, rfl, trivial⟩⟩⟩
      · subst h
        refine SCall.pureT (c 4) (fun _ => rfl) ?_
        refine SPos.mk 4 rfl (by omega) ?_
        refine SPos.mk 4 rfl (by omega) ?_
        refine SWrap.i64z ((5 : Nat) : Int) (by omega) (by omega) ?_
        exact ⟨5, [0, 1], by show 5 ≤ 5; omega, by show 5 - 5 < 5 - 4; omega, ⟨rfl, by simp, rfl, rfl, rfl, ⟨rfl, rfl, rfl, rfl, rfl, rfl, trivial⟩, ⟨rfl, rfl, trivial⟩⟩⟩
    · refine SCmp.no (eqF h0) ?_
      by_cases h2 : w = 1
      · refine SCmp.yes (eqT h2) ?_
        have c : ∀ j : Nat, CallP Try.prog 42 [.int .u64 x, .int .u64 y, .int .i64 (j : Int)] (fpair (r j)) [] := fun j => by
          have e : r j = mulF x y (j : Int) := by rw [hr]; exact (if_neg h0).trans (if_pos h2)
          rw [e]; exact sfmul_ok x y (j : Int) hx hy
        rcases (show i = 0 ∨ i = 1 ∨ i = 2 ∨ i = 3 ∨ i = 4 by omega) with h | h | h | h | h
        · subst h
          refine SCall.pureT (c 0) (fun _ => rfl) ?_
          refine SPos.mk 0 rfl (by omega) ?_
          refine SPos.mk 0 rfl (by omega) ?_
          refine SWrap.i64z ((1 : Nat) : Int) (by omega) (by omega) ?_
          exact ⟨1, [0, 1], by show 1 ≤ 5; omega, by show 5 - 1 < 5 - 0; omega, ⟨rfl, by simp, rfl, rfl, rfl, ⟨rfl, rfl, rfl, rfl, rfl, rfl, trivial⟩, ⟨rfl, rfl, trivial⟩⟩⟩
        · subst h
          refine SCall.pureT (c 1) (fun _ => rfl) ?_
          refine SPos.mk 1 rfl (by omega) ?_
          refine SPos.mk 1 rfl (by omega) ?_
          refine SWrap.i64z ((2 : Nat) : Int) (by omega) (by omega) ?_
          exact ⟨2, [0, 1], by show 2 ≤ 5; omega, by show 5 - 2 < 5 - 1; omega, ⟨rfl, by simp, rfl, rfl, rfl, ⟨rfl, rfl, rfl, rfl, rfl, rfl, trivial⟩, ⟨rfl, rfl, trivial⟩⟩⟩
        · subst h
          refine SCall.pureT (c 2) (fun _ => rfl) ?_
          refine SPos.mk 2 rfl (by omega) ?_
          refine SPos.mk 2 rfl (by omega) ?_
          refine SWrap.i64z ((3 : Nat) : Int) (by omega) (by omega) ?_
          exact ⟨3, [0, 1], by show 3 ≤ 5; omega, by show 5 - 3 < 5 - 2; omega, ⟨rfl, by simp, rfl, rfl, rfl, ⟨rfl, rfl, rfl, rfl, rfl, rfl, trivial⟩, ⟨rfl, rfl, trivial⟩⟩⟩
        · subst h
          refine SCall.pureT (c 3) (fun _ => rfl) ?_
          refine SPos.mk 3 rfl (by omega) ?_
          refine SPos.mk 3 rfl (by omega) ?_
          refine SWrap.i64z ((4 : Nat) : Int) (by omega) (by omega) ?_
          exact ⟨4, [0, 1], by show 4 ≤ 5; omega, by show 5 - 4 < 5 - 3; omega, ⟨rfl, by simp, rfl, rfl, rfl, ⟨rfl, rfl, rfl, rfl, rfl, rfl, trivial⟩, ⟨rfl, rfl, trivial⟩⟩⟩
        · subst h
          refine SCall.pureT (c 4) (fun _ => rfl) ?_
          refine SPos.mk 4 rfl (by omega) ?_
          refine SPos.mk 4 rfl (by omega) ?_
          refine SWrap.i64z ((5 : Nat) : Int) (by omega) (by omega) ?_
          exact ⟨5, [0, 1], by show 5 ≤ 5; omega, by show 5 - 5 < 5 - 4; omega, ⟨rfl, by simp, rfl, rfl, rfl, ⟨rfl, rfl, rfl, rfl, rfl, rfl, trivial⟩, ⟨rfl, rfl, trivial⟩⟩⟩
      · refine SCmp.no (eqF h2) ?_
        have c : ∀ j : Nat, CallP Try.prog 43 [.int .u64 x, .int .u64 y, .int .i64 (j : Int)] (fpair (r j)) [] := fun j => by
          have e : r j = divF x y (j : Int) := by rw [hr]; exact (if_neg h0).trans (if_neg h2)
          rw [e]; exact sfdiv_ok x y (j : Int) hx hy
        rcases (show i = 0 ∨ i = 1 ∨ i = 2 ∨ i = 3 ∨ i = 4 by omega) with h | h | h | h | h
        · subst h
          refine SCall.pureT (c 0) (fun _ => rfl) ?_
          refine SPos.mk 0 rfl (by omega) ?_
          refine SPos.mk 0 rfl (by omega) ?_
          refine SWrap.i64z ((1 : Nat) : Int) (by omega) (by omega) ?_
          exact ⟨1, [0, 1], by show 1 ≤ 5; omega, by show 5 - 1 < 5 - 0; omega, ⟨rfl, by simp, rfl, rfl, rfl, ⟨rfl, rfl, rfl, rfl, rfl, rfl, trivial⟩, ⟨rfl, rfl, trivial⟩⟩⟩
        · subst h
          refine SCall.pureT (c 1) (fun _ => rfl) ?_
          refine SPos.mk 1 rfl (by omega) ?_
          refine SPos.mk 1 rfl (by omega) ?_
          refine SWrap.i64z ((2 : Nat) : Int) (by omega) (by omega) ?_
          exact ⟨2, [0, 1], by show 2 ≤ 5; omega, by show 5 - 2 < 5 - 1; omega, ⟨rfl, by simp, rfl, rfl, rfl, ⟨rfl, rfl, rfl, rfl, rfl, rfl, trivial⟩, ⟨rfl, rfl, trivial⟩⟩⟩
        · subst h
          refine SCall.pureT (c 2) (fun _ => rfl) ?_
          refine SPos.mk 2 rfl (by omega) ?_
          refine SPos.mk 2 rfl (by omega) ?_
          refine SWrap.i64z ((3 : Nat) : Int) (by omega) (by omega) ?_
          exact ⟨3, [0, 1], by show 3 ≤ 5; omega, by show 5 - 3 < 5 - 2; omega, ⟨rfl, by simp, rfl, rfl, rfl, ⟨rfl, rfl, rfl, rfl, rfl, rfl, trivial⟩, ⟨rfl, rfl, trivial⟩⟩⟩
        · subst h
          refine SCall.pureT (c 3) (fun _ => rfl) ?_
          refine SPos.mk 3 rfl (by omega) ?_
          refine SPos.mk 3 rfl (by omega) ?_
          refine SWrap.i64z ((4 : Nat) : Int) (by omega) (by omega) ?_
          exact ⟨4, [0, 1], by show 4 ≤ 5; omega, by show 5 - 4 < 5 - 3; omega, ⟨rfl, by simp, rfl, rfl, rfl, ⟨rfl, rfl, rfl, rfl, rfl, rfl, trivial⟩, ⟨rfl, rfl, trivial⟩⟩⟩
        · subst h
          refine SCall.pureT (c 4) (fun _ => rfl) ?_
          refine SPos.mk 4 rfl (by omega) ?_
          refine SPos.mk 4 rfl (by omega) ?_
          refine SWrap.i64z ((5 : Nat) : Int) (by omega) (by omega) ?_
          exact ⟨5, [0, 1], by show 5 ≤ 5; omega, by show 5 - 5 < 5 - 4; omega, ⟨rfl, by simp, rfl, rfl, rfl, ⟨rfl, rfl, rfl, rfl, rfl, rfl, trivial⟩, ⟨rfl, rfl, trivial⟩⟩⟩
  · refine SCmp.no (decide_eq_false (by omega)) ?_
    obtain rfl : i = 5 := by omega
    refine SDraw.mk (by kernel_rfl) ?_
    refine SOp.mk _ _ (SPos.mk 2 rfl (by omega) (And.intro rfl rfl)) rfl ?_
    repeat refine SOp.mk _ _ (And.intro rfl rfl) rfl ?_
    refine SOp.mk _ _ (SPos.mk 3 rfl (by omega) (And.intro rfl rfl)) rfl ?_
    repeat refine SOp.mk _ _ (And.intro rfl rfl) rfl ?_
    refine SLoop.mk Nat (fun i => ([(13, .bptr 0 0), (16, .p (.int .u64 ((r 2).1 : Nat))), (17, .p (.int .u64 ((r 3).1 : Nat))), (18, .p (.int .i64 i))], [.box 72 [.p (.int .u64 ((r 0).1 : Nat)), .p (.int .u64 ((r 1).1 : Nat)), .p (.int .u64 ((r 2).1 : Nat)), .p (.int .u64 ((r 3).1 : Nat)), .p (.int .u64 ((r 4).1 : Nat))]]))
      (fun i => i ≤ 5) (fun i => 5 - i) 0 [0] (Nat.zero_le _) ⟨rfl, by simp, rfl, rfl, rfl, ⟨rfl, rfl, rfl, rfl, trivial⟩, ⟨rfl, trivial⟩⟩ ?_
    intro i h1
    have h1 : i ≤ 5 := h1
    by_cases hi : i < 5
    · refine SCmp.yes (decide_eq_true (by omega)) ?_
      rcases (show i = 0 ∨ i = 1 ∨ i = 2 ∨ i = 3 ∨ i = 4 by omega) with h | h | h | h | h
      · subst h
        have hd := hone 0 (by omega)
        refine SPos.mk 0 rfl (by omega) ?_
        by_cases hq : (r 0).1 = (r 2).1
        · refine SCmp.no (neF (by rw [hq])) ?_
          refine SWrap.i64z ((1 : Nat) : Int) (by omega) (by omega) ?_
          exact ⟨1, [0], by show 1 ≤ 5; omega, by show 5 - 1 < 5 - 0; omega, ⟨rfl, by simp, rfl, rfl, rfl, ⟨rfl, rfl, rfl, rfl, trivial⟩, ⟨rfl, trivial⟩⟩⟩
        · refine SCmp.yes (neT (by show ((r 0).1 : Int) ≠ ((r 2).1 : Int); omega)) ?_
          refine SPos.mk 0 rfl (by omega) ?_
          have hd := hd.resolve_left hq
          refine SCmp.no (neF (by rw [hd])) ?_
          refine SWrap.i64z ((1 : Nat) : Int) (by omega) (by omega) ?_
          exact ⟨1, [0], by show 1 ≤ 5; omega, by show 5 - 1 < 5 - 0; omega, ⟨rfl, by simp, rfl, rfl, rfl, ⟨rfl, rfl, rfl, rfl, trivial⟩, ⟨rfl, trivial⟩⟩⟩
      · subst h
        have hd := hone 1 (by omega)
        refine SPos.mk 1 rfl (by omega) ?_
        by_cases hq : (r 1).1 = (r 2).1
        · refine SCmp.no (neF (by rw [hq])) ?_
          refine SWrap.i64z ((2 : Nat) : Int) (by omega) (by omega) ?_
          exact ⟨2, [0], by show 2 ≤ 5; omega, by show 5 - 2 < 5 - 1; omega, ⟨rfl, by simp, rfl, rfl, rfl, ⟨rfl, rfl, rfl, rfl, trivial⟩, ⟨rfl, trivial⟩⟩⟩
        · refine SCmp.yes (neT (by show ((r 1).1 : Int) ≠ ((r 2).1 : Int); omega)) ?_
          refine SPos.mk 1 rfl (by omega) ?_
          have hd := hd.resolve_left hq
          refine SCmp.no (neF (by rw [hd])) ?_
          refine SWrap.i64z ((2 : Nat) : Int) (by omega) (by omega) ?_
          exact ⟨2, [0], by show 2 ≤ 5; omega, by show 5 - 2 < 5 - 1; omega, ⟨rfl, by simp, rfl, rfl, rfl, ⟨rfl, rfl, rfl, rfl, trivial⟩, ⟨rfl, trivial⟩⟩⟩
      · subst h
        have hd := hone 2 (by omega)
        refine SPos.mk 2 rfl (by omega) ?_
        by_cases hq : (r 2).1 = (r 2).1
        · refine SCmp.no (neF (by rw [hq])) ?_
          refine SWrap.i64z ((3 : Nat) : Int) (by omega) (by omega) ?_
          exact ⟨3, [0], by show 3 ≤ 5; omega, by show 5 - 3 < 5 - 2; omega, ⟨rfl, by simp, rfl, rfl, rfl, ⟨rfl, rfl, rfl, rfl, trivial⟩, ⟨rfl, trivial⟩⟩⟩
        · refine SCmp.yes (neT (by show ((r 2).1 : Int) ≠ ((r 2).1 : Int); omega)) ?_
          refine SPos.mk 2 rfl (by omega) ?_
          have hd := hd.resolve_left hq
          refine SCmp.no (neF (by rw [hd])) ?_
          refine SWrap.i64z ((3 : Nat) : Int) (by omega) (by omega) ?_
          exact ⟨3, [0], by show 3 ≤ 5; omega, by show 5 - 3 < 5 - 2; omega, ⟨rfl, by simp, rfl, rfl, rfl, ⟨rfl, rfl, rfl, rfl, trivial⟩, ⟨rfl, trivial⟩⟩⟩
      · subst h
        have hd := hone 3 (by omega)
        refine SPos.mk 3 rfl (by omega) ?_
        by_cases hq : (r 3).1 = (r 2).1
        · refine SCmp.no (neF (by rw [hq])) ?_
          refine SWrap.i64z ((4 : Nat) : Int) (by omega) (by omega) ?_
          exact ⟨4, [0], by show 4 ≤ 5; omega, by show 5 - 4 < 5 - 3; omega, ⟨rfl, by simp, rfl, rfl, rfl, ⟨rfl, rfl, rfl, rfl, trivial⟩, ⟨rfl, trivial⟩⟩⟩
        · refine SCmp.yes (neT (by show ((r 3).1 : Int) ≠ ((r 2).1 : Int); omega)) ?_
          refine SPos.mk 3 rfl (by omega) ?_
          have hd := hd.resolve_left hq
          refine SCmp.no (neF (by rw [hd])) ?_
          refine SWrap.i64z ((4 : Nat) : Int) (by omega) (by omega) ?_
          exact ⟨4, [0], by show 4 ≤ 5; omega, by show 5 - 4 < 5 - 3; omega, ⟨rfl, by simp, rfl, rfl, rfl, ⟨rfl, rfl, rfl, rfl, trivial⟩, ⟨rfl, trivial⟩⟩⟩
      · subst h
        have hd := hone 4 (by omega)
        refine SPos.mk 4 rfl (by omega) ?_
        by_cases hq : (r 4).1 = (r 2).1
        · refine SCmp.no (neF (by rw [hq])) ?_
          refine SWrap.i64z ((5 : Nat) : Int) (by omega) (by omega) ?_
          exact ⟨5, [0], by show 5 ≤ 5; omega, by show 5 - 5 < 5 - 4; omega, ⟨rfl, by simp, rfl, rfl, rfl, ⟨rfl, rfl, rfl, rfl, trivial⟩, ⟨rfl, trivial⟩⟩⟩
        · refine SCmp.yes (neT (by show ((r 4).1 : Int) ≠ ((r 2).1 : Int); omega)) ?_
          refine SPos.mk 4 rfl (by omega) ?_
          have hd := hd.resolve_left hq
          refine SCmp.no (neF (by rw [hd])) ?_
          refine SWrap.i64z ((5 : Nat) : Int) (by omega) (by omega) ?_
          exact ⟨5, [0], by show 5 ≤ 5; omega, by show 5 - 5 < 5 - 4; omega, ⟨rfl, by simp, rfl, rfl, rfl, ⟨rfl, rfl, rfl, rfl, trivial⟩, ⟨rfl, trivial⟩⟩⟩
    · refine SCmp.no (decide_eq_false (by omega)) ?_
      by_cases he : (r 2).1 = (r 3).1
      · refine SCmp.yes (eqT (by rw [he])) ?_
        exact SRet.pure (.tf _)
      · refine SCmp.no (eqF (by show ((r 2).1 : Int) ≠ ((r 3).1 : Int); omega)) ?_
        obtain ⟨o1, o2, o3, o4⟩ := hord he
        have cc := sfcmp_ok (r 2).1 (r 3).1 (hlt 2) (hlt 3)
        rw [cmpF, if_neg (by rw [o1, o2]; simp)] at cc
        refine SShr63 ?_
        cases hng : ngt (r 2).1 with
        | true =>
          rw [hng, if_pos rfl] at o4
          have := hlt 2
          refine SCmp.yes (eqT (by have := ngt_true hng; omega)) ?_
          refine SCall.pureT (cc) (fun _ => rfl) ?_
          refine SCond.mk (fun _ => ?_) (fun h => by cases h)
          refine SCmp.yes (decide_eq_true (cmpI_le o3)) ?_
          refine SPos.mk 1 rfl (by omega) ?_
          rcases o4 with h | h
          · refine SCmp.yes (eqT (by rw [h])) ?_
            exact SRet.pure (.tf _)
          · by_cases hq : (r 1).1 = (r 3).1
            · refine SCmp.yes (eqT (by rw [hq])) ?_
              exact SRet.pure (.tf _)
            · refine SCmp.no (eqF (by show ((r 1).1 : Int) ≠ (_ : Int); omega)) ?_
              refine SCmp.yes (eqT (cmpI_eq h)) ?_
              exact SRet.pure (.tf _)
        | false =>
          rw [hng, if_neg Bool.false_ne_true] at o4
          refine SCmp.no (eqF (by have := ngt_false hng; omega)) ?_
          refine SCall.pureT (cc) (fun _ => rfl) ?_
          refine SCond.mk (fun _ => ?_) (fun h => by cases h)
          refine SCmp.yes (decide_eq_true (cmpI_le o3)) ?_
          refine SPos.mk 1 rfl (by omega) ?_
          rcases o4 with h | h
          · refine SCmp.yes (eqT (by rw [h])) ?_
            exact SRet.pure (.tf _)
          · by_cases hq : (r 1).1 = (r 2).1
            · refine SCmp.yes (eqT (by rw [hq])) ?_
              exact SRet.pure (.tf _)
            · refine SCmp.no (eqF (by show ((r 1).1 : Int) ≠ (_ : Int); omega)) ?_
              refine SCmp.yes (eqT (cmpI_eq h)) ?_
              exact SRet.pure (.tf _)
end Go.Proofs.Ytjcmiedpgabdbaa
