/- Enclosures, the document's: the walks. -/
import Derived.Test.YtacklcbgkigcaaaGreatIw1
namespace Go.Proofs.YtacklcbgkigcaaaGreat
open Go
set_option linter.unusedVariables false
set_option linter.unusedSimpArgs false
set_option maxRecDepth 10000

theorem rivright_ok (i : IvT) (hi : IvOk i) : CallP Tryz.prog 20 [ivP i] (.p (.bool (rightI i))) [] := by
  refine callG_of_vc (wr := wr0) Γok mixed Tryz.func20 (by kernel_rfl) rfl (by kernel_rfl) (le_of_ble rfl) (by simp) ?_
  have c := rfcmp_ok i.1 i.2 hi.lo hi.hi
  have hr : rightI i = ((cmpF i.1 i.2).2 && decide ((cmpF i.1 i.2).1 ≤ 0)) := rfl
  obtain ⟨⟨o, is⟩, he⟩ : ∃ r, r = cmpF i.1 i.2 := ⟨_, rfl⟩
  rw [← he] at c hr
  rw [hr]
  refine SCall.pureT (c) (fun _ => rfl) ?_
  cases is with
  | true =>
    refine SCond.mk (fun _ => ?_) (fun h => by cases h)
    refine SCmp.sym ?_
    rw [Bool.true_and]
    exact SRet.pure (.p _ (.bool _))
  | false =>
    refine SCond.mk (fun h => by cases h) (fun _ => ?_)
    exact SRet.pure (.tf _)
theorem rivof_ok (q : Rat) {k : Nat} (hq : Bz q k) (hk : k ≤ 65536) : CallP Tryz.prog 35 [ratP q] (.p (ivP (ofI q))) [] := by
  refine callG_of_vc (wr := wr0) Γok mixed Tryz.func35 (by kernel_rfl) rfl (by kernel_rfl) (le_of_ble rfl) (by simp) ?_
  refine SCall.pureT (rfof_ok q 2 hq hk) (fun _ => rfl) ?_
  refine SCall.pureT (rfof_ok q 3 hq hk) (fun _ => rfl) ?_
  exact SRet.pure (.p _ (pers_iv (ofI q)))
theorem rivneg_ok (i : IvT) (hi : IvOk i) : CallP Tryz.prog 36 [ivP i] (.p (ivP (negI i))) [] := by
  refine callG_of_vc (wr := wr0) Γok mixed Tryz.func36 (by kernel_rfl) rfl (by kernel_rfl) (le_of_ble rfl) (by simp) ?_
  refine SWrap.turn i.2 rfl rfl hi.hi ?_
  refine SWrap.turn i.1 rfl rfl hi.lo ?_
  exact SRet.pure (.p _ (pers_iv (negI i)))
theorem rivadd_ok (i j : IvT) (hi : IvOk i) (hj : IvOk j) : CallP Tryz.prog 37 [ivP i, ivP j] (.p (ivP (addI i j))) [] := by
  refine callG_of_vc (wr := wr0) Γok mixed Tryz.func37 (by kernel_rfl) rfl (by kernel_rfl) (le_of_ble rfl) (by simp) ?_
  refine SCall.pureT (rfadd_ok i.1 j.1 2 hi.lo hj.lo) (fun _ => rfl) ?_
  refine SCall.pureT (rfadd_ok i.2 j.2 3 hi.hi hj.hi) (fun _ => rfl) ?_
  exact SRet.pure (.p _ (pers_iv (addI i j)))
theorem rivsub_ok (i j : IvT) (hi : IvOk i) (hj : IvOk j) : CallP Tryz.prog 38 [ivP i, ivP j] (.p (ivP (subI i j))) [] := by
  refine callG_of_vc (wr := wr0) Γok mixed Tryz.func38 (by kernel_rfl) rfl (by kernel_rfl) (le_of_ble rfl) (by simp) ?_
  refine SDraw.mkX (by kernel_rfl) ?_
  repeat refine SOp.mk _ _ (And.intro rfl rfl) rfl ?_
  refine SOp.mk _ _ (SCall.pure (rivneg_ok j hj) (And.intro rfl rfl)) rfl ?_
  refine SOp.mk _ _ (SCall.pure (rivadd_ok i (negI j) hi (NegI.ok hj)) (And.intro rfl rfl)) rfl ?_
  repeat refine SOp.mk _ _ (And.intro rfl rfl) rfl ?_
  refine SFin.mk (by kernel_rfl) ?_
  exact SRet.pure (.p _ (pers_iv (subI i j)))

/-! #### the four ends -/
def stepF (o : Int) (f x : Nat) : Nat := if (cmpF x f).2 = true ∧ (cmpF x f).1 = o then x else f
def outF (o : Int) (g : Nat → Nat) : Nat → Nat
  | 0 => 0
  | 1 => g 0
  | k + 2 => stepF o (outF o g (k + 1)) (g (k + 1))
theorem cmpF_m1 {x f : Nat} : (cmpF x f).1 < 0 ↔ ((cmpF x f).2 = true ∧ (cmpF x f).1 = -1) := by
  unfold cmpF
  split
  · simp
  · unfold cmpI
    split
    · simp
    split
    · simp
    · simp
theorem cmpF_p1 {x f : Nat} : 0 < (cmpF x f).1 ↔ ((cmpF x f).2 = true ∧ (cmpF x f).1 = 1) := by
  unfold cmpF
  split
  · simp
  · unfold cmpI
    split
    · simp
    split
    · simp
    · simp
theorem outF_lt {o : Int} {g : Nat → Nat} (h : ∀ k, k < 4 → g k < 18446744073709551616) : ∀ k, k ≤ 4 → outF o g k < 18446744073709551616
  | 0, _ => by show 0 < 18446744073709551616; omega
  | 1, _ => h 0 (by omega)
  | k + 2, hk => by
    show stepF o (outF o g (k + 1)) (g (k + 1)) < _
    unfold stepF
    split
    · exact h _ (by omega)
    · exact outF_lt h (k + 1) (by omega)
theorem outF_lo {o : Int} {g : Nat → Nat} {k : Nat} (hk : k ≠ 0) : outF o g (k + 1) = stepF o (outF o g k) (g k) := by
  match k, hk with
  | k + 1, _ => rfl
noncomputable def fourOp (quo : Bool) : FOp := fun x y m => if quo then divF x y m else mulF x y m
theorem fourOp_true : fourOp true = divF := by funext x y m; exact if_pos rfl
theorem fourOp_false : fourOp false = mulF := by funext x y m; exact if_neg Bool.false_ne_true
theorem boxI {T : TypeId} {a b c d : Nat} (h1 : a = c) (h2 : b = d) : Blk.box T [.p (.int .u64 (a : Int)), .p (.int .u64 (b : Int))] = Blk.box T [.p (.int .u64 (c : Int)), .p (.int .u64 (d : Int))] := by rw [h1, h2]
theorem four_ok (i j : IvT) (hi : IvOk i) (hj : IvOk j) (quo : Bool) : CallP Tryz.prog 90 [ivP i, ivP j, .bool quo] (.p (ivP (endsF (fourOp quo) i j))) [] := by
  refine callG_of_vc (wr := wr0) Γok mixed Tryz.func90 (by kernel_rfl) rfl (by kernel_rfl) (le_of_ble rfl) (by simp) ?_
  refine SDraw.mkX (by kernel_rfl) ?_
  repeat refine SOp.mk _ _ (And.intro rfl rfl) rfl ?_
  refine SFin.mk (by kernel_rfl) ?_
  obtain ⟨gl, hgl⟩ : ∃ gl : Nat → Nat, gl = fun k => (fourOp quo ([i.1, i.1, i.2, i.2].getD k 0) ([j.1, j.2, j.1, j.2].getD k 0) 2).1 := ⟨_, rfl⟩
  obtain ⟨gh, hgh⟩ : ∃ gh : Nat → Nat, gh = fun k => (fourOp quo ([i.1, i.1, i.2, i.2].getD k 0) ([j.1, j.2, j.1, j.2].getD k 0) 3).1 := ⟨_, rfl⟩
  have la : ∀ k, k < 4 → [i.1, i.1, i.2, i.2].getD k 0 < 18446744073709551616 := fun k hk => by
    match k, hk with
    | 0, _ => exact hi.lo
    | 1, _ => exact hi.lo
    | 2, _ => exact hi.hi
    | 3, _ => exact hi.hi
  have lb : ∀ k, k < 4 → [j.1, j.2, j.1, j.2].getD k 0 < 18446744073709551616 := fun k hk => by
    match k, hk with
    | 0, _ => exact hj.lo
    | 1, _ => exact hj.hi
    | 2, _ => exact hj.lo
    | 3, _ => exact hj.hi
  have lo : ∀ (x y : Nat) (m : Int), x < 18446744073709551616 → y < 18446744073709551616 → (fourOp quo x y m).1 < 18446744073709551616 := fun x y m hx hy => by
    unfold fourOp
    split
    · exact (ok_div x y m).1
    · exact (ok_mul x y m).1
  have ll : ∀ k, k < 4 → gl k < 18446744073709551616 := fun k hk => by rw [hgl]; exact lo _ _ _ (la k hk) (lb k hk)
  have lh : ∀ k, k < 4 → gh k < 18446744073709551616 := fun k hk => by rw [hgh]; exact lo _ _ _ (la k hk) (lb k hk)
  refine SLoop.mk Nat (fun k => ([(2, .p (.bool quo)), (6, .bptr 3 0), (7, .vec 0 1 0 4), (8, .vec 1 1 0 4), (9, .bptr 2 0), (10, .p (.int .i64 k))], [.vec 22 1 (u64s [i.1, i.1, i.2, i.2]), .vec 22 1 (u64s [j.1, j.2, j.1, j.2]), .box 24 [.p (.int .u64 ((outF (-1) gl k : Nat) : Int)), .p (.int .u64 ((outF 1 gh k : Nat) : Int))], .box 24 [.p (.int .u64 0), .p (.int .u64 0)]])) (fun k => k ≤ 4) (fun k => 4 - k) 0 [3, 4, 5, 2]
    (Nat.zero_le _) ⟨rfl, by simp, rfl, rfl, rfl, ⟨rfl, rfl, rfl, rfl, rfl, rfl, trivial⟩, ⟨rfl, rfl, rfl, rfl, trivial⟩⟩ ?_
  intro k h1
  have h1 : k ≤ 4 := h1
  by_cases hi4 : k < 4
  · refine SCmp.yes (decide_eq_true (by omega)) ?_
    have ha := la k hi4
    have hb := lb k hi4
    have hgl1 : gl k = (fourOp quo ([i.1, i.1, i.2, i.2].getD k 0) ([j.1, j.2, j.1, j.2].getD k 0) 2).1 := congrFun hgl k
    have hgh1 : gh k = (fourOp quo ([i.1, i.1, i.2, i.2].getD k 0) ([j.1, j.2, j.1, j.2].getD k 0) 3).1 := congrFun hgh k
    obtain ⟨x, hx⟩ : ∃ x, x = [i.1, i.1, i.2, i.2].getD k 0 := ⟨_, rfl⟩
    obtain ⟨y, hy⟩ : ∃ y, y = [j.1, j.2, j.1, j.2].getD k 0 := ⟨_, rfl⟩
    have hvx : (u64s [i.1, i.1, i.2, i.2])[k]? = some (.int .u64 (x : Int)) := by
      rw [List.getElem?_map, List.getElem?_eq_getElem (show k < [i.1, i.1, i.2, i.2].length from hi4), hx]
      simp [List.getD, List.getElem?_eq_getElem (show k < [i.1, i.1, i.2, i.2].length from hi4)]
    have hvy : (u64s [j.1, j.2, j.1, j.2])[k]? = some (.int .u64 (y : Int)) := by
      rw [List.getElem?_map, List.getElem?_eq_getElem (show k < [j.1, j.2, j.1, j.2].length from hi4), hy]
      simp [List.getD, List.getElem?_eq_getElem (show k < [j.1, j.2, j.1, j.2].length from hi4)]
    rw [← hx] at ha hgl1 hgh1
    rw [← hy] at hb hgl1 hgh1
    have c1 := rfmul_ok x y 2 ha hb
    have c2 := rfmul_ok x y 3 ha hb
    have c3 := rfdiv_ok x y 2 ha hb
    have c4 := rfdiv_ok x y 3 ha hb
    have d1 := rfcmp_ok (gl k) (outF (-1) gl k) (ll k hi4) (outF_lt ll k h1)
    have d2 := rfcmp_ok (gh k) (outF 1 gh k) (lh k hi4) (outF_lt lh k h1)
    refine SDraw.mk (by kernel_rfl) ?_
    repeat refine SOp.mk _ _ (And.intro rfl rfl) rfl ?_
    refine SOp.mk _ _ (SPos.mk k rfl hi4 (And.intro rfl rfl)) rfl ?_
    refine SOp.mk _ _ (SIdx.mk k _ rfl hvx (And.intro rfl rfl)) rfl ?_
    repeat refine SOp.mk _ _ (And.intro rfl rfl) rfl ?_
    refine SOp.mk _ _ (SPos.mk k rfl hi4 (And.intro rfl rfl)) rfl ?_
    refine SOp.mk _ _ (SIdx.mk k _ rfl hvy (And.intro rfl rfl)) rfl ?_
    repeat refine SOp.mk _ _ (And.intro rfl rfl) rfl ?_
    refine SOp.mk _ _ (SCall.pureT (c1) (fun _ => rfl) (And.intro rfl rfl)) rfl ?_
    repeat refine SOp.mk _ _ (And.intro rfl rfl) rfl ?_
    refine SDraw.mk (by kernel_rfl) ?_
    repeat refine SOp.mk _ _ (And.intro rfl rfl) rfl ?_
    refine SOp.mk _ _ (SPos.mk k rfl hi4 (And.intro rfl rfl)) rfl ?_
    refine SOp.mk _ _ (SIdx.mk k _ rfl hvx (And.intro rfl rfl)) rfl ?_
    repeat refine SOp.mk _ _ (And.intro rfl rfl) rfl ?_
    refine SOp.mk _ _ (SPos.mk k rfl hi4 (And.intro rfl rfl)) rfl ?_
    refine SOp.mk _ _ (SIdx.mk k _ rfl hvy (And.intro rfl rfl)) rfl ?_
    repeat refine SOp.mk _ _ (And.intro rfl rfl) rfl ?_
    refine SOp.mk _ _ (SCall.pureT (c2) (fun _ => rfl) (And.intro rfl rfl)) rfl ?_
    repeat refine SOp.mk _ _ (And.intro rfl rfl) rfl ?_
    cases quo with
    | false =>
      rw [fourOp_false] at hgl1 hgh1
      have g1 := hgl1.symm
      have g2 := hgh1.symm
      rw [← g1] at d1
      rw [← g2] at d2
      refine SCond.mk (fun h => by cases h) (fun _ => ?_)
      refine SCall.pureT (d1) (fun _ => rfl) ?_
      refine SCall.pureT (d2) (fun _ => rfl) ?_
      by_cases h0 : k = 0
      · refine SCmp.yes (eqT (by omega)) ?_
        refine SCmp.yes (eqT (by omega)) ?_
        subst h0
        refine SWrap.i64z ((0 + 1 : Nat) : Int) (by omega) (by omega) ?_
        exact ⟨0 + 1, [0, 1, 2, 3], hi4, by show 4 - (0 + 1) < 4 - 0; omega, ⟨rfl, by simp, rfl, rfl, rfl, ⟨rfl, rfl, rfl, rfl, rfl, rfl, trivial⟩, ⟨rfl, rfl, boxI g1.symm g2.symm, rfl, trivial⟩⟩⟩
      · have s1 := outF_lo (o := -1) (g := gl) h0
        have s2 := outF_lo (o := 1) (g := gh) h0
        refine SCmp.no (eqF (by omega)) ?_
        unfold stepF at s1 s2
        rw [← g1] at s1
        rw [← g2] at s2
        by_cases x1 : (cmpF (mulF x y 2).1 (outF (-1) gl k)).1 < 0
        · rw [if_pos (cmpF_m1.1 x1)] at s1
          refine SCmp.yes (decide_eq_true x1) ?_
          refine SCmp.no (eqF (by omega)) ?_
          by_cases x2 : 0 < (cmpF (mulF x y 3).1 (outF 1 gh k)).1
          · rw [if_pos (cmpF_p1.1 x2)] at s2
            refine SCmp.yes (decide_eq_true x2) ?_
            refine SWrap.i64z ((k + 1 : Nat) : Int) (by omega) (by omega) ?_
            exact ⟨k + 1, [0, 1, 2, 3], hi4, by show 4 - (k + 1) < 4 - k; omega, ⟨rfl, by simp, rfl, rfl, rfl, ⟨rfl, rfl, rfl, rfl, rfl, rfl, trivial⟩, ⟨rfl, rfl, boxI s1 s2, rfl, trivial⟩⟩⟩
          · rw [if_neg (mt cmpF_p1.2 x2)] at s2
            refine SCmp.no (decide_eq_false x2) ?_
            refine SWrap.i64z ((k + 1 : Nat) : Int) (by omega) (by omega) ?_
            exact ⟨k + 1, [0, 1, 2, 3], hi4, by show 4 - (k + 1) < 4 - k; omega, ⟨rfl, by simp, rfl, rfl, rfl, ⟨rfl, rfl, rfl, rfl, rfl, rfl, trivial⟩, ⟨rfl, rfl, boxI s1 s2, rfl, trivial⟩⟩⟩
        · rw [if_neg (mt cmpF_m1.2 x1)] at s1
          refine SCmp.no (decide_eq_false x1) ?_
          refine SCmp.no (eqF (by omega)) ?_
          by_cases x2 : 0 < (cmpF (mulF x y 3).1 (outF 1 gh k)).1
          · rw [if_pos (cmpF_p1.1 x2)] at s2
            refine SCmp.yes (decide_eq_true x2) ?_
            refine SWrap.i64z ((k + 1 : Nat) : Int) (by omega) (by omega) ?_
            exact ⟨k + 1, [0, 1, 2, 3], hi4, by show 4 - (k + 1) < 4 - k; omega, ⟨rfl, by simp, rfl, rfl, rfl, ⟨rfl, rfl, rfl, rfl, rfl, rfl, trivial⟩, ⟨rfl, rfl, boxI s1 s2, rfl, trivial⟩⟩⟩
          · rw [if_neg (mt cmpF_p1.2 x2)] at s2
            refine SCmp.no (decide_eq_false x2) ?_
            refine SWrap.i64z ((k + 1 : Nat) : Int) (by omega) (by omega) ?_
            exact ⟨k + 1, [0, 1, 2, 3], hi4, by show 4 - (k + 1) < 4 - k; omega, ⟨rfl, by simp, rfl, rfl, rfl, ⟨rfl, rfl, rfl, rfl, rfl, rfl, trivial⟩, ⟨rfl, rfl, boxI s1 s2, rfl, trivial⟩⟩⟩
    | true =>
      rw [fourOp_true] at hgl1 hgh1
      have g1 := hgl1.symm
      have g2 := hgh1.symm
      rw [← g1] at d1
      rw [← g2] at d2
      refine SCond.mk (fun _ => ?_) (fun h => by cases h)
      refine SDraw.mk (by kernel_rfl) ?_
      repeat refine SOp.mk _ _ (And.intro rfl rfl) rfl ?_
      refine SOp.mk _ _ (SPos.mk k rfl hi4 (And.intro rfl rfl)) rfl ?_
      refine SOp.mk _ _ (SIdx.mk k _ rfl hvx (And.intro rfl rfl)) rfl ?_
      repeat refine SOp.mk _ _ (And.intro rfl rfl) rfl ?_
      refine SOp.mk _ _ (SPos.mk k rfl hi4 (And.intro rfl rfl)) rfl ?_
      refine SOp.mk _ _ (SIdx.mk k _ rfl hvy (And.intro rfl rfl)) rfl ?_
      repeat refine SOp.mk _ _ (And.intro rfl rfl) rfl ?_
      refine SOp.mk _ _ (SCall.pureT (c3) (fun _ => rfl) (And.intro rfl rfl)) rfl ?_
      repeat refine SOp.mk _ _ (And.intro rfl rfl) rfl ?_
      refine SDraw.mk (by kernel_rfl) ?_
      repeat refine SOp.mk _ _ (And.intro rfl rfl) rfl ?_
      refine SOp.mk _ _ (SPos.mk k rfl hi4 (And.intro rfl rfl)) rfl ?_
      refine SOp.mk _ _ (SIdx.mk k _ rfl hvx (And.intro rfl rfl)) rfl ?_
      repeat refine SOp.mk _ _ (And.intro rfl rfl) rfl ?_
      refine SOp.mk _ _ (SPos.mk k rfl hi4 (And.intro rfl rfl)) rfl ?_
      refine SOp.mk _ _ (SIdx.mk k _ rfl hvy (And.intro rfl rfl)) rfl ?_
      repeat refine SOp.mk _ _ (And.intro rfl rfl) rfl ?_
      refine SOp.mk _ _ (SCall.pureT (c4) (fun _ => rfl) (And.intro rfl rfl)) rfl ?_
      repeat refine SOp.mk _ _ (And.intro rfl rfl) rfl ?_
      refine SCall.pureT (d1) (fun _ => rfl) ?_
      refine SCall.pureT (d2) (fun _ => rfl) ?_
      by_cases h0 : k = 0
      · refine SCmp.yes (eqT (by omega)) ?_
        refine SCmp.yes (eqT (by omega)) ?_
        subst h0
        refine SWrap.i64z ((0 + 1 : Nat) : Int) (by omega) (by omega) ?_
        exact ⟨0 + 1, [0, 1, 2, 3], hi4, by show 4 - (0 + 1) < 4 - 0; omega, ⟨rfl, by simp, rfl, rfl, rfl, ⟨rfl, rfl, rfl, rfl, rfl, rfl, trivial⟩, ⟨rfl, rfl, boxI g1.symm g2.symm, rfl, trivial⟩⟩⟩
      · have s1 := outF_lo (o := -1) (g := gl) h0
        have s2 := outF_lo (o := 1) (g := gh) h0
        refine SCmp.no (eqF (by omega)) ?_
        unfold stepF at s1 s2
        rw [← g1] at s1
        rw [← g2] at s2
        by_cases x1 : (cmpF (divF x y 2).1 (outF (-1) gl k)).1 < 0
        · rw [if_pos (cmpF_m1.1 x1)] at s1
          refine SCmp.yes (decide_eq_true x1) ?_
          refine SCmp.no (eqF (by omega)) ?_
          by_cases x2 : 0 < (cmpF (divF x y 3).1 (outF 1 gh k)).1
          · rw [if_pos (cmpF_p1.1 x2)] at s2
            refine SCmp.yes (decide_eq_true x2) ?_
            refine SWrap.i64z ((k + 1 : Nat) : Int) (by omega) (by omega) ?_
            exact ⟨k + 1, [0, 1, 2, 3], hi4, by show 4 - (k + 1) < 4 - k; omega, ⟨rfl, by simp, rfl, rfl, rfl, ⟨rfl, rfl, rfl, rfl, rfl, rfl, trivial⟩, ⟨rfl, rfl, boxI s1 s2, rfl, trivial⟩⟩⟩
          · rw [if_neg (mt cmpF_p1.2 x2)] at s2
            refine SCmp.no (decide_eq_false x2) ?_
            refine SWrap.i64z ((k + 1 : Nat) : Int) (by omega) (by omega) ?_
            exact ⟨k + 1, [0, 1, 2, 3], hi4, by show 4 - (k + 1) < 4 - k; omega, ⟨rfl, by simp, rfl, rfl, rfl, ⟨rfl, rfl, rfl, rfl, rfl, rfl, trivial⟩, ⟨rfl, rfl, boxI s1 s2, rfl, trivial⟩⟩⟩
        · rw [if_neg (mt cmpF_m1.2 x1)] at s1
          refine SCmp.no (decide_eq_false x1) ?_
          refine SCmp.no (eqF (by omega)) ?_
          by_cases x2 : 0 < (cmpF (divF x y 3).1 (outF 1 gh k)).1
          · rw [if_pos (cmpF_p1.1 x2)] at s2
            refine SCmp.yes (decide_eq_true x2) ?_
            refine SWrap.i64z ((k + 1 : Nat) : Int) (by omega) (by omega) ?_
            exact ⟨k + 1, [0, 1, 2, 3], hi4, by show 4 - (k + 1) < 4 - k; omega, ⟨rfl, by simp, rfl, rfl, rfl, ⟨rfl, rfl, rfl, rfl, rfl, rfl, trivial⟩, ⟨rfl, rfl, boxI s1 s2, rfl, trivial⟩⟩⟩
          · rw [if_neg (mt cmpF_p1.2 x2)] at s2
            refine SCmp.no (decide_eq_false x2) ?_
            refine SWrap.i64z ((k + 1 : Nat) : Int) (by omega) (by omega) ?_
            exact ⟨k + 1, [0, 1, 2, 3], hi4, by show 4 - (k + 1) < 4 - k; omega, ⟨rfl, by simp, rfl, rfl, rfl, ⟨rfl, rfl, rfl, rfl, rfl, rfl, trivial⟩, ⟨rfl, rfl, boxI s1 s2, rfl, trivial⟩⟩⟩
  · refine SCmp.no (decide_eq_false (by omega)) ?_
    obtain rfl : k = 4 := by omega
    subst hgl
    subst hgh
    exact SRet.pure (.p _ (pers_iv (endsF (fourOp quo) i j)))
theorem rivmul_ok (i j : IvT) (hi : IvOk i) (hj : IvOk j) : CallP Tryz.prog 39 [ivP i, ivP j] (.p (ivP (mulI i j))) [] := by
  refine callG_of_vc (wr := wr0) Γok mixed Tryz.func39 (by kernel_rfl) rfl (by kernel_rfl) (le_of_ble rfl) (by simp) ?_
  have c := four_ok i j hi hj false
  rw [fourOp_false] at c
  refine SCall.pure (c) ?_
  exact SRet.pure (.p _ (pers_iv (mulI i j)))

/-! #### what it has -/
theorem rivhas_ok (i : IvT) (a : Rat) (hi : IvOk i) (n1 : isNan i.1 = false) (n2 : isNan i.2 = false) {k : Nat} (ha : Bz a k) (hk : k ≤ 65536) : CallP Tryz.prog 33 [ivP i, ratP a] (.p (.bool (hasI i a))) [] := by
  obtain ⟨x, y⟩ := i
  have hlo : x < 18446744073709551616 := hi.lo
  have hhi : y < 18446744073709551616 := hi.hi
  have n1 : isNan x = false := n1
  have n2 : isNan y = false := n2
  have e1 : LeQ x a = if isInf x then ngt x = true else fvq x ≤ a := rfl
  have e2 : GeQ y a = if isInf y then ngt y = false else a ≤ fvq y := rfl
  have z1 := fvq_bz x
  have z2 := fvq_bz y
  refine callG_of_vc (wr := wr0) Γok mixed Tryz.func33 (by kernel_rfl) rfl (by kernel_rfl) (le_of_ble rfl) (by simp) ?_
  rw [show hasI (x, y) a = (decide (LeQ x a) && decide (GeQ y a)) from rfl]
  cases f1 : isInf x with
  | true =>
    rw [f1] at e1
    have e1 : LeQ x a = (ngt x = true) := e1.trans (if_pos rfl)
    refine SCall.pureT (rfrat_no x hlo (.inr f1)) (fun _ => rfl) ?_
    refine SCmp.yes (rfl) ?_
    refine SWrap.sign x rfl rfl hlo ?_
    cases g1 : ngt x with
    | false =>
      have hlt := ngt_false g1
      rw [if_neg (by omega)]
      refine SCmp.yes (eqT rfl) ?_
      have d1 : decide (LeQ x a) = false := decide_eq_false (by rw [e1, g1]; simp)
      rw [d1]
      exact SRet.pure (.tf _)
    | true =>
      have hlt := ngt_true g1
      rw [if_pos hlt]
      refine SCmp.no (eqF (by decide)) ?_
      refine SCmp.no (rfl) ?_
      have d1 : decide (LeQ x a) = true := decide_eq_true (by rw [e1]; exact g1)
      rw [d1, Bool.true_and]
      cases f2 : isInf y with
      | true =>
        rw [f2] at e2
        have e2 : GeQ y a = (ngt y = false) := e2.trans (if_pos rfl)
        refine SCall.pureT (rfrat_no y hhi (.inr f2)) (fun _ => rfl) ?_
        refine SCmp.yes (rfl) ?_
        refine SWrap.sign y rfl rfl hhi ?_
        cases g2 : ngt y with
        | false =>
          have hlt := ngt_false g2
          rw [if_neg (by omega)]
          refine SCmp.yes (eqT rfl) ?_
          have d2 : decide (GeQ y a) = true := decide_eq_true (by rw [e2]; exact g2)
          rw [d2]
          exact SRet.pure (.tf _)
        | true =>
          have hlt := ngt_true g2
          rw [if_pos hlt]
          refine SCmp.no (eqF (by decide)) ?_
          refine SCmp.no (rfl) ?_
          have d2 : decide (GeQ y a) = false := decide_eq_false (by rw [e2, g2]; simp)
          rw [d2]
          exact SRet.pure (.tf _)
      | false =>
        rw [f2] at e2
        have e2 : GeQ y a = (a ≤ fvq y) := e2.trans (if_neg Bool.false_ne_true)
        refine SCall.pureT (rfrat_ok y hhi n2 f2) (fun _ => rfl) ?_
        refine SCmp.no (rfl) ?_
        refine SCmp.yes (rfl) ?_
        refine SCall.pure (rcmpq_ok a (fvq y) ha z2 (by omega)) ?_
        by_cases h2 : a ≤ fvq y
        · refine SCmp.yes (decide_eq_true (cmpQ_le0'.2 h2)) ?_
          have d2 : decide (GeQ y a) = true := decide_eq_true (by rw [e2]; exact h2)
          rw [d2]
          exact SRet.pure (.tf _)
        · refine SCmp.no (decide_eq_false (mt cmpQ_le0'.1 h2)) ?_
          have d2 : decide (GeQ y a) = false := decide_eq_false (by rw [e2]; exact h2)
          rw [d2]
          exact SRet.pure (.tf _)
  | false =>
    rw [f1] at e1
    have e1 : LeQ x a = (fvq x ≤ a) := e1.trans (if_neg Bool.false_ne_true)
    refine SCall.pureT (rfrat_ok x hlo n1 f1) (fun _ => rfl) ?_
    refine SCmp.no (rfl) ?_
    refine SCmp.yes (rfl) ?_
    refine SCall.pure (rcmpq_ok a (fvq x) ha z1 (by omega)) ?_
    by_cases h1 : a < fvq x
    · refine SCmp.yes (decide_eq_true (cmpQ_lt0.2 h1)) ?_
      have d1 : decide (LeQ x a) = false := decide_eq_false (by rw [e1]; grind)
      rw [d1]
      exact SRet.pure (.tf _)
    · refine SCmp.no (decide_eq_false (mt cmpQ_lt0.1 h1)) ?_
      have d1 : decide (LeQ x a) = true := decide_eq_true (by rw [e1]; grind)
      rw [d1, Bool.true_and]
      cases f2 : isInf y with
      | true =>
        rw [f2] at e2
        have e2 : GeQ y a = (ngt y = false) := e2.trans (if_pos rfl)
        refine SCall.pureT (rfrat_no y hhi (.inr f2)) (fun _ => rfl) ?_
        refine SCmp.yes (rfl) ?_
        refine SWrap.sign y rfl rfl hhi ?_
        cases g2 : ngt y with
        | false =>
          have hlt := ngt_false g2
          rw [if_neg (by omega)]
          refine SCmp.yes (eqT rfl) ?_
          have d2 : decide (GeQ y a) = true := decide_eq_true (by rw [e2]; exact g2)
          rw [d2]
          exact SRet.pure (.tf _)
        | true =>
          have hlt := ngt_true g2
          rw [if_pos hlt]
          refine SCmp.no (eqF (by decide)) ?_
          refine SCmp.no (rfl) ?_
          have d2 : decide (GeQ y a) = false := decide_eq_false (by rw [e2, g2]; simp)
          rw [d2]
          exact SRet.pure (.tf _)
      | false =>
        rw [f2] at e2
        have e2 : GeQ y a = (a ≤ fvq y) := e2.trans (if_neg Bool.false_ne_true)
        refine SCall.pureT (rfrat_ok y hhi n2 f2) (fun _ => rfl) ?_
        refine SCmp.no (rfl) ?_
        refine SCmp.yes (rfl) ?_
        refine SCall.pure (rcmpq_ok a (fvq y) ha z2 (by omega)) ?_
        by_cases h2 : a ≤ fvq y
        · refine SCmp.yes (decide_eq_true (cmpQ_le0'.2 h2)) ?_
          have d2 : decide (GeQ y a) = true := decide_eq_true (by rw [e2]; exact h2)
          rw [d2]
          exact SRet.pure (.tf _)
        · refine SCmp.no (decide_eq_false (mt cmpQ_le0'.1 h2)) ?_
          have d2 : decide (GeQ y a) = false := decide_eq_false (by rw [e2]; exact h2)
          rw [d2]
          exact SRet.pure (.tf _)
theorem rivquo_ok (i j : IvT) (hi : IvOk i) (hj : IvOk j) (n1 : isNan j.1 = false) (n2 : isNan j.2 = false) : CallP Tryz.prog 30 [ivP i, ivP j] (if hasI j 0 = true then .tup [.p (ivP (0, 0)), .p (.int .i64 5)] else .tup [.p (ivP (divI i j)), .p (.int .i64 0)]) [] := by
  refine callG_of_vc (wr := wr0) Γok mixed Tryz.func30 (by kernel_rfl) rfl (by kernel_rfl) (le_of_ble rfl) (by simp) ?_
  have c := rivhas_ok j 0 hj n1 n2 (k := 1) ⟨by decide, by decide⟩ (by omega)
  refine SDraw.mk (by kernel_rfl) ?_
  repeat refine SOp.mk _ _ (And.intro rfl rfl) rfl ?_
  refine SOp.mk _ _ (SCall.pure (rzero_ok) (And.intro rfl rfl)) rfl ?_
  cases h : hasI j 0 with
  | true =>
    rw [h] at c
    refine SOp.mk _ _ (SCall.pure (c) (And.intro rfl rfl)) rfl ?_
    repeat refine SOp.mk _ _ (And.intro rfl rfl) rfl ?_
    refine SCond.mk (fun _ => ?_) (fun h => by cases h)
    rw [if_pos rfl]
    exact SRet.pure (.tup rfl fun i c d e1 e2 => by
      match i, e1, e2 with
      | 0, e1, e2 => cases e1; cases e2; exact .p _ (pers_iv (0, 0))
      | 1, e1, e2 => cases e1; cases e2; exact .p _ (.int _ _))
  | false =>
    rw [h] at c
    refine SOp.mk _ _ (SCall.pure (c) (And.intro rfl rfl)) rfl ?_
    repeat refine SOp.mk _ _ (And.intro rfl rfl) rfl ?_
    refine SCond.mk (fun h => by cases h) (fun _ => ?_)
    rw [if_neg Bool.false_ne_true]
    have c4 := four_ok i j hi hj true
    rw [fourOp_true] at c4
    refine SCall.pure (c4) ?_
    exact SRet.pure (.tup rfl fun i c d e1 e2 => by
      match i, e1, e2 with
      | 0, e1, e2 => cases e1; cases e2; exact .p _ (pers_iv _)
      | 1, e1, e2 => cases e1; cases e2; exact .p _ (.int _ _))
theorem rfin_ok (i : IvT) (hi : IvOk i) (n1 : isNan i.1 = false) (n2 : isNan i.2 = false) : CallP Tryz.prog 87 [ivP i] (.p (.bool (finI i))) [] := by
  obtain ⟨x, y⟩ := i
  have hlo : x < 18446744073709551616 := hi.lo
  have hhi : y < 18446744073709551616 := hi.hi
  have n1 : isNan x = false := n1
  have n2 : isNan y = false := n2
  refine callG_of_vc (wr := wr0) Γok mixed Tryz.func87 (by kernel_rfl) rfl (by kernel_rfl) (le_of_ble rfl) (by simp) ?_
  rw [show finI (x, y) = (!isInf x && !isInf y) from rfl]
  cases f1 : isInf x with
  | true =>
    refine SCall.pureT (rfrat_no x hlo (.inr f1)) (fun _ => rfl) ?_
    cases f2 : isInf y with
    | true =>
      refine SCall.pureT (rfrat_no y hhi (.inr f2)) (fun _ => rfl) ?_
      refine SCmp.no (rfl) ?_
      exact SRet.pure (.tf _)
    | false =>
      refine SCall.pureT (rfrat_ok y hhi n2 f2) (fun _ => rfl) ?_
      refine SCmp.no (rfl) ?_
      exact SRet.pure (.tf _)
  | false =>
    refine SCall.pureT (rfrat_ok x hlo n1 f1) (fun _ => rfl) ?_
    cases f2 : isInf y with
    | true =>
      refine SCall.pureT (rfrat_no y hhi (.inr f2)) (fun _ => rfl) ?_
      refine SCmp.yes (rfl) ?_
      refine SCmp.no (rfl) ?_
      exact SRet.pure (.tf _)
    | false =>
      refine SCall.pureT (rfrat_ok y hhi n2 f2) (fun _ => rfl) ?_
      refine SCmp.yes (rfl) ?_
      refine SCmp.yes (rfl) ?_
      exact SRet.pure (.tf _)
end Go.Proofs.YtacklcbgkigcaaaGreat
