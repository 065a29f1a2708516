/- FCUndoes: what its proof needs, part 6. -/
import Derived.Test.YtkaooejeljdbnaaHUndoes5
set_option linter.unusedVariables false
set_option linter.unusedSimpArgs false
namespace Go.Proofs.Ytkaooejeljdbnaa
open Go
set_option linter.unusedVariables false
set_option linter.unusedSimpArgs false
set_option maxRecDepth 10000
theorem twin_inj {n : Nat} {x : Nat → Rat} : twinT n (fun i k => x i - x k) ↔ ¬ Inj x n := by
  constructor
  · rintro ⟨i, k, hi, hk, e, h⟩ hI
    exact e (hI i k hi hk (by grind))
  · intro h
    apply Classical.byContradiction
    intro hc
    refine h fun i k hi hk e => ?_
    apply Classical.byContradiction
    intro hne
    exact hc ⟨i, k, hi, hk, hne, by show x i - x k = 0; rw [e]; grind⟩
/-- Are two of a row's nodes the same? -/
noncomputable def notInj (x : Nat → Rat) (n : Nat) : Bool := @decide (¬ Inj x n) (Classical.propDecidable _)
theorem notInj_iff {x : Nat → Rat} {n : Nat} : notInj x n = true ↔ ¬ Inj x n := by unfold notInj; simp
theorem notInj_tt {x : Nat → Rat} {n : Nat} (h : ¬ Inj x n) : notInj x n = true := notInj_iff.2 h
theorem notInj_ff {x : Nat → Rat} {n : Nat} (h : Inj x n) : notInj x n = false := by
  cases e : notInj x n with
  | false => rfl
  | true => exact absurd h (notInj_iff.1 e)
abbrev sidesL (n : Nat) (a b : Nat → Rat) (tA tB : Bool) : List PV := [.int .i64 (n : Int), mapP n fun i k => a i - a k, mapP n fun i k => b i - b k, mapP n fun i k => a i - b k, .bool tA, .bool tB]
abbrev sidesA (n : Nat) (a b : Nat → Rat) (tA tB : Bool) : List AV := [.p (.int .i64 (n : Int)), .p (mapP n fun i k => a i - a k), .p (mapP n fun i k => b i - b k), .p (mapP n fun i k => a i - b k), .p (.bool tA), .p (.bool tB)]
noncomputable abbrev sidesP (g : GV) : PV := .agg (sidesL g.n g.A g.B (notInj g.A g.n) (notInj g.B g.n))
theorem pers_map {n : Nat} {f : Nat → Nat → Rat} : Pers (mapP n f) := .mp _ (fun e he => (pers_tab e he).1) fun e he => (pers_tab e he).2
theorem pers_sides {n : Nat} {a b : Nat → Rat} {tA tB : Bool} : Pers (.agg (sidesL n a b tA tB)) := .agg _ fun c hc => by
  simp only [sidesL, List.mem_cons, List.not_mem_nil, or_false] at hc
  rcases hc with rfl | rfl | rfl | rfl | rfl | rfl <;> first | exact .int _ _ | exact .bool _ | exact pers_map
structure CauG (g : GV) (b c : Nat) : Prop extends Wf g b c where
  k5 : g.k = 5
theorem CauG.la {g : GV} {b c : Nat} (h : CauG g b c) : g.la = g.n := h.toWf.la3 (by have := h.k5; omega)
theorem CauG.lb {g : GV} {b c : Nat} (h : CauG g b c) : g.lb = g.n := h.toWf.lb5 (by have := h.k5; omega)
theorem CauG.za {g : GV} {b c : Nat} (h : CauG g b c) {i : Nat} (hi : i < g.n) : Bz (g.A i) 100 := (h.bA i (by rw [h.la]; exact hi)).mono (Nat.le_trans h.bc h.c4)
theorem CauG.zb {g : GV} {b c : Nat} (h : CauG g b c) {i : Nat} (hi : i < g.n) : Bz (g.B i) 100 := (h.bB i (by rw [h.lb]; exact hi)).mono h.c4
theorem CauG.daa {g : GV} {b c : Nat} (h : CauG g b c) {i k : Nat} (hi : i < g.n) (hk : k < g.n) : Bz (g.A i - g.A k) 201 := (h.za hi).sub (h.za hk)
theorem CauG.dbb {g : GV} {b c : Nat} (h : CauG g b c) {i k : Nat} (hi : i < g.n) (hk : k < g.n) : Bz (g.B i - g.B k) 201 := (h.zb hi).sub (h.zb hk)
theorem CauG.dab {g : GV} {b c : Nat} (h : CauG g b c) {i k : Nat} (hi : i < g.n) (hk : k < g.n) : Bz (g.A i - g.B k) 201 := (h.za hi).sub (h.zb hk)
theorem CauG.nab {g : GV} {b c : Nat} (h : CauG g b c) {i k : Nat} (hi : i < g.n) (hk : k < g.n) : g.A i ≠ g.B k := h.ne i k (by rw [h.la]; exact hi) (by rw [h.lb]; exact hk)
theorem begun_ok (m : Nat → Bool) (g : GV) {b c : Nat} (h : CauG g b c) : CallP Try.prog 99 [genP m g] (.tup [.p (sidesP g), .p (.int .i64 0)]) [] := by
  have h6 := h.n6
  have hk := h.k5
  have eA : lst g.la g.A = lst g.n g.A := by rw [h.la]
  have eB : lst g.lb g.B = lst g.n g.B := by rw [h.lb]
  have c1 := cof_ok (m 0) (m 0) g.n g.A g.A (fun i hi => h.za hi) (fun i hi => h.za hi) (by decide) (by omega)
  have c2 := cof_ok (m 1) (m 1) g.n g.B g.B (fun i hi => h.zb hi) (fun i hi => h.zb hi) (by decide) (by omega)
  have c3 := cof_ok (m 0) (m 1) g.n g.A g.B (fun i hi => h.za hi) (fun i hi => h.zb hi) (by decide) (by omega)
  rw [← eA] at c1 c3
  rw [← eB] at c2 c3
  have s1 := same_ok g.n (fun i k => g.A i - g.A k) (b := 201) (fun i k hi hk => h.daa hi hk) (by omega) (by omega) (notInj g.A g.n) (notInj_iff.trans twin_inj.symm)
  have s2 := same_ok g.n (fun i k => g.B i - g.B k) (b := 201) (fun i k hi hk => h.dbb hi hk) (by omega) (by omega) (notInj g.B g.n) (notInj_iff.trans twin_inj.symm)
  refine callG_of_vc (wr := wr0) Γok mixed Try.func99 (by kernel_rfl) rfl (by kernel_rfl) (le_of_ble rfl) (by simp) ?_
  refine SCmp.no (neF (by omega)) ?_
  refine SCall.pure (gcheck_ok m g h.toWf) ?_
  refine SCmp.no (rfl) ?_
  refine SDraw.mkX (by kernel_rfl) ?_
  repeat refine SOp.mk _ _ (And.intro rfl rfl) rfl ?_
  refine SOp.mk _ _ (SCall.pure (c1) (And.intro rfl rfl)) rfl ?_
  repeat refine SOp.mk _ _ (And.intro rfl rfl) rfl ?_
  refine SOp.mk _ _ (SCall.pure (c2) (And.intro rfl rfl)) rfl ?_
  repeat refine SOp.mk _ _ (And.intro rfl rfl) rfl ?_
  refine SOp.mk _ _ (SCall.pure (c3) (And.intro rfl rfl)) rfl ?_
  repeat refine SOp.mk _ _ (And.intro rfl rfl) rfl ?_
  refine SFin.mk (by kernel_rfl) ?_
  refine SDraw.mkX (by kernel_rfl) ?_
  repeat refine SOp.mk _ _ (And.intro rfl rfl) rfl ?_
  refine SOp.mk _ _ (SCall.pure (s1) (And.intro rfl rfl)) rfl ?_
  repeat refine SOp.mk _ _ (And.intro rfl rfl) rfl ?_
  refine SOp.mk _ _ (SCall.pure (s2) (And.intro rfl rfl)) rfl ?_
  repeat refine SOp.mk _ _ (And.intro rfl rfl) rfl ?_
  refine SFin.mk (by kernel_rfl) ?_
  exact SRet.pure (.tup rfl fun i c d e1 e2 => by
    match i, e1, e2 with
    | 0, e1, e2 => cases e1; cases e2; exact .p _ pers_sides
    | 1, e1, e2 => cases e1; cases e2; exact .p _ (.int _ _))
theorem div_div {a x y : Rat} : a / x / y = a / (x * y) := by
  rw [Rat.div_def, Rat.div_def, Rat.div_def, Rat.inv_mul_rev]; grind
theorem cdet_ok (m : Nat → Bool) (g : GV) {b c : Nat} (h : CauG g b c) : CallP Try.prog 45 [genP m g] (.tup [.p (ratP (cDet g.A g.B g.n)), .p (.int .i64 0)]) [] := by
  have h6 := h.n6
  refine callG_of_vc (wr := wr0) Γok mixed Try.func45 (by kernel_rfl) rfl (by kernel_rfl) (le_of_ble rfl) (by simp) ?_
  refine SCall.pureT (begun_ok m g h) (fun _ => rfl) ?_
  refine SCmp.no (rfl) ?_
  refine SCall.pure (cone_ok) ?_
  refine SLoop.mk (Nat × Rat) (fun (i, q) => ([(2, .bptr 0 0), (4, .bptr 1 0), (6, .bptr 2 0), (22, .p (.int .i64 g.n)), (23, .p (.int .i64 i))], [.box 37 zratA, .box 119 (sidesA g.n g.A g.B (notInj g.A g.n) (notInj g.B g.n)), .box 37 (bxQ q)]))
    (fun (i, q) => i ≤ g.n ∧ q = cUp g.A g.B i ∧ Bz q (1 + i * 6 * 403)) (fun x => g.n - x.1) (0, 1) [1, 2, 3] ⟨Nat.zero_le _, rfl, bz_one⟩ ⟨rfl, by simp, rfl, rfl, rfl, ⟨rfl, rfl, rfl, rfl, rfl, trivial⟩, ⟨rfl, rfl, rfl, trivial⟩⟩ ?_
  intro ⟨i, q⟩ ⟨hi, hq, hz⟩
  by_cases hin : i < g.n
  · refine SCmp.yes (decide_eq_true (by omega)) ?_
    refine SLoop.mk (Nat × Rat) (fun (k, q) => ([(2, .bptr 0 0), (4, .bptr 1 0), (6, .bptr 2 0), (7, .p (.int .i64 i)), (22, .p (.int .i64 g.n)), (23, .p (.int .i64 i)), (26, .p (.int .i64 i)), (27, .p (.int .i64 k))], [.box 37 zratA, .box 119 (sidesA g.n g.A g.B (notInj g.A g.n) (notInj g.B g.n)), .box 37 (bxQ q)]))
      (fun (k, q) => k ≤ i ∧ q = cUp g.A g.B i * pm k (fun k => (g.A i - g.A k) * (g.B k - g.B i)) ∧ Bz q (1 + i * 6 * 403 + k * 403)) (fun x => i - x.1) (0, q) [0, 1, 2] ⟨Nat.zero_le _, by rw [hq]; exact (Rat.mul_one _).symm, hz.mono (by omega)⟩ ⟨rfl, by simp, rfl, rfl, rfl, ⟨rfl, rfl, rfl, rfl, rfl, rfl, rfl, rfl, trivial⟩, ⟨rfl, rfl, rfl, trivial⟩⟩ ?_
    intro ⟨k, q⟩ ⟨hk, hq, hz⟩
    by_cases hki : k < i
    · refine SCmp.yes (decide_eq_true (by omega)) ?_
      have hkn : k < g.n := by omega
      have z1 := (h.daa hin hkn).mul (h.dbb hkn hin)
      refine SDraw.mkX (by kernel_rfl) ?_
      repeat refine SOp.mk _ _ (And.intro rfl rfl) rfl ?_
      refine SOp.mk _ _ (SKeys.tab (fun _ _ => rfl) <| SGet.tab hin hkn (And.intro rfl rfl)) rfl ?_
      repeat refine SOp.mk _ _ (And.intro rfl rfl) rfl ?_
      refine SOp.mk _ _ (SKeys.tab (fun _ _ => rfl) <| SGet.tab hkn hin (And.intro rfl rfl)) rfl ?_
      repeat refine SOp.mk _ _ (And.intro rfl rfl) rfl ?_
      refine SOp.mk _ _ (SCall.pure (ratmul_ok _ _ (h.daa hin hkn).sz (h.dbb hkn hin).sz (by omega)) (And.intro rfl rfl)) rfl ?_
      refine SOp.mk _ _ (SCall.pure (ratmul_ok _ _ hz.sz z1.sz (by omega)) (And.intro rfl rfl)) rfl ?_
      repeat refine SOp.mk _ _ (And.intro rfl rfl) rfl ?_
      refine SFin.mk (by kernel_rfl) ?_
      refine SWrap.i64z ((k + 1 : Nat) : Int) (by omega) (by omega) ?_
      exact ⟨(k + 1, _), [0, 1, 2], ⟨hki, by rw [hq, Rat.mul_assoc]; rfl, (hz.mul z1).mono (by omega)⟩, by show i - (k + 1) < i - k; omega, ⟨rfl, by simp, rfl, rfl, rfl, ⟨rfl, rfl, rfl, rfl, rfl, rfl, rfl, rfl, trivial⟩, ⟨rfl, rfl, rfl, trivial⟩⟩⟩
    · refine SCmp.no (decide_eq_false (by omega)) ?_
      obtain rfl : k = i := by omega
      refine SWrap.i64z ((k + 1 : Nat) : Int) (by omega) (by omega) ?_
      exact ⟨(k + 1, q), [0, 1, 2], ⟨hin, hq, hz.mono (by omega)⟩, by show g.n - (k + 1) < g.n - k; omega, ⟨rfl, by simp, rfl, rfl, rfl, ⟨rfl, rfl, rfl, rfl, rfl, trivial⟩, ⟨rfl, rfl, rfl, trivial⟩⟩⟩
  · refine SCmp.no (decide_eq_false (by omega)) ?_
    obtain rfl : i = g.n := by omega
    have hz0 : Bz q 15000 := hz.mono (by omega)
    refine SLoop.mk (Nat × Rat) (fun (i, q) => ([(2, .bptr 0 0), (4, .bptr 1 0), (6, .bptr 2 0), (48, .p (.int .i64 g.n)), (49, .p (.int .i64 i))], [.box 37 zratA, .box 119 (sidesA g.n g.A g.B (notInj g.A g.n) (notInj g.B g.n)), .box 37 (bxQ q)]))
      (fun (i, q) => i ≤ g.n ∧ q = cUp g.A g.B g.n / cDn g.A g.B i g.n ∧ Bz q (15000 + i * 6 * 201)) (fun x => g.n - x.1) (0, q) [0, 1, 2] ⟨Nat.zero_le _, by rw [hq]; show _ = _ / 1; grind, hz0.mono (by omega)⟩ ⟨rfl, by simp, rfl, rfl, rfl, ⟨rfl, rfl, rfl, rfl, rfl, trivial⟩, ⟨rfl, rfl, rfl, trivial⟩⟩ ?_
    intro ⟨i, q⟩ ⟨hi, hq, hz⟩
    by_cases hin : i < g.n
    · refine SCmp.yes (decide_eq_true (by omega)) ?_
      refine SLoop.mk (Nat × Rat) (fun (k, q) => ([(2, .bptr 0 0), (4, .bptr 1 0), (6, .bptr 2 0), (9, .p (.int .i64 i)), (48, .p (.int .i64 g.n)), (49, .p (.int .i64 i)), (53, .p (.int .i64 g.n)), (54, .p (.int .i64 k))], [.box 37 zratA, .box 119 (sidesA g.n g.A g.B (notInj g.A g.n) (notInj g.B g.n)), .box 37 (bxQ q)]))
        (fun (k, q) => k ≤ g.n ∧ q = cUp g.A g.B g.n / (cDn g.A g.B i g.n * pm k (fun k => g.A i - g.B k)) ∧ Bz q (15000 + i * 6 * 201 + k * 201)) (fun x => g.n - x.1) (0, q) [0, 1, 2] ⟨Nat.zero_le _, by rw [hq]; show _ = _ / (_ * 1); rw [Rat.mul_one], hz.mono (by omega)⟩ ⟨rfl, by simp, rfl, rfl, rfl, ⟨rfl, rfl, rfl, rfl, rfl, rfl, rfl, rfl, trivial⟩, ⟨rfl, rfl, rfl, trivial⟩⟩ ?_
      intro ⟨k, q⟩ ⟨hk, hq, hz⟩
      by_cases hkn : k < g.n
      · refine SCmp.yes (decide_eq_true (by omega)) ?_
        refine SDraw.mkX (by kernel_rfl) ?_
        repeat refine SOp.mk _ _ (And.intro rfl rfl) rfl ?_
        refine SOp.mk _ _ (SKeys.tab (fun _ _ => rfl) <| SGet.tab hin hkn (And.intro rfl rfl)) rfl ?_
        repeat refine SOp.mk _ _ (And.intro rfl rfl) rfl ?_
        refine SOp.mk _ _ (SCall.pure (cover_ok _ _ (rsub_ne (h.nab hin hkn)) hz (h.dab hin hkn) (by omega)) (And.intro rfl rfl)) rfl ?_
        repeat refine SOp.mk _ _ (And.intro rfl rfl) rfl ?_
        refine SFin.mk (by kernel_rfl) ?_
        refine SWrap.i64z ((k + 1 : Nat) : Int) (by omega) (by omega) ?_
        exact ⟨(k + 1, _), [0, 1, 2], ⟨hkn, by rw [hq, div_div, Rat.mul_assoc]; rfl, (hz.div (h.dab hin hkn)).mono (by omega)⟩, by show g.n - (k + 1) < g.n - k; omega, ⟨rfl, by simp, rfl, rfl, rfl, ⟨rfl, rfl, rfl, rfl, rfl, rfl, rfl, rfl, trivial⟩, ⟨rfl, rfl, rfl, trivial⟩⟩⟩
      · refine SCmp.no (decide_eq_false (by omega)) ?_
        obtain rfl : k = g.n := by omega
        refine SWrap.i64z ((i + 1 : Nat) : Int) (by omega) (by omega) ?_
        exact ⟨(i + 1, q), [0, 1, 2], ⟨hin, hq, hz.mono (by omega)⟩, by show g.n - (i + 1) < g.n - i; omega, ⟨rfl, by simp, rfl, rfl, rfl, ⟨rfl, rfl, rfl, rfl, rfl, trivial⟩, ⟨rfl, rfl, rfl, trivial⟩⟩⟩
    · refine SCmp.no (decide_eq_false (by omega)) ?_
      obtain rfl : i = g.n := by omega
      have hq : q = cDet g.A g.B g.n := hq
      rw [← hq]
      exact SRet.pure (.tup rfl fun i c d e1 e2 => by
        match i, e1, e2 with
        | 0, e1, e2 => cases e1; cases e2; exact .p _ (pers_rat _ _ _)
        | 1, e1, e2 => cases e1; cases e2; exact .p _ (.int _ _))
end Go.Proofs.Ytkaooejeljdbnaa

namespace Go.Proofs.Ytkaooejeljdbnaa
open Go
set_option linter.unusedVariables false
set_option linter.unusedSimpArgs false
theorem wf_mkG {k n r : Nat} {ns : List Int} (k1 : 1 ≤ k) (k7 : k ≤ 7) (n1 : 1 ≤ n) (n6 : n ≤ 6) (r1 : k = 6 ∨ k = 7 → 1 ≤ r) (r2 : r ≤ 2) (r0 : k ≤ 5 → r = 0) : Wf (mkG k n r (rowG ns)) 5 13 := by
  have hf : ∀ i, -20 ≤ rowG ns i ∧ rowG ns i ≤ 20 := fun i => smallQ_range _
  have hc := cnt_le (k := k) (r := r) n1 (show n ≤ 8 by omega) (show r ≤ 3 by omega)
  exact {
    k1 := k1, k7 := k7, n1 := n1, n6 := n6, r2 := r2, r1 := r1, r0 := r0
    bA := fun i _ => rowG_bz ns i
    bB := fun i hi => bfix_bz hf (by have hi : i < cntB k n := hi; omega) (hf _) (rowG_bz ns _) _
    bG := fun i _ => rowG_bz ns _
    bH := fun i _ => rowG_bz ns _
    ne := fun i j hi hj => bfix_ne hf (hf _) (show i < cntA k n from hi)
    bc := by omega
    c4 := by omega }
theorem gmR_ok {k : Nat} (n : Int) : (k = 6 ∨ k = 7 → 1 ≤ gmR k n) ∧ gmR k n ≤ 2 ∧ (k ≤ 5 → gmR k n = 0) := by
  unfold gmR
  refine ⟨fun h => by rw [if_pos h]; omega, by split <;> omega, fun h => if_neg (by omega)⟩
theorem gmN_ok (n most : Int) (h1 : 1 ≤ most) : 1 ≤ gmN n most ∧ (gmN n most : Int) ≤ most := by
  have := Int.emod_nonneg n (show most ≠ 0 by omega)
  have := Int.emod_lt_of_pos n (show (0 : Int) < most by omega)
  unfold gmN
  omega
theorem wf_g13 {g : GV} {ns : List Int} {b c : Nat} (h : Wf g b c) (hk : g.k = 5 ∨ g.k = 7) : Wf (g13 g ns) b c := by
  unfold g13
  split
  · rename_i ht
    have hla : g.la = g.n := h.la3 (by omega)
    have n1 := h.n1
    have ha : ∀ i, i < g.n → ∃ j, j < g.n ∧ upd g.A (g.n - 1) (g.A 0) i = g.A j := fun i hi => by
      by_cases e : i = g.n - 1
      · exact ⟨0, by omega, by rw [e, upd_same]⟩
      · exact ⟨i, hi, upd_other _ _ e⟩
    exact { h with
      bA := fun i hi => by
        obtain ⟨j, hj, e⟩ := ha i (by rw [← hla]; exact hi)
        show Bz (upd g.A (g.n - 1) (g.A 0) i) b
        rw [e]; exact h.bA j (by rw [hla]; exact hj)
      ne := fun i k hi hk => by
        obtain ⟨j, hj, e⟩ := ha i (by rw [← hla]; exact hi)
        show upd g.A (g.n - 1) (g.A 0) i ≠ g.B k
        rw [e]; exact h.ne j k (by rw [hla]; exact hj) hk }
  · exact h
theorem g13_k {g : GV} {ns : List Int} : (g13 g ns).k = g.k := by unfold g13; split <;> rfl
end Go.Proofs.Ytkaooejeljdbnaa

namespace Go.Proofs.Ytkaooejeljdbnaa
open Go
set_option linter.unusedVariables false
set_option linter.unusedSimpArgs false
set_option maxRecDepth 10000
/-- Both rows of nodes are lent. -/
def m15 : Nat → Bool
  | 0 => true
  | 1 => true
  | _ => false
def g15 : GV := ⟨5, 1, 0, fun _ => ((3 : Int) : Rat), fun _ => ((1 : Int) : Rat), fun _ => 0, fun _ => 0⟩
theorem cau15 : CauG g15 5 5 where
  k1 := by decide
  k7 := by decide
  n1 := by decide
  n6 := by decide
  r2 := by decide
  r1 := fun h => by rcases h with h | h <;> cases h
  r0 := fun _ => rfl
  bA := fun i _ => int_bz (by decide) (by decide)
  bB := fun i _ => int_bz (by decide) (by decide)
  bG := fun i _ => bz_zero.mono (by decide)
  bH := fun i _ => bz_zero.mono (by decide)
  ne := fun i j _ _ => by show ((3 : Int) : Rat) ≠ ((1 : Int) : Rat); decide
  bc := by decide
  c4 := by decide
  k5 := rfl
theorem half15_ok : CallP Try.prog 58 [.int .i64 1, .int .i64 2] (.tup [.p (ratP (1 / 2)), .p (.int .i64 0)]) [] := by
  have h := rof2_ok 1 2 (by omega) (by omega) (by omega)
  have e : mkQ (decide ((1 : Int) < 0) != decide ((2 : Int) < 0)) (1 : Int).natAbs (2 : Int).natAbs = 1 / 2 := by decide +kernel
  rwa [e] at h
theorem known15_ok : CallP Try.prog 42 [] (.p (.bool true)) [] := by
  have hd := cdet_ok m15 g15 cau15
  have e : cDet g15.A g15.B g15.n = 1 / 2 := by decide +kernel
  rw [e] at hd
  have hb : Bz (1 / 2 : Rat) 2 := ⟨by decide +kernel, by decide +kernel⟩
  have hs := rsame_ok (1 / 2) (1 / 2) hb hb (by decide)
  rw [decide_eq_true rfl] at hs
  refine callG_of_vc (wr := wr0) Γok mixed Try.func42 (by kernel_rfl) rfl (by kernel_rfl) (le_of_ble rfl) (by simp) ?_
  refine SCall.pure (rint_ok 3 (by decide)) ?_
  refine SCall.pure (rint_ok 1 (by decide)) ?_
  refine SView.all rfl <| SView.all rfl <| SCall.pureT (pvs := [genP m15 g15]) hd (fun _ => rfl) ?_
  refine SCall.pureT (half15_ok) (fun _ => rfl) ?_
  refine SCmp.yes (rfl) ?_
  refine SCall.pure (hs) ?_
  exact SRet.pure (.p _ (.bool _))
theorem cauG13 (n most : Int) (ns : List Int) (h1 : 1 ≤ most) (h6 : most ≤ 6) : CauG (g13 (mkG 5 (gmN n most) (gmR 5 n) (rowG ns)) ns) 5 13 where
  toWf := wf_g13 (by
    obtain ⟨r1, r2, r0⟩ := gmR_ok (k := 5) n
    have hn := gmN_ok n most h1
    exact wf_mkG (by decide) (by decide) hn.1 (by omega) r1 r2 r0) (.inl rfl)
  k5 := g13_k
end Go.Proofs.Ytkaooejeljdbnaa

namespace Go.Proofs.Ytkaooejeljdbnaa
open Go
set_option linter.unusedVariables false
set_option linter.unusedSimpArgs false
set_option maxRecDepth 10000
theorem CauG.cauH {g : GV} {b c : Nat} (h : CauG g b c) (ha : Inj g.A g.n) (hb : Inj g.B g.n) : CauH g.n g.A g.B := ⟨ha, hb, fun i k hi hk => h.nab hi hk⟩
theorem cuF_bz {g : GV} {b c : Nat} (h : CauG g b c) {i k : Nat} (hi : i < g.n) (hk : k < g.n) : ∀ m, m ≤ g.n → Bz (cuF g.A g.B i k m) (300 + m * 850) := by
  intro m
  induction m with
  | zero => intro _; simp only [cuF]; exact (bz_one.div (h.dab hk hi)).mono (by omega)
  | succ m ih =>
    intro hm
    have zm := (ih (by omega)).mul ((h.dab hk (show m < g.n by omega)).mul (h.dab (show m < g.n by omega) hi))
    simp only [cuF]
    have z1 := zm.div (h.daa hk (show m < g.n by omega))
    have z2 := z1.div (h.dbb (show m < g.n by omega) hi)
    have z3 := zm.div (h.dbb (show m < g.n by omega) hi)
    split <;> split
    · exact zm.mono (by omega)
    · exact z1.mono (by omega)
    · exact z3.mono (by omega)
    · exact z2.mono (by omega)
theorem undone_ok (g : GV) {b c : Nat} (h : CauG g b c) (ha : Inj g.A g.n) (hb : Inj g.B g.n) (i k : Nat) (hi : i < g.n) (hk : k < g.n) :
    CallP Try.prog 102 [.agg (sidesL g.n g.A g.B false false), .int .i64 i, .int .i64 k] (.p (ratP (cuF g.A g.B i k g.n))) [] := by
  have h6 := h.n6
  have H := h.cauH ha hb
  refine callG_of_vc (wr := wr0) Γok mixed Try.func102 (by kernel_rfl) rfl (by kernel_rfl) (le_of_ble rfl) (by simp) ?_
  refine SDraw.mkX (by kernel_rfl) ?_
  repeat refine SOp.mk _ _ (And.intro rfl rfl) rfl ?_
  refine SOp.mk _ _ (SCall.pure (cone_ok) (And.intro rfl rfl)) rfl ?_
  repeat refine SOp.mk _ _ (And.intro rfl rfl) rfl ?_
  refine SOp.mk _ _ (SKeys.tab (fun _ _ => rfl) <| SGet.tab hk hi (And.intro rfl rfl)) rfl ?_
  repeat refine SOp.mk _ _ (And.intro rfl rfl) rfl ?_
  refine SOp.mk _ _ (SCall.pure (cover_ok _ _ (H.dx hk hi) bz_one (h.dab hk hi) (by omega)) (And.intro rfl rfl)) rfl ?_
  repeat refine SOp.mk _ _ (And.intro rfl rfl) rfl ?_
  refine SFin.mk (by kernel_rfl) ?_
  refine SLoop.mk (Nat × Rat) (fun (m, q) => ([(1, .p (.int .i64 i)), (2, .p (.int .i64 k)), (3, .bptr 0 0), (6, .bptr 1 0), (7, .bptr 2 0), (18, .p (.int .i64 g.n)), (19, .p (.int .i64 m))], [.box 119 (sidesA g.n g.A g.B false false), .box 37 zratA, .box 37 (bxQ q)]))
    (fun (m, q) => m ≤ g.n ∧ q = cuF g.A g.B i k m) (fun x => g.n - x.1) (0, _) [0, 1, 2] ⟨Nat.zero_le _, rfl⟩ ⟨rfl, by simp, rfl, rfl, rfl, ⟨rfl, rfl, rfl, rfl, rfl, rfl, rfl, trivial⟩, ⟨rfl, rfl, rfl, trivial⟩⟩ ?_
  intro ⟨m, q⟩ ⟨hm, hq⟩
  by_cases hmn : m < g.n
  · refine SCmp.yes (decide_eq_true (by omega)) ?_
    have zq : Bz q (300 + m * 850) := by rw [hq]; exact cuF_bz h hi hk m hm
    have z1 := (h.dab hk hmn).mul (h.dab hmn hi)
    have z2 := zq.mul z1
    refine SDraw.mkX (by kernel_rfl) ?_
    repeat refine SOp.mk _ _ (And.intro rfl rfl) rfl ?_
    refine SOp.mk _ _ (SKeys.tab (fun _ _ => rfl) <| SGet.tab hk hmn (And.intro rfl rfl)) rfl ?_
    repeat refine SOp.mk _ _ (And.intro rfl rfl) rfl ?_
    refine SOp.mk _ _ (SKeys.tab (fun _ _ => rfl) <| SGet.tab hmn hi (And.intro rfl rfl)) rfl ?_
    repeat refine SOp.mk _ _ (And.intro rfl rfl) rfl ?_
    refine SOp.mk _ _ (SCall.pure (ratmul_ok _ _ (h.dab hk hmn).sz (h.dab hmn hi).sz (by omega)) (And.intro rfl rfl)) rfl ?_
    refine SOp.mk _ _ (SCall.pure (ratmul_ok _ _ zq.sz z1.sz (by omega)) (And.intro rfl rfl)) rfl ?_
    repeat refine SOp.mk _ _ (And.intro rfl rfl) rfl ?_
    refine SFin.mk (by kernel_rfl) ?_
    by_cases e2 : m = k
    · refine SCmp.no (neF (by omega)) ?_
      by_cases e1 : m = i
      · refine SCmp.no (neF (by omega)) ?_
        refine SWrap.i64z ((m + 1 : Nat) : Int) (by omega) (by omega) ?_
        exact ⟨(m + 1, _), [0, 1, 2], ⟨hmn, by rw [hq]; simp only [cuF]; rw [if_pos e1, if_pos e2]⟩, by show g.n - (m + 1) < g.n - m; omega, ⟨rfl, by simp, rfl, rfl, rfl, ⟨rfl, rfl, rfl, rfl, rfl, rfl, rfl, trivial⟩, ⟨rfl, rfl, rfl, trivial⟩⟩⟩
      · refine SCmp.yes (neT (by omega)) ?_
        refine SDraw.mkX (by kernel_rfl) ?_
        repeat refine SOp.mk _ _ (And.intro rfl rfl) rfl ?_
        refine SOp.mk _ _ (SKeys.tab (fun _ _ => rfl) <| SGet.tab hmn hi (And.intro rfl rfl)) rfl ?_
        repeat refine SOp.mk _ _ (And.intro rfl rfl) rfl ?_
        refine SOp.mk _ _ (SCall.pure (cover_ok _ _ (H.db hmn hi e1) z2 (h.dbb hmn hi) (by omega)) (And.intro rfl rfl)) rfl ?_
        repeat refine SOp.mk _ _ (And.intro rfl rfl) rfl ?_
        refine SFin.mk (by kernel_rfl) ?_
        refine SWrap.i64z ((m + 1 : Nat) : Int) (by omega) (by omega) ?_
        exact ⟨(m + 1, _), [0, 1, 2], ⟨hmn, by rw [hq]; simp only [cuF]; rw [if_neg e1, if_pos e2]⟩, by show g.n - (m + 1) < g.n - m; omega, ⟨rfl, by simp, rfl, rfl, rfl, ⟨rfl, rfl, rfl, rfl, rfl, rfl, rfl, trivial⟩, ⟨rfl, rfl, rfl, trivial⟩⟩⟩
    · refine SCmp.yes (neT (by omega)) ?_
      refine SDraw.mkX (by kernel_rfl) ?_
      repeat refine SOp.mk _ _ (And.intro rfl rfl) rfl ?_
      refine SOp.mk _ _ (SKeys.tab (fun _ _ => rfl) <| SGet.tab hk hmn (And.intro rfl rfl)) rfl ?_
      repeat refine SOp.mk _ _ (And.intro rfl rfl) rfl ?_
      refine SOp.mk _ _ (SCall.pure (cover_ok _ _ (H.da hk hmn (Ne.symm e2)) z2 (h.daa hk hmn) (by omega)) (And.intro rfl rfl)) rfl ?_
      repeat refine SOp.mk _ _ (And.intro rfl rfl) rfl ?_
      refine SFin.mk (by kernel_rfl) ?_
      by_cases e1 : m = i
      · refine SCmp.no (neF (by omega)) ?_
        refine SWrap.i64z ((m + 1 : Nat) : Int) (by omega) (by omega) ?_
        exact ⟨(m + 1, _), [0, 1, 2], ⟨hmn, by rw [hq]; simp only [cuF]; rw [if_pos e1, if_neg e2]⟩, by show g.n - (m + 1) < g.n - m; omega, ⟨rfl, by simp, rfl, rfl, rfl, ⟨rfl, rfl, rfl, rfl, rfl, rfl, rfl, trivial⟩, ⟨rfl, rfl, rfl, trivial⟩⟩⟩
      · refine SCmp.yes (neT (by omega)) ?_
        have z3 := z2.div (h.daa hk hmn)
        refine SDraw.mkX (by kernel_rfl) ?_
        repeat refine SOp.mk _ _ (And.intro rfl rfl) rfl ?_
        refine SOp.mk _ _ (SKeys.tab (fun _ _ => rfl) <| SGet.tab hmn hi (And.intro rfl rfl)) rfl ?_
        repeat refine SOp.mk _ _ (And.intro rfl rfl) rfl ?_
        refine SOp.mk _ _ (SCall.pure (cover_ok _ _ (H.db hmn hi e1) z3 (h.dbb hmn hi) (by omega)) (And.intro rfl rfl)) rfl ?_
        repeat refine SOp.mk _ _ (And.intro rfl rfl) rfl ?_
        refine SFin.mk (by kernel_rfl) ?_
        refine SWrap.i64z ((m + 1 : Nat) : Int) (by omega) (by omega) ?_
        exact ⟨(m + 1, _), [0, 1, 2], ⟨hmn, by rw [hq]; simp only [cuF]; rw [if_neg e1, if_neg e2]⟩, by show g.n - (m + 1) < g.n - m; omega, ⟨rfl, by simp, rfl, rfl, rfl, ⟨rfl, rfl, rfl, rfl, rfl, rfl, rfl, trivial⟩, ⟨rfl, rfl, rfl, trivial⟩⟩⟩
  · refine SCmp.no (decide_eq_false (by omega)) ?_
    obtain rfl : m = g.n := by omega
    rw [← hq]
    exact SRet.pure (.p _ (pers_rat _ _ _))
/-- What is asked of an answer of so many rows of so many cells, or none. -/
theorem cinvOne_ok (m : Nat → Bool) (g : GV) {b c : Nat} (h : CauG g b c) (ht : ¬ (Inj g.A g.n ∧ Inj g.B g.n)) : CallP Try.prog 46 [genP m g] (.tup [.p (.sl false 1 []), .p (.int .i64 9)]) [] := by
  have hb := begun_ok m g h
  refine callG_of_vc (wr := wr0) Γok mixed Try.func46 (by kernel_rfl) rfl (by kernel_rfl) (le_of_ble rfl) (by simp) ?_
  by_cases hA : Inj g.A g.n
  · rw [show sidesP g = .agg (sidesL g.n g.A g.B false true) by rw [sidesP, notInj_ff hA, notInj_tt fun hB => ht ⟨hA, hB⟩]] at hb
    refine SCall.pureT (hb) (fun _ => rfl) ?_
    refine SCmp.yes (rfl) ?_
    refine SCond.mk (fun h => by cases h) (fun _ => ?_)
    refine SCond.mk (fun _ => ?_) (fun h => by cases h)
    refine SCmp.yes (rfl) ?_
    exact SRet.pure (.tup rfl fun i c d e1 e2 => by
      match i, e1, e2 with
      | 0, e1, e2 => cases e1; cases e2; exact .emp 1
      | 1, e1, e2 => cases e1; cases e2; exact .p _ (.int _ _))
  · rw [show sidesP g = .agg (sidesL g.n g.A g.B true (notInj g.B g.n)) by rw [sidesP, notInj_tt hA]] at hb
    refine SCall.pureT (hb) (fun _ => rfl) ?_
    refine SCmp.yes (rfl) ?_
    refine SCond.mk (fun _ => ?_) (fun h => by cases h)
    refine SCmp.yes (rfl) ?_
    exact SRet.pure (.tup rfl fun i c d e1 e2 => by
      match i, e1, e2 with
      | 0, e1, e2 => cases e1; cases e2; exact .emp 1
      | 1, e1, e2 => cases e1; cases e2; exact .p _ (.int _ _))
end Go.Proofs.Ytkaooejeljdbnaa

namespace Go.Proofs.Ytkaooejeljdbnaa
open Go
set_option linter.unusedVariables false
set_option linter.unusedSimpArgs false
set_option maxRecDepth 10000
/-- Rows that are full, one that is being filled, and empty ones. -/
abbrev halr (p c n k q l : Nat) : List AV := fl n fun i => if i < k then .vec (.r p i) 3 0 c else if i = k then .vec (.t q) 3 0 l else .emp
theorem halr_set0 {p c n k q l : Nat} : (half p c n k).set k (.vec (.t q) 3 0 l) = halr p c n k q l := by
  rw [fl_set]
  refine fl_congr fun i _ => ?_
  unfold upd
  by_cases e : i = k
  · rw [if_pos e, if_neg (by omega), if_pos e]
  · rw [if_neg e]
    show (if i < k then AV.vec (.r p i) 3 0 c else .emp) = _
    by_cases e2 : i < k
    · rw [if_pos e2, if_pos e2]
    · rw [if_neg e2, if_neg e2, if_neg e]
theorem halr_set {p c n k q l q' l' : Nat} : (halr p c n k q l).set k (.vec (.t q') 3 0 l') = halr p c n k q' l' := by
  rw [fl_set]
  refine fl_congr fun i _ => ?_
  unfold upd
  by_cases e : i = k
  · rw [if_pos e, if_neg (by omega), if_pos e]
  · rw [if_neg e]
    show (if i < k then AV.vec (.r p i) 3 0 c else if i = k then _ else .emp) = _
    by_cases e2 : i < k
    · rw [if_pos e2, if_pos e2]
    · rw [if_neg e2, if_neg e2, if_neg e, if_neg e]
theorem halr_get {p c n k q l : Nat} (h : k < n) : (halr p c n k q l)[k]? = some (.vec (.t q) 3 0 l) := by
  rw [fl_get h, if_neg (Nat.lt_irrefl k), if_pos rfl]
theorem half_get {p c n k : Nat} (h : k < n) : (half p c n k)[k]? = some .emp := by
  rw [fl_get h, if_neg (Nat.lt_irrefl k)]
theorem half_ren {hs : List Nat} {P : Hp} {p c n k : Nat} (p' : Nat) (hp : hs.getD p 0 = p') (hp' : p' < 1000) : AV.renL (renW hs P) (half p c n k) = half p' c n k := by
  rw [renL_fl]
  refine fl_congr fun i hi => ?_
  have eb : Nat.blt p' 1000 = true := blt_iff.2 hp'
  by_cases e : i < k
  · rw [if_pos e, if_pos e]; simp only [AV.ren, renW, hp, eb, cond_true]
  · rw [if_neg e, if_neg e]; simp only [AV.ren]
theorem halr_ren {hs : List Nat} {P : Hp} {p c n k q l : Nat} (p' q' : Nat) (hp : hs.getD p 0 = p') (hp' : p' < 1000) (hq : hs.getD q 0 = q') (hq' : q' < 1000) : AV.renL (renW hs P) (halr p c n k q l) = halr p' c n k q' l := by
  rw [renL_fl]
  refine fl_congr fun i hi => ?_
  have eb : Nat.blt p' 1000 = true := blt_iff.2 hp'
  have ec : Nat.blt q' 1000 = true := blt_iff.2 hq'
  by_cases e : i < k
  · rw [if_pos e, if_pos e]; simp only [AV.ren, renW, hp, eb, cond_true]
  · rw [if_neg e, if_neg e]
    by_cases e2 : i = k
    · rw [if_pos e2, if_pos e2]; simp only [AV.ren, renW, hq, ec, cond_true]; rw [show ptop q' = q' from Nat.mod_eq_of_lt hq']
    · rw [if_neg e2, if_neg e2]; simp only [AV.ren]
theorem halr_in {P : Hp} {p c n k q l : Nat} (h : ∀ i, i < k → i < plenAt P p) (hq : look P (.t q) ≠ .free) : ∀ x ∈ halr p c n k q l, ∀ h, x.men h → look P h ≠ .free := by
  intro x hx g hg
  obtain ⟨i, hi, rfl⟩ := fl_mem hx
  by_cases e : i < k
  · rw [if_pos e] at hg
    simp only [AV.men] at hg
    subst hg
    exact look_row (h i e)
  · rw [if_neg e] at hg
    by_cases e2 : i = k
    · rw [if_pos e2] at hg
      simp only [AV.men] at hg
      subst hg; exact hq
    · rw [if_neg e2] at hg; exact hg.elim
abbrev cuM (g : GV) : Nat → Nat → Rat := fun i k => cuF g.A g.B i k g.n
theorem cinv_ok (m : Nat → Bool) (g : GV) {b c : Nat} (h : CauG g b c) (ha : Inj g.A g.n) (hb : Inj g.B g.n) : CallP Try.prog 46 [genP m g] (.tup [.p (matP false false g.n g.n (cuM g)), .p (.int .i64 0)]) [] := by
  have h6 := h.n6
  have n1 := h.n1
  have hbg := begun_ok m g h
  rw [show sidesP g = .agg (sidesL g.n g.A g.B false false) by rw [sidesP, notInj_ff ha, notInj_ff hb]] at hbg
  refine callG_of_vc (wr := wr0) Γok mixed Try.func46 (by kernel_rfl) rfl (by kernel_rfl) (le_of_ble rfl) (by simp) ?_
  refine SCall.pureT (hbg) (fun _ => rfl) ?_
  refine SCmp.yes (rfl) ?_
  refine SCond.mk (fun h => by cases h) (fun _ => ?_)
  refine SCond.mk (fun h => by cases h) (fun _ => ?_)
  refine SCmp.no (rfl) ?_
  refine SZ.mk (g.n : Int) rfl ?_
  refine SLt.mk (by simp) ?_
  refine SMake.mk g.n rfl (by simp; omega) (by omega) ?_
  refine SMk.rows ?_
  refine SZ.mk (g.n : Int) rfl ?_
  refine SLoop.mkT Nat (fun i => ([(4, .bptr 0 0), (6, .vec 1 1 0 g.n), (31, .p (.int .i64 g.n)), (32, .p (.int .i64 i))], [.box 119 (sidesA g.n g.A g.B false false), .rows 25 (half 2 g.n g.n i), .pool 37 3 (plr i g.n (cuM g))]))
    (fun i => i ≤ g.n) (fun i => g.n - i) 0 [1, 2, 3] _ _ (.pool 37 3 (.done _ _)) (Nat.zero_le _) ⟨rfl, by simp, rfl, rfl, rfl, ⟨rfl, rfl, rfl, rfl, trivial⟩, ⟨rfl, congrArg _ half_ren0, rfl, half_in fun i hi => absurd hi (Nat.not_lt_zero _), trivial⟩⟩ ?_
  intro i hi
  have hi : i ≤ g.n := hi
  by_cases hin : i < g.n
  · refine SCmp.yes (decide_eq_true (by omega)) ?_
    refine SLoop.mk Nat (fun k => match k with
      | 0 => ([(4, .bptr 0 0), (6, .vec 1 1 0 g.n), (7, .p (.int .i64 i)), (31, .p (.int .i64 g.n)), (32, .p (.int .i64 i)), (36, .p (.int .i64 g.n)), (37, .p (.int .i64 (0 : Nat)))], [.box 119 (sidesA g.n g.A g.B false false), .rows 25 (half 2 g.n g.n i), .pool 37 3 (plr i g.n (cuM g))])
      | k + 1 => ([(4, .bptr 0 0), (6, .vec 1 1 0 g.n), (7, .p (.int .i64 i)), (31, .p (.int .i64 g.n)), (32, .p (.int .i64 i)), (36, .p (.int .i64 g.n)), (37, .p (.int .i64 ((k + 1 : Nat) : Int)))], [.box 119 (sidesA g.n g.A g.B false false), .rows 25 (halr 2 g.n g.n i 3 (k + 1)), .pool 37 3 (plr i g.n (cuM g)), .vec 37 3 (rats (lst (k + 1) (cuM g i)))]))
      (fun k => k ≤ g.n) (fun k => g.n - k) 0 [0, 1, 2] (Nat.zero_le _) ⟨rfl, by simp, rfl, rfl, rfl, ⟨rfl, rfl, rfl, rfl, rfl, rfl, rfl, trivial⟩, ⟨rfl, congrArg _ (half_ren 2 rfl (by decide)), rfl, half_in fun i hi => by simpa [plenAt] using hi, trivial⟩⟩ ?_
    intro k hk
    have hk : k ≤ g.n := hk
    cases k with
    | zero =>
      have hkn : 0 < g.n := n1
      refine SCmp.yes (decide_eq_true (by omega)) ?_
      refine SDraw.mkX (by kernel_rfl) ?_
      repeat refine SOp.mk _ _ (And.intro rfl rfl) rfl ?_
      refine SOp.mk _ _ (SPos.mk i rfl hin (And.intro rfl rfl)) rfl ?_
      refine SOp.mk _ _ (SIdxA.mk i _ rfl (half_get hin) (And.intro rfl rfl)) rfl ?_
      repeat refine SOp.mk _ _ (And.intro rfl rfl) rfl ?_
      refine SOp.mk _ _ (SCall.pure (undone_ok g h ha hb i 0 hin hkn) (And.intro rfl rfl)) rfl ?_
      repeat refine SOp.mk _ _ (And.intro rfl rfl) rfl ?_
      refine SOp.mk _ _ (SView.all rfl <| SRoom.mk (by simp) (by simp) (And.intro rfl rfl)) rfl ?_
      refine SOp.mk _ _ (SPos.mk i rfl hin (And.intro rfl rfl)) rfl ?_
      refine SOp.mk _ _ (SLt.mk (by simp; omega) <| SAs.mk (halr 2 g.n g.n i 4 1) halr_set0 (And.intro rfl rfl)) rfl ?_
      repeat refine SOp.mk _ _ (And.intro rfl rfl) rfl ?_
      refine SFin.mk (by kernel_rfl) ?_
      refine SWrap.i64z ((0 + 1 : Nat) : Int) (by omega) (by omega) ?_
      exact ⟨0 + 1, [0, 1, 2, 4], hkn, by show g.n - (0 + 1) < g.n - 0; omega, ⟨rfl, by simp, rfl, rfl, rfl, ⟨rfl, rfl, rfl, rfl, rfl, rfl, rfl, trivial⟩, ⟨rfl, congrArg _ (halr_ren 2 4 rfl (by decide) rfl (by decide)), rfl, rfl, halr_in (fun i hi => by simpa [plenAt] using hi) (fun e => by cases e), trivial⟩⟩⟩
    | succ k =>
      by_cases hkn : k + 1 < g.n
      · refine SCmp.yes (decide_eq_true (by omega)) ?_
        refine SDraw.mkX (by kernel_rfl) ?_
        repeat refine SOp.mk _ _ (And.intro rfl rfl) rfl ?_
        refine SOp.mk _ _ (SPos.mk i rfl hin (And.intro rfl rfl)) rfl ?_
        refine SOp.mk _ _ (SIdxA.mk i _ rfl (halr_get hin) (And.intro rfl rfl)) rfl ?_
        repeat refine SOp.mk _ _ (And.intro rfl rfl) rfl ?_
        refine SOp.mk _ _ (SCall.pure (undone_ok g h ha hb i (k + 1) hin hkn) (And.intro rfl rfl)) rfl ?_
        repeat refine SOp.mk _ _ (And.intro rfl rfl) rfl ?_
        refine SOp.mk _ _ (SEqN.mk (by simp [lst]) <| SView.all rfl <| SRoom.mk (by simp [lst]; omega) (by simp [lst]; omega) <| SEs.mk (rats (lst (k + 1 + 1) (cuM g i))) (app_lst _ _ _ (rfl)) <| SZN.mk (k + 1 + 1) (by simp [lst]) (And.intro rfl rfl)) rfl ?_
        refine SOp.mk _ _ (SPos.mk i rfl hin (And.intro rfl rfl)) rfl ?_
        refine SOp.mk _ _ (SLt.mk (by simp; omega) <| SAs.mk (halr 2 g.n g.n i 5 (k + 1 + 1)) halr_set (And.intro rfl rfl)) rfl ?_
        repeat refine SOp.mk _ _ (And.intro rfl rfl) rfl ?_
        refine SFin.mk (by kernel_rfl) ?_
        refine SWrap.i64z ((k + 1 + 1 : Nat) : Int) (by omega) (by omega) ?_
        exact ⟨k + 1 + 1, [0, 1, 2, 5], hkn, by show g.n - (k + 1 + 1) < g.n - (k + 1); omega, ⟨rfl, by simp, rfl, rfl, rfl, ⟨rfl, rfl, rfl, rfl, rfl, rfl, rfl, trivial⟩, ⟨rfl, congrArg _ (halr_ren 2 5 rfl (by decide) rfl (by decide)), rfl, rfl, halr_in (fun i hi => by simpa [plenAt] using hi) (fun e => by cases e), trivial⟩⟩⟩
      · refine SCmp.no (decide_eq_false (by omega)) ?_
        have hkn : k + 1 = g.n := by omega
        have e1 : halr 2 g.n g.n i 3 (k + 1) = halq 2 g.n g.n i 3 := by rw [hkn]
        have e2 : rats (lst (k + 1) (cuM g i)) = rats (lst g.n (cuM g i)) := by rw [hkn]
        refine SWrap.i64z ((i + 1 : Nat) : Int) (by omega) (by omega) ?_
        exact ⟨i + 1, [0, 1, 4002], hin, by show g.n - (i + 1) < g.n - i; omega, ⟨rfl, by simp, rfl, rfl, rfl, ⟨rfl, rfl, rfl, rfl, trivial⟩, ⟨rfl, congrArg _ ((half_absorb rfl (by decide) (by simp [plenAt])).trans e1.symm), ⟨_, _, _, _, rfl, rfl, congrArg _ (plr_snoc.trans (congrArg (fun r => plr i g.n (cuM g) ++ [some r]) e2.symm))⟩, half_in fun i hi => by simpa [plenAt] using hi, trivial⟩⟩⟩
  · refine SCmp.no (decide_eq_false (by omega)) ?_
    obtain rfl : i = g.n := by omega
    exact SRet.pure (.tup rfl fun i c d e1 e2 => by
      match i, e1, e2 with
      | 0, e1, e2 => cases e1; cases e2; exact frzM (H := [_, _, _]) (h := 1) (p := 2) (congrArg (Blk.rows _) half_full) rfl fun i hi => hi
      | 1, e1, e2 => cases e1; cases e2; exact .p _ (.int _ _))
end Go.Proofs.Ytkaooejeljdbnaa

namespace Go.Proofs.Ytkaooejeljdbnaa
open Go
set_option linter.unusedVariables false
set_option linter.unusedSimpArgs false
set_option maxRecDepth 10000
theorem cuM_bz {g : GV} {b c : Nat} (h : CauG g b c) {i k : Nat} (hi : i < g.n) (hk : k < g.n) : Bz (cuM g i k) 5400 := (cuF_bz h hi hk g.n (Nat.le_refl _)).mono (by have := h.n6; omega)
end Go.Proofs.Ytkaooejeljdbnaa

namespace Go.Proofs.Ytkaooejeljdbnaa
open Go
set_option linter.unusedVariables false
set_option linter.unusedSimpArgs false
set_option maxRecDepth 10000
def apl (w : Nat) (A : Nat → Nat → Rat) (y : Nat → Rat) (i : Nat) : Rat := sm w fun k => A i k * y k
theorem apl_bz {w : Nat} {A : Nat → Nat → Rat} {y : Nat → Rat} {a b i : Nat} (hA : ∀ k, k < w → Bz (A i k) a) (hy : ∀ k, k < w → Bz (y k) b) : ∀ k, k ≤ w → Bz (sm k fun k => A i k * y k) (k * (a + b + 1) + 1) := by
  intro k
  induction k with
  | zero => exact fun _ => bz_zero.mono (by omega)
  | succ k ih =>
    intro hk
    exact ((ih (by omega)).add ((hA k (by omega)).mul (hy k (by omega)))).mono (by rw [Nat.succ_mul]; omega)
theorem rapplyM_ok (m m' m'' : Bool) (n w : Nat) (A : Nat → Nat → Rat) (y : Nat → Rat) {a b : Nat} (hA : ∀ i k, i < n → k < w → Bz (A i k) a) (hy : ∀ k, k < w → Bz (y k) b) (hn : n ≤ 1000) (hw : w ≤ 1000) (hb : w * (a + b + 1) + 1 + (a + b) + 1 ≤ 1048576) :
    CallP Try.prog 54 [matP m m' n w A, ratsM m'' (lst w y)] (.p (ratsM false (lst n (apl w A y)))) [] := by
  refine callG_of_vc (wr := wr0) Γok mixed Try.func54 (by kernel_rfl) rfl (by kernel_rfl) (le_of_ble rfl) (by simp) ?_
  refine SLoop.mkT Nat (fun i => ([(0, .p (matP m m' n w A)), (1, .p (ratsM m'' (lst w y))), (5, .vec 0 3 0 i), (6, .p (.int .i64 i))], [.vec 37 3 (rats (lst i (apl w A y)))]))
    (fun i => i ≤ n) (fun i => n - i) 0 [0] _ _ (.step 5 37 3 rfl (.done _ _)) (Nat.zero_le _) ⟨rfl, by simp, rfl, rfl, rfl, ⟨rfl, rfl, rfl, rfl, trivial⟩, ⟨rfl, trivial⟩⟩ ?_
  intro i hi
  have hi : i ≤ n := hi
  refine SZ.mk (n : Int) (by simp) ?_
  by_cases hin : i < n
  · refine SCmp.yes (decide_eq_true (by omega)) ?_
    refine SCall.pure (rzero_ok) ?_
    refine SLoop.mk (Nat × Rat) (fun (k, s) => ([(0, .p (matP m m' n w A)), (1, .p (ratsM m'' (lst w y))), (5, .vec 0 3 0 i), (6, .p (.int .i64 i)), (7, .bptr 1 0), (8, .p (.int .i64 k))], [.vec 37 3 (rats (lst i (apl w A y))), .box 37 (bxQ s)]))
      (fun (k, s) => k ≤ w ∧ s = sm k fun k => A i k * y k) (fun x => w - x.1) (0, 0) [0, 1] ⟨Nat.zero_le _, rfl⟩ ⟨rfl, by simp, rfl, rfl, rfl, ⟨rfl, rfl, rfl, rfl, rfl, rfl, trivial⟩, ⟨rfl, rfl, trivial⟩⟩ ?_
    intro ⟨k, s⟩ ⟨hk, hs⟩
    have zs : Bz s (k * (a + b + 1) + 1) := by rw [hs]; exact apl_bz (fun k hk => hA i k hin hk) hy k hk
    have hkw : k * (a + b + 1) ≤ w * (a + b + 1) := Nat.mul_le_mul_right _ hk
    refine SZ.mk (w : Int) (by simp [lst]) ?_
    by_cases hkn : k < w
    · refine SCmp.yes (decide_eq_true (by omega)) ?_
      have z1 := (hA i k hin hkn).mul (hy k hkn)
      refine SDraw.mkX (by kernel_rfl) ?_
      repeat refine SOp.mk _ _ (And.intro rfl rfl) rfl ?_
      refine SOp.mk _ _ (SIdx.mf i rfl hin (And.intro rfl rfl)) rfl ?_
      repeat refine SOp.mk _ _ (And.intro rfl rfl) rfl ?_
      refine SOp.mk _ _ (SIdx.rf k rfl hkn (And.intro rfl rfl)) rfl ?_
      repeat refine SOp.mk _ _ (And.intro rfl rfl) rfl ?_
      refine SOp.mk _ _ (SIdx.rf k rfl hkn (And.intro rfl rfl)) rfl ?_
      repeat refine SOp.mk _ _ (And.intro rfl rfl) rfl ?_
      refine SOp.mk _ _ (SCall.pure (rmulq_ok _ _ (hA i k hin hkn) (hy k hkn) (by omega)) (And.intro rfl rfl)) rfl ?_
      refine SOp.mk _ _ (SCall.pure (raddq_ok _ _ zs z1 (by omega)) (And.intro rfl rfl)) rfl ?_
      repeat refine SOp.mk _ _ (And.intro rfl rfl) rfl ?_
      refine SFin.mk (by kernel_rfl) ?_
      refine SWrap.i64z ((k + 1 : Nat) : Int) (by omega) (by omega) ?_
      exact ⟨(k + 1, _), [0, 1], ⟨hkn, by rw [hs]; rfl⟩, by show w - (k + 1) < w - k; omega, ⟨rfl, by simp, rfl, rfl, rfl, ⟨rfl, rfl, rfl, rfl, rfl, rfl, trivial⟩, ⟨rfl, rfl, trivial⟩⟩⟩
    · refine SCmp.no (decide_eq_false (by omega)) ?_
      obtain rfl : k = w := by omega
      refine SEqN.mk (by simp [lst]) <| SView.all rfl <| SRoom.mk (by simp [lst]; omega) (by simp [lst]; omega) <| SEs.mk (rats (lst (i + 1) (apl k A y))) (app_lst _ _ _ (hs)) <| SZN.mk (i + 1) (by simp [lst]) ?_
      refine SWrap.i64z ((i + 1 : Nat) : Int) (by omega) (by omega) ?_
      exact ⟨i + 1, [3], hin, by show n - (i + 1) < n - i; omega, ⟨rfl, by simp, rfl, rfl, rfl, ⟨rfl, rfl, rfl, rfl, trivial⟩, ⟨rfl, trivial⟩⟩⟩
  · refine SCmp.no (decide_eq_false (by omega)) ?_
    obtain rfl : i = n := by omega
    exact SRet.pure (frzR (h := 0) (l := lst i (apl w A y)) rfl (by simp [lst]))
/-- A product's entries, as the document comes to them. -/
def mulM (n : Nat) (A B : Nat → Nat → Rat) (i j : Nat) : Rat := sm n fun k => B k j * A i k
theorem rmul7_ok (m m' q q' : Bool) (n : Nat) (A B : Nat → Nat → Rat) {a b : Nat} (hA : ∀ i k, i < n → k < n → Bz (A i k) a) (hB : ∀ i k, i < n → k < n → Bz (B i k) b) (hn : n ≤ 1000) (hb : n * (b + a + 1) + 1 + (b + a) + 1 ≤ 1048576) :
    CallP Try.prog 50 [matP m m' n n A, matP q q' n n B] (.p (matP false false n n (mulM n A B))) [] := by
  refine callG_of_vc (wr := wr0) Γok mixed Try.func50 (by kernel_rfl) rfl (by kernel_rfl) (le_of_ble rfl) (by simp) ?_
  refine SCall.pure (rturn_ok q q' n B hB (by omega) hn) ?_
  refine SLoop.mkT Nat (fun i => ([(0, .p (matP m m' n n A)), (5, .p (matP false false n n fun i k => B k i)), (6, .vec 0 1 0 i), (7, .p (.int .i64 i))], [.vec 25 1 (fl i fun i => ratsM false (lst n (mulM n A B i)))]))
    (fun i => i ≤ n) (fun i => n - i) 0 [0] _ _ (.step 6 25 1 rfl (.done _ _)) (Nat.zero_le _) ⟨rfl, by simp, rfl, rfl, rfl, ⟨rfl, rfl, rfl, rfl, trivial⟩, ⟨rfl, trivial⟩⟩ ?_
  intro i hi
  have hi : i ≤ n := hi
  refine SZ.mk (n : Int) (by simp) ?_
  by_cases hin : i < n
  · refine SCmp.yes (decide_eq_true (by omega)) ?_
    refine SIdx.mf i rfl hin ?_
    refine SCall.pure (rapplyM_ok false false m' n n (fun i k => B k i) (A i) (fun i k hi hk => hB k i hk hi) (fun k hk => hA i k hin hk) hn hn hb) ?_
    refine SEqN.mk (by simp) ?_
    refine SView.all rfl ?_
    refine SRoom.mk (by simp; omega) (by simp; omega) ?_
    refine SEs.mk (fl (i + 1) fun i => ratsM false (lst n (mulM n A B i))) (fl_snoc (f := fun i => ratsM false (lst n (mulM n A B i)))).symm ?_
    refine SZN.mk (i + 1) (by simp) ?_
    refine SWrap.i64z ((i + 1 : Nat) : Int) (by omega) (by omega) ?_
    exact ⟨i + 1, [2], hin, by show n - (i + 1) < n - i; omega, ⟨rfl, by simp, rfl, rfl, rfl, ⟨rfl, rfl, rfl, rfl, trivial⟩, ⟨rfl, trivial⟩⟩⟩
  · refine SCmp.no (decide_eq_false (by omega)) ?_
    obtain rfl : i = n := by omega
    exact SRet.pure (.frz (h := 0) (es := fl i fun i' => ratsM false (lst i (mulM i A B i'))) rfl (by simp) (by simp) pers_fl (by rw [List.drop_zero]; exact List.take_of_length_le (by simp)))
end Go.Proofs.Ytkaooejeljdbnaa

namespace Go.Proofs.Ytkaooejeljdbnaa
open Go
set_option linter.unusedVariables false
set_option linter.unusedSimpArgs false
set_option maxRecDepth 10000
theorem rdet_ok (m m' : Bool) (n : Nat) (A : Nat → Nat → Rat) {R : Nat → Nat} (hRB : RB R n n A) (hn : n ≤ 900) :
    CallP Try.prog 48 [matP m m' n n A] (.p (ratP (elim n A n).det)) [] := by
  refine callG_of_vc (wr := wr0) Γok mixed Try.func48 (by kernel_rfl) rfl (by kernel_rfl) (le_of_ble rfl) (by simp) ?_
  refine SZ.mk (n : Int) (by simp) ?_
  refine SCall.pureT (rtriangle_ok m m' n n A hRB (Nat.le_refl n) (by omega)) (fun _ => rfl) ?_
  exact SRet.pure (.p _ (pers_rat _ _ _))
end Go.Proofs.Ytkaooejeljdbnaa

namespace Go.Proofs.Ytkaooejeljdbnaa
open Go
set_option linter.unusedVariables false
set_option linter.unusedSimpArgs false
set_option maxRecDepth 10000
theorem rexpand5_ok (m : Nat → Bool) (g : GV) {b c : Nat} (h : Wf g b c) : CallP Try.prog 49 [genP m g] (.p (matP false false g.n g.n (ent g))) [] := by
  have h8 := h.n6
  refine callG_of_vc (wr := wr0) Γok mixed Try.func49 (by kernel_rfl) rfl (by kernel_rfl) (le_of_ble rfl) (by simp) ?_
  refine SLoop.mkT Nat (fun i => ([(1, .bptr 0 0), (3, .vec 1 1 0 i), (4, .p (.int .i64 i))], [.box 59 (genA m g), .rows 25 (plc 2 g.n i id), .pool 37 3 (plr i g.n (ent g))]))
    (fun i => i ≤ g.n) (fun i => g.n - i) 0 [0, 1, 2] _ _ (.rows 3 25 rfl (.pool 37 3 (.done _ _))) (Nat.zero_le _) ⟨rfl, by simp, rfl, rfl, rfl, ⟨rfl, rfl, rfl, trivial⟩, ⟨rfl, rfl, rfl, rows_in fun i hi => absurd hi (Nat.not_lt_zero _), trivial⟩⟩ ?_
  intro i hi
  have hi : i ≤ g.n := hi
  by_cases hin : i < g.n
  · refine SCmp.yes (decide_eq_true (by omega)) ?_
    refine SLoop.mkT Nat (fun j => ([(1, .bptr 0 0), (3, .vec 1 1 0 i), (4, .p (.int .i64 i)), (5, .vec 3 3 0 j), (6, .p (.int .i64 j))], [.box 59 (genA m g), .rows 25 (plc 2 g.n i id), .pool 37 3 (plr i g.n (ent g)), .vec 37 3 (rats (lst j (ent g i)))]))
      (fun j => j ≤ g.n) (fun j => g.n - j) 0 [0, 1, 2, 3] _ _ (.step 5 37 3 rfl (.done _ _)) (Nat.zero_le _) ⟨rfl, by simp, rfl, rfl, rfl, ⟨rfl, rfl, rfl, rfl, rfl, trivial⟩, ⟨rfl, congrArg _ (plc_ren 2 rfl (by decide)), rfl, rfl, rows_in fun i hi => by simpa [plenAt] using hi, trivial⟩⟩ ?_
    intro j hj
    have hj : j ≤ g.n := hj
    by_cases hjn : j < g.n
    · refine SCmp.yes (decide_eq_true (by omega)) ?_
      refine SCall.pure (rentry5_ok m g h i j hin hjn) ?_
      refine SEqN.mk (by simp [lst]) <| SView.all rfl <| SRoom.mk (by simp [lst]; omega) (by simp [lst]; omega) <| SEs.mk (rats (lst (j + 1) (ent g i))) (app_lst _ _ _ (rfl)) <| SZN.mk (j + 1) (by simp [lst]) ?_
      refine SWrap.i64z ((j + 1 : Nat) : Int) (by omega) (by omega) ?_
      exact ⟨j + 1, [0, 1, 2, 5], hjn, by show g.n - (j + 1) < g.n - j; omega, ⟨rfl, by simp, rfl, rfl, rfl, ⟨rfl, rfl, rfl, rfl, rfl, trivial⟩, ⟨rfl, congrArg _ (plc_ren 2 rfl (by decide)), rfl, rfl, rows_in fun i hi => by simpa [plenAt] using hi, trivial⟩⟩⟩
    · refine SCmp.no (decide_eq_false (by omega)) ?_
      obtain rfl : j = g.n := by omega
      refine SEqN.mk (by simp) ?_
      refine SRoom.mk (by simp; omega) (by simp; omega) ?_
      refine SAs.mk _ rfl ?_
      refine SZN.mk (i + 1) (by simp) ?_
      refine SWrap.i64z ((i + 1 : Nat) : Int) (by omega) (by omega) ?_
      exact ⟨i + 1, [0, 5, 4002], hin, by show g.n - (i + 1) < g.n - i; omega, ⟨rfl, by simp, rfl, rfl, rfl, ⟨rfl, rfl, rfl, trivial⟩, ⟨rfl, congrArg _ (plc_absorb rfl (by decide) (by simp [plenAt])), ⟨_, _, _, _, rfl, rfl, congrArg _ plr_snoc⟩, rows_in fun i hi => by simpa [plenAt] using hi, trivial⟩⟩⟩
  · refine SCmp.no (decide_eq_false (by omega)) ?_
    obtain rfl : i = g.n := by omega
    exact SRet.pure (frzM (H := [_, _, _]) (h := 1) (p := 2) rfl rfl fun i hi => hi)
end Go.Proofs.Ytkaooejeljdbnaa

namespace Go.Proofs.Ytkaooejeljdbnaa
open Go
set_option linter.unusedVariables false
set_option linter.unusedSimpArgs false
set_option maxRecDepth 10000
theorem ent5 {g : GV} (h : g.k = 5) (i k : Nat) : ent g i k = cauM g.A g.B i k := by
  unfold ent; rw [if_neg (by omega), if_neg (by omega), if_neg (by omega), if_neg (by omega), if_pos h]
theorem CauG.bEnt5 {g : GV} {b c : Nat} (h : CauG g b c) {i k : Nat} (hi : i < g.n) (hk : k < g.n) : Bz (ent g i k) 203 := by
  rw [ent5 h.k5]; exact (bz_one.div (h.dab hi hk)).mono (by omega)
theorem rb203 {g : GV} {b c : Nat} (h : CauG g b c) : RB (bb 203) g.n g.n (ent g) :=
  RB.std (fun i k hi hk => h.bEnt5 hi hk) (Nat.le_refl _) (by
    have := h.n6
    exact Nat.le_trans (dR_mono (j := 6) this) (by decide))
theorem CauG.det {g : GV} {b c : Nat} (h : CauG g b c) : (elim g.n (ent g) g.n).det = cDet g.A g.B g.n := by
  rw [(elim_congr (fun i k _ _ => ent5 h.k5 i k) g.n (Nat.le_refl _)).1, cau_det fun i k hi hk => h.nab hi hk]
theorem cauUndoes_ok (m : Bool) (n : Int) (ns : List Int) (hn : I64 n) (hns : I64s ns) : CallP Try.prog 8 [.int .i64 n, .sl m 1 (intsP ns)] (.p (.bool true)) [] := by
  have hm := lmake13_ok m n 5 ns false hn hns (by omega) (by omega)
  have H := cauG13 n 5 ns (by omega) (by omega)
  rw [if_neg (by decide)] at hm
  generalize g13 (mkG 5 (gmN n 5) (gmR 5 n) (rowG ns)) ns = g at hm H
  have h6 := H.n6
  have hE := rexpand5_ok noF g H.toWf
  refine callG_of_vc (wr := wr0) Γok mixed Try.func8 (by kernel_rfl) rfl (by kernel_rfl) (le_of_ble rfl) (by simp) ?_
  refine SCall.pure (known15_ok) ?_
  refine SCmp.no (rfl) ?_
  refine SCall.pure (hm) ?_
  by_cases ht : Inj g.A g.n ∧ Inj g.B g.n
  · have z1 : ∀ i k, i < g.n → k < g.n → Bz (ent g i k) 203 := fun i k hi hk => H.bEnt5 hi hk
    have z2 : ∀ i k, i < g.n → k < g.n → Bz (cuM g i k) 5400 := fun i k hi hk => cuM_bz H hi hk
    have HC := H.cauH ht.1 ht.2
    have q1 : ∀ i j, i < g.n → j < g.n → mulM g.n (ent g) (cuM g) i j = if i = j then 1 else 0 := fun i j hi hj => by
      rw [← cau_undo HC hi hj]
      exact sm_congr fun k hk => by rw [ent5 H.k5]; exact Rat.mul_comm _ _
    have q2 : ∀ i j, i < g.n → j < g.n → mulM g.n (cuM g) (ent g) i j = if i = j then 1 else 0 := fun i j hi hj => by
      rw [← cau_undo' HC hi hj]
      exact sm_congr fun k hk => by rw [ent5 H.k5]; exact Rat.mul_comm _ _
    have hM1 := rmul7_ok false false false false g.n (ent g) (cuM g) z1 z2 (by omega) (by omega)
    have hM2 := rmul7_ok false false false false g.n (cuM g) (ent g) z2 z1 (by omega) (by omega)
    rw [matP_congr q1] at hM1
    rw [matP_congr q2] at hM2
    refine SCall.pureT (cinv_ok noF g H ht.1 ht.2) (fun _ => rfl) ?_
    refine SCmp.no (rfl) ?_
    refine SCall.pure (hE) ?_
    refine SZ.mk (g.n : Int) (by simp) ?_
    refine SCmp.no (neF rfl) ?_
    refine SLoop.mk Nat (fun i => ([(5, .bptr 0 0), (6, .p (matP false false g.n g.n (cuM g))), (8, .p (matP false false g.n g.n (ent g))), (9, .p (.int .i64 i))], [.box 59 (genA noF g)]))
      (fun i => i ≤ g.n) (fun i => g.n - i) 0 [0] (Nat.zero_le _) ⟨rfl, by simp, rfl, rfl, rfl, ⟨rfl, rfl, rfl, rfl, trivial⟩, ⟨rfl, trivial⟩⟩ ?_
    intro i hi
    have hi : i ≤ g.n := hi
    by_cases hin : i < g.n
    · refine SCmp.yes (decide_eq_true (by omega)) ?_
      refine SDraw.mk (by kernel_rfl) ?_
      repeat refine SOp.mk _ _ (And.intro rfl rfl) rfl ?_
      refine SOp.mk _ _ (SIdx.mf i rfl hin (And.intro rfl rfl)) rfl ?_
      repeat refine SOp.mk _ _ (And.intro rfl rfl) rfl ?_
      refine SOp.mk _ _ (SZ.mk (g.n : Int) (by simp [lst]) (And.intro rfl rfl)) rfl ?_
      repeat refine SOp.mk _ _ (And.intro rfl rfl) rfl ?_
      refine SOp.mk _ _ (SCmp.no (neF rfl) (And.intro rfl rfl)) rfl ?_
      refine SWrap.i64z ((i + 1 : Nat) : Int) (by omega) (by omega) ?_
      exact ⟨i + 1, [0], hin, by show g.n - (i + 1) < g.n - i; omega, ⟨rfl, by simp, rfl, rfl, rfl, ⟨rfl, rfl, rfl, rfl, trivial⟩, ⟨rfl, trivial⟩⟩⟩
    · refine SCmp.no (decide_eq_false (by omega)) ?_
      obtain rfl : i = g.n := by omega
      refine SCall.pure (hM1) ?_
      refine SCall.pure (hM2) ?_
      have zd : ∀ i j : Nat, Bz (if i = j then (1 : Rat) else 0) 1 := fun i j => by split; exact bz_one; exact bz_zero
      refine SLoop.mk Nat (fun i => ([(5, .bptr 0 0), (10, .p (matP false false g.n g.n fun i j => if i = j then 1 else 0)), (11, .p (matP false false g.n g.n fun i j => if i = j then 1 else 0)), (12, .p (.int .i64 i))], [.box 59 (genA noF g)]))
        (fun i => i ≤ g.n) (fun i => g.n - i) 0 [0] (Nat.zero_le _) ⟨rfl, by simp, rfl, rfl, rfl, ⟨rfl, rfl, rfl, rfl, trivial⟩, ⟨rfl, trivial⟩⟩ ?_
      intro i hi
      have hi : i ≤ g.n := hi
      by_cases hin : i < g.n
      · refine SCmp.yes (decide_eq_true (by omega)) ?_
        refine SLoop.mk Nat (fun j => ([(5, .bptr 0 0), (10, .p (matP false false g.n g.n fun i j => if i = j then 1 else 0)), (11, .p (matP false false g.n g.n fun i j => if i = j then 1 else 0)), (12, .p (.int .i64 i)), (13, .p (.int .i64 j))], [.box 59 (genA noF g)]))
          (fun j => j ≤ g.n) (fun j => g.n - j) 0 [0] (Nat.zero_le _) ⟨rfl, by simp, rfl, rfl, rfl, ⟨rfl, rfl, rfl, rfl, rfl, trivial⟩, ⟨rfl, trivial⟩⟩ ?_
        intro j hj
        have hj : j ≤ g.n := hj
        by_cases hjn : j < g.n
        · refine SCmp.yes (decide_eq_true (by omega)) ?_
          have hs : ∀ q : Rat, q = (if i = j then 1 else 0) → CallP Try.prog 24 [ratP (if i = j then 1 else 0), ratP q] (.p (.bool true)) [] := fun q e => by
            have := rsame_ok (if i = j then 1 else 0) q (zd i j) (by rw [e]; exact zd i j) (by decide)
            rw [decide_eq_true e.symm] at this
            exact this
          refine SCall.pure (rzero_ok) ?_
          by_cases e : i = j
          · refine SCmp.yes (eqT (by omega)) ?_
            have hs := hs ((1 : Int) : Rat) (by rw [if_pos e]; rfl)
            refine SCall.pure (rint_ok 1 (by decide)) ?_
            refine SDraw.mk (by kernel_rfl) ?_
            repeat refine SOp.mk _ _ (And.intro rfl rfl) rfl ?_
            refine SOp.mk _ _ (SIdx.mf i rfl hin (And.intro rfl rfl)) rfl ?_
            repeat refine SOp.mk _ _ (And.intro rfl rfl) rfl ?_
            refine SOp.mk _ _ (SIdx.rf j rfl hjn (And.intro rfl rfl)) rfl ?_
            repeat refine SOp.mk _ _ (And.intro rfl rfl) rfl ?_
            refine SOp.mk _ _ (SCall.pure (hs) (And.intro rfl rfl)) rfl ?_
            refine SOp.mk _ _ (SCmp.no rfl (And.intro rfl rfl)) rfl ?_
            repeat refine SOp.mk _ _ (And.intro rfl rfl) rfl ?_
            refine SOp.mk _ _ (SIdx.mf i rfl hin (And.intro rfl rfl)) rfl ?_
            repeat refine SOp.mk _ _ (And.intro rfl rfl) rfl ?_
            refine SOp.mk _ _ (SIdx.rf j rfl hjn (And.intro rfl rfl)) rfl ?_
            repeat refine SOp.mk _ _ (And.intro rfl rfl) rfl ?_
            refine SOp.mk _ _ (SCall.pure (hs) (And.intro rfl rfl)) rfl ?_
            refine SOp.mk _ _ (SCmp.no rfl (And.intro rfl rfl)) rfl ?_
            repeat refine SOp.mk _ _ (And.intro rfl rfl) rfl ?_
            refine SWrap.i64z ((j + 1 : Nat) : Int) (by omega) (by omega) ?_
            exact ⟨j + 1, [0], hjn, by show g.n - (j + 1) < g.n - j; omega, ⟨rfl, by simp, rfl, rfl, rfl, ⟨rfl, rfl, rfl, rfl, rfl, trivial⟩, ⟨rfl, trivial⟩⟩⟩
          · refine SCmp.no (eqF (by omega)) ?_
            have hs := hs 0 (by rw [if_neg e])
            refine SDraw.mk (by kernel_rfl) ?_
            repeat refine SOp.mk _ _ (And.intro rfl rfl) rfl ?_
            refine SOp.mk _ _ (SIdx.mf i rfl hin (And.intro rfl rfl)) rfl ?_
            repeat refine SOp.mk _ _ (And.intro rfl rfl) rfl ?_
            refine SOp.mk _ _ (SIdx.rf j rfl hjn (And.intro rfl rfl)) rfl ?_
            repeat refine SOp.mk _ _ (And.intro rfl rfl) rfl ?_
            refine SOp.mk _ _ (SCall.pure (hs) (And.intro rfl rfl)) rfl ?_
            refine SOp.mk _ _ (SCmp.no rfl (And.intro rfl rfl)) rfl ?_
            repeat refine SOp.mk _ _ (And.intro rfl rfl) rfl ?_
            refine SOp.mk _ _ (SIdx.mf i rfl hin (And.intro rfl rfl)) rfl ?_
            repeat refine SOp.mk _ _ (And.intro rfl rfl) rfl ?_
            refine SOp.mk _ _ (SIdx.rf j rfl hjn (And.intro rfl rfl)) rfl ?_
            repeat refine SOp.mk _ _ (And.intro rfl rfl) rfl ?_
            refine SOp.mk _ _ (SCall.pure (hs) (And.intro rfl rfl)) rfl ?_
            refine SOp.mk _ _ (SCmp.no rfl (And.intro rfl rfl)) rfl ?_
            repeat refine SOp.mk _ _ (And.intro rfl rfl) rfl ?_
            refine SWrap.i64z ((j + 1 : Nat) : Int) (by omega) (by omega) ?_
            exact ⟨j + 1, [0], hjn, by show g.n - (j + 1) < g.n - j; omega, ⟨rfl, by simp, rfl, rfl, rfl, ⟨rfl, rfl, rfl, rfl, rfl, trivial⟩, ⟨rfl, trivial⟩⟩⟩
        · refine SCmp.no (decide_eq_false (by omega)) ?_
          obtain rfl : j = g.n := by omega
          refine SWrap.i64z ((i + 1 : Nat) : Int) (by omega) (by omega) ?_
          exact ⟨i + 1, [0], hin, by show g.n - (i + 1) < g.n - i; omega, ⟨rfl, by simp, rfl, rfl, rfl, ⟨rfl, rfl, rfl, rfl, trivial⟩, ⟨rfl, trivial⟩⟩⟩
      · refine SCmp.no (decide_eq_false (by omega)) ?_
        obtain rfl : i = g.n := by omega
        exact SRet.pure (.tf _)
  · have hD := rdet_ok false false g.n (ent g) (rb203 H) (by omega)
    rw [H.det, (cDet_zero fun i k hi hk => H.nab hi hk).2 ht] at hD
    have hN := rnought_ok 0
    rw [decide_eq_true rfl] at hN
    refine SCall.pureT (cinvOne_ok noF g H ht) (fun _ => rfl) ?_
    refine SCmp.yes (rfl) ?_
    refine SCmp.yes (rfl) ?_
    refine SCall.pure (hE) ?_
    refine SCall.pure (hD) ?_
    refine SCall.pure (hN) ?_
    exact SRet.pure (.p _ (.bool _))
end Go.Proofs.Ytkaooejeljdbnaa

namespace Go.Proofs.Ytkaooejeljdbnaa
open Go Go.ChangeShapes Go.WideShapes Go.ChangeAt Go.RowKit Go.WideElems
set_option linter.unusedVariables false
set_option linter.unusedSimpArgs false
theorem Try.own : ownKnob Try.prog.godebug = none := by kernel_rfl
theorem Try.laidOut : laidOutB Try.prog = true := by kernel_rfl
theorem Try.cells3 : Try.prog.cellsOf 3 = 1 := by kernel_rfl
abbrev oldF (W : World) : Nat → Prop := fun b => b < W.heap.size
theorem law_call {P : Program} {f : FuncId} {pvs : List PV} (hc : CallP P f pvs (.p (.bool true)) []) {W : World} {vs : List Value} (hl : vs.length = pvs.length) (hv : ∀ (i : Nat) p v, pvs[i]? = some p → vs[i]? = some v → PR W (FBof noBor (oldF W)) p v) :
    Calls P f vs.toArray W fun e W' => e = .returned (.bool true) ∧ Below W.heap.size W W' := by
  refine (hc.run W (oldF W) noBor (fun _ => (none, 0)) vs ⟨by simp [hl], fun i a v e1 e2 => ?_, fun h => by rw [look_nil]; trivial, fun b h => h, fun b h => h.elim, fun h b hl => ?_, fun h h' b hl => ?_, fun a ha k hk => ?_, fun h k hk => ?_⟩).mono ?_
  · rw [List.getElem?_map] at e1
    cases hp : pvs[i]? with
    | none => rw [hp] at e1; cases e1
    | some p => rw [hp] at e1; cases e1; exact .p (hv i p v hp e2)
  · rw [look_nil] at hl; exact hl.elim
  · rw [look_nil] at hl; exact hl.elim
  · obtain ⟨p, _, rfl⟩ := List.mem_map.1 ha; simp only [AV.men] at hk
  · rw [look_nil] at hk; exact hk.elim
  · intro e W' ⟨v, F', β', he, hr⟩
    subst he
    refine ⟨?_, hr.os, hr.tape, hr.output, hr.size, fun b hb => hr.same b hb fun h hl => ?_⟩
    · have := hr.rel
      cases this with | p h => cases h; rfl
    · rw [look_nil] at hl; exact hl.elim
section
variable {H : Type} {enc : TypeId × Value → H} {P : Program} {W : World} {base : Nat} {sp : Nat → Bool} {held : Bool}
theorem openInt {t : TypeId} {r : Go.Reach} {b0 : Nat} {v : Value} {d : DataW H} {ps : List MemPlace} (ht : P.underlying t = some (.int .i64)) (hval : Value.okWide P W r b0 t v) (hd : DataW.Trod enc P W base sp held t v d ps) :
    ∃ n, v = .int .i64 n ∧ I64 n := by
  obtain ⟨n, h1, h2, h3, h4⟩ := open_int ht hval hd
  refine ⟨n, h1, ?_⟩
  simp [Lit.wf, IntKind.min, IntKind.max, IntKind.signed, IntKind.bits] at h4
  exact ⟨by omega, by omega⟩
theorem openInts {t e : TypeId} {r : Go.Reach} {b0 : Nat} {v : Value} {d : DataW H} {ps : List MemPlace} (ht : P.underlying t = some (.slice e)) (he : P.underlying e = some (.int .i64)) (hc : P.cellsOf e = 1) (hval : Value.okWide P W r b0 t v)
    (hd : DataW.Trod enc P W base sp held t v d ps) (hlt : ∀ x ∈ ps, x.block < W.heap.size) : ∃ zs : List Int, I64s zs ∧ PR W (FBof noBor (oldF W)) (.sl false 1 (intsP zs)) v := by
  obtain ⟨a0, len, cap, rfl⟩ := okWide_slice ht hval
  obtain ⟨fuel, hf⟩ := hd
  rcases open_ints ht he hc hf with ⟨hcs, hx⟩ | ⟨a, len', cap', zs, hcs, _, hl, hm, hz, hx, hcell, hwz⟩
  · simp [Value.cells] at hcs
    obtain ⟨rfl, rfl, rfl⟩ := hcs
    exact ⟨[], fun i => by simp [I64], .nil _ _ _⟩
  · simp [Value.cells] at hcs
    obtain ⟨rfl, rfl, rfl⟩ := hcs
    simp only [Prod.mk.injEq] at hx
    obtain ⟨_, rfl⟩ := hx
    have hlen : len ≤ zs.length := by rw [hz]; split <;> omega
    have hspot : a.spot = none := by
      simp only [Value.okWide, ht, Cell.okWide] at hval
      simp [Cell.ok, World.has] at hval
      first | exact hval.1.2.1 | exact hval.2.1 | (have := hval; simp_all)
    obtain ⟨b, off, spot⟩ := a
    simp only at hspot
    subst hspot
    refine ⟨zs.take len, fun i => ?_, ?_⟩
    · by_cases hi : i < (zs.take len).length
      · have hm : (zs.take len).getD i 0 ∈ zs := by
          have : (zs.take len).getD i 0 = (zs.take len)[i] := by simp only [List.getD, List.getElem?_eq_getElem hi, Option.getD_some]
          rw [this]
          exact List.mem_of_mem_take (List.getElem_mem hi)
        have h4 := hwz _ hm
        generalize (zs.take len).getD i 0 = q at h4 ⊢
        simp [Lit.wf, IntKind.min, IntKind.max, IntKind.signed, IntKind.bits] at h4
        exact ⟨by omega, by omega⟩
      · rw [getD_ge _ 0 (by omega)]; simp [I64]
    · have hll : (intsP (zs.take len)).length = len := by simp; omega
      have h := PR.sl (w := W) (FB := FBof noBor (oldF W)) false 1 (intsP (zs.take len)) b off cap (fun i _ => .int .i64 (zs.getD i 0)) (by rw [hll]; exact hl) (fun hne => ?_) (fun e he => ?_) (fun e he c hc => ?_) (fun i e j c e1 e2 => ?_) (fun i e j c e1 e2 => ?_)
      · rw [hll] at h; exact h
      · have hpos : 0 < zs.length := by
          rcases Nat.eq_zero_or_pos zs.length with h0 | h0
          · exact (hne (by rw [List.length_eq_zero_iff.1 h0]; simp)).elim
          · exact h0
        exact hlt (.cell b off) (MemPlace.mem_row.2 ⟨0, hpos, by simp⟩)
      · obtain ⟨z, _, rfl⟩ := List.mem_map.1 he; rfl
      · obtain ⟨z, _, rfl⟩ := List.mem_map.1 he
        have hc : c ∈ [PV.int .i64 z] := hc
        simp at hc; subst hc; rfl
      all_goals
        have hi : i < len := by have := (List.getElem?_eq_some_iff.1 e1).1; rwa [hll] at this
        have he : e = .int .i64 (zs.getD i 0) := by
          rw [List.getElem?_map, List.getElem?_take_of_lt hi, List.getElem?_eq_getElem (show i < zs.length by omega)] at e1
          simp at e1
          simp [List.getD, show i < zs.length by omega, ← e1]
        subst he
        have hj : j = 0 := by
          have := (List.getElem?_eq_some_iff.1 e2).1
          simpa [PV.cells] using this
        subst hj
        first
          | (have := hcell i (by omega)
             rw [show off + i * 1 + 0 = off + i by omega]
             rwa [Addr.add_lit] at this)
          | (have hcv : c = .int .i64 (zs.getD i 0) := by simpa [PV.cells] using e2.symm
             subst hcv
             exact .int _ _)
end
end Go.Proofs.Ytkaooejeljdbnaa

