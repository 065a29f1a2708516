/- Matrices made triangles: the walk. -/
import Derived.Test.YtkaooejeljdbnaaMw1
import Derived.Test.YtkaooejeljdbnaaMt1
namespace Go.Proofs.Ytkaooejeljdbnaa
open Go
set_option linter.unusedVariables false
set_option linter.unusedSimpArgs false
set_option maxRecDepth 10000

abbrev bxQ (q : Rat) : List AV := [.p (.bool (decide (q.num < 0))), .p (natP q.num.natAbs), .p (natP q.den)]
theorem matP_congr {m m' : Bool} {n w : Nat} {A B : Nat → Nat → Rat} (h : ∀ i k, i < n → k < w → A i k = B i k) : matP m m' n w A = matP m m' n w B :=
  congrArg (PV.sl m 1) (fl_congr fun i hi => by rw [lst_congr fun k hk => h i k hi hk])
theorem rats_app (l : List Rat) : ([] : List PV) ++ rats l = rats l := rfl

theorem swp_inj {s : Nat → Nat} {i p r : Nat} (g3 : ∀ p q, p < i → q < i → s p = s q → p = q) (hp : p < i) (hr : r < i) :
    ∀ q t, q < i → t < i → upd (upd s (p + 0) (s (r + 0))) (r + 0) (s (p + 0)) q = upd (upd s (p + 0) (s (r + 0))) (r + 0) (s (p + 0)) t → q = t := by
  intro q t hq ht e
  simp only [Nat.add_zero, upd] at e
  by_cases a1 : q = r <;> by_cases a2 : t = r
  · omega
  · rw [if_pos a1, if_neg a2] at e
    by_cases a3 : t = p
    · rw [if_pos a3] at e; have := g3 _ _ hp hr e; omega
    · rw [if_neg a3] at e; have := g3 _ _ hp ht e; omega
  · rw [if_neg a1, if_pos a2] at e
    by_cases a3 : q = p
    · rw [if_pos a3] at e; have := g3 _ _ hr hp e; omega
    · rw [if_neg a3] at e; have := g3 _ _ hq hp e; omega
  · rw [if_neg a1, if_neg a2] at e
    by_cases a3 : q = p <;> by_cases a4 : t = p
    · omega
    · rw [if_pos a3, if_neg a4] at e; have := g3 _ _ hr ht e; omega
    · rw [if_neg a3, if_pos a4] at e; have := g3 _ _ hq hr e; omega
    · rw [if_neg a3, if_neg a4] at e; exact g3 _ _ hq ht e
theorem init4 {S : Nat → Nat} {G B : Nat → Nat → Rat} {i w r j : Nat} (h : ∀ t k, t < i → k < w → G (S t) k = B t k) : ∀ t k, t < i → k < w → G (S t) k = if t < r + 1 then redM B r j t k else B t k := by
  intro t k ht hk
  rw [h t k ht hk]
  split
  · exact (redM_le (.inl (by omega))).symm
  · rfl
theorem init5 {S : Nat → Nat} {G1 B : Nat → Nat → Rat} {i w q r j : Nat} (h : ∀ k, k < w → G1 (S q) k = B q k) : ∀ t c, t < i → c < w → G1 (S t) c = if t = q then (if c < j then redM B r j q c else B q c) else G1 (S t) c := by
  intro t c ht hc
  by_cases e : t = q
  · rw [if_pos e, e, h c hc]
    split
    · exact (redM_le (.inr (by assumption))).symm
    · rfl
  · rw [if_neg e]
theorem upd2_step {S : Nat → Nat} {G2 G1 : Nat → Nat → Rat} {f g : Nat → Rat} {i w q k : Nat} {v : Rat} (inj : ∀ p q, p < i → q < i → S p = S q → p = q) (hq : q < i) (hk : k < w)
    (h : ∀ t c, t < i → c < w → G2 (S t) c = if t = q then (if c < k then f c else g c) else G1 (S t) c) (hv : v = f k) :
    ∀ t c, t < i → c < w → upd G2 (S (q + 0)) (upd (G2 (S (q + 0))) (k + 0) v) (S t) c = if t = q then (if c < k + 1 then f c else g c) else G1 (S t) c := by
  intro t c ht hc
  rw [Nat.add_zero, Nat.add_zero]
  by_cases e : t = q
  · subst e
    rw [upd_same, if_pos rfl]
    by_cases ec : c = k
    · subst ec; rw [upd_same, if_pos (by omega), hv]
    · rw [upd_other _ _ ec, h t c ht hc, if_pos rfl]
      by_cases e2 : c < k
      · rw [if_pos e2, if_pos (by omega)]
      · rw [if_neg e2, if_neg (by omega)]
  · rw [upd_other _ _ (fun e' => e (inj t q ht hq e')), h t c ht hc, if_neg e, if_neg e]

set_option maxHeartbeats 4000000 in
theorem rtriangle_ok (m m' : Bool) (n w : Nat) (A0 : Nat → Nat → Rat) {R : Nat → Nat} (hRB : RB R n w A0) (hw : n ≤ w) (hn : w ≤ 1000) :
    CallP Try.prog 84 [matP m m' n w A0, .int .i64 n] (.tup [.p (matP false false n w (elim n A0 n).A), .p (ratP (elim n A0 n).det), .p (.int .i64 (elim n A0 n).r)]) [] := by
  refine callG_of_vc (wr := wr0) Γok mixed Try.func84 (by kernel_rfl) rfl (by kernel_rfl) (le_of_ble rfl) (by simp) ?_
  refine SLoop.mkT Nat (fun i => ([(0, .p (matP m m' n w A0)), (1, .p (.int .i64 n)), (5, .bptr 0 0), (7, .vec 1 1 0 i), (8, .p (.int .i64 i))], [.box 37 [.p (.bool false), .p (.sl false 1 []), .p (.sl false 1 [])], .rows 25 (plc 2 w i id), .pool 37 3 (plr i w A0)]))
    (fun i => i ≤ n) (fun i => n - i) 0 [0, 1, 2] _ _ (.rows 7 25 rfl (.pool 37 3 (.done _ _))) (Nat.zero_le _) ⟨rfl, by simp, rfl, rfl, rfl, ⟨rfl, rfl, rfl, rfl, rfl, trivial⟩, ⟨rfl, rfl, rfl, rows_in fun i hi => absurd hi (Nat.not_lt_zero _), trivial⟩⟩ ?_
  intro i hi
  have hi : i ≤ n := hi
  refine SZ.mk (n : Int) (by simp) ?_
  by_cases hin : i < n
  · refine SCmp.yes (decide_eq_true (by omega)) ?_
    refine SIdx.mf i rfl hin ?_
    refine SRoom.mk (by simp [lst]; omega) (by simp [lst]; omega) ?_
    refine SEqN.mk (by simp) ?_
    refine SRoom.mk (by simp; omega) (by simp; omega) ?_
    refine SAs.mk _ rfl ?_
    refine SZN.mk (i + 1) (by simp) ?_
    refine SWrap.i64z ((i + 1 : Nat) : Int) (by omega) (by omega) ?_
    refine ⟨i + 1, [0, 5, 4002], hin, by show n - (i + 1) < n - i; omega, ⟨rfl, by simp, rfl, rfl, rfl, ⟨rfl, rfl, rfl, rfl, rfl, trivial⟩, ⟨rfl, congrArg _ ((plc_absorb (p' := 2) (q := 3) (c := w) (k := i) rfl (by decide) (by simp [plenAt])).trans (by simp [lst])), ⟨_, _, _, _, rfl, rfl, congrArg _ plr_snoc⟩, rows_in fun i hi => by simpa [plenAt] using hi, trivial⟩⟩⟩
  · refine SCmp.no (decide_eq_false (by omega)) ?_
    obtain rfl : i = n := by omega
    refine SCall.pure (rint_ok 1 (by decide)) ?_
    have one_eq : ((1 : Int) : Rat) = 1 := rfl
    rw [one_eq]
    refine SLoop.mk (Nat × (Nat → Nat) × (Nat → Nat → Rat) × ElS) (fun (j, s, G, E) => ([(0, .p (matP m m' i w A0)), (1, .p (.int .i64 i)), (5, .bptr 0 0), (7, .vec 1 1 0 i), (9, .bptr 3 0), (10, .p (.int .i64 E.r)), (11, .p (.int .i64 j))],
        [.box 37 [.p (.bool false), .p (.sl false 1 []), .p (.sl false 1 [])], .rows 25 (plc 2 w i s), .pool 37 3 (plr i w G), .box 37 (bxQ E.det)]))
      (fun (j, s, G, E) => j ≤ i ∧ E = elim i A0 j ∧ (∀ q, q < i → s q < i) ∧ (∀ p q, p < i → q < i → s p = s q → p = q) ∧ (∀ p k, p < i → k < w → G (s p) k = E.A p k))
      (fun x => i - x.1) (0, id, A0, ⟨A0, 1, 0⟩) [0, 1, 2, 3] ⟨Nat.zero_le _, rfl, fun q hq => hq, fun p q _ _ e => e, fun p k _ _ => rfl⟩
      ⟨rfl, by simp, rfl, rfl, rfl, ⟨rfl, rfl, rfl, rfl, rfl, rfl, rfl, trivial⟩, ⟨rfl, congrArg _ (plc_ren 2 rfl (by decide)), rfl, rfl, rows_in fun i hi => by simpa [plenAt] using hi, trivial⟩⟩ ?_
    intro ⟨j, s, G, E⟩ ⟨g1, g0, g2, g3, g4⟩
    have g5 := hRB.row j g1
    have g6 := hRB.det hw j g1
    rw [← g0] at g5 g6
    have r6 : dR R E.r ≤ dR R i := dR_mono (by rw [g0]; exact elim_r_n j)
    have r7 := hRB.dlim
    have hrj := elim_r_le (n := i) (A := A0) j
    have hrn := elim_r_n (n := i) (A := A0) j
    rw [← g0] at hrj hrn
    have hE1 : elim i A0 (j + 1) = elS i j E := by rw [elim_succ, g0]
    by_cases hji : j < i
    · refine SCmp.yes (decide_eq_true (by omega)) ?_
      refine SLoop.mk Nat (fun p => ([(0, .p (matP m m' i w A0)), (1, .p (.int .i64 i)), (5, .bptr 0 0), (7, .vec 1 1 0 i), (9, .bptr 3 0), (10, .p (.int .i64 E.r)), (11, .p (.int .i64 j)), (12, .p (.int .i64 p))],
          [.box 37 [.p (.bool false), .p (.sl false 1 []), .p (.sl false 1 [])], .rows 25 (plc 2 w i s), .pool 37 3 (plr i w G), .box 37 (bxQ E.det)]))
        (fun p => E.r ≤ p ∧ p ≤ i ∧ ∀ q, E.r ≤ q → q < p → E.A q j = 0) (fun p => i - p) E.r [0, 1, 2, 3] ⟨Nat.le_refl _, hrn, fun q h1 h2 => absurd h2 (by omega)⟩
        ⟨rfl, by simp, rfl, rfl, rfl, ⟨rfl, rfl, rfl, rfl, rfl, rfl, rfl, rfl, trivial⟩, ⟨rfl, congrArg _ (plc_ren 2 rfl (by decide)), rfl, rfl, rows_in fun q hq => by simpa [plenAt] using g2 q hq, trivial⟩⟩ ?_
      intro p ⟨h1, h2, h3⟩
      refine SZ.mk (i : Int) rfl ?_
      have found : (p = i ∨ E.A p j ≠ 0) → pv E.A j i E.r = p := fun h => pv_eq h1 h2 h3 h
      by_cases hp : p < i
      · refine SCmp.yes (decide_eq_true (by omega)) ?_
        refine SPos.mk p rfl hp ?_
        refine SIdxA.plc (p + 0) rfl (by omega) ?_
        refine SPos.mk j rfl (by omega) ?_
        refine SRow.plr (g2 _ (by omega)) ?_
        refine SIdx.rv (j + 0) (E.A p j) rfl (by omega) (g4 p j hp (by omega)) ?_
        refine SCall.pure (rnought_ok (E.A p j)) ?_
        by_cases hz : E.A p j = 0
        · rw [decide_eq_true hz]
          refine SCond.mk (fun _ => ?_) (fun h => by cases h)
          refine SWrap.i64z ((p + 1 : Nat) : Int) (by omega) (by omega) ?_
          refine ⟨p + 1, [0, 1, 2, 3], ⟨by omega, hp, fun q q1 q2 => ?_⟩, by show i - (p + 1) < i - p; omega, ⟨rfl, by simp, rfl, rfl, rfl, ⟨rfl, rfl, rfl, rfl, rfl, rfl, rfl, rfl, trivial⟩, ⟨rfl, congrArg _ (plc_ren 2 rfl (by decide)), rfl, rfl, rows_in fun q hq => by simpa [plenAt] using g2 q hq, trivial⟩⟩⟩
          by_cases e : q = p
          · rw [e]; exact hz
          · exact h3 q q1 (by omega)
        · rw [decide_eq_false hz]
          refine SCond.mk (fun h => by cases h) (fun _ => ?_)
          refine SZ.mk (i : Int) rfl ?_
          refine SCmp.no (decide_eq_false (by omega)) ?_
          have hpv := found (.inr hz)
          obtain ⟨B, hB⟩ : ∃ B, B = swpM E.A p E.r := ⟨_, rfl⟩
          have hBr : B E.r = E.A p := by rw [hB]; exact swpM_r
          have hBb : RowB R i w B E.r := by rw [hB]; exact g5.swp h1 hp
          have hB0 : B E.r j ≠ 0 := by rw [hBr]; exact hz
          have bBr : Bz (B E.r j) (R E.r) := by have := hBb E.r j (by omega) (by omega); rw [Nat.min_self] at this; exact this
          have rlim : dR R E.r + R E.r ≤ 1048576 := Nat.le_trans (dR_mono (R := R) (show E.r + 1 ≤ i by omega)) r7
          have hE2 : elim i A0 (j + 1) = ⟨redM B E.r j, (if p = E.r then E.det else -E.det) * B E.r j, E.r + 1⟩ := by
            rw [hE1]; unfold elS; rw [hpv, if_neg (by omega), ← hB]
          by_cases hpr : p = E.r
          · refine SCmp.no (neF (by rw [hpr])) ?_
            rw [if_pos hpr] at hE2
            have rD : Bz E.det (dR R E.r) := g6
            have r2 := g2
            have r3 := g3
            have r4 : ∀ q k, q < i → k < w → G (s q) k = B q k := fun q k h1 h2 => by rw [hB, hpr, swpM_self]; exact g4 q k h1 h2
            refine SDraw.mkX (by kernel_rfl) ?_
            repeat refine SOp.mk _ _ (And.intro rfl rfl) rfl ?_
            refine SOp.mk _ _ (SPos.mk E.r rfl (by omega) (And.intro rfl rfl)) rfl ?_
            refine SOp.mk _ _ (SIdxA.plc (E.r + 0) rfl (by omega) (And.intro rfl rfl)) rfl ?_
            repeat refine SOp.mk _ _ (And.intro rfl rfl) rfl ?_
            refine SOp.mk _ _ (SPos.mk j rfl (by omega) (And.intro rfl rfl)) rfl ?_
            refine SOp.mk _ _ (SRow.plr (r2 _ (by omega)) <| SIdx.rv (j + 0) (B E.r j) rfl (by omega) (r4 E.r j (by omega) (by omega)) (And.intro rfl rfl)) rfl ?_
            refine SOp.mk _ _ (SCall.pure (rmulq_ok (E.det) (B E.r j) rD bBr rlim) (And.intro rfl rfl)) rfl ?_
            repeat refine SOp.mk _ _ (And.intro rfl rfl) rfl ?_
            refine SFin.mk (by kernel_rfl) ?_
            refine SWrap.i64z ((E.r + 1 : Nat) : Int) (by omega) (by omega) ?_
            refine SLoop.mk (Nat × (Nat → Nat → Rat)) (fun (q, G) => ([(0, .p (matP m m' i w A0)), (1, .p (.int .i64 i)), (5, .bptr 0 0), (7, .vec 1 1 0 i), (9, .bptr 3 0), (10, .p (.int .i64 E.r)), (11, .p (.int .i64 j)), (13, .p (.int .i64 q))],
                [.box 37 [.p (.bool false), .p (.sl false 1 []), .p (.sl false 1 [])], .rows 25 (plc 2 w i (s)), .pool 37 3 (plr i w G), .box 37 (bxQ ((E.det) * B E.r j))]))
              (fun (q, G) => E.r < q ∧ q ≤ i ∧ ∀ t k, t < i → k < w → G ((s) t) k = if t < q then redM B E.r j t k else B t k) (fun x => i - x.1) (E.r + 1, G) [0, 1, 2, 3] ⟨by omega, by omega, init4 r4⟩
              ⟨rfl, by simp, rfl, rfl, rfl, ⟨rfl, rfl, rfl, rfl, rfl, rfl, rfl, rfl, trivial⟩, ⟨rfl, congrArg _ (plc_ren 2 rfl (by decide)), rfl, rfl, rows_in fun q hq => by simpa [plenAt] using r2 q hq, trivial⟩⟩ ?_
            intro ⟨q, G1⟩ ⟨q1, q2, q3⟩
            refine SZ.mk (i : Int) rfl ?_
            by_cases hqi : q < i
            · refine SCmp.yes (decide_eq_true (by omega)) ?_
              have cq : ∀ k, k < w → G1 ((s) q) k = B q k := fun k hk => by rw [q3 q k hqi hk, if_neg (by omega)]
              have cr : ∀ k, k < w → G1 ((s) E.r) k = B E.r k := fun k hk => by rw [q3 E.r k (by omega) hk, if_pos (by omega), redM_le (.inl (Nat.le_refl _))]
              refine SPos.mk q rfl hqi ?_
              refine SIdxA.plc (q + 0) rfl (by omega) ?_
              refine SPos.mk j rfl (by omega) ?_
              refine SRow.plr (r2 _ (by omega)) ?_
              refine SIdx.rv (j + 0) (B q j) rfl (by omega) (cq j (by omega)) ?_
              refine SCall.pure (rnought_ok (B q j)) ?_
              by_cases hz0 : B q j = 0
              · rw [decide_eq_true hz0]
                refine SCond.mk (fun _ => ?_) (fun h => by cases h)
                refine SWrap.i64z ((q + 1 : Nat) : Int) (by omega) (by omega) ?_
                refine ⟨(q + 1, G1), [0, 1, 2, 3], ⟨by omega, hqi, fun t k ht hk => ?_⟩, by show i - (q + 1) < i - q; omega, ⟨rfl, by simp, rfl, rfl, rfl, ⟨rfl, rfl, rfl, rfl, rfl, rfl, rfl, rfl, trivial⟩, ⟨rfl, congrArg _ (plc_ren 2 rfl (by decide)), rfl, rfl, rows_in fun q hq => by simpa [plenAt] using r2 q hq, trivial⟩⟩⟩
                rw [q3 t k ht hk]
                by_cases e : t = q
                · rw [e, if_neg (by omega), if_pos (by omega), redM_zero hz0]
                · by_cases e2 : t < q
                  · rw [if_pos e2, if_pos (by omega)]
                  · rw [if_neg e2, if_neg (by omega)]
              · rw [decide_eq_false hz0]
                refine SCond.mk (fun h => by cases h) (fun _ => ?_)
                have bq : ∀ k, k < w → Bz (B q k) (R E.r) := fun k hk => by have := hBb q k hqi hk; rw [Nat.min_eq_right (by omega)] at this; exact this
                have br : ∀ k, k < w → Bz (B E.r k) (R E.r) := fun k hk => by have := hBb E.r k (by omega) hk; rw [Nat.min_self] at this; exact this
                have lim4 : 4 * R E.r + 1 ≤ 1048576 := hRB.lim E.r (by omega)
                refine SDraw.mkX (by kernel_rfl) ?_
                repeat refine SOp.mk _ _ (And.intro rfl rfl) rfl ?_
                refine SOp.mk _ _ (SPos.mk q rfl hqi (And.intro rfl rfl)) rfl ?_
                refine SOp.mk _ _ (SIdxA.plc (q + 0) rfl (by omega) (And.intro rfl rfl)) rfl ?_
                repeat refine SOp.mk _ _ (And.intro rfl rfl) rfl ?_
                refine SOp.mk _ _ (SPos.mk j rfl (by omega) (And.intro rfl rfl)) rfl ?_
                refine SOp.mk _ _ (SRow.plr (r2 _ (by omega)) <| SIdx.rv (j + 0) (B q j) rfl (by omega) (cq j (by omega)) (And.intro rfl rfl)) rfl ?_
                repeat refine SOp.mk _ _ (And.intro rfl rfl) rfl ?_
                refine SOp.mk _ _ (SPos.mk E.r rfl (by omega) (And.intro rfl rfl)) rfl ?_
                refine SOp.mk _ _ (SIdxA.plc (E.r + 0) rfl (by omega) (And.intro rfl rfl)) rfl ?_
                repeat refine SOp.mk _ _ (And.intro rfl rfl) rfl ?_
                refine SOp.mk _ _ (SPos.mk j rfl (by omega) (And.intro rfl rfl)) rfl ?_
                refine SOp.mk _ _ (SRow.plr (r2 _ (by omega)) <| SIdx.rv (j + 0) (B E.r j) rfl (by omega) (cr j (by omega)) (And.intro rfl rfl)) rfl ?_
                refine SOp.mk _ _ (SCall.pure (rover_ok (B q j) (B E.r j) hB0 (bq j (by omega)) (br j (by omega)) (by omega)) (And.intro rfl rfl)) rfl ?_
                repeat refine SOp.mk _ _ (And.intro rfl rfl) rfl ?_
                refine SFin.mk (by kernel_rfl) ?_
                refine SLoop.mk (Nat × (Nat → Nat → Rat)) (fun (k, G) => ([(0, .p (matP m m' i w A0)), (1, .p (.int .i64 i)), (5, .bptr 0 0), (7, .vec 1 1 0 i), (9, .bptr 3 0), (10, .p (.int .i64 E.r)), (11, .p (.int .i64 j)), (13, .p (.int .i64 q)), (14, .bptr 4 0), (15, .p (.int .i64 k))],
                    [.box 37 [.p (.bool false), .p (.sl false 1 []), .p (.sl false 1 [])], .rows 25 (plc 2 w i (s)), .pool 37 3 (plr i w G), .box 37 (bxQ ((E.det) * B E.r j)), .box 37 (bxQ (B q j / B E.r j))]))
                  (fun (k, G) => j ≤ k ∧ k ≤ w ∧ ∀ t c, t < i → c < w → G ((s) t) c = if t = q then (if c < k then redM B E.r j q c else B q c) else G1 ((s) t) c) (fun x => w - x.1) (j, G1) [0, 1, 2, 3, 4]
                  ⟨Nat.le_refl _, by omega, init5 cq⟩
                  ⟨rfl, by simp, rfl, rfl, rfl, ⟨rfl, rfl, rfl, rfl, rfl, rfl, rfl, rfl, rfl, rfl, trivial⟩, ⟨rfl, congrArg _ (plc_ren 2 rfl (by decide)), rfl, rfl, rfl, rows_in fun q hq => by simpa [plenAt] using r2 q hq, trivial⟩⟩ ?_
                intro ⟨k, G2⟩ ⟨k1, k2, k3⟩
                refine SPos.mk q rfl hqi ?_
                refine SIdxA.plc (q + 0) rfl (by omega) ?_
                refine SZ.mk (w : Int) rfl ?_
                by_cases hkw : k < w
                · refine SCmp.yes (decide_eq_true (by omega)) ?_
                  have dq : G2 ((s) q) k = B q k := by rw [k3 q k hqi hkw, if_pos rfl, if_neg (by omega)]
                  have dr : G2 ((s) E.r) k = B E.r k := by rw [k3 E.r k (by omega) hkw, if_neg (by omega)]; exact cr k hkw
                  have m1 := ((bq j (by omega)).div (br j (by omega))).mul (br k hkw)
                  refine SDraw.mkX (by kernel_rfl) ?_
                  repeat refine SOp.mk _ _ (And.intro rfl rfl) rfl ?_
                  refine SOp.mk _ _ (SPos.mk q rfl hqi (And.intro rfl rfl)) rfl ?_
                  refine SOp.mk _ _ (SIdxA.plc (q + 0) rfl (by omega) (And.intro rfl rfl)) rfl ?_
                  repeat refine SOp.mk _ _ (And.intro rfl rfl) rfl ?_
                  refine SOp.mk _ _ (SPos.mk q rfl hqi (And.intro rfl rfl)) rfl ?_
                  refine SOp.mk _ _ (SIdxA.plc (q + 0) rfl (by omega) (And.intro rfl rfl)) rfl ?_
                  repeat refine SOp.mk _ _ (And.intro rfl rfl) rfl ?_
                  refine SOp.mk _ _ (SPos.mk k rfl hkw (And.intro rfl rfl)) rfl ?_
                  refine SOp.mk _ _ (SRow.plr (r2 _ (by omega)) <| SIdx.rv (k + 0) (B q k) rfl (by omega) dq (And.intro rfl rfl)) rfl ?_
                  repeat refine SOp.mk _ _ (And.intro rfl rfl) rfl ?_
                  refine SOp.mk _ _ (SPos.mk E.r rfl (by omega) (And.intro rfl rfl)) rfl ?_
                  refine SOp.mk _ _ (SIdxA.plc (E.r + 0) rfl (by omega) (And.intro rfl rfl)) rfl ?_
                  repeat refine SOp.mk _ _ (And.intro rfl rfl) rfl ?_
                  refine SOp.mk _ _ (SPos.mk k rfl hkw (And.intro rfl rfl)) rfl ?_
                  refine SOp.mk _ _ (SRow.plr (r2 _ (by omega)) <| SIdx.rv (k + 0) (B E.r k) rfl (by omega) dr (And.intro rfl rfl)) rfl ?_
                  refine SOp.mk _ _ (SCall.pure (rmulq_ok _ _ ((bq j (by omega)).div (br j (by omega))) (br k hkw) (by omega)) (And.intro rfl rfl)) rfl ?_
                  refine SOp.mk _ _ (SCall.pure (rsubq_ok _ _ (bq k hkw) m1 (by omega)) (And.intro rfl rfl)) rfl ?_
                  refine SOp.mk _ _ (SPos.mk k rfl hkw (And.intro rfl rfl)) rfl ?_
                  refine SOp.mk _ _ (SRow.plr (r2 _ (by omega)) <| SLt.rf (show k + 0 < w by omega) <| SEs.rf (And.intro rfl rfl)) rfl ?_
                  refine SPool.plr (r2 _ (by omega)) ?_
                  refine SFin.mk (by kernel_rfl) ?_
                  refine SWrap.i64z ((k + 1 : Nat) : Int) (by omega) (by omega) ?_
                  refine ⟨(k + 1, _), [0, 1, 2, 3, 4], ⟨by omega, hkw, ?_⟩, by show w - (k + 1) < w - k; omega, ⟨rfl, by simp, rfl, rfl, rfl, ⟨rfl, rfl, rfl, rfl, rfl, rfl, rfl, rfl, rfl, rfl, trivial⟩, ⟨rfl, congrArg _ (plc_ren 2 rfl (by decide)), rfl, rfl, rfl, rows_in fun q hq => by simpa [plenAt] using r2 q hq, trivial⟩⟩⟩
                  exact upd2_step r3 hqi hkw k3 (redM_gt q1 k1).symm
                · refine SCmp.no (decide_eq_false (by omega)) ?_
                  obtain rfl : k = w := by omega
                  refine SWrap.i64z ((q + 1 : Nat) : Int) (by omega) (by omega) ?_
                  refine ⟨(q + 1, G2), [0, 1, 2, 3], ⟨by omega, hqi, fun t c ht hc => ?_⟩, by show i - (q + 1) < i - q; omega, ⟨rfl, by simp, rfl, rfl, rfl, ⟨rfl, rfl, rfl, rfl, rfl, rfl, rfl, rfl, trivial⟩, ⟨rfl, congrArg _ (plc_ren 2 rfl (by decide)), rfl, rfl, rows_in fun q hq => by simpa [plenAt] using r2 q hq, trivial⟩⟩⟩
                  rw [k3 t c ht hc]
                  by_cases e : t = q
                  · rw [if_pos e, if_pos hc, e, if_pos (by omega)]
                  · rw [if_neg e, q3 t c ht hc]
                    by_cases e2 : t < q
                    · rw [if_pos e2, if_pos (by omega)]
                    · rw [if_neg e2, if_neg (by omega)]
            · refine SCmp.no (decide_eq_false (by omega)) ?_
              obtain rfl : q = i := by omega
              refine SWrap.i64z ((E.r + 1 : Nat) : Int) (by omega) (by omega) ?_
              refine SWrap.i64z ((j + 1 : Nat) : Int) (by omega) (by omega) ?_
              refine ⟨(j + 1, (s), G1, ⟨redM B E.r j, (E.det) * B E.r j, E.r + 1⟩), [0, 1, 2, 3], ⟨hji, hE2.symm, r2, r3, fun t c ht hc => ?_⟩, by show q - (j + 1) < q - j; omega, ⟨rfl, by simp, rfl, rfl, rfl, ⟨rfl, rfl, rfl, rfl, rfl, rfl, rfl, trivial⟩, ⟨rfl, congrArg _ (plc_ren 2 rfl (by decide)), rfl, rfl, rows_in fun q hq => by simpa [plenAt] using r2 q hq, trivial⟩⟩⟩
              rw [q3 t c ht hc, if_pos ht]
          · refine SCmp.yes (neT (by omega)) ?_
            rw [if_neg hpr] at hE2
            refine SDraw.mkX (by kernel_rfl) ?_
            repeat refine SOp.mk _ _ (And.intro rfl rfl) rfl ?_
            refine SOp.mk _ _ (SPos.mk E.r rfl (by omega) (And.intro rfl rfl)) rfl ?_
            refine SOp.mk _ _ (SIdxA.plc (E.r + 0) rfl (by omega) (And.intro rfl rfl)) rfl ?_
            repeat refine SOp.mk _ _ (And.intro rfl rfl) rfl ?_
            refine SOp.mk _ _ (SPos.mk p rfl hp (And.intro rfl rfl)) rfl ?_
            refine SOp.mk _ _ (SIdxA.plc (p + 0) rfl (by omega) (And.intro rfl rfl)) rfl ?_
            refine SOp.mk _ _ (SPos.mk p rfl hp (And.intro rfl rfl)) rfl ?_
            refine SOp.mk _ _ (SLt.plc (by omega) <| SAs.plc (And.intro rfl rfl)) rfl ?_
            refine SOp.mk _ _ (SPos.mk E.r rfl (by omega) (And.intro rfl rfl)) rfl ?_
            refine SOp.mk _ _ (SLt.plc (by omega) <| SAs.plc (And.intro rfl rfl)) rfl ?_
            refine SFin.mk (by kernel_rfl) ?_
            refine SCall.pure (rneg_ok E.det (g6.nn (by omega)) (g6.nd (by omega))) ?_
            have rD : Bz (-E.det) (dR R E.r) := g6.neg
            have r2 : ∀ q, q < i → upd (upd s (p + 0) (s (E.r + 0))) (E.r + 0) (s (p + 0)) q < i := fun q hq => by
              unfold upd
              split
              · exact g2 _ (by omega)
              · split
                · exact g2 _ (by omega)
                · exact g2 _ hq
            have r3 : ∀ q t, q < i → t < i → upd (upd s (p + 0) (s (E.r + 0))) (E.r + 0) (s (p + 0)) q = upd (upd s (p + 0) (s (E.r + 0))) (E.r + 0) (s (p + 0)) t → q = t := swp_inj g3 hp (by omega)
            have r4 : ∀ q k, q < i → k < w → G (upd (upd s (p + 0) (s (E.r + 0))) (E.r + 0) (s (p + 0)) q) k = B q k := fun q k hq hk => by
              rw [hB]
              unfold upd swpM
              by_cases e1 : q = E.r
              · subst e1
                rw [if_pos (Nat.add_zero _).symm, if_neg (Ne.symm hpr), if_pos rfl]
                exact g4 p k hp hk
              · rw [if_neg (by omega)]
                by_cases e2 : q = p
                · rw [if_pos (by omega), if_pos e2]; exact g4 E.r k (by omega) hk
                · rw [if_neg (by omega), if_neg e2, if_neg e1]; exact g4 q k hq hk
            refine SDraw.mkX (by kernel_rfl) ?_
            repeat refine SOp.mk _ _ (And.intro rfl rfl) rfl ?_
            refine SOp.mk _ _ (SPos.mk E.r rfl (by omega) (And.intro rfl rfl)) rfl ?_
            refine SOp.mk _ _ (SIdxA.plc (E.r + 0) rfl (by omega) (And.intro rfl rfl)) rfl ?_
            repeat refine SOp.mk _ _ (And.intro rfl rfl) rfl ?_
            refine SOp.mk _ _ (SPos.mk j rfl (by omega) (And.intro rfl rfl)) rfl ?_
            refine SOp.mk _ _ (SRow.plr (r2 _ (by omega)) <| SIdx.rv (j + 0) (B E.r j) rfl (by omega) (r4 E.r j (by omega) (by omega)) (And.intro rfl rfl)) rfl ?_
            refine SOp.mk _ _ (SCall.pure (rmulq_ok ((-E.det)) (B E.r j) rD bBr rlim) (And.intro rfl rfl)) rfl ?_
            repeat refine SOp.mk _ _ (And.intro rfl rfl) rfl ?_
            refine SFin.mk (by kernel_rfl) ?_
            refine SWrap.i64z ((E.r + 1 : Nat) : Int) (by omega) (by omega) ?_
            refine SLoop.mk (Nat × (Nat → Nat → Rat)) (fun (q, G) => ([(0, .p (matP m m' i w A0)), (1, .p (.int .i64 i)), (5, .bptr 0 0), (7, .vec 1 1 0 i), (9, .bptr 3 0), (10, .p (.int .i64 E.r)), (11, .p (.int .i64 j)), (13, .p (.int .i64 q))],
                [.box 37 [.p (.bool false), .p (.sl false 1 []), .p (.sl false 1 [])], .rows 25 (plc 2 w i (upd (upd s (p + 0) (s (E.r + 0))) (E.r + 0) (s (p + 0)))), .pool 37 3 (plr i w G), .box 37 (bxQ (((-E.det)) * B E.r j))]))
              (fun (q, G) => E.r < q ∧ q ≤ i ∧ ∀ t k, t < i → k < w → G ((upd (upd s (p + 0) (s (E.r + 0))) (E.r + 0) (s (p + 0))) t) k = if t < q then redM B E.r j t k else B t k) (fun x => i - x.1) (E.r + 1, G) [0, 1, 2, 3] ⟨by omega, by omega, init4 r4⟩
              ⟨rfl, by simp, rfl, rfl, rfl, ⟨rfl, rfl, rfl, rfl, rfl, rfl, rfl, rfl, trivial⟩, ⟨rfl, congrArg _ (plc_ren 2 rfl (by decide)), rfl, rfl, rows_in fun q hq => by simpa [plenAt] using r2 q hq, trivial⟩⟩ ?_
            intro ⟨q, G1⟩ ⟨q1, q2, q3⟩
            refine SZ.mk (i : Int) rfl ?_
            by_cases hqi : q < i
            · refine SCmp.yes (decide_eq_true (by omega)) ?_
              have cq : ∀ k, k < w → G1 ((upd (upd s (p + 0) (s (E.r + 0))) (E.r + 0) (s (p + 0))) q) k = B q k := fun k hk => by rw [q3 q k hqi hk, if_neg (by omega)]
              have cr : ∀ k, k < w → G1 ((upd (upd s (p + 0) (s (E.r + 0))) (E.r + 0) (s (p + 0))) E.r) k = B E.r k := fun k hk => by rw [q3 E.r k (by omega) hk, if_pos (by omega), redM_le (.inl (Nat.le_refl _))]
              refine SPos.mk q rfl hqi ?_
              refine SIdxA.plc (q + 0) rfl (by omega) ?_
              refine SPos.mk j rfl (by omega) ?_
              refine SRow.plr (r2 _ (by omega)) ?_
              refine SIdx.rv (j + 0) (B q j) rfl (by omega) (cq j (by omega)) ?_
              refine SCall.pure (rnought_ok (B q j)) ?_
              by_cases hz0 : B q j = 0
              · rw [decide_eq_true hz0]
                refine SCond.mk (fun _ => ?_) (fun h => by cases h)
                refine SWrap.i64z ((q + 1 : Nat) : Int) (by omega) (by omega) ?_
                refine ⟨(q + 1, G1), [0, 1, 2, 3], ⟨by omega, hqi, fun t k ht hk => ?_⟩, by show i - (q + 1) < i - q; omega, ⟨rfl, by simp, rfl, rfl, rfl, ⟨rfl, rfl, rfl, rfl, rfl, rfl, rfl, rfl, trivial⟩, ⟨rfl, congrArg _ (plc_ren 2 rfl (by decide)), rfl, rfl, rows_in fun q hq => by simpa [plenAt] using r2 q hq, trivial⟩⟩⟩
                rw [q3 t k ht hk]
                by_cases e : t = q
                · rw [e, if_neg (by omega), if_pos (by omega), redM_zero hz0]
                · by_cases e2 : t < q
                  · rw [if_pos e2, if_pos (by omega)]
                  · rw [if_neg e2, if_neg (by omega)]
              · rw [decide_eq_false hz0]
                refine SCond.mk (fun h => by cases h) (fun _ => ?_)
                have bq : ∀ k, k < w → Bz (B q k) (R E.r) := fun k hk => by have := hBb q k hqi hk; rw [Nat.min_eq_right (by omega)] at this; exact this
                have br : ∀ k, k < w → Bz (B E.r k) (R E.r) := fun k hk => by have := hBb E.r k (by omega) hk; rw [Nat.min_self] at this; exact this
                have lim4 : 4 * R E.r + 1 ≤ 1048576 := hRB.lim E.r (by omega)
                refine SDraw.mkX (by kernel_rfl) ?_
                repeat refine SOp.mk _ _ (And.intro rfl rfl) rfl ?_
                refine SOp.mk _ _ (SPos.mk q rfl hqi (And.intro rfl rfl)) rfl ?_
                refine SOp.mk _ _ (SIdxA.plc (q + 0) rfl (by omega) (And.intro rfl rfl)) rfl ?_
                repeat refine SOp.mk _ _ (And.intro rfl rfl) rfl ?_
                refine SOp.mk _ _ (SPos.mk j rfl (by omega) (And.intro rfl rfl)) rfl ?_
                refine SOp.mk _ _ (SRow.plr (r2 _ (by omega)) <| SIdx.rv (j + 0) (B q j) rfl (by omega) (cq j (by omega)) (And.intro rfl rfl)) rfl ?_
                repeat refine SOp.mk _ _ (And.intro rfl rfl) rfl ?_
                refine SOp.mk _ _ (SPos.mk E.r rfl (by omega) (And.intro rfl rfl)) rfl ?_
                refine SOp.mk _ _ (SIdxA.plc (E.r + 0) rfl (by omega) (And.intro rfl rfl)) rfl ?_
                repeat refine SOp.mk _ _ (And.intro rfl rfl) rfl ?_
                refine SOp.mk _ _ (SPos.mk j rfl (by omega) (And.intro rfl rfl)) rfl ?_
                refine SOp.mk _ _ (SRow.plr (r2 _ (by omega)) <| SIdx.rv (j + 0) (B E.r j) rfl (by omega) (cr j (by omega)) (And.intro rfl rfl)) rfl ?_
                refine SOp.mk _ _ (SCall.pure (rover_ok (B q j) (B E.r j) hB0 (bq j (by omega)) (br j (by omega)) (by omega)) (And.intro rfl rfl)) rfl ?_
                repeat refine SOp.mk _ _ (And.intro rfl rfl) rfl ?_
                refine SFin.mk (by kernel_rfl) ?_
                refine SLoop.mk (Nat × (Nat → Nat → Rat)) (fun (k, G) => ([(0, .p (matP m m' i w A0)), (1, .p (.int .i64 i)), (5, .bptr 0 0), (7, .vec 1 1 0 i), (9, .bptr 3 0), (10, .p (.int .i64 E.r)), (11, .p (.int .i64 j)), (13, .p (.int .i64 q)), (14, .bptr 4 0), (15, .p (.int .i64 k))],
                    [.box 37 [.p (.bool false), .p (.sl false 1 []), .p (.sl false 1 [])], .rows 25 (plc 2 w i (upd (upd s (p + 0) (s (E.r + 0))) (E.r + 0) (s (p + 0)))), .pool 37 3 (plr i w G), .box 37 (bxQ (((-E.det)) * B E.r j)), .box 37 (bxQ (B q j / B E.r j))]))
                  (fun (k, G) => j ≤ k ∧ k ≤ w ∧ ∀ t c, t < i → c < w → G ((upd (upd s (p + 0) (s (E.r + 0))) (E.r + 0) (s (p + 0))) t) c = if t = q then (if c < k then redM B E.r j q c else B q c) else G1 ((upd (upd s (p + 0) (s (E.r + 0))) (E.r + 0) (s (p + 0))) t) c) (fun x => w - x.1) (j, G1) [0, 1, 2, 3, 4]
                  ⟨Nat.le_refl _, by omega, init5 cq⟩
                  ⟨rfl, by simp, rfl, rfl, rfl, ⟨rfl, rfl, rfl, rfl, rfl, rfl, rfl, rfl, rfl, rfl, trivial⟩, ⟨rfl, congrArg _ (plc_ren 2 rfl (by decide)), rfl, rfl, rfl, rows_in fun q hq => by simpa [plenAt] using r2 q hq, trivial⟩⟩ ?_
                intro ⟨k, G2⟩ ⟨k1, k2, k3⟩
                refine SPos.mk q rfl hqi ?_
                refine SIdxA.plc (q + 0) rfl (by omega) ?_
                refine SZ.mk (w : Int) rfl ?_
                by_cases hkw : k < w
                · refine SCmp.yes (decide_eq_true (by omega)) ?_
                  have dq : G2 ((upd (upd s (p + 0) (s (E.r + 0))) (E.r + 0) (s (p + 0))) q) k = B q k := by rw [k3 q k hqi hkw, if_pos rfl, if_neg (by omega)]
                  have dr : G2 ((upd (upd s (p + 0) (s (E.r + 0))) (E.r + 0) (s (p + 0))) E.r) k = B E.r k := by rw [k3 E.r k (by omega) hkw, if_neg (by omega)]; exact cr k hkw
                  have m1 := ((bq j (by omega)).div (br j (by omega))).mul (br k hkw)
                  refine SDraw.mkX (by kernel_rfl) ?_
                  repeat refine SOp.mk _ _ (And.intro rfl rfl) rfl ?_
                  refine SOp.mk _ _ (SPos.mk q rfl hqi (And.intro rfl rfl)) rfl ?_
                  refine SOp.mk _ _ (SIdxA.plc (q + 0) rfl (by omega) (And.intro rfl rfl)) rfl ?_
                  repeat refine SOp.mk _ _ (And.intro rfl rfl) rfl ?_
                  refine SOp.mk _ _ (SPos.mk q rfl hqi (And.intro rfl rfl)) rfl ?_
                  refine SOp.mk _ _ (SIdxA.plc (q + 0) rfl (by omega) (And.intro rfl rfl)) rfl ?_
                  repeat refine SOp.mk _ _ (And.intro rfl rfl) rfl ?_
                  refine SOp.mk _ _ (SPos.mk k rfl hkw (And.intro rfl rfl)) rfl ?_
                  refine SOp.mk _ _ (SRow.plr (r2 _ (by omega)) <| SIdx.rv (k + 0) (B q k) rfl (by omega) dq (And.intro rfl rfl)) rfl ?_
                  repeat refine SOp.mk _ _ (And.intro rfl rfl) rfl ?_
                  refine SOp.mk _ _ (SPos.mk E.r rfl (by omega) (And.intro rfl rfl)) rfl ?_
                  refine SOp.mk _ _ (SIdxA.plc (E.r + 0) rfl (by omega) (And.intro rfl rfl)) rfl ?_
                  repeat refine SOp.mk _ _ (And.intro rfl rfl) rfl ?_
                  refine SOp.mk _ _ (SPos.mk k rfl hkw (And.intro rfl rfl)) rfl ?_
                  refine SOp.mk _ _ (SRow.plr (r2 _ (by omega)) <| SIdx.rv (k + 0) (B E.r k) rfl (by omega) dr (And.intro rfl rfl)) rfl ?_
                  refine SOp.mk _ _ (SCall.pure (rmulq_ok _ _ ((bq j (by omega)).div (br j (by omega))) (br k hkw) (by omega)) (And.intro rfl rfl)) rfl ?_
                  refine SOp.mk _ _ (SCall.pure (rsubq_ok _ _ (bq k hkw) m1 (by omega)) (And.intro rfl rfl)) rfl ?_
                  refine SOp.mk _ _ (SPos.mk k rfl hkw (And.intro rfl rfl)) rfl ?_
                  refine SOp.mk _ _ (SRow.plr (r2 _ (by omega)) <| SLt.rf (show k + 0 < w by omega) <| SEs.rf (And.intro rfl rfl)) rfl ?_
                  refine SPool.plr (r2 _ (by omega)) ?_
                  refine SFin.mk (by kernel_rfl) ?_
                  refine SWrap.i64z ((k + 1 : Nat) : Int) (by omega) (by omega) ?_
                  refine ⟨(k + 1, _), [0, 1, 2, 3, 4], ⟨by omega, hkw, ?_⟩, by show w - (k + 1) < w - k; omega, ⟨rfl, by simp, rfl, rfl, rfl, ⟨rfl, rfl, rfl, rfl, rfl, rfl, rfl, rfl, rfl, rfl, trivial⟩, ⟨rfl, congrArg _ (plc_ren 2 rfl (by decide)), rfl, rfl, rfl, rows_in fun q hq => by simpa [plenAt] using r2 q hq, trivial⟩⟩⟩
                  exact upd2_step r3 hqi hkw k3 (redM_gt q1 k1).symm
                · refine SCmp.no (decide_eq_false (by omega)) ?_
                  obtain rfl : k = w := by omega
                  refine SWrap.i64z ((q + 1 : Nat) : Int) (by omega) (by omega) ?_
                  refine ⟨(q + 1, G2), [0, 1, 2, 3], ⟨by omega, hqi, fun t c ht hc => ?_⟩, by show i - (q + 1) < i - q; omega, ⟨rfl, by simp, rfl, rfl, rfl, ⟨rfl, rfl, rfl, rfl, rfl, rfl, rfl, rfl, trivial⟩, ⟨rfl, congrArg _ (plc_ren 2 rfl (by decide)), rfl, rfl, rows_in fun q hq => by simpa [plenAt] using r2 q hq, trivial⟩⟩⟩
                  rw [k3 t c ht hc]
                  by_cases e : t = q
                  · rw [if_pos e, if_pos hc, e, if_pos (by omega)]
                  · rw [if_neg e, q3 t c ht hc]
                    by_cases e2 : t < q
                    · rw [if_pos e2, if_pos (by omega)]
                    · rw [if_neg e2, if_neg (by omega)]
            · refine SCmp.no (decide_eq_false (by omega)) ?_
              obtain rfl : q = i := by omega
              refine SWrap.i64z ((E.r + 1 : Nat) : Int) (by omega) (by omega) ?_
              refine SWrap.i64z ((j + 1 : Nat) : Int) (by omega) (by omega) ?_
              refine ⟨(j + 1, (upd (upd s (p + 0) (s (E.r + 0))) (E.r + 0) (s (p + 0))), G1, ⟨redM B E.r j, ((-E.det)) * B E.r j, E.r + 1⟩), [0, 1, 2, 3], ⟨hji, hE2.symm, r2, r3, fun t c ht hc => ?_⟩, by show q - (j + 1) < q - j; omega, ⟨rfl, by simp, rfl, rfl, rfl, ⟨rfl, rfl, rfl, rfl, rfl, rfl, rfl, trivial⟩, ⟨rfl, congrArg _ (plc_ren 2 rfl (by decide)), rfl, rfl, rows_in fun q hq => by simpa [plenAt] using r2 q hq, trivial⟩⟩⟩
              rw [q3 t c ht hc, if_pos ht]
      · refine SCmp.no (decide_eq_false (by omega)) ?_
        obtain rfl : p = i := by omega
        have hpv := found (.inl rfl)
        have hE2 : elim p A0 (j + 1) = ⟨E.A, 0, E.r⟩ := by rw [hE1]; unfold elS; rw [hpv, if_pos (Nat.le_refl _)]
        refine SZ.mk (p : Int) rfl ?_
        refine SCmp.yes (decide_eq_true (by omega)) ?_
        refine SCall.pure (rzero_ok) ?_
        refine SWrap.i64z ((j + 1 : Nat) : Int) (by omega) (by omega) ?_
        exact ⟨(j + 1, s, G, ⟨E.A, 0, E.r⟩), [0, 1, 2, 3], ⟨hji, hE2.symm, g2, g3, g4⟩, by show p - (j + 1) < p - j; omega, ⟨rfl, by simp, rfl, rfl, rfl, ⟨rfl, rfl, rfl, rfl, rfl, rfl, rfl, trivial⟩, ⟨rfl, congrArg _ (plc_ren 2 rfl (by decide)), rfl, rfl, rows_in fun q hq => by simpa [plenAt] using g2 q hq, trivial⟩⟩⟩
    · refine SCmp.no (decide_eq_false (by omega)) ?_
      obtain rfl : j = i := by omega
      rw [← g0]
      refine SDraw.mkX (by kernel_rfl) ?_
      repeat refine SOp.mk _ _ (And.intro rfl rfl) rfl ?_
      refine SFin.mk (by kernel_rfl) ?_
      have e : matP false false j w E.A = matP false false j w fun q => G (s q) := matP_congr fun q k hq hk => (g4 q k hq hk).symm
      rw [e]
      refine SRet.pure (.tup rfl fun a c d e1 e2 => ?_)
      match a, e1, e2 with
      | 0, e1, e2 => cases e1; cases e2; exact frzM (h := 1) (p := 2) rfl rfl g2
      | 1, e1, e2 => cases e1; cases e2; exact .p _ (pers_rat _ _ _)
      | 2, e1, e2 => cases e1; cases e2; exact .p _ (.int _ _)
end Go.Proofs.Ytkaooejeljdbnaa
