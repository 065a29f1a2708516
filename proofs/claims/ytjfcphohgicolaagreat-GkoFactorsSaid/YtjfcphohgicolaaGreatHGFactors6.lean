/- FGFactors: what its proof needs, part 6. -/
import Derived.Test.YtjfcphohgicolaaGreatHGFactors5
set_option linter.unusedVariables false
set_option linter.unusedSimpArgs false
namespace Go.Proofs.YtjfcphohgicolaaGreat
open Go
set_option linter.unusedVariables false
set_option linter.unusedSimpArgs false
set_option maxRecDepth 10000
theorem kbelow_ok (i j : Nat) : CallP Tryz.prog 80 [pairP i j] (.p (.bool (decide (j < i)))) [] := by
  by_cases c : j < i
  · rw [decide_eq_true c]
    refine callG_of_vc (wr := wr0) Γok mixed Tryz.func80 (by kernel_rfl) rfl (by kernel_rfl) (le_of_ble rfl) (by simp) ?_
    refine SZ.mk (i : Int) (by show (if (j : Int) > i then (j : Int) else i) = i; split <;> omega) ?_
    have h1 : ((i : Int) == (i : Int)) = true := eqT rfl
    have h2 : ((j : Int) == (i : Int)) = false := eqF (by omega)
    refine SCmp.yes (by rw [h1, h2]; rfl) ?_
    refine SCmp.yes (decide_eq_true (by omega)) ?_
    exact SRet.pure (.tf _)
  · rw [decide_eq_false c]
    refine callG_of_vc (wr := wr0) Γok mixed Tryz.func80 (by kernel_rfl) rfl (by kernel_rfl) (le_of_ble rfl) (by simp) ?_
    refine SZ.mk (j : Int) (by show (if (j : Int) > i then (j : Int) else i) = j; split <;> omega) ?_
    have h1 : ((i : Int) == (i : Int)) = true := eqT rfl
    have h2 : ((j : Int) == (j : Int)) = true := eqT rfl
    refine SCmp.no (by rw [h1, h2]; rfl) ?_
    exact SRet.pure (.tf _)
def gtk (n : Nat) (A : Nat → Nat → Rat) : Nat → List (PV × PV)
  | 0 => []
  | k + 1 => gtk n A k ++ fl (n - 1 - k) (gtE (gk n A (k + 1)).s (gkP n A k) k)
theorem gtk_key {n : Nat} {A : Nat → Nat → Rat} : ∀ k, KeyB (gtk n A k) k := by
  intro k
  induction k with
  | zero => intro e he; simp [gtk] at he
  | succ k ih => exact ih.app
theorem gtk_get {n : Nat} {A : Nat → Nat → Rat} : ∀ k, k ≤ n → ∀ i j, i < n → j < i → j < k → ∃ a : Nat, (gtk n A k)[a]? = some (pairP ((gk n A k).s i) j, ratP ((gk n A k).M i j)) ∧
    ∀ (b : Nat) e', b ≠ a → (gtk n A k)[b]? = some e' → PV.keq (pairP ((gk n A k).s i) j) e'.1 = false := by
  intro k
  induction k with
  | zero => intro _ i j _ _ h; exact absurd h (Nat.not_lt_zero _)
  | succ k ih =>
    intro hk i j hi hji hjk
    obtain ⟨p1, p2, _⟩ := pvt_spec (B := (gk n A k).B) (n := n) (k := k) (by omega)
    obtain ⟨_, inj, _⟩ := gk_perm (n := n) (A := A) (k + 1) hk
    have news : ∀ (b : Nat) e', (fl (n - 1 - k) (gtE (gk n A (k + 1)).s (gkP n A k) k))[b]? = some e' → ∃ d, d = b ∧ k + 1 + d < n ∧ e' = gtE (gk n A (k + 1)).s (gkP n A k) k d := fun b e' he => by
      obtain ⟨hb, rfl⟩ := fl_get_iff.1 he
      exact ⟨b, rfl, by omega, rfl⟩
    simp only [gtk]
    by_cases e : j = k
    · subst e
      have eM : (gk n A (j + 1)).M i j = gkP n A j i j / gkP n A j j j := by rw [gk_succ]; show mulS _ _ j i j = _; unfold mulS; rw [if_pos rfl, if_pos hji]
      refine ⟨(gtk n A j).length + (i - (j + 1)), ?_, fun b e' hb he => ?_⟩
      · rw [List.getElem?_append_right (by omega), show (gtk n A j).length + (i - (j + 1)) - (gtk n A j).length = i - (j + 1) by omega, fl_get (by omega), eM]
        simp only [gtE]
        rw [show j + 1 + (i - (j + 1)) = i by omega]
      · by_cases hl : b < (gtk n A j).length
        · rw [List.getElem?_append_left hl] at he
          obtain ⟨r, j', v, rfl, hj'⟩ := gtk_key j e' (List.mem_of_getElem? he)
          rw [keq_pair]; exact decide_eq_false fun h => by omega
        · rw [List.getElem?_append_right (by omega)] at he
          obtain ⟨d, hd, hdn, rfl⟩ := news _ _ he
          rw [keq_pair]
          exact decide_eq_false fun ⟨h, _⟩ => by have := inj _ _ hi hdn h; omega
    · have hi' := swp_lt p2 (show k < n by omega) hi
      have hji' : j < (if i = pvt (gk n A k).B n k then k else if i = k then pvt (gk n A k).B n k else i) := by
        by_cases c : i < k
        · rw [swp_low p1 c]; exact hji
        · have := swp_ge' p1 (show k ≤ i by omega); omega
      obtain ⟨a, h1, h2⟩ := ih (by omega) _ j hi' hji' (by omega)
      have eS : (gk n A (k + 1)).s i = (gk n A k).s (if i = pvt (gk n A k).B n k then k else if i = k then pvt (gk n A k).B n k else i) := by rw [gk_succ]; rfl
      have eM : (gk n A (k + 1)).M i j = (gk n A k).M (if i = pvt (gk n A k).B n k then k else if i = k then pvt (gk n A k).B n k else i) j := by rw [gk_succ]; exact if_neg e
      have hl := (List.getElem?_eq_some_iff.1 h1).1
      refine ⟨a, by rw [List.getElem?_append_left hl, eS, eM]; exact h1, fun b e' hb he => ?_⟩
      by_cases hl : b < (gtk n A k).length
      · rw [List.getElem?_append_left hl] at he; rw [eS]; exact h2 b e' hb he
      · rw [List.getElem?_append_right (by omega)] at he
        obtain ⟨d, hd, hdn, rfl⟩ := news _ _ he
        rw [keq_pair]; exact decide_eq_false fun h => by omega
/-- What is worked on, lent. -/
abbrev gkPtr (n : Nat) (rows : List PV) (s : Nat → Nat) (es : List (PV × PV)) (q : Rat) : PV := .pel true (.agg [.sl true 1 rows, .sl true 1 (permP n s), .mp true es, .bool (decide (q.num < 0)), natP q.num.natAbs, natP q.den])
theorem glower_ok (n : Nat) (A : Nat → Nat → Rat) (rows : List PV) (q : Rat) {D : Nat} (i j : Nat) (hi : i < n) (hj : j < n) (hz : Bz (gL n A i j) D) (hD : D ≤ 1000000) :
    CallP Tryz.prog 45 [gkPtr n rows (gO n A) (gtk n A n) q, pairP i j] (.p (ratP (gL n A i j))) [] := by
  by_cases e : i = j
  · subst e
    rw [gL_diag hi]
    refine callG_of_vc (wr := wr0) Γok mixed Tryz.func45 (by kernel_rfl) rfl (by kernel_rfl) (le_of_ble rfl) (by simp) ?_
    refine SCmp.yes (eqT rfl) ?_
    refine SCall.pure (kone_ok) ?_
    exact SRet.pure (.p _ (pers_rat _ _ _))
  · have hb := kbelow_ok i j
    by_cases c : j < i
    · rw [decide_eq_true c] at hb
      obtain ⟨a, h1, h2⟩ := gtk_get (A := A) n (Nat.le_refl _) i j hi c hj
      refine callG_of_vc (wr := wr0) Γok mixed Tryz.func45 (by kernel_rfl) rfl (by kernel_rfl) (le_of_ble rfl) (by simp) ?_
      refine SCmp.no (eqF (by omega)) ?_
      refine SCall.pure (hb) ?_
      refine SCond.mk (fun _ => ?_) (fun h => by cases h)
      refine SDraw.mkX (by kernel_rfl) ?_
      repeat refine SOp.mk _ _ (And.intro rfl rfl) rfl ?_
      refine SOp.mk _ _ (SIdx.perm i rfl hi (And.intro rfl rfl)) rfl ?_
      repeat refine SOp.mk _ _ (And.intro rfl rfl) rfl ?_
      refine SOp.mk _ _ (SKeys.kb (gtk_key n) (fun _ _ => rfl) <| SGet.yes a _ h1 (by rw [keq_pair]; exact decide_eq_true ⟨rfl, rfl⟩) h2 (And.intro rfl rfl)) rfl ?_
      refine SOp.mk _ _ (SCall.pure (kzero_ok) (And.intro rfl rfl)) rfl ?_
      refine SOp.mk _ _ (SCall.pure (gcopy_ok hz hD) (And.intro rfl rfl)) rfl ?_
      repeat refine SOp.mk _ _ (And.intro rfl rfl) rfl ?_
      refine SFin.mk (by kernel_rfl) ?_
      exact SRet.pure (.p _ (pers_rat _ _ _))
    · rw [decide_eq_false c] at hb
      rw [gL_up hi (by omega)]
      refine callG_of_vc (wr := wr0) Γok mixed Tryz.func45 (by kernel_rfl) rfl (by kernel_rfl) (le_of_ble rfl) (by simp) ?_
      refine SCmp.no (eqF (by omega)) ?_
      refine SCall.pure (hb) ?_
      refine SCond.mk (fun h => by cases h) (fun _ => ?_)
      refine SCall.pure (kzero_ok) ?_
      exact SRet.pure (.p _ (pers_rat _ _ _))
abbrev halv (p c n k q c' : Nat) : List AV := fl n fun i => if i < k then .vec (.r p i) 3 0 c else if i = k then .vec (.t q) 3 0 c' else .emp
theorem half_get {p c n k : Nat} (h : k < n) : (half p c n k)[k]? = some .emp := by rw [fl_get h, if_neg (Nat.lt_irrefl k)]
theorem half_setv {p c n k q c' : Nat} : (half p c n k).set k (.vec (.t q) 3 0 c') = halv p c n k q c' := by
  rw [fl_set]
  refine fl_congr fun i _ => ?_
  unfold upd
  by_cases e : i = k
  · rw [if_pos e, if_neg (by omega), if_pos e]
  · rw [if_neg e]
    show (if i < k then AV.vec (.r p i) 3 0 c else .emp) = _
    by_cases e2 : i < k
    · rw [if_pos e2, if_pos e2]
    · rw [if_neg e2, if_neg e2, if_neg e]
theorem halv_get {p c n k q c' : Nat} (h : k < n) : (halv p c n k q c')[k]? = some (.vec (.t q) 3 0 c') := by rw [fl_get h, if_neg (Nat.lt_irrefl k), if_pos rfl]
theorem halv_set {p c n k q c' q2 c2 : Nat} : (halv p c n k q c').set k (.vec (.t q2) 3 0 c2) = halv p c n k q2 c2 := by
  rw [fl_set]
  refine fl_congr fun i _ => ?_
  unfold upd
  by_cases e : i = k
  · rw [if_pos e, if_neg (by omega), if_pos e]
  · rw [if_neg e]
    show (if i < k then AV.vec (.r p i) 3 0 c else if i = k then AV.vec (.t q) 3 0 c' else .emp) = _
    by_cases e2 : i < k
    · rw [if_pos e2, if_pos e2]
    · rw [if_neg e2, if_neg e2, if_neg e, if_neg e]
theorem halv_ren {hs : List Nat} {P : Hp} {p c n k q c' : Nat} (p' q' : Nat) (hp : hs.getD p 0 = p') (hp' : p' < 1000) (hq : hs.getD q 0 = q') (hq' : q' < 1000) : AV.renL (renW hs P) (halv p c n k q c') = halv p' c n k q' c' := by
  rw [renL_fl]
  refine fl_congr fun i hi => ?_
  have eb : Nat.blt p' 1000 = true := blt_iff.2 hp'
  have ec : Nat.blt q' 1000 = true := blt_iff.2 hq'
  by_cases e : i < k
  · rw [if_pos e, if_pos e]; simp only [AV.ren, renW, hp, eb, cond_true]
  · rw [if_neg e, if_neg e]
    by_cases e2 : i = k
    · rw [if_pos e2, if_pos e2]; simp only [AV.ren, renW, hq, ec, cond_true]; rw [show ptop q' = q' from Nat.mod_eq_of_lt hq']
    · rw [if_neg e2, if_neg e2]; simp only [AV.ren]
theorem half_ren {hs : List Nat} {P : Hp} {p c n k : Nat} (p' : Nat) (hp : hs.getD p 0 = p') (hp' : p' < 1000) : AV.renL (renW hs P) (half p c n k) = half p' c n k := by
  rw [renL_fl]
  refine fl_congr fun i hi => ?_
  have eb : Nat.blt p' 1000 = true := blt_iff.2 hp'
  by_cases e : i < k
  · rw [if_pos e, if_pos e]; simp only [AV.ren, renW, hp, eb, cond_true]
  · rw [if_neg e, if_neg e]; simp only [AV.ren]
theorem halv_in {P : Hp} {p c n k q c' : Nat} (h : ∀ i, i < k → i < plenAt P p) (hq : look P (.t q) ≠ .free) : ∀ x ∈ halv p c n k q c', ∀ h, x.men h → look P h ≠ .free := by
  intro x hx g hg
  obtain ⟨i, hi, rfl⟩ := fl_mem hx
  by_cases e : i < k
  · rw [if_pos e] at hg
    simp only [AV.men] at hg
    subst hg
    exact look_row (h i e)
  · rw [if_neg e] at hg
    by_cases e2 : i = k
    · rw [if_pos e2] at hg
      simp only [AV.men] at hg
      subst hg; exact hq
    · rw [if_neg e2] at hg; exact hg.elim
theorem gown_ok (m m' : Bool) (n : Nat) (A : Nat → Nat → Rat) {D : Nat} (n1 : 1 ≤ n) (hn : n ≤ 1000) (hA : ∀ i j, i < n → j < n → Bz (A i j) D) (hD : D ≤ 1000000) :
    CallP Tryz.prog 44 [matP m m' n n A] (.p (matP false false n n A)) [] := by
  refine callG_of_vc (wr := wr0) Γok mixed Tryz.func44 (by kernel_rfl) rfl (by kernel_rfl) (le_of_ble rfl) (by simp) ?_
  refine SZ.mk (n : Int) (by simp) ?_
  refine SZ.mk (n : Int) rfl ?_
  refine SLt.mk (by simp) ?_
  refine SMake.mk n rfl (by simp; omega) (by omega) ?_
  refine SMk.rows ?_
  refine SZ.mk (n : Int) (by simp) ?_
  refine SLoop.mkT Nat (fun i => ([(0, .p (matP m m' n n A)), (3, .vec 0 1 0 n), (11, .p (.int .i64 n)), (12, .p (.int .i64 (i : Nat)))], [.rows 24 (half 1 n n i), .pool 31 3 (plr i n A)]))
    (fun i => i ≤ n) (fun i => n - i) 0 [0, 1] _ _ (.pool 31 3 (.done _ _)) (Nat.zero_le _) ⟨rfl, by simp, rfl, rfl, rfl, ⟨rfl, rfl, rfl, rfl, trivial⟩, ⟨congrArg _ half_ren0, rfl, half_in fun i hi => absurd hi (Nat.not_lt_zero _), trivial⟩⟩ ?_
  intro i hi
  have hi : i ≤ n := hi
  by_cases hin : i < n
  · refine SCmp.yes (decide_eq_true (by omega)) ?_
    refine SIdx.mf i rfl hin ?_
    refine SZ.mk (n : Int) (by simp [lst]) ?_
    refine SLoop.mk Nat (fun j => match j with
        | 0 => ([(0, .p (matP m m' n n A)), (3, .vec 0 1 0 n), (4, .p (.int .i64 (i : Nat))), (11, .p (.int .i64 n)), (12, .p (.int .i64 (i : Nat))), (18, .p (ratsM m' (lst n (A i)))), (19, .p (.int .i64 n)), (20, .p (.int .i64 0))], [.rows 24 (half 1 n n i), .pool 31 3 (plr i n A)])
        | j + 1 => ([(0, .p (matP m m' n n A)), (3, .vec 0 1 0 n), (4, .p (.int .i64 (i : Nat))), (11, .p (.int .i64 n)), (12, .p (.int .i64 (i : Nat))), (18, .p (ratsM m' (lst n (A i)))), (19, .p (.int .i64 n)), (20, .p (.int .i64 ((j + 1 : Nat) : Int)))], [.rows 24 (halv 1 n n i 2 (j + 1)), .pool 31 3 (plr i n A), .vec 31 3 (rats (lst (j + 1) (A i)))]))
      (fun j => j ≤ n) (fun j => n - j) 0 [0, 1] (Nat.zero_le _) ⟨rfl, by simp, rfl, rfl, rfl, ⟨rfl, rfl, rfl, rfl, rfl, rfl, rfl, rfl, trivial⟩, ⟨congrArg _ (half_ren 1 rfl (by decide)), rfl, half_in fun i hi => by simpa [plenAt] using hi, trivial⟩⟩ ?_
    intro j hj
    match j, hj with
    | 0, hj =>
      refine SCmp.yes (decide_eq_true (by omega)) ?_
      refine SIdx.rf 0 rfl (by omega) ?_
      refine SDraw.mkX (by kernel_rfl) ?_
      repeat refine SOp.mk _ _ (And.intro rfl rfl) rfl ?_
      refine SOp.mk _ _ (SPos.mk i rfl hin (And.intro rfl rfl)) rfl ?_
      refine SOp.mk _ _ (SIdxA.mk (i + 0) _ rfl (half_get hin) (And.intro rfl rfl)) rfl ?_
      repeat refine SOp.mk _ _ (And.intro rfl rfl) rfl ?_
      refine SOp.mk _ _ (SCall.pure (kzero_ok) (And.intro rfl rfl)) rfl ?_
      refine SOp.mk _ _ (SCall.pure (gcopy_ok (hA i 0 hin (by omega)) hD) (And.intro rfl rfl)) rfl ?_
      repeat refine SOp.mk _ _ (And.intro rfl rfl) rfl ?_
      refine SOp.mk _ _ (SView.all rfl <| SRoom.mk (by simp) (by simp) (And.intro rfl rfl)) rfl ?_
      repeat refine SOp.mk _ _ (And.intro rfl rfl) rfl ?_
      refine SOp.mk _ _ (SPos.mk i rfl hin (And.intro rfl rfl)) rfl ?_
      refine SOp.mk _ _ (SLt.mk (by simp; omega) <| SAs.mk (halv 1 n n i 4 1) half_setv (And.intro rfl rfl)) rfl ?_
      repeat refine SOp.mk _ _ (And.intro rfl rfl) rfl ?_
      refine SFin.mk (by kernel_rfl) ?_
      refine SWrap.i64z ((0 + 1 : Nat) : Int) (by omega) (by omega) ?_
      exact ⟨1, [0, 1, 4], n1, by show n - 1 < n - 0; omega, ⟨rfl, by simp, rfl, rfl, rfl, ⟨rfl, rfl, rfl, rfl, rfl, rfl, rfl, rfl, trivial⟩, ⟨congrArg _ (halv_ren 1 4 rfl (by decide) rfl (by decide)), rfl, rfl, halv_in (fun i hi => by simpa [plenAt] using hi) (fun e => by cases e), trivial⟩⟩⟩
    | j + 1, hj =>
      have hj : j + 1 ≤ n := hj
      by_cases hjn : j + 1 < n
      · refine SCmp.yes (decide_eq_true (by omega)) ?_
        refine SIdx.rf (j + 1) rfl hjn ?_
        refine SDraw.mkX (by kernel_rfl) ?_
        repeat refine SOp.mk _ _ (And.intro rfl rfl) rfl ?_
        refine SOp.mk _ _ (SPos.mk i rfl hin (And.intro rfl rfl)) rfl ?_
        refine SOp.mk _ _ (SIdxA.mk (i + 0) _ rfl (halv_get hin) (And.intro rfl rfl)) rfl ?_
        repeat refine SOp.mk _ _ (And.intro rfl rfl) rfl ?_
        refine SOp.mk _ _ (SCall.pure (kzero_ok) (And.intro rfl rfl)) rfl ?_
        refine SOp.mk _ _ (SCall.pure (gcopy_ok (hA i (j + 1) hin hjn) hD) (And.intro rfl rfl)) rfl ?_
        repeat refine SOp.mk _ _ (And.intro rfl rfl) rfl ?_
        refine SOp.mk _ _ (SEqN.mk (by simp [lst]) <| SView.all rfl <| SRoom.mk (by simp [lst]; omega) (by simp [lst]; omega) <| SEs.mk (rats (lst (j + 1 + 1) (A i))) (app_lst _ _ _ (rfl)) <| SZN.mk (j + 1 + 1) (by simp [lst]) (And.intro rfl rfl)) rfl ?_
        repeat refine SOp.mk _ _ (And.intro rfl rfl) rfl ?_
        refine SOp.mk _ _ (SPos.mk i rfl hin (And.intro rfl rfl)) rfl ?_
        refine SOp.mk _ _ (SLt.mk (by simp; omega) <| SAs.mk (halv 1 n n i 5 (j + 1 + 1)) halv_set (And.intro rfl rfl)) rfl ?_
        repeat refine SOp.mk _ _ (And.intro rfl rfl) rfl ?_
        refine SFin.mk (by kernel_rfl) ?_
        refine SWrap.i64z ((j + 1 + 1 : Nat) : Int) (by omega) (by omega) ?_
        exact ⟨j + 1 + 1, [0, 1, 5], hjn, by show n - (j + 1 + 1) < n - (j + 1); omega, ⟨rfl, by simp, rfl, rfl, rfl, ⟨rfl, rfl, rfl, rfl, rfl, rfl, rfl, rfl, trivial⟩, ⟨congrArg _ (halv_ren 1 5 rfl (by decide) rfl (by decide)), rfl, rfl, halv_in (fun i hi => by simpa [plenAt] using hi) (fun e => by cases e), trivial⟩⟩⟩
      · refine SCmp.no (decide_eq_false (by omega)) ?_
        obtain rfl : n = j + 1 := by omega
        refine SWrap.i64z ((i + 1 : Nat) : Int) (by omega) (by omega) ?_
        exact ⟨i + 1, [0, 3001], hin, by show j + 1 - (i + 1) < j + 1 - i; omega, ⟨rfl, by simp, rfl, rfl, rfl, ⟨rfl, rfl, rfl, rfl, trivial⟩, ⟨congrArg _ (half_absorb rfl (by decide) (by simp [plenAt])), ⟨_, _, _, _, rfl, rfl, congrArg _ plr_snoc⟩, half_in fun i hi => by simpa [plenAt] using hi, trivial⟩⟩⟩
  · refine SCmp.no (decide_eq_false (by omega)) ?_
    obtain rfl : i = n := by omega
    exact SRet.pure (frzM (H := [_, _]) (h := 0) (p := 1) (congrArg (Blk.rows _) half_full) rfl fun i hi => hi)
end Go.Proofs.YtjfcphohgicolaaGreat

namespace Go.Proofs.YtjfcphohgicolaaGreat
open Go
set_option linter.unusedVariables false
set_option linter.unusedSimpArgs false
set_option maxRecDepth 10000
theorem rall_ok (m m' q q' : Bool) (n w : Nat) (A : Nat → Nat → Rat) {a : Nat} (hA : ∀ i k, i < n → k < w → Bz (A i k) a) (ha : a + a ≤ 1048576) (hn : n ≤ 1000) (hw : w ≤ 1000) :
    CallP Tryz.prog 37 [matP m m' n w A, matP q q' n w A] (.p (.bool true)) [] := by
  refine callG_of_vc (wr := wr0) Γok mixed Tryz.func37 (by kernel_rfl) rfl (by kernel_rfl) (le_of_ble rfl) (by simp) ?_
  refine SZ.mk (n : Int) (by simp) ?_
  refine SZ.mk (n : Int) (by simp) ?_
  refine SCmp.no (neF rfl) ?_
  refine SLoop.mk Nat (fun i => ([(0, .p (matP m m' n w A)), (1, .p (matP q q' n w A)), (5, .p (.int .i64 i))], []))
    (fun i => i ≤ n) (fun i => n - i) 0 [] (Nat.zero_le _) ⟨rfl, .nil, rfl, rfl, rfl, ⟨rfl, rfl, rfl, trivial⟩, trivial⟩ ?_
  intro i hi
  have hi : i ≤ n := hi
  refine SZ.mk (n : Int) (by simp) ?_
  by_cases hin : i < n
  · refine SCmp.yes (decide_eq_true (by omega)) ?_
    have hl : Bl (lst w (A i)) a := Bl.lst fun k hk => hA i k hin hk
    have hR := rrows_ok m' q' (lst w (A i)) (lst w (A i)) hl hl ha (by rw [lst_length]; omega)
    rw [decide_eq_true rfl] at hR
    refine SDraw.mk (by kernel_rfl) ?_
    repeat refine SOp.mk _ _ (And.intro rfl rfl) rfl ?_
    refine SOp.mk _ _ (SIdx.mf i rfl hin (And.intro rfl rfl)) rfl ?_
    repeat refine SOp.mk _ _ (And.intro rfl rfl) rfl ?_
    refine SOp.mk _ _ (SIdx.mf i rfl hin (And.intro rfl rfl)) rfl ?_
    repeat refine SOp.mk _ _ (And.intro rfl rfl) rfl ?_
    refine SOp.mk _ _ (SCall.pure (hR) (And.intro rfl rfl)) rfl ?_
    refine SOp.mk _ _ (SCmp.no rfl (And.intro rfl rfl)) rfl ?_
    refine SWrap.i64z ((i + 1 : Nat) : Int) (by omega) (by omega) ?_
    exact ⟨i + 1, [], hin, by show n - (i + 1) < n - i; omega, ⟨rfl, .nil, rfl, rfl, rfl, ⟨rfl, rfl, rfl, trivial⟩, trivial⟩⟩
  · refine SCmp.no (decide_eq_false (by omega)) ?_
    exact SRet.pure (.tf _)
/-- What is told of a tree is told of another one. -/
def PRle (p' p : PV) : Prop := ∀ w FB v, PR w FB p' v → PR w FB p v
theorem PRle.refl (p : PV) : PRle p p := fun _ _ _ h => h
theorem PRle.nil (m : Bool) (W : Nat) : PRle (.raw (.slice none 0 0)) (.sl m W []) := fun w FB v h => by cases h; exact .nil _ _ _
theorem PRle.agg {cs' cs : List PV} (hl : cs'.length = cs.length) (ho : ∀ c ∈ cs, c.one = true) (h : ∀ (i : Nat) c' c, cs'[i]? = some c' → cs[i]? = some c → PRle c' c) : PRle (.agg cs') (.agg cs) := fun w FB v hv => by
  cases hv with
  | agg _ vs hone hl' h' =>
    refine .agg cs vs ho (by rw [hl', hl]) fun i c v e1 e2 => ?_
    have hi : i < cs'.length := by rw [hl]; exact (List.getElem?_eq_some_iff.1 e1).1
    exact h i cs'[i] c (List.getElem?_eq_getElem hi) e1 _ _ _ (h' i _ v (List.getElem?_eq_getElem hi) e2)
theorem CallG.weak {P : Program} {f : FuncId} {pvs pvs' : List PV} {r : AV} {nb : List Blk} (hc : CallP P f pvs r nb) (hl : pvs'.length = pvs.length) (h : ∀ (i : Nat) p' p, pvs'[i]? = some p' → pvs[i]? = some p → PRle p' p) : CallP P f pvs' r nb :=
  ⟨hc.fn, fun w F Bor β vs ha => hc.run w F Bor β vs { ha with
    len := by rw [ha.len, List.length_map, List.length_map, hl]
    rel := fun i a v e1 e2 => by
      rw [List.getElem?_map] at e1
      cases e : pvs[i]? with
      | none => rw [e] at e1; cases e1
      | some p =>
        rw [e] at e1; cases e1
        have hi : i < pvs'.length := by rw [hl]; exact (List.getElem?_eq_some_iff.1 e).1
        have e' : pvs'[i]? = some pvs'[i] := List.getElem?_eq_getElem hi
        have := ha.rel i (.p pvs'[i]) v (by rw [List.getElem?_map, e']; rfl) e2
        exact .p (h i _ p e' e _ _ _ this.pOf)
    ma := fun a ha k hk => by obtain ⟨v, _, rfl⟩ := List.mem_map.1 ha; simp only [AV.men] at hk }⟩
end Go.Proofs.YtjfcphohgicolaaGreat

namespace Go.Proofs.YtjfcphohgicolaaGreat
open Go
set_option linter.unusedVariables false
set_option linter.unusedSimpArgs false
theorem wf_mkG {k n r : Nat} {ns : List Int} (k1 : 1 ≤ k) (k7 : k ≤ 7) (n1 : 1 ≤ n) (n6 : n ≤ 6) (r1 : k = 6 ∨ k = 7 → 1 ≤ r) (r2 : r ≤ 2) (r0 : k ≤ 5 → r = 0) : Wf (mkG k n r (rowG ns)) 5 13 := by
  have hf : ∀ i, -20 ≤ rowG ns i ∧ rowG ns i ≤ 20 := fun i => smallQ_range _
  have hc := cnt_le (k := k) (r := r) n1 (show n ≤ 8 by omega) (show r ≤ 3 by omega)
  exact {
    k1 := k1, k7 := k7, n1 := n1, n6 := n6, r2 := r2, r1 := r1, r0 := r0
    bA := fun i _ => rowG_bz ns i
    bB := fun i hi => bfix_bz hf (by have hi : i < cntB k n := hi; omega) (hf _) (rowG_bz ns _) _
    bG := fun i _ => rowG_bz ns _
    bH := fun i _ => rowG_bz ns _
    ne := fun i j hi hj => bfix_ne hf (hf _) (show i < cntA k n from hi)
    bc := by omega
    c4 := by omega }
theorem gmR_ok {k : Nat} (n : Int) : (k = 6 ∨ k = 7 → 1 ≤ gmR k n) ∧ gmR k n ≤ 2 ∧ (k ≤ 5 → gmR k n = 0) := by
  unfold gmR
  refine ⟨fun h => by rw [if_pos h]; omega, by split <;> omega, fun h => if_neg (by omega)⟩
theorem gmN_ok (n most : Int) (h1 : 1 ≤ most) : 1 ≤ gmN n most ∧ (gmN n most : Int) ≤ most := by
  have := Int.emod_nonneg n (show most ≠ 0 by omega)
  have := Int.emod_lt_of_pos n (show (0 : Int) < most by omega)
  unfold gmN
  omega
theorem wf_g13 {g : GV} {ns : List Int} {b c : Nat} (h : Wf g b c) (hk : g.k = 5 ∨ g.k = 7) : Wf (g13 g ns) b c := by
  unfold g13
  split
  · rename_i ht
    have hla : g.la = g.n := h.la3 (by omega)
    have n1 := h.n1
    have ha : ∀ i, i < g.n → ∃ j, j < g.n ∧ upd g.A (g.n - 1) (g.A 0) i = g.A j := fun i hi => by
      by_cases e : i = g.n - 1
      · exact ⟨0, by omega, by rw [e, upd_same]⟩
      · exact ⟨i, hi, upd_other _ _ e⟩
    exact { h with
      bA := fun i hi => by
        obtain ⟨j, hj, e⟩ := ha i (by rw [← hla]; exact hi)
        show Bz (upd g.A (g.n - 1) (g.A 0) i) b
        rw [e]; exact h.bA j (by rw [hla]; exact hj)
      ne := fun i k hi hk => by
        obtain ⟨j, hj, e⟩ := ha i (by rw [← hla]; exact hi)
        show upd g.A (g.n - 1) (g.A 0) i ≠ g.B k
        rw [e]; exact h.ne j k (by rw [hla]; exact hj) hk }
  · exact h
theorem g13_k {g : GV} {ns : List Int} : (g13 g ns).k = g.k := by unfold g13; split <;> rfl
theorem g13_n {g : GV} {ns : List Int} : (g13 g ns).n = g.n := by unfold g13; split <;> rfl
end Go.Proofs.YtjfcphohgicolaaGreat

namespace Go.Proofs.YtjfcphohgicolaaGreat
open Go
set_option linter.unusedVariables false
set_option linter.unusedSimpArgs false
set_option maxRecDepth 10000
/-- Both rows of nodes are lent. -/
def m15 : Nat → Bool
  | 0 => true
  | 1 => true
  | _ => false
theorem PRle.gen {m : Nat → Bool} {g : GV} {k n r : Int} {a b c d : PV} (hk : k = g.k) (hn : n = g.n) (hr : r = g.r) (ha : PRle a (ratsM (m 0) (lst g.la g.A))) (hb : PRle b (ratsM (m 1) (lst g.lb g.B))) (hc : PRle c (ratsM (m 2) (lst g.lh g.G))) (hd : PRle d (ratsM (m 3) (lst g.lh g.H))) :
    PRle (.agg [.int .i64 k, .int .i64 n, .int .i64 r, a, b, c, d]) (genP m g) := by
  subst hk; subst hn; subst hr
  refine PRle.agg rfl (fun c hc => ?_) fun i c' c e1 e2 => ?_
  · simp only [genC, List.mem_cons, List.not_mem_nil, or_false] at hc
    rcases hc with rfl | rfl | rfl | rfl | rfl | rfl | rfl <;> rfl
  · match i, e1, e2 with
    | 0, e1, e2 => cases e1; cases e2; exact .refl _
    | 1, e1, e2 => cases e1; cases e2; exact .refl _
    | 2, e1, e2 => cases e1; cases e2; exact .refl _
    | 3, e1, e2 => cases e1; cases e2; exact ha
    | 4, e1, e2 => cases e1; cases e2; exact hb
    | 5, e1, e2 => cases e1; cases e2; exact hc
    | 6, e1, e2 => cases e1; cases e2; exact hd
theorem CallG.weak1 {P : Program} {f : FuncId} {p p' : PV} {r : AV} {nb : List Blk} (hc : CallP P f [p] r nb) (h : PRle p' p) : CallP P f [p'] r nb :=
  CallG.weak hc rfl fun i p1 p2 e1 e2 => by
    match i, e1, e2 with
    | 0, e1, e2 => cases e1; cases e2; exact h
end Go.Proofs.YtjfcphohgicolaaGreat

namespace Go.Proofs.YtjfcphohgicolaaGreat
open Go
set_option linter.unusedVariables false
set_option linter.unusedSimpArgs false
set_option maxRecDepth 10000
/-- The matrix, handed out as the caller's own. -/
theorem gexpandO_ok (m : Nat → Bool) (g : GV) {b c : Nat} (h : Wf g b c) : CallP Tryz.prog 39 [genP m g] (.vec 0 1 0 g.n) [.rows 24 (plc 1 g.n g.n id), .pool 31 3 (plr g.n g.n (ent g))] := by
  have h6 := h.n6
  have n1 := h.n1
  refine callG_of_vc (wr := wr0) Γok mixed Tryz.func39 (by kernel_rfl) rfl (by kernel_rfl) (le_of_ble rfl) (by simp) ?_
  refine SCall.pure (gcheck_ok m g h) ?_
  refine SCmp.no (rfl) ?_
  refine SZ.mk (g.n : Int) rfl ?_
  refine SLt.mk (by simp) ?_
  refine SMake.mk g.n rfl (by simp; omega) (by omega) ?_
  refine SMk.rows ?_
  refine SZ.mk (g.n : Int) rfl ?_
  refine SLoop.mkT Nat (fun i => ([(1, .bptr 0 0), (3, .vec 1 1 0 g.n), (13, .p (.int .i64 g.n)), (14, .p (.int .i64 i))], [.box 26 (genA m g), .rows 24 (half 2 g.n g.n i), .pool 31 3 (plr i g.n (ent g))]))
    (fun i => i ≤ g.n) (fun i => g.n - i) 0 [0, 1, 2] _ _ (.pool 31 3 (.done _ _)) (Nat.zero_le _) ⟨rfl, by simp, rfl, rfl, rfl, ⟨rfl, rfl, rfl, rfl, trivial⟩, ⟨rfl, congrArg _ half_ren0, rfl, half_in fun i hi => absurd hi (Nat.not_lt_zero _), trivial⟩⟩ ?_
  intro i hi
  have hi : i ≤ g.n := hi
  by_cases hin : i < g.n
  · refine SCmp.yes (decide_eq_true (by omega)) ?_
    refine SZ.mk (g.n : Int) rfl ?_
    refine SLt.mk (by simp) ?_
    refine SMake.rat g.n rfl (by omega) ?_
    refine SPos.mk i rfl hin ?_
    refine SLt.mk (by simp; omega) ?_
    refine SAs.mk (halq 2 g.n g.n i 3) half_set ?_
    refine SPos.mk i rfl hin ?_
    refine SIdxA.mk i _ rfl (halq_get hin) ?_
    refine SZ.mk (g.n : Int) rfl ?_
    refine SLoop.mk (Nat × (Nat → Rat)) (fun (j, F) => ([(1, .bptr 0 0), (3, .vec 1 1 0 g.n), (4, .p (.int .i64 i)), (13, .p (.int .i64 g.n)), (14, .p (.int .i64 i)), (27, .p (.int .i64 g.n)), (28, .p (.int .i64 j))], [.box 26 (genA m g), .rows 24 (halq 2 g.n g.n i 3), .pool 31 3 (plr i g.n (ent g)), .vec 31 3 (fl g.n fun k => if k < j then ratP (ent g i k) else rat0)]))
      (fun (j, F) => j ≤ g.n) (fun x => g.n - x.1) (0, ent g i) [0, 1, 2, 3] (Nat.zero_le _) ⟨rfl, by simp, rfl, rfl, rfl, ⟨rfl, rfl, rfl, rfl, rfl, rfl, rfl, trivial⟩, ⟨rfl, congrArg _ (halq_ren 2 3 rfl (by decide) rfl (by decide)), rfl, congrArg _ ((fl_congr fun k hk => if_neg (by omega)).trans (replicate_fl g.n rat0).symm), halq_in (fun i hi => by simpa [plenAt] using hi) (fun e => by cases e), trivial⟩⟩ ?_
    intro ⟨j, F⟩ hj
    have hj : j ≤ g.n := hj
    by_cases hjn : j < g.n
    · refine SCmp.yes (decide_eq_true (by omega)) ?_
      refine SDraw.mkX (by kernel_rfl) ?_
      repeat refine SOp.mk _ _ (And.intro rfl rfl) rfl ?_
      refine SOp.mk _ _ (SPos.mk i rfl hin (And.intro rfl rfl)) rfl ?_
      refine SOp.mk _ _ (SIdxA.mk i _ rfl (halq_get hin) (And.intro rfl rfl)) rfl ?_
      repeat refine SOp.mk _ _ (And.intro rfl rfl) rfl ?_
      refine SOp.mk _ _ (SCall.pure (gentry_ok m g h i j hin hjn) (And.intro rfl rfl)) rfl ?_
      refine SOp.mk _ _ (SPos.mk j rfl hjn (And.intro rfl rfl)) rfl ?_
      refine SOp.mk _ _ (SLt.mk (by simp; omega) <| SEs.mk _ (row_step hjn) (And.intro rfl rfl)) rfl ?_
      repeat refine SOp.mk _ _ (And.intro rfl rfl) rfl ?_
      refine SFin.mk (by kernel_rfl) ?_
      refine SWrap.i64z ((j + 1 : Nat) : Int) (by omega) (by omega) ?_
      exact ⟨(j + 1, F), [0, 1, 2, 3], hjn, by show g.n - (j + 1) < g.n - j; omega, ⟨rfl, by simp, rfl, rfl, rfl, ⟨rfl, rfl, rfl, rfl, rfl, rfl, rfl, trivial⟩, ⟨rfl, congrArg _ (halq_ren 2 3 rfl (by decide) rfl (by decide)), rfl, rfl, halq_in (fun i hi => by simpa [plenAt] using hi) (fun e => by cases e), trivial⟩⟩⟩
    · refine SCmp.no (decide_eq_false (by omega)) ?_
      obtain rfl : j = g.n := by omega
      refine SWrap.i64z ((i + 1 : Nat) : Int) (by omega) (by omega) ?_
      exact ⟨i + 1, [0, 1, 4002], hin, by show g.n - (i + 1) < g.n - i; omega, ⟨rfl, by simp, rfl, rfl, rfl, ⟨rfl, rfl, rfl, rfl, trivial⟩, ⟨rfl, congrArg _ (half_absorb rfl (by decide) (by simp [plenAt])), ⟨_, _, _, _, rfl, rfl, congrArg _ (plr_snoc.trans (congrArg (fun r => plr i g.n (ent g) ++ [some r]) row_full))⟩, half_in fun i hi => by simpa [plenAt] using hi, trivial⟩⟩⟩
  · refine SCmp.no (decide_eq_false (by omega)) ?_
    obtain rfl : i = g.n := by omega
    refine SRet.mk [1, 2] rfl (by decide) rfl (Nat.zero_le _) (fun h hl => by rw [look_nil] at hl; exact hl.elim) (fun h hl => absurd (look_nil h) hl) (fun a h B e1 e2 => ?_) (.vec rfl)
    match a, e1, e2 with
    | 0, e1, e2 =>
      cases e1; cases e2
      show ConvB _ _ (Blk.rows _ (half 2 g.n g.n g.n)) _
      rw [half_full]
      refine .rows (fun d hd => by obtain ⟨i, _, rfl⟩ := fl_mem hd; rfl) (by simp) fun b c d e1 e2 => ?_
      obtain ⟨hb, rfl⟩ := fl_get_iff.1 e1
      obtain ⟨_, rfl⟩ := fl_get_iff.1 e2
      exact .vecr rfl
    | 1, e1, e2 =>
      cases e1; cases e2
      exact .pool fun k es hk => by
        obtain ⟨_, h⟩ := fl_get_iff.1 hk
        cases h; exact pers_rats _
/-- A call that makes a matrix and answers with it. -/
theorem SCall.mtx {P : Program} {wr : Bool} {f : FuncId} {L : Hd → Blk} {base n w N : Nat} {K : AV → List (Hd × Blk) → Prop} {pvs : List PV} {T T' : TypeId} {G : Nat → Nat → Rat} (hc : CallP P f pvs (.vec 0 1 0 n) [.rows T (plc 1 w n id), .pool T' 3 (plr N w G)])
    (hk : K (.vec base 1 0 n) [(.t base, .rows T (plc (base + 1) w n id)), (.t (base + 1), .pool T' 3 (plr N w G))]) {raw : List AV} : SCall P wr f raw (pvs.map .p) L base K := by
  refine SCall.news hc (fun B hB => by simp only [List.mem_cons, List.not_mem_nil, or_false] at hB; rcases hB with rfl | rfl <;> exact fun e => by (cases e)) ?_
  have e : AV.renL (renOf [] base) (plc 1 w n id) = plc (base + 1) w n id := by
    rw [renL_fl]; exact fl_congr fun i _ => by simp only [AV.ren, renOf, renN]; rfl
  show K (.vec (.t (base + (0 - 0))) 1 0 n) [(.t (base + (0 - 0)), .rows T (AV.renL _ _)), (.t (base + (1 - 0)), _)]
  rw [e]; exact hk
/-- A contract that tells less of its answer. -/
theorem CallG.weakR {P : Program} {f : FuncId} {pvs : List PV} {r r' : AV} {nb : List Blk} (hc : CallP P f pvs r' nb) (h : ∀ w FB β v, VR w FB β r' v → VR w FB β r v) (hm : ∀ k, ¬ r.men k) : CallP P f pvs r nb :=
  ⟨hc.fn, fun w F Bor β vs ha => (hc.run w F Bor β vs ha).mono fun e w' ⟨v, F', β', h1, h2⟩ => ⟨v, F', β', h1, { h2 with rel := h _ _ _ _ h2.rel, mr := fun k hk => (hm k hk).elim }⟩⟩
theorem VR.weak2 {p p' : PV} {c : PV} (h : PRle p' p) : ∀ w FB β v, VR w FB β (.tup [.p p', .p c]) v → VR w FB β (.tup [.p p, .p c]) v := fun w FB β v hv => by
  cases hv with | tup _ vs hl hr =>
  refine .tup _ vs hl fun i d x e1 e2 => ?_
  match i, e1, e2 with
  | 0, e1, e2 => cases e1; exact .p (h _ _ _ (hr 0 _ _ rfl e2).pOf)
  | 1, e1, e2 => cases e1; exact hr 1 _ _ rfl e2
def GkB (n : Nat) (A : Nat → Nat → Rat) (D : Nat) : Prop := ∀ k, k ≤ n → ∀ i j, i < n → j < n → Bz ((gk n A k).B i j) D
theorem GkB.P {n : Nat} {A : Nat → Nat → Rat} {D : Nat} (h : GkB n A D) {k : Nat} (hk : k < n) : ∀ i j, i < n → j < n → Bz (gkP n A k i j) D := fun i j hi hj => by
  obtain ⟨p1, p2, _⟩ := pvt_spec (B := (gk n A k).B) hk
  exact h k (by omega) _ j (swp_lt p2 hk hi) hj
theorem gk_bz {n b : Nat} {A : Nat → Nat → Rat} (hA : ∀ i j, i < n → j < n → Bz (A i j) b) : ∀ k, k ≤ n → ∀ i j, i < n → j < n → Bz ((gk n A k).B i j) (bb b k) := by
  intro k
  induction k with
  | zero => intro _ i j hi hj; exact hA i j hi hj
  | succ k ih =>
    intro hk i j hi hj
    have ih := ih (by omega)
    obtain ⟨p1, p2, _⟩ := pvt_spec (B := (gk n A k).B) (n := n) (k := k) (by omega)
    have zP : ∀ i j, i < n → j < n → Bz (gkP n A k i j) (bb b k) := fun i j hi hj => ih _ j (swp_lt p2 (by omega) hi) hj
    by_cases c : k < i
    · rw [gk_gt c]
      exact ((zP i j hi hj).sub (((zP i k hi (by omega)).div (zP k k (by omega) (by omega))).mul (zP k j (by omega) hj))).mono (by simp only [bb]; omega)
    · rw [gk_le (by omega)]; exact (zP i j hi hj).mono (by simp only [bb]; omega)
theorem GkB.of {n b : Nat} {A : Nat → Nat → Rat} (n1 : 1 ≤ n) (hA : ∀ i j, i < n → j < n → Bz (A i j) b) : GkB n A (bb b (n - 1)) := fun k hk i j hi hj => by
  by_cases e : k = n
  · obtain ⟨d, rfl⟩ : ∃ d, n = d + 1 := ⟨n - 1, by omega⟩
    obtain ⟨p1, p2, _⟩ := pvt_spec (B := (gk (d + 1) A d).B) (n := d + 1) (k := d) (by omega)
    rw [e, gk_le (by omega)]
    exact gk_bz hA d (by omega) _ j (swp_lt p2 (by omega) hi) hj
  · exact (gk_bz hA k hk i j hi hj).mono (bb_mono (by omega))
theorem ggr_bz {n D : Nat} {A : Nat → Nat → Rat} (h : GkB n A D) (hD : 1 ≤ D) : ∀ k, k ≤ n → Bz (ggr n A k) D := by
  intro k
  induction k with
  | zero => intro _; exact mxR_bz (bz_zero.mono hD) n fun i j _ h2 h3 => h 0 (Nat.zero_le _) i j (by omega) h3
  | succ k ih => intro hk; exact mxR_bz (ih (by omega)) _ fun i j _ h2 h3 => h k (by omega) i j (by omega) h3
theorem gM_bz {n D : Nat} {A : Nat → Nat → Rat} (h : GkB n A D) (hD : 1 ≤ D) : ∀ k, k ≤ n → ∀ i j, i < n → Bz ((gk n A k).M i j) (D + D) := by
  intro k
  induction k with
  | zero => intro _ i j _; exact bz_zero.mono (by omega)
  | succ k ih =>
    intro hk i j hi
    obtain ⟨p1, p2, _⟩ := pvt_spec (B := (gk n A k).B) (n := n) (k := k) (by omega)
    have sw : Bz (swpM (gk n A k).M (pvt (gk n A k).B n k) k i j) (D + D) := ih (by omega) _ j (swp_lt p2 (by omega) hi)
    rw [gk_succ]
    show Bz (mulS _ _ k i j) _
    unfold mulS
    split
    · split
      · exact (h.P (by omega) i k hi (by omega)).div (h.P (by omega) k k (by omega) (by omega))
      · split
        · exact bz_one.mono (by omega)
        · exact sw
    · exact sw
def gro (n : Nat) (A : Nat → Nat → Rat) : Rat := ggr n A n / ggr n A 0
abbrev part0 : PV := .agg [.sl false 1 [], .sl false 1 [], .sl false 1 [], .bool false, .sl false 1 [], .sl false 1 []]
abbrev partC (n : Nat) (A : Nat → Nat → Rat) : List PV := [.sl false 1 (permP n (gO n A)), matP false false n n (gL n A), matP false false n n (gU n A), .bool (decide ((gro n A).num < 0)), natP (gro n A).num.natAbs, natP (gro n A).den]
abbrev partP (n : Nat) (A : Nat → Nat → Rat) : PV := .agg (partC n A)
theorem part_le : PRle (.agg [.raw (.slice none 0 0), .raw (.slice none 0 0), .raw (.slice none 0 0), .bool false, .sl false 1 [], .sl false 1 []]) part0 := by
  refine PRle.agg rfl (fun c hc => by simp only [List.mem_cons, List.not_mem_nil, or_false] at hc; rcases hc with rfl | rfl | rfl | rfl | rfl | rfl <;> rfl) fun i c' c e1 e2 => ?_
  match i, e1, e2 with
  | 0, e1, e2 => cases e1; cases e2; exact .nil _ _
  | 1, e1, e2 => cases e1; cases e2; exact .nil _ _
  | 2, e1, e2 => cases e1; cases e2; exact .nil _ _
  | 3, e1, e2 => cases e1; cases e2; exact .refl _
  | 4, e1, e2 => cases e1; cases e2; exact .refl _
  | 5, e1, e2 => cases e1; cases e2; exact .refl _
theorem pers_part0 : Pers (.agg [.raw (.slice none 0 0), .raw (.slice none 0 0), .raw (.slice none 0 0), .bool false, .sl false 1 [], .sl false 1 []]) := .agg _ fun c hc => by
  simp only [List.mem_cons, List.not_mem_nil, or_false] at hc
  rcases hc with rfl | rfl | rfl | rfl | rfl | rfl <;> first | exact .raw _ | exact .bool _ | exact .sl _ _ (fun e he => by simp at he)
theorem nomen2 {p c : PV} (k : Hd) : ¬ (AV.tup [.p p, .p c]).men k := fun h => by simp only [AV.men, AV.menL, or_false] at h
theorem kfactorK_ok (m : Nat → Bool) (g : GV) (hk : g.k ≠ 5) (hk' : g.k ≠ 7) : CallP Tryz.prog 11 [genP m g] (.tup [.p part0, .p (.int .i64 2)]) [] := by
  refine CallG.weakR ?_ (VR.weak2 part_le) nomen2
  refine callG_of_vc (wr := wr0) Γok mixed Tryz.func11 (by kernel_rfl) rfl (by kernel_rfl) (le_of_ble rfl) (by simp) ?_
  refine SCmp.yes (neT (by omega)) ?_
  refine SCmp.yes (neT (by omega)) ?_
  refine SRet.pure (.tup rfl fun i c d e1 e2 => ?_)
  match i, e1, e2 with
  | 0, e1, e2 => cases e1; cases e2; exact .p _ pers_part0
  | 1, e1, e2 => cases e1; cases e2; exact .p _ (.int _ _)
end Go.Proofs.YtjfcphohgicolaaGreat

namespace Go.Proofs.YtjfcphohgicolaaGreat
open Go
set_option linter.unusedVariables false
set_option linter.unusedSimpArgs false
set_option maxRecDepth 10000
abbrev wrK : FuncId → Bool := fun f => Nat.beq f 41 || (Nat.beq f 42 || Nat.beq f 43)
abbrev zpartA : List AV := [.p (.raw (.slice none 0 0)), .p (.raw (.slice none 0 0)), .p (.raw (.slice none 0 0)), .p (.bool false), .p (.sl false 1 []), .p (.sl false 1 [])]
theorem perm0 {n : Nat} : List.replicate n (PV.int .i64 0) = permP n fun t => if t < 0 then t else 0 := (replicate_fl n _).trans (fl_congr fun i _ => congrArg (fun x : Nat => PV.int .i64 (x : Int)) (if_neg (Nat.not_lt_zero i)).symm)
theorem gw_next {n k : Nat} {A : Nat → Nat → Rat} {si : Nat → Nat} (hk : k < n) (hsi : ∀ r, r < n → si r < n ∧ (gk n A (k + 1)).s (si r) = r) : ∀ i j, i < n → j < n → (fun r j => redA (gkP n A k) k (si r) j) ((gk n A (k + 1)).s i) j = (gk n A (k + 1)).B i j := fun i j hi hj => by
  obtain ⟨h1, h2, _⟩ := gk_perm (n := n) (A := A) (k + 1) hk
  obtain ⟨a, b⟩ := hsi _ (h1 i hi)
  have e := h2 _ _ a hi b
  show redA (gkP n A k) k (si ((gk n A (k + 1)).s i)) j = _
  rw [e, gk_succ]
theorem gw_swp {n k : Nat} {A G : Nat → Nat → Rat} (hk : k < n) (hG : ∀ i j, i < n → j < n → G ((gk n A k).s i) j = (gk n A k).B i j) : ∀ i j, i < n → j < n → G ((gk n A (k + 1)).s i) j = gkP n A k i j := fun i j hi hj => by
  obtain ⟨p1, p2, _⟩ := pvt_spec (B := (gk n A k).B) hk
  rw [gk_succ]
  exact hG _ j (swp_lt p2 hk hi) hj
theorem gw_inv {n k : Nat} {A : Nat → Nat → Rat} (hk : k ≤ n) : ∃ si : Nat → Nat, ∀ r, r < n → si r < n ∧ (gk n A k).s (si r) = r := by
  obtain ⟨_, _, h3⟩ := gk_perm (n := n) (A := A) k hk
  refine ⟨fun r => if h : r < n then (h3 r h).choose else 0, fun r hr => ?_⟩
  show (if h : r < n then (h3 r h).choose else 0) < n ∧ (gk n A k).s (if h : r < n then (h3 r h).choose else 0) = r
  rw [dif_pos hr]
  exact (h3 r hr).choose_spec
theorem kfactorZ_ok (m : Nat → Bool) (g : GV) {b c D K : Nat} (h : Wf g b c) (hk : g.k = 5 ∨ g.k = 7) (hB : GkB g.n (ent g) D) (h1 : 1 ≤ D) (hD : 4 * D + 1 ≤ 1000000) (hK : K < g.n) (hp : ∀ t, t < K → gpiv g.n (ent g) t ≠ 0) (hz : gpiv g.n (ent g) K = 0) :
    CallP Tryz.prog 11 [genP m g] (.tup [.p part0, .p (.int .i64 9)]) [] := by
  have h6 := h.n6
  have n1 := h.n1
  refine CallG.weakR ?_ (VR.weak2 part_le) nomen2
  rcases hk with e | e
  · refine callG_of_vc (wr := wrK) Γok mixed Tryz.func11 (by kernel_rfl) rfl (by kernel_rfl) (le_of_ble rfl) (by simp) ?_
    refine SCmp.no (neF (by rw [e]; rfl)) ?_
    refine SCall.mtx (gexpandO_ok m g h) ?_
    refine SNil.mk (fun _ => ?_) (fun h => absurd h (by omega))
    refine SDraw.mkX (by kernel_rfl) ?_
    repeat refine SOp.mk _ _ (And.intro rfl rfl) rfl ?_
    refine SOp.mk _ _ (SZ.mk (g.n : Int) rfl (And.intro rfl rfl)) rfl ?_
    repeat refine SOp.mk _ _ (And.intro rfl rfl) rfl ?_
    refine SOp.mk _ _ (SZ.mk (g.n : Int) rfl <| SLt.mk (by simp) <| SMake.mk g.n rfl (by show g.n * 8 ≤ _; omega) (by omega) (And.intro rfl rfl)) rfl ?_
    repeat refine SOp.mk _ _ (And.intro rfl rfl) rfl ?_
    refine SOp.mk _ _ (SCall.pure (kzero_ok) (And.intro rfl rfl)) rfl ?_
    repeat refine SOp.mk _ _ (And.intro rfl rfl) rfl ?_
    refine SFin.mk (by kernel_rfl) ?_
    refine SZ.mk (g.n : Int) rfl ?_
    refine SLoop.mk (Nat × (Nat → Nat)) (fun (i, s) => ([(2, .bptr 5 0), (5, .bptr 0 0), (39, .p (.int .i64 g.n)), (40, .p (.int .i64 (i : Nat)))],
        [.box 74 (gwA g.n 0), .rows 24 (plc 2 g.n g.n id), .pool 31 3 (plr g.n g.n (ent g)), .vec 3 1 (permP g.n s), .map [], .box 33 zpartA]))
      (fun (i, s) => i ≤ g.n ∧ ∀ t, t < g.n → s t = if t < i then t else 0) (fun x => g.n - x.1) (0, fun t => if t < 0 then t else 0) [6, 2, 3, 4, 5, 1] ⟨Nat.zero_le _, fun t _ => rfl⟩
      ⟨rfl, by simp, rfl, rfl, rfl, ⟨rfl, rfl, rfl, rfl, trivial⟩, ⟨rfl, congrArg _ (plc_ren 3 rfl (by decide)), rfl, congrArg _ perm0.symm, rfl, rfl, rows_in fun q hq => by simpa [plenAt] using hq, trivial⟩⟩ ?_
    intro ⟨i, s⟩ ⟨hi, hs⟩
    by_cases hin : i < g.n
    · refine SCmp.yes (decide_eq_true (by omega)) ?_
      refine SPos.mk i rfl hin ?_
      refine SLt.perm hin ?_
      refine SEs.perm ?_
      refine SWrap.i64z ((i + 1 : Nat) : Int) (by omega) (by omega) ?_
      refine ⟨(i + 1, _), [0, 1, 2, 3, 4, 5], ⟨hin, fun t ht => ?_⟩, by show g.n - (i + 1) < g.n - i; omega, ⟨rfl, by simp, rfl, rfl, rfl, ⟨rfl, rfl, rfl, rfl, trivial⟩, ⟨rfl, congrArg _ (plc_ren 2 rfl (by decide)), rfl, rfl, rfl, rfl, rows_in fun q hq => by simpa [plenAt] using hq, trivial⟩⟩⟩
      show upd s (i + 0) i t = _
      unfold upd
      by_cases e : t = i
      · rw [if_pos (by omega), if_pos (by omega), e]
      · rw [if_neg (by omega), hs t ht]
        by_cases e2 : t < i
        · rw [if_pos e2, if_pos (by omega)]
        · rw [if_neg e2, if_neg (by omega)]
    refine SCmp.no (decide_eq_false (by omega)) ?_
    obtain rfl : i = g.n := by omega
    have es : permP g.n s = permP g.n id := permP_congr fun t ht => by rw [hs t ht, if_pos ht]; rfl
    refine SCall.gw (glook_ok g.n 0 (ent g) (ent g) id [] 0 (Nat.zero_le _) (by omega) (fun i hi => hi) (fun _ _ _ _ => rfl) (hB 0 (Nat.zero_le _)) (bz_zero.mono h1) (by omega) (fun e he => by simp at he)) (fun _ => rfl) (by decide) ⟨rfl, fun _ => rfl⟩ ⟨rfl, fun _ => rfl⟩ ⟨rfl, fun _ => rfl⟩ ⟨congrArg (Blk.vec 3 1) es, fun _ => rfl⟩ ⟨rfl, fun _ => rfl⟩ ?_
    refine SZ.mk (g.n : Int) rfl ?_
    refine SLoop.mk (Nat × (Nat → Nat → Rat)) (fun (k, G) => ([(2, .bptr 5 0), (5, .bptr 0 0), (7, .bptr 6 0), (61, .p (.int .i64 g.n)), (62, .p (.int .i64 (k : Nat)))],
        gwB g.n G (gk g.n (ent g) k).s (gtk g.n (ent g) k) (ggr g.n (ent g) k) ++ [.box 33 zpartA, .box 31 (bxQ (ggr g.n (ent g) 0))]))
      (fun (k, G) => k ≤ K ∧ ∀ i j, i < g.n → j < g.n → G ((gk g.n (ent g) k).s i) j = (gk g.n (ent g) k).B i j) (fun x => g.n - x.1) (0, ent g) [0, 1, 2, 3, 4, 5, 6] ⟨Nat.zero_le _, fun _ _ _ _ => rfl⟩
      ⟨rfl, by simp, rfl, rfl, rfl, ⟨rfl, rfl, rfl, rfl, rfl, trivial⟩, ⟨rfl, congrArg _ (plc_ren 2 rfl (by decide)), rfl, rfl, rfl, rfl, rfl, rows_in (s := id) fun q hq => by simpa [plenAt] using hq, trivial⟩⟩ ?_
    intro ⟨k, G⟩ ⟨hkn, hG⟩
    obtain ⟨r1, r2, r3⟩ := gk_perm (n := g.n) (A := ent g) k (by omega)
    have zr := ggr_bz hB h1 k (by omega)
    refine SCmp.yes (decide_eq_true (by omega)) ?_
    by_cases e : k < K
    · refine SCall.gw (glook_ok g.n k G (gk g.n (ent g) k).B (gk g.n (ent g) k).s (gtk g.n (ent g) k) (ggr g.n (ent g) k) (by omega) (by omega) r1 hG (hB k (by omega)) zr (by omega) (gtk_key k).pers)
        (fun _ => rfl) (by decide) ⟨rfl, fun _ => rfl⟩ ⟨rfl, fun _ => rfl⟩ ⟨rfl, fun _ => rfl⟩ ⟨rfl, fun _ => rfl⟩ ⟨rfl, fun _ => rfl⟩ ?_
      refine SCall.gw (gpick_ok g.n k G (gk g.n (ent g) k).B (gk g.n (ent g) k).s (gtk g.n (ent g) k) (ggr g.n (ent g) (k + 1)) true (by omega) (by omega) r1 hG (hB k (by omega)) (by omega) (gtk_key k).pers ((decide_eq_true (by rw [← gpiv_eq]; exact hp k e)).symm))
        (fun _ => rfl) (by decide) ⟨rfl, fun _ => rfl⟩ ⟨rfl, fun _ => rfl⟩ ⟨rfl, fun _ => rfl⟩ ⟨rfl, fun _ => rfl⟩ ⟨rfl, fun _ => rfl⟩ ?_
      refine SCmp.no (rfl) ?_
      obtain ⟨si, hsi⟩ := gw_inv (n := g.n) (A := ent g) (k := k + 1) (by omega)
      obtain ⟨q1, q2, _⟩ := gk_perm (n := g.n) (A := ent g) (k + 1) (by omega)
      refine SCall.gw (gclean_ok g.n k G (gkP g.n (ent g) k) (gk g.n (ent g) (k + 1)).s si (gtk g.n (ent g) k) (ggr g.n (ent g) (k + 1)) (by omega) (by omega) q1 q2 hsi (gw_swp (by omega) hG) (hB.P (by omega)) (by omega) (hp k e) (gtk_key k))
        (fun _ => rfl) (by decide) ⟨rfl, fun _ => rfl⟩ ⟨rfl, fun _ => rfl⟩ ⟨rfl, fun _ => rfl⟩ ⟨rfl, fun _ => rfl⟩ ⟨rfl, fun _ => rfl⟩ ?_
      refine SWrap.i64z ((k + 1 : Nat) : Int) (by omega) (by omega) ?_
      exact ⟨(k + 1, fun r j => redA (gkP g.n (ent g) k) k (si r) j), [0, 1, 2, 3, 4, 5, 6], ⟨by omega, gw_next (by omega) hsi⟩, by show g.n - (k + 1) < g.n - k; omega, ⟨rfl, by simp, rfl, rfl, rfl, ⟨rfl, rfl, rfl, rfl, rfl, trivial⟩, ⟨rfl, congrArg _ (plc_ren 2 rfl (by decide)), rfl, rfl, rfl, rfl, rfl, rows_in fun q hq => by simpa [plenAt] using q1 q hq, trivial⟩⟩⟩
    · obtain rfl : k = K := by omega
      refine SCall.gw (glook_ok g.n k G (gk g.n (ent g) k).B (gk g.n (ent g) k).s (gtk g.n (ent g) k) (ggr g.n (ent g) k) (by omega) (by omega) r1 hG (hB k (by omega)) zr (by omega) (gtk_key k).pers)
        (fun _ => rfl) (by decide) ⟨rfl, fun _ => rfl⟩ ⟨rfl, fun _ => rfl⟩ ⟨rfl, fun _ => rfl⟩ ⟨rfl, fun _ => rfl⟩ ⟨rfl, fun _ => rfl⟩ ?_
      refine SCall.gw (gpick_ok g.n k G (gk g.n (ent g) k).B (gk g.n (ent g) k).s (gtk g.n (ent g) k) (ggr g.n (ent g) (k + 1)) false (by omega) (by omega) r1 hG (hB k (by omega)) (by omega) (gtk_key k).pers ((decide_eq_false (by rw [← gpiv_eq]; exact fun h => h hz)).symm))
        (fun _ => rfl) (by decide) ⟨rfl, fun _ => rfl⟩ ⟨rfl, fun _ => rfl⟩ ⟨rfl, fun _ => rfl⟩ ⟨rfl, fun _ => rfl⟩ ⟨rfl, fun _ => rfl⟩ ?_
      refine SCmp.yes (rfl) ?_
      refine SRet.pure (.tup rfl fun i c d e1 e2 => ?_)
      match i, e1, e2 with
      | 0, e1, e2 => cases e1; cases e2; exact .p _ pers_part0
      | 1, e1, e2 => cases e1; cases e2; exact .p _ (.int _ _)
  · refine callG_of_vc (wr := wrK) Γok mixed Tryz.func11 (by kernel_rfl) rfl (by kernel_rfl) (le_of_ble rfl) (by simp) ?_
    refine SCmp.yes (neT (by rw [e]; decide)) ?_
    refine SCmp.no (neF (by rw [e]; rfl)) ?_
    refine SCall.mtx (gexpandO_ok m g h) ?_
    refine SNil.mk (fun _ => ?_) (fun h => absurd h (by omega))
    refine SDraw.mkX (by kernel_rfl) ?_
    repeat refine SOp.mk _ _ (And.intro rfl rfl) rfl ?_
    refine SOp.mk _ _ (SZ.mk (g.n : Int) rfl (And.intro rfl rfl)) rfl ?_
    repeat refine SOp.mk _ _ (And.intro rfl rfl) rfl ?_
    refine SOp.mk _ _ (SZ.mk (g.n : Int) rfl <| SLt.mk (by simp) <| SMake.mk g.n rfl (by show g.n * 8 ≤ _; omega) (by omega) (And.intro rfl rfl)) rfl ?_
    repeat refine SOp.mk _ _ (And.intro rfl rfl) rfl ?_
    refine SOp.mk _ _ (SCall.pure (kzero_ok) (And.intro rfl rfl)) rfl ?_
    repeat refine SOp.mk _ _ (And.intro rfl rfl) rfl ?_
    refine SFin.mk (by kernel_rfl) ?_
    refine SZ.mk (g.n : Int) rfl ?_
    refine SLoop.mk (Nat × (Nat → Nat)) (fun (i, s) => ([(2, .bptr 5 0), (5, .bptr 0 0), (39, .p (.int .i64 g.n)), (40, .p (.int .i64 (i : Nat)))],
        [.box 74 (gwA g.n 0), .rows 24 (plc 2 g.n g.n id), .pool 31 3 (plr g.n g.n (ent g)), .vec 3 1 (permP g.n s), .map [], .box 33 zpartA]))
      (fun (i, s) => i ≤ g.n ∧ ∀ t, t < g.n → s t = if t < i then t else 0) (fun x => g.n - x.1) (0, fun t => if t < 0 then t else 0) [6, 2, 3, 4, 5, 1] ⟨Nat.zero_le _, fun t _ => rfl⟩
      ⟨rfl, by simp, rfl, rfl, rfl, ⟨rfl, rfl, rfl, rfl, trivial⟩, ⟨rfl, congrArg _ (plc_ren 3 rfl (by decide)), rfl, congrArg _ perm0.symm, rfl, rfl, rows_in fun q hq => by simpa [plenAt] using hq, trivial⟩⟩ ?_
    intro ⟨i, s⟩ ⟨hi, hs⟩
    by_cases hin : i < g.n
    · refine SCmp.yes (decide_eq_true (by omega)) ?_
      refine SPos.mk i rfl hin ?_
      refine SLt.perm hin ?_
      refine SEs.perm ?_
      refine SWrap.i64z ((i + 1 : Nat) : Int) (by omega) (by omega) ?_
      refine ⟨(i + 1, _), [0, 1, 2, 3, 4, 5], ⟨hin, fun t ht => ?_⟩, by show g.n - (i + 1) < g.n - i; omega, ⟨rfl, by simp, rfl, rfl, rfl, ⟨rfl, rfl, rfl, rfl, trivial⟩, ⟨rfl, congrArg _ (plc_ren 2 rfl (by decide)), rfl, rfl, rfl, rfl, rows_in fun q hq => by simpa [plenAt] using hq, trivial⟩⟩⟩
      show upd s (i + 0) i t = _
      unfold upd
      by_cases e : t = i
      · rw [if_pos (by omega), if_pos (by omega), e]
      · rw [if_neg (by omega), hs t ht]
        by_cases e2 : t < i
        · rw [if_pos e2, if_pos (by omega)]
        · rw [if_neg e2, if_neg (by omega)]
    refine SCmp.no (decide_eq_false (by omega)) ?_
    obtain rfl : i = g.n := by omega
    have es : permP g.n s = permP g.n id := permP_congr fun t ht => by rw [hs t ht, if_pos ht]; rfl
    refine SCall.gw (glook_ok g.n 0 (ent g) (ent g) id [] 0 (Nat.zero_le _) (by omega) (fun i hi => hi) (fun _ _ _ _ => rfl) (hB 0 (Nat.zero_le _)) (bz_zero.mono h1) (by omega) (fun e he => by simp at he)) (fun _ => rfl) (by decide) ⟨rfl, fun _ => rfl⟩ ⟨rfl, fun _ => rfl⟩ ⟨rfl, fun _ => rfl⟩ ⟨congrArg (Blk.vec 3 1) es, fun _ => rfl⟩ ⟨rfl, fun _ => rfl⟩ ?_
    refine SZ.mk (g.n : Int) rfl ?_
    refine SLoop.mk (Nat × (Nat → Nat → Rat)) (fun (k, G) => ([(2, .bptr 5 0), (5, .bptr 0 0), (7, .bptr 6 0), (61, .p (.int .i64 g.n)), (62, .p (.int .i64 (k : Nat)))],
        gwB g.n G (gk g.n (ent g) k).s (gtk g.n (ent g) k) (ggr g.n (ent g) k) ++ [.box 33 zpartA, .box 31 (bxQ (ggr g.n (ent g) 0))]))
      (fun (k, G) => k ≤ K ∧ ∀ i j, i < g.n → j < g.n → G ((gk g.n (ent g) k).s i) j = (gk g.n (ent g) k).B i j) (fun x => g.n - x.1) (0, ent g) [0, 1, 2, 3, 4, 5, 6] ⟨Nat.zero_le _, fun _ _ _ _ => rfl⟩
      ⟨rfl, by simp, rfl, rfl, rfl, ⟨rfl, rfl, rfl, rfl, rfl, trivial⟩, ⟨rfl, congrArg _ (plc_ren 2 rfl (by decide)), rfl, rfl, rfl, rfl, rfl, rows_in (s := id) fun q hq => by simpa [plenAt] using hq, trivial⟩⟩ ?_
    intro ⟨k, G⟩ ⟨hkn, hG⟩
    obtain ⟨r1, r2, r3⟩ := gk_perm (n := g.n) (A := ent g) k (by omega)
    have zr := ggr_bz hB h1 k (by omega)
    refine SCmp.yes (decide_eq_true (by omega)) ?_
    by_cases e : k < K
    · refine SCall.gw (glook_ok g.n k G (gk g.n (ent g) k).B (gk g.n (ent g) k).s (gtk g.n (ent g) k) (ggr g.n (ent g) k) (by omega) (by omega) r1 hG (hB k (by omega)) zr (by omega) (gtk_key k).pers)
        (fun _ => rfl) (by decide) ⟨rfl, fun _ => rfl⟩ ⟨rfl, fun _ => rfl⟩ ⟨rfl, fun _ => rfl⟩ ⟨rfl, fun _ => rfl⟩ ⟨rfl, fun _ => rfl⟩ ?_
      refine SCall.gw (gpick_ok g.n k G (gk g.n (ent g) k).B (gk g.n (ent g) k).s (gtk g.n (ent g) k) (ggr g.n (ent g) (k + 1)) true (by omega) (by omega) r1 hG (hB k (by omega)) (by omega) (gtk_key k).pers ((decide_eq_true (by rw [← gpiv_eq]; exact hp k e)).symm))
        (fun _ => rfl) (by decide) ⟨rfl, fun _ => rfl⟩ ⟨rfl, fun _ => rfl⟩ ⟨rfl, fun _ => rfl⟩ ⟨rfl, fun _ => rfl⟩ ⟨rfl, fun _ => rfl⟩ ?_
      refine SCmp.no (rfl) ?_
      obtain ⟨si, hsi⟩ := gw_inv (n := g.n) (A := ent g) (k := k + 1) (by omega)
      obtain ⟨q1, q2, _⟩ := gk_perm (n := g.n) (A := ent g) (k + 1) (by omega)
      refine SCall.gw (gclean_ok g.n k G (gkP g.n (ent g) k) (gk g.n (ent g) (k + 1)).s si (gtk g.n (ent g) k) (ggr g.n (ent g) (k + 1)) (by omega) (by omega) q1 q2 hsi (gw_swp (by omega) hG) (hB.P (by omega)) (by omega) (hp k e) (gtk_key k))
        (fun _ => rfl) (by decide) ⟨rfl, fun _ => rfl⟩ ⟨rfl, fun _ => rfl⟩ ⟨rfl, fun _ => rfl⟩ ⟨rfl, fun _ => rfl⟩ ⟨rfl, fun _ => rfl⟩ ?_
      refine SWrap.i64z ((k + 1 : Nat) : Int) (by omega) (by omega) ?_
      exact ⟨(k + 1, fun r j => redA (gkP g.n (ent g) k) k (si r) j), [0, 1, 2, 3, 4, 5, 6], ⟨by omega, gw_next (by omega) hsi⟩, by show g.n - (k + 1) < g.n - k; omega, ⟨rfl, by simp, rfl, rfl, rfl, ⟨rfl, rfl, rfl, rfl, rfl, trivial⟩, ⟨rfl, congrArg _ (plc_ren 2 rfl (by decide)), rfl, rfl, rfl, rfl, rfl, rows_in fun q hq => by simpa [plenAt] using q1 q hq, trivial⟩⟩⟩
    · obtain rfl : k = K := by omega
      refine SCall.gw (glook_ok g.n k G (gk g.n (ent g) k).B (gk g.n (ent g) k).s (gtk g.n (ent g) k) (ggr g.n (ent g) k) (by omega) (by omega) r1 hG (hB k (by omega)) zr (by omega) (gtk_key k).pers)
        (fun _ => rfl) (by decide) ⟨rfl, fun _ => rfl⟩ ⟨rfl, fun _ => rfl⟩ ⟨rfl, fun _ => rfl⟩ ⟨rfl, fun _ => rfl⟩ ⟨rfl, fun _ => rfl⟩ ?_
      refine SCall.gw (gpick_ok g.n k G (gk g.n (ent g) k).B (gk g.n (ent g) k).s (gtk g.n (ent g) k) (ggr g.n (ent g) (k + 1)) false (by omega) (by omega) r1 hG (hB k (by omega)) (by omega) (gtk_key k).pers ((decide_eq_false (by rw [← gpiv_eq]; exact fun h => h hz)).symm))
        (fun _ => rfl) (by decide) ⟨rfl, fun _ => rfl⟩ ⟨rfl, fun _ => rfl⟩ ⟨rfl, fun _ => rfl⟩ ⟨rfl, fun _ => rfl⟩ ⟨rfl, fun _ => rfl⟩ ?_
      refine SCmp.yes (rfl) ?_
      refine SRet.pure (.tup rfl fun i c d e1 e2 => ?_)
      match i, e1, e2 with
      | 0, e1, e2 => cases e1; cases e2; exact .p _ pers_part0
      | 1, e1, e2 => cases e1; cases e2; exact .p _ (.int _ _)
end Go.Proofs.YtjfcphohgicolaaGreat

namespace Go.Proofs.YtjfcphohgicolaaGreat
open Go
set_option linter.unusedVariables false
set_option linter.unusedSimpArgs false
set_option maxRecDepth 10000
theorem kfactor_ok (m : Nat → Bool) (g : GV) {b c D : Nat} (h : Wf g b c) (hk : g.k = 5 ∨ g.k = 7) (hB : GkB g.n (ent g) D) (h1 : 1 ≤ D) (hD : 4 * D + 1 ≤ 1000000) (hp : ∀ t, t < g.n → gpiv g.n (ent g) t ≠ 0) :
    CallP Tryz.prog 11 [genP m g] (.tup [.p (partP g.n (ent g)), .p (.int .i64 0)]) [] := by
  have h6 := h.n6
  have n1 := h.n1
  have zL : ∀ i j, i < g.n → Bz (gL g.n (ent g) i j) (D + D) := fun i j hi => gM_bz hB h1 g.n (Nat.le_refl _) i j hi
  rcases hk with e | e
  · refine callG_of_vc (wr := wrK) Γok mixed Tryz.func11 (by kernel_rfl) rfl (by kernel_rfl) (le_of_ble rfl) (by simp) ?_
    refine SCmp.no (neF (by rw [e]; rfl)) ?_
    refine SCall.mtx (gexpandO_ok m g h) ?_
    refine SNil.mk (fun _ => ?_) (fun h => absurd h (by omega))
    refine SDraw.mkX (by kernel_rfl) ?_
    repeat refine SOp.mk _ _ (And.intro rfl rfl) rfl ?_
    refine SOp.mk _ _ (SZ.mk (g.n : Int) rfl (And.intro rfl rfl)) rfl ?_
    repeat refine SOp.mk _ _ (And.intro rfl rfl) rfl ?_
    refine SOp.mk _ _ (SZ.mk (g.n : Int) rfl <| SLt.mk (by simp) <| SMake.mk g.n rfl (by show g.n * 8 ≤ _; omega) (by omega) (And.intro rfl rfl)) rfl ?_
    repeat refine SOp.mk _ _ (And.intro rfl rfl) rfl ?_
    refine SOp.mk _ _ (SCall.pure (kzero_ok) (And.intro rfl rfl)) rfl ?_
    repeat refine SOp.mk _ _ (And.intro rfl rfl) rfl ?_
    refine SFin.mk (by kernel_rfl) ?_
    refine SZ.mk (g.n : Int) rfl ?_
    refine SLoop.mk (Nat × (Nat → Nat)) (fun (i, s) => ([(2, .bptr 5 0), (5, .bptr 0 0), (39, .p (.int .i64 g.n)), (40, .p (.int .i64 (i : Nat)))],
        [.box 74 (gwA g.n 0), .rows 24 (plc 2 g.n g.n id), .pool 31 3 (plr g.n g.n (ent g)), .vec 3 1 (permP g.n s), .map [], .box 33 zpartA]))
      (fun (i, s) => i ≤ g.n ∧ ∀ t, t < g.n → s t = if t < i then t else 0) (fun x => g.n - x.1) (0, fun t => if t < 0 then t else 0) [6, 2, 3, 4, 5, 1] ⟨Nat.zero_le _, fun t _ => rfl⟩
      ⟨rfl, by simp, rfl, rfl, rfl, ⟨rfl, rfl, rfl, rfl, trivial⟩, ⟨rfl, congrArg _ (plc_ren 3 rfl (by decide)), rfl, congrArg _ perm0.symm, rfl, rfl, rows_in fun q hq => by simpa [plenAt] using hq, trivial⟩⟩ ?_
    intro ⟨i, s⟩ ⟨hi, hs⟩
    by_cases hin : i < g.n
    · refine SCmp.yes (decide_eq_true (by omega)) ?_
      refine SPos.mk i rfl hin ?_
      refine SLt.perm hin ?_
      refine SEs.perm ?_
      refine SWrap.i64z ((i + 1 : Nat) : Int) (by omega) (by omega) ?_
      refine ⟨(i + 1, _), [0, 1, 2, 3, 4, 5], ⟨hin, fun t ht => ?_⟩, by show g.n - (i + 1) < g.n - i; omega, ⟨rfl, by simp, rfl, rfl, rfl, ⟨rfl, rfl, rfl, rfl, trivial⟩, ⟨rfl, congrArg _ (plc_ren 2 rfl (by decide)), rfl, rfl, rfl, rfl, rows_in fun q hq => by simpa [plenAt] using hq, trivial⟩⟩⟩
      show upd s (i + 0) i t = _
      unfold upd
      by_cases e : t = i
      · rw [if_pos (by omega), if_pos (by omega), e]
      · rw [if_neg (by omega), hs t ht]
        by_cases e2 : t < i
        · rw [if_pos e2, if_pos (by omega)]
        · rw [if_neg e2, if_neg (by omega)]
    refine SCmp.no (decide_eq_false (by omega)) ?_
    obtain rfl : i = g.n := by omega
    have es : permP g.n s = permP g.n id := permP_congr fun t ht => by rw [hs t ht, if_pos ht]; rfl
    refine SCall.gw (glook_ok g.n 0 (ent g) (ent g) id [] 0 (Nat.zero_le _) (by omega) (fun i hi => hi) (fun _ _ _ _ => rfl) (hB 0 (Nat.zero_le _)) (bz_zero.mono h1) (by omega) (fun e he => by simp at he)) (fun _ => rfl) (by decide) ⟨rfl, fun _ => rfl⟩ ⟨rfl, fun _ => rfl⟩ ⟨rfl, fun _ => rfl⟩ ⟨congrArg (Blk.vec 3 1) es, fun _ => rfl⟩ ⟨rfl, fun _ => rfl⟩ ?_
    refine SZ.mk (g.n : Int) rfl ?_
    refine SLoop.mk (Nat × (Nat → Nat → Rat)) (fun (k, G) => ([(2, .bptr 5 0), (5, .bptr 0 0), (7, .bptr 6 0), (61, .p (.int .i64 g.n)), (62, .p (.int .i64 (k : Nat)))],
        gwB g.n G (gk g.n (ent g) k).s (gtk g.n (ent g) k) (ggr g.n (ent g) k) ++ [.box 33 zpartA, .box 31 (bxQ (ggr g.n (ent g) 0))]))
      (fun (k, G) => k ≤ g.n ∧ ∀ i j, i < g.n → j < g.n → G ((gk g.n (ent g) k).s i) j = (gk g.n (ent g) k).B i j) (fun x => g.n - x.1) (0, ent g) [0, 1, 2, 3, 4, 5, 6] ⟨Nat.zero_le _, fun _ _ _ _ => rfl⟩
      ⟨rfl, by simp, rfl, rfl, rfl, ⟨rfl, rfl, rfl, rfl, rfl, trivial⟩, ⟨rfl, congrArg _ (plc_ren 2 rfl (by decide)), rfl, rfl, rfl, rfl, rfl, rows_in (s := id) fun q hq => by simpa [plenAt] using hq, trivial⟩⟩ ?_
    intro ⟨k, G⟩ ⟨hkn, hG⟩
    obtain ⟨r1, r2, r3⟩ := gk_perm (n := g.n) (A := ent g) k (by omega)
    have zr := ggr_bz hB h1 k (by omega)
    by_cases hkn2 : k < g.n
    · refine SCmp.yes (decide_eq_true (by omega)) ?_
      refine SCall.gw (glook_ok g.n k G (gk g.n (ent g) k).B (gk g.n (ent g) k).s (gtk g.n (ent g) k) (ggr g.n (ent g) k) (by omega) (by omega) r1 hG (hB k (by omega)) zr (by omega) (gtk_key k).pers)
        (fun _ => rfl) (by decide) ⟨rfl, fun _ => rfl⟩ ⟨rfl, fun _ => rfl⟩ ⟨rfl, fun _ => rfl⟩ ⟨rfl, fun _ => rfl⟩ ⟨rfl, fun _ => rfl⟩ ?_
      refine SCall.gw (gpick_ok g.n k G (gk g.n (ent g) k).B (gk g.n (ent g) k).s (gtk g.n (ent g) k) (ggr g.n (ent g) (k + 1)) true (by omega) (by omega) r1 hG (hB k (by omega)) (by omega) (gtk_key k).pers ((decide_eq_true (by rw [← gpiv_eq]; exact hp k hkn2)).symm))
        (fun _ => rfl) (by decide) ⟨rfl, fun _ => rfl⟩ ⟨rfl, fun _ => rfl⟩ ⟨rfl, fun _ => rfl⟩ ⟨rfl, fun _ => rfl⟩ ⟨rfl, fun _ => rfl⟩ ?_
      refine SCmp.no (rfl) ?_
      obtain ⟨si, hsi⟩ := gw_inv (n := g.n) (A := ent g) (k := k + 1) (by omega)
      obtain ⟨q1, q2, _⟩ := gk_perm (n := g.n) (A := ent g) (k + 1) (by omega)
      refine SCall.gw (gclean_ok g.n k G (gkP g.n (ent g) k) (gk g.n (ent g) (k + 1)).s si (gtk g.n (ent g) k) (ggr g.n (ent g) (k + 1)) (by omega) (by omega) q1 q2 hsi (gw_swp (by omega) hG) (hB.P (by omega)) (by omega) (hp k hkn2) (gtk_key k))
        (fun _ => rfl) (by decide) ⟨rfl, fun _ => rfl⟩ ⟨rfl, fun _ => rfl⟩ ⟨rfl, fun _ => rfl⟩ ⟨rfl, fun _ => rfl⟩ ⟨rfl, fun _ => rfl⟩ ?_
      refine SWrap.i64z ((k + 1 : Nat) : Int) (by omega) (by omega) ?_
      exact ⟨(k + 1, fun r j => redA (gkP g.n (ent g) k) k (si r) j), [0, 1, 2, 3, 4, 5, 6], ⟨by omega, gw_next (by omega) hsi⟩, by show g.n - (k + 1) < g.n - k; omega, ⟨rfl, by simp, rfl, rfl, rfl, ⟨rfl, rfl, rfl, rfl, rfl, trivial⟩, ⟨rfl, congrArg _ (plc_ren 2 rfl (by decide)), rfl, rfl, rfl, rfl, rfl, rows_in fun q hq => by simpa [plenAt] using q1 q hq, trivial⟩⟩⟩
    · refine SCmp.no (decide_eq_false (by omega)) ?_
      obtain rfl : k = g.n := by omega
      have r1 : ∀ i, i < g.n → gO g.n (ent g) i < g.n := r1
      have own := gown_ok true true g.n (fun i => G (gO g.n (ent g) i)) n1 (by omega) (fun i j hi hj => by
        have e : G (gO g.n (ent g) i) j = (gk g.n (ent g) g.n).B i j := hG i j hi hj
        rw [e]; exact hB g.n (Nat.le_refl _) i j hi hj) (by omega)
      have eU : matP false false g.n g.n (fun i => G (gO g.n (ent g) i)) = matP false false g.n g.n (gU g.n (ent g)) := matP_congr fun i j hi hj => hG i j hi hj
      rw [eU] at own
      refine SDraw.mkX (by kernel_rfl) ?_
      repeat refine SOp.mk _ _ (And.intro rfl rfl) rfl ?_
      refine SOp.mk _ _ (SLendR.plc rfl r1 <| SCall.pure own (And.intro rfl rfl)) rfl ?_
      repeat refine SOp.mk _ _ (And.intro rfl rfl) rfl ?_
      refine SFin.mk (by kernel_rfl) ?_
      refine SZ.mk (g.n : Int) rfl ?_
      refine SLoop.mkT Nat (fun i => match i with
          | 0 => ([(2, .bptr 5 0), (5, .bptr 0 0), (7, .bptr 6 0), (9, .bptr 7 0), (91, .p (.int .i64 g.n)), (92, .p (.int .i64 0))],
            gwB g.n G (gO g.n (ent g)) (gtk g.n (ent g) g.n) (ggr g.n (ent g) g.n) ++ ([Blk.box 33 zpartA, Blk.box 31 (bxQ (ggr g.n (ent g) 0)), Blk.box 33 [.vec (.t 3) 1 0 g.n, .p (.raw (.slice none 0 0)), .p (matP false false g.n g.n (gU g.n (ent g))), .p (.bool false), .p (.sl false 1 []), .p (.sl false 1 [])], Blk.pool 31 3 (plr 0 g.n (gL g.n (ent g)))] : List Blk))
          | i + 1 => ([(2, .bptr 5 0), (5, .bptr 0 0), (7, .bptr 6 0), (9, .bptr 7 0), (91, .p (.int .i64 g.n)), (92, .p (.int .i64 ((i + 1 : Nat) : Int)))],
            gwB g.n G (gO g.n (ent g)) (gtk g.n (ent g) g.n) (ggr g.n (ent g) g.n) ++ ([Blk.box 33 zpartA, Blk.box 31 (bxQ (ggr g.n (ent g) 0)), Blk.box 33 [.vec (.t 3) 1 0 g.n, .vec (.t 9) 1 0 (i + 1), .p (matP false false g.n g.n (gU g.n (ent g))), .p (.bool false), .p (.sl false 1 []), .p (.sl false 1 [])], Blk.pool 31 3 (plr (i + 1) g.n (gL g.n (ent g))), Blk.rows 24 (plc 8 g.n (i + 1) id)] : List Blk)))
        (fun i => i ≤ g.n) (fun i => g.n - i) 0 [0, 1, 2, 3, 4, 5, 6, 7, 8] _ _ (.pool 31 3 (.done _ _)) (Nat.zero_le _) ⟨rfl, by simp, rfl, rfl, rfl, ⟨rfl, rfl, rfl, rfl, rfl, rfl, trivial⟩, ⟨rfl, congrArg _ (plc_ren 2 rfl (by decide)), rfl, rfl, rfl, rfl, rfl, rfl, rfl, rows_in fun q hq => by simpa [plenAt] using r1 q hq, trivial⟩⟩ ?_
      intro i hi
      match i, hi with
      | 0, hi =>
        refine SCmp.yes (decide_eq_true (by omega)) ?_
        refine SZ.mk (g.n : Int) rfl ?_
        refine SZ.mk (g.n : Int) rfl ?_
        refine SLt.mk (by simp) ?_
        refine SMake.rat g.n rfl (by omega) ?_
        refine SZ.mk (g.n : Int) rfl ?_
        refine SLoop.mk Nat (fun j => ([(2, .bptr 5 0), (5, .bptr 0 0), (7, .bptr 6 0), (9, .bptr 7 0), (10, .p (.int .i64 0)), (11, .vec 9 3 0 g.n), (91, .p (.int .i64 g.n)), (92, .p (.int .i64 0)), (102, .p (.int .i64 g.n)), (103, .p (.int .i64 (j : Nat)))],
            gwB g.n G (gO g.n (ent g)) (gtk g.n (ent g) g.n) (ggr g.n (ent g) g.n) ++ ([Blk.box 33 zpartA, Blk.box 31 (bxQ (ggr g.n (ent g) 0)), Blk.box 33 [.vec (.t 3) 1 0 g.n, .p (.raw (.slice none 0 0)), .p (matP false false g.n g.n (gU g.n (ent g))), .p (.bool false), .p (.sl false 1 []), .p (.sl false 1 [])], Blk.pool 31 3 (plr 0 g.n (gL g.n (ent g))),Blk.vec 31 3 (fl g.n fun k => if k < j then ratP (gL g.n (ent g) (0) k) else rat0)] : List Blk)))
          (fun j => j ≤ g.n) (fun j => g.n - j) 0 [0, 1, 2, 3, 4, 5, 6, 7, 8, 9] (Nat.zero_le _) ⟨rfl, by simp, rfl, rfl, rfl, ⟨rfl, rfl, rfl, rfl, rfl, rfl, rfl, rfl, rfl, rfl, trivial⟩, ⟨rfl, congrArg _ (plc_ren 2 rfl (by decide)), rfl, rfl, rfl, rfl, rfl, rfl, rfl,congrArg _ ((fl_congr fun k hk => if_neg (by omega)).trans (replicate_fl g.n rat0).symm), rows_in fun q hq => by simpa [plenAt] using r1 q hq, trivial⟩⟩ ?_
        intro j hj
        have hj : j ≤ g.n := hj
        by_cases hjn : j < g.n
        · refine SCmp.yes (decide_eq_true (by omega)) ?_
          have low := glower_ok g.n (ent g) (fl g.n fun i => ratsM true (lst g.n (G (gO g.n (ent g) i)))) (ggr g.n (ent g) g.n) (0) j (by omega) hjn (zL (0) j (by omega)) (by omega)
          refine SLendR.plc rfl r1 ?_
          refine SView.all (by simp) ?_
          refine SCall.pure (low) ?_
          refine SPos.mk j rfl hjn ?_
          refine SLt.mk (by simp; omega) <| SEs.mk _ (row_step hjn) ?_
          refine SWrap.i64z ((j + 1 : Nat) : Int) (by omega) (by omega) ?_
          exact ⟨j + 1, [0, 1, 2, 3, 4, 5, 6, 7, 8, 9], hjn, by show g.n - (j + 1) < g.n - j; omega, ⟨rfl, by simp, rfl, rfl, rfl, ⟨rfl, rfl, rfl, rfl, rfl, rfl, rfl, rfl, rfl, rfl, trivial⟩, ⟨rfl, congrArg _ (plc_ren 2 rfl (by decide)), rfl, rfl, rfl, rfl, rfl, rfl, rfl,rfl, rows_in fun q hq => by simpa [plenAt] using r1 q hq, trivial⟩⟩⟩
        · refine SCmp.no (decide_eq_false (by omega)) ?_
          obtain rfl : j = g.n := by omega
          refine SRoom.mk (by simp) (by simp) ?_
          refine SWrap.i64z ((0 + 1 : Nat) : Int) (by omega) (by omega) ?_
          exact ⟨1, [0, 1, 2, 3, 4, 5, 6, 7, 10008, 11], n1, by show g.n - 1 < g.n - 0; omega, ⟨rfl, by simp, rfl, rfl, rfl, ⟨rfl, rfl, rfl, rfl, rfl, rfl, trivial⟩, ⟨rfl, congrArg _ (plc_ren 2 rfl (by decide)), rfl, rfl, rfl, rfl, rfl, rfl, ⟨_, _, _, _, rfl, rfl, congrArg _ (plr_snoc.trans (congrArg (fun r => plr 0 g.n (gL g.n (ent g)) ++ [some r]) row_full))⟩, congrArg _ (plc_absorb (p' := 8) (q := 9) (c := g.n) (k := 0) rfl (by decide) (by simp [plenAt])), rows_in fun q hq => by simpa [plenAt] using r1 q hq, rows_in fun q hq => by simpa [plenAt] using hq, trivial⟩⟩⟩
      | i + 1, hi =>
        have hi : i + 1 ≤ g.n := hi
        by_cases hin : i + 1 < g.n
        · refine SCmp.yes (decide_eq_true (by omega)) ?_
          refine SZ.mk (g.n : Int) rfl ?_
          refine SZ.mk (g.n : Int) rfl ?_
          refine SLt.mk (by simp) ?_
          refine SMake.rat g.n rfl (by omega) ?_
          refine SZ.mk (g.n : Int) rfl ?_
          refine SLoop.mk Nat (fun j => ([(2, .bptr 5 0), (5, .bptr 0 0), (7, .bptr 6 0), (9, .bptr 7 0), (10, .p (.int .i64 ((i + 1 : Nat) : Int))), (11, .vec 10 3 0 g.n), (91, .p (.int .i64 g.n)), (92, .p (.int .i64 ((i + 1 : Nat) : Int))), (102, .p (.int .i64 g.n)), (103, .p (.int .i64 (j : Nat)))],
              gwB g.n G (gO g.n (ent g)) (gtk g.n (ent g) g.n) (ggr g.n (ent g) g.n) ++ ([Blk.box 33 zpartA, Blk.box 31 (bxQ (ggr g.n (ent g) 0)), Blk.box 33 [.vec (.t 3) 1 0 g.n, .vec (.t 9) 1 0 (i + 1), .p (matP false false g.n g.n (gU g.n (ent g))), .p (.bool false), .p (.sl false 1 []), .p (.sl false 1 [])], Blk.pool 31 3 (plr (i + 1) g.n (gL g.n (ent g))), Blk.rows 24 (plc 8 g.n (i + 1) id),Blk.vec 31 3 (fl g.n fun k => if k < j then ratP (gL g.n (ent g) (i + 1) k) else rat0)] : List Blk)))
            (fun j => j ≤ g.n) (fun j => g.n - j) 0 [0, 1, 2, 3, 4, 5, 6, 7, 8, 9, 10] (Nat.zero_le _) ⟨rfl, by simp, rfl, rfl, rfl, ⟨rfl, rfl, rfl, rfl, rfl, rfl, rfl, rfl, rfl, rfl, trivial⟩, ⟨rfl, congrArg _ (plc_ren 2 rfl (by decide)), rfl, rfl, rfl, rfl, rfl, rfl, rfl, congrArg _ (plc_ren 8 rfl (by decide)),congrArg _ ((fl_congr fun k hk => if_neg (by omega)).trans (replicate_fl g.n rat0).symm), rows_in fun q hq => by simpa [plenAt] using r1 q hq, rows_in fun q hq => by simpa [plenAt] using hq,trivial⟩⟩ ?_
          intro j hj
          have hj : j ≤ g.n := hj
          by_cases hjn : j < g.n
          · refine SCmp.yes (decide_eq_true (by omega)) ?_
            have low := glower_ok g.n (ent g) (fl g.n fun i => ratsM true (lst g.n (G (gO g.n (ent g) i)))) (ggr g.n (ent g) g.n) (i + 1) j (by omega) hjn (zL (i + 1) j (by omega)) (by omega)
            refine SLendR.plc rfl r1 ?_
            refine SView.all (by simp) ?_
            refine SCall.pure (low) ?_
            refine SPos.mk j rfl hjn ?_
            refine SLt.mk (by simp; omega) <| SEs.mk _ (row_step hjn) ?_
            refine SWrap.i64z ((j + 1 : Nat) : Int) (by omega) (by omega) ?_
            exact ⟨j + 1, [0, 1, 2, 3, 4, 5, 6, 7, 8, 9, 10], hjn, by show g.n - (j + 1) < g.n - j; omega, ⟨rfl, by simp, rfl, rfl, rfl, ⟨rfl, rfl, rfl, rfl, rfl, rfl, rfl, rfl, rfl, rfl, trivial⟩, ⟨rfl, congrArg _ (plc_ren 2 rfl (by decide)), rfl, rfl, rfl, rfl, rfl, rfl, rfl, congrArg _ (plc_ren 8 rfl (by decide)),rfl, rows_in fun q hq => by simpa [plenAt] using r1 q hq, rows_in fun q hq => by simpa [plenAt] using hq,trivial⟩⟩⟩
          · refine SCmp.no (decide_eq_false (by omega)) ?_
            obtain rfl : j = g.n := by omega
            refine SEqN.mk (by simp) ?_
            refine SRoom.mk (by simp; omega) (by simp; omega) ?_
            refine SAs.mk _ rfl ?_
            refine SZN.mk (i + 1 + 1) (by simp) ?_
            refine SWrap.i64z ((i + 1 + 1 : Nat) : Int) (by omega) (by omega) ?_
            exact ⟨i + 1 + 1, [0, 1, 2, 3, 4, 5, 6, 7, 11008, 12], hin, by show g.n - (i + 1 + 1) < g.n - (i + 1); omega, ⟨rfl, by simp, rfl, rfl, rfl, ⟨rfl, rfl, rfl, rfl, rfl, rfl, trivial⟩, ⟨rfl, congrArg _ (plc_ren 2 rfl (by decide)), rfl, rfl, rfl, rfl, rfl, rfl, ⟨_, _, _, _, rfl, rfl, congrArg _ (plr_snoc.trans (congrArg (fun r => plr (i + 1) g.n (gL g.n (ent g)) ++ [some r]) row_full))⟩, congrArg _ (plc_absorb (p' := 8) (q := 10) (c := g.n) (k := i + 1) rfl (by decide) (by simp [plenAt])), rows_in fun q hq => by simpa [plenAt] using r1 q hq, rows_in fun q hq => by simpa [plenAt] using hq, trivial⟩⟩⟩
        · refine SCmp.no (decide_eq_false (by omega)) ?_
          have hn : i + 1 = g.n := by omega
          have z0 : ggr g.n (ent g) 0 ≠ 0 := fun e => by have := ggr_pos n1 (hp 0 n1); rw [e] at this; exact absurd this (by decide)
          have gq := quo_ok (ggr g.n (ent g) g.n) (ggr g.n (ent g) 0) z0 (ggr_bz hB h1 g.n (Nat.le_refl _)).sz (ggr_bz hB h1 0 (Nat.zero_le _)).sz (by omega)
          refine SDraw.mkX (by kernel_rfl) ?_
          repeat refine SOp.mk _ _ (And.intro rfl rfl) rfl ?_
          refine SOp.mk _ _ (SCall.pureT (gq) (fun _ => rfl) (And.intro rfl rfl)) rfl ?_
          repeat refine SOp.mk _ _ (And.intro rfl rfl) rfl ?_
          refine SFin.mk (by kernel_rfl) ?_
          have eL : matP false false g.n g.n (gL g.n (ent g)) = matP false false (i + 1) g.n (gL g.n (ent g)) := by rw [hn]
          refine SRet.pure (.tup rfl fun a c d e1 e2 => ?_)
          match a, e1, e2 with
          | 0, e1, e2 =>
            cases e1; cases e2
            refine .aggp (ps := partC g.n (ent g)) (fun d hd => by simp only [partC, List.mem_cons, List.not_mem_nil, or_false] at hd; rcases hd with rfl | rfl | rfl | rfl | rfl | rfl <;> rfl) rfl fun a c d e1 e2 => ?_
            match a, e1, e2 with
            | 0, e1, e2 => cases e1; cases e2; exact .frz (h := .t 3) rfl (by simp) (by simp) pers_perm (by rw [List.drop_zero]; exact List.take_of_length_le (by simp))
            | 1, e1, e2 => cases e1; cases e2; rw [eL]; exact frzM (h := 9) (p := 8) rfl rfl fun q hq => hq
            | 2, e1, e2 => cases e1; cases e2; exact .p _ pers_matP
            | 3, e1, e2 => cases e1; cases e2; exact .p _ (.bool _)
            | 4, e1, e2 => cases e1; cases e2; exact .p _ (.sl _ _ (pers_limbs _))
            | 5, e1, e2 => cases e1; cases e2; exact .p _ (.sl _ _ (pers_limbs _))
          | 1, e1, e2 => cases e1; cases e2; exact .p _ (.int _ _)
  · refine callG_of_vc (wr := wrK) Γok mixed Tryz.func11 (by kernel_rfl) rfl (by kernel_rfl) (le_of_ble rfl) (by simp) ?_
    refine SCmp.yes (neT (by rw [e]; decide)) ?_
    refine SCmp.no (neF (by rw [e]; rfl)) ?_
    refine SCall.mtx (gexpandO_ok m g h) ?_
    refine SNil.mk (fun _ => ?_) (fun h => absurd h (by omega))
    refine SDraw.mkX (by kernel_rfl) ?_
    repeat refine SOp.mk _ _ (And.intro rfl rfl) rfl ?_
    refine SOp.mk _ _ (SZ.mk (g.n : Int) rfl (And.intro rfl rfl)) rfl ?_
    repeat refine SOp.mk _ _ (And.intro rfl rfl) rfl ?_
    refine SOp.mk _ _ (SZ.mk (g.n : Int) rfl <| SLt.mk (by simp) <| SMake.mk g.n rfl (by show g.n * 8 ≤ _; omega) (by omega) (And.intro rfl rfl)) rfl ?_
    repeat refine SOp.mk _ _ (And.intro rfl rfl) rfl ?_
    refine SOp.mk _ _ (SCall.pure (kzero_ok) (And.intro rfl rfl)) rfl ?_
    repeat refine SOp.mk _ _ (And.intro rfl rfl) rfl ?_
    refine SFin.mk (by kernel_rfl) ?_
    refine SZ.mk (g.n : Int) rfl ?_
    refine SLoop.mk (Nat × (Nat → Nat)) (fun (i, s) => ([(2, .bptr 5 0), (5, .bptr 0 0), (39, .p (.int .i64 g.n)), (40, .p (.int .i64 (i : Nat)))],
        [.box 74 (gwA g.n 0), .rows 24 (plc 2 g.n g.n id), .pool 31 3 (plr g.n g.n (ent g)), .vec 3 1 (permP g.n s), .map [], .box 33 zpartA]))
      (fun (i, s) => i ≤ g.n ∧ ∀ t, t < g.n → s t = if t < i then t else 0) (fun x => g.n - x.1) (0, fun t => if t < 0 then t else 0) [6, 2, 3, 4, 5, 1] ⟨Nat.zero_le _, fun t _ => rfl⟩
      ⟨rfl, by simp, rfl, rfl, rfl, ⟨rfl, rfl, rfl, rfl, trivial⟩, ⟨rfl, congrArg _ (plc_ren 3 rfl (by decide)), rfl, congrArg _ perm0.symm, rfl, rfl, rows_in fun q hq => by simpa [plenAt] using hq, trivial⟩⟩ ?_
    intro ⟨i, s⟩ ⟨hi, hs⟩
    by_cases hin : i < g.n
    · refine SCmp.yes (decide_eq_true (by omega)) ?_
      refine SPos.mk i rfl hin ?_
      refine SLt.perm hin ?_
      refine SEs.perm ?_
      refine SWrap.i64z ((i + 1 : Nat) : Int) (by omega) (by omega) ?_
      refine ⟨(i + 1, _), [0, 1, 2, 3, 4, 5], ⟨hin, fun t ht => ?_⟩, by show g.n - (i + 1) < g.n - i; omega, ⟨rfl, by simp, rfl, rfl, rfl, ⟨rfl, rfl, rfl, rfl, trivial⟩, ⟨rfl, congrArg _ (plc_ren 2 rfl (by decide)), rfl, rfl, rfl, rfl, rows_in fun q hq => by simpa [plenAt] using hq, trivial⟩⟩⟩
      show upd s (i + 0) i t = _
      unfold upd
      by_cases e : t = i
      · rw [if_pos (by omega), if_pos (by omega), e]
      · rw [if_neg (by omega), hs t ht]
        by_cases e2 : t < i
        · rw [if_pos e2, if_pos (by omega)]
        · rw [if_neg e2, if_neg (by omega)]
    refine SCmp.no (decide_eq_false (by omega)) ?_
    obtain rfl : i = g.n := by omega
    have es : permP g.n s = permP g.n id := permP_congr fun t ht => by rw [hs t ht, if_pos ht]; rfl
    refine SCall.gw (glook_ok g.n 0 (ent g) (ent g) id [] 0 (Nat.zero_le _) (by omega) (fun i hi => hi) (fun _ _ _ _ => rfl) (hB 0 (Nat.zero_le _)) (bz_zero.mono h1) (by omega) (fun e he => by simp at he)) (fun _ => rfl) (by decide) ⟨rfl, fun _ => rfl⟩ ⟨rfl, fun _ => rfl⟩ ⟨rfl, fun _ => rfl⟩ ⟨congrArg (Blk.vec 3 1) es, fun _ => rfl⟩ ⟨rfl, fun _ => rfl⟩ ?_
    refine SZ.mk (g.n : Int) rfl ?_
    refine SLoop.mk (Nat × (Nat → Nat → Rat)) (fun (k, G) => ([(2, .bptr 5 0), (5, .bptr 0 0), (7, .bptr 6 0), (61, .p (.int .i64 g.n)), (62, .p (.int .i64 (k : Nat)))],
        gwB g.n G (gk g.n (ent g) k).s (gtk g.n (ent g) k) (ggr g.n (ent g) k) ++ [.box 33 zpartA, .box 31 (bxQ (ggr g.n (ent g) 0))]))
      (fun (k, G) => k ≤ g.n ∧ ∀ i j, i < g.n → j < g.n → G ((gk g.n (ent g) k).s i) j = (gk g.n (ent g) k).B i j) (fun x => g.n - x.1) (0, ent g) [0, 1, 2, 3, 4, 5, 6] ⟨Nat.zero_le _, fun _ _ _ _ => rfl⟩
      ⟨rfl, by simp, rfl, rfl, rfl, ⟨rfl, rfl, rfl, rfl, rfl, trivial⟩, ⟨rfl, congrArg _ (plc_ren 2 rfl (by decide)), rfl, rfl, rfl, rfl, rfl, rows_in (s := id) fun q hq => by simpa [plenAt] using hq, trivial⟩⟩ ?_
    intro ⟨k, G⟩ ⟨hkn, hG⟩
    obtain ⟨r1, r2, r3⟩ := gk_perm (n := g.n) (A := ent g) k (by omega)
    have zr := ggr_bz hB h1 k (by omega)
    by_cases hkn2 : k < g.n
    · refine SCmp.yes (decide_eq_true (by omega)) ?_
      refine SCall.gw (glook_ok g.n k G (gk g.n (ent g) k).B (gk g.n (ent g) k).s (gtk g.n (ent g) k) (ggr g.n (ent g) k) (by omega) (by omega) r1 hG (hB k (by omega)) zr (by omega) (gtk_key k).pers)
        (fun _ => rfl) (by decide) ⟨rfl, fun _ => rfl⟩ ⟨rfl, fun _ => rfl⟩ ⟨rfl, fun _ => rfl⟩ ⟨rfl, fun _ => rfl⟩ ⟨rfl, fun _ => rfl⟩ ?_
      refine SCall.gw (gpick_ok g.n k G (gk g.n (ent g) k).B (gk g.n (ent g) k).s (gtk g.n (ent g) k) (ggr g.n (ent g) (k + 1)) true (by omega) (by omega) r1 hG (hB k (by omega)) (by omega) (gtk_key k).pers ((decide_eq_true (by rw [← gpiv_eq]; exact hp k hkn2)).symm))
        (fun _ => rfl) (by decide) ⟨rfl, fun _ => rfl⟩ ⟨rfl, fun _ => rfl⟩ ⟨rfl, fun _ => rfl⟩ ⟨rfl, fun _ => rfl⟩ ⟨rfl, fun _ => rfl⟩ ?_
      refine SCmp.no (rfl) ?_
      obtain ⟨si, hsi⟩ := gw_inv (n := g.n) (A := ent g) (k := k + 1) (by omega)
      obtain ⟨q1, q2, _⟩ := gk_perm (n := g.n) (A := ent g) (k + 1) (by omega)
      refine SCall.gw (gclean_ok g.n k G (gkP g.n (ent g) k) (gk g.n (ent g) (k + 1)).s si (gtk g.n (ent g) k) (ggr g.n (ent g) (k + 1)) (by omega) (by omega) q1 q2 hsi (gw_swp (by omega) hG) (hB.P (by omega)) (by omega) (hp k hkn2) (gtk_key k))
        (fun _ => rfl) (by decide) ⟨rfl, fun _ => rfl⟩ ⟨rfl, fun _ => rfl⟩ ⟨rfl, fun _ => rfl⟩ ⟨rfl, fun _ => rfl⟩ ⟨rfl, fun _ => rfl⟩ ?_
      refine SWrap.i64z ((k + 1 : Nat) : Int) (by omega) (by omega) ?_
      exact ⟨(k + 1, fun r j => redA (gkP g.n (ent g) k) k (si r) j), [0, 1, 2, 3, 4, 5, 6], ⟨by omega, gw_next (by omega) hsi⟩, by show g.n - (k + 1) < g.n - k; omega, ⟨rfl, by simp, rfl, rfl, rfl, ⟨rfl, rfl, rfl, rfl, rfl, trivial⟩, ⟨rfl, congrArg _ (plc_ren 2 rfl (by decide)), rfl, rfl, rfl, rfl, rfl, rows_in fun q hq => by simpa [plenAt] using q1 q hq, trivial⟩⟩⟩
    · refine SCmp.no (decide_eq_false (by omega)) ?_
      obtain rfl : k = g.n := by omega
      have r1 : ∀ i, i < g.n → gO g.n (ent g) i < g.n := r1
      have own := gown_ok true true g.n (fun i => G (gO g.n (ent g) i)) n1 (by omega) (fun i j hi hj => by
        have e : G (gO g.n (ent g) i) j = (gk g.n (ent g) g.n).B i j := hG i j hi hj
        rw [e]; exact hB g.n (Nat.le_refl _) i j hi hj) (by omega)
      have eU : matP false false g.n g.n (fun i => G (gO g.n (ent g) i)) = matP false false g.n g.n (gU g.n (ent g)) := matP_congr fun i j hi hj => hG i j hi hj
      rw [eU] at own
      refine SDraw.mkX (by kernel_rfl) ?_
      repeat refine SOp.mk _ _ (And.intro rfl rfl) rfl ?_
      refine SOp.mk _ _ (SLendR.plc rfl r1 <| SCall.pure own (And.intro rfl rfl)) rfl ?_
      repeat refine SOp.mk _ _ (And.intro rfl rfl) rfl ?_
      refine SFin.mk (by kernel_rfl) ?_
      refine SZ.mk (g.n : Int) rfl ?_
      refine SLoop.mkT Nat (fun i => match i with
          | 0 => ([(2, .bptr 5 0), (5, .bptr 0 0), (7, .bptr 6 0), (9, .bptr 7 0), (91, .p (.int .i64 g.n)), (92, .p (.int .i64 0))],
            gwB g.n G (gO g.n (ent g)) (gtk g.n (ent g) g.n) (ggr g.n (ent g) g.n) ++ ([Blk.box 33 zpartA, Blk.box 31 (bxQ (ggr g.n (ent g) 0)), Blk.box 33 [.vec (.t 3) 1 0 g.n, .p (.raw (.slice none 0 0)), .p (matP false false g.n g.n (gU g.n (ent g))), .p (.bool false), .p (.sl false 1 []), .p (.sl false 1 [])], Blk.pool 31 3 (plr 0 g.n (gL g.n (ent g)))] : List Blk))
          | i + 1 => ([(2, .bptr 5 0), (5, .bptr 0 0), (7, .bptr 6 0), (9, .bptr 7 0), (91, .p (.int .i64 g.n)), (92, .p (.int .i64 ((i + 1 : Nat) : Int)))],
            gwB g.n G (gO g.n (ent g)) (gtk g.n (ent g) g.n) (ggr g.n (ent g) g.n) ++ ([Blk.box 33 zpartA, Blk.box 31 (bxQ (ggr g.n (ent g) 0)), Blk.box 33 [.vec (.t 3) 1 0 g.n, .vec (.t 9) 1 0 (i + 1), .p (matP false false g.n g.n (gU g.n (ent g))), .p (.bool false), .p (.sl false 1 []), .p (.sl false 1 [])], Blk.pool 31 3 (plr (i + 1) g.n (gL g.n (ent g))), Blk.rows 24 (plc 8 g.n (i + 1) id)] : List Blk)))
        (fun i => i ≤ g.n) (fun i => g.n - i) 0 [0, 1, 2, 3, 4, 5, 6, 7, 8] _ _ (.pool 31 3 (.done _ _)) (Nat.zero_le _) ⟨rfl, by simp, rfl, rfl, rfl, ⟨rfl, rfl, rfl, rfl, rfl, rfl, trivial⟩, ⟨rfl, congrArg _ (plc_ren 2 rfl (by decide)), rfl, rfl, rfl, rfl, rfl, rfl, rfl, rows_in fun q hq => by simpa [plenAt] using r1 q hq, trivial⟩⟩ ?_
      intro i hi
      match i, hi with
      | 0, hi =>
        refine SCmp.yes (decide_eq_true (by omega)) ?_
        refine SZ.mk (g.n : Int) rfl ?_
        refine SZ.mk (g.n : Int) rfl ?_
        refine SLt.mk (by simp) ?_
        refine SMake.rat g.n rfl (by omega) ?_
        refine SZ.mk (g.n : Int) rfl ?_
        refine SLoop.mk Nat (fun j => ([(2, .bptr 5 0), (5, .bptr 0 0), (7, .bptr 6 0), (9, .bptr 7 0), (10, .p (.int .i64 0)), (11, .vec 9 3 0 g.n), (91, .p (.int .i64 g.n)), (92, .p (.int .i64 0)), (102, .p (.int .i64 g.n)), (103, .p (.int .i64 (j : Nat)))],
            gwB g.n G (gO g.n (ent g)) (gtk g.n (ent g) g.n) (ggr g.n (ent g) g.n) ++ ([Blk.box 33 zpartA, Blk.box 31 (bxQ (ggr g.n (ent g) 0)), Blk.box 33 [.vec (.t 3) 1 0 g.n, .p (.raw (.slice none 0 0)), .p (matP false false g.n g.n (gU g.n (ent g))), .p (.bool false), .p (.sl false 1 []), .p (.sl false 1 [])], Blk.pool 31 3 (plr 0 g.n (gL g.n (ent g))),Blk.vec 31 3 (fl g.n fun k => if k < j then ratP (gL g.n (ent g) (0) k) else rat0)] : List Blk)))
          (fun j => j ≤ g.n) (fun j => g.n - j) 0 [0, 1, 2, 3, 4, 5, 6, 7, 8, 9] (Nat.zero_le _) ⟨rfl, by simp, rfl, rfl, rfl, ⟨rfl, rfl, rfl, rfl, rfl, rfl, rfl, rfl, rfl, rfl, trivial⟩, ⟨rfl, congrArg _ (plc_ren 2 rfl (by decide)), rfl, rfl, rfl, rfl, rfl, rfl, rfl,congrArg _ ((fl_congr fun k hk => if_neg (by omega)).trans (replicate_fl g.n rat0).symm), rows_in fun q hq => by simpa [plenAt] using r1 q hq, trivial⟩⟩ ?_
        intro j hj
        have hj : j ≤ g.n := hj
        by_cases hjn : j < g.n
        · refine SCmp.yes (decide_eq_true (by omega)) ?_
          have low := glower_ok g.n (ent g) (fl g.n fun i => ratsM true (lst g.n (G (gO g.n (ent g) i)))) (ggr g.n (ent g) g.n) (0) j (by omega) hjn (zL (0) j (by omega)) (by omega)
          refine SLendR.plc rfl r1 ?_
          refine SView.all (by simp) ?_
          refine SCall.pure (low) ?_
          refine SPos.mk j rfl hjn ?_
          refine SLt.mk (by simp; omega) <| SEs.mk _ (row_step hjn) ?_
          refine SWrap.i64z ((j + 1 : Nat) : Int) (by omega) (by omega) ?_
          exact ⟨j + 1, [0, 1, 2, 3, 4, 5, 6, 7, 8, 9], hjn, by show g.n - (j + 1) < g.n - j; omega, ⟨rfl, by simp, rfl, rfl, rfl, ⟨rfl, rfl, rfl, rfl, rfl, rfl, rfl, rfl, rfl, rfl, trivial⟩, ⟨rfl, congrArg _ (plc_ren 2 rfl (by decide)), rfl, rfl, rfl, rfl, rfl, rfl, rfl,rfl, rows_in fun q hq => by simpa [plenAt] using r1 q hq, trivial⟩⟩⟩
        · refine SCmp.no (decide_eq_false (by omega)) ?_
          obtain rfl : j = g.n := by omega
          refine SRoom.mk (by simp) (by simp) ?_
          refine SWrap.i64z ((0 + 1 : Nat) : Int) (by omega) (by omega) ?_
          exact ⟨1, [0, 1, 2, 3, 4, 5, 6, 7, 10008, 11], n1, by show g.n - 1 < g.n - 0; omega, ⟨rfl, by simp, rfl, rfl, rfl, ⟨rfl, rfl, rfl, rfl, rfl, rfl, trivial⟩, ⟨rfl, congrArg _ (plc_ren 2 rfl (by decide)), rfl, rfl, rfl, rfl, rfl, rfl, ⟨_, _, _, _, rfl, rfl, congrArg _ (plr_snoc.trans (congrArg (fun r => plr 0 g.n (gL g.n (ent g)) ++ [some r]) row_full))⟩, congrArg _ (plc_absorb (p' := 8) (q := 9) (c := g.n) (k := 0) rfl (by decide) (by simp [plenAt])), rows_in fun q hq => by simpa [plenAt] using r1 q hq, rows_in fun q hq => by simpa [plenAt] using hq, trivial⟩⟩⟩
      | i + 1, hi =>
        have hi : i + 1 ≤ g.n := hi
        by_cases hin : i + 1 < g.n
        · refine SCmp.yes (decide_eq_true (by omega)) ?_
          refine SZ.mk (g.n : Int) rfl ?_
          refine SZ.mk (g.n : Int) rfl ?_
          refine SLt.mk (by simp) ?_
          refine SMake.rat g.n rfl (by omega) ?_
          refine SZ.mk (g.n : Int) rfl ?_
          refine SLoop.mk Nat (fun j => ([(2, .bptr 5 0), (5, .bptr 0 0), (7, .bptr 6 0), (9, .bptr 7 0), (10, .p (.int .i64 ((i + 1 : Nat) : Int))), (11, .vec 10 3 0 g.n), (91, .p (.int .i64 g.n)), (92, .p (.int .i64 ((i + 1 : Nat) : Int))), (102, .p (.int .i64 g.n)), (103, .p (.int .i64 (j : Nat)))],
              gwB g.n G (gO g.n (ent g)) (gtk g.n (ent g) g.n) (ggr g.n (ent g) g.n) ++ ([Blk.box 33 zpartA, Blk.box 31 (bxQ (ggr g.n (ent g) 0)), Blk.box 33 [.vec (.t 3) 1 0 g.n, .vec (.t 9) 1 0 (i + 1), .p (matP false false g.n g.n (gU g.n (ent g))), .p (.bool false), .p (.sl false 1 []), .p (.sl false 1 [])], Blk.pool 31 3 (plr (i + 1) g.n (gL g.n (ent g))), Blk.rows 24 (plc 8 g.n (i + 1) id),Blk.vec 31 3 (fl g.n fun k => if k < j then ratP (gL g.n (ent g) (i + 1) k) else rat0)] : List Blk)))
            (fun j => j ≤ g.n) (fun j => g.n - j) 0 [0, 1, 2, 3, 4, 5, 6, 7, 8, 9, 10] (Nat.zero_le _) ⟨rfl, by simp, rfl, rfl, rfl, ⟨rfl, rfl, rfl, rfl, rfl, rfl, rfl, rfl, rfl, rfl, trivial⟩, ⟨rfl, congrArg _ (plc_ren 2 rfl (by decide)), rfl, rfl, rfl, rfl, rfl, rfl, rfl, congrArg _ (plc_ren 8 rfl (by decide)),congrArg _ ((fl_congr fun k hk => if_neg (by omega)).trans (replicate_fl g.n rat0).symm), rows_in fun q hq => by simpa [plenAt] using r1 q hq, rows_in fun q hq => by simpa [plenAt] using hq,trivial⟩⟩ ?_
          intro j hj
          have hj : j ≤ g.n := hj
          by_cases hjn : j < g.n
          · refine SCmp.yes (decide_eq_true (by omega)) ?_
            have low := glower_ok g.n (ent g) (fl g.n fun i => ratsM true (lst g.n (G (gO g.n (ent g) i)))) (ggr g.n (ent g) g.n) (i + 1) j (by omega) hjn (zL (i + 1) j (by omega)) (by omega)
            refine SLendR.plc rfl r1 ?_
            refine SView.all (by simp) ?_
            refine SCall.pure (low) ?_
            refine SPos.mk j rfl hjn ?_
            refine SLt.mk (by simp; omega) <| SEs.mk _ (row_step hjn) ?_
            refine SWrap.i64z ((j + 1 : Nat) : Int) (by omega) (by omega) ?_
            exact ⟨j + 1, [0, 1, 2, 3, 4, 5, 6, 7, 8, 9, 10], hjn, by show g.n - (j + 1) < g.n - j; omega, ⟨rfl, by simp, rfl, rfl, rfl, ⟨rfl, rfl, rfl, rfl, rfl, rfl, rfl, rfl, rfl, rfl, trivial⟩, ⟨rfl, congrArg _ (plc_ren 2 rfl (by decide)), rfl, rfl, rfl, rfl, rfl, rfl, rfl, congrArg _ (plc_ren 8 rfl (by decide)),rfl, rows_in fun q hq => by simpa [plenAt] using r1 q hq, rows_in fun q hq => by simpa [plenAt] using hq,trivial⟩⟩⟩
          · refine SCmp.no (decide_eq_false (by omega)) ?_
            obtain rfl : j = g.n := by omega
            refine SEqN.mk (by simp) ?_
            refine SRoom.mk (by simp; omega) (by simp; omega) ?_
            refine SAs.mk _ rfl ?_
            refine SZN.mk (i + 1 + 1) (by simp) ?_
            refine SWrap.i64z ((i + 1 + 1 : Nat) : Int) (by omega) (by omega) ?_
            exact ⟨i + 1 + 1, [0, 1, 2, 3, 4, 5, 6, 7, 11008, 12], hin, by show g.n - (i + 1 + 1) < g.n - (i + 1); omega, ⟨rfl, by simp, rfl, rfl, rfl, ⟨rfl, rfl, rfl, rfl, rfl, rfl, trivial⟩, ⟨rfl, congrArg _ (plc_ren 2 rfl (by decide)), rfl, rfl, rfl, rfl, rfl, rfl, ⟨_, _, _, _, rfl, rfl, congrArg _ (plr_snoc.trans (congrArg (fun r => plr (i + 1) g.n (gL g.n (ent g)) ++ [some r]) row_full))⟩, congrArg _ (plc_absorb (p' := 8) (q := 10) (c := g.n) (k := i + 1) rfl (by decide) (by simp [plenAt])), rows_in fun q hq => by simpa [plenAt] using r1 q hq, rows_in fun q hq => by simpa [plenAt] using hq, trivial⟩⟩⟩
        · refine SCmp.no (decide_eq_false (by omega)) ?_
          have hn : i + 1 = g.n := by omega
          have z0 : ggr g.n (ent g) 0 ≠ 0 := fun e => by have := ggr_pos n1 (hp 0 n1); rw [e] at this; exact absurd this (by decide)
          have gq := quo_ok (ggr g.n (ent g) g.n) (ggr g.n (ent g) 0) z0 (ggr_bz hB h1 g.n (Nat.le_refl _)).sz (ggr_bz hB h1 0 (Nat.zero_le _)).sz (by omega)
          refine SDraw.mkX (by kernel_rfl) ?_
          repeat refine SOp.mk _ _ (And.intro rfl rfl) rfl ?_
          refine SOp.mk _ _ (SCall.pureT (gq) (fun _ => rfl) (And.intro rfl rfl)) rfl ?_
          repeat refine SOp.mk _ _ (And.intro rfl rfl) rfl ?_
          refine SFin.mk (by kernel_rfl) ?_
          have eL : matP false false g.n g.n (gL g.n (ent g)) = matP false false (i + 1) g.n (gL g.n (ent g)) := by rw [hn]
          refine SRet.pure (.tup rfl fun a c d e1 e2 => ?_)
          match a, e1, e2 with
          | 0, e1, e2 =>
            cases e1; cases e2
            refine .aggp (ps := partC g.n (ent g)) (fun d hd => by simp only [partC, List.mem_cons, List.not_mem_nil, or_false] at hd; rcases hd with rfl | rfl | rfl | rfl | rfl | rfl <;> rfl) rfl fun a c d e1 e2 => ?_
            match a, e1, e2 with
            | 0, e1, e2 => cases e1; cases e2; exact .frz (h := .t 3) rfl (by simp) (by simp) pers_perm (by rw [List.drop_zero]; exact List.take_of_length_le (by simp))
            | 1, e1, e2 => cases e1; cases e2; rw [eL]; exact frzM (h := 9) (p := 8) rfl rfl fun q hq => hq
            | 2, e1, e2 => cases e1; cases e2; exact .p _ pers_matP
            | 3, e1, e2 => cases e1; cases e2; exact .p _ (.bool _)
            | 4, e1, e2 => cases e1; cases e2; exact .p _ (.sl _ _ (pers_limbs _))
            | 5, e1, e2 => cases e1; cases e2; exact .p _ (.sl _ _ (pers_limbs _))
          | 1, e1, e2 => cases e1; cases e2; exact .p _ (.int _ _)
end Go.Proofs.YtjfcphohgicolaaGreat

namespace Go.Proofs.YtjfcphohgicolaaGreat
open Go
set_option linter.unusedVariables false
set_option linter.unusedSimpArgs false
set_option maxRecDepth 10000
theorem gpiv_cases (n : Nat) (A : Nat → Nat → Rat) : (∀ t, t < n → gpiv n A t ≠ 0) ∨ ∃ K, K < n ∧ (∀ t, t < K → gpiv n A t ≠ 0) ∧ gpiv n A K = 0 := by
  have key : ∀ m, m ≤ n → (∀ t, t < m → gpiv n A t ≠ 0) ∨ ∃ K, K < m ∧ (∀ t, t < K → gpiv n A t ≠ 0) ∧ gpiv n A K = 0 := by
    intro m
    induction m with
    | zero => exact fun _ => .inl fun t h => absurd h (Nat.not_lt_zero _)
    | succ m ih =>
      intro hm
      rcases ih (by omega) with h | ⟨K, h1, h2, h3⟩
      · by_cases e : gpiv n A m = 0
        · exact .inr ⟨m, Nat.lt_succ_self _, h, e⟩
        · refine .inl fun t ht => ?_
          by_cases et : t = m
          · rw [et]; exact e
          · exact h t (by omega)
      · exact .inr ⟨K, by omega, h2, h3⟩
  exact key n (Nat.le_refl _)
/-- Digits of all that is left, of a Gen of the statements. -/
theorem gkB_wf {g : GV} (h : Wf g 5 13) (h5 : g.n ≤ 5) : GkB g.n (ent g) 42100 := fun k hk i j hi hj =>
  (GkB.of (b := 163) h.n1 (fun i j hi hj => h.bEnt hi hj) k hk i j hi hj).mono (Nat.le_trans (bb_mono (show g.n - 1 ≤ 4 by omega)) (by decide +kernel))
/-- The statements' matrices. -/
theorem gmake_ok (m : Bool) (n : Int) (ns : List Int) (like : Bool) (hn : I64 n) (hns : I64s ns) :
    ∃ g, CallP Tryz.prog 10 [.int .i64 n, .sl m 1 (intsP ns), .bool like, .int .i64 5] (.p (genP noF g)) [] ∧ Wf g 5 13 ∧ g.n ≤ 5 ∧ (g.k = 5 ∨ g.k = 7) := by
  have hm := lmake13_ok m n 5 ns like hn hns (by omega) (by omega)
  have hN := gmN_ok n 5 (by omega)
  refine ⟨_, hm, ?_, by rw [g13_n]; show gmN n 5 ≤ 5; omega, ?_⟩
  · cases like with
    | true =>
      obtain ⟨r1, r2, r0⟩ := gmR_ok (k := 7) n
      exact wf_g13 (wf_mkG (by decide) (by decide) hN.1 (by omega) r1 r2 r0) (.inr rfl)
    | false =>
      obtain ⟨r1, r2, r0⟩ := gmR_ok (k := 5) n
      exact wf_g13 (wf_mkG (by decide) (by decide) hN.1 (by omega) r1 r2 r0) (.inl rfl)
  · rw [g13_k]
    cases like with
    | true => exact .inr rfl
    | false => exact .inl rfl
def gk13 : GV := ⟨5, 1, 0, fun _ => ((2 : Int) : Rat), fun _ => ((1 : Int) : Rat), fun _ => 0, fun _ => 0⟩
theorem wf_gk13 : Wf gk13 5 13 where
  k1 := by decide
  k7 := by decide
  n1 := by decide
  n6 := by decide
  r2 := by decide
  r1 := fun h => by rcases h with h | h <;> cases h
  r0 := fun _ => rfl
  bA := fun i _ => int_bz (by decide) (by decide)
  bB := fun i _ => (int_bz (k := 5) (by decide) (by decide)).mono (by decide)
  bG := fun i _ => bz_zero.mono (by decide)
  bH := fun i _ => bz_zero.mono (by decide)
  ne := fun i j _ _ => by show ((2 : Int) : Rat) ≠ ((1 : Int) : Rat); decide
  bc := by decide
  c4 := by decide
/-- One row, of one number, made anew. -/
theorem kall1_ok (A : Nat → Nat → Rat) {a : Nat} (hA : Bz (A 0 0) a) (ha : a + a ≤ 1048576) : CallP Tryz.prog 37 [matP false false 1 1 A, .sl true 1 [ratsM true (lst 1 fun _ => A 0 0)]] (.p (.bool true)) [] := by
  have h := rall_ok false false true true 1 1 A (a := a) (fun i k hi hk => by
    obtain rfl : i = 0 := by omega
    obtain rfl : k = 0 := by omega
    exact hA) ha (by decide) (by decide)
  exact h
theorem known13_ok : CallP Tryz.prog 9 [] (.p (.bool true)) [] := by
  have hf := kfactor_ok m15 gk13 wf_gk13 (.inl rfl) (gkB_wf wf_gk13 (by decide)) (by decide) (by decide) (fun t ht => by
    obtain rfl : t = 0 := by have : t < 1 := ht; omega
    decide +kernel)
  have e1 : gU 1 (ent gk13) 0 0 = ((1 : Int) : Rat) := by decide +kernel
  have e2 : gro 1 (ent gk13) = ((1 : Int) : Rat) := by decide +kernel
  have a1 := kall1_ok (gU 1 (ent gk13)) (a := 5) (by rw [e1]; exact int_bz (by decide) (by decide)) (by decide)
  rw [e1] at a1
  have b1 : Bz (gro 1 (ent gk13)) 5 := by rw [e2]; exact int_bz (by decide) (by decide)
  have b2 : Bz ((1 : Int) : Rat) 5 := int_bz (by decide) (by decide)
  have s1 := rsame_ok (gro 1 (ent gk13)) ((1 : Int) : Rat) b1 b2 (by decide)
  rw [decide_eq_true e2] at s1
  refine callG_of_vc (wr := wr0) Γok mixed Tryz.func9 (by kernel_rfl) rfl (by kernel_rfl) (le_of_ble rfl) (by simp) ?_
  refine SCall.pure (rint_ok 2 (by decide)) ?_
  refine SCall.pure (rint_ok 1 (by decide)) ?_
  refine SView.all rfl <| SView.all rfl <| SCall.pureT (pvs := [.agg [.int .i64 5, .int .i64 1, .int .i64 0, ratsM true (lst 1 gk13.A), ratsM true (lst 1 gk13.B), znil, znil]]) (CallG.weak1 hf (.gen rfl rfl rfl (.refl _) (.refl _) (.nil _ _) (.nil _ _))) (fun _ => rfl) ?_
  refine SDraw.mkX (by kernel_rfl) ?_
  repeat refine SOp.mk _ _ (And.intro rfl rfl) rfl ?_
  refine SOp.mk _ _ (SCmp.yes rfl (And.intro rfl rfl)) rfl ?_
  repeat refine SOp.mk _ _ (And.intro rfl rfl) rfl ?_
  refine SOp.mk _ _ (SZ.mk 1 rfl (And.intro rfl rfl)) rfl ?_
  refine SOp.mk _ _ (SCmp.yes rfl (And.intro rfl rfl)) rfl ?_
  repeat refine SOp.mk _ _ (And.intro rfl rfl) rfl ?_
  refine SOp.mk _ _ (SCall.pure (rint_ok 1 (by decide)) (And.intro rfl rfl)) rfl ?_
  repeat refine SOp.mk _ _ (And.intro rfl rfl) rfl ?_
  refine SOp.mk _ _ (SLendR.mk [ratsM true (lst 1 fun _ => ((1 : Int) : Rat))] rfl rfl (fun i c p e1 e2 => by match i, e1, e2 with | 0, e1, e2 => cases e1; cases e2; exact .vec (es := rats (lst 1 fun _ => ((1 : Int) : Rat))) rfl (by decide)) <| SCall.pure a1 (And.intro rfl rfl)) rfl ?_
  repeat refine SOp.mk _ _ (And.intro rfl rfl) rfl ?_
  refine SOp.mk _ _ (SCall.pure (rint_ok 1 (by decide)) (And.intro rfl rfl)) rfl ?_
  refine SOp.mk _ _ (SCall.pure (s1) (And.intro rfl rfl)) rfl ?_
  repeat refine SOp.mk _ _ (And.intro rfl rfl) rfl ?_
  refine SFin.mk (by kernel_rfl) ?_
  exact SRet.pure (.p _ (.bool _))
end Go.Proofs.YtjfcphohgicolaaGreat

namespace Go.Proofs.YtjfcphohgicolaaGreat
open Go
set_option linter.unusedVariables false
set_option linter.unusedSimpArgs false
set_option maxRecDepth 10000
theorem rexpand5_ok (m : Nat → Bool) (g : GV) {b c : Nat} (h : Wf g b c) : CallP Tryz.prog 16 [genP m g] (.p (matP false false g.n g.n (ent g))) [] := by
  have h8 := h.n6
  refine callG_of_vc (wr := wr0) Γok mixed Tryz.func16 (by kernel_rfl) rfl (by kernel_rfl) (le_of_ble rfl) (by simp) ?_
  refine SLoop.mkT Nat (fun i => ([(1, .bptr 0 0), (3, .vec 1 1 0 i), (4, .p (.int .i64 i))], [.box 26 (genA m g), .rows 24 (plc 2 g.n i id), .pool 31 3 (plr i g.n (ent g))]))
    (fun i => i ≤ g.n) (fun i => g.n - i) 0 [0, 1, 2] _ _ (.rows 3 24 rfl (.pool 31 3 (.done _ _))) (Nat.zero_le _) ⟨rfl, by simp, rfl, rfl, rfl, ⟨rfl, rfl, rfl, trivial⟩, ⟨rfl, rfl, rfl, rows_in fun i hi => absurd hi (Nat.not_lt_zero _), trivial⟩⟩ ?_
  intro i hi
  have hi : i ≤ g.n := hi
  by_cases hin : i < g.n
  · refine SCmp.yes (decide_eq_true (by omega)) ?_
    refine SLoop.mkT Nat (fun j => ([(1, .bptr 0 0), (3, .vec 1 1 0 i), (4, .p (.int .i64 i)), (5, .vec 3 3 0 j), (6, .p (.int .i64 j))], [.box 26 (genA m g), .rows 24 (plc 2 g.n i id), .pool 31 3 (plr i g.n (ent g)), .vec 31 3 (rats (lst j (ent g i)))]))
      (fun j => j ≤ g.n) (fun j => g.n - j) 0 [0, 1, 2, 3] _ _ (.step 5 31 3 rfl (.done _ _)) (Nat.zero_le _) ⟨rfl, by simp, rfl, rfl, rfl, ⟨rfl, rfl, rfl, rfl, rfl, trivial⟩, ⟨rfl, congrArg _ (plc_ren 2 rfl (by decide)), rfl, rfl, rows_in fun i hi => by simpa [plenAt] using hi, trivial⟩⟩ ?_
    intro j hj
    have hj : j ≤ g.n := hj
    by_cases hjn : j < g.n
    · refine SCmp.yes (decide_eq_true (by omega)) ?_
      refine SCall.pure (rentry5_ok m g h i j hin hjn) ?_
      refine SEqN.mk (by simp [lst]) <| SView.all rfl <| SRoom.mk (by simp [lst]; omega) (by simp [lst]; omega) <| SEs.mk (rats (lst (j + 1) (ent g i))) (app_lst _ _ _ (rfl)) <| SZN.mk (j + 1) (by simp [lst]) ?_
      refine SWrap.i64z ((j + 1 : Nat) : Int) (by omega) (by omega) ?_
      exact ⟨j + 1, [0, 1, 2, 5], hjn, by show g.n - (j + 1) < g.n - j; omega, ⟨rfl, by simp, rfl, rfl, rfl, ⟨rfl, rfl, rfl, rfl, rfl, trivial⟩, ⟨rfl, congrArg _ (plc_ren 2 rfl (by decide)), rfl, rfl, rows_in fun i hi => by simpa [plenAt] using hi, trivial⟩⟩⟩
    · refine SCmp.no (decide_eq_false (by omega)) ?_
      obtain rfl : j = g.n := by omega
      refine SEqN.mk (by simp) ?_
      refine SRoom.mk (by simp; omega) (by simp; omega) ?_
      refine SAs.mk _ rfl ?_
      refine SZN.mk (i + 1) (by simp) ?_
      refine SWrap.i64z ((i + 1 : Nat) : Int) (by omega) (by omega) ?_
      exact ⟨i + 1, [0, 5, 4002], hin, by show g.n - (i + 1) < g.n - i; omega, ⟨rfl, by simp, rfl, rfl, rfl, ⟨rfl, rfl, rfl, trivial⟩, ⟨rfl, congrArg _ (plc_absorb rfl (by decide) (by simp [plenAt])), ⟨_, _, _, _, rfl, rfl, congrArg _ plr_snoc⟩, rows_in fun i hi => by simpa [plenAt] using hi, trivial⟩⟩⟩
  · refine SCmp.no (decide_eq_false (by omega)) ?_
    obtain rfl : i = g.n := by omega
    exact SRet.pure (frzM (H := [_, _, _]) (h := 1) (p := 2) rfl rfl fun i hi => hi)
end Go.Proofs.YtjfcphohgicolaaGreat

namespace Go.Proofs.YtjfcphohgicolaaGreat
open Go
set_option linter.unusedVariables false
set_option linter.unusedSimpArgs false
set_option maxRecDepth 10000
theorem rgreatest_ok (m m' : Bool) (n k : Nat) (A : Nat → Nat → Rat) {D : Nat} (hk : k ≤ n) (hn : n ≤ 1000) (hA : ∀ i j, i < n → j < n → Bz (A i j) D) (h1 : 1 ≤ D) (hD : D + D ≤ 1000000) :
    CallP Tryz.prog 83 [matP m m' n n A, .int .i64 (k : Nat)] (.p (ratP (mxR A n k (n - k) 0))) [] := by
  refine callG_of_vc (wr := wr0) Γok mixed Tryz.func83 (by kernel_rfl) rfl (by kernel_rfl) (le_of_ble rfl) (by simp) ?_
  refine SCall.pure (rzero_ok) ?_
  refine SLoop.mk (Nat × Nat) (fun (i, d) => ([(0, .p (matP m m' n n A)), (4, .bptr 0 0), (5, .bptr 1 0), (6, .p (.int .i64 (i : Nat)))], [.box 31 [.p (.bool false), .p (.sl false 1 []), .p (.sl false 1 [])], .box 31 (bxQ (mxR A n k d 0))]))
    (fun (i, d) => i = k + d ∧ i ≤ n) (fun x => n - x.1) (k, 0) [0, 1] ⟨rfl, hk⟩ ⟨rfl, by simp, rfl, rfl, rfl, ⟨rfl, rfl, rfl, rfl, trivial⟩, ⟨rfl, rfl, trivial⟩⟩ ?_
  intro ⟨i, d⟩ ⟨hi, hin⟩
  refine SZ.mk (n : Int) (by simp) ?_
  have zr : Bz (mxR A n k d 0) D := mxR_bz (bz_zero.mono h1) d fun i j _ h2 h3 => hA i j (by omega) h3
  by_cases hlt : i < n
  · refine SCmp.yes (decide_eq_true (by omega)) ?_
    refine SLoop.mk Nat (fun c => ([(0, .p (matP m m' n n A)), (4, .bptr 0 0), (5, .bptr 1 0), (6, .p (.int .i64 (i : Nat))), (7, .p (.int .i64 (c : Nat)))], [.box 31 [.p (.bool false), .p (.sl false 1 []), .p (.sl false 1 [])], .box 31 (bxQ (mxN (A i) c (mxR A n k d 0)))]))
      (fun c => c ≤ n) (fun c => n - c) 0 [0, 1] (Nat.zero_le _) ⟨rfl, by simp, rfl, rfl, rfl, ⟨rfl, rfl, rfl, rfl, rfl, trivial⟩, ⟨rfl, rfl, trivial⟩⟩ ?_
    intro c hc
    have hc : c ≤ n := hc
    refine SZ.mk (n : Int) (by simp) ?_
    by_cases hcn : c < n
    · refine SCmp.yes (decide_eq_true (by omega)) ?_
      have zc := hA i c hlt hcn
      have zm : Bz (mxN (A i) c (mxR A n k d 0)) D := mxN_bz zr c fun j hj => hA i j hlt (by omega)
      by_cases hgt : mxN (A i) c (mxR A n k d 0) < (A i c).abs
      · have e : mxN (A i) (c + 1) (mxR A n k d 0) = (A i c).abs := if_pos hgt
        refine SDraw.mk (by kernel_rfl) ?_
        repeat refine SOp.mk _ _ (And.intro rfl rfl) rfl ?_
        refine SOp.mk _ _ (SIdx.mf i rfl hlt (And.intro rfl rfl)) rfl ?_
        repeat refine SOp.mk _ _ (And.intro rfl rfl) rfl ?_
        refine SOp.mk _ _ (SIdx.rf c rfl hcn (And.intro rfl rfl)) rfl ?_
        repeat refine SOp.mk _ _ (And.intro rfl rfl) rfl ?_
        refine SOp.mk _ _ (SCall.pure (rabs_ok _ zc (by omega)) (And.intro rfl rfl)) rfl ?_
        repeat refine SOp.mk _ _ (And.intro rfl rfl) rfl ?_
        refine SOp.mk _ _ (SCall.pure (rcmpq_ok _ _ zc.abs zm (by omega)) (And.intro rfl rfl)) rfl ?_
        refine SOp.mk _ _ (SCmp.yes (decide_eq_true (cmpQ_pos.2 hgt)) (And.intro rfl rfl)) rfl ?_
        refine SIdx.mf i rfl hlt ?_
        refine SIdx.rf c rfl hcn ?_
        refine SCall.pure (rabs_ok _ zc (by omega)) ?_
        refine SWrap.i64z ((c + 1 : Nat) : Int) (by omega) (by omega) ?_
        exact ⟨c + 1, [0, 1], hcn, by show n - (c + 1) < n - c; omega, ⟨rfl, by simp, rfl, rfl, rfl, ⟨rfl, rfl, rfl, rfl, rfl, trivial⟩, ⟨rfl, by rw [e]; rfl, trivial⟩⟩⟩
      · have e : mxN (A i) (c + 1) (mxR A n k d 0) = mxN (A i) c (mxR A n k d 0) := if_neg hgt
        refine SDraw.mk (by kernel_rfl) ?_
        repeat refine SOp.mk _ _ (And.intro rfl rfl) rfl ?_
        refine SOp.mk _ _ (SIdx.mf i rfl hlt (And.intro rfl rfl)) rfl ?_
        repeat refine SOp.mk _ _ (And.intro rfl rfl) rfl ?_
        refine SOp.mk _ _ (SIdx.rf c rfl hcn (And.intro rfl rfl)) rfl ?_
        repeat refine SOp.mk _ _ (And.intro rfl rfl) rfl ?_
        refine SOp.mk _ _ (SCall.pure (rabs_ok _ zc (by omega)) (And.intro rfl rfl)) rfl ?_
        repeat refine SOp.mk _ _ (And.intro rfl rfl) rfl ?_
        refine SOp.mk _ _ (SCall.pure (rcmpq_ok _ _ zc.abs zm (by omega)) (And.intro rfl rfl)) rfl ?_
        refine SOp.mk _ _ (SCmp.no (decide_eq_false (mt cmpQ_pos.1 hgt)) (And.intro rfl rfl)) rfl ?_
        refine SWrap.i64z ((c + 1 : Nat) : Int) (by omega) (by omega) ?_
        exact ⟨c + 1, [0, 1], hcn, by show n - (c + 1) < n - c; omega, ⟨rfl, by simp, rfl, rfl, rfl, ⟨rfl, rfl, rfl, rfl, rfl, trivial⟩, ⟨rfl, by rw [e]; rfl, trivial⟩⟩⟩
    · refine SCmp.no (decide_eq_false (by omega)) ?_
      obtain rfl : c = n := by omega
      refine SWrap.i64z ((i + 1 : Nat) : Int) (by omega) (by omega) ?_
      exact ⟨(i + 1, d + 1), [0, 1], ⟨by omega, hlt⟩, by show c - (i + 1) < c - i; omega, ⟨rfl, by simp, rfl, rfl, rfl, ⟨rfl, rfl, rfl, rfl, trivial⟩, ⟨rfl, by rw [hi]; rfl, trivial⟩⟩⟩
  · refine SCmp.no (decide_eq_false (by omega)) ?_
    obtain rfl : d = n - k := by omega
    exact SRet.pure (.p _ (pers_rat _ _ _))
end Go.Proofs.YtjfcphohgicolaaGreat

namespace Go.Proofs.YtjfcphohgicolaaGreat
open Go
set_option linter.unusedVariables false
set_option linter.unusedSimpArgs false
set_option maxRecDepth 10000
theorem zer_full {n : Nat} : (fl n fun k => if k < n then ratP 0 else rat0) = rats (lst n fun _ => 0) := row_full.symm
theorem perm_snoc {i : Nat} : permP i id ++ [PV.int .i64 (i : Nat)] = permP (i + 1) id := fl_snoc.symm
theorem plc_set {G B : Nat → Nat → Rat} {s : Nat → Nat} {n k : Nat} {v : Rat} (inj : ∀ p q, p < n → q < n → s p = s q → p = q) (hk : k < n) (h : ∀ i j, i < n → j < n → G (s i) j = B i j) {i : Nat} (hi : i < n) :
    ∀ t c, t < n → c < n → upd G (s (i + 0)) (upd (G (s (i + 0))) (k + 0) v) (s t) c = if t = i ∧ c = k then v else B t c := fun t c ht hc => by
  rw [Nat.add_zero, Nat.add_zero]
  by_cases e : t = i
  · subst e
    rw [upd_same]
    by_cases e2 : c = k
    · subst e2; rw [upd_same, if_pos ⟨rfl, rfl⟩]
    · rw [upd_other _ _ e2, if_neg fun h => e2 h.2]; exact h t c ht hc
  · rw [upd_other _ _ fun e2 => e (inj t i ht hi e2), if_neg fun h => e h.1]; exact h t c ht hc
abbrev aB (N : Nat) (G ML : Nat → Nat → Rat) (s : Nat → Nat) (w q : Rat) : List Blk := [Blk.box 37 [.p (.raw (.slice none 0 0)), .p (.raw (.slice none 0 0)), .p (.raw (.slice none 0 0)), .p (.bool false), .p (.sl false 1 []), .p (.sl false 1 [])], Blk.box 37 [.vec (.t 4) 1 0 N, .vec (.t 6) 1 0 N, .p (.raw (.slice none 0 0)), .p (.bool false), .p (.sl false 1 []), .p (.sl false 1 [])], Blk.pool 31 3 (plr N N G), Blk.pool 31 3 (plr N N ML), Blk.vec 3 1 (permP N s), Blk.rows 24 (plc 2 N N s), Blk.rows 24 (plc 3 N N s), Blk.box 31 (bxQ w), Blk.box 31 (bxQ q)]
theorem upd_swS2 {s : Nat → Nat} {p k : Nat} : upd (upd s (p + 0) (s (k + 0))) (k + 0) (s (p + 0)) = swS s p k := by
  funext i
  simp only [Nat.add_zero, upd, swS]
  by_cases e : i = k
  · rw [if_pos e]
    by_cases e2 : i = p
    · rw [if_pos e2, ← e2, e]
    · rw [if_neg e2, if_pos e]
  · rw [if_neg e]
    by_cases e2 : i = p
    · rw [if_pos e2, if_pos e2]
    · rw [if_neg e2, if_neg e2, if_neg e]
set_option maxHeartbeats 4000000 in
theorem rapartX_ok (m m' : Bool) (n K : Nat) (A : Nat → Nat → Rat) {D : Nat} (n1 : 1 ≤ n) (hn : n ≤ 900) (hB : GkB n A D) (h1 : 1 ≤ D) (hD : 4 * D + 1 ≤ 1000000) (hK : K ≤ n) (hp0 : ∀ t, t < K → gpiv n A t ≠ 0) (hz : K < n → gpiv n A K = 0) (R : AV)
    (hR1 : K < n → R = .tup [.p (.agg [.raw (.slice none 0 0), .raw (.slice none 0 0), .raw (.slice none 0 0), .bool false, .sl false 1 [], .sl false 1 []]), .p (.int .i64 9)]) (hR2 : K = n → R = .tup [.p (partP n A), .p (.int .i64 0)]) :
    CallP Tryz.prog 47 [matP m m' n n A] R [] := by
  refine callG_of_vc (wr := wr0) Γok mixed Tryz.func47 (by kernel_rfl) rfl (by kernel_rfl) (le_of_ble rfl) (by simp) ?_
  refine SZ.mk (n : Int) (by simp) ?_
  refine SLoop.mkT Nat (fun i => match i with
      | 0 => ([(0, .p (matP m m' n n A)), (2, .bptr 0 0), (4, .p (.int .i64 n)), (5, .bptr 1 0), (6, .emp), (7, .p (.int .i64 0))], [Blk.box 37 [.p (.raw (.slice none 0 0)), .p (.raw (.slice none 0 0)), .p (.raw (.slice none 0 0)), .p (.bool false), .p (.sl false 1 []), .p (.sl false 1 [])], Blk.box 37 [.p (.raw (.slice none 0 0)), .p (.raw (.slice none 0 0)), .p (.raw (.slice none 0 0)), .p (.bool false), .p (.sl false 1 []), .p (.sl false 1 [])], Blk.pool 31 3 (plr 0 n A), Blk.pool 31 3 (plr 0 n fun _ _ => 0)])
      | i + 1 => ([(0, .p (matP m m' n n A)), (2, .bptr 0 0), (4, .p (.int .i64 n)), (5, .bptr 1 0), (6, .vec 5 1 0 (i + 1)), (7, .p (.int .i64 ((i + 1 : Nat) : Int)))], [Blk.box 37 [.p (.raw (.slice none 0 0)), .p (.raw (.slice none 0 0)), .p (.raw (.slice none 0 0)), .p (.bool false), .p (.sl false 1 []), .p (.sl false 1 [])], Blk.box 37 [.vec (.t 4) 1 0 (i + 1), .vec (.t 6) 1 0 (i + 1), .p (.raw (.slice none 0 0)), .p (.bool false), .p (.sl false 1 []), .p (.sl false 1 [])], Blk.pool 31 3 (plr (i + 1) n A), Blk.pool 31 3 (plr (i + 1) n fun _ _ => 0), Blk.vec 3 1 (permP (i + 1) id), Blk.rows 24 (plc 2 n (i + 1) id), Blk.rows 24 (plc 3 n (i + 1) id)]))
    (fun i => i ≤ n) (fun i => n - i) 0 [0, 1, 2, 3] _ _ (.pool 31 3 (.pool 31 3 (.done _ _))) (Nat.zero_le _) ⟨rfl, by simp, rfl, rfl, rfl, ⟨rfl, rfl, rfl, rfl, rfl, rfl, trivial⟩, ⟨rfl, rfl, rfl, rfl, trivial⟩⟩ ?_
  intro i hi
  match i, hi with
  | 0, hi =>
    refine SCmp.yes (decide_eq_true (by omega)) ?_
    refine SIdx.mf (0) rfl (by omega) ?_
    refine SRoom.mk (by simp [lst]; omega) (by simp [lst]; omega) ?_
    refine SRoom.mk (by simp) (by simp) ?_
    refine SView.all rfl ?_
    refine SRoom.mk (by simp) (by simp) ?_
    refine SZ.mk (n : Int) rfl ?_
    refine SLt.mk (by simp) ?_
    refine SMake.rat n rfl (by omega) ?_
    refine SLoop.mk Nat (fun j => ([(0, .p (matP m m' n n A)), (2, .bptr 0 0), (4, .p (.int .i64 n)), (5, .bptr 1 0), (6, .vec 5 1 0 1), (7, .p (.int .i64 0)), (8, .vec 6 3 0 n), (9, .p (.int .i64 (j : Nat)))], [Blk.box 37 [.p (.raw (.slice none 0 0)), .p (.raw (.slice none 0 0)), .p (.raw (.slice none 0 0)), .p (.bool false), .p (.sl false 1 []), .p (.sl false 1 [])], Blk.box 37 [.vec (.t 4) 1 0 1, .p (.raw (.slice none 0 0)), .p (.raw (.slice none 0 0)), .p (.bool false), .p (.sl false 1 []), .p (.sl false 1 [])], Blk.pool 31 3 (plr 1 n A), Blk.pool 31 3 (plr 0 n fun _ _ => 0), Blk.vec 3 1 (permP 1 id), Blk.rows 24 (plc 2 n 1 id), Blk.vec 31 3 (fl n fun k => if k < j then ratP 0 else rat0)]))
      (fun j => j ≤ n) (fun j => n - j) 0 [0, 1, 5002, 3, 8, 6, 9] (Nat.zero_le _) ⟨rfl, by simp, rfl, rfl, rfl, ⟨rfl, rfl, rfl, rfl, rfl, rfl, rfl, rfl, trivial⟩, ⟨rfl, rfl, ⟨_, _, _, _, rfl, rfl, congrArg _ plr_snoc⟩, rfl, rfl, congrArg _ ((plc_absorb (p' := 2) (q := 4) (c := n) (k := 0) rfl (by decide) (by simp [plenAt])).trans (by simp [lst]; rfl)), congrArg _ ((fl_congr fun k hk => if_neg (by omega)).trans (replicate_fl n rat0).symm), rows_in fun q hq => by simpa [plenAt] using hq, trivial⟩⟩ ?_
    intro j hj
    have hj : j ≤ n := hj
    by_cases hjn : j < n
    · refine SCmp.yes (decide_eq_true (by omega)) ?_
      refine SCall.pure (rzero_ok) ?_
      refine SPos.mk j rfl hjn ?_
      refine SLt.mk (by simp; omega) <| SEs.mk _ (row_step (f := fun _ => 0) hjn) ?_
      refine SWrap.i64z ((j + 1 : Nat) : Int) (by omega) (by omega) ?_
      exact ⟨j + 1, [0, 1, 2, 3, 4, 5, 6], hjn, by show n - (j + 1) < n - j; omega, ⟨rfl, by simp, rfl, rfl, rfl, ⟨rfl, rfl, rfl, rfl, rfl, rfl, rfl, rfl, trivial⟩, ⟨rfl, rfl, rfl, rfl, rfl, congrArg _ (plc_ren 2 rfl (by decide)), rfl, rows_in fun q hq => by simpa [plenAt] using hq, trivial⟩⟩⟩
    · refine SCmp.no (decide_eq_false (by omega)) ?_
      obtain rfl : j = n := by omega
      refine SRoom.mk (by simp) (by simp) ?_
      refine SWrap.i64z ((0 + 1 : Nat) : Int) (by omega) (by omega) ?_
      exact ⟨1, [0, 1, 2, 7003, 4, 5, 8], n1, by show j - 1 < j - 0; omega, ⟨rfl, by simp, rfl, rfl, rfl, ⟨rfl, rfl, rfl, rfl, rfl, rfl, trivial⟩, ⟨rfl, rfl, rfl, ⟨_, _, _, _, rfl, rfl, congrArg _ (plr_snoc.trans (congrArg (fun r => plr 0 j (fun _ _ => 0) ++ [some r]) zer_full.symm))⟩, rfl, congrArg _ (plc_ren 2 rfl (by decide)), congrArg _ (plc_absorb (p' := 3) (q := 6) (c := j) (k := 0) rfl (by decide) (by simp [plenAt])), rows_in fun q hq => by simpa [plenAt] using hq, rows_in fun q hq => by simpa [plenAt] using hq, trivial⟩⟩⟩
  | i + 1, hi =>
    have hi : i + 1 ≤ n := hi
    by_cases hin : i + 1 < n
    · refine SCmp.yes (decide_eq_true (by omega)) ?_
      refine SIdx.mf (i + 1) rfl (by omega) ?_
      refine SRoom.mk (by simp [lst]; omega) (by simp [lst]; omega) ?_
      refine SEqN.mk (by simp) ?_
      refine SRoom.mk (by simp; omega) (by simp; omega) ?_
      refine SAs.mk _ rfl ?_
      refine SZN.mk (i + 1 + 1) (by simp) ?_
      refine SEqN.mk (by simp) ?_
      refine SView.all rfl ?_
      refine SRoom.mk (by simp; omega) (by simp; omega) ?_
      refine SEs.mk _ (perm_snoc (i := i + 1)) ?_
      refine SZN.mk (i + 1 + 1) (by simp) ?_
      refine SZ.mk (n : Int) rfl ?_
      refine SLt.mk (by simp) ?_
      refine SMake.rat n rfl (by omega) ?_
      refine SLoop.mk Nat (fun j => ([(0, .p (matP m m' n n A)), (2, .bptr 0 0), (4, .p (.int .i64 n)), (5, .bptr 1 0), (6, .vec 5 1 0 (i + 1 + 1)), (7, .p (.int .i64 ((i + 1 : Nat) : Int))), (8, .vec 7 3 0 n), (9, .p (.int .i64 (j : Nat)))], [Blk.box 37 [.p (.raw (.slice none 0 0)), .p (.raw (.slice none 0 0)), .p (.raw (.slice none 0 0)), .p (.bool false), .p (.sl false 1 []), .p (.sl false 1 [])], Blk.box 37 [.vec (.t 4) 1 0 (i + 1 + 1), .vec (.t 6) 1 0 (i + 1), .p (.raw (.slice none 0 0)), .p (.bool false), .p (.sl false 1 []), .p (.sl false 1 [])], Blk.pool 31 3 (plr (i + 1 + 1) n A), Blk.pool 31 3 (plr (i + 1) n fun _ _ => 0), Blk.vec 3 1 (permP (i + 1 + 1) id), Blk.rows 24 (plc 2 n (i + 1 + 1) id), Blk.rows 24 (plc 3 n (i + 1) id), Blk.vec 31 3 (fl n fun k => if k < j then ratP 0 else rat0)]))
        (fun j => j ≤ n) (fun j => n - j) 0 [0, 1, 8002, 3, 11, 9, 6, 12] (Nat.zero_le _) ⟨rfl, by simp, rfl, rfl, rfl, ⟨rfl, rfl, rfl, rfl, rfl, rfl, rfl, rfl, trivial⟩, ⟨rfl, rfl, ⟨_, _, _, _, rfl, rfl, congrArg _ plr_snoc⟩, rfl, rfl, congrArg _ ((plc_absorb (p' := 2) (q := 7) (c := n) (k := i + 1) rfl (by decide) (by simp [plenAt])).trans (by simp [lst])), congrArg _ (plc_ren 3 rfl (by decide)), congrArg _ ((fl_congr fun k hk => if_neg (by omega)).trans (replicate_fl n rat0).symm), rows_in fun q hq => by simpa [plenAt] using hq, rows_in fun q hq => by simpa [plenAt] using hq, trivial⟩⟩ ?_
      intro j hj
      have hj : j ≤ n := hj
      by_cases hjn : j < n
      · refine SCmp.yes (decide_eq_true (by omega)) ?_
        refine SCall.pure (rzero_ok) ?_
        refine SPos.mk j rfl hjn ?_
        refine SLt.mk (by simp; omega) <| SEs.mk _ (row_step (f := fun _ => 0) hjn) ?_
        refine SWrap.i64z ((j + 1 : Nat) : Int) (by omega) (by omega) ?_
        exact ⟨j + 1, [0, 1, 2, 3, 4, 5, 6, 7], hjn, by show n - (j + 1) < n - j; omega, ⟨rfl, by simp, rfl, rfl, rfl, ⟨rfl, rfl, rfl, rfl, rfl, rfl, rfl, rfl, trivial⟩, ⟨rfl, rfl, rfl, rfl, rfl, congrArg _ (plc_ren 2 rfl (by decide)), congrArg _ (plc_ren 3 rfl (by decide)), rfl, rows_in fun q hq => by simpa [plenAt] using hq, rows_in fun q hq => by simpa [plenAt] using hq, trivial⟩⟩⟩
      · refine SCmp.no (decide_eq_false (by omega)) ?_
        obtain rfl : j = n := by omega
        refine SEqN.mk (by simp) ?_
        refine SRoom.mk (by simp; omega) (by simp; omega) ?_
        refine SAs.mk _ rfl ?_
        refine SZN.mk (i + 1 + 1) (by simp) ?_
        refine SWrap.i64z ((i + 1 + 1 : Nat) : Int) (by omega) (by omega) ?_
        exact ⟨i + 1 + 1, [0, 1, 2, 8003, 4, 5, 9], hin, by show j - (i + 1 + 1) < j - (i + 1); omega, ⟨rfl, by simp, rfl, rfl, rfl, ⟨rfl, rfl, rfl, rfl, rfl, rfl, trivial⟩, ⟨rfl, rfl, rfl, ⟨_, _, _, _, rfl, rfl, congrArg _ (plr_snoc.trans (congrArg (fun r => plr (i + 1) j (fun _ _ => 0) ++ [some r]) zer_full.symm))⟩, rfl, congrArg _ (plc_ren 2 rfl (by decide)), congrArg _ (plc_absorb (p' := 3) (q := 7) (c := j) (k := i + 1) rfl (by decide) (by simp [plenAt])), rows_in fun q hq => by simpa [plenAt] using hq, rows_in fun q hq => by simpa [plenAt] using hq, trivial⟩⟩⟩
    · refine SCmp.no (decide_eq_false (by omega)) ?_
      obtain rfl : n = i + 1 := by omega
      have hn : i + 1 ≤ 1000 := by omega
      have ww := rgreatest_ok true true (i + 1) 0 A (Nat.zero_le _) hn (hB 0 (Nat.zero_le _)) h1 (by omega)
      have one1 := rint_ok 1 (by decide)
      have one_eq : ((1 : Int) : Rat) = 1 := rfl
      rw [one_eq] at one1
      refine SLendR.plc rfl (fun q hq => hq) ?_
      refine SCall.pure (ww) ?_
      obtain ⟨w0, hw0⟩ : ∃ w0, w0 = ggr (i + 1) A 0 := ⟨_, rfl⟩
      have ew : mxR A (i + 1) 0 ((i + 1) - 0) 0 = w0 := by rw [hw0]; rfl
      refine SLoop.mk (Nat × (Nat → Nat) × (Nat → Nat → Rat) × (Nat → Nat → Rat) × Rat) (fun (k, s, G, ML, q) => ([(2, .bptr 0 0), (4, .p (.int .i64 (i + 1))), (5, .bptr 1 0), (6, .vec 5 1 0 (i + 1)), (10, .bptr 7 0), (11, .bptr 8 0), (12, .p (.int .i64 (k : Nat)))], aB (i + 1) G ML s w0 q))
        (fun (k, s, G, ML, q) => k ≤ K ∧ s = (gk (i + 1) A k).s ∧ q = ggr (i + 1) A k ∧ (∀ t c, t < (i + 1) → c < (i + 1) → G (s t) c = (gk (i + 1) A k).B t c) ∧ ∀ t c, t < (i + 1) → c < (i + 1) → ML (s t) c = (gk (i + 1) A k).M t c) (fun x => (i + 1) - x.1) (0, id, A, fun _ _ => 0, w0) [0, 1, 2, 3, 4, 5, 6, 7, 8]
        ⟨Nat.zero_le _, rfl, hw0, fun _ _ _ _ => rfl, fun _ _ _ _ => rfl⟩ ⟨rfl, by simp, rfl, rfl, rfl, ⟨rfl, rfl, rfl, rfl, rfl, rfl, rfl, trivial⟩, ⟨rfl, rfl, rfl, rfl, rfl, congrArg _ (plc_ren 2 rfl (by decide)), congrArg _ (plc_ren 3 rfl (by decide)), congrArg (fun q => Blk.box 31 (bxQ q)) ew.symm, congrArg (fun q => Blk.box 31 (bxQ q)) ew.symm, rows_in fun q hq => by simpa [plenAt] using hq, rows_in fun q hq => by simpa [plenAt] using hq, trivial⟩⟩ ?_
      intro ⟨k, s, G, ML, q⟩ ⟨hkT, hs, hq, hG, hM⟩
      obtain ⟨s1, inj, _⟩ := gk_perm (n := (i + 1)) (A := A) k (by omega)
      rw [← hs] at s1 inj
      by_cases hkn : k < i + 1
      · refine SCmp.yes (decide_eq_true (by omega)) ?_
        have gr := rgreatest_ok true true (i + 1) k (fun t => G (s t)) (by omega) hn (fun t c ht hc => by rw [hG t c ht hc]; exact hB k (by omega) t c ht hc) h1 (by omega)
        refine SLendR.plc rfl s1 ?_
        refine SCall.pure (gr) ?_
        have zr : Bz q D := by rw [hq]; exact ggr_bz hB h1 k (by omega)
        have ex : mxR (fun t => G (s t)) (i + 1) k ((i + 1) - k) 0 = mxR (gk (i + 1) A k).B (i + 1) k ((i + 1) - k) 0 := mxR_congr _ fun t c _ h2 h3 => hG t c (by omega) h3
        have zx : Bz (mxR (fun t => G (s t)) (i + 1) k ((i + 1) - k) 0) D := by rw [ex]; exact mxR_bz (bz_zero.mono h1) _ fun t c _ h2 h3 => hB k (by omega) t c (by omega) h3
        have zP : ∀ t c, t < (i + 1) → c < (i + 1) → Bz (gkP (i + 1) A k t c) D := hB.P hkn
        have ggx : ggr (i + 1) A (k + 1) = if q < mxR (fun t => G (s t)) (i + 1) k ((i + 1) - k) 0 then mxR (fun t => G (s t)) (i + 1) k ((i + 1) - k) 0 else q := by
          rw [ex, hq]; exact mxR_zero (ggr_nn k)
        by_cases hgt : q < mxR (fun t => G (s t)) (i + 1) k ((i + 1) - k) 0
        · rw [if_pos hgt] at ggx
          obtain ⟨q1, hq1⟩ : ∃ q1, q1 = ggr (i + 1) A (k + 1) := ⟨_, rfl⟩
          rw [← hq1] at ggx
          refine SCall.pure (rcmpq_ok _ _ zx zr (by omega)) ?_
          refine SCmp.yes (decide_eq_true (cmpQ_pos.2 hgt)) ?_
          refine SWrap.i64z ((k + 1 : Nat) : Int) (by omega) (by omega) ?_
          refine SLoop.mk (Nat × Nat × Nat) (fun (x, d, p) => ([(2, .bptr 0 0), (4, .p (.int .i64 (i + 1))), (5, .bptr 1 0), (6, .vec 5 1 0 (i + 1)), (10, .bptr 7 0), (11, .bptr 8 0), (12, .p (.int .i64 (k : Nat))), (14, .p (.int .i64 (p : Nat))), (15, .p (.int .i64 (x : Nat)))], aB (i + 1) G ML s w0 q1))
            (fun (x, d, p) => x = k + 1 + d ∧ x ≤ (i + 1) ∧ p = patG (gk (i + 1) A k).B k d) (fun x => (i + 1) - x.1) (k + 1, 0, k) [0, 1, 2, 3, 4, 5, 6, 7, 8] ⟨rfl, hkn, rfl⟩ ⟨rfl, by simp, rfl, rfl, rfl, ⟨rfl, rfl, rfl, rfl, rfl, rfl, rfl, rfl, rfl, trivial⟩, ⟨rfl, rfl, rfl, rfl, rfl, congrArg _ (plc_ren 2 rfl (by decide)), congrArg _ (plc_ren 3 rfl (by decide)), rfl, congrArg (fun q => Blk.box 31 (bxQ q)) ggx, rows_in fun q hq => by simpa [plenAt] using s1 q hq, rows_in fun q hq => by simpa [plenAt] using s1 q hq, trivial⟩⟩ ?_
          intro ⟨x, d, p⟩ ⟨hx, hxN, hpG⟩
          obtain ⟨a1, a2, _⟩ := patG_spec (B := (gk (i + 1) A k).B) (k := k) d
          rw [← hpG] at a1 a2
          by_cases hxn : x < (i + 1)
          · refine SCmp.yes (decide_eq_true (by omega)) ?_
            have z1 := hB k (by omega) x k hxn hkn
            have z2 := hB k (by omega) p k (by omega) hkn
            by_cases hgt : ((gk (i + 1) A k).B p k).abs < ((gk (i + 1) A k).B x k).abs
            · have e : patG (gk (i + 1) A k).B k (d + 1) = x := by rw [hx]; exact if_pos (by rw [← hx, ← hpG]; exact hgt)
              refine SDraw.mk (by kernel_rfl) ?_
              repeat refine SOp.mk _ _ (And.intro rfl rfl) rfl ?_
              refine SOp.mk _ _ (SPos.mk x rfl hxn (And.intro rfl rfl)) rfl ?_
              refine SOp.mk _ _ (SIdxA.plc (x + 0) rfl hxn (And.intro rfl rfl)) rfl ?_
              repeat refine SOp.mk _ _ (And.intro rfl rfl) rfl ?_
              refine SOp.mk _ _ (SPos.mk k rfl hkn (And.intro rfl rfl)) rfl ?_
              refine SOp.mk _ _ (SRow.plr (s1 _ hxn) <| SIdx.rv (k + 0) ((gk (i + 1) A k).B x k) rfl hkn (hG x k hxn hkn) (And.intro rfl rfl)) rfl ?_
              refine SOp.mk _ _ (SCall.pure (rabs_ok _ z1 (by omega)) (And.intro rfl rfl)) rfl ?_
              repeat refine SOp.mk _ _ (And.intro rfl rfl) rfl ?_
              refine SOp.mk _ _ (SPos.mk p rfl (by omega) (And.intro rfl rfl)) rfl ?_
              refine SOp.mk _ _ (SIdxA.plc (p + 0) rfl (by omega) (And.intro rfl rfl)) rfl ?_
              repeat refine SOp.mk _ _ (And.intro rfl rfl) rfl ?_
              refine SOp.mk _ _ (SPos.mk k rfl hkn (And.intro rfl rfl)) rfl ?_
              refine SOp.mk _ _ (SRow.plr (s1 _ (by omega)) <| SIdx.rv (k + 0) ((gk (i + 1) A k).B p k) rfl hkn (hG _ k (by omega) hkn) (And.intro rfl rfl)) rfl ?_
              refine SOp.mk _ _ (SCall.pure (rabs_ok _ z2 (by omega)) (And.intro rfl rfl)) rfl ?_
              refine SOp.mk _ _ (SCall.pure (rcmpq_ok _ _ z1.abs z2.abs (by omega)) (And.intro rfl rfl)) rfl ?_
              refine SOp.mk _ _ (SCmp.yes (decide_eq_true (cmpQ_pos.2 hgt)) (And.intro rfl rfl)) rfl ?_
              refine SWrap.i64z ((x + 1 : Nat) : Int) (by omega) (by omega) ?_
              exact ⟨(x + 1, d + 1, x), [0, 1, 2, 3, 4, 5, 6, 7, 8], ⟨by omega, hxn, e.symm⟩, by show (i + 1) - (x + 1) < (i + 1) - x; omega, ⟨rfl, by simp, rfl, rfl, rfl, ⟨rfl, rfl, rfl, rfl, rfl, rfl, rfl, rfl, rfl, trivial⟩, ⟨rfl, rfl, rfl, rfl, rfl, congrArg _ (plc_ren 2 rfl (by decide)), congrArg _ (plc_ren 3 rfl (by decide)), rfl, rfl, rows_in fun q hq => by simpa [plenAt] using s1 q hq, rows_in fun q hq => by simpa [plenAt] using s1 q hq, trivial⟩⟩⟩
            · have e : patG (gk (i + 1) A k).B k (d + 1) = patG (gk (i + 1) A k).B k d := if_neg (by rw [← hx, ← hpG]; exact hgt)
              refine SDraw.mk (by kernel_rfl) ?_
              repeat refine SOp.mk _ _ (And.intro rfl rfl) rfl ?_
              refine SOp.mk _ _ (SPos.mk x rfl hxn (And.intro rfl rfl)) rfl ?_
              refine SOp.mk _ _ (SIdxA.plc (x + 0) rfl hxn (And.intro rfl rfl)) rfl ?_
              repeat refine SOp.mk _ _ (And.intro rfl rfl) rfl ?_
              refine SOp.mk _ _ (SPos.mk k rfl hkn (And.intro rfl rfl)) rfl ?_
              refine SOp.mk _ _ (SRow.plr (s1 _ hxn) <| SIdx.rv (k + 0) ((gk (i + 1) A k).B x k) rfl hkn (hG x k hxn hkn) (And.intro rfl rfl)) rfl ?_
              refine SOp.mk _ _ (SCall.pure (rabs_ok _ z1 (by omega)) (And.intro rfl rfl)) rfl ?_
              repeat refine SOp.mk _ _ (And.intro rfl rfl) rfl ?_
              refine SOp.mk _ _ (SPos.mk p rfl (by omega) (And.intro rfl rfl)) rfl ?_
              refine SOp.mk _ _ (SIdxA.plc (p + 0) rfl (by omega) (And.intro rfl rfl)) rfl ?_
              repeat refine SOp.mk _ _ (And.intro rfl rfl) rfl ?_
              refine SOp.mk _ _ (SPos.mk k rfl hkn (And.intro rfl rfl)) rfl ?_
              refine SOp.mk _ _ (SRow.plr (s1 _ (by omega)) <| SIdx.rv (k + 0) ((gk (i + 1) A k).B p k) rfl hkn (hG _ k (by omega) hkn) (And.intro rfl rfl)) rfl ?_
              refine SOp.mk _ _ (SCall.pure (rabs_ok _ z2 (by omega)) (And.intro rfl rfl)) rfl ?_
              refine SOp.mk _ _ (SCall.pure (rcmpq_ok _ _ z1.abs z2.abs (by omega)) (And.intro rfl rfl)) rfl ?_
              refine SOp.mk _ _ (SCmp.no (decide_eq_false (mt cmpQ_pos.1 hgt)) (And.intro rfl rfl)) rfl ?_
              refine SWrap.i64z ((x + 1 : Nat) : Int) (by omega) (by omega) ?_
              exact ⟨(x + 1, d + 1, p), [0, 1, 2, 3, 4, 5, 6, 7, 8], ⟨by omega, hxn, hpG.trans e.symm⟩, by show (i + 1) - (x + 1) < (i + 1) - x; omega, ⟨rfl, by simp, rfl, rfl, rfl, ⟨rfl, rfl, rfl, rfl, rfl, rfl, rfl, rfl, rfl, trivial⟩, ⟨rfl, rfl, rfl, rfl, rfl, congrArg _ (plc_ren 2 rfl (by decide)), congrArg _ (plc_ren 3 rfl (by decide)), rfl, rfl, rows_in fun q hq => by simpa [plenAt] using s1 q hq, rows_in fun q hq => by simpa [plenAt] using s1 q hq, trivial⟩⟩⟩
          · refine SCmp.no (decide_eq_false (by omega)) ?_
            have ep : patG (gk (i + 1) A k).B k d = pvt (gk (i + 1) A k).B (i + 1) k := by unfold pvt; rw [show (i + 1) - 1 - k = d by omega]
            have hp : p = pvt (gk (i + 1) A k).B (i + 1) k := hpG.trans ep
            obtain ⟨p1, p2, _⟩ := pvt_spec (B := (gk (i + 1) A k).B) (n := (i + 1)) (k := k) hkn
            rw [← hp] at p1 p2
            refine SPos.mk p rfl p2 ?_
            refine SIdxA.plc (p + 0) rfl p2 ?_
            refine SPos.mk k rfl hkn ?_
            refine SRow.plr (s1 _ p2) ?_
            refine SIdx.rv (k + 0) ((gk (i + 1) A k).B p k) rfl hkn (hG p k p2 hkn) ?_
            have eg : gpiv (i + 1) A k = (gk (i + 1) A k).B p k := by rw [gpiv_eq, hp]
            refine SCall.pure (rnought_ok ((gk (i + 1) A k).B p k)) ?_
            by_cases hkK : k < K
            · have hpz := hp0 k hkK
              rw [decide_eq_false (by rw [← eg]; exact hpz)]
              refine SCond.mk (fun h => by cases h) (fun _ => ?_)
              have hpk : gkP (i + 1) A k k k ≠ 0 := hpz
              by_cases hpr : p = k
              · refine SCmp.no (neF (by rw [hpr])) ?_
                have s2 : ∀ q, q < (i + 1) → s q < (i + 1) := s1
                have s3 := inj
                have hpv : pvt (gk (i + 1) A k).B (i + 1) k = k := by rw [← hp, hpr]
                have g4 : ∀ t c, t < (i + 1) → c < (i + 1) → G (s t) c = gkP (i + 1) A k t c := fun t c ht hc => by unfold gkP; rw [hpv, swpM_self]; exact hG t c ht hc
                have l4 : ∀ t c, t < (i + 1) → c < (i + 1) → ML (s t) c = swpM (gk (i + 1) A k).M (pvt (gk (i + 1) A k).B (i + 1) k) k t c := fun t c ht hc => by rw [hpv, swpM_self]; exact hM t c ht hc
                have sE : s = (gk (i + 1) A (k + 1)).s := by rw [gk_succ, hpv]; show s = swS _ k k; rw [swS_self]; exact hs
                refine SDraw.mkX (by kernel_rfl) ?_
                repeat refine SOp.mk _ _ (And.intro rfl rfl) rfl ?_
                refine SOp.mk _ _ (SPos.mk k rfl hkn (And.intro rfl rfl)) rfl ?_
                refine SOp.mk _ _ (SIdxA.plc (k + 0) rfl hkn (And.intro rfl rfl)) rfl ?_
                repeat refine SOp.mk _ _ (And.intro rfl rfl) rfl ?_
                refine SOp.mk _ _ (SCall.pure (one1) (And.intro rfl rfl)) rfl ?_
                refine SOp.mk _ _ (SPos.mk k rfl hkn (And.intro rfl rfl)) rfl ?_
                refine SOp.mk _ _ (SRow.plr (s2 _ hkn) <| SLt.rf (show k + 0 < (i + 1) by omega) <| SEs.rf (And.intro rfl rfl)) rfl ?_
                refine SPool.plr (s2 _ hkn) ?_
                refine SFin.mk (by kernel_rfl) ?_
                refine SWrap.i64z ((k + 1 : Nat) : Int) (by omega) (by omega) ?_
                refine SLoop.mk (Nat × (Nat → Nat → Rat) × (Nat → Nat → Rat)) (fun (x, G, ML) => ([(2, .bptr 0 0), (4, .p (.int .i64 (i + 1))), (5, .bptr 1 0), (6, .vec 5 1 0 (i + 1)), (10, .bptr 7 0), (11, .bptr 8 0), (12, .p (.int .i64 (k : Nat))), (16, .p (.int .i64 (x : Nat)))], aB (i + 1) G ML s w0 q1))
                  (fun (x, G, ML) => k < x ∧ x ≤ (i + 1) ∧ (∀ t c, t < (i + 1) → c < (i + 1) → G ((s) t) c = if t < x then redA (gkP (i + 1) A k) k t c else gkP (i + 1) A k t c) ∧ ∀ t c, t < (i + 1) → c < (i + 1) → ML ((s) t) c = if c = k ∧ k < t ∧ t < x then gkP (i + 1) A k t k / gkP (i + 1) A k k k else if t = k ∧ c = k then 1 else swpM (gk (i + 1) A k).M (pvt (gk (i + 1) A k).B (i + 1) k) k t c) (fun x => (i + 1) - x.1) (k + 1, G, upd ML ((s) (k + 0)) (upd (ML ((s) (k + 0))) (k + 0) 1)) [0, 1, 2, 3, 4, 5, 6, 7, 8]
                  ⟨by omega, hkn, fun t c ht hc => by
                    rw [g4 t c ht hc]
                    split
                    · unfold redA; rw [if_neg (by omega)]
                    · rfl, fun t c ht hc => by
                    rw [plc_set (G := ML) (B := swpM (gk (i + 1) A k).M (pvt (gk (i + 1) A k).B (i + 1) k) k) s3 hkn l4 hkn t c ht hc, if_neg (show ¬ (c = k ∧ k < t ∧ t < k + 1) by omega)]⟩
                  ⟨rfl, by simp, rfl, rfl, rfl, ⟨rfl, rfl, rfl, rfl, rfl, rfl, rfl, rfl, trivial⟩, ⟨rfl, rfl, rfl, rfl, rfl, congrArg _ (plc_ren 2 rfl (by decide)), congrArg _ (plc_ren 3 rfl (by decide)), rfl, rfl, rows_in fun q hq => by simpa [plenAt] using s2 q hq, rows_in fun q hq => by simpa [plenAt] using s2 q hq, trivial⟩⟩ ?_
                intro ⟨x, G1, M1⟩ ⟨hkx, hx, hG1, hM1⟩
                by_cases hxn : x < (i + 1)
                · refine SCmp.yes (decide_eq_true (by omega)) ?_
                  have gi : ∀ c, c < (i + 1) → G1 ((s) x) c = gkP (i + 1) A k x c := fun c hc => by rw [hG1 x c hxn hc, if_neg (Nat.lt_irrefl x)]
                  have gkk : ∀ c, c < (i + 1) → G1 ((s) k) c = gkP (i + 1) A k k c := fun c hc => by rw [hG1 k c hkn hc, if_pos (by omega)]; unfold redA; rw [if_neg (Nat.lt_irrefl k)]
                  have z1 := zP x k hxn hkn
                  have z2 := zP k k hkn hkn
                  have zq := z1.div z2
                  have ho := rover_ok (gkP (i + 1) A k x k) (gkP (i + 1) A k k k) hpk z1 z2 (by omega)
                  obtain ⟨Q, hQ⟩ : ∃ Q, Q = gkP (i + 1) A k x k / gkP (i + 1) A k k k := ⟨_, rfl⟩
                  rw [← hQ] at zq ho
                  refine SDraw.mkX (by kernel_rfl) ?_
                  repeat refine SOp.mk _ _ (And.intro rfl rfl) rfl ?_
                  refine SOp.mk _ _ (SPos.mk x rfl hxn (And.intro rfl rfl)) rfl ?_
                  refine SOp.mk _ _ (SIdxA.plc (x + 0) rfl hxn (And.intro rfl rfl)) rfl ?_
                  repeat refine SOp.mk _ _ (And.intro rfl rfl) rfl ?_
                  refine SOp.mk _ _ (SPos.mk k rfl hkn (And.intro rfl rfl)) rfl ?_
                  refine SOp.mk _ _ (SRow.plr (s2 _ hxn) <| SIdx.rv (k + 0) (gkP (i + 1) A k x k) rfl hkn (gi k hkn) (And.intro rfl rfl)) rfl ?_
                  repeat refine SOp.mk _ _ (And.intro rfl rfl) rfl ?_
                  refine SOp.mk _ _ (SPos.mk k rfl hkn (And.intro rfl rfl)) rfl ?_
                  refine SOp.mk _ _ (SIdxA.plc (k + 0) rfl hkn (And.intro rfl rfl)) rfl ?_
                  repeat refine SOp.mk _ _ (And.intro rfl rfl) rfl ?_
                  refine SOp.mk _ _ (SPos.mk k rfl hkn (And.intro rfl rfl)) rfl ?_
                  refine SOp.mk _ _ (SRow.plr (s2 _ hkn) <| SIdx.rv (k + 0) (gkP (i + 1) A k k k) rfl hkn (gkk k hkn) (And.intro rfl rfl)) rfl ?_
                  refine SOp.mk _ _ (SCall.pure (ho) (And.intro rfl rfl)) rfl ?_
                  repeat refine SOp.mk _ _ (And.intro rfl rfl) rfl ?_
                  refine SFin.mk (by kernel_rfl) ?_
                  refine SDraw.mkX (by kernel_rfl) ?_
                  repeat refine SOp.mk _ _ (And.intro rfl rfl) rfl ?_
                  refine SOp.mk _ _ (SPos.mk x rfl hxn (And.intro rfl rfl)) rfl ?_
                  refine SOp.mk _ _ (SIdxA.plc (x + 0) rfl hxn (And.intro rfl rfl)) rfl ?_
                  repeat refine SOp.mk _ _ (And.intro rfl rfl) rfl ?_
                  refine SOp.mk _ _ (SPos.mk k rfl hkn (And.intro rfl rfl)) rfl ?_
                  refine SOp.mk _ _ (SRow.plr (s2 _ hxn) <| SLt.rf (show k + 0 < (i + 1) by omega) <| SEs.rf (And.intro rfl rfl)) rfl ?_
                  refine SPool.plr (s2 _ hxn) ?_
                  refine SFin.mk (by kernel_rfl) ?_
                  refine SLoop.mk (Nat × (Nat → Nat → Rat)) (fun (c, G) => ([(2, .bptr 0 0), (4, .p (.int .i64 (i + 1))), (5, .bptr 1 0), (6, .vec 5 1 0 (i + 1)), (10, .bptr 7 0), (11, .bptr 8 0), (12, .p (.int .i64 (k : Nat))), (16, .p (.int .i64 (x : Nat))), (17, .bptr 9 0), (18, .p (.int .i64 (c : Nat)))], aB (i + 1) (G) (upd M1 ((s) (x + 0)) (upd (M1 ((s) (x + 0))) (k + 0) Q)) (s) w0 q1 ++ [Blk.box 31 (bxQ Q)]))
                    (fun (c, G) => c ≤ (i + 1) ∧ ∀ t y, t < (i + 1) → y < (i + 1) → G ((s) t) y = if t = x then (if y < c then redA (gkP (i + 1) A k) k x y else gkP (i + 1) A k x y) else G1 ((s) t) y) (fun y => (i + 1) - y.1) (0, G1) [0, 1, 2, 3, 4, 5, 6, 7, 8, 9]
                    ⟨Nat.zero_le _, fun t y ht hy => by
                      by_cases e : t = x
                      · rw [if_pos e, if_neg (Nat.not_lt_zero _), e]; exact gi y hy
                      · rw [if_neg e]⟩ ⟨rfl, by simp, rfl, rfl, rfl, ⟨rfl, rfl, rfl, rfl, rfl, rfl, rfl, rfl, rfl, rfl, trivial⟩, ⟨rfl, rfl, rfl, rfl, rfl, congrArg _ (plc_ren 2 rfl (by decide)), congrArg _ (plc_ren 3 rfl (by decide)), rfl, rfl, rfl, rows_in fun q hq => by simpa [plenAt] using s2 q hq, rows_in fun q hq => by simpa [plenAt] using s2 q hq, trivial⟩⟩ ?_
                  intro ⟨c, G2⟩ ⟨hc, hG2⟩
                  by_cases hcn : c < (i + 1)
                  · refine SCmp.yes (decide_eq_true (by omega)) ?_
                    have di : G2 ((s) x) c = gkP (i + 1) A k x c := by rw [hG2 x c hxn hcn, if_pos rfl, if_neg (Nat.lt_irrefl c)]
                    have dk : G2 ((s) k) c = gkP (i + 1) A k k c := by rw [hG2 k c hkn hcn, if_neg (by omega)]; exact gkk c hcn
                    have z3 := zP x c hxn hcn
                    have z4 := zP k c hkn hcn
                    refine SDraw.mkX (by kernel_rfl) ?_
                    repeat refine SOp.mk _ _ (And.intro rfl rfl) rfl ?_
                    refine SOp.mk _ _ (SPos.mk x rfl hxn (And.intro rfl rfl)) rfl ?_
                    refine SOp.mk _ _ (SIdxA.plc (x + 0) rfl hxn (And.intro rfl rfl)) rfl ?_
                    repeat refine SOp.mk _ _ (And.intro rfl rfl) rfl ?_
                    refine SOp.mk _ _ (SPos.mk x rfl hxn (And.intro rfl rfl)) rfl ?_
                    refine SOp.mk _ _ (SIdxA.plc (x + 0) rfl hxn (And.intro rfl rfl)) rfl ?_
                    repeat refine SOp.mk _ _ (And.intro rfl rfl) rfl ?_
                    refine SOp.mk _ _ (SPos.mk c rfl hcn (And.intro rfl rfl)) rfl ?_
                    refine SOp.mk _ _ (SRow.plr (s2 _ hxn) <| SIdx.rv (c + 0) (gkP (i + 1) A k x c) rfl hcn di (And.intro rfl rfl)) rfl ?_
                    repeat refine SOp.mk _ _ (And.intro rfl rfl) rfl ?_
                    refine SOp.mk _ _ (SPos.mk k rfl hkn (And.intro rfl rfl)) rfl ?_
                    refine SOp.mk _ _ (SIdxA.plc (k + 0) rfl hkn (And.intro rfl rfl)) rfl ?_
                    repeat refine SOp.mk _ _ (And.intro rfl rfl) rfl ?_
                    refine SOp.mk _ _ (SPos.mk c rfl hcn (And.intro rfl rfl)) rfl ?_
                    refine SOp.mk _ _ (SRow.plr (s2 _ hkn) <| SIdx.rv (c + 0) (gkP (i + 1) A k k c) rfl hcn dk (And.intro rfl rfl)) rfl ?_
                    refine SOp.mk _ _ (SCall.pure (rmulq_ok Q (gkP (i + 1) A k k c) zq z4 (by omega)) (And.intro rfl rfl)) rfl ?_
                    refine SOp.mk _ _ (SCall.pure (rsubq_ok (gkP (i + 1) A k x c) (Q * gkP (i + 1) A k k c) z3 (zq.mul z4) (by omega)) (And.intro rfl rfl)) rfl ?_
                    refine SOp.mk _ _ (SPos.mk c rfl hcn (And.intro rfl rfl)) rfl ?_
                    refine SOp.mk _ _ (SRow.plr (s2 _ hxn) <| SLt.rf (show c + 0 < (i + 1) by omega) <| SEs.rf (And.intro rfl rfl)) rfl ?_
                    refine SPool.plr (s2 _ hxn) ?_
                    refine SFin.mk (by kernel_rfl) ?_
                    refine SWrap.i64z ((c + 1 : Nat) : Int) (by omega) (by omega) ?_
                    refine ⟨(c + 1, _), [0, 1, 2, 3, 4, 5, 6, 7, 8, 9], ⟨hcn, ?_⟩, by show (i + 1) - (c + 1) < (i + 1) - c; omega, ⟨rfl, by simp, rfl, rfl, rfl, ⟨rfl, rfl, rfl, rfl, rfl, rfl, rfl, rfl, rfl, rfl, trivial⟩, ⟨rfl, rfl, rfl, rfl, rfl, congrArg _ (plc_ren 2 rfl (by decide)), congrArg _ (plc_ren 3 rfl (by decide)), rfl, rfl, rfl, rows_in fun q hq => by simpa [plenAt] using s2 q hq, rows_in fun q hq => by simpa [plenAt] using s2 q hq, trivial⟩⟩⟩
                    exact upd2_step s3 hxn hcn hG2 (by rw [hQ]; exact (if_pos hkx).symm)
                  · refine SCmp.no (decide_eq_false (by omega)) ?_
                    refine SWrap.i64z ((x + 1 : Nat) : Int) (by omega) (by omega) ?_
                    refine ⟨(x + 1, G2, _), [0, 1, 2, 3, 4, 5, 6, 7, 8], ⟨by omega, hxn, fun t y ht hy => ?_, fun t y ht hy => ?_⟩, by show (i + 1) - (x + 1) < (i + 1) - x; omega, ⟨rfl, by simp, rfl, rfl, rfl, ⟨rfl, rfl, rfl, rfl, rfl, rfl, rfl, rfl, trivial⟩, ⟨rfl, rfl, rfl, rfl, rfl, congrArg _ (plc_ren 2 rfl (by decide)), congrArg _ (plc_ren 3 rfl (by decide)), rfl, rfl, rows_in fun q hq => by simpa [plenAt] using s2 q hq, rows_in fun q hq => by simpa [plenAt] using s2 q hq, trivial⟩⟩⟩
                    · rw [hG2 t y ht hy]
                      by_cases e : t = x
                      · rw [if_pos e, if_pos (by omega), if_pos (by omega), e]
                      · rw [if_neg e, hG1 t y ht hy]
                        by_cases e2 : t < x
                        · rw [if_pos e2, if_pos (by omega)]
                        · rw [if_neg e2, if_neg (by omega)]
                    · rw [plc_set (G := M1) (B := fun t c => M1 ((s) t) c) s3 hkn (fun _ _ _ _ => rfl) hxn t y ht hy]
                      by_cases e : t = x ∧ y = k
                      · rw [if_pos e, if_pos (by omega), e.1]; exact hQ
                      · rw [if_neg e]
                        show M1 ((s) t) y = _
                        rw [hM1 t y ht hy]
                        by_cases e2 : y = k ∧ k < t ∧ t < x
                        · rw [if_pos e2, if_pos (by omega)]
                        · rw [if_neg e2, if_neg (show ¬ (y = k ∧ k < t ∧ t < x + 1) by omega)]
                · refine SCmp.no (decide_eq_false (by omega)) ?_
                  refine SWrap.i64z ((k + 1 : Nat) : Int) (by omega) (by omega) ?_
                  refine ⟨(k + 1, s, G1, M1, q1), [0, 1, 2, 3, 4, 5, 6, 7, 8], ⟨by omega, sE, hq1, fun t c ht hc => ?_, fun t c ht hc => ?_⟩, by show (i + 1) - (k + 1) < (i + 1) - k; omega, ⟨rfl, by simp, rfl, rfl, rfl, ⟨rfl, rfl, rfl, rfl, rfl, rfl, rfl, trivial⟩, ⟨rfl, rfl, rfl, rfl, rfl, congrArg _ (plc_ren 2 rfl (by decide)), congrArg _ (plc_ren 3 rfl (by decide)), rfl, rfl, rows_in fun q hq => by simpa [plenAt] using s2 q hq, rows_in fun q hq => by simpa [plenAt] using s2 q hq, trivial⟩⟩⟩
                  · rw [hG1 t c ht hc, if_pos (by omega), gk_succ]
                  · rw [hM1 t c ht hc, gk_succ]
                    show _ = mulS _ _ k t c
                    unfold mulS
                    by_cases e : c = k
                    · rw [if_pos e]
                      by_cases e2 : k < t
                      · rw [if_pos ⟨e, e2, by omega⟩, if_pos e2]
                      · rw [if_neg (by omega), if_neg e2]
                        by_cases e3 : t = k
                        · rw [if_pos ⟨e3, e⟩, if_pos e3]
                        · rw [if_neg (by omega), if_neg e3]
                    · rw [if_neg (by omega), if_neg (by omega), if_neg e]
              · refine SCmp.yes (neT (by omega)) ?_
                refine SDraw.mkX (by kernel_rfl) ?_
                repeat refine SOp.mk _ _ (And.intro rfl rfl) rfl ?_
                refine SOp.mk _ _ (SPos.mk k rfl hkn (And.intro rfl rfl)) rfl ?_
                refine SOp.mk _ _ (SIdxA.plc (k + 0) rfl hkn (And.intro rfl rfl)) rfl ?_
                repeat refine SOp.mk _ _ (And.intro rfl rfl) rfl ?_
                refine SOp.mk _ _ (SPos.mk p rfl p2 (And.intro rfl rfl)) rfl ?_
                refine SOp.mk _ _ (SIdxA.plc (p + 0) rfl p2 (And.intro rfl rfl)) rfl ?_
                refine SOp.mk _ _ (SPos.mk p rfl p2 (And.intro rfl rfl)) rfl ?_
                refine SOp.mk _ _ (SLt.plc p2 <| SAs.plc (And.intro rfl rfl)) rfl ?_
                refine SOp.mk _ _ (SPos.mk k rfl hkn (And.intro rfl rfl)) rfl ?_
                refine SOp.mk _ _ (SLt.plc hkn <| SAs.plc (And.intro rfl rfl)) rfl ?_
                refine SFin.mk (by kernel_rfl) ?_
                refine SDraw.mkX (by kernel_rfl) ?_
                repeat refine SOp.mk _ _ (And.intro rfl rfl) rfl ?_
                refine SOp.mk _ _ (SPos.mk k rfl hkn (And.intro rfl rfl)) rfl ?_
                refine SOp.mk _ _ (SIdxA.plc (k + 0) rfl hkn (And.intro rfl rfl)) rfl ?_
                repeat refine SOp.mk _ _ (And.intro rfl rfl) rfl ?_
                refine SOp.mk _ _ (SPos.mk p rfl p2 (And.intro rfl rfl)) rfl ?_
                refine SOp.mk _ _ (SIdxA.plc (p + 0) rfl p2 (And.intro rfl rfl)) rfl ?_
                refine SOp.mk _ _ (SPos.mk p rfl p2 (And.intro rfl rfl)) rfl ?_
                refine SOp.mk _ _ (SLt.plc p2 <| SAs.plc (And.intro rfl rfl)) rfl ?_
                refine SOp.mk _ _ (SPos.mk k rfl hkn (And.intro rfl rfl)) rfl ?_
                refine SOp.mk _ _ (SLt.plc hkn <| SAs.plc (And.intro rfl rfl)) rfl ?_
                refine SFin.mk (by kernel_rfl) ?_
                refine SDraw.mkX (by kernel_rfl) ?_
                repeat refine SOp.mk _ _ (And.intro rfl rfl) rfl ?_
                refine SOp.mk _ _ (SPos.mk k rfl hkn (And.intro rfl rfl)) rfl ?_
                refine SOp.mk _ _ (SIdx.perm k rfl hkn (And.intro rfl rfl)) rfl ?_
                repeat refine SOp.mk _ _ (And.intro rfl rfl) rfl ?_
                refine SOp.mk _ _ (SPos.mk p rfl p2 (And.intro rfl rfl)) rfl ?_
                refine SOp.mk _ _ (SIdx.perm p rfl p2 (And.intro rfl rfl)) rfl ?_
                refine SOp.mk _ _ (SPos.mk p rfl p2 (And.intro rfl rfl)) rfl ?_
                refine SOp.mk _ _ (SLt.perm p2 <| SEs.perm (And.intro rfl rfl)) rfl ?_
                refine SOp.mk _ _ (SPos.mk k rfl hkn (And.intro rfl rfl)) rfl ?_
                refine SOp.mk _ _ (SLt.perm hkn <| SEs.perm (And.intro rfl rfl)) rfl ?_
                refine SFin.mk (by kernel_rfl) ?_
                have eS := upd_swS2 (s := s) (p := p) (k := k)
                have s2 : ∀ q, q < (i + 1) → (upd (upd s (p + 0) (s (k + 0))) (k + 0) (s (p + 0))) q < (i + 1) := by rw [eS]; exact swS_lt s1 p2 hkn
                have s3 : ∀ q t, q < (i + 1) → t < (i + 1) → (upd (upd s (p + 0) (s (k + 0))) (k + 0) (s (p + 0))) q = (upd (upd s (p + 0) (s (k + 0))) (k + 0) (s (p + 0))) t → q = t := swp_inj inj p2 hkn
                have g4 : ∀ t c, t < (i + 1) → c < (i + 1) → G ((upd (upd s (p + 0) (s (k + 0))) (k + 0) (s (p + 0))) t) c = gkP (i + 1) A k t c := fun t c ht hc => by rw [eS]; unfold gkP; rw [← hp]; exact hG _ c (swp_lt p2 hkn ht) hc
                have l4 : ∀ t c, t < (i + 1) → c < (i + 1) → ML ((upd (upd s (p + 0) (s (k + 0))) (k + 0) (s (p + 0))) t) c = swpM (gk (i + 1) A k).M (pvt (gk (i + 1) A k).B (i + 1) k) k t c := fun t c ht hc => by rw [eS, ← hp]; exact hM _ c (swp_lt p2 hkn ht) hc
                have sE : upd (upd s (p + 0) (s (k + 0))) (k + 0) (s (p + 0)) = (gk (i + 1) A (k + 1)).s := by rw [eS, gk_succ, ← hp, ← hs]
                refine SDraw.mkX (by kernel_rfl) ?_
                repeat refine SOp.mk _ _ (And.intro rfl rfl) rfl ?_
                refine SOp.mk _ _ (SPos.mk k rfl hkn (And.intro rfl rfl)) rfl ?_
                refine SOp.mk _ _ (SIdxA.plc (k + 0) rfl hkn (And.intro rfl rfl)) rfl ?_
                repeat refine SOp.mk _ _ (And.intro rfl rfl) rfl ?_
                refine SOp.mk _ _ (SCall.pure (one1) (And.intro rfl rfl)) rfl ?_
                refine SOp.mk _ _ (SPos.mk k rfl hkn (And.intro rfl rfl)) rfl ?_
                refine SOp.mk _ _ (SRow.plr (s2 _ hkn) <| SLt.rf (show k + 0 < (i + 1) by omega) <| SEs.rf (And.intro rfl rfl)) rfl ?_
                refine SPool.plr (s2 _ hkn) ?_
                refine SFin.mk (by kernel_rfl) ?_
                refine SWrap.i64z ((k + 1 : Nat) : Int) (by omega) (by omega) ?_
                refine SLoop.mk (Nat × (Nat → Nat → Rat) × (Nat → Nat → Rat)) (fun (x, G, ML) => ([(2, .bptr 0 0), (4, .p (.int .i64 (i + 1))), (5, .bptr 1 0), (6, .vec 5 1 0 (i + 1)), (10, .bptr 7 0), (11, .bptr 8 0), (12, .p (.int .i64 (k : Nat))), (16, .p (.int .i64 (x : Nat)))], aB (i + 1) (G) (ML) (upd (upd s (p + 0) (s (k + 0))) (k + 0) (s (p + 0))) w0 q1))
                  (fun (x, G, ML) => k < x ∧ x ≤ (i + 1) ∧ (∀ t c, t < (i + 1) → c < (i + 1) → G ((upd (upd s (p + 0) (s (k + 0))) (k + 0) (s (p + 0))) t) c = if t < x then redA (gkP (i + 1) A k) k t c else gkP (i + 1) A k t c) ∧ ∀ t c, t < (i + 1) → c < (i + 1) → ML ((upd (upd s (p + 0) (s (k + 0))) (k + 0) (s (p + 0))) t) c = if c = k ∧ k < t ∧ t < x then gkP (i + 1) A k t k / gkP (i + 1) A k k k else if t = k ∧ c = k then 1 else swpM (gk (i + 1) A k).M (pvt (gk (i + 1) A k).B (i + 1) k) k t c) (fun x => (i + 1) - x.1) (k + 1, G, upd ML ((upd (upd s (p + 0) (s (k + 0))) (k + 0) (s (p + 0))) (k + 0)) (upd (ML ((upd (upd s (p + 0) (s (k + 0))) (k + 0) (s (p + 0))) (k + 0))) (k + 0) 1)) [0, 1, 2, 3, 4, 5, 6, 7, 8]
                  ⟨by omega, hkn, fun t c ht hc => by
                    rw [g4 t c ht hc]
                    split
                    · unfold redA; rw [if_neg (by omega)]
                    · rfl, fun t c ht hc => by
                    rw [plc_set (G := ML) (B := swpM (gk (i + 1) A k).M (pvt (gk (i + 1) A k).B (i + 1) k) k) s3 hkn l4 hkn t c ht hc, if_neg (show ¬ (c = k ∧ k < t ∧ t < k + 1) by omega)]⟩
                  ⟨rfl, by simp, rfl, rfl, rfl, ⟨rfl, rfl, rfl, rfl, rfl, rfl, rfl, rfl, trivial⟩, ⟨rfl, rfl, rfl, rfl, rfl, congrArg _ (plc_ren 2 rfl (by decide)), congrArg _ (plc_ren 3 rfl (by decide)), rfl, rfl, rows_in fun q hq => by simpa [plenAt] using s2 q hq, rows_in fun q hq => by simpa [plenAt] using s2 q hq, trivial⟩⟩ ?_
                intro ⟨x, G1, M1⟩ ⟨hkx, hx, hG1, hM1⟩
                by_cases hxn : x < (i + 1)
                · refine SCmp.yes (decide_eq_true (by omega)) ?_
                  have gi : ∀ c, c < (i + 1) → G1 ((upd (upd s (p + 0) (s (k + 0))) (k + 0) (s (p + 0))) x) c = gkP (i + 1) A k x c := fun c hc => by rw [hG1 x c hxn hc, if_neg (Nat.lt_irrefl x)]
                  have gkk : ∀ c, c < (i + 1) → G1 ((upd (upd s (p + 0) (s (k + 0))) (k + 0) (s (p + 0))) k) c = gkP (i + 1) A k k c := fun c hc => by rw [hG1 k c hkn hc, if_pos (by omega)]; unfold redA; rw [if_neg (Nat.lt_irrefl k)]
                  have z1 := zP x k hxn hkn
                  have z2 := zP k k hkn hkn
                  have zq := z1.div z2
                  have ho := rover_ok (gkP (i + 1) A k x k) (gkP (i + 1) A k k k) hpk z1 z2 (by omega)
                  obtain ⟨Q, hQ⟩ : ∃ Q, Q = gkP (i + 1) A k x k / gkP (i + 1) A k k k := ⟨_, rfl⟩
                  rw [← hQ] at zq ho
                  refine SDraw.mkX (by kernel_rfl) ?_
                  repeat refine SOp.mk _ _ (And.intro rfl rfl) rfl ?_
                  refine SOp.mk _ _ (SPos.mk x rfl hxn (And.intro rfl rfl)) rfl ?_
                  refine SOp.mk _ _ (SIdxA.plc (x + 0) rfl hxn (And.intro rfl rfl)) rfl ?_
                  repeat refine SOp.mk _ _ (And.intro rfl rfl) rfl ?_
                  refine SOp.mk _ _ (SPos.mk k rfl hkn (And.intro rfl rfl)) rfl ?_
                  refine SOp.mk _ _ (SRow.plr (s2 _ hxn) <| SIdx.rv (k + 0) (gkP (i + 1) A k x k) rfl hkn (gi k hkn) (And.intro rfl rfl)) rfl ?_
                  repeat refine SOp.mk _ _ (And.intro rfl rfl) rfl ?_
                  refine SOp.mk _ _ (SPos.mk k rfl hkn (And.intro rfl rfl)) rfl ?_
                  refine SOp.mk _ _ (SIdxA.plc (k + 0) rfl hkn (And.intro rfl rfl)) rfl ?_
                  repeat refine SOp.mk _ _ (And.intro rfl rfl) rfl ?_
                  refine SOp.mk _ _ (SPos.mk k rfl hkn (And.intro rfl rfl)) rfl ?_
                  refine SOp.mk _ _ (SRow.plr (s2 _ hkn) <| SIdx.rv (k + 0) (gkP (i + 1) A k k k) rfl hkn (gkk k hkn) (And.intro rfl rfl)) rfl ?_
                  refine SOp.mk _ _ (SCall.pure (ho) (And.intro rfl rfl)) rfl ?_
                  repeat refine SOp.mk _ _ (And.intro rfl rfl) rfl ?_
                  refine SFin.mk (by kernel_rfl) ?_
                  refine SDraw.mkX (by kernel_rfl) ?_
                  repeat refine SOp.mk _ _ (And.intro rfl rfl) rfl ?_
                  refine SOp.mk _ _ (SPos.mk x rfl hxn (And.intro rfl rfl)) rfl ?_
                  refine SOp.mk _ _ (SIdxA.plc (x + 0) rfl hxn (And.intro rfl rfl)) rfl ?_
                  repeat refine SOp.mk _ _ (And.intro rfl rfl) rfl ?_
                  refine SOp.mk _ _ (SPos.mk k rfl hkn (And.intro rfl rfl)) rfl ?_
                  refine SOp.mk _ _ (SRow.plr (s2 _ hxn) <| SLt.rf (show k + 0 < (i + 1) by omega) <| SEs.rf (And.intro rfl rfl)) rfl ?_
                  refine SPool.plr (s2 _ hxn) ?_
                  refine SFin.mk (by kernel_rfl) ?_
                  refine SLoop.mk (Nat × (Nat → Nat → Rat)) (fun (c, G) => ([(2, .bptr 0 0), (4, .p (.int .i64 (i + 1))), (5, .bptr 1 0), (6, .vec 5 1 0 (i + 1)), (10, .bptr 7 0), (11, .bptr 8 0), (12, .p (.int .i64 (k : Nat))), (16, .p (.int .i64 (x : Nat))), (17, .bptr 9 0), (18, .p (.int .i64 (c : Nat)))], aB (i + 1) (G) (upd M1 ((upd (upd s (p + 0) (s (k + 0))) (k + 0) (s (p + 0))) (x + 0)) (upd (M1 ((upd (upd s (p + 0) (s (k + 0))) (k + 0) (s (p + 0))) (x + 0))) (k + 0) Q)) (upd (upd s (p + 0) (s (k + 0))) (k + 0) (s (p + 0))) w0 q1 ++ [Blk.box 31 (bxQ Q)]))
                    (fun (c, G) => c ≤ (i + 1) ∧ ∀ t y, t < (i + 1) → y < (i + 1) → G ((upd (upd s (p + 0) (s (k + 0))) (k + 0) (s (p + 0))) t) y = if t = x then (if y < c then redA (gkP (i + 1) A k) k x y else gkP (i + 1) A k x y) else G1 ((upd (upd s (p + 0) (s (k + 0))) (k + 0) (s (p + 0))) t) y) (fun y => (i + 1) - y.1) (0, G1) [0, 1, 2, 3, 4, 5, 6, 7, 8, 9]
                    ⟨Nat.zero_le _, fun t y ht hy => by
                      by_cases e : t = x
                      · rw [if_pos e, if_neg (Nat.not_lt_zero _), e]; exact gi y hy
                      · rw [if_neg e]⟩ ⟨rfl, by simp, rfl, rfl, rfl, ⟨rfl, rfl, rfl, rfl, rfl, rfl, rfl, rfl, rfl, rfl, trivial⟩, ⟨rfl, rfl, rfl, rfl, rfl, congrArg _ (plc_ren 2 rfl (by decide)), congrArg _ (plc_ren 3 rfl (by decide)), rfl, rfl, rfl, rows_in fun q hq => by simpa [plenAt] using s2 q hq, rows_in fun q hq => by simpa [plenAt] using s2 q hq, trivial⟩⟩ ?_
                  intro ⟨c, G2⟩ ⟨hc, hG2⟩
                  by_cases hcn : c < (i + 1)
                  · refine SCmp.yes (decide_eq_true (by omega)) ?_
                    have di : G2 ((upd (upd s (p + 0) (s (k + 0))) (k + 0) (s (p + 0))) x) c = gkP (i + 1) A k x c := by rw [hG2 x c hxn hcn, if_pos rfl, if_neg (Nat.lt_irrefl c)]
                    have dk : G2 ((upd (upd s (p + 0) (s (k + 0))) (k + 0) (s (p + 0))) k) c = gkP (i + 1) A k k c := by rw [hG2 k c hkn hcn, if_neg (by omega)]; exact gkk c hcn
                    have z3 := zP x c hxn hcn
                    have z4 := zP k c hkn hcn
                    refine SDraw.mkX (by kernel_rfl) ?_
                    repeat refine SOp.mk _ _ (And.intro rfl rfl) rfl ?_
                    refine SOp.mk _ _ (SPos.mk x rfl hxn (And.intro rfl rfl)) rfl ?_
                    refine SOp.mk _ _ (SIdxA.plc (x + 0) rfl hxn (And.intro rfl rfl)) rfl ?_
                    repeat refine SOp.mk _ _ (And.intro rfl rfl) rfl ?_
                    refine SOp.mk _ _ (SPos.mk x rfl hxn (And.intro rfl rfl)) rfl ?_
                    refine SOp.mk _ _ (SIdxA.plc (x + 0) rfl hxn (And.intro rfl rfl)) rfl ?_
                    repeat refine SOp.mk _ _ (And.intro rfl rfl) rfl ?_
                    refine SOp.mk _ _ (SPos.mk c rfl hcn (And.intro rfl rfl)) rfl ?_
                    refine SOp.mk _ _ (SRow.plr (s2 _ hxn) <| SIdx.rv (c + 0) (gkP (i + 1) A k x c) rfl hcn di (And.intro rfl rfl)) rfl ?_
                    repeat refine SOp.mk _ _ (And.intro rfl rfl) rfl ?_
                    refine SOp.mk _ _ (SPos.mk k rfl hkn (And.intro rfl rfl)) rfl ?_
                    refine SOp.mk _ _ (SIdxA.plc (k + 0) rfl hkn (And.intro rfl rfl)) rfl ?_
                    repeat refine SOp.mk _ _ (And.intro rfl rfl) rfl ?_
                    refine SOp.mk _ _ (SPos.mk c rfl hcn (And.intro rfl rfl)) rfl ?_
                    refine SOp.mk _ _ (SRow.plr (s2 _ hkn) <| SIdx.rv (c + 0) (gkP (i + 1) A k k c) rfl hcn dk (And.intro rfl rfl)) rfl ?_
                    refine SOp.mk _ _ (SCall.pure (rmulq_ok Q (gkP (i + 1) A k k c) zq z4 (by omega)) (And.intro rfl rfl)) rfl ?_
                    refine SOp.mk _ _ (SCall.pure (rsubq_ok (gkP (i + 1) A k x c) (Q * gkP (i + 1) A k k c) z3 (zq.mul z4) (by omega)) (And.intro rfl rfl)) rfl ?_
                    refine SOp.mk _ _ (SPos.mk c rfl hcn (And.intro rfl rfl)) rfl ?_
                    refine SOp.mk _ _ (SRow.plr (s2 _ hxn) <| SLt.rf (show c + 0 < (i + 1) by omega) <| SEs.rf (And.intro rfl rfl)) rfl ?_
                    refine SPool.plr (s2 _ hxn) ?_
                    refine SFin.mk (by kernel_rfl) ?_
                    refine SWrap.i64z ((c + 1 : Nat) : Int) (by omega) (by omega) ?_
                    refine ⟨(c + 1, _), [0, 1, 2, 3, 4, 5, 6, 7, 8, 9], ⟨hcn, ?_⟩, by show (i + 1) - (c + 1) < (i + 1) - c; omega, ⟨rfl, by simp, rfl, rfl, rfl, ⟨rfl, rfl, rfl, rfl, rfl, rfl, rfl, rfl, rfl, rfl, trivial⟩, ⟨rfl, rfl, rfl, rfl, rfl, congrArg _ (plc_ren 2 rfl (by decide)), congrArg _ (plc_ren 3 rfl (by decide)), rfl, rfl, rfl, rows_in fun q hq => by simpa [plenAt] using s2 q hq, rows_in fun q hq => by simpa [plenAt] using s2 q hq, trivial⟩⟩⟩
                    exact upd2_step s3 hxn hcn hG2 (by rw [hQ]; exact (if_pos hkx).symm)
                  · refine SCmp.no (decide_eq_false (by omega)) ?_
                    refine SWrap.i64z ((x + 1 : Nat) : Int) (by omega) (by omega) ?_
                    refine ⟨(x + 1, G2, _), [0, 1, 2, 3, 4, 5, 6, 7, 8], ⟨by omega, hxn, fun t y ht hy => ?_, fun t y ht hy => ?_⟩, by show (i + 1) - (x + 1) < (i + 1) - x; omega, ⟨rfl, by simp, rfl, rfl, rfl, ⟨rfl, rfl, rfl, rfl, rfl, rfl, rfl, rfl, trivial⟩, ⟨rfl, rfl, rfl, rfl, rfl, congrArg _ (plc_ren 2 rfl (by decide)), congrArg _ (plc_ren 3 rfl (by decide)), rfl, rfl, rows_in fun q hq => by simpa [plenAt] using s2 q hq, rows_in fun q hq => by simpa [plenAt] using s2 q hq, trivial⟩⟩⟩
                    · rw [hG2 t y ht hy]
                      by_cases e : t = x
                      · rw [if_pos e, if_pos (by omega), if_pos (by omega), e]
                      · rw [if_neg e, hG1 t y ht hy]
                        by_cases e2 : t < x
                        · rw [if_pos e2, if_pos (by omega)]
                        · rw [if_neg e2, if_neg (by omega)]
                    · rw [plc_set (G := M1) (B := fun t c => M1 ((upd (upd s (p + 0) (s (k + 0))) (k + 0) (s (p + 0))) t) c) s3 hkn (fun _ _ _ _ => rfl) hxn t y ht hy]
                      by_cases e : t = x ∧ y = k
                      · rw [if_pos e, if_pos (by omega), e.1]; exact hQ
                      · rw [if_neg e]
                        show M1 ((upd (upd s (p + 0) (s (k + 0))) (k + 0) (s (p + 0))) t) y = _
                        rw [hM1 t y ht hy]
                        by_cases e2 : y = k ∧ k < t ∧ t < x
                        · rw [if_pos e2, if_pos (by omega)]
                        · rw [if_neg e2, if_neg (show ¬ (y = k ∧ k < t ∧ t < x + 1) by omega)]
                · refine SCmp.no (decide_eq_false (by omega)) ?_
                  refine SWrap.i64z ((k + 1 : Nat) : Int) (by omega) (by omega) ?_
                  refine ⟨(k + 1, upd (upd s (p + 0) (s (k + 0))) (k + 0) (s (p + 0)), G1, M1, q1), [0, 1, 2, 3, 4, 5, 6, 7, 8], ⟨by omega, sE, hq1, fun t c ht hc => ?_, fun t c ht hc => ?_⟩, by show (i + 1) - (k + 1) < (i + 1) - k; omega, ⟨rfl, by simp, rfl, rfl, rfl, ⟨rfl, rfl, rfl, rfl, rfl, rfl, rfl, trivial⟩, ⟨rfl, rfl, rfl, rfl, rfl, congrArg _ (plc_ren 2 rfl (by decide)), congrArg _ (plc_ren 3 rfl (by decide)), rfl, rfl, rows_in fun q hq => by simpa [plenAt] using s2 q hq, rows_in fun q hq => by simpa [plenAt] using s2 q hq, trivial⟩⟩⟩
                  · rw [hG1 t c ht hc, if_pos (by omega), gk_succ]
                  · rw [hM1 t c ht hc, gk_succ]
                    show _ = mulS _ _ k t c
                    unfold mulS
                    by_cases e : c = k
                    · rw [if_pos e]
                      by_cases e2 : k < t
                      · rw [if_pos ⟨e, e2, by omega⟩, if_pos e2]
                      · rw [if_neg (by omega), if_neg e2]
                        by_cases e3 : t = k
                        · rw [if_pos ⟨e3, e⟩, if_pos e3]
                        · rw [if_neg (by omega), if_neg e3]
                    · rw [if_neg (by omega), if_neg (by omega), if_neg e]
            · obtain rfl : k = K := by omega
              have e := hR1 hkn
              subst e
              rw [decide_eq_true (by rw [← eg]; exact hz hkn)]
              refine SCond.mk (fun _ => ?_) (fun h => by cases h)
              refine SRet.pure (.tup rfl fun i c d e1 e2 => ?_)
              match i, e1, e2 with
              | 0, e1, e2 => cases e1; cases e2; exact .p _ pers_part0
              | 1, e1, e2 => cases e1; cases e2; exact .p _ (.int _ _)
        · rw [if_neg hgt] at ggx
          obtain ⟨q1, hq1⟩ : ∃ q1, q1 = ggr (i + 1) A (k + 1) := ⟨_, rfl⟩
          rw [← hq1] at ggx
          refine SCall.pure (rcmpq_ok _ _ zx zr (by omega)) ?_
          refine SCmp.no (decide_eq_false (mt cmpQ_pos.1 hgt)) ?_
          refine SWrap.i64z ((k + 1 : Nat) : Int) (by omega) (by omega) ?_
          refine SLoop.mk (Nat × Nat × Nat) (fun (x, d, p) => ([(2, .bptr 0 0), (4, .p (.int .i64 (i + 1))), (5, .bptr 1 0), (6, .vec 5 1 0 (i + 1)), (10, .bptr 7 0), (11, .bptr 8 0), (12, .p (.int .i64 (k : Nat))), (14, .p (.int .i64 (p : Nat))), (15, .p (.int .i64 (x : Nat)))], aB (i + 1) G ML s w0 q1))
            (fun (x, d, p) => x = k + 1 + d ∧ x ≤ (i + 1) ∧ p = patG (gk (i + 1) A k).B k d) (fun x => (i + 1) - x.1) (k + 1, 0, k) [0, 1, 2, 3, 4, 5, 6, 7, 8] ⟨rfl, hkn, rfl⟩ ⟨rfl, by simp, rfl, rfl, rfl, ⟨rfl, rfl, rfl, rfl, rfl, rfl, rfl, rfl, rfl, trivial⟩, ⟨rfl, rfl, rfl, rfl, rfl, congrArg _ (plc_ren 2 rfl (by decide)), congrArg _ (plc_ren 3 rfl (by decide)), rfl, congrArg (fun q => Blk.box 31 (bxQ q)) ggx, rows_in fun q hq => by simpa [plenAt] using s1 q hq, rows_in fun q hq => by simpa [plenAt] using s1 q hq, trivial⟩⟩ ?_
          intro ⟨x, d, p⟩ ⟨hx, hxN, hpG⟩
          obtain ⟨a1, a2, _⟩ := patG_spec (B := (gk (i + 1) A k).B) (k := k) d
          rw [← hpG] at a1 a2
          by_cases hxn : x < (i + 1)
          · refine SCmp.yes (decide_eq_true (by omega)) ?_
            have z1 := hB k (by omega) x k hxn hkn
            have z2 := hB k (by omega) p k (by omega) hkn
            by_cases hgt : ((gk (i + 1) A k).B p k).abs < ((gk (i + 1) A k).B x k).abs
            · have e : patG (gk (i + 1) A k).B k (d + 1) = x := by rw [hx]; exact if_pos (by rw [← hx, ← hpG]; exact hgt)
              refine SDraw.mk (by kernel_rfl) ?_
              repeat refine SOp.mk _ _ (And.intro rfl rfl) rfl ?_
              refine SOp.mk _ _ (SPos.mk x rfl hxn (And.intro rfl rfl)) rfl ?_
              refine SOp.mk _ _ (SIdxA.plc (x + 0) rfl hxn (And.intro rfl rfl)) rfl ?_
              repeat refine SOp.mk _ _ (And.intro rfl rfl) rfl ?_
              refine SOp.mk _ _ (SPos.mk k rfl hkn (And.intro rfl rfl)) rfl ?_
              refine SOp.mk _ _ (SRow.plr (s1 _ hxn) <| SIdx.rv (k + 0) ((gk (i + 1) A k).B x k) rfl hkn (hG x k hxn hkn) (And.intro rfl rfl)) rfl ?_
              refine SOp.mk _ _ (SCall.pure (rabs_ok _ z1 (by omega)) (And.intro rfl rfl)) rfl ?_
              repeat refine SOp.mk _ _ (And.intro rfl rfl) rfl ?_
              refine SOp.mk _ _ (SPos.mk p rfl (by omega) (And.intro rfl rfl)) rfl ?_
              refine SOp.mk _ _ (SIdxA.plc (p + 0) rfl (by omega) (And.intro rfl rfl)) rfl ?_
              repeat refine SOp.mk _ _ (And.intro rfl rfl) rfl ?_
              refine SOp.mk _ _ (SPos.mk k rfl hkn (And.intro rfl rfl)) rfl ?_
              refine SOp.mk _ _ (SRow.plr (s1 _ (by omega)) <| SIdx.rv (k + 0) ((gk (i + 1) A k).B p k) rfl hkn (hG _ k (by omega) hkn) (And.intro rfl rfl)) rfl ?_
              refine SOp.mk _ _ (SCall.pure (rabs_ok _ z2 (by omega)) (And.intro rfl rfl)) rfl ?_
              refine SOp.mk _ _ (SCall.pure (rcmpq_ok _ _ z1.abs z2.abs (by omega)) (And.intro rfl rfl)) rfl ?_
              refine SOp.mk _ _ (SCmp.yes (decide_eq_true (cmpQ_pos.2 hgt)) (And.intro rfl rfl)) rfl ?_
              refine SWrap.i64z ((x + 1 : Nat) : Int) (by omega) (by omega) ?_
              exact ⟨(x + 1, d + 1, x), [0, 1, 2, 3, 4, 5, 6, 7, 8], ⟨by omega, hxn, e.symm⟩, by show (i + 1) - (x + 1) < (i + 1) - x; omega, ⟨rfl, by simp, rfl, rfl, rfl, ⟨rfl, rfl, rfl, rfl, rfl, rfl, rfl, rfl, rfl, trivial⟩, ⟨rfl, rfl, rfl, rfl, rfl, congrArg _ (plc_ren 2 rfl (by decide)), congrArg _ (plc_ren 3 rfl (by decide)), rfl, rfl, rows_in fun q hq => by simpa [plenAt] using s1 q hq, rows_in fun q hq => by simpa [plenAt] using s1 q hq, trivial⟩⟩⟩
            · have e : patG (gk (i + 1) A k).B k (d + 1) = patG (gk (i + 1) A k).B k d := if_neg (by rw [← hx, ← hpG]; exact hgt)
              refine SDraw.mk (by kernel_rfl) ?_
              repeat refine SOp.mk _ _ (And.intro rfl rfl) rfl ?_
              refine SOp.mk _ _ (SPos.mk x rfl hxn (And.intro rfl rfl)) rfl ?_
              refine SOp.mk _ _ (SIdxA.plc (x + 0) rfl hxn (And.intro rfl rfl)) rfl ?_
              repeat refine SOp.mk _ _ (And.intro rfl rfl) rfl ?_
              refine SOp.mk _ _ (SPos.mk k rfl hkn (And.intro rfl rfl)) rfl ?_
              refine SOp.mk _ _ (SRow.plr (s1 _ hxn) <| SIdx.rv (k + 0) ((gk (i + 1) A k).B x k) rfl hkn (hG x k hxn hkn) (And.intro rfl rfl)) rfl ?_
              refine SOp.mk _ _ (SCall.pure (rabs_ok _ z1 (by omega)) (And.intro rfl rfl)) rfl ?_
              repeat refine SOp.mk _ _ (And.intro rfl rfl) rfl ?_
              refine SOp.mk _ _ (SPos.mk p rfl (by omega) (And.intro rfl rfl)) rfl ?_
              refine SOp.mk _ _ (SIdxA.plc (p + 0) rfl (by omega) (And.intro rfl rfl)) rfl ?_
              repeat refine SOp.mk _ _ (And.intro rfl rfl) rfl ?_
              refine SOp.mk _ _ (SPos.mk k rfl hkn (And.intro rfl rfl)) rfl ?_
              refine SOp.mk _ _ (SRow.plr (s1 _ (by omega)) <| SIdx.rv (k + 0) ((gk (i + 1) A k).B p k) rfl hkn (hG _ k (by omega) hkn) (And.intro rfl rfl)) rfl ?_
              refine SOp.mk _ _ (SCall.pure (rabs_ok _ z2 (by omega)) (And.intro rfl rfl)) rfl ?_
              refine SOp.mk _ _ (SCall.pure (rcmpq_ok _ _ z1.abs z2.abs (by omega)) (And.intro rfl rfl)) rfl ?_
              refine SOp.mk _ _ (SCmp.no (decide_eq_false (mt cmpQ_pos.1 hgt)) (And.intro rfl rfl)) rfl ?_
              refine SWrap.i64z ((x + 1 : Nat) : Int) (by omega) (by omega) ?_
              exact ⟨(x + 1, d + 1, p), [0, 1, 2, 3, 4, 5, 6, 7, 8], ⟨by omega, hxn, hpG.trans e.symm⟩, by show (i + 1) - (x + 1) < (i + 1) - x; omega, ⟨rfl, by simp, rfl, rfl, rfl, ⟨rfl, rfl, rfl, rfl, rfl, rfl, rfl, rfl, rfl, trivial⟩, ⟨rfl, rfl, rfl, rfl, rfl, congrArg _ (plc_ren 2 rfl (by decide)), congrArg _ (plc_ren 3 rfl (by decide)), rfl, rfl, rows_in fun q hq => by simpa [plenAt] using s1 q hq, rows_in fun q hq => by simpa [plenAt] using s1 q hq, trivial⟩⟩⟩
          · refine SCmp.no (decide_eq_false (by omega)) ?_
            have ep : patG (gk (i + 1) A k).B k d = pvt (gk (i + 1) A k).B (i + 1) k := by unfold pvt; rw [show (i + 1) - 1 - k = d by omega]
            have hp : p = pvt (gk (i + 1) A k).B (i + 1) k := hpG.trans ep
            obtain ⟨p1, p2, _⟩ := pvt_spec (B := (gk (i + 1) A k).B) (n := (i + 1)) (k := k) hkn
            rw [← hp] at p1 p2
            refine SPos.mk p rfl p2 ?_
            refine SIdxA.plc (p + 0) rfl p2 ?_
            refine SPos.mk k rfl hkn ?_
            refine SRow.plr (s1 _ p2) ?_
            refine SIdx.rv (k + 0) ((gk (i + 1) A k).B p k) rfl hkn (hG p k p2 hkn) ?_
            have eg : gpiv (i + 1) A k = (gk (i + 1) A k).B p k := by rw [gpiv_eq, hp]
            refine SCall.pure (rnought_ok ((gk (i + 1) A k).B p k)) ?_
            by_cases hkK : k < K
            · have hpz := hp0 k hkK
              rw [decide_eq_false (by rw [← eg]; exact hpz)]
              refine SCond.mk (fun h => by cases h) (fun _ => ?_)
              have hpk : gkP (i + 1) A k k k ≠ 0 := hpz
              by_cases hpr : p = k
              · refine SCmp.no (neF (by rw [hpr])) ?_
                have s2 : ∀ q, q < (i + 1) → s q < (i + 1) := s1
                have s3 := inj
                have hpv : pvt (gk (i + 1) A k).B (i + 1) k = k := by rw [← hp, hpr]
                have g4 : ∀ t c, t < (i + 1) → c < (i + 1) → G (s t) c = gkP (i + 1) A k t c := fun t c ht hc => by unfold gkP; rw [hpv, swpM_self]; exact hG t c ht hc
                have l4 : ∀ t c, t < (i + 1) → c < (i + 1) → ML (s t) c = swpM (gk (i + 1) A k).M (pvt (gk (i + 1) A k).B (i + 1) k) k t c := fun t c ht hc => by rw [hpv, swpM_self]; exact hM t c ht hc
                have sE : s = (gk (i + 1) A (k + 1)).s := by rw [gk_succ, hpv]; show s = swS _ k k; rw [swS_self]; exact hs
                refine SDraw.mkX (by kernel_rfl) ?_
                repeat refine SOp.mk _ _ (And.intro rfl rfl) rfl ?_
                refine SOp.mk _ _ (SPos.mk k rfl hkn (And.intro rfl rfl)) rfl ?_
                refine SOp.mk _ _ (SIdxA.plc (k + 0) rfl hkn (And.intro rfl rfl)) rfl ?_
                repeat refine SOp.mk _ _ (And.intro rfl rfl) rfl ?_
                refine SOp.mk _ _ (SCall.pure (one1) (And.intro rfl rfl)) rfl ?_
                refine SOp.mk _ _ (SPos.mk k rfl hkn (And.intro rfl rfl)) rfl ?_
                refine SOp.mk _ _ (SRow.plr (s2 _ hkn) <| SLt.rf (show k + 0 < (i + 1) by omega) <| SEs.rf (And.intro rfl rfl)) rfl ?_
                refine SPool.plr (s2 _ hkn) ?_
                refine SFin.mk (by kernel_rfl) ?_
                refine SWrap.i64z ((k + 1 : Nat) : Int) (by omega) (by omega) ?_
                refine SLoop.mk (Nat × (Nat → Nat → Rat) × (Nat → Nat → Rat)) (fun (x, G, ML) => ([(2, .bptr 0 0), (4, .p (.int .i64 (i + 1))), (5, .bptr 1 0), (6, .vec 5 1 0 (i + 1)), (10, .bptr 7 0), (11, .bptr 8 0), (12, .p (.int .i64 (k : Nat))), (16, .p (.int .i64 (x : Nat)))], aB (i + 1) G ML s w0 q1))
                  (fun (x, G, ML) => k < x ∧ x ≤ (i + 1) ∧ (∀ t c, t < (i + 1) → c < (i + 1) → G ((s) t) c = if t < x then redA (gkP (i + 1) A k) k t c else gkP (i + 1) A k t c) ∧ ∀ t c, t < (i + 1) → c < (i + 1) → ML ((s) t) c = if c = k ∧ k < t ∧ t < x then gkP (i + 1) A k t k / gkP (i + 1) A k k k else if t = k ∧ c = k then 1 else swpM (gk (i + 1) A k).M (pvt (gk (i + 1) A k).B (i + 1) k) k t c) (fun x => (i + 1) - x.1) (k + 1, G, upd ML ((s) (k + 0)) (upd (ML ((s) (k + 0))) (k + 0) 1)) [0, 1, 2, 3, 4, 5, 6, 7, 8]
                  ⟨by omega, hkn, fun t c ht hc => by
                    rw [g4 t c ht hc]
                    split
                    · unfold redA; rw [if_neg (by omega)]
                    · rfl, fun t c ht hc => by
                    rw [plc_set (G := ML) (B := swpM (gk (i + 1) A k).M (pvt (gk (i + 1) A k).B (i + 1) k) k) s3 hkn l4 hkn t c ht hc, if_neg (show ¬ (c = k ∧ k < t ∧ t < k + 1) by omega)]⟩
                  ⟨rfl, by simp, rfl, rfl, rfl, ⟨rfl, rfl, rfl, rfl, rfl, rfl, rfl, rfl, trivial⟩, ⟨rfl, rfl, rfl, rfl, rfl, congrArg _ (plc_ren 2 rfl (by decide)), congrArg _ (plc_ren 3 rfl (by decide)), rfl, rfl, rows_in fun q hq => by simpa [plenAt] using s2 q hq, rows_in fun q hq => by simpa [plenAt] using s2 q hq, trivial⟩⟩ ?_
                intro ⟨x, G1, M1⟩ ⟨hkx, hx, hG1, hM1⟩
                by_cases hxn : x < (i + 1)
                · refine SCmp.yes (decide_eq_true (by omega)) ?_
                  have gi : ∀ c, c < (i + 1) → G1 ((s) x) c = gkP (i + 1) A k x c := fun c hc => by rw [hG1 x c hxn hc, if_neg (Nat.lt_irrefl x)]
                  have gkk : ∀ c, c < (i + 1) → G1 ((s) k) c = gkP (i + 1) A k k c := fun c hc => by rw [hG1 k c hkn hc, if_pos (by omega)]; unfold redA; rw [if_neg (Nat.lt_irrefl k)]
                  have z1 := zP x k hxn hkn
                  have z2 := zP k k hkn hkn
                  have zq := z1.div z2
                  have ho := rover_ok (gkP (i + 1) A k x k) (gkP (i + 1) A k k k) hpk z1 z2 (by omega)
                  obtain ⟨Q, hQ⟩ : ∃ Q, Q = gkP (i + 1) A k x k / gkP (i + 1) A k k k := ⟨_, rfl⟩
                  rw [← hQ] at zq ho
                  refine SDraw.mkX (by kernel_rfl) ?_
                  repeat refine SOp.mk _ _ (And.intro rfl rfl) rfl ?_
                  refine SOp.mk _ _ (SPos.mk x rfl hxn (And.intro rfl rfl)) rfl ?_
                  refine SOp.mk _ _ (SIdxA.plc (x + 0) rfl hxn (And.intro rfl rfl)) rfl ?_
                  repeat refine SOp.mk _ _ (And.intro rfl rfl) rfl ?_
                  refine SOp.mk _ _ (SPos.mk k rfl hkn (And.intro rfl rfl)) rfl ?_
                  refine SOp.mk _ _ (SRow.plr (s2 _ hxn) <| SIdx.rv (k + 0) (gkP (i + 1) A k x k) rfl hkn (gi k hkn) (And.intro rfl rfl)) rfl ?_
                  repeat refine SOp.mk _ _ (And.intro rfl rfl) rfl ?_
                  refine SOp.mk _ _ (SPos.mk k rfl hkn (And.intro rfl rfl)) rfl ?_
                  refine SOp.mk _ _ (SIdxA.plc (k + 0) rfl hkn (And.intro rfl rfl)) rfl ?_
                  repeat refine SOp.mk _ _ (And.intro rfl rfl) rfl ?_
                  refine SOp.mk _ _ (SPos.mk k rfl hkn (And.intro rfl rfl)) rfl ?_
                  refine SOp.mk _ _ (SRow.plr (s2 _ hkn) <| SIdx.rv (k + 0) (gkP (i + 1) A k k k) rfl hkn (gkk k hkn) (And.intro rfl rfl)) rfl ?_
                  refine SOp.mk _ _ (SCall.pure (ho) (And.intro rfl rfl)) rfl ?_
                  repeat refine SOp.mk _ _ (And.intro rfl rfl) rfl ?_
                  refine SFin.mk (by kernel_rfl) ?_
                  refine SDraw.mkX (by kernel_rfl) ?_
                  repeat refine SOp.mk _ _ (And.intro rfl rfl) rfl ?_
                  refine SOp.mk _ _ (SPos.mk x rfl hxn (And.intro rfl rfl)) rfl ?_
                  refine SOp.mk _ _ (SIdxA.plc (x + 0) rfl hxn (And.intro rfl rfl)) rfl ?_
                  repeat refine SOp.mk _ _ (And.intro rfl rfl) rfl ?_
                  refine SOp.mk _ _ (SPos.mk k rfl hkn (And.intro rfl rfl)) rfl ?_
                  refine SOp.mk _ _ (SRow.plr (s2 _ hxn) <| SLt.rf (show k + 0 < (i + 1) by omega) <| SEs.rf (And.intro rfl rfl)) rfl ?_
                  refine SPool.plr (s2 _ hxn) ?_
                  refine SFin.mk (by kernel_rfl) ?_
                  refine SLoop.mk (Nat × (Nat → Nat → Rat)) (fun (c, G) => ([(2, .bptr 0 0), (4, .p (.int .i64 (i + 1))), (5, .bptr 1 0), (6, .vec 5 1 0 (i + 1)), (10, .bptr 7 0), (11, .bptr 8 0), (12, .p (.int .i64 (k : Nat))), (16, .p (.int .i64 (x : Nat))), (17, .bptr 9 0), (18, .p (.int .i64 (c : Nat)))], aB (i + 1) (G) (upd M1 ((s) (x + 0)) (upd (M1 ((s) (x + 0))) (k + 0) Q)) (s) w0 q1 ++ [Blk.box 31 (bxQ Q)]))
                    (fun (c, G) => c ≤ (i + 1) ∧ ∀ t y, t < (i + 1) → y < (i + 1) → G ((s) t) y = if t = x then (if y < c then redA (gkP (i + 1) A k) k x y else gkP (i + 1) A k x y) else G1 ((s) t) y) (fun y => (i + 1) - y.1) (0, G1) [0, 1, 2, 3, 4, 5, 6, 7, 8, 9]
                    ⟨Nat.zero_le _, fun t y ht hy => by
                      by_cases e : t = x
                      · rw [if_pos e, if_neg (Nat.not_lt_zero _), e]; exact gi y hy
                      · rw [if_neg e]⟩ ⟨rfl, by simp, rfl, rfl, rfl, ⟨rfl, rfl, rfl, rfl, rfl, rfl, rfl, rfl, rfl, rfl, trivial⟩, ⟨rfl, rfl, rfl, rfl, rfl, congrArg _ (plc_ren 2 rfl (by decide)), congrArg _ (plc_ren 3 rfl (by decide)), rfl, rfl, rfl, rows_in fun q hq => by simpa [plenAt] using s2 q hq, rows_in fun q hq => by simpa [plenAt] using s2 q hq, trivial⟩⟩ ?_
                  intro ⟨c, G2⟩ ⟨hc, hG2⟩
                  by_cases hcn : c < (i + 1)
                  · refine SCmp.yes (decide_eq_true (by omega)) ?_
                    have di : G2 ((s) x) c = gkP (i + 1) A k x c := by rw [hG2 x c hxn hcn, if_pos rfl, if_neg (Nat.lt_irrefl c)]
                    have dk : G2 ((s) k) c = gkP (i + 1) A k k c := by rw [hG2 k c hkn hcn, if_neg (by omega)]; exact gkk c hcn
                    have z3 := zP x c hxn hcn
                    have z4 := zP k c hkn hcn
                    refine SDraw.mkX (by kernel_rfl) ?_
                    repeat refine SOp.mk _ _ (And.intro rfl rfl) rfl ?_
                    refine SOp.mk _ _ (SPos.mk x rfl hxn (And.intro rfl rfl)) rfl ?_
                    refine SOp.mk _ _ (SIdxA.plc (x + 0) rfl hxn (And.intro rfl rfl)) rfl ?_
                    repeat refine SOp.mk _ _ (And.intro rfl rfl) rfl ?_
                    refine SOp.mk _ _ (SPos.mk x rfl hxn (And.intro rfl rfl)) rfl ?_
                    refine SOp.mk _ _ (SIdxA.plc (x + 0) rfl hxn (And.intro rfl rfl)) rfl ?_
                    repeat refine SOp.mk _ _ (And.intro rfl rfl) rfl ?_
                    refine SOp.mk _ _ (SPos.mk c rfl hcn (And.intro rfl rfl)) rfl ?_
                    refine SOp.mk _ _ (SRow.plr (s2 _ hxn) <| SIdx.rv (c + 0) (gkP (i + 1) A k x c) rfl hcn di (And.intro rfl rfl)) rfl ?_
                    repeat refine SOp.mk _ _ (And.intro rfl rfl) rfl ?_
                    refine SOp.mk _ _ (SPos.mk k rfl hkn (And.intro rfl rfl)) rfl ?_
                    refine SOp.mk _ _ (SIdxA.plc (k + 0) rfl hkn (And.intro rfl rfl)) rfl ?_
                    repeat refine SOp.mk _ _ (And.intro rfl rfl) rfl ?_
                    refine SOp.mk _ _ (SPos.mk c rfl hcn (And.intro rfl rfl)) rfl ?_
                    refine SOp.mk _ _ (SRow.plr (s2 _ hkn) <| SIdx.rv (c + 0) (gkP (i + 1) A k k c) rfl hcn dk (And.intro rfl rfl)) rfl ?_
                    refine SOp.mk _ _ (SCall.pure (rmulq_ok Q (gkP (i + 1) A k k c) zq z4 (by omega)) (And.intro rfl rfl)) rfl ?_
                    refine SOp.mk _ _ (SCall.pure (rsubq_ok (gkP (i + 1) A k x c) (Q * gkP (i + 1) A k k c) z3 (zq.mul z4) (by omega)) (And.intro rfl rfl)) rfl ?_
                    refine SOp.mk _ _ (SPos.mk c rfl hcn (And.intro rfl rfl)) rfl ?_
                    refine SOp.mk _ _ (SRow.plr (s2 _ hxn) <| SLt.rf (show c + 0 < (i + 1) by omega) <| SEs.rf (And.intro rfl rfl)) rfl ?_
                    refine SPool.plr (s2 _ hxn) ?_
                    refine SFin.mk (by kernel_rfl) ?_
                    refine SWrap.i64z ((c + 1 : Nat) : Int) (by omega) (by omega) ?_
                    refine ⟨(c + 1, _), [0, 1, 2, 3, 4, 5, 6, 7, 8, 9], ⟨hcn, ?_⟩, by show (i + 1) - (c + 1) < (i + 1) - c; omega, ⟨rfl, by simp, rfl, rfl, rfl, ⟨rfl, rfl, rfl, rfl, rfl, rfl, rfl, rfl, rfl, rfl, trivial⟩, ⟨rfl, rfl, rfl, rfl, rfl, congrArg _ (plc_ren 2 rfl (by decide)), congrArg _ (plc_ren 3 rfl (by decide)), rfl, rfl, rfl, rows_in fun q hq => by simpa [plenAt] using s2 q hq, rows_in fun q hq => by simpa [plenAt] using s2 q hq, trivial⟩⟩⟩
                    exact upd2_step s3 hxn hcn hG2 (by rw [hQ]; exact (if_pos hkx).symm)
                  · refine SCmp.no (decide_eq_false (by omega)) ?_
                    refine SWrap.i64z ((x + 1 : Nat) : Int) (by omega) (by omega) ?_
                    refine ⟨(x + 1, G2, _), [0, 1, 2, 3, 4, 5, 6, 7, 8], ⟨by omega, hxn, fun t y ht hy => ?_, fun t y ht hy => ?_⟩, by show (i + 1) - (x + 1) < (i + 1) - x; omega, ⟨rfl, by simp, rfl, rfl, rfl, ⟨rfl, rfl, rfl, rfl, rfl, rfl, rfl, rfl, trivial⟩, ⟨rfl, rfl, rfl, rfl, rfl, congrArg _ (plc_ren 2 rfl (by decide)), congrArg _ (plc_ren 3 rfl (by decide)), rfl, rfl, rows_in fun q hq => by simpa [plenAt] using s2 q hq, rows_in fun q hq => by simpa [plenAt] using s2 q hq, trivial⟩⟩⟩
                    · rw [hG2 t y ht hy]
                      by_cases e : t = x
                      · rw [if_pos e, if_pos (by omega), if_pos (by omega), e]
                      · rw [if_neg e, hG1 t y ht hy]
                        by_cases e2 : t < x
                        · rw [if_pos e2, if_pos (by omega)]
                        · rw [if_neg e2, if_neg (by omega)]
                    · rw [plc_set (G := M1) (B := fun t c => M1 ((s) t) c) s3 hkn (fun _ _ _ _ => rfl) hxn t y ht hy]
                      by_cases e : t = x ∧ y = k
                      · rw [if_pos e, if_pos (by omega), e.1]; exact hQ
                      · rw [if_neg e]
                        show M1 ((s) t) y = _
                        rw [hM1 t y ht hy]
                        by_cases e2 : y = k ∧ k < t ∧ t < x
                        · rw [if_pos e2, if_pos (by omega)]
                        · rw [if_neg e2, if_neg (show ¬ (y = k ∧ k < t ∧ t < x + 1) by omega)]
                · refine SCmp.no (decide_eq_false (by omega)) ?_
                  refine SWrap.i64z ((k + 1 : Nat) : Int) (by omega) (by omega) ?_
                  refine ⟨(k + 1, s, G1, M1, q1), [0, 1, 2, 3, 4, 5, 6, 7, 8], ⟨by omega, sE, hq1, fun t c ht hc => ?_, fun t c ht hc => ?_⟩, by show (i + 1) - (k + 1) < (i + 1) - k; omega, ⟨rfl, by simp, rfl, rfl, rfl, ⟨rfl, rfl, rfl, rfl, rfl, rfl, rfl, trivial⟩, ⟨rfl, rfl, rfl, rfl, rfl, congrArg _ (plc_ren 2 rfl (by decide)), congrArg _ (plc_ren 3 rfl (by decide)), rfl, rfl, rows_in fun q hq => by simpa [plenAt] using s2 q hq, rows_in fun q hq => by simpa [plenAt] using s2 q hq, trivial⟩⟩⟩
                  · rw [hG1 t c ht hc, if_pos (by omega), gk_succ]
                  · rw [hM1 t c ht hc, gk_succ]
                    show _ = mulS _ _ k t c
                    unfold mulS
                    by_cases e : c = k
                    · rw [if_pos e]
                      by_cases e2 : k < t
                      · rw [if_pos ⟨e, e2, by omega⟩, if_pos e2]
                      · rw [if_neg (by omega), if_neg e2]
                        by_cases e3 : t = k
                        · rw [if_pos ⟨e3, e⟩, if_pos e3]
                        · rw [if_neg (by omega), if_neg e3]
                    · rw [if_neg (by omega), if_neg (by omega), if_neg e]
              · refine SCmp.yes (neT (by omega)) ?_
                refine SDraw.mkX (by kernel_rfl) ?_
                repeat refine SOp.mk _ _ (And.intro rfl rfl) rfl ?_
                refine SOp.mk _ _ (SPos.mk k rfl hkn (And.intro rfl rfl)) rfl ?_
                refine SOp.mk _ _ (SIdxA.plc (k + 0) rfl hkn (And.intro rfl rfl)) rfl ?_
                repeat refine SOp.mk _ _ (And.intro rfl rfl) rfl ?_
                refine SOp.mk _ _ (SPos.mk p rfl p2 (And.intro rfl rfl)) rfl ?_
                refine SOp.mk _ _ (SIdxA.plc (p + 0) rfl p2 (And.intro rfl rfl)) rfl ?_
                refine SOp.mk _ _ (SPos.mk p rfl p2 (And.intro rfl rfl)) rfl ?_
                refine SOp.mk _ _ (SLt.plc p2 <| SAs.plc (And.intro rfl rfl)) rfl ?_
                refine SOp.mk _ _ (SPos.mk k rfl hkn (And.intro rfl rfl)) rfl ?_
                refine SOp.mk _ _ (SLt.plc hkn <| SAs.plc (And.intro rfl rfl)) rfl ?_
                refine SFin.mk (by kernel_rfl) ?_
                refine SDraw.mkX (by kernel_rfl) ?_
                repeat refine SOp.mk _ _ (And.intro rfl rfl) rfl ?_
                refine SOp.mk _ _ (SPos.mk k rfl hkn (And.intro rfl rfl)) rfl ?_
                refine SOp.mk _ _ (SIdxA.plc (k + 0) rfl hkn (And.intro rfl rfl)) rfl ?_
                repeat refine SOp.mk _ _ (And.intro rfl rfl) rfl ?_
                refine SOp.mk _ _ (SPos.mk p rfl p2 (And.intro rfl rfl)) rfl ?_
                refine SOp.mk _ _ (SIdxA.plc (p + 0) rfl p2 (And.intro rfl rfl)) rfl ?_
                refine SOp.mk _ _ (SPos.mk p rfl p2 (And.intro rfl rfl)) rfl ?_
                refine SOp.mk _ _ (SLt.plc p2 <| SAs.plc (And.intro rfl rfl)) rfl ?_
                refine SOp.mk _ _ (SPos.mk k rfl hkn (And.intro rfl rfl)) rfl ?_
                refine SOp.mk _ _ (SLt.plc hkn <| SAs.plc (And.intro rfl rfl)) rfl ?_
                refine SFin.mk (by kernel_rfl) ?_
                refine SDraw.mkX (by kernel_rfl) ?_
                repeat refine SOp.mk _ _ (And.intro rfl rfl) rfl ?_
                refine SOp.mk _ _ (SPos.mk k rfl hkn (And.intro rfl rfl)) rfl ?_
                refine SOp.mk _ _ (SIdx.perm k rfl hkn (And.intro rfl rfl)) rfl ?_
                repeat refine SOp.mk _ _ (And.intro rfl rfl) rfl ?_
                refine SOp.mk _ _ (SPos.mk p rfl p2 (And.intro rfl rfl)) rfl ?_
                refine SOp.mk _ _ (SIdx.perm p rfl p2 (And.intro rfl rfl)) rfl ?_
                refine SOp.mk _ _ (SPos.mk p rfl p2 (And.intro rfl rfl)) rfl ?_
                refine SOp.mk _ _ (SLt.perm p2 <| SEs.perm (And.intro rfl rfl)) rfl ?_
                refine SOp.mk _ _ (SPos.mk k rfl hkn (And.intro rfl rfl)) rfl ?_
                refine SOp.mk _ _ (SLt.perm hkn <| SEs.perm (And.intro rfl rfl)) rfl ?_
                refine SFin.mk (by kernel_rfl) ?_
                have eS := upd_swS2 (s := s) (p := p) (k := k)
                have s2 : ∀ q, q < (i + 1) → (upd (upd s (p + 0) (s (k + 0))) (k + 0) (s (p + 0))) q < (i + 1) := by rw [eS]; exact swS_lt s1 p2 hkn
                have s3 : ∀ q t, q < (i + 1) → t < (i + 1) → (upd (upd s (p + 0) (s (k + 0))) (k + 0) (s (p + 0))) q = (upd (upd s (p + 0) (s (k + 0))) (k + 0) (s (p + 0))) t → q = t := swp_inj inj p2 hkn
                have g4 : ∀ t c, t < (i + 1) → c < (i + 1) → G ((upd (upd s (p + 0) (s (k + 0))) (k + 0) (s (p + 0))) t) c = gkP (i + 1) A k t c := fun t c ht hc => by rw [eS]; unfold gkP; rw [← hp]; exact hG _ c (swp_lt p2 hkn ht) hc
                have l4 : ∀ t c, t < (i + 1) → c < (i + 1) → ML ((upd (upd s (p + 0) (s (k + 0))) (k + 0) (s (p + 0))) t) c = swpM (gk (i + 1) A k).M (pvt (gk (i + 1) A k).B (i + 1) k) k t c := fun t c ht hc => by rw [eS, ← hp]; exact hM _ c (swp_lt p2 hkn ht) hc
                have sE : upd (upd s (p + 0) (s (k + 0))) (k + 0) (s (p + 0)) = (gk (i + 1) A (k + 1)).s := by rw [eS, gk_succ, ← hp, ← hs]
                refine SDraw.mkX (by kernel_rfl) ?_
                repeat refine SOp.mk _ _ (And.intro rfl rfl) rfl ?_
                refine SOp.mk _ _ (SPos.mk k rfl hkn (And.intro rfl rfl)) rfl ?_
                refine SOp.mk _ _ (SIdxA.plc (k + 0) rfl hkn (And.intro rfl rfl)) rfl ?_
                repeat refine SOp.mk _ _ (And.intro rfl rfl) rfl ?_
                refine SOp.mk _ _ (SCall.pure (one1) (And.intro rfl rfl)) rfl ?_
                refine SOp.mk _ _ (SPos.mk k rfl hkn (And.intro rfl rfl)) rfl ?_
                refine SOp.mk _ _ (SRow.plr (s2 _ hkn) <| SLt.rf (show k + 0 < (i + 1) by omega) <| SEs.rf (And.intro rfl rfl)) rfl ?_
                refine SPool.plr (s2 _ hkn) ?_
                refine SFin.mk (by kernel_rfl) ?_
                refine SWrap.i64z ((k + 1 : Nat) : Int) (by omega) (by omega) ?_
                refine SLoop.mk (Nat × (Nat → Nat → Rat) × (Nat → Nat → Rat)) (fun (x, G, ML) => ([(2, .bptr 0 0), (4, .p (.int .i64 (i + 1))), (5, .bptr 1 0), (6, .vec 5 1 0 (i + 1)), (10, .bptr 7 0), (11, .bptr 8 0), (12, .p (.int .i64 (k : Nat))), (16, .p (.int .i64 (x : Nat)))], aB (i + 1) (G) (ML) (upd (upd s (p + 0) (s (k + 0))) (k + 0) (s (p + 0))) w0 q1))
                  (fun (x, G, ML) => k < x ∧ x ≤ (i + 1) ∧ (∀ t c, t < (i + 1) → c < (i + 1) → G ((upd (upd s (p + 0) (s (k + 0))) (k + 0) (s (p + 0))) t) c = if t < x then redA (gkP (i + 1) A k) k t c else gkP (i + 1) A k t c) ∧ ∀ t c, t < (i + 1) → c < (i + 1) → ML ((upd (upd s (p + 0) (s (k + 0))) (k + 0) (s (p + 0))) t) c = if c = k ∧ k < t ∧ t < x then gkP (i + 1) A k t k / gkP (i + 1) A k k k else if t = k ∧ c = k then 1 else swpM (gk (i + 1) A k).M (pvt (gk (i + 1) A k).B (i + 1) k) k t c) (fun x => (i + 1) - x.1) (k + 1, G, upd ML ((upd (upd s (p + 0) (s (k + 0))) (k + 0) (s (p + 0))) (k + 0)) (upd (ML ((upd (upd s (p + 0) (s (k + 0))) (k + 0) (s (p + 0))) (k + 0))) (k + 0) 1)) [0, 1, 2, 3, 4, 5, 6, 7, 8]
                  ⟨by omega, hkn, fun t c ht hc => by
                    rw [g4 t c ht hc]
                    split
                    · unfold redA; rw [if_neg (by omega)]
                    · rfl, fun t c ht hc => by
                    rw [plc_set (G := ML) (B := swpM (gk (i + 1) A k).M (pvt (gk (i + 1) A k).B (i + 1) k) k) s3 hkn l4 hkn t c ht hc, if_neg (show ¬ (c = k ∧ k < t ∧ t < k + 1) by omega)]⟩
                  ⟨rfl, by simp, rfl, rfl, rfl, ⟨rfl, rfl, rfl, rfl, rfl, rfl, rfl, rfl, trivial⟩, ⟨rfl, rfl, rfl, rfl, rfl, congrArg _ (plc_ren 2 rfl (by decide)), congrArg _ (plc_ren 3 rfl (by decide)), rfl, rfl, rows_in fun q hq => by simpa [plenAt] using s2 q hq, rows_in fun q hq => by simpa [plenAt] using s2 q hq, trivial⟩⟩ ?_
                intro ⟨x, G1, M1⟩ ⟨hkx, hx, hG1, hM1⟩
                by_cases hxn : x < (i + 1)
                · refine SCmp.yes (decide_eq_true (by omega)) ?_
                  have gi : ∀ c, c < (i + 1) → G1 ((upd (upd s (p + 0) (s (k + 0))) (k + 0) (s (p + 0))) x) c = gkP (i + 1) A k x c := fun c hc => by rw [hG1 x c hxn hc, if_neg (Nat.lt_irrefl x)]
                  have gkk : ∀ c, c < (i + 1) → G1 ((upd (upd s (p + 0) (s (k + 0))) (k + 0) (s (p + 0))) k) c = gkP (i + 1) A k k c := fun c hc => by rw [hG1 k c hkn hc, if_pos (by omega)]; unfold redA; rw [if_neg (Nat.lt_irrefl k)]
                  have z1 := zP x k hxn hkn
                  have z2 := zP k k hkn hkn
                  have zq := z1.div z2
                  have ho := rover_ok (gkP (i + 1) A k x k) (gkP (i + 1) A k k k) hpk z1 z2 (by omega)
                  obtain ⟨Q, hQ⟩ : ∃ Q, Q = gkP (i + 1) A k x k / gkP (i + 1) A k k k := ⟨_, rfl⟩
                  rw [← hQ] at zq ho
                  refine SDraw.mkX (by kernel_rfl) ?_
                  repeat refine SOp.mk _ _ (And.intro rfl rfl) rfl ?_
                  refine SOp.mk _ _ (SPos.mk x rfl hxn (And.intro rfl rfl)) rfl ?_
                  refine SOp.mk _ _ (SIdxA.plc (x + 0) rfl hxn (And.intro rfl rfl)) rfl ?_
                  repeat refine SOp.mk _ _ (And.intro rfl rfl) rfl ?_
                  refine SOp.mk _ _ (SPos.mk k rfl hkn (And.intro rfl rfl)) rfl ?_
                  refine SOp.mk _ _ (SRow.plr (s2 _ hxn) <| SIdx.rv (k + 0) (gkP (i + 1) A k x k) rfl hkn (gi k hkn) (And.intro rfl rfl)) rfl ?_
                  repeat refine SOp.mk _ _ (And.intro rfl rfl) rfl ?_
                  refine SOp.mk _ _ (SPos.mk k rfl hkn (And.intro rfl rfl)) rfl ?_
                  refine SOp.mk _ _ (SIdxA.plc (k + 0) rfl hkn (And.intro rfl rfl)) rfl ?_
                  repeat refine SOp.mk _ _ (And.intro rfl rfl) rfl ?_
                  refine SOp.mk _ _ (SPos.mk k rfl hkn (And.intro rfl rfl)) rfl ?_
                  refine SOp.mk _ _ (SRow.plr (s2 _ hkn) <| SIdx.rv (k + 0) (gkP (i + 1) A k k k) rfl hkn (gkk k hkn) (And.intro rfl rfl)) rfl ?_
                  refine SOp.mk _ _ (SCall.pure (ho) (And.intro rfl rfl)) rfl ?_
                  repeat refine SOp.mk _ _ (And.intro rfl rfl) rfl ?_
                  refine SFin.mk (by kernel_rfl) ?_
                  refine SDraw.mkX (by kernel_rfl) ?_
                  repeat refine SOp.mk _ _ (And.intro rfl rfl) rfl ?_
                  refine SOp.mk _ _ (SPos.mk x rfl hxn (And.intro rfl rfl)) rfl ?_
                  refine SOp.mk _ _ (SIdxA.plc (x + 0) rfl hxn (And.intro rfl rfl)) rfl ?_
                  repeat refine SOp.mk _ _ (And.intro rfl rfl) rfl ?_
                  refine SOp.mk _ _ (SPos.mk k rfl hkn (And.intro rfl rfl)) rfl ?_
                  refine SOp.mk _ _ (SRow.plr (s2 _ hxn) <| SLt.rf (show k + 0 < (i + 1) by omega) <| SEs.rf (And.intro rfl rfl)) rfl ?_
                  refine SPool.plr (s2 _ hxn) ?_
                  refine SFin.mk (by kernel_rfl) ?_
                  refine SLoop.mk (Nat × (Nat → Nat → Rat)) (fun (c, G) => ([(2, .bptr 0 0), (4, .p (.int .i64 (i + 1))), (5, .bptr 1 0), (6, .vec 5 1 0 (i + 1)), (10, .bptr 7 0), (11, .bptr 8 0), (12, .p (.int .i64 (k : Nat))), (16, .p (.int .i64 (x : Nat))), (17, .bptr 9 0), (18, .p (.int .i64 (c : Nat)))], aB (i + 1) (G) (upd M1 ((upd (upd s (p + 0) (s (k + 0))) (k + 0) (s (p + 0))) (x + 0)) (upd (M1 ((upd (upd s (p + 0) (s (k + 0))) (k + 0) (s (p + 0))) (x + 0))) (k + 0) Q)) (upd (upd s (p + 0) (s (k + 0))) (k + 0) (s (p + 0))) w0 q1 ++ [Blk.box 31 (bxQ Q)]))
                    (fun (c, G) => c ≤ (i + 1) ∧ ∀ t y, t < (i + 1) → y < (i + 1) → G ((upd (upd s (p + 0) (s (k + 0))) (k + 0) (s (p + 0))) t) y = if t = x then (if y < c then redA (gkP (i + 1) A k) k x y else gkP (i + 1) A k x y) else G1 ((upd (upd s (p + 0) (s (k + 0))) (k + 0) (s (p + 0))) t) y) (fun y => (i + 1) - y.1) (0, G1) [0, 1, 2, 3, 4, 5, 6, 7, 8, 9]
                    ⟨Nat.zero_le _, fun t y ht hy => by
                      by_cases e : t = x
                      · rw [if_pos e, if_neg (Nat.not_lt_zero _), e]; exact gi y hy
                      · rw [if_neg e]⟩ ⟨rfl, by simp, rfl, rfl, rfl, ⟨rfl, rfl, rfl, rfl, rfl, rfl, rfl, rfl, rfl, rfl, trivial⟩, ⟨rfl, rfl, rfl, rfl, rfl, congrArg _ (plc_ren 2 rfl (by decide)), congrArg _ (plc_ren 3 rfl (by decide)), rfl, rfl, rfl, rows_in fun q hq => by simpa [plenAt] using s2 q hq, rows_in fun q hq => by simpa [plenAt] using s2 q hq, trivial⟩⟩ ?_
                  intro ⟨c, G2⟩ ⟨hc, hG2⟩
                  by_cases hcn : c < (i + 1)
                  · refine SCmp.yes (decide_eq_true (by omega)) ?_
                    have di : G2 ((upd (upd s (p + 0) (s (k + 0))) (k + 0) (s (p + 0))) x) c = gkP (i + 1) A k x c := by rw [hG2 x c hxn hcn, if_pos rfl, if_neg (Nat.lt_irrefl c)]
                    have dk : G2 ((upd (upd s (p + 0) (s (k + 0))) (k + 0) (s (p + 0))) k) c = gkP (i + 1) A k k c := by rw [hG2 k c hkn hcn, if_neg (by omega)]; exact gkk c hcn
                    have z3 := zP x c hxn hcn
                    have z4 := zP k c hkn hcn
                    refine SDraw.mkX (by kernel_rfl) ?_
                    repeat refine SOp.mk _ _ (And.intro rfl rfl) rfl ?_
                    refine SOp.mk _ _ (SPos.mk x rfl hxn (And.intro rfl rfl)) rfl ?_
                    refine SOp.mk _ _ (SIdxA.plc (x + 0) rfl hxn (And.intro rfl rfl)) rfl ?_
                    repeat refine SOp.mk _ _ (And.intro rfl rfl) rfl ?_
                    refine SOp.mk _ _ (SPos.mk x rfl hxn (And.intro rfl rfl)) rfl ?_
                    refine SOp.mk _ _ (SIdxA.plc (x + 0) rfl hxn (And.intro rfl rfl)) rfl ?_
                    repeat refine SOp.mk _ _ (And.intro rfl rfl) rfl ?_
                    refine SOp.mk _ _ (SPos.mk c rfl hcn (And.intro rfl rfl)) rfl ?_
                    refine SOp.mk _ _ (SRow.plr (s2 _ hxn) <| SIdx.rv (c + 0) (gkP (i + 1) A k x c) rfl hcn di (And.intro rfl rfl)) rfl ?_
                    repeat refine SOp.mk _ _ (And.intro rfl rfl) rfl ?_
                    refine SOp.mk _ _ (SPos.mk k rfl hkn (And.intro rfl rfl)) rfl ?_
                    refine SOp.mk _ _ (SIdxA.plc (k + 0) rfl hkn (And.intro rfl rfl)) rfl ?_
                    repeat refine SOp.mk _ _ (And.intro rfl rfl) rfl ?_
                    refine SOp.mk _ _ (SPos.mk c rfl hcn (And.intro rfl rfl)) rfl ?_
                    refine SOp.mk _ _ (SRow.plr (s2 _ hkn) <| SIdx.rv (c + 0) (gkP (i + 1) A k k c) rfl hcn dk (And.intro rfl rfl)) rfl ?_
                    refine SOp.mk _ _ (SCall.pure (rmulq_ok Q (gkP (i + 1) A k k c) zq z4 (by omega)) (And.intro rfl rfl)) rfl ?_
                    refine SOp.mk _ _ (SCall.pure (rsubq_ok (gkP (i + 1) A k x c) (Q * gkP (i + 1) A k k c) z3 (zq.mul z4) (by omega)) (And.intro rfl rfl)) rfl ?_
                    refine SOp.mk _ _ (SPos.mk c rfl hcn (And.intro rfl rfl)) rfl ?_
                    refine SOp.mk _ _ (SRow.plr (s2 _ hxn) <| SLt.rf (show c + 0 < (i + 1) by omega) <| SEs.rf (And.intro rfl rfl)) rfl ?_
                    refine SPool.plr (s2 _ hxn) ?_
                    refine SFin.mk (by kernel_rfl) ?_
                    refine SWrap.i64z ((c + 1 : Nat) : Int) (by omega) (by omega) ?_
                    refine ⟨(c + 1, _), [0, 1, 2, 3, 4, 5, 6, 7, 8, 9], ⟨hcn, ?_⟩, by show (i + 1) - (c + 1) < (i + 1) - c; omega, ⟨rfl, by simp, rfl, rfl, rfl, ⟨rfl, rfl, rfl, rfl, rfl, rfl, rfl, rfl, rfl, rfl, trivial⟩, ⟨rfl, rfl, rfl, rfl, rfl, congrArg _ (plc_ren 2 rfl (by decide)), congrArg _ (plc_ren 3 rfl (by decide)), rfl, rfl, rfl, rows_in fun q hq => by simpa [plenAt] using s2 q hq, rows_in fun q hq => by simpa [plenAt] using s2 q hq, trivial⟩⟩⟩
                    exact upd2_step s3 hxn hcn hG2 (by rw [hQ]; exact (if_pos hkx).symm)
                  · refine SCmp.no (decide_eq_false (by omega)) ?_
                    refine SWrap.i64z ((x + 1 : Nat) : Int) (by omega) (by omega) ?_
                    refine ⟨(x + 1, G2, _), [0, 1, 2, 3, 4, 5, 6, 7, 8], ⟨by omega, hxn, fun t y ht hy => ?_, fun t y ht hy => ?_⟩, by show (i + 1) - (x + 1) < (i + 1) - x; omega, ⟨rfl, by simp, rfl, rfl, rfl, ⟨rfl, rfl, rfl, rfl, rfl, rfl, rfl, rfl, trivial⟩, ⟨rfl, rfl, rfl, rfl, rfl, congrArg _ (plc_ren 2 rfl (by decide)), congrArg _ (plc_ren 3 rfl (by decide)), rfl, rfl, rows_in fun q hq => by simpa [plenAt] using s2 q hq, rows_in fun q hq => by simpa [plenAt] using s2 q hq, trivial⟩⟩⟩
                    · rw [hG2 t y ht hy]
                      by_cases e : t = x
                      · rw [if_pos e, if_pos (by omega), if_pos (by omega), e]
                      · rw [if_neg e, hG1 t y ht hy]
                        by_cases e2 : t < x
                        · rw [if_pos e2, if_pos (by omega)]
                        · rw [if_neg e2, if_neg (by omega)]
                    · rw [plc_set (G := M1) (B := fun t c => M1 ((upd (upd s (p + 0) (s (k + 0))) (k + 0) (s (p + 0))) t) c) s3 hkn (fun _ _ _ _ => rfl) hxn t y ht hy]
                      by_cases e : t = x ∧ y = k
                      · rw [if_pos e, if_pos (by omega), e.1]; exact hQ
                      · rw [if_neg e]
                        show M1 ((upd (upd s (p + 0) (s (k + 0))) (k + 0) (s (p + 0))) t) y = _
                        rw [hM1 t y ht hy]
                        by_cases e2 : y = k ∧ k < t ∧ t < x
                        · rw [if_pos e2, if_pos (by omega)]
                        · rw [if_neg e2, if_neg (show ¬ (y = k ∧ k < t ∧ t < x + 1) by omega)]
                · refine SCmp.no (decide_eq_false (by omega)) ?_
                  refine SWrap.i64z ((k + 1 : Nat) : Int) (by omega) (by omega) ?_
                  refine ⟨(k + 1, upd (upd s (p + 0) (s (k + 0))) (k + 0) (s (p + 0)), G1, M1, q1), [0, 1, 2, 3, 4, 5, 6, 7, 8], ⟨by omega, sE, hq1, fun t c ht hc => ?_, fun t c ht hc => ?_⟩, by show (i + 1) - (k + 1) < (i + 1) - k; omega, ⟨rfl, by simp, rfl, rfl, rfl, ⟨rfl, rfl, rfl, rfl, rfl, rfl, rfl, trivial⟩, ⟨rfl, rfl, rfl, rfl, rfl, congrArg _ (plc_ren 2 rfl (by decide)), congrArg _ (plc_ren 3 rfl (by decide)), rfl, rfl, rows_in fun q hq => by simpa [plenAt] using s2 q hq, rows_in fun q hq => by simpa [plenAt] using s2 q hq, trivial⟩⟩⟩
                  · rw [hG1 t c ht hc, if_pos (by omega), gk_succ]
                  · rw [hM1 t c ht hc, gk_succ]
                    show _ = mulS _ _ k t c
                    unfold mulS
                    by_cases e : c = k
                    · rw [if_pos e]
                      by_cases e2 : k < t
                      · rw [if_pos ⟨e, e2, by omega⟩, if_pos e2]
                      · rw [if_neg (by omega), if_neg e2]
                        by_cases e3 : t = k
                        · rw [if_pos ⟨e3, e⟩, if_pos e3]
                        · rw [if_neg (by omega), if_neg e3]
                    · rw [if_neg (by omega), if_neg (by omega), if_neg e]
            · obtain rfl : k = K := by omega
              have e := hR1 hkn
              subst e
              rw [decide_eq_true (by rw [← eg]; exact hz hkn)]
              refine SCond.mk (fun _ => ?_) (fun h => by cases h)
              refine SRet.pure (.tup rfl fun i c d e1 e2 => ?_)
              match i, e1, e2 with
              | 0, e1, e2 => cases e1; cases e2; exact .p _ pers_part0
              | 1, e1, e2 => cases e1; cases e2; exact .p _ (.int _ _)
      · refine SCmp.no (decide_eq_false (by omega)) ?_
        obtain rfl : k = i + 1 := by omega
        obtain rfl : K = i + 1 := by omega
        have e := hR2 rfl
        subst e
        have z0 : w0 ≠ 0 := fun e => by have := ggr_pos (A := A) n1 (hp0 0 n1); rw [← hw0, e] at this; exact absurd this (by decide)
        have zw : Bz w0 D := by rw [hw0]; exact ggr_bz hB h1 0 (Nat.zero_le _)
        have zr : Bz q D := by rw [hq]; exact ggr_bz hB h1 (i + 1) (Nat.le_refl _)
        have ho := rover_ok q w0 z0 zr zw (by omega)
        have eq : q / w0 = gro (i + 1) A := by rw [hq, hw0]; rfl
        rw [eq] at ho
        have eL : matP false false (i + 1) (i + 1) (gL (i + 1) A) = matP false false (i + 1) (i + 1) fun t => ML (s t) := matP_congr fun t c ht hc => (hM t c ht hc).symm
        have eU : matP false false (i + 1) (i + 1) (gU (i + 1) A) = matP false false (i + 1) (i + 1) fun t => G (s t) := matP_congr fun t c ht hc => (hG t c ht hc).symm
        have eO : PV.sl false 1 (permP (i + 1) (gO (i + 1) A)) = .sl false 1 (permP (i + 1) s) := by rw [hs]; rfl
        refine SCall.pure (ho) ?_
        refine SRet.pure (.tup rfl fun a c d e1 e2 => ?_)
        match a, e1, e2 with
        | 0, e1, e2 =>
          cases e1; cases e2
          refine .aggp (ps := partC (i + 1) A) (fun d hd => by simp only [partC, List.mem_cons, List.not_mem_nil, or_false] at hd; rcases hd with rfl | rfl | rfl | rfl | rfl | rfl <;> rfl) rfl fun a c d e1 e2 => ?_
          match a, e1, e2 with
          | 0, e1, e2 => cases e1; cases e2; rw [eO]; exact .frz (h := .t 4) rfl (by simp) (by simp) pers_perm (by rw [List.drop_zero]; exact List.take_of_length_le (by simp))
          | 1, e1, e2 => cases e1; cases e2; rw [eL]; exact frzM (h := 6) (p := 3) rfl rfl s1
          | 2, e1, e2 => cases e1; cases e2; rw [eU]; exact frzM (h := 5) (p := 2) rfl rfl s1
          | 3, e1, e2 => cases e1; cases e2; exact .p _ (.bool _)
          | 4, e1, e2 => cases e1; cases e2; exact .p _ (.sl _ _ (pers_limbs _))
          | 5, e1, e2 => cases e1; cases e2; exact .p _ (.sl _ _ (pers_limbs _))
        | 1, e1, e2 => cases e1; cases e2; exact .p _ (.int _ _)
theorem rapartGZ_ok (m m' : Bool) (n K : Nat) (A : Nat → Nat → Rat) {D : Nat} (n1 : 1 ≤ n) (hn : n ≤ 900) (hB : GkB n A D) (h1 : 1 ≤ D) (hD : 4 * D + 1 ≤ 1000000) (hK : K < n) (hp0 : ∀ t, t < K → gpiv n A t ≠ 0) (hz : gpiv n A K = 0) :
    CallP Tryz.prog 47 [matP m m' n n A] (.tup [.p part0, .p (.int .i64 9)]) [] :=
  CallG.weakR (rapartX_ok m m' n K A n1 hn hB h1 hD (Nat.le_of_lt hK) hp0 (fun _ => hz) _ (fun _ => rfl) (fun e => absurd e (Nat.ne_of_lt hK))) (VR.weak2 part_le) nomen2
theorem rapartG_ok (m m' : Bool) (n : Nat) (A : Nat → Nat → Rat) {D : Nat} (n1 : 1 ≤ n) (hn : n ≤ 900) (hB : GkB n A D) (h1 : 1 ≤ D) (hD : 4 * D + 1 ≤ 1000000) (hp0 : ∀ t, t < n → gpiv n A t ≠ 0) :
    CallP Tryz.prog 47 [matP m m' n n A] (.tup [.p (partP n A), .p (.int .i64 0)]) [] :=
  rapartX_ok m m' n n A n1 hn hB h1 hD (Nat.le_refl _) hp0 (fun h => absurd h (Nat.lt_irrefl _)) _ (fun h => absurd h (Nat.lt_irrefl _)) (fun _ => rfl)
end Go.Proofs.YtjfcphohgicolaaGreat

namespace Go.Proofs.YtjfcphohgicolaaGreat
open Go
set_option linter.unusedVariables false
set_option linter.unusedSimpArgs false
set_option maxRecDepth 10000
theorem pers_part (n : Nat) (A : Nat → Nat → Rat) : Pers (partP n A) := .agg _ fun c hc => by
  simp only [partC, List.mem_cons, List.not_mem_nil, or_false] at hc
  rcases hc with rfl | rfl | rfl | rfl | rfl | rfl
  · exact .sl _ _ pers_perm
  · exact pers_matP
  · exact pers_matP
  · exact .bool _
  · exact .sl _ _ (pers_limbs _)
  · exact .sl _ _ (pers_limbs _)
theorem pers_part0' : Pers part0 := .agg _ fun c hc => by
  simp only [List.mem_cons, List.not_mem_nil, or_false] at hc
  rcases hc with rfl | rfl | rfl | rfl | rfl | rfl <;> first | exact .bool _ | exact .sl _ _ (fun e he => by simp at he)
theorem rfactor13_ok (m : Nat → Bool) (g : GV) {b c : Nat} (h : Wf g b c) (hk : g.k = 5 ∨ g.k = 7) {p : PV} {z : Int} (hp : Pers p) (ha : CallP Tryz.prog 47 [matP false false g.n g.n (ent g)] (.tup [.p p, .p (.int .i64 z)]) []) (hc : ∃ cs, p = .agg cs ∧ cs.length = 6) :
    CallP Tryz.prog 12 [genP m g] (.tup [.p p, .p (.int .i64 z)]) [] := by
  obtain ⟨cs, rfl, hl⟩ := hc
  obtain ⟨c0, c1, c2, c3, c4, c5, rfl⟩ : ∃ c0 c1 c2 c3 c4 c5, cs = [c0, c1, c2, c3, c4, c5] := by
    match cs, hl with
    | [c0, c1, c2, c3, c4, c5], _ => exact ⟨c0, c1, c2, c3, c4, c5, rfl⟩
  rcases hk with e | e
  · refine callG_of_vc (wr := wr0) Γok mixed Tryz.func12 (by kernel_rfl) rfl (by kernel_rfl) (le_of_ble rfl) (by simp) ?_
    refine SCmp.no (neF (by rw [e]; rfl)) ?_
    refine SCall.pure (rexpand5_ok m g h) ?_
    refine SCall.pureT (ha) (fun _ => rfl) ?_
    refine SRet.pure (.tup rfl fun i c d e1 e2 => ?_)
    match i, e1, e2 with
    | 0, e1, e2 => cases e1; cases e2; exact .p _ hp
    | 1, e1, e2 => cases e1; cases e2; exact .p _ (.int _ _)
  · refine callG_of_vc (wr := wr0) Γok mixed Tryz.func12 (by kernel_rfl) rfl (by kernel_rfl) (le_of_ble rfl) (by simp) ?_
    refine SCmp.yes (neT (by rw [e]; decide)) ?_
    refine SCmp.no (neF (by rw [e]; rfl)) ?_
    refine SCall.pure (rexpand5_ok m g h) ?_
    refine SCall.pureT (ha) (fun _ => rfl) ?_
    refine SRet.pure (.tup rfl fun i c d e1 e2 => ?_)
    match i, e1, e2 with
    | 0, e1, e2 => cases e1; cases e2; exact .p _ hp
    | 1, e1, e2 => cases e1; cases e2; exact .p _ (.int _ _)
theorem rsame0_ok : CallP Tryz.prog 22 [rat0, rat0] (.p (.bool true)) [] := by
  have z : nlen 0 ≤ 549755813888 := by rw [nlen_zero_iff.2 rfl]; decide
  have h := rcmp_ok false false 0 0 z z
  have e : natM false 0 = .sl false 1 [] := by show PV.sl false 1 (limbs (nl 0)) = _; rw [nl_zero]; rfl
  rw [e] at h
  refine callG_of_vc (wr := wr0) Γok mixed Tryz.func22 (by kernel_rfl) rfl (by kernel_rfl) (le_of_ble rfl) (by simp) ?_
  refine SCmp.yes (rfl) ?_
  refine SCall.pure (h) ?_
  refine SCmp.yes (rfl) ?_
  refine SCall.pure (h) ?_
  refine SCmp.yes (rfl) ?_
  exact SRet.pure (.tf true)
theorem same13_ok (n : Nat) (A : Nat → Nat → Rat) {D : Nat} (hB : GkB n A D) (h1 : 1 ≤ D) (hn : n ≤ 1000) (hD : 4 * D ≤ 1000000) : CallP Tryz.prog 15 [partP n A, partP n A] (.p (.bool true)) [] := by
  have zL : ∀ i j, i < n → j < n → Bz (gL n A i j) (D + D) := fun i j hi _ => gM_bz hB h1 n (Nat.le_refl _) i j hi
  have f1 := rall_ok false false false false n n (gL n A) zL (by omega) hn hn
  have f2 := rall_ok false false false false n n (gU n A) (hB n (Nat.le_refl _)) (by omega) hn hn
  have zg : Bz (gro n A) (D + D) := (ggr_bz hB h1 n (Nat.le_refl _)).div (ggr_bz hB h1 0 (Nat.zero_le _))
  have f3 := rsame_ok (gro n A) (gro n A) zg zg (by omega)
  rw [decide_eq_true rfl] at f3
  refine callG_of_vc (wr := wr0) Γok mixed Tryz.func15 (by kernel_rfl) rfl (by kernel_rfl) (le_of_ble rfl) (by simp) ?_
  refine SZ.mk (n : Int) (by simp) ?_
  refine SZ.mk (n : Int) (by simp) ?_
  refine SCmp.no (neF rfl) ?_
  refine SLoop.mk Nat (fun i => ([(2, .bptr 0 0), (3, .bptr 1 0), (5, .p (.int .i64 (i : Nat)))], [.box 33 [.p (.sl false 1 (permP n (gO n A))), .p (matP false false n n (gL n A)), .p (matP false false n n (gU n A)), .p (.bool (decide ((gro n A).num < 0))), .p (natP (gro n A).num.natAbs), .p (natP (gro n A).den)], .box 37 [.p (.sl false 1 (permP n (gO n A))), .p (matP false false n n (gL n A)), .p (matP false false n n (gU n A)), .p (.bool (decide ((gro n A).num < 0))), .p (natP (gro n A).num.natAbs), .p (natP (gro n A).den)]]))
    (fun i => i ≤ n) (fun i => n - i) 0 [0, 1] (Nat.zero_le _) ⟨rfl, by simp, rfl, rfl, rfl, ⟨rfl, rfl, rfl, trivial⟩, ⟨rfl, rfl, trivial⟩⟩ ?_
  intro i hi
  have hi : i ≤ n := hi
  refine SZ.mk (n : Int) (by simp) ?_
  by_cases hin : i < n
  · refine SCmp.yes (decide_eq_true (by omega)) ?_
    refine SDraw.mk (by kernel_rfl) ?_
    repeat refine SOp.mk _ _ (And.intro rfl rfl) rfl ?_
    refine SOp.mk _ _ (SIdx.perm i rfl hin (And.intro rfl rfl)) rfl ?_
    repeat refine SOp.mk _ _ (And.intro rfl rfl) rfl ?_
    refine SOp.mk _ _ (SIdx.perm i rfl hin (And.intro rfl rfl)) rfl ?_
    repeat refine SOp.mk _ _ (And.intro rfl rfl) rfl ?_
    refine SOp.mk _ _ (SCmp.no (neF rfl) (And.intro rfl rfl)) rfl ?_
    refine SWrap.i64z ((i + 1 : Nat) : Int) (by omega) (by omega) ?_
    exact ⟨i + 1, [0, 1], hin, by show n - (i + 1) < n - i; omega, ⟨rfl, by simp, rfl, rfl, rfl, ⟨rfl, rfl, rfl, trivial⟩, ⟨rfl, rfl, trivial⟩⟩⟩
  · refine SCmp.no (decide_eq_false (by omega)) ?_
    refine SCall.pure (f1) ?_
    refine SCond.mk (fun _ => ?_) (fun h => by cases h)
    refine SCall.pure (f2) ?_
    refine SCond.mk (fun _ => ?_) (fun h => by cases h)
    refine SCall.pure (f3) ?_
    exact SRet.pure (.p _ (.bool _))
theorem same130_ok : CallP Tryz.prog 15 [part0, part0] (.p (.bool true)) [] := by
  have f1 := rall_ok false false false false 0 0 (fun _ _ => 0) (a := 1) (fun i k hi => absurd hi (Nat.not_lt_zero _)) (by decide) (by decide) (by decide)
  refine callG_of_vc (wr := wr0) Γok mixed Tryz.func15 (by kernel_rfl) rfl (by kernel_rfl) (le_of_ble rfl) (by simp) ?_
  refine SZ.mk 0 rfl ?_
  refine SZ.mk 0 rfl ?_
  refine SCmp.no (neF rfl) ?_
  refine SLoop.mk Unit (fun _ => ([(2, .bptr 0 0), (3, .bptr 1 0), (5, .p (.int .i64 0))], [.box 33 [.p (.sl false 1 []), .p (.sl false 1 []), .p (.sl false 1 []), .p (.bool false), .p (.sl false 1 []), .p (.sl false 1 [])], .box 37 [.p (.sl false 1 []), .p (.sl false 1 []), .p (.sl false 1 []), .p (.bool false), .p (.sl false 1 []), .p (.sl false 1 [])]]))
    (fun _ => True) (fun _ => 0) () [0, 1] trivial ⟨rfl, by simp, rfl, rfl, rfl, ⟨rfl, rfl, rfl, trivial⟩, ⟨rfl, rfl, trivial⟩⟩ ?_
  intro _ _
  refine SZ.mk 0 rfl ?_
  refine SCmp.no (rfl) ?_
  refine SCall.pure (f1) ?_
  refine SCond.mk (fun _ => ?_) (fun h => by cases h)
  refine SCall.pure (f1) ?_
  refine SCond.mk (fun _ => ?_) (fun h => by cases h)
  refine SCall.pure (rsame0_ok) ?_
  exact SRet.pure (.p _ (.bool _))
theorem gkoFactors_ok (m : Bool) (n : Int) (ns : List Int) (like : Bool) (kind : Int) (hn : I64 n) (hns : I64s ns) (hkind : I64 kind) : CallP Tryz.prog 3 [.int .i64 n, .sl m 1 (intsP ns), .bool like, .int .i64 kind] (.p (.bool true)) [] := by
  obtain ⟨g, hm, H, h5, hk⟩ := gmake_ok m n ns like hn hns
  have n1 := H.n1
  have hB := gkB_wf H h5
  unfold I64 at hkind
  rcases gpiv_cases g.n (ent g) with hp | ⟨K, hK, hp, hz⟩
  · have f1 := kfactor_ok noF g H hk hB (by decide) (by decide) hp
    have f2 := rfactor13_ok noF g H hk (pers_part _ _) (rapartG_ok false false g.n (ent g) n1 (by omega) hB (by decide) (by decide) hp) ⟨_, rfl, rfl⟩
    have f3 := same13_ok g.n (ent g) hB (by decide) (by omega) (by decide)
    refine callG_of_vc (wr := wr0) Γok mixed Tryz.func3 (by kernel_rfl) rfl (by kernel_rfl) (le_of_ble rfl) (by simp) ?_
    refine SCall.pure (known13_ok) ?_
    refine SCmp.no (rfl) ?_
    refine SCall.pure (hm) ?_
    refine SCall.pureT (f1) (fun _ => rfl) ?_
    refine SCall.pureT (f2) (fun _ => rfl) ?_
    refine SCall.pure (within13_ok kind 5 (by omega) (by omega)) ?_
    obtain ⟨j, hj, hj5⟩ : ∃ j : Nat, kind % 5 = (j : Int) ∧ j < 5 := ⟨(kind % 5).toNat, by omega, by omega⟩
    refine SPos.mk j hj hj5 ?_
    match j, hj5 with
    | 0, _ =>
      refine SIdx.mk 0 (.int .i64 0) rfl rfl ?_
      refine SCall.pure (lmake5_ok m 0 n 3 ns (by unfold I64; omega) hn hns (by omega) (by omega)) ?_
      refine SCall.pureT (kfactorK_ok noF (mkG (gmK 0) (gmN n 3) (gmR (gmK 0) n) (rowG ns)) (by show gmK 0 ≠ 5; decide) (by show gmK 0 ≠ 7; decide)) (fun _ => rfl) ?_
      refine SCmp.yes (eqT rfl) ?_
      refine SCall.pure (f3) ?_
      refine SCond.mk (fun _ => ?_) (fun h => by cases h)
      refine SCmp.yes (eqT rfl) ?_
      exact SRet.pure (.tf _)
    | 1, _ =>
      refine SIdx.mk 1 (.int .i64 1) rfl rfl ?_
      refine SCall.pure (lmake5_ok m 1 n 3 ns (by unfold I64; omega) hn hns (by omega) (by omega)) ?_
      refine SCall.pureT (kfactorK_ok noF (mkG (gmK 1) (gmN n 3) (gmR (gmK 1) n) (rowG ns)) (by show gmK 1 ≠ 5; decide) (by show gmK 1 ≠ 7; decide)) (fun _ => rfl) ?_
      refine SCmp.yes (eqT rfl) ?_
      refine SCall.pure (f3) ?_
      refine SCond.mk (fun _ => ?_) (fun h => by cases h)
      refine SCmp.yes (eqT rfl) ?_
      exact SRet.pure (.tf _)
    | 2, _ =>
      refine SIdx.mk 2 (.int .i64 2) rfl rfl ?_
      refine SCall.pure (lmake5_ok m 2 n 3 ns (by unfold I64; omega) hn hns (by omega) (by omega)) ?_
      refine SCall.pureT (kfactorK_ok noF (mkG (gmK 2) (gmN n 3) (gmR (gmK 2) n) (rowG ns)) (by show gmK 2 ≠ 5; decide) (by show gmK 2 ≠ 7; decide)) (fun _ => rfl) ?_
      refine SCmp.yes (eqT rfl) ?_
      refine SCall.pure (f3) ?_
      refine SCond.mk (fun _ => ?_) (fun h => by cases h)
      refine SCmp.yes (eqT rfl) ?_
      exact SRet.pure (.tf _)
    | 3, _ =>
      refine SIdx.mk 3 (.int .i64 3) rfl rfl ?_
      refine SCall.pure (lmake5_ok m 3 n 3 ns (by unfold I64; omega) hn hns (by omega) (by omega)) ?_
      refine SCall.pureT (kfactorK_ok noF (mkG (gmK 3) (gmN n 3) (gmR (gmK 3) n) (rowG ns)) (by show gmK 3 ≠ 5; decide) (by show gmK 3 ≠ 7; decide)) (fun _ => rfl) ?_
      refine SCmp.yes (eqT rfl) ?_
      refine SCall.pure (f3) ?_
      refine SCond.mk (fun _ => ?_) (fun h => by cases h)
      refine SCmp.yes (eqT rfl) ?_
      exact SRet.pure (.tf _)
    | 4, _ =>
      refine SIdx.mk 4 (.int .i64 5) rfl rfl ?_
      refine SCall.pure (lmake5_ok m 5 n 3 ns (by unfold I64; omega) hn hns (by omega) (by omega)) ?_
      refine SCall.pureT (kfactorK_ok noF (mkG (gmK 5) (gmN n 3) (gmR (gmK 5) n) (rowG ns)) (by show gmK 5 ≠ 5; decide) (by show gmK 5 ≠ 7; decide)) (fun _ => rfl) ?_
      refine SCmp.yes (eqT rfl) ?_
      refine SCall.pure (f3) ?_
      refine SCond.mk (fun _ => ?_) (fun h => by cases h)
      refine SCmp.yes (eqT rfl) ?_
      exact SRet.pure (.tf _)
  · have f1 := kfactorZ_ok noF g H hk hB (by decide) (by decide) hK hp hz
    have f2 := rfactor13_ok noF g H hk pers_part0' (rapartGZ_ok false false g.n K (ent g) n1 (by omega) hB (by decide) (by decide) hK hp hz) ⟨_, rfl, rfl⟩
    have f3 := same130_ok
    refine callG_of_vc (wr := wr0) Γok mixed Tryz.func3 (by kernel_rfl) rfl (by kernel_rfl) (le_of_ble rfl) (by simp) ?_
    refine SCall.pure (known13_ok) ?_
    refine SCmp.no (rfl) ?_
    refine SCall.pure (hm) ?_
    refine SCall.pureT (f1) (fun _ => rfl) ?_
    refine SCall.pureT (f2) (fun _ => rfl) ?_
    refine SCall.pure (within13_ok kind 5 (by omega) (by omega)) ?_
    obtain ⟨j, hj, hj5⟩ : ∃ j : Nat, kind % 5 = (j : Int) ∧ j < 5 := ⟨(kind % 5).toNat, by omega, by omega⟩
    refine SPos.mk j hj hj5 ?_
    match j, hj5 with
    | 0, _ =>
      refine SIdx.mk 0 (.int .i64 0) rfl rfl ?_
      refine SCall.pure (lmake5_ok m 0 n 3 ns (by unfold I64; omega) hn hns (by omega) (by omega)) ?_
      refine SCall.pureT (kfactorK_ok noF (mkG (gmK 0) (gmN n 3) (gmR (gmK 0) n) (rowG ns)) (by show gmK 0 ≠ 5; decide) (by show gmK 0 ≠ 7; decide)) (fun _ => rfl) ?_
      refine SCmp.yes (eqT rfl) ?_
      refine SCall.pure (f3) ?_
      refine SCond.mk (fun _ => ?_) (fun h => by cases h)
      refine SCmp.yes (eqT rfl) ?_
      exact SRet.pure (.tf _)
    | 1, _ =>
      refine SIdx.mk 1 (.int .i64 1) rfl rfl ?_
      refine SCall.pure (lmake5_ok m 1 n 3 ns (by unfold I64; omega) hn hns (by omega) (by omega)) ?_
      refine SCall.pureT (kfactorK_ok noF (mkG (gmK 1) (gmN n 3) (gmR (gmK 1) n) (rowG ns)) (by show gmK 1 ≠ 5; decide) (by show gmK 1 ≠ 7; decide)) (fun _ => rfl) ?_
      refine SCmp.yes (eqT rfl) ?_
      refine SCall.pure (f3) ?_
      refine SCond.mk (fun _ => ?_) (fun h => by cases h)
      refine SCmp.yes (eqT rfl) ?_
      exact SRet.pure (.tf _)
    | 2, _ =>
      refine SIdx.mk 2 (.int .i64 2) rfl rfl ?_
      refine SCall.pure (lmake5_ok m 2 n 3 ns (by unfold I64; omega) hn hns (by omega) (by omega)) ?_
      refine SCall.pureT (kfactorK_ok noF (mkG (gmK 2) (gmN n 3) (gmR (gmK 2) n) (rowG ns)) (by show gmK 2 ≠ 5; decide) (by show gmK 2 ≠ 7; decide)) (fun _ => rfl) ?_
      refine SCmp.yes (eqT rfl) ?_
      refine SCall.pure (f3) ?_
      refine SCond.mk (fun _ => ?_) (fun h => by cases h)
      refine SCmp.yes (eqT rfl) ?_
      exact SRet.pure (.tf _)
    | 3, _ =>
      refine SIdx.mk 3 (.int .i64 3) rfl rfl ?_
      refine SCall.pure (lmake5_ok m 3 n 3 ns (by unfold I64; omega) hn hns (by omega) (by omega)) ?_
      refine SCall.pureT (kfactorK_ok noF (mkG (gmK 3) (gmN n 3) (gmR (gmK 3) n) (rowG ns)) (by show gmK 3 ≠ 5; decide) (by show gmK 3 ≠ 7; decide)) (fun _ => rfl) ?_
      refine SCmp.yes (eqT rfl) ?_
      refine SCall.pure (f3) ?_
      refine SCond.mk (fun _ => ?_) (fun h => by cases h)
      refine SCmp.yes (eqT rfl) ?_
      exact SRet.pure (.tf _)
    | 4, _ =>
      refine SIdx.mk 4 (.int .i64 5) rfl rfl ?_
      refine SCall.pure (lmake5_ok m 5 n 3 ns (by unfold I64; omega) hn hns (by omega) (by omega)) ?_
      refine SCall.pureT (kfactorK_ok noF (mkG (gmK 5) (gmN n 3) (gmR (gmK 5) n) (rowG ns)) (by show gmK 5 ≠ 5; decide) (by show gmK 5 ≠ 7; decide)) (fun _ => rfl) ?_
      refine SCmp.yes (eqT rfl) ?_
      refine SCall.pure (f3) ?_
      refine SCond.mk (fun _ => ?_) (fun h => by cases h)
      refine SCmp.yes (eqT rfl) ?_
      exact SRet.pure (.tf _)
end Go.Proofs.YtjfcphohgicolaaGreat

namespace Go.Proofs.YtjfcphohgicolaaGreat
open Go Go.ChangeShapes Go.WideShapes Go.ChangeAt Go.RowKit Go.WideElems
set_option linter.unusedVariables false
set_option linter.unusedSimpArgs false
theorem Tryz.own : ownKnob Tryz.prog.godebug = none := by kernel_rfl
theorem Tryz.laidOut : laidOutB Tryz.prog = true := by kernel_rfl
theorem Tryz.cells3 : Tryz.prog.cellsOf 3 = 1 := by kernel_rfl
abbrev oldF (W : World) : Nat → Prop := fun b => b < W.heap.size
theorem law_call {P : Program} {f : FuncId} {pvs : List PV} (hc : CallP P f pvs (.p (.bool true)) []) {W : World} {vs : List Value} (hl : vs.length = pvs.length) (hv : ∀ (i : Nat) p v, pvs[i]? = some p → vs[i]? = some v → PR W (FBof noBor (oldF W)) p v) :
    Calls P f vs.toArray W fun e W' => e = .returned (.bool true) ∧ Below W.heap.size W W' := by
  refine (hc.run W (oldF W) noBor (fun _ => (none, 0)) vs ⟨by simp [hl], fun i a v e1 e2 => ?_, fun h => by rw [look_nil]; trivial, fun b h => h, fun b h => h.elim, fun h b hl => ?_, fun h h' b hl => ?_, fun a ha k hk => ?_, fun h k hk => ?_⟩).mono ?_
  · rw [List.getElem?_map] at e1
    cases hp : pvs[i]? with
    | none => rw [hp] at e1; cases e1
    | some p => rw [hp] at e1; cases e1; exact .p (hv i p v hp e2)
  · rw [look_nil] at hl; exact hl.elim
  · rw [look_nil] at hl; exact hl.elim
  · obtain ⟨p, _, rfl⟩ := List.mem_map.1 ha; simp only [AV.men] at hk
  · rw [look_nil] at hk; exact hk.elim
  · intro e W' ⟨v, F', β', he, hr⟩
    subst he
    refine ⟨?_, hr.os, hr.tape, hr.output, hr.size, fun b hb => hr.same b hb fun h hl => ?_⟩
    · have := hr.rel
      cases this with | p h => cases h; rfl
    · rw [look_nil] at hl; exact hl.elim
section
variable {H : Type} {enc : TypeId × Value → H} {P : Program} {W : World} {base : Nat} {sp : Nat → Bool} {held : Bool}
theorem openInt {t : TypeId} {r : Go.Reach} {b0 : Nat} {v : Value} {d : DataW H} {ps : List MemPlace} (ht : P.underlying t = some (.int .i64)) (hval : Value.okWide P W r b0 t v) (hd : DataW.Trod enc P W base sp held t v d ps) :
    ∃ n, v = .int .i64 n ∧ I64 n := by
  obtain ⟨n, h1, h2, h3, h4⟩ := open_int ht hval hd
  refine ⟨n, h1, ?_⟩
  simp [Lit.wf, IntKind.min, IntKind.max, IntKind.signed, IntKind.bits] at h4
  exact ⟨by omega, by omega⟩
theorem openInts {t e : TypeId} {r : Go.Reach} {b0 : Nat} {v : Value} {d : DataW H} {ps : List MemPlace} (ht : P.underlying t = some (.slice e)) (he : P.underlying e = some (.int .i64)) (hc : P.cellsOf e = 1) (hval : Value.okWide P W r b0 t v)
    (hd : DataW.Trod enc P W base sp held t v d ps) (hlt : ∀ x ∈ ps, x.block < W.heap.size) : ∃ zs : List Int, I64s zs ∧ PR W (FBof noBor (oldF W)) (.sl false 1 (intsP zs)) v := by
  obtain ⟨a0, len, cap, rfl⟩ := okWide_slice ht hval
  obtain ⟨fuel, hf⟩ := hd
  rcases open_ints ht he hc hf with ⟨hcs, hx⟩ | ⟨a, len', cap', zs, hcs, _, hl, hm, hz, hx, hcell, hwz⟩
  · simp [Value.cells] at hcs
    obtain ⟨rfl, rfl, rfl⟩ := hcs
    exact ⟨[], fun i => by simp [I64], .nil _ _ _⟩
  · simp [Value.cells] at hcs
    obtain ⟨rfl, rfl, rfl⟩ := hcs
    simp only [Prod.mk.injEq] at hx
    obtain ⟨_, rfl⟩ := hx
    have hlen : len ≤ zs.length := by rw [hz]; split <;> omega
    have hspot : a.spot = none := by
      simp only [Value.okWide, ht, Cell.okWide] at hval
      simp [Cell.ok, World.has] at hval
      first | exact hval.1.2.1 | exact hval.2.1 | (have := hval; simp_all)
    obtain ⟨b, off, spot⟩ := a
    simp only at hspot
    subst hspot
    refine ⟨zs.take len, fun i => ?_, ?_⟩
    · by_cases hi : i < (zs.take len).length
      · have hm : (zs.take len).getD i 0 ∈ zs := by
          have : (zs.take len).getD i 0 = (zs.take len)[i] := by simp only [List.getD, List.getElem?_eq_getElem hi, Option.getD_some]
          rw [this]
          exact List.mem_of_mem_take (List.getElem_mem hi)
        have h4 := hwz _ hm
        generalize (zs.take len).getD i 0 = q at h4 ⊢
        simp [Lit.wf, IntKind.min, IntKind.max, IntKind.signed, IntKind.bits] at h4
        exact ⟨by omega, by omega⟩
      · rw [getD_ge _ 0 (by omega)]; simp [I64]
    · have hll : (intsP (zs.take len)).length = len := by simp; omega
      have h := PR.sl (w := W) (FB := FBof noBor (oldF W)) false 1 (intsP (zs.take len)) b off cap (fun i _ => .int .i64 (zs.getD i 0)) (by rw [hll]; exact hl) (fun hne => ?_) (fun e he => ?_) (fun e he c hc => ?_) (fun i e j c e1 e2 => ?_) (fun i e j c e1 e2 => ?_)
      · rw [hll] at h; exact h
      · have hpos : 0 < zs.length := by
          rcases Nat.eq_zero_or_pos zs.length with h0 | h0
          · exact (hne (by rw [List.length_eq_zero_iff.1 h0]; simp)).elim
          · exact h0
        exact hlt (.cell b off) (MemPlace.mem_row.2 ⟨0, hpos, by simp⟩)
      · obtain ⟨z, _, rfl⟩ := List.mem_map.1 he; rfl
      · obtain ⟨z, _, rfl⟩ := List.mem_map.1 he
        have hc : c ∈ [PV.int .i64 z] := hc
        simp at hc; subst hc; rfl
      all_goals
        have hi : i < len := by have := (List.getElem?_eq_some_iff.1 e1).1; rwa [hll] at this
        have he : e = .int .i64 (zs.getD i 0) := by
          rw [List.getElem?_map, List.getElem?_take_of_lt hi, List.getElem?_eq_getElem (show i < zs.length by omega)] at e1
          simp at e1
          simp [List.getD, show i < zs.length by omega, ← e1]
        subst he
        have hj : j = 0 := by
          have := (List.getElem?_eq_some_iff.1 e2).1
          simpa [PV.cells] using this
        subst hj
        first
          | (have := hcell i (by omega)
             rw [show off + i * 1 + 0 = off + i by omega]
             rwa [Addr.add_lit] at this)
          | (have hcv : c = .int .i64 (zs.getD i 0) := by simpa [PV.cells] using e2.symm
             subst hcv
             exact .int _ _)
end
end Go.Proofs.YtjfcphohgicolaaGreat

